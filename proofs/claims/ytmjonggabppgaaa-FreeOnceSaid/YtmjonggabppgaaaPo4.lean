/- The reference's with: an entry put in by its page. -/
import Derived.Test.YtmjonggabppgaaaPo3
set_option linter.unusedSimpArgs false
set_option linter.unusedVariables false
namespace Go.Proofs.Ytmjonggabppgaaa
noncomputable section
open Go.Eng
def eX : SX := .f2 122 (ai 10) (.f2 122 (ai 11) (.f1 152 (.int 0)))
def insX (x l : SX) : SX := .us .rows 7 x l eX (.int 0)
def inX (x l o : SX) : SX := .us .bool 8 x l eX o
def outX (x l o : SX) : SX := .us .bool 9 x l eX o
def lstW (b l c : SX) : Ch := .cel (ai 0) 0 [.slice b (.int 0) (.int 0) (.int 0) l c 2, .slice (ai 6) (.int 0) (.int 0) (.int 0) (ai 7) (ai 8) 2, .int .i64 (ai 9)]
def emptW : Ctr := ⟨[], [], [], [], [], .tup [], [.arr enE (.int (-1)) (.f1 154 (.int 0)) (.int 0)], []⟩
def withCtr : Ctr := ⟨[.int, .int, .int, .int, .rows, .int, .int, .int, .int, .int, .int, .int], [.one (.ptr (ai 0) 0), .agg [.int .i64 (ai 10), .int .i64 (ai 11)]], [lstW (ai 1) (ai 2) (ai 3), .arr enE (ai 1) (rwA 4) (ai 5)],
  [eLe (.int 0) (ai 2), eEq (ai 2) (.f1 32 (rwA 4)), eLe (ai 2) (.int 1048576)], [.int, .int, .rows], .tup [], [lstW (ai 12) (SX.mk2 40 (ai 2) (.int 1)) (ai 13), .arr enE (ai 12) (rwA 14) (ai 13)],
  [eEq (.f1 32 (rwA 14)) (SX.mk2 40 (ai 2) (.int 1)), eqRX (rwA 14) (insX (rwA 4) (ai 2))]⟩
def dIn : SX := .at .bool 1000001
def withInv : Inv := ⟨[.int, .bool, .int, .int, .rows, .int], [(6, .one (.int .i64 (di 0))), (5, .one (.bool dIn)), (4, .one (.slice (di 2) (.int 0) (.int 0) (.int 0) (di 5) (di 3) 2))], [.arr enE (di 2) (rwA 1000004) (di 3)],
  [eLe (.int 0) (di 0), eLe (di 0) (ai 2), eEq (di 5) (.f2 40 (di 0) (.f1 3 dIn)), eEq (.f1 32 (rwA 1000004)) (di 5), eLe (di 5) (di 3), .f3 134 dIn (inX (rwA 4) (di 0) (rwA 1000004)) (outX (rwA 4) (di 0) (rwA 1000004))], .f2 41 (ai 2) (di 0)⟩
def withCx : Cx := { specs := [], anns := [(61, [(4, .inv withInv), (2, .ghost emptW [])])] }
def withVc : VC := .imp (.f2 47 (.int 0) (.at .int 2)) (.imp (.f2 45 (.at .int 2) (.f1 32 (.at .rows 4))) (.imp (.f2 47 (.at .int 2) (.int 1048576)) (.all 12 .int (.imp 
    (.f2 47 (.int 0) (.at .int 12)) (.need (.f3 134 (.bool false) (.us .bool 8 (.at .rows 4) (.int 0) (.f2 122 (.at .int 10) (.f2 122 (.at .int 11) (.f1 
    152 (.int 0)))) (.f1 154 (.int 0))) (.us .bool 9 (.at .rows 4) (.int 0) (.f2 122 (.at .int 10) (.f2 122 (.at .int 11) (.f1 152 (.int 0)))) (.f1 154 
    (.int 0)))) (.all 13 .int (.all 14 .bool (.all 15 .int (.all 16 .int (.all 17 .rows (.all 18 .int (.imp (.f2 47 (.int 0) (.at .int 13)) (.imp (.f2 47 
    (.at .int 13) (.at .int 2)) (.imp (.f2 45 (.at .int 18) (.f2 40 (.at .int 13) (.f1 3 (.at .bool 14)))) (.imp (.f2 45 (.f1 32 (.at .rows 17)) (.at .int 
    18)) (.imp (.f2 47 (.at .int 18) (.at .int 16)) (.imp (.f3 134 (.at .bool 14) (.us .bool 8 (.at .rows 4) (.at .int 13) (.f2 122 (.at .int 10) (.f2 122 
    (.at .int 11) (.f1 152 (.int 0)))) (.at .rows 17)) (.us .bool 9 (.at .rows 4) (.at .int 13) (.f2 122 (.at .int 10) (.f2 122 (.at .int 11) (.f1 152 
    (.int 0)))) (.at .rows 17))) (.and (.imp (.f2 46 (.at .int 13) (.at .int 2)) (.and (.imp (.f1 2 (.at .bool 14)) (.need (.f2 46 (.at .int 13) (.f1 32 
    (.at .rows 4))) (.and (.imp (.f2 46 (.at .int 10) (.f3 112 (.at .rows 4) (.at .int 13) (.int 0))) (.all 19 .int (.imp (.f2 47 (.int 0) (.at .int 19)) 
    (.need (.f2 47 (.int 0) (.at .int 18)) (.need (.f2 47 (.at .int 18) (.f1 32 (.at .rows 17))) (.need (.f2 47 (.f2 42 (.f2 40 (.at .int 18) (.int 1)) 
    (.int 16)) (.int 140737488355328)) (.all 20 .int (.all 21 .int (.imp (.f2 47 (.f2 40 (.at .int 18) (.int 1)) (.at .int 21)) (.imp (.f2 50 (.f2 47 
    (.int 0) (.at .int 20)) (.f2 45 (.f2 40 (.at .int 18) (.int 1)) (.int 0))) (.all 22 .int (.imp (.f2 47 (.int 0) (.at .int 22)) (.need (.f2 47 (.int 0) 
    (.f2 40 (.at .int 18) (.int 1))) (.need (.f2 47 (.f2 40 (.at .int 18) (.int 1)) (.f2 40 (.f1 32 (.f2 115 (.at .rows 17) (.at .int 18))) (.int 1))) 
    (.need (.f2 47 (.f2 42 (.f2 40 (.at .int 18) (.int 2)) (.int 16)) (.int 140737488355328)) (.all 23 .int (.all 24 .int (.imp (.f2 47 (.f2 40 (.at .int 
    18) (.int 2)) (.at .int 24)) (.imp (.f2 50 (.f2 47 (.int 0) (.at .int 23)) (.f2 45 (.f2 40 (.at .int 18) (.int 2)) (.int 0))) (.need (.f1 23 (.f2 40 
    (.at .int 13) (.int 1))) (.need (.f2 47 (.int 0) (.f2 41 (.at .int 2) (.f2 40 (.at .int 13) (.int 1)))) (.need (.f2 46 (.f2 41 (.at .int 2) (.f2 40 
    (.at .int 13) (.int 1))) (.f2 41 (.at .int 2) (.at .int 13))) (.need (.f2 47 (.int 0) (.f2 40 (.at .int 13) (.int 1))) (.need (.f2 47 (.f2 40 (.at 
    .int 13) (.int 1)) (.at .int 2)) (.need (.f2 45 (.f2 40 (.at .int 18) (.int 2)) (.f2 40 (.at .int 13) (.int 2))) (.need (.f2 45 (.f2 40 (.f1 32 (.f2 
    115 (.f2 121 (.f2 115 (.at .rows 17) (.at .int 18)) (.f2 124 (.f2 122 (.at .int 10) (.f2 122 (.at .int 11) (.f1 152 (.int 0)))) (.f1 154 (.int 0)))) 
    (.f2 40 (.at .int 18) (.int 1)))) (.int 1)) (.f2 40 (.at .int 18) (.int 2))) (.need (.f3 134 (.bool true) (.us .bool 8 (.at .rows 4) (.f2 40 (.at .int 
    13) (.int 1)) (.f2 122 (.at .int 10) (.f2 122 (.at .int 11) (.f1 152 (.int 0)))) (.f2 121 (.f2 115 (.f2 121 (.f2 115 (.at .rows 17) (.at .int 18)) 
    (.f2 124 (.f2 122 (.at .int 10) (.f2 122 (.at .int 11) (.f1 152 (.int 0)))) (.f1 154 (.int 0)))) (.f2 40 (.at .int 18) (.int 1))) (.f2 124 (.f2 122 
    (.f3 112 (.at .rows 4) (.at .int 13) (.int 0)) (.f2 122 (.f3 112 (.at .rows 4) (.at .int 13) (.int 1)) (.f1 152 (.int 0)))) (.f1 154 (.int 0))))) (.us 
    .bool 9 (.at .rows 4) (.f2 40 (.at .int 13) (.int 1)) (.f2 122 (.at .int 10) (.f2 122 (.at .int 11) (.f1 152 (.int 0)))) (.f2 121 (.f2 115 (.f2 121 
    (.f2 115 (.at .rows 17) (.at .int 18)) (.f2 124 (.f2 122 (.at .int 10) (.f2 122 (.at .int 11) (.f1 152 (.int 0)))) (.f1 154 (.int 0)))) (.f2 40 (.at 
    .int 18) (.int 1))) (.f2 124 (.f2 122 (.f3 112 (.at .rows 4) (.at .int 13) (.int 0)) (.f2 122 (.f3 112 (.at .rows 4) (.at .int 13) (.int 1)) (.f1 152 
    (.int 0)))) (.f1 154 (.int 0)))))) (.tt)))))))))))))))))))))))))))) (.imp (.f2 47 (.f3 112 (.at .rows 4) (.at .int 13) (.int 0)) (.at .int 10)) (.all 
    19 .int (.imp (.f2 47 (.int 0) (.at .int 19)) (.need (.f2 47 (.int 0) (.at .int 18)) (.need (.f2 47 (.at .int 18) (.f1 32 (.at .rows 17))) (.need (.f2 
    47 (.f2 42 (.f2 40 (.at .int 18) (.int 1)) (.int 16)) (.int 140737488355328)) (.all 20 .int (.all 21 .int (.imp (.f2 47 (.f2 40 (.at .int 18) (.int 
    1)) (.at .int 21)) (.imp (.f2 50 (.f2 47 (.int 0) (.at .int 20)) (.f2 45 (.f2 40 (.at .int 18) (.int 1)) (.int 0))) (.need (.f1 23 (.f2 40 (.at .int 
    13) (.int 1))) (.need (.f2 47 (.int 0) (.f2 41 (.at .int 2) (.f2 40 (.at .int 13) (.int 1)))) (.need (.f2 46 (.f2 41 (.at .int 2) (.f2 40 (.at .int 
    13) (.int 1))) (.f2 41 (.at .int 2) (.at .int 13))) (.need (.f2 47 (.int 0) (.f2 40 (.at .int 13) (.int 1))) (.need (.f2 47 (.f2 40 (.at .int 13) 
    (.int 1)) (.at .int 2)) (.need (.f2 45 (.f2 40 (.at .int 18) (.int 1)) (.f2 40 (.f2 40 (.at .int 13) (.f1 3 (.at .bool 14))) (.int 1))) (.need (.f2 45 
    (.f2 40 (.f1 32 (.f2 115 (.at .rows 17) (.at .int 18))) (.int 1)) (.f2 40 (.at .int 18) (.int 1))) (.need (.f3 134 (.at .bool 14) (.us .bool 8 (.at 
    .rows 4) (.f2 40 (.at .int 13) (.int 1)) (.f2 122 (.at .int 10) (.f2 122 (.at .int 11) (.f1 152 (.int 0)))) (.f2 121 (.f2 115 (.at .rows 17) (.at .int 
    18)) (.f2 124 (.f2 122 (.f3 112 (.at .rows 4) (.at .int 13) (.int 0)) (.f2 122 (.f3 112 (.at .rows 4) (.at .int 13) (.int 1)) (.f1 152 (.int 0)))) 
    (.f1 154 (.int 0))))) (.us .bool 9 (.at .rows 4) (.f2 40 (.at .int 13) (.int 1)) (.f2 122 (.at .int 10) (.f2 122 (.at .int 11) (.f1 152 (.int 0)))) 
    (.f2 121 (.f2 115 (.at .rows 17) (.at .int 18)) (.f2 124 (.f2 122 (.f3 112 (.at .rows 4) (.at .int 13) (.int 0)) (.f2 122 (.f3 112 (.at .rows 4) (.at 
    .int 13) (.int 1)) (.f1 152 (.int 0)))) (.f1 154 (.int 0)))))) (.tt)))))))))))))))))))))) (.imp (.f1 2 (.f1 2 (.at .bool 14))) (.need (.f2 46 (.at 
    .int 13) (.f1 32 (.at .rows 4))) (.all 19 .int (.imp (.f2 47 (.int 0) (.at .int 19)) (.need (.f2 47 (.int 0) (.at .int 18)) (.need (.f2 47 (.at .int 
    18) (.f1 32 (.at .rows 17))) (.need (.f2 47 (.f2 42 (.f2 40 (.at .int 18) (.int 1)) (.int 16)) (.int 140737488355328)) (.all 20 .int (.all 21 .int 
    (.imp (.f2 47 (.f2 40 (.at .int 18) (.int 1)) (.at .int 21)) (.imp (.f2 50 (.f2 47 (.int 0) (.at .int 20)) (.f2 45 (.f2 40 (.at .int 18) (.int 1)) 
    (.int 0))) (.need (.f1 23 (.f2 40 (.at .int 13) (.int 1))) (.need (.f2 47 (.int 0) (.f2 41 (.at .int 2) (.f2 40 (.at .int 13) (.int 1)))) (.need (.f2 
    46 (.f2 41 (.at .int 2) (.f2 40 (.at .int 13) (.int 1))) (.f2 41 (.at .int 2) (.at .int 13))) (.need (.f2 47 (.int 0) (.f2 40 (.at .int 13) (.int 1))) 
    (.need (.f2 47 (.f2 40 (.at .int 13) (.int 1)) (.at .int 2)) (.need (.f2 45 (.f2 40 (.at .int 18) (.int 1)) (.f2 40 (.f2 40 (.at .int 13) (.f1 3 (.at 
    .bool 14))) (.int 1))) (.need (.f2 45 (.f2 40 (.f1 32 (.f2 115 (.at .rows 17) (.at .int 18))) (.int 1)) (.f2 40 (.at .int 18) (.int 1))) (.need (.f3 
    134 (.at .bool 14) (.us .bool 8 (.at .rows 4) (.f2 40 (.at .int 13) (.int 1)) (.f2 122 (.at .int 10) (.f2 122 (.at .int 11) (.f1 152 (.int 0)))) (.f2 
    121 (.f2 115 (.at .rows 17) (.at .int 18)) (.f2 124 (.f2 122 (.f3 112 (.at .rows 4) (.at .int 13) (.int 0)) (.f2 122 (.f3 112 (.at .rows 4) (.at .int 
    13) (.int 1)) (.f1 152 (.int 0)))) (.f1 154 (.int 0))))) (.us .bool 9 (.at .rows 4) (.f2 40 (.at .int 13) (.int 1)) (.f2 122 (.at .int 10) (.f2 122 
    (.at .int 11) (.f1 152 (.int 0)))) (.f2 121 (.f2 115 (.at .rows 17) (.at .int 18)) (.f2 124 (.f2 122 (.f3 112 (.at .rows 4) (.at .int 13) (.int 0)) 
    (.f2 122 (.f3 112 (.at .rows 4) (.at .int 13) (.int 1)) (.f1 152 (.int 0)))) (.f1 154 (.int 0)))))) (.tt)))))))))))))))))))))) (.imp (.f2 47 (.at .int 
    2) (.at .int 13)) (.and (.imp (.f1 2 (.at .bool 14)) (.all 19 .int (.imp (.f2 47 (.int 0) (.at .int 19)) (.need (.f2 47 (.int 0) (.at .int 18)) (.need 
    (.f2 47 (.at .int 18) (.f1 32 (.at .rows 17))) (.need (.f2 47 (.f2 42 (.f2 40 (.at .int 18) (.int 1)) (.int 16)) (.int 140737488355328)) (.all 20 .int 
    (.all 21 .int (.imp (.f2 47 (.f2 40 (.at .int 18) (.int 1)) (.at .int 21)) (.imp (.f2 50 (.f2 47 (.int 0) (.at .int 20)) (.f2 45 (.f2 40 (.at .int 18) 
    (.int 1)) (.int 0))) (.need (.f2 45 (.f2 40 (.f1 32 (.f2 115 (.at .rows 17) (.at .int 18))) (.int 1)) (.f2 40 (.at .int 2) (.int 1))) (.need (.us 
    .bool 5 (.f2 121 (.f2 115 (.at .rows 17) (.at .int 18)) (.f2 124 (.f2 122 (.at .int 10) (.f2 122 (.at .int 11) (.f1 152 (.int 0)))) (.f1 154 (.int 
    0)))) (.us .rows 7 (.at .rows 4) (.at .int 2) (.f2 122 (.at .int 10) (.f2 122 (.at .int 11) (.f1 152 (.int 0)))) (.int 0)) (.int 0) (.int 0)) (.need 
    (.f2 45 (.f2 40 (.at .int 2) (.int 1)) (.f2 40 (.at .int 18) (.int 1))) (.tt)))))))))))))) (.imp (.f1 2 (.f1 2 (.at .bool 14))) (.need (.f2 45 (.f1 32 
    (.at .rows 17)) (.f2 40 (.at .int 2) (.int 1))) (.need (.us .bool 5 (.at .rows 17) (.us .rows 7 (.at .rows 4) (.at .int 2) (.f2 122 (.at .int 10) (.f2 
    122 (.at .int 11) (.f1 152 (.int 0)))) (.int 0)) (.int 0) (.int 0)) (.need (.f2 45 (.f2 40 (.at .int 2) (.int 1)) (.at .int 18)) 
    (.tt)))))))))))))))))))))))))
theorem with_vc : vcOf Try.prog withCx 10 61 withCtr = withVc := by kernel_rfl
theorem insRow_le (e : List Int) : ∀ (xs ys : List (List Int)), (∀ r ∈ xs, pageOf r ≤ pageOf e) → insRow e (xs ++ ys) = xs ++ insRow e ys
  | [], ys, _ => rfl
  | r :: xs, ys, h => by
    have := h r List.mem_cons_self
    simp only [List.cons_append, insRow]
    rw [if_neg (by omega), insRow_le e xs ys fun r hr => h r (List.mem_cons_of_mem _ hr)]
theorem insRow_in (e : List Int) : ∀ (xs ys : List (List Int)), (∃ r ∈ xs, pageOf e < pageOf r) → insRow e (xs ++ ys) = insRow e xs ++ ys
  | [], ys, h => by obtain ⟨r, hr, _⟩ := h; cases hr
  | r :: xs, ys, h => by
    simp only [List.cons_append, insRow]
    by_cases hp : pageOf e < pageOf r
    · rw [if_pos hp, if_pos hp]; rfl
    · rw [if_neg hp, if_neg hp]
      obtain ⟨q, hq, h2⟩ := h
      rcases List.mem_cons.1 hq with rfl | hq
      · exact absurd h2 hp
      · rw [insRow_in e xs ys ⟨q, hq, h2⟩]; rfl
theorem nrm_step (R : List (List Int)) (x : Int) (h0 : 0 ≤ x) (hl : x < R.length) : nrm R (x + 1) = nrm R x ++ [[(R.getD x.toNat []).getD 0 0, (R.getD x.toNat []).getD 1 0]] := by
  unfold nrm
  rw [show (x + 1).toNat = x.toNat + 1 by omega, take_rows R _ (by omega), List.map_append]; rfl
theorem nrm_len (R : List (List Int)) (x : Int) (h0 : 0 ≤ x) (hl : x ≤ R.length) : ((nrm R x).length : Int) = x := by
  unfold nrm; rw [List.length_map, List.length_take]; omega
theorem insRow_len (e : List Int) : ∀ xs : List (List Int), (insRow e xs).length = xs.length + 1
  | [] => rfl
  | r :: xs => by simp only [insRow]; split <;> simp [insRow_len e xs]
theorem inB_iff {R : List (List Int)} {n : Int} {e : List Int} {o : List (List Int)} : inB R n e o = true ↔ o = insRow e (nrm R n) ∧ ∃ r ∈ nrm R n, pageOf e < pageOf r := by
  unfold inB; simp
theorem outB_iff {R : List (List Int)} {n : Int} {e : List Int} {o : List (List Int)} : outB R n e o = true ↔ o = nrm R n ∧ ∀ r ∈ nrm R n, pageOf r ≤ pageOf e := by
  unfold outB; simp
theorem w1 {R : List (List Int)} {e : List Int} {O : List (List Int)} {k : Int} (h0 : 0 ≤ k) (hl : k < R.length) (ho : outB R k e O = true) (hp : pageOf e < (R.getD k.toNat []).getD 0 0) :
    inB R (k + 1) e ((O ++ [e]) ++ [[(R.getD k.toNat []).getD 0 0, (R.getD k.toNat []).getD 1 0]]) = true := by
  obtain ⟨e1, e2⟩ := outB_iff.1 ho
  rw [inB_iff, nrm_step R k h0 hl, insRow_le e _ _ e2, e1]
  refine ⟨?_, _, List.mem_append.2 (.inr List.mem_cons_self), hp⟩
  simp only [insRow]
  rw [if_pos (show pageOf e < pageOf [(R.getD k.toNat []).getD 0 0, (R.getD k.toNat []).getD 1 0] from hp)]
  simp
theorem w2 {R : List (List Int)} {e : List Int} {O : List (List Int)} {k : Int} (h0 : 0 ≤ k) (hl : k < R.length) (ho : outB R k e O = true) (hp : (R.getD k.toNat []).getD 0 0 ≤ pageOf e) :
    outB R (k + 1) e (O ++ [[(R.getD k.toNat []).getD 0 0, (R.getD k.toNat []).getD 1 0]]) = true := by
  obtain ⟨e1, e2⟩ := outB_iff.1 ho
  rw [outB_iff, nrm_step R k h0 hl, e1]
  refine ⟨rfl, fun r hr => ?_⟩
  rcases List.mem_append.1 hr with hr | hr
  · exact e2 r hr
  · rw [List.mem_singleton] at hr; subst hr; exact hp
theorem w3 {R : List (List Int)} {e : List Int} {O : List (List Int)} {k : Int} (h0 : 0 ≤ k) (hl : k < R.length) (hi : inB R k e O = true) :
    inB R (k + 1) e (O ++ [[(R.getD k.toNat []).getD 0 0, (R.getD k.toNat []).getD 1 0]]) = true := by
  obtain ⟨e1, e2⟩ := inB_iff.1 hi
  rw [inB_iff, nrm_step R k h0 hl, insRow_in e _ _ e2, e1]
  obtain ⟨r, hr, h⟩ := e2
  exact ⟨rfl, r, List.mem_append.2 (.inl hr), h⟩
theorem w4 {R : List (List Int)} {e : List Int} {O : List (List Int)} {k : Int} (ho : outB R k e O = true) : O ++ [e] = insRow e (nrm R k) := by
  obtain ⟨e1, e2⟩ := outB_iff.1 ho
  have := insRow_le e (nrm R k) [] e2
  rw [List.append_nil] at this
  rw [this, e1]; rfl
theorem cond_f {G : Type} (a b c : U G) : (ap3 134 a b c).toProp = (if a.toBool = true then b.toBool = true else c.toBool = true) := by
  rw [ap3_134, U.toProp_bool]; cases a.toBool <;> rfl
theorem with_ok {G : Type} (S : Sig G) (hS : FreeSig S) (hE : GhOk S emptW) : CtrOk S Try.prog 61 withCtr := by
  refine vcOf_sound S (C := withCx) (fuel := 10) ⟨fun f sps h => by simp [withCx, assoc] at h, fun f l h i sp args hm => ?_, fun f sps h => by simp [withCx, assoc] at h⟩ fun ρ => ?_
  · simp only [withCx, assoc] at h
    cases hb : Nat.beq 61 f
    · rw [hb] at h; cases h
    · rw [hb] at h; cases h
      simp at hm
      obtain ⟨rfl, rfl, rfl⟩ := hm
      exact ⟨by decide, hE⟩
  · rw [with_vc]
    obtain ⟨_, _, _, _, _, h5, _, h7, h8, h9⟩ := hS
    simp only [withVc, VC.den, SX.den, U.co, Env.upd, h5, h7, h8, h9, cond_f, p23, p45, p46, p47, p2_46, p50, b45, b47, ap1_2, ap1_3, ap1_32, ap1_152, ap1_154, ap2_40, ap2_41, ap2_42, ap2_115, ap2_121, ap2_122, ap2_124, ap3_112, U.toProp_bool, U.toBool_bool, Bool.not_eq_true', beq_eq_false_iff_ne, ne_eq, beq_iff_eq, i64_min', i64_max', Int.toNat_zero, U.toInt_int, U.toInts_ints, U.toBytes_bytes, U.toRows_rows, if_true, if_false, Nat.reduceEqDiff, reduceIte]
    generalize (ρ 4).toRows = R
    generalize (ρ 2).toInt = m
    generalize (ρ 10).toInt = pg0
    generalize (ρ 11).toInt = tx
    intro a1 a2 a3 p ap
    refine ⟨by simp [outB, nrm], fun k b base c O ln k0 k1 k2 k3 k4 k5 => ?_⟩
    have hO : O.take ln.toNat = O := List.take_of_length_le (by omega)
    have t1 : Int.toNat 1 = 1 := rfl
    rw [hO, t1]
    have hO2 : (O ++ [[pg0, tx]]).take (ln + 1).toNat = O ++ [[pg0, tx]] := List.take_of_length_le (by rw [List.length_append, List.length_singleton]; omega)
    rw [hO2]
    have hlen : ((O ++ [[pg0, tx]]).length : Int) = ln + 1 := by rw [List.length_append, List.length_singleton]; omega
    cases b
    · simp only [Bool.false_eq_true, if_false, reduceIte, Bool.not_false, Bool.true_eq_false, false_implies, and_true, true_implies, forall_const, Int.add_zero] at k2 k5 ⊢
      refine ⟨fun hk => ⟨by omega, fun hp t ht => ⟨by omega, by omega, by omega, fun u v hu hv t2 ht2 => ⟨by omega, by omega, by omega, fun u2 v2 hu2 hv2 => ⟨⟨by omega, by omega⟩, by omega, by omega, by omega, by omega, by omega, by omega, w1 k0 (by omega) k5 hp⟩⟩⟩,
        fun hp t ht => ⟨by omega, by omega, by omega, fun u v hu hv => ⟨⟨by omega, by omega⟩, by omega, by omega, by omega, by omega, by omega, by omega, w2 k0 (by omega) k5 hp⟩⟩⟩,
        fun hk t ht => ⟨by omega, by omega, by omega, fun u v hu hv => ⟨by omega, ?_, by omega⟩⟩⟩
      have : k = m := by omega
      rw [← this]; exact w4 k5
    · simp only [if_true, reduceIte, Bool.not_true, Bool.true_eq_false, false_implies, true_and, true_implies, and_true, forall_const] at k2 k5 ⊢
      refine ⟨fun hk => ⟨by omega, fun t ht => ⟨by omega, by omega, by omega, fun u v hu hv => ⟨⟨by omega, by omega⟩, by omega, by omega, by omega, by omega, by omega, by omega, w3 k0 (by omega) k5⟩⟩⟩, fun hk => ⟨by omega, ?_, by omega⟩⟩
      have : k = m := by omega
      rw [← this]; exact (inB_iff.1 k5).1
end
end Go.Proofs.Ytmjonggabppgaaa

/- The contracts of both News, so far. -/

/- What is told of a list: the pages of some of its entries. -/
set_option linter.unusedSimpArgs false
set_option linter.unusedVariables false
namespace Go.Proofs.Ytmjonggabppgaaa
noncomputable section
open Go.Eng
def selB (p : List Int → Bool) (R : List (List Int)) (n : Int) : List Int := ((R.take n.toNat).filter p).map pageOf
def isFree (r : List Int) : Bool := r.getD 1 0 == 0
def isWait (r : List Int) : Bool := decide (0 < r.getD 1 0)
def isAny (r : List Int) : Bool := decide (0 ≤ r.getD 1 0)
def PickSig {G : Type} (S : Sig G) : Prop := (∀ a b c d, S.usr 10 a b c d = .ints (selB isFree a.toRows b.toInt)) ∧ (∀ a b c d, S.usr 11 a b c d = .ints (selB isWait a.toRows b.toInt)) ∧
  (∀ a b c d, S.usr 12 a b c d = .ints (selB (fun _ => true) a.toRows b.toInt)) ∧ (∀ a b c d, S.usr 13 a b c d = .ints (selB isAny a.toRows b.toInt))
def selX (k : Nat) (x n : SX) : SX := .us .ints k x n (.int 0) (.int 0)
theorem toNat_one' : Int.toNat 1 = 1 := rfl
theorem selB_zero (p : List Int → Bool) (R : List (List Int)) : selB p R 0 = [] := by simp [selB]
theorem selB_step (p : List Int → Bool) {R : List (List Int)} {k : Int} (h0 : 0 ≤ k) (hk : k < R.length) : selB p R (k + 1) = selB p R k ++ if p (R.getD k.toNat []) then [pg R k.toNat] else [] := by
  unfold selB
  rw [show (k + 1).toNat = k.toNat + 1 by omega, take_rows R _ (by omega), List.filter_append, List.map_append]
  congr 1
  rw [List.filter_cons, List.filter_nil]
  split <;> rfl
theorem selB_yes {p : List Int → Bool} {R : List (List Int)} {k l : Int} {L : List Int} (h0 : 0 ≤ k) (hk : k < R.length) (hL : L = selB p R k) (hl : (L.length : Int) = l) (hp : p (R.getD k.toNat []) = true) :
    L.take l.toNat ++ [pg R k.toNat] = selB p R (k + 1) := by
  rw [selB_step p h0 hk, if_pos hp, ← hL, List.take_of_length_le (by omega)]
theorem selB_no {p : List Int → Bool} {R : List (List Int)} {k : Int} {L : List Int} (h0 : 0 ≤ k) (hk : k < R.length) (hL : L = selB p R k) (hp : p (R.getD k.toNat []) = false) : L = selB p R (k + 1) := by
  rw [selB_step p h0 hk, hp, ← hL]; simp
/-- No numbers, as a list that is not held yet. -/
def emptI : Ctr := ⟨[], [], [], [], [], .tup [], [.arr (.ints .i64) (.int (-1)) (.f1 152 (.int 0)) (.int 0)], []⟩
theorem emptI_gh {G : Type} (S : Sig G) : GhOk S emptI := by
  intro ch w0 F ρ w _ hs
  refine ⟨ρ, Ext.refl _ _, ?_, by simp [emptI]⟩
  simp only [emptI, hpDen_cons, star_assoc, Ch.den]
  have hn : ∀ ρ, hpDen (S.wc ch) ρ w0 [] = emp := fun _ => rfl
  have e : arrDen (S.wc ch) (.ints .i64) ((SX.int (-1)).den (S.wc ch) ρ) ((SX.f1 152 (.int 0)).den (S.wc ch) ρ) ((SX.int 0).den (S.wc ch) ρ) Hl.none := by
    refine ⟨[], ?_, ?_, ?_, ?_⟩
    · simp [En.vals, SX.den, ap1, En.stride]
    · simp [SX.den]
    · simp [SX.den]
    · simp [En.vals, SX.den, ap1, row, rowH_nil]
  obtain ⟨x, ⟨a, b, d, rfl, ha, hb⟩, hi⟩ := hs
  refine ⟨_, ⟨Hl.none, Hl.un a b, fun i j => .inl rfl, ?_, e, ⟨a, b, d, rfl, ha, hb⟩⟩, hi⟩
  funext i j; unfold Hl.un Hl.none; rfl
end
end Go.Proofs.Ytmjonggabppgaaa

/- The pages that are free. -/
set_option linter.unusedSimpArgs false
set_option linter.unusedVariables false
namespace Go.Proofs.Ytmjonggabppgaaa
noncomputable section
open Go.Eng
def pickFCtr : Ctr := ⟨[.int, .rows, .int, .int, .int], [.one (.slice (ai 0) (.int 0) (.int 0) (.int 0) (ai 2) (ai 3) 2), .one (.fn 63), .one (.fn 64)], [.arr enE (ai 0) (rwA 1) (ai 4)],
  [eLe (.int 0) (ai 2), eLe (ai 2) (.f1 32 (rwA 1)), eLe (ai 2) (.int 1048576)], [.int, .int, .int, .ints],
  .one (.slice (ai 5) (.int 0) (.int 0) (.int 0) (ai 6) (ai 7) 1), [.arr enE (ai 0) (rwA 1) (ai 4), .arr (.ints .i64) (ai 5) (xsA 8) (ai 7)],
  [eEq (.f1 30 (xsA 8)) (ai 6), eLe (.int 0) (ai 6), eLe (ai 6) (ai 2), .f2 153 (xsA 8) (selX 10 (rwA 1) (ai 2))]⟩
def pickFInv : Inv := ⟨[.int, .int, .int, .int, .ints], [(12, .one (.int .i64 (di 0))), (7, .one (.slice (di 1) (.int 0) (.int 0) (.int 0) (di 2) (di 3) 1))], [.arr (.ints .i64) (di 1) (xsA 1000004) (di 3)],
  [eLe (.int 0) (di 0), eLe (di 0) (ai 2), eEq (.f1 30 (xsA 1000004)) (di 2), eLe (.int 0) (di 2), eLe (di 2) (di 0), .f2 153 (xsA 1000004) (selX 10 (rwA 1) (di 0))], .f2 41 (ai 2) (di 0)⟩
def pickFCx : Cx := { specs := [], anns := [(62, [(3, .inv pickFInv), (2, .ghost emptI [])])] }
def pickFVc : VC := .imp (.f2 47 (.int 0) (.at .int 2)) (.imp (.f2 47 (.at .int 2) (.f1 32 (.at .rows 1))) (.imp (.f2 47 (.at .int 2) (.int 1048576)) (.need (.f2 153 (.f1 
    152 (.int 0)) (.us .ints 10 (.at .rows 1) (.int 0) (.int 0) (.int 0))) (.all 5 .int (.all 6 .int (.all 7 .int (.all 8 .int (.all 9 .ints (.imp (.f2 47 
    (.int 0) (.at .int 5)) (.imp (.f2 47 (.at .int 5) (.at .int 2)) (.imp (.f2 45 (.f1 30 (.at .ints 9)) (.at .int 7)) (.imp (.f2 47 (.int 0) (.at .int 
    7)) (.imp (.f2 47 (.at .int 7) (.at .int 5)) (.imp (.f2 153 (.at .ints 9) (.us .ints 10 (.at .rows 1) (.at .int 5) (.int 0) (.int 0))) (.and (.imp 
    (.f2 46 (.at .int 5) (.at .int 2)) (.need (.f2 46 (.at .int 5) (.f1 32 (.at .rows 1))) (.all 10 .int (.imp (.f2 47 (.int 0) (.at .int 10)) (.all 11 
    .int (.imp (.f2 47 (.int 0) (.at .int 11)) (.and (.imp (.f2 45 (.f3 112 (.at .rows 1) (.at .int 5) (.int 1)) (.int 0)) (.all 12 .int (.imp (.f2 47 
    (.int 0) (.at .int 12)) (.all 13 .int (.imp (.f2 47 (.int 0) (.at .int 13)) (.need (.f2 47 (.at .int 7) (.f1 30 (.at .ints 9))) (.need (.f2 47 (.f2 42 
    (.f2 40 (.at .int 7) (.int 1)) (.int 8)) (.int 140737488355328)) (.all 14 .int (.all 15 .int (.imp (.f2 47 (.f2 40 (.at .int 7) (.int 1)) (.at .int 
    15)) (.imp (.f2 50 (.f2 47 (.int 0) (.at .int 14)) (.f2 45 (.f2 40 (.at .int 7) (.int 1)) (.int 0))) (.need (.f1 23 (.f2 40 (.at .int 5) (.int 1))) 
    (.need (.f2 47 (.int 0) (.f2 41 (.at .int 2) (.f2 40 (.at .int 5) (.int 1)))) (.need (.f2 46 (.f2 41 (.at .int 2) (.f2 40 (.at .int 5) (.int 1))) (.f2 
    41 (.at .int 2) (.at .int 5))) (.need (.f2 47 (.int 0) (.f2 40 (.at .int 5) (.int 1))) (.need (.f2 47 (.f2 40 (.at .int 5) (.int 1)) (.at .int 2)) 
    (.need (.f2 45 (.f2 40 (.f1 30 (.f2 113 (.at .ints 9) (.at .int 7))) (.int 1)) (.f2 40 (.at .int 7) (.int 1))) (.need (.f2 47 (.int 0) (.f2 40 (.at 
    .int 7) (.int 1))) (.need (.f2 47 (.f2 40 (.at .int 7) (.int 1)) (.f2 40 (.at .int 5) (.int 1))) (.need (.f2 153 (.f2 119 (.f2 113 (.at .ints 9) (.at 
    .int 7)) (.f2 122 (.f3 112 (.at .rows 1) (.at .int 5) (.int 0)) (.f1 152 (.int 0)))) (.us .ints 10 (.at .rows 1) (.f2 40 (.at .int 5) (.int 1)) (.int 
    0) (.int 0))) (.tt))))))))))))))))))))) (.imp (.f1 2 (.f2 45 (.f3 112 (.at .rows 1) (.at .int 5) (.int 1)) (.int 0))) (.need (.f1 23 (.f2 40 (.at .int 
    5) (.int 1))) (.need (.f2 47 (.int 0) (.f2 41 (.at .int 2) (.f2 40 (.at .int 5) (.int 1)))) (.need (.f2 46 (.f2 41 (.at .int 2) (.f2 40 (.at .int 5) 
    (.int 1))) (.f2 41 (.at .int 2) (.at .int 5))) (.need (.f2 47 (.int 0) (.f2 40 (.at .int 5) (.int 1))) (.need (.f2 47 (.f2 40 (.at .int 5) (.int 1)) 
    (.at .int 2)) (.need (.f2 47 (.at .int 7) (.f2 40 (.at .int 5) (.int 1))) (.need (.f2 153 (.at .ints 9) (.us .ints 10 (.at .rows 1) (.f2 40 (.at .int 
    5) (.int 1)) (.int 0) (.int 0))) (.tt)))))))))))))))) (.imp (.f2 47 (.at .int 2) (.at .int 5)) (.need (.f2 47 (.at .int 7) (.at .int 2)) (.need (.f2 
    153 (.at .ints 9) (.us .ints 10 (.at .rows 1) (.at .int 2) (.int 0) (.int 0))) (.tt)))))))))))))))))))
theorem pickF_vc : vcOf Try.prog pickFCx 10 62 pickFCtr = pickFVc := by kernel_rfl

theorem pickF_ok {G : Type} (S : Sig G) (hS : PickSig S) : CtrOk S Try.prog 62 pickFCtr := by
  refine vcOf_sound S (C := pickFCx) (fuel := 10) ⟨fun f sps h => by simp [pickFCx, assoc] at h, fun f l h i sp args hm => ?_, fun f sps h => by simp [pickFCx, assoc] at h⟩ fun ρ => ?_
  · simp only [pickFCx, assoc] at h
    cases hb : Nat.beq 62 f
    · rw [hb] at h; cases h
    · rw [hb] at h; cases h
      simp at hm
      obtain ⟨rfl, rfl, rfl⟩ := hm
      exact ⟨by decide, emptI_gh S⟩
  · rw [pickF_vc]
    obtain ⟨hu, _⟩ := hS
    simp only [pickFVc, VC.den, SX.den, U.co, Env.upd, hu, p23, p46, p47, ap1_2, ap1_30, ap1_32, ap1_152, ap2_40, ap2_41, ap2_42, ap2_45, ap2_48, ap2_50, ap2_113, ap2_119, ap2_122, ap2_153, t47, ap3_112, U.toProp_bool, U.toBool_bool, Bool.not_eq_true', beq_eq_false_iff_ne, ne_eq, beq_iff_eq, i64_min', i64_max', Int.toNat_zero, toNat_one', U.toInt_int, U.toInts_ints, U.toBytes_bytes, U.toRows_rows, if_true, if_false, Nat.reduceEqDiff, reduceIte]
    generalize (ρ 1).toRows = R
    generalize (ρ 2).toInt = m
    intro a1 a2 a3
    refine ⟨(selB_zero _ R).symm, fun x c l b L k0 k1 k2 k3 k4 k5 => ⟨fun hk => ?_, fun hk => ?_⟩⟩
    · repeat' (first | exact trivial | apply And.intro | intro _)
      all_goals first
        | omega
        | (refine selB_yes k0 (by omega) k5 k2 ?_; first | rfl | (simp only [isFree, isWait, isAny, beq_iff_eq, decide_eq_true_eq, beq_eq_false_iff_ne, decide_eq_false_iff_not]; omega))
        | (refine selB_no k0 (by omega) k5 ?_; first | rfl | (simp only [isFree, isWait, isAny, beq_iff_eq, decide_eq_true_eq, beq_eq_false_iff_ne, decide_eq_false_iff_not]; omega))
        | (simp only [List.length_take]; omega)
        | skip
    · have hxm : x = m := by omega
      subst hxm
      exact ⟨by omega, k5, trivial⟩
end
end Go.Proofs.Ytmjonggabppgaaa

/- The pages that wait. -/
set_option linter.unusedSimpArgs false
set_option linter.unusedVariables false
namespace Go.Proofs.Ytmjonggabppgaaa
noncomputable section
open Go.Eng
def pickWCtr : Ctr := ⟨[.int, .rows, .int, .int, .int], [.one (.slice (ai 0) (.int 0) (.int 0) (.int 0) (ai 2) (ai 3) 2), .one (.fn 66), .one (.fn 64)], [.arr enE (ai 0) (rwA 1) (ai 4)],
  [eLe (.int 0) (ai 2), eLe (ai 2) (.f1 32 (rwA 1)), eLe (ai 2) (.int 1048576)], [.int, .int, .int, .ints],
  .one (.slice (ai 5) (.int 0) (.int 0) (.int 0) (ai 6) (ai 7) 1), [.arr enE (ai 0) (rwA 1) (ai 4), .arr (.ints .i64) (ai 5) (xsA 8) (ai 7)],
  [eEq (.f1 30 (xsA 8)) (ai 6), eLe (.int 0) (ai 6), eLe (ai 6) (ai 2), .f2 153 (xsA 8) (selX 11 (rwA 1) (ai 2))]⟩
def pickWInv : Inv := ⟨[.int, .int, .int, .int, .ints], [(12, .one (.int .i64 (di 0))), (7, .one (.slice (di 1) (.int 0) (.int 0) (.int 0) (di 2) (di 3) 1))], [.arr (.ints .i64) (di 1) (xsA 1000004) (di 3)],
  [eLe (.int 0) (di 0), eLe (di 0) (ai 2), eEq (.f1 30 (xsA 1000004)) (di 2), eLe (.int 0) (di 2), eLe (di 2) (di 0), .f2 153 (xsA 1000004) (selX 11 (rwA 1) (di 0))], .f2 41 (ai 2) (di 0)⟩
def pickWCx : Cx := { specs := [], anns := [(62, [(3, .inv pickWInv), (2, .ghost emptI [])])] }
def pickWVc : VC := .imp (.f2 47 (.int 0) (.at .int 2)) (.imp (.f2 47 (.at .int 2) (.f1 32 (.at .rows 1))) (.imp (.f2 47 (.at .int 2) (.int 1048576)) (.need (.f2 153 (.f1 
    152 (.int 0)) (.us .ints 11 (.at .rows 1) (.int 0) (.int 0) (.int 0))) (.all 5 .int (.all 6 .int (.all 7 .int (.all 8 .int (.all 9 .ints (.imp (.f2 47 
    (.int 0) (.at .int 5)) (.imp (.f2 47 (.at .int 5) (.at .int 2)) (.imp (.f2 45 (.f1 30 (.at .ints 9)) (.at .int 7)) (.imp (.f2 47 (.int 0) (.at .int 
    7)) (.imp (.f2 47 (.at .int 7) (.at .int 5)) (.imp (.f2 153 (.at .ints 9) (.us .ints 11 (.at .rows 1) (.at .int 5) (.int 0) (.int 0))) (.and (.imp 
    (.f2 46 (.at .int 5) (.at .int 2)) (.need (.f2 46 (.at .int 5) (.f1 32 (.at .rows 1))) (.all 10 .int (.imp (.f2 47 (.int 0) (.at .int 10)) (.all 11 
    .int (.imp (.f2 47 (.int 0) (.at .int 11)) (.and (.imp (.f2 46 (.int 0) (.f3 112 (.at .rows 1) (.at .int 5) (.int 1))) (.all 12 .int (.imp (.f2 47 
    (.int 0) (.at .int 12)) (.all 13 .int (.imp (.f2 47 (.int 0) (.at .int 13)) (.need (.f2 47 (.at .int 7) (.f1 30 (.at .ints 9))) (.need (.f2 47 (.f2 42 
    (.f2 40 (.at .int 7) (.int 1)) (.int 8)) (.int 140737488355328)) (.all 14 .int (.all 15 .int (.imp (.f2 47 (.f2 40 (.at .int 7) (.int 1)) (.at .int 
    15)) (.imp (.f2 50 (.f2 47 (.int 0) (.at .int 14)) (.f2 45 (.f2 40 (.at .int 7) (.int 1)) (.int 0))) (.need (.f1 23 (.f2 40 (.at .int 5) (.int 1))) 
    (.need (.f2 47 (.int 0) (.f2 41 (.at .int 2) (.f2 40 (.at .int 5) (.int 1)))) (.need (.f2 46 (.f2 41 (.at .int 2) (.f2 40 (.at .int 5) (.int 1))) (.f2 
    41 (.at .int 2) (.at .int 5))) (.need (.f2 47 (.int 0) (.f2 40 (.at .int 5) (.int 1))) (.need (.f2 47 (.f2 40 (.at .int 5) (.int 1)) (.at .int 2)) 
    (.need (.f2 45 (.f2 40 (.f1 30 (.f2 113 (.at .ints 9) (.at .int 7))) (.int 1)) (.f2 40 (.at .int 7) (.int 1))) (.need (.f2 47 (.int 0) (.f2 40 (.at 
    .int 7) (.int 1))) (.need (.f2 47 (.f2 40 (.at .int 7) (.int 1)) (.f2 40 (.at .int 5) (.int 1))) (.need (.f2 153 (.f2 119 (.f2 113 (.at .ints 9) (.at 
    .int 7)) (.f2 122 (.f3 112 (.at .rows 1) (.at .int 5) (.int 0)) (.f1 152 (.int 0)))) (.us .ints 11 (.at .rows 1) (.f2 40 (.at .int 5) (.int 1)) (.int 
    0) (.int 0))) (.tt))))))))))))))))))))) (.imp (.f2 47 (.f3 112 (.at .rows 1) (.at .int 5) (.int 1)) (.int 0)) (.need (.f1 23 (.f2 40 (.at .int 5) 
    (.int 1))) (.need (.f2 47 (.int 0) (.f2 41 (.at .int 2) (.f2 40 (.at .int 5) (.int 1)))) (.need (.f2 46 (.f2 41 (.at .int 2) (.f2 40 (.at .int 5) 
    (.int 1))) (.f2 41 (.at .int 2) (.at .int 5))) (.need (.f2 47 (.int 0) (.f2 40 (.at .int 5) (.int 1))) (.need (.f2 47 (.f2 40 (.at .int 5) (.int 1)) 
    (.at .int 2)) (.need (.f2 47 (.at .int 7) (.f2 40 (.at .int 5) (.int 1))) (.need (.f2 153 (.at .ints 9) (.us .ints 11 (.at .rows 1) (.f2 40 (.at .int 
    5) (.int 1)) (.int 0) (.int 0))) (.tt)))))))))))))))) (.imp (.f2 47 (.at .int 2) (.at .int 5)) (.need (.f2 47 (.at .int 7) (.at .int 2)) (.need (.f2 
    153 (.at .ints 9) (.us .ints 11 (.at .rows 1) (.at .int 2) (.int 0) (.int 0))) (.tt)))))))))))))))))))
theorem pickW_vc : vcOf Try.prog pickWCx 10 62 pickWCtr = pickWVc := by kernel_rfl

theorem pickW_ok {G : Type} (S : Sig G) (hS : PickSig S) : CtrOk S Try.prog 62 pickWCtr := by
  refine vcOf_sound S (C := pickWCx) (fuel := 10) ⟨fun f sps h => by simp [pickWCx, assoc] at h, fun f l h i sp args hm => ?_, fun f sps h => by simp [pickWCx, assoc] at h⟩ fun ρ => ?_
  · simp only [pickWCx, assoc] at h
    cases hb : Nat.beq 62 f
    · rw [hb] at h; cases h
    · rw [hb] at h; cases h
      simp at hm
      obtain ⟨rfl, rfl, rfl⟩ := hm
      exact ⟨by decide, emptI_gh S⟩
  · rw [pickW_vc]
    obtain ⟨_, hu, _⟩ := hS
    simp only [pickWVc, VC.den, SX.den, U.co, Env.upd, hu, p23, p46, p47, ap1_2, ap1_30, ap1_32, ap1_152, ap2_40, ap2_41, ap2_42, ap2_45, ap2_48, ap2_50, ap2_113, ap2_119, ap2_122, ap2_153, t47, ap3_112, U.toProp_bool, U.toBool_bool, Bool.not_eq_true', beq_eq_false_iff_ne, ne_eq, beq_iff_eq, i64_min', i64_max', Int.toNat_zero, toNat_one', U.toInt_int, U.toInts_ints, U.toBytes_bytes, U.toRows_rows, if_true, if_false, Nat.reduceEqDiff, reduceIte]
    generalize (ρ 1).toRows = R
    generalize (ρ 2).toInt = m
    intro a1 a2 a3
    refine ⟨(selB_zero _ R).symm, fun x c l b L k0 k1 k2 k3 k4 k5 => ⟨fun hk => ?_, fun hk => ?_⟩⟩
    · repeat' (first | exact trivial | apply And.intro | intro _)
      all_goals first
        | omega
        | (refine selB_yes k0 (by omega) k5 k2 ?_; first | rfl | (simp only [isFree, isWait, isAny, beq_iff_eq, decide_eq_true_eq, beq_eq_false_iff_ne, decide_eq_false_iff_not]; omega))
        | (refine selB_no k0 (by omega) k5 ?_; first | rfl | (simp only [isFree, isWait, isAny, beq_iff_eq, decide_eq_true_eq, beq_eq_false_iff_ne, decide_eq_false_iff_not]; omega))
        | (simp only [List.length_take]; omega)
        | skip
    · have hxm : x = m := by omega
      subst hxm
      exact ⟨by omega, k5, trivial⟩
end
end Go.Proofs.Ytmjonggabppgaaa

/- All pages. -/
set_option linter.unusedSimpArgs false
set_option linter.unusedVariables false
namespace Go.Proofs.Ytmjonggabppgaaa
noncomputable section
open Go.Eng
def pickACtr : Ctr := ⟨[.int, .rows, .int, .int, .int], [.one (.slice (ai 0) (.int 0) (.int 0) (.int 0) (ai 2) (ai 3) 2), .one (.fn 82), .one (.fn 64)], [.arr enE (ai 0) (rwA 1) (ai 4)],
  [eLe (.int 0) (ai 2), eLe (ai 2) (.f1 32 (rwA 1)), eLe (ai 2) (.int 1048576)], [.int, .int, .int, .ints],
  .one (.slice (ai 5) (.int 0) (.int 0) (.int 0) (ai 6) (ai 7) 1), [.arr enE (ai 0) (rwA 1) (ai 4), .arr (.ints .i64) (ai 5) (xsA 8) (ai 7)],
  [eEq (.f1 30 (xsA 8)) (ai 6), eLe (.int 0) (ai 6), eLe (ai 6) (ai 2), .f2 153 (xsA 8) (selX 12 (rwA 1) (ai 2))]⟩
def pickAInv : Inv := ⟨[.int, .int, .int, .int, .ints], [(12, .one (.int .i64 (di 0))), (7, .one (.slice (di 1) (.int 0) (.int 0) (.int 0) (di 2) (di 3) 1))], [.arr (.ints .i64) (di 1) (xsA 1000004) (di 3)],
  [eLe (.int 0) (di 0), eLe (di 0) (ai 2), eEq (.f1 30 (xsA 1000004)) (di 2), eLe (.int 0) (di 2), eLe (di 2) (di 0), .f2 153 (xsA 1000004) (selX 12 (rwA 1) (di 0))], .f2 41 (ai 2) (di 0)⟩
def pickACx : Cx := { specs := [], anns := [(62, [(3, .inv pickAInv), (2, .ghost emptI [])])] }
def pickAVc : VC := .imp (.f2 47 (.int 0) (.at .int 2)) (.imp (.f2 47 (.at .int 2) (.f1 32 (.at .rows 1))) (.imp (.f2 47 (.at .int 2) (.int 1048576)) (.need (.f2 153 (.f1 
    152 (.int 0)) (.us .ints 12 (.at .rows 1) (.int 0) (.int 0) (.int 0))) (.all 5 .int (.all 6 .int (.all 7 .int (.all 8 .int (.all 9 .ints (.imp (.f2 47 
    (.int 0) (.at .int 5)) (.imp (.f2 47 (.at .int 5) (.at .int 2)) (.imp (.f2 45 (.f1 30 (.at .ints 9)) (.at .int 7)) (.imp (.f2 47 (.int 0) (.at .int 
    7)) (.imp (.f2 47 (.at .int 7) (.at .int 5)) (.imp (.f2 153 (.at .ints 9) (.us .ints 12 (.at .rows 1) (.at .int 5) (.int 0) (.int 0))) (.and (.imp 
    (.f2 46 (.at .int 5) (.at .int 2)) (.need (.f2 46 (.at .int 5) (.f1 32 (.at .rows 1))) (.all 10 .int (.imp (.f2 47 (.int 0) (.at .int 10)) (.all 11 
    .int (.imp (.f2 47 (.int 0) (.at .int 11)) (.all 12 .int (.imp (.f2 47 (.int 0) (.at .int 12)) (.all 13 .int (.imp (.f2 47 (.int 0) (.at .int 13)) 
    (.need (.f2 47 (.at .int 7) (.f1 30 (.at .ints 9))) (.need (.f2 47 (.f2 42 (.f2 40 (.at .int 7) (.int 1)) (.int 8)) (.int 140737488355328)) (.all 14 
    .int (.all 15 .int (.imp (.f2 47 (.f2 40 (.at .int 7) (.int 1)) (.at .int 15)) (.imp (.f2 50 (.f2 47 (.int 0) (.at .int 14)) (.f2 45 (.f2 40 (.at .int 
    7) (.int 1)) (.int 0))) (.need (.f1 23 (.f2 40 (.at .int 5) (.int 1))) (.need (.f2 47 (.int 0) (.f2 41 (.at .int 2) (.f2 40 (.at .int 5) (.int 1)))) 
    (.need (.f2 46 (.f2 41 (.at .int 2) (.f2 40 (.at .int 5) (.int 1))) (.f2 41 (.at .int 2) (.at .int 5))) (.need (.f2 47 (.int 0) (.f2 40 (.at .int 5) 
    (.int 1))) (.need (.f2 47 (.f2 40 (.at .int 5) (.int 1)) (.at .int 2)) (.need (.f2 45 (.f2 40 (.f1 30 (.f2 113 (.at .ints 9) (.at .int 7))) (.int 1)) 
    (.f2 40 (.at .int 7) (.int 1))) (.need (.f2 47 (.int 0) (.f2 40 (.at .int 7) (.int 1))) (.need (.f2 47 (.f2 40 (.at .int 7) (.int 1)) (.f2 40 (.at 
    .int 5) (.int 1))) (.need (.f2 153 (.f2 119 (.f2 113 (.at .ints 9) (.at .int 7)) (.f2 122 (.f3 112 (.at .rows 1) (.at .int 5) (.int 0)) (.f1 152 (.int 
    0)))) (.us .ints 12 (.at .rows 1) (.f2 40 (.at .int 5) (.int 1)) (.int 0) (.int 0))) (.tt)))))))))))))))))))))))))) (.imp (.f2 47 (.at .int 2) (.at 
    .int 5)) (.need (.f2 47 (.at .int 7) (.at .int 2)) (.need (.f2 153 (.at .ints 9) (.us .ints 12 (.at .rows 1) (.at .int 2) (.int 0) (.int 0))) 
    (.tt)))))))))))))))))))
theorem pickA_vc : vcOf Try.prog pickACx 10 62 pickACtr = pickAVc := by kernel_rfl

theorem pickA_ok {G : Type} (S : Sig G) (hS : PickSig S) : CtrOk S Try.prog 62 pickACtr := by
  refine vcOf_sound S (C := pickACx) (fuel := 10) ⟨fun f sps h => by simp [pickACx, assoc] at h, fun f l h i sp args hm => ?_, fun f sps h => by simp [pickACx, assoc] at h⟩ fun ρ => ?_
  · simp only [pickACx, assoc] at h
    cases hb : Nat.beq 62 f
    · rw [hb] at h; cases h
    · rw [hb] at h; cases h
      simp at hm
      obtain ⟨rfl, rfl, rfl⟩ := hm
      exact ⟨by decide, emptI_gh S⟩
  · rw [pickA_vc]
    obtain ⟨_, _, hu, _⟩ := hS
    simp only [pickAVc, VC.den, SX.den, U.co, Env.upd, hu, p23, p46, p47, ap1_2, ap1_30, ap1_32, ap1_152, ap2_40, ap2_41, ap2_42, ap2_45, ap2_48, ap2_50, ap2_113, ap2_119, ap2_122, ap2_153, t47, ap3_112, U.toProp_bool, U.toBool_bool, Bool.not_eq_true', beq_eq_false_iff_ne, ne_eq, beq_iff_eq, i64_min', i64_max', Int.toNat_zero, toNat_one', U.toInt_int, U.toInts_ints, U.toBytes_bytes, U.toRows_rows, if_true, if_false, Nat.reduceEqDiff, reduceIte]
    generalize (ρ 1).toRows = R
    generalize (ρ 2).toInt = m
    intro a1 a2 a3
    refine ⟨(selB_zero _ R).symm, fun x c l b L k0 k1 k2 k3 k4 k5 => ⟨fun hk => ?_, fun hk => ?_⟩⟩
    · repeat' (first | exact trivial | apply And.intro | intro _)
      all_goals first
        | omega
        | (refine selB_yes k0 (by omega) k5 k2 ?_; first | rfl | (simp only [isFree, isWait, isAny, beq_iff_eq, decide_eq_true_eq, beq_eq_false_iff_ne, decide_eq_false_iff_not]; omega))
        | (refine selB_no k0 (by omega) k5 ?_; first | rfl | (simp only [isFree, isWait, isAny, beq_iff_eq, decide_eq_true_eq, beq_eq_false_iff_ne, decide_eq_false_iff_not]; omega))
        | (simp only [List.length_take]; omega)
        | skip
    · have hxm : x = m := by omega
      subst hxm
      exact ⟨by omega, k5, trivial⟩
end
end Go.Proofs.Ytmjonggabppgaaa

/- What a list tells: the pages that are free, that wait, all. -/
set_option linter.unusedSimpArgs false
set_option linter.unusedVariables false
namespace Go.Proofs.Ytmjonggabppgaaa
noncomputable section
open Go.Eng
def toldP : List Ch := [listC (ai 0) (ai 2) (ai 3) (ai 4) (ai 6) (ai 7) (ai 8) (gA 1), .arr enT (ai 2) (rA 5) (ai 4), .prd 1 (key3 (ai 6) (ai 7) (ai 8)) (gA 1)]
def toldC (k : Nat) : Ctr := ⟨[.int, .g, .int, .int, .int, .rows, .int, .int, .int], [.one (.ptr (ai 0) 0)], toldP, [eLe (.int 0) (ai 3), eLe (ai 3) (.f1 32 (rA 5)), eLe (ai 3) (.int 65534)], [.int, .int, .int, .ints],
  .one (slC (ai 9) (ai 10) (ai 11) 1), toldP ++ [.arr (.ints .i64) (ai 9) (iA 12) (ai 11)], [eEq (.f1 30 (iA 12)) (ai 10), eLe (.int 0) (ai 10), eLe (ai 10) (ai 3), .f2 153 (iA 12) (selX k (rA 5) (ai 3))]⟩
def frCtr : Ctr := toldC 10
def waCtr : Ctr := toldC 11
def alCtr : Ctr := toldC 12
def frCx : Cx := { specs := [(62, [pickFCtr])], anns := [] }
def waCx : Cx := { specs := [(62, [pickWCtr])], anns := [] }
def alCx : Cx := { specs := [(62, [pickACtr])], anns := [] }
-- BEGIN VC fr
def frVc : VC := (.imp (.f2 47 (.int 0) (.at .int 3)) (.imp (.f2 47 (.at .int 3) (.f1 32 (.at .rows 5))) (.imp (.f2 47 (.at .int 3) (.int 65534)) (.need (.f2 47 (.at
    .int 3) (.int 1048576)) (.all 9 .int (.all 10 .int (.all 11 .int (.all 12 .ints (.imp (.f2 45 (.f1 30 (.at .ints 12)) (.at .int 10)) (.imp (.f2 47
    (.int 0) (.at .int 10)) (.imp (.f2 47 (.at .int 10) (.at .int 3)) (.imp (.f2 153 (.at .ints 12) (.us .ints 10 (.at .rows 5) (.at .int 3) (.int 0)
    (.int 0))) .tt))))))))))))
theorem fr_vc : vcOf Try.prog frCx 10 29 frCtr = frVc := by kernel_rfl
-- END VC fr
-- BEGIN VC wa
def waVc : VC := (.imp (.f2 47 (.int 0) (.at .int 3)) (.imp (.f2 47 (.at .int 3) (.f1 32 (.at .rows 5))) (.imp (.f2 47 (.at .int 3) (.int 65534)) (.need (.f2 47 (.at
    .int 3) (.int 1048576)) (.all 9 .int (.all 10 .int (.all 11 .int (.all 12 .ints (.imp (.f2 45 (.f1 30 (.at .ints 12)) (.at .int 10)) (.imp (.f2 47
    (.int 0) (.at .int 10)) (.imp (.f2 47 (.at .int 10) (.at .int 3)) (.imp (.f2 153 (.at .ints 12) (.us .ints 11 (.at .rows 5) (.at .int 3) (.int 0)
    (.int 0))) .tt))))))))))))
theorem wa_vc : vcOf Try.prog waCx 10 31 waCtr = waVc := by kernel_rfl
-- END VC wa
-- BEGIN VC al
def alVc : VC := (.imp (.f2 47 (.int 0) (.at .int 3)) (.imp (.f2 47 (.at .int 3) (.f1 32 (.at .rows 5))) (.imp (.f2 47 (.at .int 3) (.int 65534)) (.need (.f2 47 (.at
    .int 3) (.int 1048576)) (.all 9 .int (.all 10 .int (.all 11 .int (.all 12 .ints (.imp (.f2 45 (.f1 30 (.at .ints 12)) (.at .int 10)) (.imp (.f2 47
    (.int 0) (.at .int 10)) (.imp (.f2 47 (.at .int 10) (.at .int 3)) (.imp (.f2 153 (.at .ints 12) (.us .ints 12 (.at .rows 5) (.at .int 3) (.int 0)
    (.int 0))) .tt))))))))))))
theorem al_vc : vcOf Try.prog alCx 10 39 alCtr = alVc := by kernel_rfl
-- END VC al
-- PROOFS
theorem fr_ok (S : Sig FL) (hP : PickSig S) : CtrOk S Try.prog 29 frCtr := by
  refine vcOf_sound S (C := frCx) (fuel := 10) (cx_of ⟨one_spec (by decide) (pickF_ok S hP), trivial⟩ trivial trivial) fun ρ => ?_
  rw [fr_vc]
  simp only [frVc, VC.den, SX.den, co_int, Env.upd, p47, U.toInt_int]
  exact fun _ _ h => ⟨by omega, fun _ _ _ _ _ _ _ _ => trivial⟩
theorem wa_ok (S : Sig FL) (hP : PickSig S) : CtrOk S Try.prog 31 waCtr := by
  refine vcOf_sound S (C := waCx) (fuel := 10) (cx_of ⟨one_spec (by decide) (pickW_ok S hP), trivial⟩ trivial trivial) fun ρ => ?_
  rw [wa_vc]
  simp only [waVc, VC.den, SX.den, co_int, Env.upd, p47, U.toInt_int]
  exact fun _ _ h => ⟨by omega, fun _ _ _ _ _ _ _ _ => trivial⟩
theorem al_ok (S : Sig FL) (hP : PickSig S) : CtrOk S Try.prog 39 alCtr := by
  refine vcOf_sound S (C := alCx) (fuel := 10) (cx_of ⟨one_spec (by decide) (pickA_ok S hP), trivial⟩ trivial trivial) fun ρ => ?_
  rw [al_vc]
  simp only [alVc, VC.den, SX.den, co_int, Env.upd, p47, U.toInt_int]
  exact fun _ _ h => ⟨by omega, fun _ _ _ _ _ _ _ _ => trivial⟩
end
end Go.Proofs.Ytmjonggabppgaaa
