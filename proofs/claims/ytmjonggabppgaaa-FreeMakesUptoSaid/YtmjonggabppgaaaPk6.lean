/- FreeMakes answers true, and its numbers stay as they are, where they are of bulk at most 1048576. No other condition. -/
import Derived.Test.YtmjonggabppgaaaPk3
import Derived.Test.YtmjonggabppgaaaPk5
import Derived.Test.YtmjonggabppgaaaPk4
import Derived.Test.YtmjonggabppgaaaRows
import Derived.WalkKit
import Derived.ProofKit
import Derived.OpenShut
import Derived.JoinedCond
import Derived.Carry
set_option linter.unusedSimpArgs false
set_option linter.unusedVariables false
namespace Go.Proofs.Ytmjonggabppgaaa
noncomputable section
open Go.Eng
def asLentCtr : Ctr := ⟨[.int, .ints, .int, .int, .int, .int, .int, .int, .int, .ints, .int],
  [.one (.slice (ai 0) (.int 0) (.int 0) (.int 0) (ai 2) (ai 3) 1), .one (.slice (ai 5) (ai 6) (.int 0) (.int 0) (ai 7) (ai 8) 1)], [.arr (.ints .i64) (ai 0) (xsA 1) (ai 4), rdI 0 5],
  [eLe (.int 0) (ai 2), eEq (ai 2) (ai 7), eEq (.f1 30 (xsA 1)) (.f2 40 (ai 2) (.int 2)), eEq (ai 3) (.f2 40 (ai 2) (.int 2)), eLe (ai 7) (.f1 30 (xsA 9)), eLe (ai 2) (.int 17592186044414)], [.bool, .ints],
  .one (.bool (.at .bool 11)), [.arr (.ints .i64) (ai 0) (xsA 12) (ai 4), rdI 0 5],
  [.f2 48 (.at .bool 11) (.f2 49 (.f2 49 (.f2 153 (.f2 113 (xsA 1) (ai 2)) (.f2 113 (xsA 9) (ai 2))) (.f2 45 (.f2 110 (xsA 1) (ai 2)) (.int (-71)))) (.f2 45 (.f2 110 (xsA 1) (.f2 40 (ai 2) (.int 1))) (.int (-72))))]⟩
def asLentInv : Inv := ⟨[.int, .ints], [(8, .one (.int .i64 (di 0)))], [.arr (.ints .i64) (ai 0) (xsA 1000001) (ai 4)], [eLe (.int 0) (di 0), eLe (di 0) (.f2 40 (ai 2) (.int 2)), eEq (.f1 30 (xsA 1000001)) (.f2 40 (ai 2) (.int 2))], .f2 41 (.f2 40 (ai 2) (.int 2)) (di 0)⟩
def asLentCx : Cx := { specs := [(23, [sameCtr])], anns := [(15, [(7, .inv asLentInv)])] }
def asLentVc : VC := .imp (.f2 47 (.int 0) (.at .int 2)) (.imp (.f2 45 (.at .int 2) (.at .int 7)) (.imp (.f2 45 (.f1 30 (.at .ints 1)) (.f2 40 (.at .int 2) (.int 2))) 
    (.imp (.f2 45 (.at .int 3) (.f2 40 (.at .int 2) (.int 2))) (.imp (.f2 47 (.at .int 7) (.f1 30 (.at .ints 9))) (.imp (.f2 47 (.at .int 2) (.int 
    17592186044414)) (.need (.f2 47 (.int 0) (.at .int 7)) (.and (.tt) (.imp (.f2 45 (.at .int 2) (.at .int 7)) (.need (.f1 23 (.f2 40 (.at .int 7) (.int 
    2))) (.need (.f2 47 (.int 0) (.at .int 3)) (.need (.f2 47 (.int 0) (.f2 40 (.at .int 7) (.int 2))) (.need (.f2 47 (.f2 40 (.at .int 7) (.int 2)) (.at 
    .int 3)) (.need (.f2 47 (.at .int 7) (.at .int 3)) (.need (.f2 47 (.at .int 7) (.f1 30 (.at .ints 1))) (.need (.f2 47 (.at .int 7) (.int 
    140737488355328)) (.all 11 .bool (.imp (.f2 48 (.at .bool 11) (.f2 153 (.f2 113 (.at .ints 1) (.at .int 7)) (.f2 113 (.at .ints 9) (.at .int 7)))) 
    (.and (.imp (.at .bool 11) (.need (.f2 46 (.at .int 7) (.f2 40 (.at .int 7) (.int 2))) (.need (.f2 46 (.at .int 7) (.f1 30 (.at .ints 1))) (.and (.imp 
    (.f2 45 (.f2 110 (.at .ints 1) (.at .int 7)) (.int (-71))) (.need (.f1 23 (.f2 40 (.at .int 7) (.int 1))) (.need (.f2 47 (.int 0) (.f2 40 (.at .int 7) 
    (.int 1))) (.need (.f2 46 (.f2 40 (.at .int 7) (.int 1)) (.f2 40 (.at .int 7) (.int 2))) (.need (.f2 46 (.f2 40 (.at .int 7) (.int 1)) (.f1 30 (.at 
    .ints 1))) (.need (.f2 47 (.int 0) (.f2 40 (.at .int 2) (.int 2))) (.all 12 .int (.all 13 .ints (.imp (.f2 47 (.int 0) (.at .int 12)) (.imp (.f2 47 
    (.at .int 12) (.f2 40 (.at .int 2) (.int 2))) (.imp (.f2 45 (.f1 30 (.at .ints 13)) (.f2 40 (.at .int 2) (.int 2))) (.and (.imp (.f2 46 (.at .int 12) 
    (.f2 40 (.at .int 7) (.int 2))) (.need (.f2 46 (.at .int 12) (.f1 30 (.at .ints 13))) (.need (.f1 23 (.f2 40 (.at .int 12) (.int 1))) (.need (.f2 47 
    (.int 0) (.f2 41 (.f2 40 (.at .int 2) (.int 2)) (.f2 40 (.at .int 12) (.int 1)))) (.need (.f2 46 (.f2 41 (.f2 40 (.at .int 2) (.int 2)) (.f2 40 (.at 
    .int 12) (.int 1))) (.f2 41 (.f2 40 (.at .int 2) (.int 2)) (.at .int 12))) (.need (.f2 47 (.int 0) (.f2 40 (.at .int 12) (.int 1))) (.need (.f2 47 
    (.f2 40 (.at .int 12) (.int 1)) (.f2 40 (.at .int 2) (.int 2))) (.tt)))))))) (.imp (.f2 47 (.f2 40 (.at .int 7) (.int 2)) (.at .int 12)) (.need (.f2 
    48 (.f2 45 (.f2 110 (.at .ints 1) (.f2 40 (.at .int 7) (.int 1))) (.int (-72))) (.f2 49 (.f2 49 (.f2 153 (.f2 113 (.at .ints 1) (.at .int 2)) (.f2 113 
    (.at .ints 9) (.at .int 2))) (.f2 45 (.f2 110 (.at .ints 1) (.at .int 2)) (.int (-71)))) (.f2 45 (.f2 110 (.at .ints 1) (.f2 40 (.at .int 2) (.int 
    1))) (.int (-72))))) (.tt))))))))))))))) (.imp (.f1 2 (.f2 45 (.f2 110 (.at .ints 1) (.at .int 7)) (.int (-71)))) (.need (.f2 47 (.int 0) (.f2 40 (.at 
    .int 2) (.int 2))) (.all 12 .int (.all 13 .ints (.imp (.f2 47 (.int 0) (.at .int 12)) (.imp (.f2 47 (.at .int 12) (.f2 40 (.at .int 2) (.int 2))) 
    (.imp (.f2 45 (.f1 30 (.at .ints 13)) (.f2 40 (.at .int 2) (.int 2))) (.and (.imp (.f2 46 (.at .int 12) (.f2 40 (.at .int 7) (.int 2))) (.need (.f2 46 
    (.at .int 12) (.f1 30 (.at .ints 13))) (.need (.f1 23 (.f2 40 (.at .int 12) (.int 1))) (.need (.f2 47 (.int 0) (.f2 41 (.f2 40 (.at .int 2) (.int 2)) 
    (.f2 40 (.at .int 12) (.int 1)))) (.need (.f2 46 (.f2 41 (.f2 40 (.at .int 2) (.int 2)) (.f2 40 (.at .int 12) (.int 1))) (.f2 41 (.f2 40 (.at .int 2) 
    (.int 2)) (.at .int 12))) (.need (.f2 47 (.int 0) (.f2 40 (.at .int 12) (.int 1))) (.need (.f2 47 (.f2 40 (.at .int 12) (.int 1)) (.f2 40 (.at .int 2) 
    (.int 2))) (.tt)))))))) (.imp (.f2 47 (.f2 40 (.at .int 7) (.int 2)) (.at .int 12)) (.need (.f2 48 (.bool false) (.f2 49 (.f2 49 (.f2 153 (.f2 113 
    (.at .ints 1) (.at .int 2)) (.f2 113 (.at .ints 9) (.at .int 2))) (.f2 45 (.f2 110 (.at .ints 1) (.at .int 2)) (.int (-71)))) (.f2 45 (.f2 110 (.at 
    .ints 1) (.f2 40 (.at .int 2) (.int 1))) (.int (-72))))) (.tt))))))))))))))) (.imp (.f1 2 (.at .bool 11)) (.need (.f2 47 (.int 0) (.f2 40 (.at .int 2) 
    (.int 2))) (.all 12 .int (.all 13 .ints (.imp (.f2 47 (.int 0) (.at .int 12)) (.imp (.f2 47 (.at .int 12) (.f2 40 (.at .int 2) (.int 2))) (.imp (.f2 
    45 (.f1 30 (.at .ints 13)) (.f2 40 (.at .int 2) (.int 2))) (.and (.imp (.f2 46 (.at .int 12) (.f2 40 (.at .int 7) (.int 2))) (.need (.f2 46 (.at .int 
    12) (.f1 30 (.at .ints 13))) (.need (.f1 23 (.f2 40 (.at .int 12) (.int 1))) (.need (.f2 47 (.int 0) (.f2 41 (.f2 40 (.at .int 2) (.int 2)) (.f2 40 
    (.at .int 12) (.int 1)))) (.need (.f2 46 (.f2 41 (.f2 40 (.at .int 2) (.int 2)) (.f2 40 (.at .int 12) (.int 1))) (.f2 41 (.f2 40 (.at .int 2) (.int 
    2)) (.at .int 12))) (.need (.f2 47 (.int 0) (.f2 40 (.at .int 12) (.int 1))) (.need (.f2 47 (.f2 40 (.at .int 12) (.int 1)) (.f2 40 (.at .int 2) (.int 
    2))) (.tt)))))))) (.imp (.f2 47 (.f2 40 (.at .int 7) (.int 2)) (.at .int 12)) (.need (.f2 48 (.bool false) (.f2 49 (.f2 49 (.f2 153 (.f2 113 (.at 
    .ints 1) (.at .int 2)) (.f2 113 (.at .ints 9) (.at .int 2))) (.f2 45 (.f2 110 (.at .ints 1) (.at .int 2)) (.int (-71)))) (.f2 45 (.f2 110 (.at .ints 
    1) (.f2 40 (.at .int 2) (.int 1))) (.int (-72))))) (.tt)))))))))))))))))))))))))))))
theorem asLent_vc : vcOf Try.prog asLentCx 10 15 asLentCtr = asLentVc := by kernel_rfl
theorem i64_min : IntKind.min .i64 = -9223372036854775808 := rfl
theorem i64_max : IntKind.max .i64 = 9223372036854775807 := rfl
theorem asLent_ok {G : Type} (S : Sig G) : CtrOk S Try.prog 15 asLentCtr := by
  refine vcOf_sound S (C := asLentCx) (fuel := 10) ⟨fun f sps h sp hm => by
    simp only [asLentCx, assoc] at h
    cases hb : Nat.beq 23 f
    · rw [hb] at h; cases h
    · rw [hb] at h; cases h
      rw [List.mem_singleton] at hm
      rw [← Nat.eq_of_beq_eq_true hb, hm]
      exact ⟨by decide, same_ok S⟩, fun f l h i sp args hm => ?_, fun f sps h => by simp [asLentCx, assoc] at h⟩ fun ρ => ?_
  · simp only [asLentCx, assoc] at h
    cases hb : Nat.beq 15 f
    · rw [hb] at h; cases h
    · rw [hb] at h; cases h
      simp at hm
  · rw [asLent_vc]
    simp only [asLentVc, VC.den, SX.den, U.co, Env.upd, p23, p46, p47, ap1_2, ap1_30, ap2_40, ap2_41, ap2_45, ap2_48, ap2_49, ap2_110, ap2_113, ap2_153, U.toProp_bool, U.toBool_bool, Bool.not_eq_true', beq_eq_false_iff_ne, ne_eq, beq_iff_eq, i64_min, i64_max, U.toInt_int, U.toInts_ints, U.toBytes_bytes, U.toRows_rows, if_true, if_false, Nat.reduceEqDiff, reduceIte]
    generalize (ρ 1).toInts = A
    generalize (ρ 9).toInts = B
    generalize (ρ 2).toInt = m
    generalize (ρ 3).toInt = c
    generalize (ρ 7).toInt = n
    intro h1 h2 h3 h4 h5 h6
    subst h2
    repeat' (first | exact trivial | apply And.intro | intro _)
    all_goals first
      | omega
      | (simp_all; done)
      | skip
end
end Go.Proofs.Ytmjonggabppgaaa

/- Towards FreeMakes: what its parts say together. -/
set_option linter.unusedSimpArgs false
set_option linter.unusedVariables false
namespace Go.Proofs.Ytmjonggabppgaaa
noncomputable section
open Go.Eng
theorem specs_of {G : Type} {S : Sig G} {P : Program} : ∀ {l : List (Nat × List Ctr)}, (∀ p ∈ l, ∀ sp ∈ p.2, sp.wf = true ∧ CtrOk S P p.1 sp) → ∀ f sps, assoc l f = some sps → ∀ sp ∈ sps, sp.wf = true ∧ CtrOk S P f sp
  | [], _, _, _, h, _, _ => by cases h
  | (i, a) :: l, hl, f, sps, h, sp, hm => by
    simp only [assoc] at h
    cases hb : Nat.beq i f
    · rw [hb] at h
      exact specs_of (fun p hp => hl p (List.mem_cons_of_mem _ hp)) f sps h sp hm
    · rw [hb] at h; cases h
      rw [← Nat.eq_of_beq_eq_true hb]
      exact hl (i, a) List.mem_cons_self sp hm
theorem lent_take {L L6 : List Int} {m : Int} (h0 : 0 ≤ m) (hm : m ≤ L.length) (h : L6 = L.take m.toNat ++ [-71, -72]) : L6.take m.toNat = L.take m.toNat := by
  rw [h, List.take_append_of_le_length (by rw [List.length_take]; omega), List.take_take, Nat.min_self]
theorem lent_len {L L6 : List Int} {m : Int} (h0 : 0 ≤ m) (hm : m ≤ L.length) (h : L6 = L.take m.toNat ++ [-71, -72]) : (L6.length : Int) = m + 2 := by
  rw [h, List.length_append, List.length_take]; simp; omega
theorem lent_good {L L6 : List Int} {m : Int} {x : Bool} (h0 : 0 ≤ m) (hm : m ≤ L.length) (h : L6 = L.take m.toNat ++ [-71, -72])
    (hx : x = (L6.take m.toNat == L.take m.toNat && L6.getD m.toNat 0 == -71 && L6.getD (m + 1).toNat 0 == -72)) : x = true := by
  have hl : (L.take m.toNat).length = m.toNat := by rw [List.length_take]; omega
  have e1 : L6.getD m.toNat 0 = -71 := by
    rw [h, List.getD_eq_getElem?_getD, List.getElem?_append_right (by omega), hl, Nat.sub_self]; rfl
  have e2 : L6.getD (m + 1).toNat 0 = -72 := by
    rw [h, List.getD_eq_getElem?_getD, List.getElem?_append_right (by omega), hl, show (m + 1).toNat - m.toNat = 1 by omega]; rfl
  rw [hx, lent_take h0 hm h, e1, e2]; simp
theorem allNB_take {L M : List Int} {m : Int} (h : M.take m.toNat = L.take m.toNat) : allNB M m = allNB L m := by unfold allNB; rw [h]
theorem distB_take {L M : List Int} {m : Int} (h : M.take m.toNat = L.take m.toNat) : distB M m = distB L m := by unfold distB; rw [h]
theorem entsB_take {L M : List Int} {m : Int} (h : M.take m.toNat = L.take m.toNat) : entsB M m = entsB L m := by unfold entsB; rw [h]
theorem ents_len {L : List Int} {m : Int} (h0 : 0 ≤ m) (hm : m ≤ L.length) : ((entsB L m).length : Int) = m := by
  unfold entsB; rw [List.length_map, List.length_take]; omega
theorem sort_len {L : List Int} {m : Int} {R : List (List Int)} (h0 : 0 ≤ m) (hm : m ≤ L.length) (h : sortB (entsB L m) R = true) : (R.length : Int) = m := by
  rw [(sortB_iff.1 h).1.length_eq, ents_len h0 hm]
theorem sort_txn {L : List Int} {m : Int} {R : List (List Int)} (h : sortB (entsB L m) R = true) {r : List Int} (hr : r ∈ R) : r.getD 1 0 = 0 := by
  have := (sortB_iff.1 h).1.mem_iff.1 hr
  unfold entsB at this
  obtain ⟨p, _, rfl⟩ := List.mem_map.1 this
  rfl
theorem sel_free {L : List Int} {m : Int} {R : List (List Int)} (h0 : 0 ≤ m) (hm : m ≤ L.length) (h : sortB (entsB L m) R = true) : selB isFree R m = R.map pageOf := by
  unfold selB
  rw [List.take_of_length_le (by have := sort_len h0 hm h; omega), List.filter_eq_self.2]
  intro r hr
  simp only [isFree, beq_iff_eq]; exact sort_txn h hr
theorem sel_wait {L : List Int} {m : Int} {R : List (List Int)} (h0 : 0 ≤ m) (hm : m ≤ L.length) (h : sortB (entsB L m) R = true) : selB isWait R m = [] := by
  unfold selB
  rw [List.take_of_length_le (by have := sort_len h0 hm h; omega), List.filter_eq_nil_iff.2]
  · rfl
  · intro r hr
    have := sort_txn h hr
    simp only [isWait, decide_eq_true_eq]; omega
theorem sorted_alike {E R R' : List (List Int)} (h : sortB E R = true) (h' : sortB E R' = true) : R.map pageOf = R'.map pageOf := by
  have a := sortB_iff.1 h
  have b := sortB_iff.1 h'
  refine List.Perm.eq_of_pairwise (le := fun x y => x ≤ y) (fun x y _ _ h1 h2 => Int.le_antisymm h1 h2) (List.pairwise_map.2 a.2) (List.pairwise_map.2 b.2) ((a.1.trans b.1.symm).map _)
end
end Go.Proofs.Ytmjonggabppgaaa

/- FreeMakes where some number is no page. -/
set_option linter.unusedSimpArgs false
set_option linter.unusedVariables false
namespace Go.Proofs.Ytmjonggabppgaaa
noncomputable section
open Go.Eng
def makesBCtr : Ctr := ⟨[.int, .int, .int, .int, .ints], [.one (.slice (ai 0) (ai 1) (.int 0) (.int 0) (ai 2) (ai 3) 1)], [.ro (.ints .i64) (ai 0) (ai 1) (xsA 4)],
  [eLe (.int 0) (ai 2), eLe (ai 2) (.f1 30 (xsA 4)), eLe (ai 2) (ai 3), eLe (ai 2) (.int 1048576), .f1 2 (allNX (xsA 4) (ai 2))], [.bool], .one (.bool (.at .bool 5)), [], [.at .bool 5]⟩
def makesBCx : Cx := { specs := [(10, [Go.Eng.yes]), (11, [lentCtr]), (15, [asLentCtr]), (27, [newBCtr]), (28, [refNewBCtr]), (62, [pickFCtr, pickWCtr]), (65, [toldFCtr]), (23, [sameCtr])], anns := [] }
def makesBVc : VC := .imp (.f2 47 (.int 0) (.at .int 2)) (.imp (.f2 47 (.at .int 2) (.f1 30 (.at .ints 4))) (.imp (.f2 47 (.at .int 2) (.at .int 3)) (.imp (.f2 47 (.at 
    .int 2) (.int 1048576)) (.imp (.f1 2 (.us .bool 2 (.at .ints 4) (.at .int 2) (.int 0) (.int 0))) (.need (.f2 47 (.at .int 2) (.int 17592186044414)) 
    (.all 5 .int (.all 6 .ints (.all 7 .int (.imp (.f2 45 (.at .int 7) (.f2 40 (.at .int 2) (.int 2))) (.imp (.f2 47 (.int 0) (.at .int 5)) (.imp (.f2 153 
    (.at .ints 6) (.f2 119 (.f2 113 (.at .ints 4) (.at .int 2)) (.f2 122 (.int (-71)) (.f2 122 (.int (-72)) (.f1 152 (.int 0)))))) (.need (.f2 47 (.at 
    .int 2) (.f1 30 (.at .ints 6))) (.need (.f1 2 (.us .bool 2 (.at .ints 6) (.at .int 2) (.int 0) (.int 0))) (.need (.f2 45 (.at .int 2) (.at .int 2)) 
    (.need (.f2 45 (.f1 30 (.at .ints 6)) (.f2 40 (.at .int 2) (.int 2))) (.all 8 .bool (.all 9 .ints (.imp (.f2 48 (.at .bool 8) (.f2 49 (.f2 49 (.f2 153 
    (.f2 113 (.at .ints 6) (.at .int 2)) (.f2 113 (.at .ints 4) (.at .int 2))) (.f2 45 (.f2 110 (.at .ints 6) (.at .int 2)) (.int (-71)))) (.f2 45 (.f2 
    110 (.at .ints 6) (.f2 40 (.at .int 2) (.int 1))) (.int (-72))))) (.need (.at .bool 8) (.tt))))))))))))))))))))
theorem makesB_vc : vcOf Try.prog makesBCx 10 6 makesBCtr = makesBVc := by kernel_rfl

theorem makesB_ok {G : Type} (S : Sig G) (hS : FreeSig S) (hP : PickSig S) (hE : GhOk S emptW) : CtrOk S Try.prog 6 makesBCtr := by
  refine vcOf_sound S (C := makesBCx) (fuel := 10) ⟨specs_of (l := makesBCx.specs) (fun p hp sp hm => by
    simp only [makesBCx, List.mem_cons, List.not_mem_nil, or_false] at hp
    rcases hp with rfl | rfl | rfl | rfl | rfl | rfl | rfl | rfl <;> simp only [List.mem_cons, List.not_mem_nil, or_false] at hm <;> first | (subst hm; refine ⟨by decide, ?_⟩) | (rcases hm with rfl | rfl <;> refine ⟨by decide, ?_⟩)
    · exact live_ok S
    · exact lent_ok S
    · exact asLent_ok S
    · exact newB_ok S hS (sort_ok S hS)
    · exact refNewB_ok S hS hE
    · exact pickF_ok S hP
    · exact pickW_ok S hP
    · exact toldF_ok S hP
    · exact same_ok S), fun f l h i sp args hm => ?_, fun f sps h => by simp [makesBCx, assoc] at h⟩ fun ρ => ?_
  · simp only [makesBCx, assoc] at h
    cases h
  · rw [makesB_vc]
    obtain ⟨_, h1, h2, h3, h4, _⟩ := hS
    obtain ⟨u10, u11, _⟩ := hP
    simp only [makesBVc, VC.den, SX.den, U.co, Env.upd, h2, h4, h3, h1, u10, u11, p23, p46, p47, ap1_2, ap1_30, ap1_32, ap1_152, ap2_40, ap2_41, ap2_42, ap2_45, ap2_48, ap2_49, ap2_50, ap2_110, ap2_113, ap2_119, ap2_122, ap2_153, t47, U.toProp_bool, U.toBool_bool, Bool.not_eq_true', beq_eq_false_iff_ne, ne_eq, beq_iff_eq, i64_min', i64_max', Int.toNat_zero, toNat_one', U.toInt_int, U.toInts_ints, U.toBytes_bytes, U.toRows_rows, if_true, if_false, Nat.reduceEqDiff, reduceIte]
    generalize (ρ 4).toInts = L
    generalize (ρ 2).toInt = m
    generalize (ρ 3).toInt = c
    intro a1 a2 a3 a4 a5
    refine ⟨by omega, fun b L6 c6 e1 e2 e3 => ?_⟩
    have ht := lent_take a1 a2 e3
    have hl := lent_len a1 a2 e3
    exact ⟨by omega, by rw [allNB_take ht]; exact a5, trivial, hl, fun x _ hx => ⟨lent_good a1 a2 e3 hx, trivial⟩⟩
end
end Go.Proofs.Ytmjonggabppgaaa

/- FreeMakes where two numbers are alike. -/
set_option linter.unusedSimpArgs false
set_option linter.unusedVariables false
namespace Go.Proofs.Ytmjonggabppgaaa
noncomputable section
open Go.Eng
def makesCCtr : Ctr := ⟨[.int, .int, .int, .int, .ints], [.one (.slice (ai 0) (ai 1) (.int 0) (.int 0) (ai 2) (ai 3) 1)], [.ro (.ints .i64) (ai 0) (ai 1) (xsA 4)],
  [eLe (.int 0) (ai 2), eLe (ai 2) (.f1 30 (xsA 4)), eLe (ai 2) (ai 3), eLe (ai 2) (.int 1048576), allNX (xsA 4) (ai 2), .f1 2 (distX (xsA 4) (ai 2))], [.bool], .one (.bool (.at .bool 5)), [], [.at .bool 5]⟩
def makesCCx : Cx := { specs := [(10, [Go.Eng.yes]), (11, [lentCtr]), (15, [asLentCtr]), (27, [newCCtr]), (28, [refNewCCtr]), (62, [pickFCtr, pickWCtr]), (65, [toldFCtr]), (23, [sameCtr])], anns := [] }
def makesCVc : VC := .imp (.f2 47 (.int 0) (.at .int 2)) (.imp (.f2 47 (.at .int 2) (.f1 30 (.at .ints 4))) (.imp (.f2 47 (.at .int 2) (.at .int 3)) (.imp (.f2 47 (.at 
    .int 2) (.int 1048576)) (.imp (.us .bool 2 (.at .ints 4) (.at .int 2) (.int 0) (.int 0)) (.imp (.f1 2 (.us .bool 4 (.at .ints 4) (.at .int 2) (.int 0) 
    (.int 0))) (.need (.f2 47 (.at .int 2) (.int 17592186044414)) (.all 5 .int (.all 6 .ints (.all 7 .int (.imp (.f2 45 (.at .int 7) (.f2 40 (.at .int 2) 
    (.int 2))) (.imp (.f2 47 (.int 0) (.at .int 5)) (.imp (.f2 153 (.at .ints 6) (.f2 119 (.f2 113 (.at .ints 4) (.at .int 2)) (.f2 122 (.int (-71)) (.f2 
    122 (.int (-72)) (.f1 152 (.int 0)))))) (.need (.f2 47 (.at .int 2) (.f1 30 (.at .ints 6))) (.need (.us .bool 2 (.at .ints 6) (.at .int 2) (.int 0) 
    (.int 0)) (.need (.f1 2 (.us .bool 4 (.at .ints 6) (.at .int 2) (.int 0) (.int 0))) (.need (.f2 45 (.at .int 2) (.at .int 2)) (.need (.f2 45 (.f1 30 
    (.at .ints 6)) (.f2 40 (.at .int 2) (.int 2))) (.all 8 .bool (.all 9 .ints (.imp (.f2 48 (.at .bool 8) (.f2 49 (.f2 49 (.f2 153 (.f2 113 (.at .ints 6) 
    (.at .int 2)) (.f2 113 (.at .ints 4) (.at .int 2))) (.f2 45 (.f2 110 (.at .ints 6) (.at .int 2)) (.int (-71)))) (.f2 45 (.f2 110 (.at .ints 6) (.f2 40 
    (.at .int 2) (.int 1))) (.int (-72))))) (.need (.at .bool 8) (.tt))))))))))))))))))))))
theorem makesC_vc : vcOf Try.prog makesCCx 10 6 makesCCtr = makesCVc := by kernel_rfl

theorem makesC_ok {G : Type} (S : Sig G) (hS : FreeSig S) (hP : PickSig S) (hE : GhOk S emptW) : CtrOk S Try.prog 6 makesCCtr := by
  refine vcOf_sound S (C := makesCCx) (fuel := 10) ⟨specs_of (l := makesCCx.specs) (fun p hp sp hm => by
    simp only [makesCCx, List.mem_cons, List.not_mem_nil, or_false] at hp
    rcases hp with rfl | rfl | rfl | rfl | rfl | rfl | rfl | rfl <;> simp only [List.mem_cons, List.not_mem_nil, or_false] at hm <;> first | (subst hm; refine ⟨by decide, ?_⟩) | (rcases hm with rfl | rfl <;> refine ⟨by decide, ?_⟩)
    · exact live_ok S
    · exact lent_ok S
    · exact asLent_ok S
    · exact newC_ok S hS (sort_ok S hS)
    · exact refNewC_ok S hS hE
    · exact pickF_ok S hP
    · exact pickW_ok S hP
    · exact toldF_ok S hP
    · exact same_ok S), fun f l h i sp args hm => ?_, fun f sps h => by simp [makesCCx, assoc] at h⟩ fun ρ => ?_
  · simp only [makesCCx, assoc] at h
    cases h
  · rw [makesC_vc]
    obtain ⟨_, h1, h2, h3, h4, _⟩ := hS
    obtain ⟨u10, u11, _⟩ := hP
    simp only [makesCVc, VC.den, SX.den, U.co, Env.upd, h2, h4, h3, h1, u10, u11, p23, p46, p47, ap1_2, ap1_30, ap1_32, ap1_152, ap2_40, ap2_41, ap2_42, ap2_45, ap2_48, ap2_49, ap2_50, ap2_110, ap2_113, ap2_119, ap2_122, ap2_153, t47, U.toProp_bool, U.toBool_bool, Bool.not_eq_true', beq_eq_false_iff_ne, ne_eq, beq_iff_eq, i64_min', i64_max', Int.toNat_zero, toNat_one', U.toInt_int, U.toInts_ints, U.toBytes_bytes, U.toRows_rows, if_true, if_false, Nat.reduceEqDiff, reduceIte]
    generalize (ρ 4).toInts = L
    generalize (ρ 2).toInt = m
    generalize (ρ 3).toInt = c
    intro a1 a2 a3 a4 a5 a6
    refine ⟨by omega, fun b L6 c6 e1 e2 e3 => ?_⟩
    have ht := lent_take a1 a2 e3
    have hl := lent_len a1 a2 e3
    exact ⟨by omega, by rw [allNB_take ht]; exact a5, by rw [distB_take ht]; exact a6, trivial, hl, fun x _ hx => ⟨lent_good a1 a2 e3 hx, trivial⟩⟩
end
end Go.Proofs.Ytmjonggabppgaaa

/- FreeMakes where the numbers are pages, no two alike. -/
set_option linter.unusedSimpArgs false
set_option linter.unusedVariables false
namespace Go.Proofs.Ytmjonggabppgaaa
noncomputable section
open Go.Eng
def makesACtr : Ctr := ⟨[.int, .int, .int, .int, .ints], [.one (.slice (ai 0) (ai 1) (.int 0) (.int 0) (ai 2) (ai 3) 1)], [.ro (.ints .i64) (ai 0) (ai 1) (xsA 4)],
  [eLe (.int 0) (ai 2), eLe (ai 2) (.f1 30 (xsA 4)), eLe (ai 2) (ai 3), eLe (ai 2) (.int 1048576), allNX (xsA 4) (ai 2), distX (xsA 4) (ai 2)], [.bool], .one (.bool (.at .bool 5)), [], [.at .bool 5]⟩
def makesACx : Cx := { specs := [(10, [Go.Eng.yes]), (11, [lentCtr]), (15, [asLentCtr]), (27, [newACtr]), (28, [refNewACtr]), (62, [pickFCtr, pickWCtr]), (65, [toldFCtr]), (23, [sameCtr])], anns := [] }
def makesAVc : VC := .imp (.f2 47 (.int 0) (.at .int 2)) (.imp (.f2 47 (.at .int 2) (.f1 30 (.at .ints 4))) (.imp (.f2 47 (.at .int 2) (.at .int 3)) (.imp (.f2 47 (.at 
    .int 2) (.int 1048576)) (.imp (.us .bool 2 (.at .ints 4) (.at .int 2) (.int 0) (.int 0)) (.imp (.us .bool 4 (.at .ints 4) (.at .int 2) (.int 0) (.int 
    0)) (.need (.f2 47 (.at .int 2) (.int 17592186044414)) (.all 5 .int (.all 6 .ints (.all 7 .int (.imp (.f2 45 (.at .int 7) (.f2 40 (.at .int 2) (.int 
    2))) (.imp (.f2 47 (.int 0) (.at .int 5)) (.imp (.f2 153 (.at .ints 6) (.f2 119 (.f2 113 (.at .ints 4) (.at .int 2)) (.f2 122 (.int (-71)) (.f2 122 
    (.int (-72)) (.f1 152 (.int 0)))))) (.need (.f2 47 (.at .int 2) (.f1 30 (.at .ints 6))) (.need (.us .bool 2 (.at .ints 6) (.at .int 2) (.int 0) (.int 
    0)) (.need (.us .bool 4 (.at .ints 6) (.at .int 2) (.int 0) (.int 0)) (.all 8 .int (.all 9 .int (.all 10 .int (.all 11 .rows (.imp (.us .bool 1 (.us 
    .rows 3 (.at .ints 6) (.at .int 2) (.int 0) (.int 0)) (.at .rows 11) (.int 0) (.int 0)) (.imp (.f2 47 (.int 0) (.at .int 8)) (.all 12 .int (.all 13 
    .int (.all 14 .int (.all 15 .rows (.imp (.us .bool 1 (.us .rows 3 (.at .ints 4) (.at .int 2) (.int 0) (.int 0)) (.at .rows 15) (.int 0) (.int 0)) 
    (.imp (.f2 47 (.int 0) (.at .int 12)) (.need (.f2 45 (.at .int 2) (.at .int 2)) (.need (.f2 45 (.f1 30 (.at .ints 6)) (.f2 40 (.at .int 2) (.int 2))) 
    (.all 16 .bool (.all 17 .ints (.imp (.f2 48 (.at .bool 16) (.f2 49 (.f2 49 (.f2 153 (.f2 113 (.at .ints 6) (.at .int 2)) (.f2 113 (.at .ints 4) (.at 
    .int 2))) (.f2 45 (.f2 110 (.at .ints 6) (.at .int 2)) (.int (-71)))) (.f2 45 (.f2 110 (.at .ints 6) (.f2 40 (.at .int 2) (.int 1))) (.int (-72))))) 
    (.and (.imp (.f2 47 (.int 0) (.at .int 8)) (.and (.tt) (.imp (.f2 47 (.int 0) (.at .int 12)) (.need (.f2 47 (.at .int 2) (.f1 32 (.at .rows 11))) 
    (.all 18 .int (.all 19 .int (.all 20 .int (.all 21 .ints (.imp (.f2 45 (.f1 30 (.at .ints 21)) (.at .int 19)) (.imp (.f2 47 (.int 0) (.at .int 19)) 
    (.imp (.f2 47 (.at .int 19) (.at .int 2)) (.imp (.f2 153 (.at .ints 21) (.us .ints 10 (.at .rows 11) (.at .int 2) (.int 0) (.int 0))) (.need (.f2 47 
    (.at .int 2) (.f1 32 (.at .rows 15))) (.all 22 .int (.all 23 .int (.all 24 .int (.all 25 .ints (.imp (.f2 45 (.f1 30 (.at .ints 25)) (.at .int 23)) 
    (.imp (.f2 47 (.int 0) (.at .int 23)) (.imp (.f2 47 (.at .int 23) (.at .int 2)) (.imp (.f2 153 (.at .ints 25) (.us .ints 10 (.at .rows 15) (.at .int 
    2) (.int 0) (.int 0))) (.all 26 .int (.all 27 .int (.all 28 .int (.all 29 .ints (.imp (.f2 45 (.f1 30 (.at .ints 29)) (.at .int 27)) (.imp (.f2 47 
    (.int 0) (.at .int 27)) (.imp (.f2 47 (.at .int 27) (.at .int 2)) (.imp (.f2 153 (.at .ints 29) (.us .ints 11 (.at .rows 11) (.at .int 2) (.int 0) 
    (.int 0))) (.need (.f2 47 (.at .int 19) (.f1 30 (.at .ints 21))) (.need (.f2 47 (.at .int 19) (.int 140737488355328)) (.need (.f2 47 (.at .int 23) 
    (.f1 30 (.at .ints 25))) (.need (.f2 47 (.at .int 23) (.int 140737488355328)) (.all 30 .bool (.imp (.f2 48 (.at .bool 30) (.f2 153 (.f2 113 (.at .ints 
    21) (.at .int 19)) (.f2 113 (.at .ints 25) (.at .int 23)))) (.and (.imp (.at .bool 16) (.and (.imp (.at .bool 30) (.need (.f2 45 (.at .int 27) (.int 
    0)) (.tt))) (.imp (.f1 2 (.at .bool 30)) (.need (.bool false) (.tt))))) (.imp (.f1 2 (.at .bool 16)) (.need (.bool false) 
    (.tt))))))))))))))))))))))))))))))))))))))) (.tt))))))))))))))))))))))))))))))))))
theorem makesA_vc : vcOf Try.prog makesACx 10 6 makesACtr = makesAVc := by kernel_rfl

theorem makesA_ok {G : Type} (S : Sig G) (hS : FreeSig S) (hP : PickSig S) (hE : GhOk S emptW) : CtrOk S Try.prog 6 makesACtr := by
  refine vcOf_sound S (C := makesACx) (fuel := 10) ⟨specs_of (l := makesACx.specs) (fun p hp sp hm => by
    simp only [makesACx, List.mem_cons, List.not_mem_nil, or_false] at hp
    rcases hp with rfl | rfl | rfl | rfl | rfl | rfl | rfl | rfl <;> simp only [List.mem_cons, List.not_mem_nil, or_false] at hm <;> first | (subst hm; refine ⟨by decide, ?_⟩) | (rcases hm with rfl | rfl <;> refine ⟨by decide, ?_⟩)
    · exact live_ok S
    · exact lent_ok S
    · exact asLent_ok S
    · exact newA_ok S hS (sort_ok S hS)
    · exact refNewA_ok S hS hE
    · exact pickF_ok S hP
    · exact pickW_ok S hP
    · exact toldF_ok S hP
    · exact same_ok S), fun f l h i sp args hm => ?_, fun f sps h => by simp [makesACx, assoc] at h⟩ fun ρ => ?_
  · simp only [makesACx, assoc] at h
    cases h
  · rw [makesA_vc]
    obtain ⟨_, h1, h2, h3, h4, _⟩ := hS
    obtain ⟨u10, u11, _⟩ := hP
    simp only [makesAVc, VC.den, SX.den, U.co, Env.upd, h2, h4, h3, h1, u10, u11, p23, p46, p47, ap1_2, ap1_30, ap1_32, ap1_152, ap2_40, ap2_41, ap2_42, ap2_45, ap2_48, ap2_49, ap2_50, ap2_110, ap2_113, ap2_119, ap2_122, ap2_153, t47, U.toProp_bool, U.toBool_bool, Bool.not_eq_true', beq_eq_false_iff_ne, ne_eq, beq_iff_eq, i64_min', i64_max', Int.toNat_zero, toNat_one', U.toInt_int, U.toInts_ints, U.toBytes_bytes, U.toRows_rows, if_true, if_false, Nat.reduceEqDiff, reduceIte]
    generalize (ρ 4).toInts = L
    generalize (ρ 2).toInt = m
    generalize (ρ 3).toInt = c
    intro a1 a2 a3 a4 a5 a6
    refine ⟨by omega, fun b L6 c6 e1 e2 e3 => ?_⟩
    have ht := lent_take a1 a2 e3
    have hl := lent_len a1 a2 e3
    refine ⟨by omega, by rw [allNB_take ht]; exact a5, by rw [distB_take ht]; exact a6, fun p q r R f1 f2 p' q' r' R' g1 g2 => ⟨trivial, hl, fun x _ hx => ?_⟩⟩
    have hx := lent_good a1 a2 e3 hx
    subst hx
    rw [entsB_take ht] at f1
    have hR := sort_len a1 a2 f1
    have hR' := sort_len a1 a2 g1
    rw [sel_free a1 a2 f1, sel_wait a1 a2 f1, sel_free a1 a2 g1, ← sorted_alike f1 g1]
    refine ⟨fun _ => ⟨trivial, fun _ => ⟨by omega, fun p1 l1 c1 F1 h1 h2 h3 h4 => ⟨by omega, fun p2 l2 c2 F2 k1 k2 k3 k4 p3 l3 c3 F3 t1 t2 t3 t4 => ⟨by omega, by omega, by omega, by omega, fun y hy => ?_⟩⟩⟩⟩, trivial⟩
    have hy : y = true := by rw [hy, List.take_of_length_le (by omega), List.take_of_length_le (by omega), h4, k4]; exact beq_self_eq_true _
    have h3 : l3 = 0 := by rw [← t1, t4]; rfl
    exact ⟨fun _ => ⟨fun _ => ⟨h3, trivial⟩, fun h => by rw [hy] at h; cases h⟩, fun h => by cases h⟩
end
end Go.Proofs.Ytmjonggabppgaaa

/- FreeMakes answers true, and its numbers stay as they are, where they are of bulk at most 1048576. No other condition. -/
namespace Go.Proofs.Ytmjonggabppgaaa.freeMakes
open Go.ChangeShapes Go.WideShapes Go.ChangeAt Go.RowKit
open Go.Eng (post_below Sig CtrOk GhOk emp star sat_none Sat Env U Ctr eLe)
set_option linter.unusedVariables false
set_option linter.unusedSimpArgs false

theorem own : ownKnob Try.prog.godebug = none := by kernel_rfl
noncomputable def usr (n : Nat) (a b c d : U Unit) : U Unit :=
  match n with
  | 0 => .bool (adjB a.toRows b.toInt) | 1 => .bool (sortB a.toRows b.toRows) | 2 => .bool (allNB a.toInts b.toInt) | 3 => .rows (entsB a.toInts b.toInt) | 4 => .bool (distB a.toInts b.toInt)
  | 5 => .bool (a.toRows == b.toRows) | 6 => .bool (hasB a.toRows b.toInt c.toInt) | 7 => .rows (insRow c.toInts (nrm a.toRows b.toInt)) | 8 => .bool (inB a.toRows b.toInt c.toInts d.toRows)
  | 9 => .bool (outB a.toRows b.toInt c.toInts d.toRows) | 10 => .ints (selB isFree a.toRows b.toInt) | 11 => .ints (selB isWait a.toRows b.toInt) | 12 => .ints (selB (fun _ => true) a.toRows b.toInt)
  | 13 => .ints (selB isAny a.toRows b.toInt) | _ => .int 0
noncomputable def sig : Sig Unit := { dg := (), ch := fun _ => true, usr := usr, prd := fun _ _ _ _ => emp }
theorem hS : FreeSig sig := ⟨fun _ _ _ _ => rfl, fun _ _ _ _ => rfl, fun _ _ _ _ => rfl, fun _ _ _ _ => rfl, fun _ _ _ _ => rfl, fun _ _ _ _ => rfl, fun _ _ _ _ => rfl, fun _ _ _ _ => rfl, fun _ _ _ _ => rfl, fun _ _ _ _ => rfl⟩
theorem hP : PickSig sig := ⟨fun _ _ _ _ => rfl, fun _ _ _ _ => rfl, fun _ _ _ _ => rfl, fun _ _ _ _ => rfl⟩
theorem hE : GhOk sig emptW := by
  have h := empt_gh sig
  exact h
noncomputable def env (b o l c : Int) (L : List Int) : Env Unit := fun i => match i with | 0 => .int b | 1 => .int o | 2 => .int l | 3 => .int c | _ => .ints L
/-- Numbers in memory: the law's call. -/
theorem walk (b o l c : Int) (L : List Int) (w : World) (h0 : 0 ≤ l) (h1 : l ≤ L.length) (h2 : l ≤ c) (h3 : l ≤ 1048576)
    (hr : (0 ≤ b ∨ L.map (Value.int .i64) = []) ∧ ∀ i v, (L.map (Value.int .i64))[i]? = some v → b.toNat < w.heap.size ∧ w.cell? ⟨b.toNat, o.toNat + i, none⟩ = some v) :
    Calls Try.prog 6 #[.slice (if b < 0 then none else some ⟨b.toNat, o.toNat, none⟩) l.toNat c.toNat] w fun e w' => e = .returned (.bool true) ∧ Below w.heap.size w w' := by
  have key : ∀ sp : Ctr, sp.ss.length = 5 → sp.args = makesACtr.args → sp.pre = makesACtr.pre → sp.res = makesACtr.res → sp.post = [] → sp.facts = makesACtr.facts → (∀ e ∈ sp.reqs, (e.den sig (env b o l c L)).toProp) →
      CtrOk sig Try.prog 6 sp →
      Calls Try.prog 6 #[.slice (if b < 0 then none else some ⟨b.toNat, o.toNat, none⟩) l.toNat c.toNat] w fun e w' => e = .returned (.bool true) ∧ Below w.heap.size w w' := by
    intro sp hl ha hp hrs hpo hf hq hok
    have := hok (fun _ => true) w emp (env b o l c L) w [.slice (if b < 0 then none else some ⟨b.toNat, o.toNat, none⟩) l.toNat c.toNat] (by
      rw [ha]
      refine ⟨.inr ?_, trivial⟩
      simp [Go.Eng.SV.den, Go.Eng.SC.den, Go.Eng.SX.den, ai, env, U.co]) hq (by
      rw [hp]
      obtain ⟨x, hx, hi⟩ := sat_none w
      rw [Go.Eng.emp_star] at hx
      refine ⟨x, ?_, hi⟩
      have e : Go.Eng.hpDen (sig.wc fun _ => true) (env b o l c L) w makesACtr.pre = star (Go.Eng.roDen sig w (.ints .i64) (.int b) (.int o) (.ints L)) emp := rfl
      rw [e, Go.Eng.star_assoc, Go.Eng.roDen, Go.Eng.star_pure, Go.Eng.emp_star]
      exact ⟨hr, hx⟩)
    refine this.mono ?_
    rintro e w' ⟨ρ', v, hx, rfl, hv, hs, hfa⟩
    rw [hrs] at hv
    have hv := Go.Eng.R_one sig ρ' hv
    have := hfa (.at .bool 5) (by rw [hf]; exact List.mem_cons_self)
    subst hv
    refine ⟨?_, hs.below⟩
    have h5 : (ρ' 5).toBool = true := by simpa [Go.Eng.SX.den, U.co] using this
    simp [Go.Eng.SC.den, Go.Eng.SX.den, U.co, h5]
  have q0 : ((eLe (.int 0) (ai 2)).den sig (env b o l c L)).toProp := by simpa [eLe, Go.Eng.SX.mk2, Go.Eng.SX.den, Go.Eng.ap2, ai, env, U.co] using h0
  have q1 : ((eLe (ai 2) (.f1 30 (xsA 4))).den sig (env b o l c L)).toProp := by simpa [eLe, Go.Eng.SX.mk2, Go.Eng.SX.den, Go.Eng.ap1, Go.Eng.ap2, ai, xsA, env, U.co] using h1
  have q2 : ((eLe (ai 2) (ai 3)).den sig (env b o l c L)).toProp := by simpa [eLe, Go.Eng.SX.mk2, Go.Eng.SX.den, Go.Eng.ap2, ai, env, U.co] using h2
  have q3 : ((eLe (ai 2) (.int 1048576)).den sig (env b o l c L)).toProp := by simpa [eLe, Go.Eng.SX.mk2, Go.Eng.SX.den, Go.Eng.ap2, ai, env, U.co] using h3
  have e1 : ((allNX (xsA 4) (ai 2)).den sig (env b o l c L)) = .bool (allNB L l) := rfl
  have e2 : ((distX (xsA 4) (ai 2)).den sig (env b o l c L)) = .bool (distB L l) := rfl
  have n1 : ((Go.Eng.SX.f1 2 (allNX (xsA 4) (ai 2))).den sig (env b o l c L)) = .bool (!allNB L l) := rfl
  have n2 : ((Go.Eng.SX.f1 2 (distX (xsA 4) (ai 2))).den sig (env b o l c L)) = .bool (!distB L l) := rfl
  cases ha : allNB L l
  · refine key makesBCtr rfl rfl rfl rfl rfl rfl (fun e he => ?_) (makesB_ok sig hS hP hE)
    simp only [makesBCtr, List.mem_cons, List.not_mem_nil, or_false] at he
    rcases he with rfl | rfl | rfl | rfl | rfl
    · exact q0
    · exact q1
    · exact q2
    · exact q3
    · rw [n1, ha]; rfl
  · cases hd : distB L l
    · refine key makesCCtr rfl rfl rfl rfl rfl rfl (fun e he => ?_) (makesC_ok sig hS hP hE)
      simp only [makesCCtr, List.mem_cons, List.not_mem_nil, or_false] at he
      rcases he with rfl | rfl | rfl | rfl | rfl | rfl
      · exact q0
      · exact q1
      · exact q2
      · exact q3
      · rw [e1, ha]; rfl
      · rw [n2, hd]; rfl
    · refine key makesACtr rfl rfl rfl rfl rfl rfl (fun e he => ?_) (makesA_ok sig hS hP hE)
      simp only [makesACtr, List.mem_cons, List.not_mem_nil, or_false] at he
      rcases he with rfl | rfl | rfl | rfl | rfl | rfl
      · exact q0
      · exact q1
      · exact q2
      · exact q3
      · rw [e1, ha]; rfl
      · rw [e2, hd]; rfl

theorem bulk_len {H : Type} : ∀ l : List (DataW H), l.length ≤ Rows.uptoBulkAll l
  | [] => by simp [Rows.uptoBulkAll]
  | d :: r => by
    have h1 : 1 ≤ Rows.uptoBulk d := by
      cases d with
      | lit l => cases l <;> simp [Rows.uptoBulk]
      | _ => simp [Rows.uptoBulk]
    have := bulk_len r
    simp only [Rows.uptoBulkAll, List.length_cons]; omega
theorem laid : laidOutB Try.prog = true := by kernel_rfl
set_option maxRecDepth 100000 in
theorem contract (H : Type) (enc : TypeId × Value → H) (W : World) (base : Nat) (args : Array Value) (ds gs : List (DataW H)) (before : List MemPlace)
    (hval : ∀ (j : Nat) t v, Try.f6.params[j]? = some t → args[j]? = some v → Value.okWide Try.prog W .any base t v)
    (hW : DataW.Whole enc Try.prog Try.f6.params.toList Rows.freeMakesSpec.vars false W args.toList ds gs before) (hk : Rows.uptoSmall H (ds ++ gs) = true) :
    Calls Try.prog 6 args W fun e W' => ∃ v, e = .returned v ∧ Rows.freeMakesSpec.post enc Try.prog Try.f6 false true false false W args v W' := by
  have hW' := hW
  obtain ⟨p, q, hA0, hV, rfl, hfz, hnd⟩ := hW
  have hA : DataW.TrodAll enc Try.prog W 0 (fun _ => true) true Try.f6.params.toList args.toList ds p := hA0
  rw [Try.params6] at hA hval
  obtain ⟨v0, vs0, d0, ds0, p0, q0, hargs, rfl, rfl, h0, r0⟩ := trodAll_cons hA
  obtain ⟨rfl, rfl, rfl⟩ := trodAll_nil r0
  obtain rfl : args = #[v0] := by cases args; simp_all
  obtain ⟨rfl, rfl⟩ := trodVars_none hV
  have h0k := h0
  have hlt : ∀ x ∈ p0, x.block < W.heap.size := fun x hx => hW'.lt x (by simpa using hx)
  have fin : ∀ (e : Ending) (W' : World), (e = .returned (.bool true) ∧ Below W.heap.size W W') → ∃ v, e = .returned v ∧ Rows.freeMakesSpec.post enc Try.prog Try.f6 false true false false W #[v0] v W' := by
    rintro e W' ⟨rfl, hb⟩
    clear hA0
    simp only [List.append_nil] at hW'
    exact ⟨_, rfl, post_below (pa := p0) (pv := []) hW' (fun _ _ _ => (trodAll_cons_mk (shut_bool Try.underlying4 _) trodAll_mk0))
      (fun sp hsp => trodAll_mk1 (WideElems.Trod_stays laid (by kernel_rfl) (of_decide_eq_true (by kernel_rfl)) h0k (fun x hx => hb.same (hlt x hx)) (fun x hx => hsp x hx))) (fun _ _ => rfl) (by simp) hb
      (ok_one (by kernel_rfl) rfl (okWide_bool_mk Try.underlying4 _))⟩
  obtain ⟨fuel, hf⟩ := h0
  have hv0 := hval 0 23 v0 rfl rfl
  obtain ⟨a0, len, cap, rfl⟩ := okWide_slice Try.underlying23 hv0
  rcases open_ints Try.underlying23 Try.underlying3 (by kernel_rfl) hf with ⟨hcs, hx⟩ | ⟨a, len', cap', zs, hcs, _, hl, hm, hz, hx, hcell, hwz⟩
  · simp [Value.cells] at hcs
    obtain ⟨rfl, rfl, rfl⟩ := hcs
    refine Calls.mono ?_ fin
    have := walk (-1) 0 0 0 [] W (by decide) (by decide) (by decide) (by decide) ⟨.inr rfl, fun i v h => by simp at h⟩
    rw [if_pos (by decide)] at this
    exact this
  · simp [Value.cells] at hcs
    obtain ⟨rfl, rfl, rfl⟩ := hcs
    simp only [Prod.mk.injEq] at hx
    obtain ⟨rfl, rfl⟩ := hx
    simp only [if_true] at hz
    have hspot : a.spot = none := by
      unfold Value.okWide at hv0
      rw [Try.underlying23] at hv0
      unfold Cell.okWide at hv0
      rw [Try.underlying23] at hv0
      simp only [Cell.ok] at hv0
      rw [Try.underlying23] at hv0
      exact hv0.2.2.2.1
    have hb1 : len ≤ 1048576 := by
      have h1 : Rows.uptoBulkAll ([DataW.slice (lits .i64 (zs.take len)) (lits .i64 (zs.drop len))] ++ [] : List (DataW H)) ≤ 1048576 := of_decide_eq_true hk
      have h2 := bulk_len (lits (H := H) .i64 (zs.take len))
      simp only [List.singleton_append, Rows.uptoBulkAll, Rows.uptoBulk] at h1
      simp only [lits, List.length_map, List.length_take] at h2
      unfold lits at h1
      omega
    obtain ⟨b, off, spot⟩ := a
    subst hspot
    refine Calls.mono ?_ fin
    have := walk b off len cap zs W (by omega) (by omega) (by omega) (by omega) ⟨.inl (by omega), fun i v h => by
      rw [List.getElem?_map, Option.map_eq_some_iff] at h
      obtain ⟨x, hx, rfl⟩ := h
      have hi : i < zs.length := (List.getElem?_eq_some_iff.1 hx).1
      have hc := hcell i hi
      rw [add_plain] at hc
      rw [List.getD_eq_getElem?_getD, hx] at hc
      exact ⟨by simpa using (World.block_lt_of_cell? W ⟨b, off + i, none⟩ hc), by simpa using hc⟩⟩
    rw [if_neg (by omega)] at this
    simpa using this

set_option maxRecDepth 100000 in
theorem lifted (os : Os) (started : os.Started) (H : Type) (enc : TypeId × Value → H) (F : Stop.Interp) :
    ReturnsInHanded {} Try.checked os 6 .any ((Rows.OpenSpec.upto Rows.freeMakesSpec).pre6 enc Try.prog Try.f6 Rows.freeMakesUptoRow.domain false) (((Rows.OpenSpec.upto Rows.freeMakesSpec).at F).post enc Try.prog Try.f6 false true false false) := by
  refine returnsInHanded_of_cond (C := Try.checked) (s := Rows.OpenSpec.upto Rows.freeMakesSpec) (k := Rows.uptoSmall) rfl own started (by kernel_rfl) Try.func6
    (OpenSpec.witness (enc := enc) (C := Try.checked) (s := Rows.OpenSpec.upto Rows.freeMakesSpec) (k := Rows.uptoSmall) rfl false ⟨#[], #[.slice none 0 0], []⟩ 8 (by kernel_rfl) (by kernel_rfl) (by kernel_rfl)
      (x := ([.nil], [], [])) (by kernel_rfl) rfl (by kernel_rfl)) ?_
  intro W base args ds gs before hval hW _ hk _
  exact contract H enc W base args ds gs before hval hW hk

theorem over : Rows.freeMakesUptoRow.holds Try.pinned (Rows.OpenSpec.upto Rows.freeMakesSpec) :=
  OpenClaim.holds_of_cond 6 Try.f6 rfl rfl rfl rfl rfl rfl rfl ⟨rfl, rfl, rfl, rfl, rfl⟩ rfl rfl rfl rfl rfl (by kernel_rfl) Try.func6 (by kernel_rfl)
    (of_decide_eq_true (by kernel_rfl)) (by unfold Func.isWrapper; first | (rw [if_pos (by decide +kernel)]; kernel_rfl) | (rw [if_neg (by decide +kernel)]; exact ⟨rfl, rfl⟩))
    (fun os started H enc _ F => lifted os started H enc F)

/-- The statement. -/
theorem proved : Rows.FreeMakesUptoSaid :=
  over
#print axioms proved
end Go.Proofs.Ytmjonggabppgaaa.freeMakes
