/- Numbers as their owner hands them in: a new list, two marks behind. -/
import Derived.Test.YtmjonggabppgaaaPe4
import Derived.Test.YtmjonggabppgaaaPe5
import Derived.Test.YtmjonggabppgaaaPe6
import Derived.Test.YtmjonggabppgaaaPe3
import Derived.Deep.Slices
set_option linter.unusedSimpArgs false
set_option linter.unusedVariables false
namespace Go.Proofs.Ytmjonggabppgaaa
noncomputable section
open Go.Eng
def lentCtr : Ctr := ⟨[.int, .int, .int, .int, .ints, .int],
  [.one (.slice (ai 0) (ai 1) (.int 0) (.int 0) (ai 2) (ai 3) 1)], [rdI 0 0],
  [eLe (.int 0) (ai 2), eLe (ai 2) (.f1 30 (xsA 4)), eLe (ai 2) (ai 3), eLe (ai 2) (.int 17592186044414)], [.int, .ints, .int],
  .one (.slice (ai 6) (.int 0) (.int 0) (.int 0) (ai 2) (ai 8) 1), [rdI 0 0, .arr (.ints .i64) (ai 6) (xsA 7) (ai 8)],
  [eEq (ai 8) (SX.mk2 40 (ai 2) (.int 2)), eLe (.int 0) (ai 6), .f2 153 (xsA 7) (.f2 119 (.f2 113 (xsA 4) (ai 2)) (.f2 122 (.int (-71)) (.f2 122 (.int (-72)) (.f1 152 (.int 0)))))]⟩
def lentCx : Cx := { specs := [], anns := [] }
-- BEGIN VC lent
def lentVc : VC := (.imp (.f2 47 (.int 0) (.at .int 2)) (.imp (.f2 47 (.at .int 2) (.f1 30 (.at .ints 4))) (.imp (.f2 47 (.at .int 2) (.at .int 3)) (.imp (.f2 47 (.at
    .int 2) (.int 17592186044414)) (.need (.f1 23 (.f2 40 (.at .int 2) (.int 2))) (.need (.f2 47 (.int 0) (.f2 40 (.at .int 2) (.int 2))) (.need (.f2
    47 (.f2 40 (.at .int 2) (.int 2)) (.f2 40 (.at .int 2) (.int 2))) (.need (.f2 47 (.f2 42 (.f2 40 (.at .int 2) (.int 2)) (.int 8)) (.int
    140737488355328)) (.all 6 .int (.imp (.f2 47 (.int 0) (.at .int 6)) (.need (.f2 46 (.at .int 2) (.f2 40 (.at .int 2) (.int 2))) (.need (.f2 46 (.at
    .int 2) (.f2 40 (.f1 30 (.f2 113 (.f2 125 (.f2 40 (.at .int 2) (.int 2)) (.int 0)) (.int 0))) (.f2 40 (.f1 30 (.f2 113 (.f2 113 (.at .ints 4) (.at
    .int 2)) (.f2 51 (.at .int 2) (.f2 40 (.at .int 2) (.int 2))))) (.f1 30 (.f2 116 (.f2 125 (.f2 40 (.at .int 2) (.int 2)) (.int 0)) (.f2 51 (.at
    .int 2) (.f2 40 (.at .int 2) (.int 2)))))))) (.need (.f1 23 (.f2 40 (.at .int 2) (.int 1))) (.need (.f2 47 (.int 0) (.f2 40 (.at .int 2) (.int 1)))
    (.need (.f2 46 (.f2 40 (.at .int 2) (.int 1)) (.f2 40 (.at .int 2) (.int 2))) (.need (.f2 46 (.f2 40 (.at .int 2) (.int 1)) (.f2 40 (.f1 30 (.f2
    113 (.f2 125 (.f2 40 (.at .int 2) (.int 2)) (.int 0)) (.int 0))) (.f2 40 (.f1 30 (.f2 113 (.f2 113 (.at .ints 4) (.at .int 2)) (.f2 51 (.at .int 2)
    (.f2 40 (.at .int 2) (.int 2))))) (.f1 30 (.f2 116 (.f2 125 (.f2 40 (.at .int 2) (.int 2)) (.int 0)) (.f2 51 (.at .int 2) (.f2 40 (.at .int 2)
    (.int 2)))))))) (.need (.f2 47 (.at .int 2) (.f2 40 (.at .int 2) (.int 2))) (.need (.f2 45 (.f2 40 (.at .int 2) (.int 2)) (.f2 40 (.at .int 2)
    (.int 2))) (.need (.f2 153 (.f3 130 (.f3 130 (.f2 119 (.f2 113 (.f2 125 (.f2 40 (.at .int 2) (.int 2)) (.int 0)) (.int 0)) (.f2 119 (.f2 113 (.f2
    113 (.at .ints 4) (.at .int 2)) (.f2 51 (.at .int 2) (.f2 40 (.at .int 2) (.int 2)))) (.f2 116 (.f2 125 (.f2 40 (.at .int 2) (.int 2)) (.int 0))
    (.f2 51 (.at .int 2) (.f2 40 (.at .int 2) (.int 2)))))) (.at .int 2) (.int (-(70 + 1)))) (.f2 40 (.at .int 2) (.int 1)) (.int (-(71 + 1)))) (.f2
    119 (.f2 113 (.at .ints 4) (.at .int 2)) (.f2 122 (.int (-(70 + 1))) (.f2 122 (.int (-(71 + 1))) (.f1 152 (.int 0)))))) .tt)))))))))))))))))))
theorem lent_vc : vcOf Try.prog lentCx 10 11 lentCtr = lentVc := by kernel_rfl
-- END VC lent
theorem lent_list (L : List Int) (n : Nat) (h : n ≤ L.length) :
    (((List.replicate (n + 2) (0 : Int)).take 0 ++ ((L.take n).take n ++ (List.replicate (n + 2) (0 : Int)).drop n)).set n (-71)).set (n + 1) (-72) = L.take n ++ [-71, -72] := by
  have hl : (L.take n).length = n := by rw [List.length_take]; omega
  have hd : (List.replicate (n + 2) (0 : Int)).drop n = [0, 0] := by rw [List.drop_replicate]; simp [show n + 2 - n = 2 by omega]
  rw [List.take_zero, List.nil_append, List.take_of_length_le (by omega), hd, List.set_append_right _ _ (by omega), List.set_append_right _ _ (by omega), hl]
  simp [show n + 1 - n = 1 by omega]
theorem lent_ok {G : Type} (S : Sig G) : CtrOk S Try.prog 11 lentCtr := by
  refine vcOf_sound S (C := lentCx) (fuel := 10) ⟨fun f sps h => by simp [lentCx, assoc] at h, fun f l h i sp args hm => ?_, fun f sps h => by simp [lentCx, assoc] at h⟩ fun ρ => ?_
  · simp only [lentCx, assoc] at h
    cases h
  · rw [lent_vc]
    simp only [lentVc, VC.den, SX.den, U.co, Env.upd, p23, p45, p46, p47, p153, ap1_30, ap1_152, ap2_40, ap2_42, ap2_51i, ap2_113, ap2_116, ap2_119, ap2_122, ap2_125, ap3_130, U.toInt_int, U.toInts_ints, U.toBytes_bytes, U.toRows_rows, if_true, if_false, Nat.reduceEqDiff, reduceIte]
    generalize (ρ 4).toInts = A
    generalize (ρ 2).toInt = m
    generalize (ρ 3).toInt = c
    intro h1 h2 h3 h4
    have hmin : imin m (m + 2) = m := imin_left (by omega)
    have e2 : (m + 2).toNat = m.toNat + 2 := by omega
    have e1 : (m + 1).toNat = m.toNat + 1 := by omega
    simp only [hmin]
    rw [e2, e1]
    have hA : (A.take m.toNat).length = m.toNat := by rw [List.length_take]; omega
    repeat' (first | exact trivial | apply And.intro | intro _)
    all_goals first
      | omega
      | (show (-(2 ^ 63) : Int) ≤ _; omega)
      | (show _ ≤ (2 ^ 63 - 1 : Int); omega)
      | (simp only [List.length_take, List.length_drop, List.length_replicate]; omega)
      | exact lent_list A m.toNat (by omega)
end
end Go.Proofs.Ytmjonggabppgaaa

/- Are the numbers that were handed in as they were? Then their owner writes over them. -/
set_option linter.unusedSimpArgs false
set_option linter.unusedVariables false
namespace Go.Proofs.Ytmjonggabppgaaa
noncomputable section
open Go.Eng
def asLentCtr : Ctr := ⟨[.int, .ints, .int, .int, .int, .int, .int, .int, .int, .ints, .int],
  [.one (.slice (ai 0) (.int 0) (.int 0) (.int 0) (ai 2) (ai 3) 1), .one (.slice (ai 5) (ai 6) (.int 0) (.int 0) (ai 7) (ai 8) 1)], [.arr (.ints .i64) (ai 0) (xsA 1) (ai 4), rdI 0 5],
  [eLe (.int 0) (ai 2), eEq (ai 2) (ai 7), eEq (.f1 30 (xsA 1)) (.f2 40 (ai 2) (.int 2)), eEq (ai 3) (.f2 40 (ai 2) (.int 2)), eLe (ai 7) (.f1 30 (xsA 9)), eLe (ai 2) (.int 17592186044414)], [.bool, .ints],
  .one (.bool (.at .bool 11)), [.arr (.ints .i64) (ai 0) (xsA 12) (ai 4), rdI 0 5],
  [.f2 48 (.at .bool 11) (.f2 49 (.f2 49 (.f2 153 (.f2 113 (xsA 1) (ai 2)) (.f2 113 (xsA 9) (ai 2))) (.f2 45 (.f2 110 (xsA 1) (ai 2)) (.int (-71)))) (.f2 45 (.f2 110 (xsA 1) (.f2 40 (ai 2) (.int 1))) (.int (-72))))]⟩
def asLentInv : Inv := ⟨[.int, .ints], [(8, .one (.int .i64 (di 0)))], [.arr (.ints .i64) (ai 0) (xsA 1000001) (ai 4)], [eLe (.int 0) (di 0), eLe (di 0) (.f2 40 (ai 2) (.int 2)), eEq (.f1 30 (xsA 1000001)) (.f2 40 (ai 2) (.int 2))], .f2 41 (.f2 40 (ai 2) (.int 2)) (di 0)⟩
def asLentCx : Cx := { specs := [(23, [sameCtr])], anns := [(15, [(7, .inv asLentInv)])] }
def asLentVc : VC := .imp (.f2 47 (.int 0) (.at .int 2)) (.imp (.f2 45 (.at .int 2) (.at .int 7)) (.imp (.f2 45 (.f1 30 (.at .ints 1)) (.f2 40 (.at .int 2) (.int 2))) 
    (.imp (.f2 45 (.at .int 3) (.f2 40 (.at .int 2) (.int 2))) (.imp (.f2 47 (.at .int 7) (.f1 30 (.at .ints 9))) (.imp (.f2 47 (.at .int 2) (.int 
    17592186044414)) (.need (.f2 47 (.int 0) (.at .int 7)) (.and (.tt) (.imp (.f2 45 (.at .int 2) (.at .int 7)) (.need (.f1 23 (.f2 40 (.at .int 7) (.int 
    2))) (.need (.f2 47 (.int 0) (.at .int 3)) (.need (.f2 47 (.int 0) (.f2 40 (.at .int 7) (.int 2))) (.need (.f2 47 (.f2 40 (.at .int 7) (.int 2)) (.at 
    .int 3)) (.need (.f2 47 (.at .int 7) (.at .int 3)) (.need (.f2 47 (.at .int 7) (.f1 30 (.at .ints 1))) (.need (.f2 47 (.at .int 7) (.int 
    140737488355328)) (.all 11 .bool (.imp (.f2 48 (.at .bool 11) (.f2 153 (.f2 113 (.at .ints 1) (.at .int 7)) (.f2 113 (.at .ints 9) (.at .int 7)))) 
    (.and (.imp (.at .bool 11) (.need (.f2 46 (.at .int 7) (.f2 40 (.at .int 7) (.int 2))) (.need (.f2 46 (.at .int 7) (.f1 30 (.at .ints 1))) (.and (.imp 
    (.f2 45 (.f2 110 (.at .ints 1) (.at .int 7)) (.int (-71))) (.need (.f1 23 (.f2 40 (.at .int 7) (.int 1))) (.need (.f2 47 (.int 0) (.f2 40 (.at .int 7) 
    (.int 1))) (.need (.f2 46 (.f2 40 (.at .int 7) (.int 1)) (.f2 40 (.at .int 7) (.int 2))) (.need (.f2 46 (.f2 40 (.at .int 7) (.int 1)) (.f1 30 (.at 
    .ints 1))) (.need (.f2 47 (.int 0) (.f2 40 (.at .int 2) (.int 2))) (.all 12 .int (.all 13 .ints (.imp (.f2 47 (.int 0) (.at .int 12)) (.imp (.f2 47 
    (.at .int 12) (.f2 40 (.at .int 2) (.int 2))) (.imp (.f2 45 (.f1 30 (.at .ints 13)) (.f2 40 (.at .int 2) (.int 2))) (.and (.imp (.f2 46 (.at .int 12) 
    (.f2 40 (.at .int 7) (.int 2))) (.need (.f2 46 (.at .int 12) (.f1 30 (.at .ints 13))) (.need (.f1 23 (.f2 40 (.at .int 12) (.int 1))) (.need (.f2 47 
    (.int 0) (.f2 41 (.f2 40 (.at .int 2) (.int 2)) (.f2 40 (.at .int 12) (.int 1)))) (.need (.f2 46 (.f2 41 (.f2 40 (.at .int 2) (.int 2)) (.f2 40 (.at 
    .int 12) (.int 1))) (.f2 41 (.f2 40 (.at .int 2) (.int 2)) (.at .int 12))) (.need (.f2 47 (.int 0) (.f2 40 (.at .int 12) (.int 1))) (.need (.f2 47 
    (.f2 40 (.at .int 12) (.int 1)) (.f2 40 (.at .int 2) (.int 2))) (.tt)))))))) (.imp (.f2 47 (.f2 40 (.at .int 7) (.int 2)) (.at .int 12)) (.need (.f2 
    48 (.f2 45 (.f2 110 (.at .ints 1) (.f2 40 (.at .int 7) (.int 1))) (.int (-72))) (.f2 49 (.f2 49 (.f2 153 (.f2 113 (.at .ints 1) (.at .int 2)) (.f2 113 
    (.at .ints 9) (.at .int 2))) (.f2 45 (.f2 110 (.at .ints 1) (.at .int 2)) (.int (-71)))) (.f2 45 (.f2 110 (.at .ints 1) (.f2 40 (.at .int 2) (.int 
    1))) (.int (-72))))) (.tt))))))))))))))) (.imp (.f1 2 (.f2 45 (.f2 110 (.at .ints 1) (.at .int 7)) (.int (-71)))) (.need (.f2 47 (.int 0) (.f2 40 (.at 
    .int 2) (.int 2))) (.all 12 .int (.all 13 .ints (.imp (.f2 47 (.int 0) (.at .int 12)) (.imp (.f2 47 (.at .int 12) (.f2 40 (.at .int 2) (.int 2))) 
    (.imp (.f2 45 (.f1 30 (.at .ints 13)) (.f2 40 (.at .int 2) (.int 2))) (.and (.imp (.f2 46 (.at .int 12) (.f2 40 (.at .int 7) (.int 2))) (.need (.f2 46 
    (.at .int 12) (.f1 30 (.at .ints 13))) (.need (.f1 23 (.f2 40 (.at .int 12) (.int 1))) (.need (.f2 47 (.int 0) (.f2 41 (.f2 40 (.at .int 2) (.int 2)) 
    (.f2 40 (.at .int 12) (.int 1)))) (.need (.f2 46 (.f2 41 (.f2 40 (.at .int 2) (.int 2)) (.f2 40 (.at .int 12) (.int 1))) (.f2 41 (.f2 40 (.at .int 2) 
    (.int 2)) (.at .int 12))) (.need (.f2 47 (.int 0) (.f2 40 (.at .int 12) (.int 1))) (.need (.f2 47 (.f2 40 (.at .int 12) (.int 1)) (.f2 40 (.at .int 2) 
    (.int 2))) (.tt)))))))) (.imp (.f2 47 (.f2 40 (.at .int 7) (.int 2)) (.at .int 12)) (.need (.f2 48 (.bool false) (.f2 49 (.f2 49 (.f2 153 (.f2 113 
    (.at .ints 1) (.at .int 2)) (.f2 113 (.at .ints 9) (.at .int 2))) (.f2 45 (.f2 110 (.at .ints 1) (.at .int 2)) (.int (-71)))) (.f2 45 (.f2 110 (.at 
    .ints 1) (.f2 40 (.at .int 2) (.int 1))) (.int (-72))))) (.tt))))))))))))))) (.imp (.f1 2 (.at .bool 11)) (.need (.f2 47 (.int 0) (.f2 40 (.at .int 2) 
    (.int 2))) (.all 12 .int (.all 13 .ints (.imp (.f2 47 (.int 0) (.at .int 12)) (.imp (.f2 47 (.at .int 12) (.f2 40 (.at .int 2) (.int 2))) (.imp (.f2 
    45 (.f1 30 (.at .ints 13)) (.f2 40 (.at .int 2) (.int 2))) (.and (.imp (.f2 46 (.at .int 12) (.f2 40 (.at .int 7) (.int 2))) (.need (.f2 46 (.at .int 
    12) (.f1 30 (.at .ints 13))) (.need (.f1 23 (.f2 40 (.at .int 12) (.int 1))) (.need (.f2 47 (.int 0) (.f2 41 (.f2 40 (.at .int 2) (.int 2)) (.f2 40 
    (.at .int 12) (.int 1)))) (.need (.f2 46 (.f2 41 (.f2 40 (.at .int 2) (.int 2)) (.f2 40 (.at .int 12) (.int 1))) (.f2 41 (.f2 40 (.at .int 2) (.int 
    2)) (.at .int 12))) (.need (.f2 47 (.int 0) (.f2 40 (.at .int 12) (.int 1))) (.need (.f2 47 (.f2 40 (.at .int 12) (.int 1)) (.f2 40 (.at .int 2) (.int 
    2))) (.tt)))))))) (.imp (.f2 47 (.f2 40 (.at .int 7) (.int 2)) (.at .int 12)) (.need (.f2 48 (.bool false) (.f2 49 (.f2 49 (.f2 153 (.f2 113 (.at 
    .ints 1) (.at .int 2)) (.f2 113 (.at .ints 9) (.at .int 2))) (.f2 45 (.f2 110 (.at .ints 1) (.at .int 2)) (.int (-71)))) (.f2 45 (.f2 110 (.at .ints 
    1) (.f2 40 (.at .int 2) (.int 1))) (.int (-72))))) (.tt)))))))))))))))))))))))))))))
theorem asLent_vc : vcOf Try.prog asLentCx 10 15 asLentCtr = asLentVc := by kernel_rfl
theorem i64_min : IntKind.min .i64 = -9223372036854775808 := rfl
theorem i64_max : IntKind.max .i64 = 9223372036854775807 := rfl
theorem asLent_ok {G : Type} (S : Sig G) : CtrOk S Try.prog 15 asLentCtr := by
  refine vcOf_sound S (C := asLentCx) (fuel := 10) ⟨fun f sps h sp hm => by
    simp only [asLentCx, assoc] at h
    cases hb : Nat.beq 23 f
    · rw [hb] at h; cases h
    · rw [hb] at h; cases h
      rw [List.mem_singleton] at hm
      rw [← Nat.eq_of_beq_eq_true hb, hm]
      exact ⟨by decide, same_ok S⟩, fun f l h i sp args hm => ?_, fun f sps h => by simp [asLentCx, assoc] at h⟩ fun ρ => ?_
  · simp only [asLentCx, assoc] at h
    cases hb : Nat.beq 15 f
    · rw [hb] at h; cases h
    · rw [hb] at h; cases h
      simp at hm
  · rw [asLent_vc]
    simp only [asLentVc, VC.den, SX.den, U.co, Env.upd, p23, p46, p47, ap1_2, ap1_30, ap2_40, ap2_41, ap2_45, ap2_48, ap2_49, ap2_110, ap2_113, ap2_153, U.toProp_bool, U.toBool_bool, Bool.not_eq_true', beq_eq_false_iff_ne, ne_eq, beq_iff_eq, i64_min, i64_max, U.toInt_int, U.toInts_ints, U.toBytes_bytes, U.toRows_rows, if_true, if_false, Nat.reduceEqDiff, reduceIte]
    generalize (ρ 1).toInts = A
    generalize (ρ 9).toInts = B
    generalize (ρ 2).toInt = m
    generalize (ρ 3).toInt = c
    generalize (ρ 7).toInt = n
    intro h1 h2 h3 h4 h5 h6
    subst h2
    repeat' (first | exact trivial | apply And.intro | intro _)
    all_goals first
      | omega
      | (simp_all; done)
      | skip
end
end Go.Proofs.Ytmjonggabppgaaa

/- Towards FreeEncodes: the law's calls. -/
set_option linter.unusedSimpArgs false
set_option linter.unusedVariables false
namespace Go.Proofs.Ytmjonggabppgaaa
noncomputable section
open Go.Eng
def encsCtr : Ctr := ⟨[.int, .int, .int, .int, .int, .ints, .int], [.one (.int .i64 (ai 0)), .one (.slice (ai 1) (ai 2) (.int 0) (.int 0) (ai 3) (ai 4) 1), .one (.int .i64 (ai 6))], [.ro (.ints .i64) (ai 1) (ai 2) (xsA 5)],
  [eLe (.int 0) (ai 3), eLe (ai 3) (.f1 30 (xsA 5)), eLe (ai 3) (ai 4), eLe (ai 3) (.int 1048576)], [.bool], .one (.bool (.at .bool 7)), [], [.at .bool 7]⟩
def encsCx : Cx := { specs := [(10, [Go.Eng.yes]), (11, [lentCtr]), (15, [asLentCtr]), (12, [penCtr]), (13, [renCtr]), (14, [sabCtr]),
  (16, [btkCtr]), (17, [ownCtr]), (18, [rooCtr]), (19, [rroCtr])], anns := [(4, [(10, .ghost emBkC [.tmp 18])])] }
-- BEGIN VC encs
def encsVc : VC := (.imp (.f2 47 (.int 0) (.at .int 3)) (.imp (.f2 47 (.at .int 3) (.f1 30 (.at .ints 5))) (.imp (.f2 47 (.at .int 3) (.at .int 4)) (.imp (.f2 47 (.at
    .int 3) (.int 1048576)) (.need (.f2 47 (.at .int 3) (.int 17592186044414)) (.all 7 .int (.all 8 .ints (.all 9 .int (.imp (.f2 45 (.at .int 9) (.f2
    40 (.at .int 3) (.int 2))) (.imp (.f2 47 (.int 0) (.at .int 7)) (.imp (.f2 153 (.at .ints 8) (.f2 119 (.f2 113 (.at .ints 5) (.at .int 3)) (.f2 122
    (.int (-(70 + 1))) (.f2 122 (.int (-(71 + 1))) (.f1 152 (.int 0)))))) (.need (.f2 47 (.at .int 3) (.f1 30 (.at .ints 8))) (.need (.f2 47 (.at .int
    3) (.int 140737488355328)) (.all 10 .int (.all 11 .int (.all 12 .int (.all 13 .bytes (.all 14 .int (.imp (.f2 45 (.at .int 14) (.us .int 101 (.at
    .int 0) (.at .ints 8) (.at .int 3) (.at .int 6))) (.imp (.f2 155 (.f2 114 (.at .bytes 13) (.at .int 11)) (.us .bytes 102 (.at .int 0) (.at .ints 8)
    (.at .int 3) (.at .int 6))) (.imp (.f2 45 (.at .int 11) (.f1 31 (.us .bytes 102 (.at .int 0) (.at .ints 8) (.at .int 3) (.at .int 6)))) (.imp (.f2
    47 (.at .int 11) (.f1 31 (.at .bytes 13))) (.imp (.f2 47 (.at .int 11) (.at .int 12)) (.all 15 .int (.all 16 .int (.all 17 .int (.all 18 .bytes
    (.all 19 .int (.imp (.f2 45 (.at .int 19) (.us .int 101 (.at .int 0) (.at .ints 8) (.at .int 3) (.at .int 6))) (.imp (.f2 155 (.f2 114 (.at .bytes
    18) (.at .int 16)) (.us .bytes 102 (.at .int 0) (.at .ints 8) (.at .int 3) (.at .int 6))) (.imp (.f2 45 (.at .int 16) (.f1 31 (.us .bytes 102 (.at
    .int 0) (.at .ints 8) (.at .int 3) (.at .int 6)))) (.imp (.f2 47 (.at .int 16) (.f1 31 (.at .bytes 18))) (.imp (.f2 47 (.at .int 16) (.at .int 17))
    (.all 20 .int (.all 21 .int (.all 22 .int (.all 23 .bytes (.all 24 .int (.imp (.f2 45 (.at .int 24) (.us .int 101 (.at .int 0) (.at .ints 5) (.at
    .int 3) (.at .int 6))) (.imp (.f2 155 (.f2 114 (.at .bytes 23) (.at .int 21)) (.us .bytes 102 (.at .int 0) (.at .ints 5) (.at .int 3) (.at .int
    6))) (.imp (.f2 45 (.at .int 21) (.f1 31 (.us .bytes 102 (.at .int 0) (.at .ints 5) (.at .int 3) (.at .int 6)))) (.imp (.f2 47 (.at .int 21) (.f1
    31 (.at .bytes 23))) (.imp (.f2 47 (.at .int 21) (.at .int 22)) (.need (.f2 47 (.int 0) (.at .int 11)) (.need (.f2 47 (.at .int 11) (.int
    1099511627776)) (.need (.f2 47 (.int 0) (.at .int 21)) (.need (.f2 47 (.at .int 21) (.int 1099511627776)) (.all 25 .bool (.imp (.f2 48 (.at .bool
    25) (.f2 155 (.f2 114 (.at .bytes 13) (.at .int 11)) (.f2 114 (.at .bytes 23) (.at .int 21)))) (.need (.f2 47 (.int 0) (.at .int 16)) (.need (.f2
    47 (.at .int 16) (.int 1099511627776)) (.all 26 .bool (.imp (.f2 48 (.at .bool 26) (.f2 155 (.f2 114 (.at .bytes 18) (.at .int 16)) (.f2 114 (.at
    .bytes 23) (.at .int 21)))) (.need (.f2 45 (.at .int 3) (.at .int 3)) (.need (.f2 45 (.f1 30 (.at .ints 8)) (.f2 40 (.at .int 3) (.int 2))) (.all
    27 .bool (.all 28 .ints (.imp (.f2 48 (.at .bool 27) (.f2 49 (.f2 49 (.f2 153 (.f2 113 (.at .ints 8) (.at .int 3)) (.f2 113 (.at .ints 5) (.at .int
    3))) (.f2 45 (.f2 110 (.at .ints 8) (.at .int 3)) (.int (-(70 + 1))))) (.f2 45 (.f2 110 (.at .ints 8) (.f2 40 (.at .int 3) (.int 1))) (.int (-(71 +
    1)))))) (.all 29 .int (.imp (.f2 47 (.int 0) (.at .int 29)) (.need (.f2 47 (.at .int 11) (.int 4294967296)) (.need (.f2 47 (.at .int 16) (.int
    4294967296)) (.all 30 .int (.all 31 .int (.all 32 .int (.all 33 .bytes (.all 34 .int (.imp (.f2 45 (.at .int 34) (.us .int 101 (.at .int 0) (.at
    .ints 5) (.at .int 3) (.at .int 6))) (.imp (.f2 155 (.f2 114 (.at .bytes 33) (.at .int 31)) (.us .bytes 102 (.at .int 0) (.at .ints 5) (.at .int 3)
    (.at .int 6))) (.imp (.f2 45 (.at .int 31) (.f1 31 (.us .bytes 102 (.at .int 0) (.at .ints 5) (.at .int 3) (.at .int 6)))) (.imp (.f2 47 (.at .int
    31) (.f1 31 (.at .bytes 33))) (.imp (.f2 47 (.at .int 31) (.at .int 32)) (.need (.f2 47 (.int 0) (.at .int 31)) (.need (.f2 47 (.at .int 31) (.int
    1099511627776)) (.all 35 .bool (.imp (.f2 48 (.at .bool 35) (.f2 155 (.f2 114 (.at .bytes 33) (.at .int 31)) (.f2 114 (.at .bytes 23) (.at .int
    21)))) (.and (.imp (.at .bool 25) (.and (.imp (.at .bool 26) (.and (.imp (.f2 45 (.at .int 14) (.at .int 24)) (.and (.imp (.f2 45 (.at .int 19)
    (.at .int 24)) (.and (.imp (.f2 45 (.at .int 34) (.at .int 24)) (.and (.imp (.at .bool 35) (.and (.imp (.at .bool 27) .tt) (.imp (.f1 2 (.at .bool
    27)) (.need (.bool .false) .tt)))) (.imp (.f1 2 (.at .bool 35)) (.need (.bool .false) .tt)))) (.imp (.f1 2 (.f2 45 (.at .int 34) (.at .int 24)))
    (.need (.bool .false) .tt)))) (.imp (.f1 2 (.f2 45 (.at .int 19) (.at .int 24))) (.need (.bool .false) .tt)))) (.imp (.f1 2 (.f2 45 (.at .int 14)
    (.at .int 24))) (.need (.bool .false) .tt)))) (.imp (.f1 2 (.at .bool 26)) (.need (.bool .false) .tt)))) (.imp (.f1 2 (.at .bool 25)) (.need (.bool
    .false) .tt)))))))))))))))))))))))))))))))))))))))))))))))))))))))))))))))))))))))))))))))
theorem encs_vc : vcOf Try.prog encsCx 10 4 encsCtr = encsVc := by kernel_rfl
-- END VC encs
theorem encR_len (next page : Int) (L : List Int) : ((encR next L page).length : Int) ≤ 65536 := by
  by_cases h : encE next L page = 0
  · rw [encR_ok h]
    cases hs : sizeB page
    · rw [enc_size hs] at h; cases h
    · have hr := room_le hs
      by_cases hn : next = 0 ∨ numP next = true
      · by_cases hl : (L.length : Int) ≤ roomI page
        · rw [List.length_append, fill_len (by omega), fix_len]; omega
        · rw [enc_room hs hn (by omega)] at h; cases h
      · rw [enc_num hs (fun e => hn (.inl e)) (by cases hh : numP next; rfl; exact absurd (.inr hh) hn)] at h; cases h
  · rw [encR_no h]; decide
theorem p48_155 {G : Type} (c : Bool) (a b : U G) : (ap2 48 (.bool c) (ap2 155 a b)).toProp = (c = true ↔ a = b) := by
  apply propext
  simp only [ap2, U.toProp, U.toBool, beq_iff_eq]
  cases c <;> simp
theorem p48_b {G : Type} (c d : Bool) : ((ap2 48 (.bool c) (.bool d)) : U G).toProp = (c = d) := by
  apply propext
  simp only [ap2, U.toProp, U.toBool, beq_iff_eq]
theorem len_take {L L6 : List Int} {m : Int} (hm : m ≤ L.length) (h : L6 = L.take m.toNat ++ [-(70 + 1), -(71 + 1)]) : L6.take m.toNat = L.take m.toNat := by
  rw [h, List.take_append_of_le_length (by rw [List.length_take]; omega), List.take_take, Nat.min_self]
theorem len_len {L L6 : List Int} {m : Int} (h0 : 0 ≤ m) (hm : m ≤ L.length) (h : L6 = L.take m.toNat ++ [-(70 + 1), -(71 + 1)]) : (L6.length : Int) = m + 2 := by
  rw [h, List.length_append, List.length_take]; simp; omega
theorem len_good {L L6 : List Int} {m : Int} {x : Bool} (h0 : 0 ≤ m) (hm : m ≤ L.length) (h : L6 = L.take m.toNat ++ [-(70 + 1), -(71 + 1)])
    (hx : x = (L6.take m.toNat == L.take m.toNat && L6.getD m.toNat 0 == -(70 + 1) && L6.getD (m + 1).toNat 0 == -(71 + 1))) : x = true := by
  have hl : (L.take m.toNat).length = m.toNat := by rw [List.length_take]; omega
  have e1 : L6.getD m.toNat 0 = -(70 + 1) := by
    rw [h, List.getD_eq_getElem?_getD, List.getElem?_append_right (by omega), hl, Nat.sub_self]; rfl
  have e2 : L6.getD (m + 1).toNat 0 = -(71 + 1) := by
    rw [h, List.getD_eq_getElem?_getD, List.getElem?_append_right (by omega), hl, show (m + 1).toNat - m.toNat = 1 by omega]; rfl
  rw [hx, len_take hm h, e1, e2]; simp
theorem encs_ok (S : Sig FL) (hE : EnSig S) (hZ : SzSig S) (hU : SuSig S) (hC : EcSig S) (hK : BkSig S) : CtrOk S Try.prog 4 encsCtr := by
  refine vcOf_sound S (C := encsCx) (fuel := 10) (cx_of ⟨one_spec (by decide) (live_ok S), one_spec (by decide) (lent_ok S), one_spec (by decide) (asLent_ok S), one_spec (by decide) (pen_ok S hE hZ hU hC), one_spec (by decide) (ren_ok S hE hZ hU hC), one_spec (by decide) (sab_ok S),
    one_spec (by decide) (btk_ok S hK), one_spec (by decide) (own_ok S hK), one_spec (by decide) (roo_ok S hZ), one_spec (by decide) (rro_ok S hZ), trivial⟩ ⟨⟨⟨by decide, emBk_gh S hK⟩, trivial⟩, trivial⟩ trivial) fun ρ => ?_
  rw [encs_vc]
  simp only [encsVc, hC.u101, hC.u102, VC.den, SX.den, co_int, co_bool, co_bytes, co_ints, Env.upd, p48_155, p155, p153, p45, p47, ap1_2, ap1_30, ap1_31, ap1_152, ap2_40, ap2_45, p48_b, ap2_49, ap2_110, ap2_113, ap2_114, ap2_119, ap2_122, ap2_153, beq_iff_eq, Bool.not_eq_true', beq_eq_false_iff_ne, ne_eq, U.toProp_bool, U.toBool_bool, U.toInt_int, U.toInts_ints, U.toBytes_bytes, Nat.reduceEqDiff, reduceIte, U.bytes.injEq]
  generalize (ρ 5).toInts = L
  generalize (ρ 3).toInt = m
  generalize (ρ 4).toInt = c
  generalize (ρ 0).toInt = next
  generalize (ρ 6).toInt = page
  intro a1 a2 a3 a4
  refine ⟨by omega, fun b L8 c8 e1 e2 e3 => ?_⟩
  have ht := len_take a2 e3
  have hl := len_len a1 a2 e3
  have hen := encR_len next page (L.take m.toNat)
  rw [ht]
  generalize hR : encR next (L.take m.toNat) page = R at *
  generalize encE next (L.take m.toNat) page = E at *
  refine ⟨by omega, by omega, fun _ l1 c1 B1 r1 f1 f2 f3 f4 f5 _ l2 c2 B2 r2 g1 g2 g3 g4 g5 _ l3 c3 B3 r3 h1 h2 h3 h4 h5 => ⟨by omega, by omega, by omega, by omega, fun x hx => ⟨by omega, by omega, fun y hy => ⟨trivial, by omega, fun z _ hz _ _ => ⟨by omega, by omega, fun _ l4 c4 B4 r4 k1 k2 k3 k4 k5 => ⟨by omega, by omega, fun u hu => ?_⟩⟩⟩⟩⟩⟩
  rw [f2, h2] at hx
  rw [g2, h2] at hy
  rw [k2, h2] at hu
  have hz := len_good (x := z) a1 a2 e3 (by rw [ht]; exact hz)
  simp_all
end
end Go.Proofs.Ytmjonggabppgaaa

/- A list of calls (three integers each), as it is handed in, opened. -/
set_option linter.unusedVariables false
namespace Go.Eng
open Go.ChangeShapes Go.WideShapes Go.Deep
theorem field1 {cs : List Value} {i : Nat} {v : Value} (h : (cs.drop i).take 1 = [v]) : cs[i]? = some v := by
  have h2 : ((cs.drop i).take 1)[0]? = some v := by rw [h]; rfl
  rw [List.getElem?_take_of_lt (by omega), List.getElem?_drop] at h2
  simpa using h2
theorem open_ops {H : Type} {enc : TypeId × Value → H} {P : Program} {w : World} {base : Nat} {spare : Nat → Bool} {held : Bool} {t e : TypeId} {g0 g1 g2 : Field} {fuel : Nat} {cs : List Value} {x : DataW H × List MemPlace}
    (ht : P.underlying t = some (.slice e)) (he : P.underlying e = some (.struct #[g0, g1, g2])) (ce : P.cellsOf e = 3) (o0 : g0.offset = 0) (o1 : g1.offset = 1) (o2 : g2.offset = 2)
    (c0 : P.cellsOf g0.type = 1) (c1 : P.cellsOf g1.type = 1) (c2 : P.cellsOf g2.type = 1) (k0 : P.underlying g0.type = some (.int .i64)) (k1 : P.underlying g1.type = some (.int .i64)) (k2 : P.underlying g2.type = some (.int .i64))
    (h : DataW.trod enc P w base spare held fuel t cs = some x) :
    (cs = [.slice none 0 0] ∧ x = (.nil, [])) ∨
    ∃ (a : Addr) (len cap : Nat) (rows : List (List Int)), cs = [.slice (some a) len cap] ∧ base ≤ a.block ∧ len ≤ cap ∧ cap ≤ maxLen ∧ len ≤ rows.length ∧ (∃ ds sp, x.1 = .slice ds sp ∧ ds.length = len) ∧
      ∀ j v, (rows.flatMap (rowVals [.int .i64, .int .i64, .int .i64]))[j]? = some v → w.cell? (a.add j) = some v := by
  rcases open_slice ht h with h0 | ⟨a, len, cap, m, n, D, Pl, rfl, hb, hl, hm, hmm, hxx, hx⟩
  · exact .inl h0
  right
  have hlm : len ≤ m := by rw [hmm]; split <;> omega
  have each : ∀ i, i < m → ∃ q : List Int, ∀ j, j < 3 → ∃ v, (rowVals [.int .i64, .int .i64, .int .i64] q)[j]? = some v ∧ w.cell? (a.add (i * 3 + j)) = some v := by
    intro i hi
    obtain ⟨cs', h1, h2⟩ := hx i hi
    rw [ce] at h1
    obtain ⟨_, hlen, hcell⟩ := World.cells?_some h1
    obtain ⟨xs, k, hk, _, _, hxl, hf⟩ := DataW.trod_struct he h2
    have f0 := hf 0 g0 rfl
    have f1 := hf 1 g1 rfl
    have f2 := hf 2 g2 rfl
    rw [o0, c0, List.getElem?_eq_getElem (by rw [hxl]; show _ < 3; omega)] at f0
    rw [o1, c1, List.getElem?_eq_getElem (by rw [hxl]; show _ < 3; omega)] at f1
    rw [o2, c2, List.getElem?_eq_getElem (by rw [hxl]; show _ < 3; omega)] at f2
    obtain ⟨n0, e0, _, _⟩ := DataW.trod_int k0 f0
    obtain ⟨n1, e1, _, _⟩ := DataW.trod_int k1 f1
    obtain ⟨n2, e2, _, _⟩ := DataW.trod_int k2 f2
    have e0 := field1 e0
    have e1 := field1 e1
    have e2 := field1 e2
    have d := fun j hj => hcell j hj
    refine ⟨[n0, n1, n2], fun j hj => ?_⟩
    have hc := hcell j (by omega)
    rw [add_add] at hc
    match j, hj with
    | 0, _ => exact ⟨_, rfl, by rw [hc, e0]; rfl⟩
    | 1, _ => exact ⟨_, rfl, by rw [hc, e1]; rfl⟩
    | 2, _ => exact ⟨_, rfl, by rw [hc, e2]; rfl⟩
  obtain ⟨q, hq⟩ := choose_lt each
  refine ⟨a, len, cap, (List.range m).map q, rfl, hb, hl, hm, by rw [List.length_map, List.length_range]; exact hlm, ⟨_, _, by rw [hxx], by rw [List.length_map, List.length_range]⟩, fun j v hj => ?_⟩
  have hlen3 : ∀ r : List Int, (rowVals [.int .i64, .int .i64, .int .i64] r).length = 3 := fun r => rowVals_length _ r
  have hjlt : j < m * 3 := by
    rcases Nat.lt_or_ge j (m * 3) with h' | h'
    · exact h'
    · rw [List.getElem?_eq_none (by rw [flatMap_length _ 3 hlen3, List.length_map, List.length_range]; exact h')] at hj; cases hj
  have hdm : j = j / 3 * 3 + j % 3 := by omega
  rw [hdm, flatMap_get _ 3 hlen3 _ _ _ (Nat.mod_lt _ (by decide)), List.getElem?_map, List.getElem?_range (by omega)] at hj
  obtain ⟨v', h1, h2⟩ := hq (j / 3) (by omega) (j % 3) (Nat.mod_lt _ (by decide))
  have hj' : (rowVals [.int .i64, .int .i64, .int .i64] (q (j / 3)))[j % 3]? = some v := hj
  rw [h1] at hj'
  cases hj'
  rw [hdm]; exact h2
/-- What is known of a slice that is handed in. -/
def ArgIs {H : Type} (w : World) (v : Value) (d : DataW H) (b o l c : Int) (n : Nat) (vals : List Value) : Prop :=
  v = .slice (if b < 0 then none else some ⟨b.toNat, o.toNat, none⟩) l.toNat c.toNat ∧ 0 ≤ l ∧ l ≤ n ∧ l ≤ c ∧ l ≤ 9223372036854775807 ∧
    ((0 ≤ b ∨ vals = []) ∧ ∀ i u, vals[i]? = some u → b.toNat < w.heap.size ∧ w.cell? ⟨b.toNat, o.toNat + i, none⟩ = some u) ∧ (d = .nil ∧ l = 0 ∨ ∃ ds sp, d = .slice ds sp ∧ (ds.length : Int) = l)
theorem slice_spot {P : Program} {W : World} {base : Nat} {t e : TypeId} {a : Addr} {len cap : Nat} (ht : P.underlying t = some (.slice e)) (hv : Value.okWide P W .any base t (.slice (some a) len cap)) : a.spot = none := by
  unfold Value.okWide at hv
  rw [ht] at hv
  unfold Cell.okWide at hv
  rw [ht] at hv
  simp only [Cell.ok] at hv
  rw [ht] at hv
  exact hv.2.2.2.1
theorem arg_ops {H : Type} {enc : TypeId × Value → H} {P : Program} {W : World} {base : Nat} {t e : TypeId} {g0 g1 g2 : Field} {v : Value} {d : DataW H} {ps : List MemPlace}
    (ht : P.underlying t = some (.slice e)) (he : P.underlying e = some (.struct #[g0, g1, g2])) (ce : P.cellsOf e = 3) (o0 : g0.offset = 0) (o1 : g1.offset = 1) (o2 : g2.offset = 2)
    (c0 : P.cellsOf g0.type = 1) (c1 : P.cellsOf g1.type = 1) (c2 : P.cellsOf g2.type = 1) (k0 : P.underlying g0.type = some (.int .i64)) (k1 : P.underlying g1.type = some (.int .i64)) (k2 : P.underlying g2.type = some (.int .i64))
    (hv : Value.okWide P W .any base t v) (h : DataW.Trod enc P W 0 (fun _ => true) true t v d ps) :
    ∃ (b o l c : Int) (L : List (List Int)), ArgIs W v d b o l c L.length (L.flatMap (rowVals [.int .i64, .int .i64, .int .i64])) := by
  obtain ⟨fuel, hf⟩ := h
  obtain ⟨a0, len, cap, rfl⟩ := okWide_slice ht hv
  rcases open_ops ht he ce o0 o1 o2 c0 c1 c2 k0 k1 k2 hf with ⟨hcs, hx⟩ | ⟨a, len', cap', rows, hcs, _, hl, hm, hz, hd, hcell⟩
  · simp [Value.cells] at hcs
    obtain ⟨rfl, rfl, rfl⟩ := hcs
    simp only [Prod.mk.injEq] at hx
    exact ⟨-1, 0, 0, 0, [], rfl, by decide, by decide, by decide, by decide, ⟨.inr rfl, fun i u hu => by simp at hu⟩, .inl ⟨hx.1, rfl⟩⟩
  · simp [Value.cells] at hcs
    obtain ⟨rfl, rfl, rfl⟩ := hcs
    have hspot := slice_spot ht hv
    obtain ⟨b, off, spot⟩ := a
    simp only at hspot
    subst hspot
    have hmax : maxLen = 9223372036854775807 := by decide
    obtain ⟨ds, sp, h1, h2⟩ := hd
    refine ⟨b, off, len, cap, rows, by rw [if_neg (by omega)]; simp, by omega, by omega, by omega, by omega, ⟨.inl (by omega), fun i u hu => ?_⟩, .inr ⟨ds, sp, h1, by omega⟩⟩
    have hc := hcell i u hu
    rw [add_plain] at hc
    exact ⟨by simpa using (World.block_lt_of_cell? W ⟨b, off + i, none⟩ hc), by simpa using hc⟩
theorem arg_ints {H : Type} {enc : TypeId × Value → H} {P : Program} {W : World} {base : Nat} {t e : TypeId} {v : Value} {d : DataW H} {ps : List MemPlace}
    (ht : P.underlying t = some (.slice e)) (he : P.underlying e = some (.int .i64)) (ce : P.cellsOf e = 1)
    (hv : Value.okWide P W .any base t v) (h : DataW.Trod enc P W 0 (fun _ => true) true t v d ps) :
    ∃ (b o l c : Int) (L : List Int), ArgIs W v d b o l c L.length (L.map (Value.int .i64)) := by
  obtain ⟨fuel, hf⟩ := h
  obtain ⟨a0, len, cap, rfl⟩ := okWide_slice ht hv
  rcases open_ints ht he ce hf with ⟨hcs, hx⟩ | ⟨a, len', cap', zs, hcs, _, hl, hm, hz, hx, hcell, hwz⟩
  · simp [Value.cells] at hcs
    obtain ⟨rfl, rfl, rfl⟩ := hcs
    simp only [Prod.mk.injEq] at hx
    exact ⟨-1, 0, 0, 0, [], rfl, by decide, by decide, by decide, by decide, ⟨.inr rfl, fun i u hu => by simp at hu⟩, .inl ⟨hx.1, rfl⟩⟩
  · simp [Value.cells] at hcs
    obtain ⟨rfl, rfl, rfl⟩ := hcs
    have hspot := slice_spot ht hv
    obtain ⟨b, off, spot⟩ := a
    simp only at hspot
    subst hspot
    have hmax : maxLen = 9223372036854775807 := by decide
    simp only [if_true] at hz
    simp only [Prod.mk.injEq] at hx
    refine ⟨b, off, len, cap, zs, by rw [if_neg (by omega)]; simp, by omega, by omega, by omega, by omega, ⟨.inl (by omega), fun i u hu => ?_⟩, .inr ⟨_, _, hx.1, ?_⟩⟩
    · rw [List.getElem?_map, Option.map_eq_some_iff] at hu
      obtain ⟨x, hx, rfl⟩ := hu
      have hi : i < zs.length := (List.getElem?_eq_some_iff.1 hx).1
      have hc := hcell i hi
      rw [add_plain] at hc
      rw [List.getD_eq_getElem?_getD, hx] at hc
      exact ⟨by simpa using (World.block_lt_of_cell? W ⟨b, off + i, none⟩ hc), by simpa using hc⟩
    · simp only [lits, List.length_map, List.length_take]; omega
end Go.Eng
