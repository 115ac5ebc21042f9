/- What stands in a list's room behind an insertion. -/
import Derived.Test.YtmjonggabppgaaaPo3
import Derived.Test.YtmjonggabppgaaaPo5
import Derived.Shelf.SlLaysF0
import Derived.Shelf.SlLaysC2
import Derived.Ground.SlsfProg
import Derived.Ground.SlgcProg
import Derived.Test.YtmjonggabppgaaaProg
import Derived.Shelf.GgSortFunc.RowK
import Derived.Shelf.SlSortCmp.Insertion
import Derived.Shelf.GgSortFunc.InsertionK
import Derived.Shelf.SlSortCmp.NoneTotal
import Derived.Shelf.SlicesG.Cmp
set_option linter.unusedVariables false
namespace Go.Proofs.Ytmjonggabppgaaa
theorem ins_room {R V Y : List (List Int)} {n i : Nat} (hi : i ≤ n) (hn : n ≤ R.length) (hV : V.length = 1) :
    (R.take i ++ (V ++ ((R.drop i).take (n - i) ++ Y))).take (n + 1) = (R.take n).take i ++ V ++ (R.take n).drop i := by
  have e : R.take i ++ (V ++ ((R.drop i).take (n - i) ++ Y)) = ((R.take n).take i ++ V ++ (R.take n).drop i) ++ Y := by
    rw [List.take_take, Nat.min_eq_left hi, List.drop_take]; simp only [List.append_assoc]
  rw [e, List.take_append_of_le_length (by simp only [List.length_append, List.length_take, List.length_drop, hV]; omega), List.take_of_length_le (by simp only [List.length_append, List.length_take, List.length_drop, hV]; omega)]
theorem ins_end {R V : List (List Int)} {n : Nat} (hn : n ≤ R.length) (hV : V.length = 1) : (R.take n ++ V.take 1).take (n + 1) = (R.take n).take n ++ V ++ (R.take n).drop n := by
  have := ins_room (Y := []) (Nat.le_refl n) hn hV
  rw [← this, Nat.sub_self, List.take_zero, List.append_nil, List.append_nil, List.take_of_length_le (by omega : V.length ≤ 1)]
theorem ins_grow {R V Z Y : List (List Int)} {n i : Nat} (hi : i ≤ n) (hn : n ≤ R.length) (hV : V.length = 1) :
    ((((R.take i ++ Z).take i ++ (V ++ (R.take i ++ Z).drop (i + 1))).take (i + 1)) ++ ((R.drop i).take (n - i) ++ Y)).take (n + 1) = (R.take n).take i ++ V ++ (R.take n).drop i := by
  have h1 : (R.take i).length = i := by rw [List.length_take]; omega
  have e1 : (R.take i ++ Z).take i = R.take i := by rw [List.take_append_of_le_length (by omega), List.take_take, Nat.min_self]
  have e2 : ((R.take i ++ (V ++ (R.take i ++ Z).drop (i + 1))).take (i + 1)) = R.take i ++ V := by
    rw [← List.append_assoc, List.take_append_of_le_length (by rw [List.length_append, h1]; omega), List.take_of_length_le (by rw [List.length_append, h1]; omega)]
  rw [e1, e2, List.append_assoc]
  exact ins_room hi hn hV
theorem ins_here {R V : List (List Int)} {n i : Nat} (hi : i < n) (hn : n ≤ R.length) (hV : V.length = 1) :
    (((R.take (i + 1) ++ ((R.drop i).take (n - i) ++ R.drop (n + 1))).take i) ++ (V ++ (R.take (i + 1) ++ ((R.drop i).take (n - i) ++ R.drop (n + 1))).drop (i + 1))).take (n + 1) = (R.take n).take i ++ V ++ (R.take n).drop i := by
  have h1 : (R.take (i + 1)).length = i + 1 := by rw [List.length_take]; omega
  have e1 : (R.take (i + 1) ++ ((R.drop i).take (n - i) ++ R.drop (n + 1))).take i = R.take i := by
    rw [List.take_append_of_le_length (by omega), List.take_take, Nat.min_eq_left (by omega)]
  have e2 : (R.take (i + 1) ++ ((R.drop i).take (n - i) ++ R.drop (n + 1))).drop (i + 1) = (R.drop i).take (n - i) ++ R.drop (n + 1) := by
    rw [List.drop_append_of_le_length (by omega), List.drop_of_length_le (by omega), List.nil_append]
  rw [e1, e2]
  exact ins_room (by omega) hn hV
end Go.Proofs.Ytmjonggabppgaaa

/- A page is given back. -/
set_option linter.unusedSimpArgs false
set_option linter.unusedVariables false
namespace Go.Proofs.Ytmjonggabppgaaa
noncomputable section
open Go.Eng
def cmpCtr : Ctr := ⟨[.int, .int], [.one (.int .i64 (ai 0)), .one (.int .i64 (ai 1))], [], [], [], .one (.int .i64 (usI 46 (ai 0) (ai 1) z0)), [], []⟩
def cmpCx : Cx := { specs := [], anns := [] }
def bsCtr : Ctr := ⟨[.int, .rows, .int, .int, .int, .int], [.one (slC (ai 0) (ai 2) (ai 3) 2), .one (.int .i64 (ai 5)), .one (.fn 78)], [.arr enT (ai 0) (rA 1) (ai 4)],
  [eLe (.int 0) (ai 2), eLe (ai 2) (.f1 32 (rA 1)), eLe (ai 2) (.int 65534), usB 41 (rA 1) (ai 2) z0], [], .tup [(false, [.int .i64 (usI 36 (rA 1) (ai 2) (ai 5))]), (false, [.bool (usB 37 (rA 1) (ai 2) (ai 5))])], [.arr enT (ai 0) (rA 1) (ai 4)], []⟩
def bsInv : Inv := ⟨[.int, .int], [(9, .one (.int .i64 (di 0))), (10, .one (.int .i64 (di 1)))], [], [eLe (.int 0) (di 0), eLe (di 0) (di 1), eLe (di 1) (ai 2), eLe (di 0) (usI 36 (rA 1) (ai 2) (ai 5)), eLe (usI 36 (rA 1) (ai 2) (ai 5)) (di 1)], .f2 41 (di 1) (di 0)⟩
def bsCx : Cx := { specs := [(56, [cmpCtr])], anns := [(77, [(3, .inv bsInv)])] }
def insCtr : Ctr := ⟨[.int, .rows, .int, .int, .int, .int, .rows], [.one (slC (ai 0) (ai 2) (ai 3) 2), .one (.int .i64 (ai 4)), .one (slC (ai 5) (.int 1) (.int 1) 2)], [.arr enT (ai 0) (rA 1) (ai 3), .arr enT (ai 5) (rA 6) (.int 1)],
  [eLe (.int 0) (ai 2), eLe (ai 2) (.f1 32 (rA 1)), eLe (ai 2) (.int 65534), eLe (ai 2) (ai 3), eLe (.int 0) (ai 4), eLe (ai 4) (ai 2), eEq (.f1 32 (rA 6)) (.int 1)], [.int, .int, .rows],
  .one (slC (ai 7) (SX.mk2 40 (ai 2) (.int 1)) (ai 8) 2), [.arr enT (ai 7) (rA 9) (ai 8)], [eLe (SX.mk2 40 (ai 2) (.int 1)) (.f1 32 (rA 9)), eLe (SX.mk2 40 (ai 2) (.int 1)) (ai 8), eqS (tk (rA 9) (SX.mk2 40 (ai 2) (.int 1))) (.us .rows 38 (rA 1) (ai 2) (ai 4) (rA 6))]⟩
def insCx : Cx := { specs := [], anns := [], exts := [(88, [ovCtr (.rows [.int .i64, .int .i64])])] }
def giveCtr : Ctr := ⟨[.int, .g, .int, .int], [.one (.ptr (ai 0) 0), .one (.int .i64 (ai 2)), .one (.int .i64 (ai 3))], [freeC (ai 0) (gA 1)], [], [], .one (.int .i64 (usI 39 (gA 1) (ai 2) (ai 3))), [freeC (ai 0) (usG 42 (gA 1) (ai 2) (ai 3))], []⟩
def giveCx : Cx := { specs := [(77, [bsCtr]), (79, [insCtr])], anns := [(34, [(5, .ghost unfC [.tmp 0]), (7, .ghost fldC [.tmp 0]), (9, .ghost fldC [.tmp 0])])] }
-- BEGIN VC cmp
def cmpVc : VC := (.and (.imp (.f2 46 (.at .int 0) (.at .int 1)) (.need (.f2 45 (.us .int 46 (.at .int 0) (.at .int 1) (.int 0) (.int 0)) (.int (-(0 + 1)))) .tt)) (.imp
    (.f2 47 (.at .int 1) (.at .int 0)) (.and (.imp (.f2 46 (.at .int 1) (.at .int 0)) (.need (.f2 45 (.us .int 46 (.at .int 0) (.at .int 1) (.int 0)
    (.int 0)) (.int 1)) .tt)) (.imp (.f2 47 (.at .int 0) (.at .int 1)) (.need (.f2 45 (.us .int 46 (.at .int 0) (.at .int 1) (.int 0) (.int 0)) (.int
    0)) .tt)))))
theorem cmp_vc : vcOf Try.prog cmpCx 10 56 cmpCtr = cmpVc := by kernel_rfl
-- END VC cmp
-- BEGIN VC bs
def bsVc : VC := (.imp (.f2 47 (.int 0) (.at .int 2)) (.imp (.f2 47 (.at .int 2) (.f1 32 (.at .rows 1))) (.imp (.f2 47 (.at .int 2) (.int 65534)) (.imp (.us .bool 41
    (.at .rows 1) (.at .int 2) (.int 0) (.int 0)) (.need (.f2 47 (.at .int 2) (.at .int 2)) (.need (.f2 47 (.int 0) (.us .int 36 (.at .rows 1) (.at
    .int 2) (.at .int 5) (.int 0))) (.need (.f2 47 (.us .int 36 (.at .rows 1) (.at .int 2) (.at .int 5) (.int 0)) (.at .int 2)) (.all 6 .int (.all 7
    .int (.imp (.f2 47 (.int 0) (.at .int 6)) (.imp (.f2 47 (.at .int 6) (.at .int 7)) (.imp (.f2 47 (.at .int 7) (.at .int 2)) (.imp (.f2 47 (.at .int
    6) (.us .int 36 (.at .rows 1) (.at .int 2) (.at .int 5) (.int 0))) (.imp (.f2 47 (.us .int 36 (.at .rows 1) (.at .int 2) (.at .int 5) (.int 0))
    (.at .int 7)) (.and (.imp (.f2 46 (.at .int 6) (.at .int 7)) (.need (.f1 23 (.f2 40 (.at .int 6) (.at .int 7))) (.need (.f1 23 (.f2 107 (.f1 17
    (.f2 40 (.at .int 6) (.at .int 7))) (.int 1))) (.need (.f2 47 (.int 0) (.f2 107 (.f1 17 (.f2 40 (.at .int 6) (.at .int 7))) (.int 1))) (.need (.f2
    46 (.f2 107 (.f1 17 (.f2 40 (.at .int 6) (.at .int 7))) (.int 1)) (.at .int 2)) (.need (.f2 46 (.f2 107 (.f1 17 (.f2 40 (.at .int 6) (.at .int 7)))
    (.int 1)) (.f1 32 (.at .rows 1))) (.all 8 .int (.imp (.f2 47 (.int 0) (.at .int 8)) (.and (.imp (.f2 46 (.us .int 46 (.f3 112 (.at .rows 1) (.f2
    107 (.f1 17 (.f2 40 (.at .int 6) (.at .int 7))) (.int 1)) (.int 0)) (.at .int 5) (.int 0) (.int 0)) (.int 0)) (.need (.f1 23 (.f2 40 (.f2 107 (.f1
    17 (.f2 40 (.at .int 6) (.at .int 7))) (.int 1)) (.int 1))) (.need (.f2 47 (.int 0) (.f2 41 (.at .int 7) (.f2 40 (.f2 107 (.f1 17 (.f2 40 (.at .int
    6) (.at .int 7))) (.int 1)) (.int 1)))) (.need (.f2 46 (.f2 41 (.at .int 7) (.f2 40 (.f2 107 (.f1 17 (.f2 40 (.at .int 6) (.at .int 7))) (.int 1))
    (.int 1))) (.f2 41 (.at .int 7) (.at .int 6))) (.need (.f2 47 (.int 0) (.f2 40 (.f2 107 (.f1 17 (.f2 40 (.at .int 6) (.at .int 7))) (.int 1)) (.int
    1))) (.need (.f2 47 (.f2 40 (.f2 107 (.f1 17 (.f2 40 (.at .int 6) (.at .int 7))) (.int 1)) (.int 1)) (.at .int 7)) (.need (.f2 47 (.f2 40 (.f2 107
    (.f1 17 (.f2 40 (.at .int 6) (.at .int 7))) (.int 1)) (.int 1)) (.us .int 36 (.at .rows 1) (.at .int 2) (.at .int 5) (.int 0))) .tt))))))) (.imp
    (.f2 47 (.int 0) (.us .int 46 (.f3 112 (.at .rows 1) (.f2 107 (.f1 17 (.f2 40 (.at .int 6) (.at .int 7))) (.int 1)) (.int 0)) (.at .int 5) (.int 0)
    (.int 0))) (.need (.f2 47 (.int 0) (.f2 41 (.f2 107 (.f1 17 (.f2 40 (.at .int 6) (.at .int 7))) (.int 1)) (.at .int 6))) (.need (.f2 46 (.f2 41
    (.f2 107 (.f1 17 (.f2 40 (.at .int 6) (.at .int 7))) (.int 1)) (.at .int 6)) (.f2 41 (.at .int 7) (.at .int 6))) (.need (.f2 47 (.at .int 6) (.f2
    107 (.f1 17 (.f2 40 (.at .int 6) (.at .int 7))) (.int 1))) (.need (.f2 47 (.f2 107 (.f1 17 (.f2 40 (.at .int 6) (.at .int 7))) (.int 1)) (.at .int
    2)) (.need (.f2 47 (.us .int 36 (.at .rows 1) (.at .int 2) (.at .int 5) (.int 0)) (.f2 107 (.f1 17 (.f2 40 (.at .int 6) (.at .int 7))) (.int 1)))
    .tt))))))))))))))) (.imp (.f2 47 (.at .int 7) (.at .int 6)) (.and (.imp (.f2 46 (.at .int 6) (.at .int 2)) (.need (.f2 46 (.at .int 6) (.f1 32 (.at
    .rows 1))) (.all 8 .int (.imp (.f2 47 (.int 0) (.at .int 8)) (.need (.f2 155 (.us .bool 37 (.at .rows 1) (.at .int 2) (.at .int 5) (.int 0)) (.f2
    45 (.us .int 46 (.f3 112 (.at .rows 1) (.at .int 6) (.int 0)) (.at .int 5) (.int 0) (.int 0)) (.int 0))) (.need (.f2 45 (.us .int 36 (.at .rows 1)
    (.at .int 2) (.at .int 5) (.int 0)) (.at .int 6)) .tt)))))) (.imp (.f2 47 (.at .int 2) (.at .int 6)) (.need (.f2 155 (.us .bool 37 (.at .rows 1)
    (.at .int 2) (.at .int 5) (.int 0)) (.bool .false)) (.need (.f2 45 (.us .int 36 (.at .rows 1) (.at .int 2) (.at .int 5) (.int 0)) (.at .int 6))
    .tt))))))))))))))))))))
theorem bs_vc : vcOf Try.prog bsCx 10 77 bsCtr = bsVc := by kernel_rfl
-- END VC bs
-- BEGIN VC ins
def insVc : VC := (.imp (.f2 47 (.int 0) (.at .int 2)) (.imp (.f2 47 (.at .int 2) (.f1 32 (.at .rows 1))) (.imp (.f2 47 (.at .int 2) (.int 65534)) (.imp (.f2 47 (.at
    .int 2) (.at .int 3)) (.imp (.f2 47 (.int 0) (.at .int 4)) (.imp (.f2 47 (.at .int 4) (.at .int 2)) (.imp (.f2 45 (.f1 32 (.at .rows 6)) (.int 1))
    (.need (.f2 47 (.int 0) (.at .int 3)) (.and (.imp (.f2 45 (.at .int 4) (.at .int 2)) (.need (.f2 47 (.f2 42 (.f2 40 (.at .int 2) (.int 1)) (.int
    16)) (.int 140737488355328)) (.need (.f2 47 (.int 1) (.f1 32 (.at .rows 6))) (.all 7 .int (.all 8 .int (.imp (.f2 47 (.f2 40 (.at .int 2) (.int 1))
    (.at .int 8)) (.imp (.f2 50 (.f2 47 (.int 0) (.at .int 7)) (.f2 45 (.f2 40 (.at .int 2) (.int 1)) (.int 0))) (.need (.f2 47 (.f2 40 (.at .int 2)
    (.int 1)) (.f2 40 (.f1 32 (.f2 115 (.at .rows 1) (.at .int 2))) (.f1 32 (.f2 115 (.at .rows 6) (.int 1))))) (.need (.f2 155 (.f2 115 (.f2 121 (.f2
    115 (.at .rows 1) (.at .int 2)) (.f2 115 (.at .rows 6) (.int 1))) (.f2 40 (.at .int 2) (.int 1))) (.us .rows 38 (.at .rows 1) (.at .int 2) (.at
    .int 4) (.at .rows 6))) .tt))))))))) (.imp (.f1 2 (.f2 45 (.at .int 4) (.at .int 2))) (.need (.f1 23 (.f2 40 (.at .int 2) (.int 1))) (.and (.imp
    (.f2 46 (.at .int 3) (.f2 40 (.at .int 2) (.int 1))) (.need (.f2 47 (.at .int 4) (.at .int 3)) (.need (.f1 23 (.f2 41 (.f2 40 (.at .int 2) (.int
    1)) (.at .int 4))) (.need (.f2 46 (.at .int 3) (.f2 40 (.at .int 4) (.f2 41 (.f2 40 (.at .int 2) (.int 1)) (.at .int 4)))) (.need (.f2 47 (.f2 42
    (.f2 40 (.at .int 4) (.f2 41 (.f2 40 (.at .int 2) (.int 1)) (.at .int 4))) (.int 16)) (.int 140737488355328)) (.need (.f2 47 (.int 0) (.f2 41 (.f2
    40 (.at .int 2) (.int 1)) (.at .int 4))) (.need (.f2 47 (.at .int 4) (.f1 32 (.at .rows 1))) (.all 7 .int (.all 8 .int (.imp (.f2 47 (.f2 40 (.at
    .int 4) (.f2 41 (.f2 40 (.at .int 2) (.int 1)) (.at .int 4))) (.at .int 8)) (.imp (.f2 47 (.int 0) (.at .int 7)) (.need (.f2 47 (.int 0) (.f2 40
    (.at .int 4) (.f2 41 (.f2 40 (.at .int 2) (.int 1)) (.at .int 4)))) (.need (.f2 47 (.int 0) (.at .int 8)) (.need (.f2 47 (.at .int 4) (.f2 40 (.at
    .int 4) (.f2 41 (.f2 40 (.at .int 2) (.int 1)) (.at .int 4)))) (.need (.f2 47 (.int 0) (.f2 41 (.f2 40 (.at .int 4) (.f2 41 (.f2 40 (.at .int 2)
    (.int 1)) (.at .int 4))) (.at .int 4))) (.need (.f2 47 (.f2 41 (.f2 40 (.at .int 4) (.f2 41 (.f2 40 (.at .int 2) (.int 1)) (.at .int 4))) (.at .int
    4)) (.f2 41 (.at .int 8) (.at .int 4))) (.need (.f2 47 (.at .int 4) (.f2 40 (.f1 32 (.f2 115 (.at .rows 1) (.at .int 4))) (.f1 32 (.f2 127 (.f2 41
    (.f2 40 (.at .int 2) (.int 1)) (.at .int 4)) (.f2 122 (.int 0) (.f2 122 (.int 0) (.f1 152 (.int 0)))))))) (.need (.f2 47 (.f2 40 (.at .int 4) (.f2
    41 (.f2 40 (.at .int 4) (.f2 41 (.f2 40 (.at .int 2) (.int 1)) (.at .int 4))) (.at .int 4))) (.at .int 8)) (.need (.f2 47 (.int 1) (.f1 32 (.at
    .rows 6))) (.need (.f1 23 (.f2 40 (.at .int 4) (.int 1))) (.need (.f2 47 (.int 0) (.f2 40 (.at .int 4) (.int 1))) (.need (.f2 47 (.f2 40 (.at .int
    4) (.int 1)) (.f2 40 (.at .int 4) (.f2 41 (.f2 40 (.at .int 2) (.int 1)) (.at .int 4)))) (.need (.f2 47 (.int 0) (.f2 41 (.f2 40 (.at .int 4) (.f2
    41 (.f2 40 (.at .int 2) (.int 1)) (.at .int 4))) (.f2 40 (.at .int 4) (.int 1)))) (.need (.f2 47 (.f2 41 (.f2 40 (.at .int 4) (.f2 41 (.f2 40 (.at
    .int 2) (.int 1)) (.at .int 4))) (.f2 40 (.at .int 4) (.int 1))) (.f2 41 (.at .int 8) (.f2 40 (.at .int 4) (.int 1)))) (.need (.f2 47 (.f2 40 (.at
    .int 4) (.int 1)) (.f2 40 (.f1 32 (.f2 115 (.f2 121 (.f2 115 (.at .rows 1) (.at .int 4)) (.f2 127 (.f2 41 (.f2 40 (.at .int 2) (.int 1)) (.at .int
    4)) (.f2 122 (.int 0) (.f2 122 (.int 0) (.f1 152 (.int 0)))))) (.at .int 4))) (.f2 40 (.f1 32 (.f2 115 (.f2 115 (.at .rows 6) (.int 1)) (.f2 51
    (.int 1) (.f2 41 (.f2 40 (.at .int 4) (.f2 41 (.f2 40 (.at .int 2) (.int 1)) (.at .int 4))) (.at .int 4))))) (.f1 32 (.f2 118 (.f2 121 (.f2 115
    (.at .rows 1) (.at .int 4)) (.f2 127 (.f2 41 (.f2 40 (.at .int 2) (.int 1)) (.at .int 4)) (.f2 122 (.int 0) (.f2 122 (.int 0) (.f1 152 (.int
    0)))))) (.f2 40 (.at .int 4) (.f2 51 (.int 1) (.f2 41 (.f2 40 (.at .int 4) (.f2 41 (.f2 40 (.at .int 2) (.int 1)) (.at .int 4))) (.at .int
    4))))))))) (.need (.f2 47 (.f2 40 (.f2 40 (.at .int 4) (.f2 41 (.f2 40 (.at .int 4) (.f2 41 (.f2 40 (.at .int 2) (.int 1)) (.at .int 4))) (.f2 40
    (.at .int 4) (.int 1)))) (.int 1)) (.at .int 8)) (.need (.f2 47 (.int 0) (.f2 41 (.at .int 2) (.at .int 4))) (.need (.f2 47 (.f2 41 (.at .int 2)
    (.at .int 4)) (.f2 41 (.at .int 3) (.at .int 4))) (.need (.f2 47 (.f2 40 (.at .int 4) (.f2 41 (.at .int 2) (.at .int 4))) (.f1 32 (.at .rows 1)))
    (.need (.f2 47 (.f2 40 (.at .int 2) (.int 1)) (.f2 40 (.f1 32 (.f2 115 (.f2 121 (.f2 115 (.f2 121 (.f2 115 (.at .rows 1) (.at .int 4)) (.f2 127
    (.f2 41 (.f2 40 (.at .int 2) (.int 1)) (.at .int 4)) (.f2 122 (.int 0) (.f2 122 (.int 0) (.f1 152 (.int 0)))))) (.at .int 4)) (.f2 121 (.f2 115
    (.f2 115 (.at .rows 6) (.int 1)) (.f2 51 (.int 1) (.f2 41 (.f2 40 (.at .int 4) (.f2 41 (.f2 40 (.at .int 2) (.int 1)) (.at .int 4))) (.at .int
    4)))) (.f2 118 (.f2 121 (.f2 115 (.at .rows 1) (.at .int 4)) (.f2 127 (.f2 41 (.f2 40 (.at .int 2) (.int 1)) (.at .int 4)) (.f2 122 (.int 0) (.f2
    122 (.int 0) (.f1 152 (.int 0)))))) (.f2 40 (.at .int 4) (.f2 51 (.int 1) (.f2 41 (.f2 40 (.at .int 4) (.f2 41 (.f2 40 (.at .int 2) (.int 1)) (.at
    .int 4))) (.at .int 4))))))) (.f2 40 (.at .int 4) (.int 1)))) (.f2 40 (.f1 32 (.f2 115 (.f2 115 (.f2 118 (.at .rows 1) (.at .int 4)) (.f2 41 (.at
    .int 2) (.at .int 4))) (.f2 51 (.f2 41 (.at .int 2) (.at .int 4)) (.f2 41 (.f2 40 (.at .int 4) (.f2 41 (.f2 40 (.at .int 2) (.int 1)) (.at .int
    4))) (.f2 40 (.at .int 4) (.int 1)))))) (.f1 32 (.f2 118 (.f2 121 (.f2 115 (.f2 121 (.f2 115 (.at .rows 1) (.at .int 4)) (.f2 127 (.f2 41 (.f2 40
    (.at .int 2) (.int 1)) (.at .int 4)) (.f2 122 (.int 0) (.f2 122 (.int 0) (.f1 152 (.int 0)))))) (.at .int 4)) (.f2 121 (.f2 115 (.f2 115 (.at .rows
    6) (.int 1)) (.f2 51 (.int 1) (.f2 41 (.f2 40 (.at .int 4) (.f2 41 (.f2 40 (.at .int 2) (.int 1)) (.at .int 4))) (.at .int 4)))) (.f2 118 (.f2 121
    (.f2 115 (.at .rows 1) (.at .int 4)) (.f2 127 (.f2 41 (.f2 40 (.at .int 2) (.int 1)) (.at .int 4)) (.f2 122 (.int 0) (.f2 122 (.int 0) (.f1 152
    (.int 0)))))) (.f2 40 (.at .int 4) (.f2 51 (.int 1) (.f2 41 (.f2 40 (.at .int 4) (.f2 41 (.f2 40 (.at .int 2) (.int 1)) (.at .int 4))) (.at .int
    4))))))) (.f2 40 (.f2 40 (.at .int 4) (.f2 51 (.f2 41 (.at .int 2) (.at .int 4)) (.f2 41 (.f2 40 (.at .int 4) (.f2 41 (.f2 40 (.at .int 2) (.int
    1)) (.at .int 4))) (.f2 40 (.at .int 4) (.int 1))))) (.int 1))))))) (.need (.f2 47 (.f2 40 (.at .int 2) (.int 1)) (.at .int 8)) (.need (.f2 155
    (.f2 115 (.f2 121 (.f2 115 (.f2 121 (.f2 115 (.f2 121 (.f2 115 (.at .rows 1) (.at .int 4)) (.f2 127 (.f2 41 (.f2 40 (.at .int 2) (.int 1)) (.at
    .int 4)) (.f2 122 (.int 0) (.f2 122 (.int 0) (.f1 152 (.int 0)))))) (.at .int 4)) (.f2 121 (.f2 115 (.f2 115 (.at .rows 6) (.int 1)) (.f2 51 (.int
    1) (.f2 41 (.f2 40 (.at .int 4) (.f2 41 (.f2 40 (.at .int 2) (.int 1)) (.at .int 4))) (.at .int 4)))) (.f2 118 (.f2 121 (.f2 115 (.at .rows 1) (.at
    .int 4)) (.f2 127 (.f2 41 (.f2 40 (.at .int 2) (.int 1)) (.at .int 4)) (.f2 122 (.int 0) (.f2 122 (.int 0) (.f1 152 (.int 0)))))) (.f2 40 (.at .int
    4) (.f2 51 (.int 1) (.f2 41 (.f2 40 (.at .int 4) (.f2 41 (.f2 40 (.at .int 2) (.int 1)) (.at .int 4))) (.at .int 4))))))) (.f2 40 (.at .int 4)
    (.int 1))) (.f2 121 (.f2 115 (.f2 115 (.f2 118 (.at .rows 1) (.at .int 4)) (.f2 41 (.at .int 2) (.at .int 4))) (.f2 51 (.f2 41 (.at .int 2) (.at
    .int 4)) (.f2 41 (.f2 40 (.at .int 4) (.f2 41 (.f2 40 (.at .int 2) (.int 1)) (.at .int 4))) (.f2 40 (.at .int 4) (.int 1))))) (.f2 118 (.f2 121
    (.f2 115 (.f2 121 (.f2 115 (.at .rows 1) (.at .int 4)) (.f2 127 (.f2 41 (.f2 40 (.at .int 2) (.int 1)) (.at .int 4)) (.f2 122 (.int 0) (.f2 122
    (.int 0) (.f1 152 (.int 0)))))) (.at .int 4)) (.f2 121 (.f2 115 (.f2 115 (.at .rows 6) (.int 1)) (.f2 51 (.int 1) (.f2 41 (.f2 40 (.at .int 4) (.f2
    41 (.f2 40 (.at .int 2) (.int 1)) (.at .int 4))) (.at .int 4)))) (.f2 118 (.f2 121 (.f2 115 (.at .rows 1) (.at .int 4)) (.f2 127 (.f2 41 (.f2 40
    (.at .int 2) (.int 1)) (.at .int 4)) (.f2 122 (.int 0) (.f2 122 (.int 0) (.f1 152 (.int 0)))))) (.f2 40 (.at .int 4) (.f2 51 (.int 1) (.f2 41 (.f2
    40 (.at .int 4) (.f2 41 (.f2 40 (.at .int 2) (.int 1)) (.at .int 4))) (.at .int 4))))))) (.f2 40 (.f2 40 (.at .int 4) (.f2 51 (.f2 41 (.at .int 2)
    (.at .int 4)) (.f2 41 (.f2 40 (.at .int 4) (.f2 41 (.f2 40 (.at .int 2) (.int 1)) (.at .int 4))) (.f2 40 (.at .int 4) (.int 1))))) (.int 1)))))
    (.f2 40 (.at .int 2) (.int 1))) (.us .rows 38 (.at .rows 1) (.at .int 2) (.at .int 4) (.at .rows 6))) (.need (.f2 45 (.f2 40 (.at .int 2) (.int 1))
    (.f2 40 (.at .int 4) (.f2 41 (.f2 40 (.at .int 2) (.int 1)) (.at .int 4)))) .tt))))))))))))))))))))))))))))))))) (.imp (.f2 47 (.f2 40 (.at .int 2)
    (.int 1)) (.at .int 3)) (.need (.f2 47 (.int 0) (.f2 40 (.at .int 2) (.int 1))) (.need (.f1 23 (.f2 40 (.at .int 4) (.int 1))) (.need (.f2 47 (.int
    0) (.f2 40 (.at .int 4) (.int 1))) (.need (.f2 47 (.f2 40 (.at .int 4) (.int 1)) (.f2 40 (.at .int 2) (.int 1))) (.need (.f2 47 (.f2 41 (.f2 40
    (.at .int 2) (.int 1)) (.f2 40 (.at .int 4) (.int 1))) (.at .int 3)) (.need (.f2 47 (.at .int 4) (.f2 40 (.at .int 2) (.int 1))) (.need (.f2 47
    (.int 0) (.f2 41 (.f2 40 (.at .int 2) (.int 1)) (.f2 40 (.at .int 4) (.int 1)))) (.need (.f2 47 (.f2 41 (.f2 40 (.at .int 2) (.int 1)) (.f2 40 (.at
    .int 4) (.int 1))) (.f2 41 (.at .int 3) (.f2 40 (.at .int 4) (.int 1)))) (.need (.f2 47 (.f2 40 (.at .int 4) (.int 1)) (.f1 32 (.at .rows 1)))
    (.need (.f2 47 (.f2 40 (.f2 40 (.at .int 4) (.f2 41 (.f2 40 (.at .int 2) (.int 1)) (.f2 40 (.at .int 4) (.int 1)))) (.int 1)) (.at .int 3)) (.need
    (.f2 47 (.int 0) (.f2 41 (.f2 40 (.at .int 2) (.int 1)) (.at .int 4))) (.need (.f2 47 (.f2 41 (.f2 40 (.at .int 2) (.int 1)) (.at .int 4)) (.f2 41
    (.at .int 3) (.at .int 4))) (.need (.f2 47 (.f2 40 (.at .int 4) (.f2 51 (.f2 41 (.f2 40 (.at .int 2) (.int 1)) (.at .int 4)) (.f2 41 (.f2 40 (.at
    .int 2) (.int 1)) (.f2 40 (.at .int 4) (.int 1))))) (.f1 32 (.at .rows 1))) (.need (.f2 47 (.at .int 4) (.f2 40 (.f1 32 (.f2 115 (.at .rows 1) (.f2
    40 (.at .int 4) (.int 1)))) (.f2 40 (.f1 32 (.f2 115 (.f2 115 (.f2 118 (.at .rows 1) (.at .int 4)) (.f2 51 (.f2 41 (.f2 40 (.at .int 2) (.int 1))
    (.at .int 4)) (.f2 41 (.f2 40 (.at .int 2) (.int 1)) (.f2 40 (.at .int 4) (.int 1))))) (.f2 51 (.f2 41 (.f2 40 (.at .int 2) (.int 1)) (.at .int 4))
    (.f2 41 (.f2 40 (.at .int 2) (.int 1)) (.f2 40 (.at .int 4) (.int 1)))))) (.f1 32 (.f2 118 (.at .rows 1) (.f2 40 (.f2 40 (.at .int 4) (.f2 51 (.f2
    41 (.f2 40 (.at .int 2) (.int 1)) (.at .int 4)) (.f2 41 (.f2 40 (.at .int 2) (.int 1)) (.f2 40 (.at .int 4) (.int 1))))) (.int 1))))))) (.need (.f2
    47 (.f2 40 (.at .int 4) (.f2 41 (.f2 40 (.at .int 2) (.int 1)) (.at .int 4))) (.at .int 3)) (.need (.f2 47 (.int 1) (.f1 32 (.at .rows 6))) (.need
    (.f2 47 (.f2 40 (.at .int 2) (.int 1)) (.f2 40 (.f1 32 (.f2 115 (.f2 121 (.f2 115 (.at .rows 1) (.f2 40 (.at .int 4) (.int 1))) (.f2 121 (.f2 115
    (.f2 115 (.f2 118 (.at .rows 1) (.at .int 4)) (.f2 51 (.f2 41 (.f2 40 (.at .int 2) (.int 1)) (.at .int 4)) (.f2 41 (.f2 40 (.at .int 2) (.int 1))
    (.f2 40 (.at .int 4) (.int 1))))) (.f2 51 (.f2 41 (.f2 40 (.at .int 2) (.int 1)) (.at .int 4)) (.f2 41 (.f2 40 (.at .int 2) (.int 1)) (.f2 40 (.at
    .int 4) (.int 1))))) (.f2 118 (.at .rows 1) (.f2 40 (.f2 40 (.at .int 4) (.f2 51 (.f2 41 (.f2 40 (.at .int 2) (.int 1)) (.at .int 4)) (.f2 41 (.f2
    40 (.at .int 2) (.int 1)) (.f2 40 (.at .int 4) (.int 1))))) (.int 1))))) (.at .int 4))) (.f2 40 (.f1 32 (.f2 115 (.f2 115 (.at .rows 6) (.int 1))
    (.f2 51 (.int 1) (.f2 41 (.f2 40 (.at .int 2) (.int 1)) (.at .int 4))))) (.f1 32 (.f2 118 (.f2 121 (.f2 115 (.at .rows 1) (.f2 40 (.at .int 4)
    (.int 1))) (.f2 121 (.f2 115 (.f2 115 (.f2 118 (.at .rows 1) (.at .int 4)) (.f2 51 (.f2 41 (.f2 40 (.at .int 2) (.int 1)) (.at .int 4)) (.f2 41
    (.f2 40 (.at .int 2) (.int 1)) (.f2 40 (.at .int 4) (.int 1))))) (.f2 51 (.f2 41 (.f2 40 (.at .int 2) (.int 1)) (.at .int 4)) (.f2 41 (.f2 40 (.at
    .int 2) (.int 1)) (.f2 40 (.at .int 4) (.int 1))))) (.f2 118 (.at .rows 1) (.f2 40 (.f2 40 (.at .int 4) (.f2 51 (.f2 41 (.f2 40 (.at .int 2) (.int
    1)) (.at .int 4)) (.f2 41 (.f2 40 (.at .int 2) (.int 1)) (.f2 40 (.at .int 4) (.int 1))))) (.int 1))))) (.f2 40 (.at .int 4) (.f2 51 (.int 1) (.f2
    41 (.f2 40 (.at .int 2) (.int 1)) (.at .int 4))))))))) (.need (.f2 155 (.f2 115 (.f2 121 (.f2 115 (.f2 121 (.f2 115 (.at .rows 1) (.f2 40 (.at .int
    4) (.int 1))) (.f2 121 (.f2 115 (.f2 115 (.f2 118 (.at .rows 1) (.at .int 4)) (.f2 51 (.f2 41 (.f2 40 (.at .int 2) (.int 1)) (.at .int 4)) (.f2 41
    (.f2 40 (.at .int 2) (.int 1)) (.f2 40 (.at .int 4) (.int 1))))) (.f2 51 (.f2 41 (.f2 40 (.at .int 2) (.int 1)) (.at .int 4)) (.f2 41 (.f2 40 (.at
    .int 2) (.int 1)) (.f2 40 (.at .int 4) (.int 1))))) (.f2 118 (.at .rows 1) (.f2 40 (.f2 40 (.at .int 4) (.f2 51 (.f2 41 (.f2 40 (.at .int 2) (.int
    1)) (.at .int 4)) (.f2 41 (.f2 40 (.at .int 2) (.int 1)) (.f2 40 (.at .int 4) (.int 1))))) (.int 1))))) (.at .int 4)) (.f2 121 (.f2 115 (.f2 115
    (.at .rows 6) (.int 1)) (.f2 51 (.int 1) (.f2 41 (.f2 40 (.at .int 2) (.int 1)) (.at .int 4)))) (.f2 118 (.f2 121 (.f2 115 (.at .rows 1) (.f2 40
    (.at .int 4) (.int 1))) (.f2 121 (.f2 115 (.f2 115 (.f2 118 (.at .rows 1) (.at .int 4)) (.f2 51 (.f2 41 (.f2 40 (.at .int 2) (.int 1)) (.at .int
    4)) (.f2 41 (.f2 40 (.at .int 2) (.int 1)) (.f2 40 (.at .int 4) (.int 1))))) (.f2 51 (.f2 41 (.f2 40 (.at .int 2) (.int 1)) (.at .int 4)) (.f2 41
    (.f2 40 (.at .int 2) (.int 1)) (.f2 40 (.at .int 4) (.int 1))))) (.f2 118 (.at .rows 1) (.f2 40 (.f2 40 (.at .int 4) (.f2 51 (.f2 41 (.f2 40 (.at
    .int 2) (.int 1)) (.at .int 4)) (.f2 41 (.f2 40 (.at .int 2) (.int 1)) (.f2 40 (.at .int 4) (.int 1))))) (.int 1))))) (.f2 40 (.at .int 4) (.f2 51
    (.int 1) (.f2 41 (.f2 40 (.at .int 2) (.int 1)) (.at .int 4))))))) (.f2 40 (.at .int 2) (.int 1))) (.us .rows 38 (.at .rows 1) (.at .int 2) (.at
    .int 4) (.at .rows 6))) .tt)))))))))))))))))))))))))))))))
theorem ins_vc : vcOf Try.prog insCx 10 79 insCtr = insVc := by kernel_rfl
-- END VC ins
-- BEGIN VC give
def giveVc : VC := (.and (.imp (.f2 47 (.int 2) (.at .int 2)) (.and (.imp (.f2 47 (.int 65536) (.at .int 2)) (.need (.f2 155 (.us .g 42 (.at .g 1) (.at .int 2) (.at .int
    3) (.int 0)) (.at .g 1)) (.need (.f2 45 (.us .int 39 (.at .g 1) (.at .int 2) (.at .int 3) (.int 0)) (.int 30)) .tt))) (.imp (.f2 46 (.at .int 2)
    (.int 65536)) (.and (.imp (.f2 47 (.int 0) (.at .int 3)) (.and (.imp (.f2 46 (.int 1099511627776) (.at .int 3)) (.need (.f2 155 (.us .g 42 (.at .g
    1) (.at .int 2) (.at .int 3) (.int 0)) (.at .g 1)) (.need (.f2 45 (.us .int 39 (.at .g 1) (.at .int 2) (.at .int 3) (.int 0)) (.int 1)) .tt)))
    (.imp (.f2 47 (.at .int 3) (.int 1099511627776)) (.all 4 .int (.all 5 .int (.all 6 .int (.all 7 .rows (.all 8 .int (.all 9 .int (.all 10 .int (.imp
    (.f2 47 (.int 0) (.at .int 5)) (.imp (.f2 47 (.at .int 5) (.f1 32 (.at .rows 7))) (.imp (.f2 47 (.at .int 5) (.int 65534)) (.imp (.f2 47 (.at .int
    5) (.at .int 6)) (.imp (.us .bool 41 (.at .rows 7) (.at .int 5) (.int 0) (.int 0)) (.imp (.f2 155 (.us .rows 21 (.at .g 1) (.int 0) (.int 0) (.int
    0)) (.f2 115 (.at .rows 7) (.at .int 5))) (.and (.imp (.us .bool 37 (.at .rows 7) (.at .int 5) (.at .int 2) (.int 0)) (.need (.f2 155 (.us .g 42
    (.at .g 1) (.at .int 2) (.at .int 3) (.int 0)) (.us .g 22 (.at .g 1) (.at .rows 7) (.at .int 5) (.int 0))) (.need (.f2 45 (.us .int 39 (.at .g 1)
    (.at .int 2) (.at .int 3) (.int 0)) (.int 100)) .tt))) (.imp (.f1 2 (.us .bool 37 (.at .rows 7) (.at .int 5) (.at .int 2) (.int 0))) (.all 11 .int
    (.imp (.f2 47 (.int 0) (.at .int 11)) (.need (.f2 47 (.int 0) (.us .int 36 (.at .rows 7) (.at .int 5) (.at .int 2) (.int 0))) (.need (.f2 47 (.us
    .int 36 (.at .rows 7) (.at .int 5) (.at .int 2) (.int 0)) (.at .int 5)) (.all 12 .int (.all 13 .int (.all 14 .rows (.imp (.f2 47 (.f2 40 (.at .int
    5) (.int 1)) (.f1 32 (.at .rows 14))) (.imp (.f2 47 (.f2 40 (.at .int 5) (.int 1)) (.at .int 13)) (.imp (.f2 155 (.f2 115 (.at .rows 14) (.f2 40
    (.at .int 5) (.int 1))) (.us .rows 38 (.at .rows 7) (.at .int 5) (.us .int 36 (.at .rows 7) (.at .int 5) (.at .int 2) (.int 0)) (.f2 124 (.f2 122
    (.at .int 2) (.f2 122 (.at .int 3) (.f1 152 (.int 0)))) (.f1 154 (.int 0))))) (.need (.f2 47 (.int 0) (.f2 40 (.at .int 5) (.int 1))) (.need (.us
    .bool 41 (.at .rows 14) (.f2 40 (.at .int 5) (.int 1)) (.int 0) (.int 0)) (.need (.f2 155 (.us .g 42 (.at .g 1) (.at .int 2) (.at .int 3) (.int 0))
    (.us .g 22 (.at .g 1) (.at .rows 14) (.f2 40 (.at .int 5) (.int 1)) (.int 0))) (.need (.f2 45 (.us .int 39 (.at .g 1) (.at .int 2) (.at .int 3)
    (.int 0)) (.int 0)) .tt)))))))))))))))))))))))))))))))) (.imp (.f2 46 (.at .int 3) (.int 0)) (.need (.f2 155 (.us .g 42 (.at .g 1) (.at .int 2)
    (.at .int 3) (.int 0)) (.at .g 1)) (.need (.f2 45 (.us .int 39 (.at .g 1) (.at .int 2) (.at .int 3) (.int 0)) (.int 1)) .tt))))))) (.imp (.f2 46
    (.at .int 2) (.int 2)) (.need (.f2 155 (.us .g 42 (.at .g 1) (.at .int 2) (.at .int 3) (.int 0)) (.at .g 1)) (.need (.f2 45 (.us .int 39 (.at .g 1)
    (.at .int 2) (.at .int 3) (.int 0)) (.int 30)) .tt))))
theorem give_vc : vcOf Try.prog giveCx 10 34 giveCtr = giveVc := by kernel_rfl
-- END VC give
-- PROOFS
theorem cmp_ok (S : Sig FL) (hS : FlSig S) : CtrOk S Try.prog 56 cmpCtr := by
  refine vcOf_sound S (C := cmpCx) (fuel := 10) (cx_of trivial trivial trivial) fun ρ => ?_
  rw [cmp_vc]
  simp only [cmpVc, VC.den, SX.den, co_int, Env.upd, hS.u46, p45, p46, p47, U.toInt_int, Int.reduceAdd, Int.reduceNeg]
  generalize (ρ 0).toInt = a
  generalize (ρ 1).toInt = b
  unfold cmpI
  refine ⟨fun h => ⟨by rw [if_pos h], trivial⟩, fun h => ⟨fun h2 => ⟨by rw [if_neg (by omega), if_pos h2], trivial⟩, fun h2 => ⟨by rw [if_neg (by omega), if_neg (by omega)], trivial⟩⟩⟩
theorem half_i64 {x : Int} (h0 : 0 ≤ x) (h1 : x ≤ 1000000000) : Int.fdiv (IntKind.wrap .u64 x) (2 ^ (min (Int.toNat 1) (IntKind.bits .u64))) = x / 2 := by
  have e : IntKind.wrap .u64 x = x := by unfold IntKind.wrap; simp only [IntKind.signed, IntKind.bits]; simp; omega
  rw [e]
  have : (2 : Int) ^ (min (Int.toNat 1) (IntKind.bits .u64)) = 2 := by decide
  rw [this]
  rw [Int.fdiv_eq_ediv_of_nonneg _ (by decide)]
theorem bs_ok (S : Sig FL) (hS : FlSig S) : CtrOk S Try.prog 77 bsCtr := by
  refine vcOf_sound S (C := bsCx) (fuel := 10) (cx_of ⟨one_spec (by decide) (cmp_ok S hS), trivial⟩ ⟨⟨trivial, trivial⟩, trivial⟩ trivial) fun ρ => ?_
  rw [bs_vc]
  simp only [bsVc, VC.den, SX.den, co_int, co_bool, co_rows, Env.upd, hS.u36, hS.u37, hS.u41, hS.u46, p155, p23, p45, p46, p47, ap1_2, ap1_17, ap1_32, ap2_40, ap2_41, ap2_45, ap2_107, ap3_112, U.toProp_bool, U.toBool_bool, i64lo, i64hi, U.toInt_int, U.toRows_rows, Int.toNat_zero, Nat.reduceEqDiff, reduceIte, U.bool.injEq, beq_iff_eq]
  generalize (ρ 1).toRows = R
  generalize (ρ 2).toInt = n
  generalize (ρ 5).toInt = p
  intro a1 a2 a3 hg
  have hg := goodB_iff.1 hg
  have hl := lowE_le p (R.take n.toNat)
  have hln : (((R.take n.toNat).length : Nat) : Int) = n := by rw [List.length_take]; omega
  have hlt := @low_lt p (R.take n.toNat)
  have hhas := @has_low p (R.take n.toNat) hg.2
  rw [hln] at hl hhas
  generalize hlow : lowE p (R.take n.toNat) = low at *
  refine ⟨by omega, by omega, by omega, fun i j h1 h2 h3 h4 h5 => ⟨fun hij => ?_, fun hij => ⟨fun hi => ⟨by omega, fun _ _ => ⟨?_, by omega, trivial⟩⟩, fun hi => ⟨?_, by omega, trivial⟩⟩⟩⟩
  · rw [half_i64 (x := i + j) (by omega) (by omega)]
    have hh := hlt (h := ((i + j) / 2).toNat) hg.2 (by omega)
    rw [nth_take (by omega)] at hh
    rw [cmpI_lt, show ∀ q, (0 ≤ cmpI q p ↔ ¬ q < p) from fun q => by rw [← cmpI_lt]; omega]
    have e : (((((i + j) / 2).toNat : Nat)) : Int) = (i + j) / 2 := by omega
    rw [e] at hh
    refine ⟨by omega, by omega, by omega, by omega, by omega, fun _ _ => ⟨fun hc => ?_, fun hc => ?_⟩⟩
    · have := hh.1 hc
      repeat' (first | exact trivial | apply And.intro)
      all_goals omega
    · have : ¬ (i + j) / 2 < low := fun h => hc (hh.2 h)
      repeat' (first | exact trivial | apply And.intro)
      all_goals omega
  · have e : i = low := by omega
    subst e
    rw [nth_take (by omega)] at hhas
    rw [Bool.eq_iff_iff, hhas, beq_iff_eq, cmpI_eq]
    exact ⟨fun h => h.2, fun h => ⟨hi, h⟩⟩
  · have e : low = n := by omega
    rw [Bool.eq_false_iff]
    intro h
    have := (hhas.1 h).1
    omega
theorem ins_ok (S : Sig FL) (hS : FlSig S) : CtrOk S Try.prog 79 insCtr := by
  refine vcOf_sound S (C := insCx) (fuel := 10) (cx_of trivial trivial ⟨one_ext (by decide) (ovE_ok S), trivial⟩) fun ρ => ?_
  rw [ins_vc]
  simp only [insVc, VC.den, SX.den, co_int, co_bool, co_rows, Env.upd, hS.u38, p155, p23, p45, p46, p47, p50, b47, b45, ap1_2, ap1_32, ap1_152, ap2_40, ap2_41, ap2_42, ap2_45, ap2_51i, ap2_115, ap2_118, ap2_121, ap2_122, ap2_127, U.toProp_bool, U.toBool_bool, i64lo, i64hi, U.toInt_int, U.toInts_ints, U.toRows_rows, Int.toNat_zero, toNat1, Nat.reduceEqDiff, reduceIte, Bool.not_eq_true', beq_eq_false_iff_ne, beq_iff_eq, ne_eq, U.rows.injEq]
  generalize (ρ 1).toRows = R
  generalize (ρ 6).toRows = V
  generalize (ρ 2).toInt = n
  generalize (ρ 3).toInt = c
  generalize (ρ 4).toInt = i
  intro a1 a2 a3 a4 a5 a6 a7
  have hV : V.length = 1 := by omega
  have hV1 : V.take 1 = V := List.take_of_length_le (by omega)
  have hln : (R.take n.toNat).length = n.toNat := by rw [List.length_take]; omega
  have hli : (R.take i.toNat).length = i.toNat := by rw [List.length_take]; omega
  have e1 : (n + 1).toNat = n.toNat + 1 := by omega
  refine ⟨by omega, fun hi => ?_, fun hi => ⟨by omega, fun hc => ?_, fun hc => ?_⟩⟩
  · refine ⟨by omega, by omega, fun b c' h1 h2 => ⟨by rw [hV1, hln, hV]; omega, ?_, trivial⟩⟩
    rw [hi, e1]
    exact ins_end (by omega) hV
  · have m1 : imin 1 (i + (n + 1 - i) - i) = 1 := imin_left (by omega)
    have m2 : imin (n - i) (i + (n + 1 - i) - (i + 1)) = n - i := imin_left (by omega)
    simp only [m1, m2, toNat1]
    have f1 : (i + 1).toNat = i.toNat + 1 := by omega
    have f2 : (n - i).toNat = n.toNat - i.toNat := by omega
    have f3 : (i + (n - i) + 1).toNat = n.toNat + 1 := by omega
    simp only [f1, f2, f3, e1, hV1]
    repeat' (first | exact trivial | apply And.intro | intro _)
    all_goals first
      | omega
      | (simp only [List.length_append, List.length_take, List.length_drop, List.length_replicate, hV]; omega)
      | skip
    all_goals rw [List.take_take, Nat.min_self]; exact ins_grow (by omega) (by omega) hV
  · have m1 : imin 1 (n + 1 - i) = 1 := imin_left (by omega)
    have m2 : imin (n + 1 - i) (n + 1 - (i + 1)) = n - i := by rw [imin_right (by omega)]; omega
    simp only [m1, m2, toNat1]
    have f1 : (i + 1).toNat = i.toNat + 1 := by omega
    have f2 : (n - i).toNat = n.toNat - i.toNat := by omega
    have f3 : (i + (n - i) + 1).toNat = n.toNat + 1 := by omega
    simp only [f1, f2, f3, e1, hV1]
    repeat' (first | exact trivial | apply And.intro | intro _)
    all_goals first
      | omega
      | (simp only [List.length_append, List.length_take, List.length_drop, List.length_replicate, hV]; omega)
      | skip
    all_goals rw [List.take_take, Nat.min_self]; exact ins_here (by omega) (by omega) hV
theorem give_ok (S : Sig FL) (hS : FlSig S) (hu : GhOk S unfC) (hf : GhOk S fldC) : CtrOk S Try.prog 34 giveCtr := by
  refine vcOf_sound S (C := giveCx) (fuel := 10) (cx_of ⟨one_spec (by decide) (bs_ok S hS), one_spec (by decide) (ins_ok S hS), trivial⟩ ⟨⟨⟨by decide, hu⟩, ⟨by decide, hf⟩, ⟨by decide, hf⟩, trivial⟩, trivial⟩ trivial) fun ρ => ?_
  rw [give_vc]
  simp only [giveVc, VC.den, SX.den, co_int, co_bool, co_rows, co_g, gOf_g, Env.upd, hS.u21, hS.u22, hS.u36, hS.u37, hS.u38, hS.u39, hS.u41, hS.u42, p155, p23, p45, p46, p47, ap1_2, ap1_32, ap1_152, ap1_154, ap2_40, ap2_115, ap2_122, ap2_124, U.toProp_bool, U.toBool_bool, Bool.not_eq_true', i64lo, i64hi, U.toInt_int, U.toInts_ints, U.toRows_rows, Nat.reduceEqDiff, reduceIte, U.rows.injEq, U.g.injEq]
  obtain ⟨s, hs⟩ : ∃ s, U.co S Srt.g (ρ 1) = .g s := by cases ρ 1 <;> exact ⟨_, rfl⟩
  simp only [hs, gOf_g, U.g.injEq]
  generalize (ρ 2).toInt = p
  generalize (ρ 3).toInt = t
  obtain ⟨e, m, last⟩ := s
  have same : ∀ e, giveE p t e ≠ 0 → giveL p t e = e := fun e h => by unfold giveL; rw [if_neg h]
  have h30 : ∀ e, ¬ (2 ≤ p ∧ p < 65536) → giveE p t e = 30 := fun e h => by unfold giveE; rw [if_pos h]
  have h1 : ∀ e, (2 ≤ p ∧ p < 65536) → (t < 0 ∨ 1099511627776 < t) → giveE p t e = 1 := fun e h h' => by unfold giveE; rw [if_neg (fun x => x h), if_pos h']
  refine ⟨fun a1 => ⟨fun a2 => ?_, fun a2 => ⟨fun a3 => ⟨fun a4 => ?_, fun a4 b n c R bm nm cm k0 k1 k2 k3 hg he => ?_⟩, fun a3 => ?_⟩⟩, fun a1 => ?_⟩
  · have := h30 e (by omega)
    exact ⟨by rw [same e (by omega)], this, trivial⟩
  · have := h1 e (by omega) (by omega)
    exact ⟨by rw [same e (by omega)], this, trivial⟩
  · simp only at he
    subst he
    have hg := goodB_iff.1 hg
    have hl := lowE_le p (R.take n.toNat)
    have hln : (((R.take n.toNat).length : Nat) : Int) = n := by rw [List.length_take]; omega
    rw [hln] at hl
    have h2 : hasE p (R.take n.toNat) = true → giveE p t (R.take n.toNat) = 100 := fun h => by unfold giveE; rw [if_neg (by omega), if_neg (by omega), if_pos h]
    have h3 : hasE p (R.take n.toNat) = false → giveE p t (R.take n.toNat) = 0 := fun h => by unfold giveE; rw [if_neg (by omega), if_neg (by omega), h]; rfl
    refine ⟨fun hh => ?_, fun hh _ _ => ⟨hl.1, hl.2, fun b' c' R' q1 q2 q3 => ?_⟩⟩
    · have := h2 hh
      exact ⟨by rw [same _ (show giveE p t (R.take n.toNat) ≠ 0 by omega)], this, trivial⟩
    · have h0 := h3 hh
      have hi := ins_low (p := p) (t := t) hg.2
      have e1 : giveL p t (R.take n.toNat) = R'.take (n + 1).toNat := by unfold giveL; rw [if_pos h0, hi, q3]
      refine ⟨by omega, ?_, by rw [e1], h0, trivial⟩
      rw [goodB_iff, ← e1]
      unfold giveL
      rw [if_pos h0]
      exact hg.ins (by omega) (by omega) a3 a4 hh
  · have := h1 e (by omega) (by omega)
    exact ⟨by rw [same e (by omega)], this, trivial⟩
  · have := h30 e (by omega)
    exact ⟨by rw [same e (by omega)], this, trivial⟩
end
end Go.Proofs.Ytmjonggabppgaaa

/- Where the first free entry stands. -/
set_option linter.unusedSimpArgs false
set_option linter.unusedVariables false
namespace Go.Proofs.Ytmjonggabppgaaa
noncomputable section
open Go.Eng
def idxCtr : Ctr := ⟨[.int, .rows, .int, .int, .int], [.one (slC (ai 0) (ai 2) (ai 3) 2), .one (.fn 75)], [.arr enT (ai 0) (rA 1) (ai 4)],
  [eLe (.int 0) (ai 2), eLe (ai 2) (.f1 32 (rA 1)), eLe (ai 2) (.int 65534)], [], .one (.int .i64 (usI 26 (rA 1) (ai 2) z0)), [.arr enT (ai 0) (rA 1) (ai 4)], []⟩
def idxInv : Inv := ⟨[.int], [(8, .one (.int .i64 (di 0)))], [], [eLe (.int 0) (di 0), eLe (di 0) (ai 2), eEq (usI 26 (rA 1) (di 0) z0) (.int (-1))], .f2 41 (ai 2) (di 0)⟩
def idxCx : Cx := { specs := [], anns := [(74, [(2, .inv idxInv)])] }
-- BEGIN VC idx
def idxVc : VC := (.imp (.f2 47 (.int 0) (.at .int 2)) (.imp (.f2 47 (.at .int 2) (.f1 32 (.at .rows 1))) (.imp (.f2 47 (.at .int 2) (.int 65534)) (.need (.f2 45 (.us
    .int 26 (.at .rows 1) (.int 0) (.int 0) (.int 0)) (.int (-(0 + 1)))) (.all 5 .int (.imp (.f2 47 (.int 0) (.at .int 5)) (.imp (.f2 47 (.at .int 5)
    (.at .int 2)) (.imp (.f2 45 (.us .int 26 (.at .rows 1) (.at .int 5) (.int 0) (.int 0)) (.int (-(0 + 1)))) (.and (.imp (.f2 46 (.at .int 5) (.at
    .int 2)) (.need (.f2 46 (.at .int 5) (.f1 32 (.at .rows 1))) (.all 6 .int (.imp (.f2 47 (.int 0) (.at .int 6)) (.and (.imp (.f2 45 (.f3 112 (.at
    .rows 1) (.at .int 5) (.int 1)) (.int 0)) (.need (.f2 45 (.us .int 26 (.at .rows 1) (.at .int 2) (.int 0) (.int 0)) (.at .int 5)) .tt)) (.imp (.f1
    2 (.f2 45 (.f3 112 (.at .rows 1) (.at .int 5) (.int 1)) (.int 0))) (.need (.f1 23 (.f2 40 (.at .int 5) (.int 1))) (.need (.f2 47 (.int 0) (.f2 41
    (.at .int 2) (.f2 40 (.at .int 5) (.int 1)))) (.need (.f2 46 (.f2 41 (.at .int 2) (.f2 40 (.at .int 5) (.int 1))) (.f2 41 (.at .int 2) (.at .int
    5))) (.need (.f2 47 (.int 0) (.f2 40 (.at .int 5) (.int 1))) (.need (.f2 47 (.f2 40 (.at .int 5) (.int 1)) (.at .int 2)) (.need (.f2 45 (.us .int
    26 (.at .rows 1) (.f2 40 (.at .int 5) (.int 1)) (.int 0) (.int 0)) (.int (-(0 + 1)))) .tt)))))))))))) (.imp (.f2 47 (.at .int 2) (.at .int 5))
    (.need (.f2 45 (.us .int 26 (.at .rows 1) (.at .int 2) (.int 0) (.int 0)) (.int (-(0 + 1)))) .tt)))))))))))
theorem idx_vc : vcOf Try.prog idxCx 10 74 idxCtr = idxVc := by kernel_rfl
-- END VC idx
-- PROOFS
theorem idx_ok (S : Sig FL) (hS : FlSig S) : CtrOk S Try.prog 74 idxCtr := by
  refine vcOf_sound S (C := idxCx) (fuel := 10) (cx_of trivial ⟨⟨trivial, trivial⟩, trivial⟩ trivial) fun ρ => ?_
  rw [idx_vc]
  simp only [idxVc, VC.den, SX.den, U.co, Env.upd, hS.u26, p23, p45, p46, p47, ap1_2, ap1_32, ap2_40, ap2_41, ap2_45, ap3_112, U.toProp_bool, U.toBool_bool, Bool.not_eq_true', beq_eq_false_iff_ne, beq_iff_eq, ne_eq, i64lo, i64hi, U.toInt_int, U.toRows_rows, Int.toNat_zero, toNat1, List.take_zero, Nat.reduceEqDiff, reduceIte, Int.reduceAdd, Int.reduceNeg]
  generalize (ρ 1).toRows = R
  generalize (ρ 2).toInt = n
  intro a1 a2 a3
  refine ⟨rfl, fun x k0 k1 k2 => ⟨fun hk => ⟨by omega, fun y _ => ⟨fun hz => ⟨idx_found k0 hk a2 k2 hz, trivial⟩, fun hz => ⟨by omega, by omega, by omega, by omega, by omega, idx_step k0 (by omega) k2 hz, trivial⟩⟩⟩, fun hk => ⟨?_, trivial⟩⟩⟩
  have : x = n := by omega
  rw [← this]; exact k2
end
end Go.Proofs.Ytmjonggabppgaaa

/- The least free page is taken. -/
set_option linter.unusedSimpArgs false
set_option linter.unusedVariables false
namespace Go.Proofs.Ytmjonggabppgaaa
noncomputable section
open Go.Eng
def takeCtr : Ctr := ⟨[.int, .g], [.one (.ptr (ai 0) 0)], [freeC (ai 0) (gA 1)], [], [], .tup [(false, [.int .i64 (usI 23 (gA 1) z0 z0)]), (false, [.bool (usB 24 (gA 1) z0 z0)])], [freeC (ai 0) (usG 25 (gA 1) z0 z0)], []⟩
def takeCx : Cx := { specs := [(74, [idxCtr])], anns := [(33, [(1, .ghost unfC [.tmp 0]), (3, .ghost fldC [.tmp 0]), (6, .ghost fldC [.tmp 0])]), (76, [(5, .ghost inC [.tmp 0, .tmp 1, .tmp 2])])] }
-- BEGIN VC take
def takeVc : VC := (.all 2 .int (.all 3 .int (.all 4 .int (.all 5 .rows (.all 6 .int (.all 7 .int (.all 8 .int (.imp (.f2 47 (.int 0) (.at .int 3)) (.imp (.f2 47 (.at
    .int 3) (.f1 32 (.at .rows 5))) (.imp (.f2 47 (.at .int 3) (.int 65534)) (.imp (.f2 47 (.at .int 3) (.at .int 4)) (.imp (.us .bool 41 (.at .rows 5)
    (.at .int 3) (.int 0) (.int 0)) (.imp (.f2 155 (.us .rows 21 (.at .g 1) (.int 0) (.int 0) (.int 0)) (.f2 115 (.at .rows 5) (.at .int 3))) (.and
    (.imp (.f2 46 (.us .int 26 (.at .rows 5) (.at .int 3) (.int 0) (.int 0)) (.int 0)) (.need (.f2 155 (.us .g 25 (.at .g 1) (.int 0) (.int 0) (.int
    0)) (.us .g 22 (.at .g 1) (.at .rows 5) (.at .int 3) (.int 0))) (.need (.f2 155 (.us .bool 24 (.at .g 1) (.int 0) (.int 0) (.int 0)) (.bool
    .false)) (.need (.f2 45 (.us .int 23 (.at .g 1) (.int 0) (.int 0) (.int 0)) (.int 0)) .tt)))) (.imp (.f2 47 (.int 0) (.us .int 26 (.at .rows 5)
    (.at .int 3) (.int 0) (.int 0))) (.need (.f2 46 (.us .int 26 (.at .rows 5) (.at .int 3) (.int 0) (.int 0)) (.at .int 3)) (.need (.f2 46 (.us .int
    26 (.at .rows 5) (.at .int 3) (.int 0) (.int 0)) (.f1 32 (.at .rows 5))) (.need (.f1 23 (.f2 40 (.us .int 26 (.at .rows 5) (.at .int 3) (.int 0)
    (.int 0)) (.int 1))) (.need (.f2 47 (.int 0) (.at .int 4)) (.need (.f2 47 (.us .int 26 (.at .rows 5) (.at .int 3) (.int 0) (.int 0)) (.f2 40 (.us
    .int 26 (.at .rows 5) (.at .int 3) (.int 0) (.int 0)) (.int 1))) (.need (.f2 47 (.int 0) (.f2 40 (.us .int 26 (.at .rows 5) (.at .int 3) (.int 0)
    (.int 0)) (.int 1))) (.need (.f2 47 (.f2 40 (.us .int 26 (.at .rows 5) (.at .int 3) (.int 0) (.int 0)) (.int 1)) (.at .int 3)) (.and (.imp (.f2 45
    (.us .int 26 (.at .rows 5) (.at .int 3) (.int 0) (.int 0)) (.f2 40 (.us .int 26 (.at .rows 5) (.at .int 3) (.int 0) (.int 0)) (.int 1))) (.need
    (.f2 155 (.us .g 25 (.at .g 1) (.int 0) (.int 0) (.int 0)) (.us .g 22 (.at .g 1) (.at .rows 5) (.at .int 3) (.int 0))) (.need (.f2 155 (.us .bool
    24 (.at .g 1) (.int 0) (.int 0) (.int 0)) (.bool .true)) (.need (.f2 45 (.us .int 23 (.at .g 1) (.int 0) (.int 0) (.int 0)) (.f3 112 (.at .rows 5)
    (.us .int 26 (.at .rows 5) (.at .int 3) (.int 0) (.int 0)) (.int 0))) .tt)))) (.imp (.f1 2 (.f2 45 (.us .int 26 (.at .rows 5) (.at .int 3) (.int 0)
    (.int 0)) (.f2 40 (.us .int 26 (.at .rows 5) (.at .int 3) (.int 0) (.int 0)) (.int 1)))) (.need (.f2 47 (.f2 40 (.us .int 26 (.at .rows 5) (.at
    .int 3) (.int 0) (.int 0)) (.f2 41 (.at .int 3) (.f2 40 (.us .int 26 (.at .rows 5) (.at .int 3) (.int 0) (.int 0)) (.int 1)))) (.at .int 4)) (.imp
    (.f2 47 (.f2 40 (.us .int 26 (.at .rows 5) (.at .int 3) (.int 0) (.int 0)) (.f2 41 (.at .int 3) (.f2 40 (.us .int 26 (.at .rows 5) (.at .int 3)
    (.int 0) (.int 0)) (.int 1)))) (.at .int 4)) (.need (.f2 47 (.us .int 26 (.at .rows 5) (.at .int 3) (.int 0) (.int 0)) (.at .int 4)) (.need (.f2 47
    (.us .int 26 (.at .rows 5) (.at .int 3) (.int 0) (.int 0)) (.f1 32 (.at .rows 5))) (.need (.f2 47 (.int 0) (.f2 41 (.at .int 3) (.f2 40 (.us .int
    26 (.at .rows 5) (.at .int 3) (.int 0) (.int 0)) (.int 1)))) (.need (.f2 47 (.f2 41 (.at .int 3) (.f2 40 (.us .int 26 (.at .rows 5) (.at .int 3)
    (.int 0) (.int 0)) (.int 1))) (.f2 41 (.at .int 4) (.f2 40 (.us .int 26 (.at .rows 5) (.at .int 3) (.int 0) (.int 0)) (.int 1)))) (.need (.f2 47
    (.f2 40 (.f2 40 (.us .int 26 (.at .rows 5) (.at .int 3) (.int 0) (.int 0)) (.f2 41 (.at .int 3) (.f2 40 (.us .int 26 (.at .rows 5) (.at .int 3)
    (.int 0) (.int 0)) (.int 1)))) (.int 1)) (.f1 32 (.at .rows 5))) (.need (.f2 47 (.int 0) (.f2 40 (.us .int 26 (.at .rows 5) (.at .int 3) (.int 0)
    (.int 0)) (.f2 41 (.at .int 3) (.f2 40 (.us .int 26 (.at .rows 5) (.at .int 3) (.int 0) (.int 0)) (.int 1))))) (.need (.f2 47 (.f2 40 (.us .int 26
    (.at .rows 5) (.at .int 3) (.int 0) (.int 0)) (.f2 41 (.at .int 3) (.f2 40 (.us .int 26 (.at .rows 5) (.at .int 3) (.int 0) (.int 0)) (.int 1))))
    (.at .int 3)) (.need (.f2 47 (.int 0) (.f2 41 (.at .int 3) (.f2 40 (.us .int 26 (.at .rows 5) (.at .int 3) (.int 0) (.int 0)) (.f2 41 (.at .int 3)
    (.f2 40 (.us .int 26 (.at .rows 5) (.at .int 3) (.int 0) (.int 0)) (.int 1)))))) (.need (.f2 47 (.f2 41 (.at .int 3) (.f2 40 (.us .int 26 (.at
    .rows 5) (.at .int 3) (.int 0) (.int 0)) (.f2 41 (.at .int 3) (.f2 40 (.us .int 26 (.at .rows 5) (.at .int 3) (.int 0) (.int 0)) (.int 1))))) (.f2
    41 (.at .int 4) (.f2 40 (.us .int 26 (.at .rows 5) (.at .int 3) (.int 0) (.int 0)) (.f2 41 (.at .int 3) (.f2 40 (.us .int 26 (.at .rows 5) (.at
    .int 3) (.int 0) (.int 0)) (.int 1)))))) (.need (.f2 47 (.f2 40 (.f2 40 (.us .int 26 (.at .rows 5) (.at .int 3) (.int 0) (.int 0)) (.f2 41 (.at
    .int 3) (.f2 40 (.us .int 26 (.at .rows 5) (.at .int 3) (.int 0) (.int 0)) (.int 1)))) (.f2 41 (.at .int 3) (.f2 40 (.us .int 26 (.at .rows 5) (.at
    .int 3) (.int 0) (.int 0)) (.f2 41 (.at .int 3) (.f2 40 (.us .int 26 (.at .rows 5) (.at .int 3) (.int 0) (.int 0)) (.int 1)))))) (.f2 40 (.f1 32
    (.f2 115 (.at .rows 5) (.us .int 26 (.at .rows 5) (.at .int 3) (.int 0) (.int 0)))) (.f2 40 (.f1 32 (.f2 115 (.f2 118 (.at .rows 5) (.f2 40 (.us
    .int 26 (.at .rows 5) (.at .int 3) (.int 0) (.int 0)) (.int 1))) (.f2 41 (.at .int 3) (.f2 40 (.us .int 26 (.at .rows 5) (.at .int 3) (.int 0)
    (.int 0)) (.int 1))))) (.f1 32 (.f2 118 (.at .rows 5) (.f2 40 (.us .int 26 (.at .rows 5) (.at .int 3) (.int 0) (.int 0)) (.f2 41 (.at .int 3) (.f2
    40 (.us .int 26 (.at .rows 5) (.at .int 3) (.int 0) (.int 0)) (.int 1))))))))) (.need (.f2 47 (.f2 40 (.us .int 26 (.at .rows 5) (.at .int 3) (.int
    0) (.int 0)) (.f2 41 (.at .int 3) (.f2 40 (.us .int 26 (.at .rows 5) (.at .int 3) (.int 0) (.int 0)) (.int 1)))) (.f2 40 (.f1 32 (.f2 115 (.f2 121
    (.f2 115 (.at .rows 5) (.us .int 26 (.at .rows 5) (.at .int 3) (.int 0) (.int 0))) (.f2 121 (.f2 115 (.f2 118 (.at .rows 5) (.f2 40 (.us .int 26
    (.at .rows 5) (.at .int 3) (.int 0) (.int 0)) (.int 1))) (.f2 41 (.at .int 3) (.f2 40 (.us .int 26 (.at .rows 5) (.at .int 3) (.int 0) (.int 0))
    (.int 1)))) (.f2 118 (.at .rows 5) (.f2 40 (.us .int 26 (.at .rows 5) (.at .int 3) (.int 0) (.int 0)) (.f2 41 (.at .int 3) (.f2 40 (.us .int 26
    (.at .rows 5) (.at .int 3) (.int 0) (.int 0)) (.int 1))))))) (.f2 40 (.us .int 26 (.at .rows 5) (.at .int 3) (.int 0) (.int 0)) (.f2 41 (.at .int
    3) (.f2 40 (.us .int 26 (.at .rows 5) (.at .int 3) (.int 0) (.int 0)) (.int 1)))))) (.f2 40 (.f1 32 (.f2 127 (.f2 41 (.at .int 3) (.f2 40 (.us .int
    26 (.at .rows 5) (.at .int 3) (.int 0) (.int 0)) (.f2 41 (.at .int 3) (.f2 40 (.us .int 26 (.at .rows 5) (.at .int 3) (.int 0) (.int 0)) (.int
    1))))) (.f2 122 (.int 0) (.f2 122 (.int 0) (.f1 152 (.int 0)))))) (.f1 32 (.f2 118 (.f2 121 (.f2 115 (.at .rows 5) (.us .int 26 (.at .rows 5) (.at
    .int 3) (.int 0) (.int 0))) (.f2 121 (.f2 115 (.f2 118 (.at .rows 5) (.f2 40 (.us .int 26 (.at .rows 5) (.at .int 3) (.int 0) (.int 0)) (.int 1)))
    (.f2 41 (.at .int 3) (.f2 40 (.us .int 26 (.at .rows 5) (.at .int 3) (.int 0) (.int 0)) (.int 1)))) (.f2 118 (.at .rows 5) (.f2 40 (.us .int 26
    (.at .rows 5) (.at .int 3) (.int 0) (.int 0)) (.f2 41 (.at .int 3) (.f2 40 (.us .int 26 (.at .rows 5) (.at .int 3) (.int 0) (.int 0)) (.int
    1))))))) (.f2 40 (.f2 40 (.us .int 26 (.at .rows 5) (.at .int 3) (.int 0) (.int 0)) (.f2 41 (.at .int 3) (.f2 40 (.us .int 26 (.at .rows 5) (.at
    .int 3) (.int 0) (.int 0)) (.int 1)))) (.f2 41 (.at .int 3) (.f2 40 (.us .int 26 (.at .rows 5) (.at .int 3) (.int 0) (.int 0)) (.f2 41 (.at .int 3)
    (.f2 40 (.us .int 26 (.at .rows 5) (.at .int 3) (.int 0) (.int 0)) (.int 1))))))))))) (.need (.us .bool 41 (.f2 121 (.f2 115 (.f2 121 (.f2 115 (.at
    .rows 5) (.us .int 26 (.at .rows 5) (.at .int 3) (.int 0) (.int 0))) (.f2 121 (.f2 115 (.f2 118 (.at .rows 5) (.f2 40 (.us .int 26 (.at .rows 5)
    (.at .int 3) (.int 0) (.int 0)) (.int 1))) (.f2 41 (.at .int 3) (.f2 40 (.us .int 26 (.at .rows 5) (.at .int 3) (.int 0) (.int 0)) (.int 1)))) (.f2
    118 (.at .rows 5) (.f2 40 (.us .int 26 (.at .rows 5) (.at .int 3) (.int 0) (.int 0)) (.f2 41 (.at .int 3) (.f2 40 (.us .int 26 (.at .rows 5) (.at
    .int 3) (.int 0) (.int 0)) (.int 1))))))) (.f2 40 (.us .int 26 (.at .rows 5) (.at .int 3) (.int 0) (.int 0)) (.f2 41 (.at .int 3) (.f2 40 (.us .int
    26 (.at .rows 5) (.at .int 3) (.int 0) (.int 0)) (.int 1))))) (.f2 121 (.f2 127 (.f2 41 (.at .int 3) (.f2 40 (.us .int 26 (.at .rows 5) (.at .int
    3) (.int 0) (.int 0)) (.f2 41 (.at .int 3) (.f2 40 (.us .int 26 (.at .rows 5) (.at .int 3) (.int 0) (.int 0)) (.int 1))))) (.f2 122 (.int 0) (.f2
    122 (.int 0) (.f1 152 (.int 0))))) (.f2 118 (.f2 121 (.f2 115 (.at .rows 5) (.us .int 26 (.at .rows 5) (.at .int 3) (.int 0) (.int 0))) (.f2 121
    (.f2 115 (.f2 118 (.at .rows 5) (.f2 40 (.us .int 26 (.at .rows 5) (.at .int 3) (.int 0) (.int 0)) (.int 1))) (.f2 41 (.at .int 3) (.f2 40 (.us
    .int 26 (.at .rows 5) (.at .int 3) (.int 0) (.int 0)) (.int 1)))) (.f2 118 (.at .rows 5) (.f2 40 (.us .int 26 (.at .rows 5) (.at .int 3) (.int 0)
    (.int 0)) (.f2 41 (.at .int 3) (.f2 40 (.us .int 26 (.at .rows 5) (.at .int 3) (.int 0) (.int 0)) (.int 1))))))) (.f2 40 (.f2 40 (.us .int 26 (.at
    .rows 5) (.at .int 3) (.int 0) (.int 0)) (.f2 41 (.at .int 3) (.f2 40 (.us .int 26 (.at .rows 5) (.at .int 3) (.int 0) (.int 0)) (.int 1)))) (.f2
    41 (.at .int 3) (.f2 40 (.us .int 26 (.at .rows 5) (.at .int 3) (.int 0) (.int 0)) (.f2 41 (.at .int 3) (.f2 40 (.us .int 26 (.at .rows 5) (.at
    .int 3) (.int 0) (.int 0)) (.int 1))))))))) (.f2 40 (.us .int 26 (.at .rows 5) (.at .int 3) (.int 0) (.int 0)) (.f2 41 (.at .int 3) (.f2 40 (.us
    .int 26 (.at .rows 5) (.at .int 3) (.int 0) (.int 0)) (.int 1)))) (.int 0) (.int 0)) (.need (.f2 155 (.us .g 25 (.at .g 1) (.int 0) (.int 0) (.int
    0)) (.us .g 22 (.at .g 1) (.f2 121 (.f2 115 (.f2 121 (.f2 115 (.at .rows 5) (.us .int 26 (.at .rows 5) (.at .int 3) (.int 0) (.int 0))) (.f2 121
    (.f2 115 (.f2 118 (.at .rows 5) (.f2 40 (.us .int 26 (.at .rows 5) (.at .int 3) (.int 0) (.int 0)) (.int 1))) (.f2 41 (.at .int 3) (.f2 40 (.us
    .int 26 (.at .rows 5) (.at .int 3) (.int 0) (.int 0)) (.int 1)))) (.f2 118 (.at .rows 5) (.f2 40 (.us .int 26 (.at .rows 5) (.at .int 3) (.int 0)
    (.int 0)) (.f2 41 (.at .int 3) (.f2 40 (.us .int 26 (.at .rows 5) (.at .int 3) (.int 0) (.int 0)) (.int 1))))))) (.f2 40 (.us .int 26 (.at .rows 5)
    (.at .int 3) (.int 0) (.int 0)) (.f2 41 (.at .int 3) (.f2 40 (.us .int 26 (.at .rows 5) (.at .int 3) (.int 0) (.int 0)) (.int 1))))) (.f2 121 (.f2
    127 (.f2 41 (.at .int 3) (.f2 40 (.us .int 26 (.at .rows 5) (.at .int 3) (.int 0) (.int 0)) (.f2 41 (.at .int 3) (.f2 40 (.us .int 26 (.at .rows 5)
    (.at .int 3) (.int 0) (.int 0)) (.int 1))))) (.f2 122 (.int 0) (.f2 122 (.int 0) (.f1 152 (.int 0))))) (.f2 118 (.f2 121 (.f2 115 (.at .rows 5)
    (.us .int 26 (.at .rows 5) (.at .int 3) (.int 0) (.int 0))) (.f2 121 (.f2 115 (.f2 118 (.at .rows 5) (.f2 40 (.us .int 26 (.at .rows 5) (.at .int
    3) (.int 0) (.int 0)) (.int 1))) (.f2 41 (.at .int 3) (.f2 40 (.us .int 26 (.at .rows 5) (.at .int 3) (.int 0) (.int 0)) (.int 1)))) (.f2 118 (.at
    .rows 5) (.f2 40 (.us .int 26 (.at .rows 5) (.at .int 3) (.int 0) (.int 0)) (.f2 41 (.at .int 3) (.f2 40 (.us .int 26 (.at .rows 5) (.at .int 3)
    (.int 0) (.int 0)) (.int 1))))))) (.f2 40 (.f2 40 (.us .int 26 (.at .rows 5) (.at .int 3) (.int 0) (.int 0)) (.f2 41 (.at .int 3) (.f2 40 (.us .int
    26 (.at .rows 5) (.at .int 3) (.int 0) (.int 0)) (.int 1)))) (.f2 41 (.at .int 3) (.f2 40 (.us .int 26 (.at .rows 5) (.at .int 3) (.int 0) (.int
    0)) (.f2 41 (.at .int 3) (.f2 40 (.us .int 26 (.at .rows 5) (.at .int 3) (.int 0) (.int 0)) (.int 1))))))))) (.f2 40 (.us .int 26 (.at .rows 5)
    (.at .int 3) (.int 0) (.int 0)) (.f2 41 (.at .int 3) (.f2 40 (.us .int 26 (.at .rows 5) (.at .int 3) (.int 0) (.int 0)) (.int 1)))) (.int 0)))
    (.need (.f2 155 (.us .bool 24 (.at .g 1) (.int 0) (.int 0) (.int 0)) (.bool .true)) (.need (.f2 45 (.us .int 23 (.at .g 1) (.int 0) (.int 0) (.int
    0)) (.f3 112 (.at .rows 5) (.us .int 26 (.at .rows 5) (.at .int 3) (.int 0) (.int 0)) (.int 0))) .tt)))))))))))))))))))))))))))))))))))))))))
theorem take_vc : vcOf Try.prog takeCx 10 33 takeCtr = takeVc := by kernel_rfl
-- END VC take
-- PROOFS
theorem take_ok (S : Sig FL) (hS : FlSig S) (hu : GhOk S unfC) (hf : GhOk S fldC) : CtrOk S Try.prog 33 takeCtr := by
  refine vcOf_sound S (C := takeCx) (fuel := 10) (cx_of ⟨one_spec (by decide) (idx_ok S hS), trivial⟩ ⟨⟨⟨by decide, hu⟩, ⟨by decide, hf⟩, ⟨by decide, hf⟩, trivial⟩, ⟨⟨by decide, gh_said S rfl rfl rfl⟩, trivial⟩, trivial⟩ trivial) fun ρ => ?_
  rw [take_vc]
  simp only [takeVc, VC.den, SX.den, co_int, co_bool, co_ints, co_rows, co_g, gOf_g, Env.upd, hS.u21, hS.u22, hS.u23, hS.u24, hS.u25, hS.u26, hS.u41, p155, p23, p45, p46, p47, ap1_2, ap1_32, ap1_152, ap2_40, ap2_41, ap2_42, ap2_45, ap2_115, ap2_118, ap2_121, ap2_122, ap2_127, ap3_112, U.toProp_bool, U.toBool_bool, Bool.not_eq_true', beq_eq_false_iff_ne, beq_iff_eq, ne_eq, i64lo, i64hi, U.toInt_int, U.toRows_rows, U.toInts_ints, Int.toNat_zero, toNat1, List.take_zero, Nat.reduceEqDiff, reduceIte, Int.reduceAdd, Int.reduceNeg, U.rows.injEq, U.g.injEq, U.bool.injEq]
  generalize gOf (U.co S .g (ρ 1)) = s
  obtain ⟨e, m, last⟩ := s
  intro b n c R bm nm cm h1 h2 h3 h4 hg he
  simp only at he
  subst he
  have hg := goodB_iff.1 hg
  have hlo := idxL_lo (R.take n.toNat)
  have hhi := idxL_hi (R.take n.toNat)
  have hln : (((R.take n.toNat).length : Nat) : Int) = n := by rw [List.length_take]; omega
  rw [hln] at hhi
  generalize hj : idxL (R.take n.toNat) = j at *
  refine ⟨fun hn => ?_, fun hp => ?_⟩
  · obtain ⟨t1, t2, t3⟩ := take_none (l := R.take n.toNat) (by omega)
    exact ⟨by rw [t1], t3, t2, trivial⟩
  · obtain ⟨t1, t2, t3⟩ := take_some (l := R.take n.toNat) (i := j.toNat) (by omega)
    have hnth : ((R.take n.toNat).getD j.toNat []).getD 0 0 = (R.getD j.toNat []).getD 0 0 := by rw [nth_take (by omega)]
    have hroom := fun Z Y => del_room (R := R) (Z := Z) (Y := Y) hp hhi h2
    repeat' (first | apply And.intro | intro)
    all_goals first | omega | (simp only [List.length_append, List.length_take, List.length_drop, List.length_replicate]; omega) | skip
    · rw [goodB_iff, hroom, ← t1]; exact hg.sub (takeE_sub _)
    · simp only
      rw [t1, hroom]
    all_goals first | exact t3 | trivial | (rw [← hnth]; exact t2)
end
end Go.Proofs.Ytmjonggabppgaaa

/- What older views do not need is free. -/
set_option linter.unusedSimpArgs false
set_option linter.unusedVariables false
namespace Go.Proofs.Ytmjonggabppgaaa
noncomputable section
open Go.Eng
def relCtr : Ctr := ⟨[.int, .g, .int], [.one (.ptr (ai 0) 0), .one (.int .i64 (ai 2))], [freeC (ai 0) (gA 1)], [], [], .one (.int .i64 (usI 28 (gA 1) (ai 2) z0)), [freeC (ai 0) (usG 29 (gA 1) (ai 2) z0)], []⟩
def relInv : Inv := ⟨[.int, .int, .rows], [(13, .one (.int .i64 (di 0))), (5, .one (.int .i64 (di 1)))], [.arr enT (ai 3) (rA 1000002) (ai 5)],
  [eLe (.int 0) (di 0), eLe (di 0) (ai 4), eqS (rA 1000002) (usR 30 (rA 6) (di 0) (ai 2)), eEq (di 1) (usI 31 (rA 6) (di 0) (ai 2))], .f2 41 (ai 4) (di 0)⟩
def relCx : Cx := { specs := [], anns := [(35, [(2, .ghost unfC [.tmp 0]), (3, .inv relInv), (9, .ghost fldC [.tmp 0])])] }
-- BEGIN VC rel
def relVc : VC := (.all 3 .int (.all 4 .int (.all 5 .int (.all 6 .rows (.all 7 .int (.all 8 .int (.all 9 .int (.imp (.f2 47 (.int 0) (.at .int 4)) (.imp (.f2 47 (.at
    .int 4) (.f1 32 (.at .rows 6))) (.imp (.f2 47 (.at .int 4) (.int 65534)) (.imp (.f2 47 (.at .int 4) (.at .int 5)) (.imp (.us .bool 41 (.at .rows 6)
    (.at .int 4) (.int 0) (.int 0)) (.imp (.f2 155 (.us .rows 21 (.at .g 1) (.int 0) (.int 0) (.int 0)) (.f2 115 (.at .rows 6) (.at .int 4))) (.need
    (.f2 155 (.at .rows 6) (.us .rows 30 (.at .rows 6) (.int 0) (.at .int 2) (.int 0))) (.need (.f2 45 (.int 0) (.us .int 31 (.at .rows 6) (.int 0)
    (.at .int 2) (.int 0))) (.all 10 .int (.all 11 .int (.all 12 .rows (.imp (.f2 47 (.int 0) (.at .int 10)) (.imp (.f2 47 (.at .int 10) (.at .int 4))
    (.imp (.f2 155 (.at .rows 12) (.us .rows 30 (.at .rows 6) (.at .int 10) (.at .int 2) (.int 0))) (.imp (.f2 45 (.at .int 11) (.us .int 31 (.at .rows
    6) (.at .int 10) (.at .int 2) (.int 0))) (.and (.imp (.f2 46 (.at .int 10) (.at .int 4)) (.need (.f2 46 (.at .int 10) (.f1 32 (.at .rows 12)))
    (.all 13 .int (.imp (.f2 47 (.int 0) (.at .int 13)) (.and (.imp (.f2 46 (.int 0) (.f3 112 (.at .rows 12) (.at .int 10) (.int 1))) (.and (.imp (.f2
    47 (.f3 112 (.at .rows 12) (.at .int 10) (.int 1)) (.at .int 2)) (.need (.f1 23 (.f2 40 (.at .int 11) (.int 1))) (.need (.f1 23 (.f2 40 (.at .int
    10) (.int 1))) (.need (.f2 47 (.int 0) (.f2 41 (.at .int 4) (.f2 40 (.at .int 10) (.int 1)))) (.need (.f2 46 (.f2 41 (.at .int 4) (.f2 40 (.at .int
    10) (.int 1))) (.f2 41 (.at .int 4) (.at .int 10))) (.need (.f2 47 (.int 0) (.f2 40 (.at .int 10) (.int 1))) (.need (.f2 47 (.f2 40 (.at .int 10)
    (.int 1)) (.at .int 4)) (.need (.f2 155 (.f3 132 (.at .rows 12) (.at .int 10) (.f2 122 (.f3 112 (.at .rows 12) (.at .int 10) (.int 0)) (.f2 122
    (.int 0) (.f1 152 (.int 0))))) (.us .rows 30 (.at .rows 6) (.f2 40 (.at .int 10) (.int 1)) (.at .int 2) (.int 0))) (.need (.f2 45 (.f2 40 (.at .int
    11) (.int 1)) (.us .int 31 (.at .rows 6) (.f2 40 (.at .int 10) (.int 1)) (.at .int 2) (.int 0))) .tt))))))))) (.imp (.f2 46 (.at .int 2) (.f3 112
    (.at .rows 12) (.at .int 10) (.int 1))) (.need (.f1 23 (.f2 40 (.at .int 10) (.int 1))) (.need (.f2 47 (.int 0) (.f2 41 (.at .int 4) (.f2 40 (.at
    .int 10) (.int 1)))) (.need (.f2 46 (.f2 41 (.at .int 4) (.f2 40 (.at .int 10) (.int 1))) (.f2 41 (.at .int 4) (.at .int 10))) (.need (.f2 47 (.int
    0) (.f2 40 (.at .int 10) (.int 1))) (.need (.f2 47 (.f2 40 (.at .int 10) (.int 1)) (.at .int 4)) (.need (.f2 155 (.at .rows 12) (.us .rows 30 (.at
    .rows 6) (.f2 40 (.at .int 10) (.int 1)) (.at .int 2) (.int 0))) (.need (.f2 45 (.at .int 11) (.us .int 31 (.at .rows 6) (.f2 40 (.at .int 10)
    (.int 1)) (.at .int 2) (.int 0))) .tt)))))))))) (.imp (.f2 47 (.f3 112 (.at .rows 12) (.at .int 10) (.int 1)) (.int 0)) (.need (.f1 23 (.f2 40 (.at
    .int 10) (.int 1))) (.need (.f2 47 (.int 0) (.f2 41 (.at .int 4) (.f2 40 (.at .int 10) (.int 1)))) (.need (.f2 46 (.f2 41 (.at .int 4) (.f2 40 (.at
    .int 10) (.int 1))) (.f2 41 (.at .int 4) (.at .int 10))) (.need (.f2 47 (.int 0) (.f2 40 (.at .int 10) (.int 1))) (.need (.f2 47 (.f2 40 (.at .int
    10) (.int 1)) (.at .int 4)) (.need (.f2 155 (.at .rows 12) (.us .rows 30 (.at .rows 6) (.f2 40 (.at .int 10) (.int 1)) (.at .int 2) (.int 0)))
    (.need (.f2 45 (.at .int 11) (.us .int 31 (.at .rows 6) (.f2 40 (.at .int 10) (.int 1)) (.at .int 2) (.int 0))) .tt))))))))))))) (.imp (.f2 47 (.at
    .int 4) (.at .int 10)) (.need (.f2 47 (.at .int 4) (.f1 32 (.at .rows 12))) (.need (.us .bool 41 (.at .rows 12) (.at .int 4) (.int 0) (.int 0))
    (.need (.f2 155 (.us .g 29 (.at .g 1) (.at .int 2) (.int 0) (.int 0)) (.us .g 22 (.at .g 1) (.at .rows 12) (.at .int 4) (.int 0))) (.need (.f2 45
    (.us .int 28 (.at .g 1) (.at .int 2) (.int 0) (.int 0)) (.at .int 11)) .tt))))))))))))))))))))))))))))
theorem rel_vc : vcOf Try.prog relCx 10 35 relCtr = relVc := by kernel_rfl
-- END VC rel
-- PROOFS
theorem rel_ok (S : Sig FL) (hS : FlSig S) (hu : GhOk S unfC) (hf : GhOk S fldC) : CtrOk S Try.prog 35 relCtr := by
  refine vcOf_sound S (C := relCx) (fuel := 10) (cx_of trivial ⟨⟨⟨by decide, hu⟩, trivial, ⟨by decide, hf⟩, trivial⟩, trivial⟩ trivial) fun ρ => ?_
  rw [rel_vc]
  simp only [relVc, hS.u21, hS.u22, hS.u28, hS.u29, hS.u30, hS.u31, hS.u41, VC.den, SX.den, co_int, co_bool, co_ints, co_rows, co_g, gOf_g, Env.upd, p155, p23, p45, p46, p47, ap1_2, ap1_32, ap1_152, ap2_40, ap2_41, ap2_42, ap2_45, ap2_115, ap2_118, ap2_121, ap2_122, ap2_127, ap3_112, ap3_132, U.toProp_bool, U.toBool_bool, Bool.not_eq_true', beq_eq_false_iff_ne, beq_iff_eq, ne_eq, i64lo, i64hi, U.toInt_int, U.toRows_rows, U.toInts_ints, Int.toNat_zero, toNat1, List.take_zero, Nat.reduceEqDiff, reduceIte, Int.reduceAdd, Int.reduceNeg, U.rows.injEq, U.g.injEq, U.bool.injEq]
  generalize gOf (U.co S .g (ρ 1)) = s
  generalize (ρ 2).toInt = old
  obtain ⟨e, m, last⟩ := s
  intro b n c R bm nm cm h1 h2 h3 h4 hg he
  simp only at he
  subst he
  have hg := goodB_iff.1 hg
  have nle := fun l => relN_le old l
  refine ⟨by simp, rfl, fun i k x j0 j1 hx hk => ⟨fun hi => ?_, fun hi => ?_⟩⟩
  · subst hx
    have hil : i.toNat < R.length := by omega
    have hk1 := nle (R.take i.toNat)
    rw [← hk, List.length_take] at hk1
    rw [upd_len, upd_nth hil]
    have e1 : (i + 1).toNat = i.toNat + 1 := by omega
    rw [e1, relN_step hil, ← hk]
    have hs := upd_step (f := relE old) hil
    have hq := upd_same (f := relE old) hil
    generalize hr : R.getD i.toNat [] = r at *
    have hT : 0 < r.getD 1 0 → r.getD 1 0 ≤ old → relT old r = true := fun a b => by unfold relT; rw [decide_eq_true a, decide_eq_true b]; rfl
    have hF1 : r.getD 1 0 ≤ 0 → relT old r = false := fun a => by unfold relT; rw [decide_eq_false (by omega)]; rfl
    have hF2 : old < r.getD 1 0 → relT old r = false := fun a => by unfold relT; rw [decide_eq_false (p := r.getD 1 0 ≤ old) (by omega), Bool.and_false]
    have eT : relT old r = true → relE old r = [r.getD 0 0, 0] := fun a => by unfold relE; rw [if_pos a]
    have eF : relT old r = false → relE old r = r := fun a => by unfold relE; rw [a]; rfl
    repeat' (first | apply And.intro | intro)
    all_goals first | omega | trivial | skip
    · rename_i a b; rw [← hs, eT (hT a b)]
    · rename_i a b; rw [if_pos (hT a b)]
    · rename_i a b; exact hq (eF (hF2 b))
    · rename_i a b; rw [hF2 b]; simp
    · rename_i a; exact hq (eF (hF1 a))
    · rename_i a; rw [hF1 a]; simp
  · have : i = n := by omega
    subst this
    subst hx
    rw [upd_len, goodB_iff, upd_end (by omega)]
    exact ⟨h2, hg.rel old, rfl, hk.symm, trivial⟩
end
end Go.Proofs.Ytmjonggabppgaaa

/- A list's memory, opened and shut. -/
set_option linter.unusedSimpArgs false
set_option linter.unusedVariables false
namespace Go.Proofs.Ytmjonggabppgaaa
noncomputable section
open Go.Eng
theorem gh_mk {G : Type} (S : Sig G) {sp : Ctr} (H : ∀ (T : Sig G) (w0 : World) (ρ : Go.Eng.Env G) (h : Hl), T.usr = S.usr → T.prd = S.prd → T.dg = S.dg → (∀ e ∈ sp.reqs, (e.den T ρ).toProp) → hpDen T ρ w0 sp.pre h →
    ∃ ρ', Ext sp.ss.length ρ ρ' ∧ hpDen T ρ' w0 sp.post h ∧ ∀ x ∈ sp.facts, (x.den T ρ').toProp) : GhOk S sp := by
  intro ch w0 F ρ w hr hs
  obtain ⟨x, ⟨a, b, d, rfl, ha, hb⟩, hi⟩ := hs
  have e : ∀ (e : SX) ρ, e.den (S.wc ch) ρ = e.den S ρ := fun e ρ => SX.den_wc S ρ ch e
  obtain ⟨ρ', h1, h2, h3⟩ := H (S.wc ch) w0 ρ a rfl rfl rfl (fun q hq => by rw [e]; exact hr q hq) ha
  exact ⟨ρ', h1, ⟨_, ⟨a, b, d, rfl, h2, hb⟩, hi⟩, fun q hq => by rw [← e]; exact h3 q hq⟩
theorem ext_upds {G : Type} {n : Nat} {ρ ρ' : Go.Eng.Env G} (h : ∀ i, i < n → ρ' i = ρ i) : Ext n ρ ρ' := h
theorem arrDen_cap {G : Type} {S : Sig G} {e : En} {b x c : U G} {h : Hl} (hd : arrDen S e b x c h) : (e.vals x).length ≤ c.toInt.toNat * e.stride ∧ 0 ≤ c.toInt := by
  obtain ⟨sp, h1, h2, _⟩ := hd; exact ⟨by omega, h2⟩
theorem enT_len {G : Type} (x : List (List Int)) : (enT.vals (.rows x : U G)).length = x.length * 2 := by
  simp only [enT, En.vals, U.toRows_rows]
  induction x with
  | nil => rfl
  | cons r x ih => rw [List.flatMap_cons, List.length_append, ih, rowVals_length]; simp; omega
theorem mkT_len {G : Type} (x : List (List Int)) : (mkT.vals (.rows x : U G)).length = x.length * 2 := by
  simp only [mkT, En.vals, U.toRows_rows]
  induction x with
  | nil => rfl
  | cons r x ih => rw [List.flatMap_cons, List.length_append, ih, rowVals_length]; simp; omega
theorem arrDen_le {b c : U FL} {x : List (List Int)} {S : Sig FL} {h : Hl} (hd : arrDen S enT b (.rows x) c h) : (x.length : Int) ≤ c.toInt := by
  have := arrDen_cap hd
  rw [enT_len] at this
  have e : enT.stride = 2 := rfl
  rw [e] at this; omega
theorem arrDen_leM {b c : U FL} {x : List (List Int)} {S : Sig FL} {h : Hl} (hd : arrDen S mkT b (.rows x) c h) : (x.length : Int) ≤ c.toInt := by
  have := arrDen_cap hd
  rw [mkT_len] at this
  have e : mkT.stride = 2 := rfl
  rw [e] at this; omega
theorem star_right {A B B' : HProp} {h : Hl} (hs : star A B h) (f : ∀ h, B h → B' h) : star A B' h := star_mono (fun _ x => x) f h hs
theorem star_take {A B : HProp} {h : Hl} (hs : star A B h) : ∃ a b, A a ∧ B b := let ⟨a, b, _, _, x, y⟩ := hs; ⟨a, b, x, y⟩
theorem unf_gh (S : Sig FL) (hS : FlSig S) : GhOk S unfC := by
  refine gh_mk S fun T w0 ρ h hu hp hd hr hpre => ?_
  have e1 : hpDen T ρ w0 unfC.pre = star (T.prd 0 w0 (U.co T .int (ρ 0)) (U.co T .g (ρ 1))) emp := rfl
  rw [e1, star_emp, hp, hS.p0] at hpre
  have hB : (U.co T .int (ρ 0)).toInt = (ρ 0).toInt := rfl
  rw [hB] at hpre
  generalize hs : gOf (U.co T .g (ρ 1)) = s at hpre
  obtain ⟨hg, b, n, c, bm, nm, cm, x, h0, h1, h2, hst⟩ := hpre
  refine ⟨((((((ρ.upd 2 (.int b)).upd 3 (.int n)).upd 4 (.int c)).upd 5 (.rows x)).upd 6 (.int bm)).upd 7 (.int nm)).upd 8 (.int cm), ?_, ?_, ?_⟩
  · intro i hi
    have : i < 2 := hi
    simp only [Env.upd]
    repeat rw [if_neg (by omega)]
  · have e2 : ∀ ρ', hpDen T ρ' w0 unfC.post = star ((listC (ai 0) (ai 2) (ai 3) (ai 4) (ai 6) (ai 7) (ai 8) (gA 1)).den T ρ' w0) (star (arrDen T enT ((ai 2).den T ρ') ((rA 5).den T ρ') ((ai 4).den T ρ')) (star (T.prd 1 w0 ((key3 (ai 6) (ai 7) (ai 8)).den T ρ') ((gA 1).den T ρ')) emp)) := fun _ => rfl
    rw [e2, star_emp, hp, hS.p1]
    simp only [listC, Ch.den, List.map_cons, List.map_nil, slC_den, SC.den, usI, key3, SX.den, ai, rA, gA, z0, U.co, Env.upd, hu, hS.u20, Nat.reduceEqDiff, reduceIte, U.toInt_int, U.toRows_rows, ap2_122, ap1_152, U.toInts_ints, reduceCtorEq, or_false]
    have hs' : gOf (U.co T .g (ρ 1)) = s := hs
    simp only [U.co] at hs'
    rw [hs']
    exact hst
  · obtain ⟨_, _, _, hq⟩ := star_take hst
    obtain ⟨_, _, ha, _⟩ := star_take hq
    have hc : (x.length : Int) ≤ c := arrDen_le ha
    have hl := hg.len
    rw [← h2, List.length_take, Nat.min_eq_left h1] at hl
    have hgo : goodB x n = true := goodB_iff.2 (by rw [h2]; exact hg)
    have hs' : gOf (U.co T .g (ρ 1)) = s := hs
    simp only [U.co] at hs'
    intro q hq
    simp only [unfC, List.mem_cons, List.not_mem_nil, or_false] at hq
    rcases hq with rfl | rfl | rfl | rfl | rfl | rfl
    all_goals simp only [eLe, SX.mk2, eqS, usB, usR, tk, SX.den, ai, rA, gA, z0, U.co, Env.upd, hu, hS.u41, hS.u21, Nat.reduceEqDiff, reduceIte, U.toInt_int, U.toRows_rows, U.toProp_bool, U.toBool_bool, p47, ap1_32, p155, ap2_115, hs', U.rows.injEq]
    · exact h0
    · omega
    · omega
    · omega
    · exact hgo
    · exact h2.symm
theorem fld_gh (S : Sig FL) (hS : FlSig S) : GhOk S fldC := by
  refine gh_mk S fun T w0 ρ h hu hp hd hr hpre => ⟨ρ, Ext.refl _ _, ?_, by intro x hx; exact nomatch hx⟩
  have e1 : hpDen T ρ w0 fldC.pre = star ((listC (ai 0) (ai 2) (ai 3) (ai 4) (ai 6) (ai 7) (ai 8) (gA 1)).den T ρ w0) (star (arrDen T enT ((ai 2).den T ρ) ((rA 5).den T ρ) ((ai 4).den T ρ)) (star (T.prd 1 w0 ((key3 (ai 6) (ai 7) (ai 8)).den T ρ) ((gA 1).den T ρ)) emp)) := rfl
  have e2 : hpDen T ρ w0 fldC.post = star (T.prd 0 w0 ((ai 0).den T ρ) ((usG 22 (gA 1) (rA 5) (ai 3)).den T ρ)) emp := rfl
  rw [e1, star_emp, hp, hS.p1] at hpre
  rw [e2, star_emp, hp, hS.p0]
  have r0 := hr (eLe (.int 0) (ai 3)) (by simp [fldC])
  have r1 := hr (eLe (ai 3) (.f1 32 (rA 5))) (by simp [fldC])
  have r2 := hr (usB 41 (rA 5) (ai 3) z0) (by simp [fldC])
  simp only [eLe, SX.mk2, usB, SX.den, ai, rA, z0, U.co, hu, hS.u41, U.toInt_int, U.toRows_rows, U.toProp_bool, U.toBool_bool, p47, ap1_32] at r0 r1 r2
  simp only [listC, Ch.den, List.map_cons, List.map_nil, slC_den, SC.den, usI, key3, SX.den, ai, rA, gA, z0, U.co, hu, hS.u20, U.toInt_int, U.toRows_rows, ap2_122, ap1_152, U.toInts_ints, reduceCtorEq, or_false] at hpre
  simp only [usG, SX.den, ai, rA, gA, z0, U.co, hu, hS.u22, U.toInt_int, U.toRows_rows, gOf_g]
  exact ⟨goodB_iff.1 r2, (ρ 2).toInt, (ρ 3).toInt, (ρ 4).toInt, (ρ 6).toInt, (ρ 7).toInt, (ρ 8).toInt, (ρ 5).toRows, r0, by omega, rfl, hpre⟩
theorem new_gh (S : Sig FL) (hS : FlSig S) : GhOk S newC := by
  refine gh_mk S fun T w0 ρ h hu hp hd hr hpre => ⟨ρ, Ext.refl _ _, ?_, by intro x hx; exact nomatch hx⟩
  have e1 : hpDen T ρ w0 newC.pre = emp := rfl
  have e2 : hpDen T ρ w0 newC.post = star (T.prd 1 w0 ((key3 (.int (-1)) z0 z0).den T ρ) ((usG 40 z0 z0 z0).den T ρ)) emp := rfl
  rw [e1] at hpre
  rw [e2, star_emp, hp, hS.p1]
  simp only [usG, key3, SX.den, z0, U.co, hu, hS.u40, ap2_122, ap1_152, U.toInts_ints, U.toInt_int, gOf_g]
  refine ⟨[], by simp, by simp, ?_⟩
  have e3 : arrDen sig0 mkT (.int (([-1, 0, 0] : List Int).getD 0 0)) (.rows []) (.int (([-1, 0, 0] : List Int).getD 2 0)) = emp := by
    funext h
    refine propext ⟨fun hx => ?_, fun hx => ⟨[], rfl, Int.le_refl 0, .inr rfl, by rw [show mkT.vals (.rows [] : U FL) ++ [] = [] from rfl, row_nil]; exact hx⟩⟩
    obtain ⟨sp, l1, _, _, l4⟩ := hx
    have : sp = [] := List.eq_nil_of_length_eq_zero (by have : (mkT.vals (.rows [] : U FL)).length = 0 := rfl; rw [this] at l1; simpa using l1)
    subst this
    rw [show mkT.vals (.rows [] : U FL) ++ [] = [] from rfl, row_nil] at l4
    exact l4
  rw [e3, emp_star]
  exact hpre
end
end Go.Proofs.Ytmjonggabppgaaa

/- What a new list holds. -/
set_option linter.unusedVariables false
namespace Go.Proofs.Ytmjonggabppgaaa
theorem sort_rows {L : List Int} {m : Int} {R : List (List Int)} (h : sortB (entsB L m) R = true) : R = (R.map pageOf).map fun p => [p, 0] := by
  rw [List.map_map]
  conv => lhs; rw [← List.map_id R]
  refine List.map_congr_left fun r hr => ?_
  have := (sortB_iff.1 h).1.mem_iff.1 hr
  unfold entsB at this
  obtain ⟨p, _, rfl⟩ := List.mem_map.1 this
  rfl
theorem sort_pages {E R R' : List (List Int)} (h : sortB E R = true) (h' : sortB E R' = true) : R.map pageOf = R'.map pageOf := by
  have a := sortB_iff.1 h
  have b := sortB_iff.1 h'
  refine List.Perm.eq_of_pairwise (le := fun x y => x ≤ y) (fun x y _ _ h1 h2 => Int.le_antisymm h1 h2) (List.pairwise_map.2 a.2) (List.pairwise_map.2 b.2) ((a.1.trans b.1.symm).map _)
theorem sort_one {L : List Int} {m : Int} {R R' : List (List Int)} (h : sortB (entsB L m) R = true) (h' : sortB (entsB L m) R' = true) : R = R' := by
  rw [sort_rows h, sort_rows h', sort_pages h h']
theorem sort_size {L : List Int} {m : Int} {R : List (List Int)} (h0 : 0 ≤ m) (hm : m ≤ L.length) (h : sortB (entsB L m) R = true) : (R.length : Int) = m := by
  rw [(sortB_iff.1 h).1.length_eq]
  unfold entsB
  rw [List.length_map, List.length_take]; omega
theorem sort_good {L : List Int} {m : Int} {R : List (List Int)} (h0 : 0 ≤ m) (hm : m ≤ L.length) (ha : allNB L m = true) (hd : distB L m = true) (h : sortB (entsB L m) R = true) : GoodP R := by
  have hs := sortB_iff.1 h
  refine ⟨fun r hr => ?_, ?_⟩
  · have hm := hs.1.mem_iff.1 hr
    unfold entsB at hm
    obtain ⟨p, hp, rfl⟩ := List.mem_map.1 hm
    unfold allNB at ha
    have := List.all_eq_true.1 ha p hp
    simp only [Bool.and_eq_true, decide_eq_true_eq] at this
    exact ⟨p, 0, rfl, this.1, this.2, by decide, by decide⟩
  · have hn : (R.map pageOf).Nodup := by
      have := hs.1.map pageOf
      rw [ents_pages] at this
      exact this.nodup_iff.2 (of_decide_eq_true hd)
    have h2 := List.pairwise_map.1 hn
    exact (hs.2.and h2).imp fun {a b} hab => by
      have := hab.1
      have := hab.2
      unfold pageOf at *
      omega
end Go.Proofs.Ytmjonggabppgaaa

/- slices.SortFunc and cmp.Compare as the library's shelf has them: the tables of numbers, in plain words (written by the shelf's lay-plain). -/
namespace Go.Proofs
open Go.Shelf
def Try.sortEn_ren : Go.Shelf.Ren := ⟨fun | 6 => 54 | 15 => 86 | 14 => 85 | 28 => 98 | 29 => 99 | 20 => 90 | 21 => 91 | 22 => 92 | 23 => 93 | 24 => 94 | 25 => 95 | 26 => 96 | 27 => 97 | 46 => 101 | 47 => 102 | 48 => 103 | 49 => 104 | 50 => 105 | 57 => 107 | n => n, fun | 22 => 80 | 24 => 85 | 25 => 87 | 3 => 3 | 39 => 111 | 0 => 0 | 53 => 71 | 55 => 70 | 4 => 4 | 46 => 123 | 45 => 122 | 50 => 60 | 5 => 5 | 9 => 9 | 66 => 130 | 70 => 134 | 76 => 137 | 77 => 138 | n => n, fun | n => n⟩
theorem Try.sortEn : Go.Proofs.SlLaysF0.n6 Try.prog Try.sortEn_ren := {
  mixed := by kernel_rfl
  f6 := ⟨Try.f54.name, by decide, Try.func54.trans (congrArg some (by kernel_rfl))⟩
  f14 := ⟨Try.f85.name, by decide, Try.func85.trans (congrArg some (by kernel_rfl))⟩
  f15 := Try.func86.trans (congrArg some (by kernel_rfl))
  f20 := ⟨Try.f90.name, by decide, Try.func90.trans (congrArg some (by kernel_rfl))⟩
  f21 := ⟨Try.f91.name, by decide, Try.func91.trans (congrArg some (by kernel_rfl))⟩
  f22 := ⟨Try.f92.name, by decide, Try.func92.trans (congrArg some (by kernel_rfl))⟩
  f23 := ⟨Try.f93.name, by decide, Try.func93.trans (congrArg some (by kernel_rfl))⟩
  f24 := ⟨Try.f94.name, by decide, Try.func94.trans (congrArg some (by kernel_rfl))⟩
  f25 := ⟨Try.f95.name, by decide, Try.func95.trans (congrArg some (by kernel_rfl))⟩
  f26 := ⟨Try.f96.name, by decide, Try.func96.trans (congrArg some (by kernel_rfl))⟩
  f27 := ⟨Try.f97.name, by decide, Try.func97.trans (congrArg some (by kernel_rfl))⟩
  f28 := Try.func98.trans (congrArg some (by kernel_rfl))
  f29 := Try.func99.trans (congrArg some (by kernel_rfl))
  f46 := ⟨Try.f101.name, by decide, Try.func101.trans (congrArg some (by kernel_rfl))⟩
  f47 := Try.func102.trans (congrArg some (by kernel_rfl))
  f48 := Try.func103.trans (congrArg some (by kernel_rfl))
  f49 := ⟨Try.f104.name, by decide, Try.func104.trans (congrArg some (by kernel_rfl))⟩
  f50 := ⟨Try.f105.name, by decide, Try.func105.trans (congrArg some (by kernel_rfl))⟩
  f57 := ⟨Try.f107.name, by decide, Try.func107.trans (congrArg some (by kernel_rfl))⟩
  t0 := Try.underlying0
  a0 := Try.isAgg0
  z0 := Try.sizeOf0
  v0 := Try.zeroValue0
  t3 := Try.underlying3
  a3 := Try.isAgg3
  z3 := Try.sizeOf3
  v3 := Try.zeroValue3
  t4 := Try.underlying4
  a4 := Try.isAgg4
  z4 := Try.sizeOf4
  v4 := Try.zeroValue4
  t5 := Try.underlying5
  a5 := Try.isAgg5
  z5 := Try.sizeOf5
  v5 := Try.zeroValue5
  t9 := Try.underlying9
  a9 := Try.isAgg9
  z9 := Try.sizeOf9
  v9 := Try.zeroValue9
  t22 := Try.underlying80
  a22 := Try.isAgg80
  z22 := Try.sizeOf80
  v22 := Try.zeroValue80
  t25 := Try.underlying87
  a25 := Try.isAgg87
  z25 := Try.sizeOf87
  v25 := Try.zeroValue87
  t39 := Try.underlying111
  a39 := Try.isAgg111
  z39 := Try.sizeOf111
  v39 := Try.zeroValue111
  t45 := Try.underlying122
  a45 := Try.isAgg122
  z45 := Try.sizeOf122
  v45 := Try.zeroValue122
  t46 := Try.underlying123
  a46 := Try.isAgg123
  z46 := Try.sizeOf123
  v46 := Try.zeroValue123
  t50 := Try.underlying60
  a50 := Try.isAgg60
  z50 := Try.sizeOf60
  v50 := Try.zeroValue60
  t53 := Try.underlying71
  a53 := Try.isAgg71
  z53 := Try.sizeOf71
  v53 := Try.zeroValue71
  t55 := Try.underlying70
  a55 := Try.isAgg70
  z55 := Try.sizeOf70
  v55 := Try.zeroValue70
  t66 := Try.underlying130
  a66 := Try.isAgg130
  z66 := Try.sizeOf130
  v66 := Try.zeroValue130
  t70 := Try.underlying134
  a70 := Try.isAgg134
  z70 := Try.sizeOf134
  v70 := Try.zeroValue134
  t76 := Try.underlying137
  a76 := Try.isAgg137
  z76 := Try.sizeOf137
  v76 := Try.zeroValue137
  t77 := Try.underlying138
  a77 := Try.isAgg138
  z77 := Try.sizeOf138
  v77 := Try.zeroValue138 }
def Try.cmpInt_ren : Go.Shelf.Ren := ⟨fun | 5 => 56 | 7 => 87 | n => n, fun | 22 => 3 | 3 => 3 | 4 => 4 | n => n, fun | n => n⟩
theorem Try.cmpInt : Go.Proofs.SlLaysC2.n5 Try.prog Try.cmpInt_ren := {
  mixed := by kernel_rfl
  f5 := ⟨Try.f56.name, by decide, Try.func56.trans (congrArg some (by kernel_rfl))⟩
  f7 := ⟨Try.f87.name, by decide, Try.func87.trans (congrArg some (by kernel_rfl))⟩
  t3 := Try.underlying3
  a3 := Try.isAgg3
  z3 := Try.sizeOf3
  v3 := Try.zeroValue3
  t4 := Try.underlying4
  a4 := Try.isAgg4
  z4 := Try.sizeOf4
  v4 := Try.zeroValue4
  t22 := Try.underlying3
  a22 := Try.isAgg3
  z22 := Try.sizeOf3
  v22 := Try.zeroValue3 }
end Go.Proofs

/- Towards slices.SortFunc's contract: rows of the shelf's and of this claim's proofs. -/
set_option linter.unusedSimpArgs false
set_option linter.unusedVariables false
namespace Go.Proofs.Ytmjonggabppgaaa
noncomputable section
open Go.Eng
open Go.Sort (grow flatK putRow putRowK HoldsK setMany ahead)
def encE (x : Int × Int) : List Value := [.int .i64 x.1, .int .i64 x.2]
def pairOf (r : List Int) : Int × Int := (r.getD 0 0, (r.drop 1).getD 0 0)
theorem rowVals_pair (r : List Int) : rowVals [.int .i64, .int .i64] r = encE (pairOf r) := rfl
theorem flat_get : ∀ (l : List (Int × Int)) (t : Nat), t < l.length * 2 → (l.flatMap encE)[t]? = some ((encE (l.getD (t / 2) default))[t % 2]!)
  | [], t, h => by simp at h
  | x :: l, t, h => by
    rw [List.flatMap_cons]
    match t with
    | 0 => rfl
    | 1 => rfl
    | t + 2 =>
      rw [List.getElem?_append_right (by simp [encE])]
      have : t + 2 - (encE x).length = t := by simp [encE]
      rw [this, flat_get l t (by simp at h ⊢; omega)]
      have e1 : (t + 2) / 2 = t / 2 + 1 := by omega
      have e2 : (t + 2) % 2 = t % 2 := by omega
      rw [e1, e2]; rfl
theorem flatK_list (l : List (Int × Int)) : (flatK encE 2 l.toArray).toList = l.flatMap encE := by
  apply List.ext_getElem?
  intro t
  by_cases h : t < l.length * 2
  · rw [flat_get l t h]
    have := Go.Sort.get_flatK encE 2 l.toArray t (by simpa using h)
    have hs : t < (flatK encE 2 l.toArray).size := by simpa using h
    rw [getElem!_pos _ t hs] at this
    rw [Array.getElem?_toList, Array.getElem?_eq_getElem hs, this]
    congr 2
    simp [Array.getElem!_eq_getD, Array.getD_eq_getD_getElem?, List.getD_eq_getElem?_getD]
  · rw [List.getElem?_eq_none (by simpa using h)]
    have hl : (l.flatMap encE).length = l.length * 2 := by
      rw [List.length_flatMap]; simp [encE, List.map_const', Nat.mul_comm]
    rw [List.getElem?_eq_none (by omega)]
theorem perm_lift {α β : Type} (f : α → β) {m' m : List β} (h : m'.Perm m) : ∀ {l : List α}, l.map f = m → ∃ y : List α, y.Perm l ∧ y.map f = m' := by
  induction h with
  | nil => intro l hl; exact ⟨l, List.Perm.refl _, hl⟩
  | cons x _ ih =>
    intro l hl
    cases l with
    | nil => cases hl
    | cons a l =>
      simp only [List.map_cons, List.cons.injEq] at hl
      obtain ⟨y, hy, e⟩ := ih hl.2
      exact ⟨a :: y, hy.cons _, by simp [hl.1, e]⟩
  | swap x y l' =>
    intro l hl
    match l, hl with
    | a :: b :: l, hl =>
      simp only [List.map_cons, List.cons.injEq] at hl
      exact ⟨b :: a :: l, List.Perm.swap _ _ _, by simp [hl.1, hl.2.1, hl.2.2]⟩
  | trans _ _ ih1 ih2 =>
    intro l hl
    obtain ⟨y, hy, e⟩ := ih2 hl
    obtain ⟨z, hz, e2⟩ := ih1 e
    exact ⟨z, hz.trans hy, e2⟩
theorem Sat.push' {w0 w : World} {H : HProp} (h : Sat w0 H w) (x : Obj) : Sat w0 H { w with heap := w.heap.push x } := by
  obtain ⟨y, hy, hi⟩ := h
  exact ⟨y, hy, hi.push x⟩
theorem Sat.grow {w0 : World} {H : HProp} : ∀ (os : List Obj) {w : World}, Sat w0 H w → Sat w0 H (grow w os.toArray)
  | [], w, h => by rw [show (([] : List Obj).toArray) = #[] from rfl, Go.Sort.grow_empty]; exact h
  | x :: os, w, h => by
    have := Sat.grow os (Sat.push' h x)
    have e : Go.Sort.grow { w with heap := w.heap.push x } os.toArray = Go.Sort.grow w (x :: os).toArray := by
      unfold Go.Sort.grow; simp
    rw [e] at this; exact this
theorem Sat.cells {w0 : World} {b o : Nat} {z : Bool} {H : HProp} : ∀ (new : List Value) (i : Nat) (cs : List Value) (w : World), Sat w0 (star (row b o cs z) H) w → i + new.length ≤ cs.length →
    Sat w0 (star (row b o (cs.take i ++ new ++ cs.drop (i + new.length)) z) H) (w.setCells b (o + i) new)
  | [], i, cs, w, h, _ => by simpa [World.setCells] using h
  | v :: new, i, cs, w, h, hl => by
    simp only [List.length_cons] at hl
    have hs := h.store (i := i) (by omega) v
    have := Sat.cells new (i + 1) (cs.set i v) _ hs (by simp; omega)
    have e : (cs.set i v).take (i + 1) ++ new ++ (cs.set i v).drop (i + 1 + new.length) = cs.take i ++ (v :: new) ++ cs.drop (i + (v :: new).length) := by
      have e1 : (cs.set i v).take (i + 1) = cs.take i ++ [v] := by
        rw [List.take_add_one, List.take_set_of_le (Nat.le_refl i), List.getElem?_set_self (by omega)]
        rfl
      rw [e1, List.drop_set_of_lt (by omega), List.length_cons]
      simp [Nat.add_assoc, Nat.add_comm 1]
    rw [e] at this
    exact this
theorem Sat.put {w0 w : World} {b : Nat} {z : Bool} {H : HProp} {old new : List (Int × Int)} {spare : List Value} (h : Sat w0 (star (row b 0 (old.flatMap encE ++ spare) z) H) w) (hl : new.length = old.length) :
    Sat w0 (star (row b 0 (new.flatMap encE ++ spare) z) H) (putRowK encE 2 w b 0 new.toArray) := by
  have len : ∀ l : List (Int × Int), (l.flatMap encE).length = l.length * 2 := fun l => by rw [List.length_flatMap]; simp [encE, List.map_const', Nat.mul_comm]
  have hh : HoldsK encE 2 w b 0 old.toArray := by
    intro j hj
    rw [Go.Sort.size_flatK] at hj
    have hj' : j < (old.flatMap encE ++ spare).length := by rw [List.length_append, len]; simp at hj; omega
    have := h.load hj'
    rw [List.getElem_append_left (by rw [len]; simpa using hj)] at this
    have e : (flatK encE 2 old.toArray)[j]! = (old.flatMap encE)[j]'(by rw [len]; simpa using hj) := by
      have hs : j < (flatK encE 2 old.toArray).size := by simpa using hj
      rw [getElem!_pos _ j hs, ← Array.getElem_toList]
      congr 1
      exact flatK_list old
    rw [e]
    exact this
  have e1 : putRowK encE 2 w b 0 old.toArray = w := Go.Sort.putRowK_self encE 2 w b 0 _ hh
  have e2 := Go.Sort.setCells_putRow w b 0 (new.flatMap encE) 0 (flatK encE 2 old.toArray) (by simp [len, hl])
  have e3 : setMany (flatK encE 2 old.toArray) 0 (new.flatMap encE) = flatK encE 2 new.toArray := by
    refine Go.Sort.ext_get! (by simp [hl]) fun t ht => ?_
    have ht' : t < old.length * 2 := by simpa using ht
    rw [Go.Sort.get_setMany _ _ _ _ (by simpa using ht'), if_pos (by rw [len]; omega), Nat.sub_zero]
    have hs : t < (flatK encE 2 new.toArray).size := by simp [hl]; exact ht'
    have ht2 : t < (new.flatMap encE).length := by rw [len]; omega
    rw [getElem!_pos _ t ht2, getElem!_pos _ t hs, ← Array.getElem_toList]
    congr 1
    exact (flatK_list new).symm
  rw [show putRow id w b 0 (flatK encE 2 old.toArray) = w from e1, e3] at e2
  have := Sat.cells (new.flatMap encE) 0 _ w h (by rw [List.length_append, len, len]; omega)
  rw [e2, List.take_zero, List.nil_append, Nat.zero_add, show (new.flatMap encE).length = (old.flatMap encE).length by rw [len, len, hl], List.drop_left] at this
  exact this
end
end Go.Proofs.Ytmjonggabppgaaa

/- slices.SortFunc's contract out of what the library's shelf says of it. -/
set_option linter.unusedSimpArgs false
set_option linter.unusedVariables false
namespace Go.Proofs.Ytmjonggabppgaaa
noncomputable section
open Go.Eng
open Go.Sort (grow flatK putRow putRowK HoldsK setMany ahead PermIn SortedIn)
open Go.Proofs (ltOf sortWorldK)
theorem ltPage' (x y : Int × Int) : ltOf (fun x y : Int × Int => Go.Lib.compareInt x.1 y.1) x y = decide (x.1 < y.1) := by
  unfold ltOf Go.Lib.compareInt
  by_cases h1 : x.1 < y.1
  · simp [h1]
  · by_cases h2 : y.1 < x.1 <;> simp [h1, h2]
theorem sort_facts {d : List (Int × Int)} {R : List (List Int)} {d' : Array (Int × Int)} (hd : d = R.map pairOf) (hp : Go.Sort.PermIn 0 d.length d.toArray d')
    (hs : Go.Sort.SortedIn (ltOf fun x y : Int × Int => Go.Lib.compareInt x.1 y.1) 0 d.length d') :
    ∃ y : List (List Int), y.map pairOf = d'.toList ∧ y.length = R.length ∧ SortP R y := by
  obtain ⟨h1, h2, h3⟩ := hp
  have hsz : d'.size = d.length := by simpa using h1
  have h3 : d'.toList.Perm (R.map pairOf) := by
    have e1 : (d'.extract 0 d.length) = d' := by rw [← hsz]; simp
    have e2 : (d.toArray.extract 0 d.length) = d.toArray := by simp
    rw [e1, e2] at h3
    rw [← hd]; simpa using h3
  obtain ⟨y, hy, e⟩ := perm_lift pairOf h3 rfl
  refine ⟨y, e, hy.length_eq, hy, ?_⟩
  rw [List.pairwise_iff_getElem]
  intro i j hi hj hij
  have hl : y.length = d'.size := by have := congrArg List.length e; simpa using this
  have := hs i j (Nat.zero_le _) hij (by omega)
  rw [ltPage', decide_eq_false_iff_not, getElem!_pos _ _ (by omega), getElem!_pos _ _ (by omega)] at this
  have g : ∀ k (hk : k < y.length), pairOf y[k] = d'[k]'(by omega) := by
    intro k hk
    have : (y.map pairOf)[k]? = d'.toList[k]? := by rw [e]
    rw [List.getElem?_map, List.getElem?_eq_getElem hk, Array.getElem?_toList, Array.getElem?_eq_getElem (by omega)] at this
    simpa using this
  rw [← g i hi, ← g j hj] at this
  simp only [pairOf, pageOf] at this ⊢
  omega
def SortSome (P : Program) (f g : FuncId) : Prop := ∀ (blk cap : Nat) (d : Array (Int × Int)) (w : World), HoldsK encE 2 w blk 0 d → blk < w.heap.size → d.size < 4611686018427387904 →
    Calls P f #[.slice (some ⟨blk, 0, none⟩) d.size cap, .func (.func g) #[] #[]] w fun e w' => e = .returned (.tuple #[]) ∧
      ∃ d' n os, PermIn 0 d.size d d' ∧ SortedIn (ltOf fun x y : Int × Int => Go.Lib.compareInt x.1 y.1) 0 d.size d' ∧ w' = sortWorldK encE 2 w blk 0 n d' os
def SortNone (P : Program) (f : FuncId) : Prop := ∀ (p : Option Addr) (cap : Nat) (fv : Value) (w : World), Calls P f #[.slice p 0 cap, fv] w fun e w' => e = .returned (.tuple #[]) ∧ w' = w
theorem vals_pairs (R : List (List Int)) : R.flatMap (rowVals [.int .i64, .int .i64]) = (R.map pairOf).flatMap encE := by rw [List.flatMap_map]; rfl
theorem enc_len (l : List (Int × Int)) : (l.flatMap encE).length = l.length * 2 := by rw [List.length_flatMap]; simp [encE, List.map_const', Nat.mul_comm]
theorem sort_of {G : Type} (S : Sig G) (hS : FreeSig S) {P : Program} {f : FuncId} (hsome : SortSome P f 55) (hnone : SortNone P f) : CtrOk S P f sortCtr := by
  obtain ⟨_, hs1, _, _, _, _⟩ := hS
  intro ch w0 F ρ w xs hx hq hsat
  obtain ⟨v1, v2, rfl, hv1, hv2⟩ : ∃ v1 v2, xs = [v1, v2] ∧ SV.R S ρ (.one (.slice (ai 0) (.int 0) (.int 0) (.int 0) (ai 2) (ai 3) 2)) v1 ∧ SV.R S ρ (.one (.fn 55)) v2 := by
    match xs, hx with
    | [v1, v2], hx => exact ⟨v1, v2, rfl, hx.1, hx.2.1⟩
  have hv1 := R_one S ρ hv1
  have hv2 := R_one S ρ hv2
  have q1 := hq (eLe (.int 0) (ai 2)) (by simp [sortCtr])
  have q2 := hq (eEq (ai 2) (.f1 32 (rwA 1))) (by simp [sortCtr])
  have q3 := hq (eLe (ai 2) (.int 140737488355328)) (by simp [sortCtr])
  rw [eLe_den] at q1 q3
  have q2 : ((SX.at .int 2).den S ρ).toInt = ((SX.f1 32 (rwA 1)).den S ρ).toInt := by rw [eEq_bool] at q2; simpa [U.toProp, ai] using q2
  simp only [sortCtr, hpDen_cons, star_assoc, Ch.den] at hsat
  rw [SX.den_wc, SX.den_wc, SX.den_wc] at hsat
  simp only [SX.den, ai, rwA, ap1_32, U.co, U.toInt_int] at q1 q2 q3 hsat
  subst hv1 hv2
  simp only [SC.den, SX.den, ai, U.co, U.toInt_int, if_true, Int.toNat_zero, Nat.zero_mul, Nat.zero_add, ite_self]
  generalize hb : (ρ 0).toInt = b at *
  generalize hn : (ρ 2).toInt = n at *
  generalize hR : (ρ 1).toRows = R at *
  generalize hc : (ρ 4).toInt = c at *
  obtain ⟨spare, hsat⟩ := sat_ex hsat
  obtain ⟨g1, hsat⟩ := sat_and hsat
  obtain ⟨g2, hsat⟩ := sat_and hsat
  obtain ⟨g3, hsat⟩ := sat_and hsat
  have hlen : ((R.map pairOf).flatMap encE).length = R.length * 2 := by rw [enc_len, List.length_map]
  simp only [enE, En.vals, En.stride, List.length_cons, List.length_nil, U.toInt_int, U.toRows_rows] at g1 g2 g3 q2 hsat
  rw [vals_pairs] at g1 hsat
  by_cases hR0 : R = []
  · subst hR0
    have hn0 : n = 0 := by simpa using q2
    subst hn0
    refine (hnone _ _ _ w).mono ?_
    rintro e w' ⟨rfl, rfl⟩
    refine ⟨ρ.upd 5 (.rows []), .tuple #[], Ext.upd _ _, rfl, .inr rfl, ?_, ?_⟩
    · simp only [sortCtr, hpDen_cons, star_assoc, Ch.den]
      rw [SX.den_wc, SX.den_wc, SX.den_wc]
      simp only [SX.den, ai, rwA, U.co, U.toInt_int, Env.upd, if_true, Nat.reduceEqDiff, reduceIte, hb, hc, U.toRows_rows]
      exact sat_ex_mk spare (sat_and_mk (by simpa [enE, En.vals, En.stride] using g1) (sat_and_mk g2 (sat_and_mk g3 (by simp only [enE, En.vals, List.flatMap_nil, U.toRows_rows]; exact hsat))))
    · intro x hx
      simp only [sortCtr, List.mem_cons, List.not_mem_nil, or_false] at hx
      rcases hx with rfl | rfl
      · rw [eEq_bool]; simp [SX.den, rwA, ap1_32, Env.upd, hR, U.toProp, U.co]
      · simp [SX.den, sortX, rwA, Env.upd, hs1, hR, sortB, SortP, U.co, U.toProp, U.toBool]
  · have hRl : 0 < R.length := List.length_pos_iff.2 hR0
    have hb0 : 0 ≤ b := by
      rcases g3 with h | h
      · exact h
      · exfalso; rw [h, hlen] at g1; simp at g1; omega
    have hn' : n.toNat = (R.map pairOf).length := by rw [List.length_map]; omega
    have hlt := hsat.row_lt (by intro e; have := congrArg List.length e; rw [List.length_append, hlen] at this; simp at this; omega)
    have hold : HoldsK encE 2 w b.toNat 0 (R.map pairOf).toArray := by
      have h2 := Sat.put hsat rfl
      intro j hj
      have hj0 := hj
      rw [Go.Sort.size_flatK] at hj
      have hj' : j < ((R.map pairOf).flatMap encE ++ spare).length := by rw [List.length_append, hlen]; simp at hj; omega
      have := hsat.load hj'
      rw [List.getElem_append_left (by rw [hlen]; simpa using hj)] at this
      rw [getElem!_pos _ j hj0, ← Array.getElem_toList]
      have e : (flatK encE 2 (R.map pairOf).toArray).toList[j]'(by simpa using hj0) = ((R.map pairOf).flatMap encE)[j]'(by rw [hlen]; simpa using hj) := by
        congr 1
        exact flatK_list _
      rw [e]
      exact this
    have hcall := hsome b.toNat (SX.den S ρ (ai 3)).toInt.toNat (R.map pairOf).toArray w hold hlt.2 (by simp; omega)
    rw [if_neg (by omega), hn']
    refine hcall.mono ?_
    rintro e w' ⟨rfl, d', m, os, hp, hs, rfl⟩
    obtain ⟨y, hy, hyl, hys⟩ := sort_facts rfl (by simpa using hp) (by simpa using hs)
    refine ⟨ρ.upd 5 (.rows y), .tuple #[], Ext.upd _ _, rfl, .inr rfl, ?_, ?_⟩
    · simp only [sortCtr, hpDen_cons, star_assoc, Ch.den]
      rw [SX.den_wc, SX.den_wc, SX.den_wc]
      simp only [SX.den, ai, rwA, U.co, U.toInt_int, Env.upd, if_true, Nat.reduceEqDiff, reduceIte, hb, hc, U.toRows_rows]
      have hput : Sat w0 (star (row b.toNat 0 ((y.map pairOf).flatMap encE ++ spare) true) (star (hpDen (S.wc ch) (ρ.upd 5 (.rows y)) w0 []) F)) (sortWorldK encE 2 w b.toNat 0 m d' os) := by
        have h1 := Sat.put (new := d'.toList) (hsat.drew (w.drawn + m)) (by simpa using hp.1)
        have h2 := Sat.grow os.toList h1
        rw [hy]
        exact h2
      refine sat_ex_mk spare (sat_and_mk ?_ (sat_and_mk g2 (sat_and_mk g3 ?_)))
      · simp only [enE, En.vals, En.stride, List.length_cons, List.length_nil, vals_pairs, U.toInt_int, U.toRows_rows]
        rw [← g1, hlen, enc_len, List.length_map, hyl]
      · simp only [enE, En.vals, vals_pairs]
        exact hput
    · intro x hx
      simp only [sortCtr, List.mem_cons, List.not_mem_nil, or_false] at hx
      rcases hx with rfl | rfl
      · rw [eEq_bool]; simp [SX.den, rwA, ap1_32, Env.upd, hR, U.toProp, U.co, hyl]
      · simp [SX.den, sortX, rwA, Env.upd, hs1, hR, sortB, U.co, U.toProp, U.toBool, hys]
end
end Go.Proofs.Ytmjonggabppgaaa

/- slices.SortFunc at the list's entries keeps its contract (out of the library's shelf). -/
set_option linter.unusedSimpArgs false
set_option linter.unusedVariables false
namespace Go.Proofs
open Go.Shelf Go.RowKit Go.Lib Go.Sort
open Go.Proofs.Ytmjonggabppgaaa (encE)
set_option maxHeartbeats 1000000 in
theorem Try.closureSort (x y : Int × Int) (W : World) : Calls Try.prog 55 #[.agg #[.int .i64 x.1, .int .i64 x.2], .agg #[.int .i64 y.1, .int .i64 y.2]] W fun e w' => e = .returned (.int .i64 (Lib.compareInt x.1 y.1)) ∧ ∃ q os', w' = grow (W.drewN q) os' := by
  have hcon := fun W' => AnyG.cmp_Compare_int Try.cmpInt x.1 y.1 W'
  change ∀ W', Calls Try.prog 56 _ _ _ at hcon
  generalize Lib.compareInt x.1 y.1 = r at hcon ⊢
  go_enter Try.func55, Try.ntmps55
  go_wp2_with (go_at_call 56; refine (hcon _).mono ?_; rintro e w' ⟨rfl, rfl⟩)
  go_ret
  exact ⟨rfl, 0, _, by rw [alloc_eq_grow, alloc_eq_grow, grow_grow]; rfl⟩
theorem Try.ltPage (x y : Int × Int) : ltOf (fun x y : Int × Int => Lib.compareInt x.1 y.1) x y = decide (x.1 < y.1) := by
  unfold ltOf Lib.compareInt
  by_cases h1 : x.1 < y.1
  · simp [h1]
  · by_cases h2 : y.1 < x.1 <;> simp [h1, h2]
theorem Try.swoPage : SWO (ltOf fun x y : Int × Int => Lib.compareInt x.1 y.1) where
  irrefl x := by rw [Try.ltPage]; simp
  trans x y z h1 h2 := by rw [Try.ltPage] at *; simp at *; omega
  ntrans x y z h1 h2 := by rw [Try.ltPage] at *; simp at *; omega
theorem Try.sortEntries (blk cap : Nat) (d : Array (Int × Int)) (w : World) (hH : HoldsK encE 2 w blk 0 d) (hblk : blk < w.heap.size) (hsz : d.size < 4611686018427387904) :
    Calls Try.prog 54 #[.slice (some ⟨blk, 0, none⟩) d.size cap, .func (.func 55) #[] #[]] w fun e w' => e = .returned (.tuple #[]) ∧
      ∃ d' n os, PermIn 0 d.size d d' ∧ SortedIn (ltOf fun x y : Int × Int => Lib.compareInt x.1 y.1) 0 d.size d' ∧ w' = sortWorldK encE 2 w blk 0 n d' os := by
  have eg : ∀ args w, (callFunc 55 args).run Try.prog w = .ok (.enter 55 args) w := enters_of Try.func55 (by kernel_rfl) rfl
  exact AnyQ.slices_SortFunc Try.sortEn 2 Try.isAgg85 Try.sizeOf85 encE (fun _ => rfl) (fun x v hv => by simp [encE] at hv; rcases hv with rfl | rfl <;> rfl) (fun x y => Lib.compareInt x.1 y.1) Try.swoPage 55 #[] blk 0 cap d w eg
    (fun _ _ _ _ x y => Try.closureSort x y _) hH hblk hsz
theorem Try.sortNone (p : Option Addr) (cap : Nat) (fv : Value) (w : World) :
    Calls Try.prog 54 #[.slice p 0 cap, fv] w fun e w' => e = .returned (.tuple #[]) ∧ w' = w := AnyF.slices_SortFunc_none Try.sortEn p cap fv w
end Go.Proofs
namespace Go.Proofs.Ytmjonggabppgaaa
noncomputable section
open Go.Eng
theorem sort_ok {G : Type} (S : Sig G) (hS : FreeSig S) : CtrOk S Try.prog 54 sortCtr :=
  sort_of S hS (fun blk cap d w h1 h2 h3 => Try.sortEntries blk cap d w h1 h2 h3) (fun p cap fv w => Try.sortNone p cap fv w)
end
end Go.Proofs.Ytmjonggabppgaaa

/- FreeOnce: what the numbers of the pages' states say of the list's entries. -/
set_option linter.unusedVariables false
namespace Go.Proofs.Ytmjonggabppgaaa
noncomputable section
def entF (A : List Int) : Nat → Nat → List (List Int)
  | _, 0 => []
  | k, n + 1 => if 0 ≤ A.getD k 0 then [(k : Int), A.getD k 0] :: entF A (k + 1) n else entF A (k + 1) n
def lstF (A : List Int) : Nat → Nat → Int
  | _, 0 => 0
  | k, n + 1 => if A.getD k 0 = 0 then (k : Int) else lstF A (k + 1) n
def cntF (A : List Int) (old : Int) : Nat → Nat → Int
  | _, 0 => 0
  | k, n + 1 => (if 0 < A.getD k 0 ∧ A.getD k 0 ≤ old then 1 else 0) + cntF A old (k + 1) n
def selF (p : Int → Bool) (A : List Int) : Nat → Nat → List Int
  | _, 0 => []
  | k, n + 1 => if p (A.getD k 0) then (k : Int) :: selF p A (k + 1) n else selF p A (k + 1) n
def relA (A : List Int) (m : Nat) (old : Int) : List Int := (List.range A.length).map fun j => if 2 ≤ j ∧ j < m ∧ 0 < A.getD j 0 ∧ A.getD j 0 ≤ old then 0 else A.getD j 0
def OnceP (A : List Int) (e : List (List Int)) : Prop := A.length = 10 ∧ e = entF A 2 8 ∧ ∀ j, 2 ≤ j → j < 10 → -1 ≤ A.getD j 0 ∧ A.getD j 0 ≤ 100
def onceB (A : List Int) (e : List (List Int)) : Bool := @decide (OnceP A e) (Classical.propDecidable _)
theorem onceB_iff {A : List Int} {e : List (List Int)} : onceB A e = true ↔ OnceP A e := by unfold onceB; exact @decide_eq_true_iff _ (Classical.propDecidable _)
theorem getD_set {A : List Int} {i j : Nat} {x : Int} (h : i < A.length) : (A.set i x).getD j 0 = if i = j then x else A.getD j 0 := by
  rw [List.getD_eq_getElem?_getD, List.getElem?_set, List.getD_eq_getElem?_getD]
  split
  · rename_i e; subst e; first | rw [if_pos h]; rfl | rfl
  · rfl
theorem entF_congr {A B : List Int} : ∀ n k, (∀ j, k ≤ j → j < k + n → A.getD j 0 = B.getD j 0) → entF A k n = entF B k n
  | 0, k, _ => rfl
  | n + 1, k, h => by
    unfold entF
    rw [h k (Nat.le_refl _) (by omega), entF_congr n (k + 1) (fun j a b => h j (by omega) (by omega))]
theorem entF_page {A : List Int} : ∀ n k, ∀ r ∈ entF A k n, (k : Int) ≤ r.getD 0 0
  | 0, k, r, h => by simp [entF] at h
  | n + 1, k, r, h => by
    unfold entF at h
    split at h
    · rcases List.mem_cons.1 h with rfl | h
      · simp
      · have := entF_page n (k + 1) r h; omega
    · have := entF_page n (k + 1) r h; omega
theorem take_ent {A : List Int} : ∀ n k, 1 ≤ k → k + n ≤ A.length →
    (lstF A k n = 0 ∧ idxL (entF A k n) < 0) ∨ (∃ j, k ≤ j ∧ j < k + n ∧ lstF A k n = j ∧ A.getD j 0 = 0 ∧ 0 ≤ idxL (entF A k n) ∧ takeN (entF A k n) = j ∧ takeE (entF A k n) = entF (A.set j (-1)) k n)
  | 0, k, _, _ => .inl ⟨rfl, by rw [entF, idxL]; decide⟩
  | n + 1, k, h1, h2 => by
    have ih := take_ent (A := A) n (k + 1) (by omega) (by omega)
    by_cases h0 : A.getD k 0 = 0
    · have ee0 : entF A k (n + 1) = [(k : Int), 0] :: entF A (k + 1) n := by rw [entF, if_pos (by omega), h0]
      refine .inr ⟨k, Nat.le_refl _, by omega, by simp only [lstF, if_pos h0], h0, ?_, ?_, ?_⟩
      · rw [ee0, idxL, if_pos (by rfl)]; exact Int.le_refl 0
      · rw [ee0, takeN, if_pos (by rfl)]; rfl
      · have e1 : entF (A.set k (-1)) k (n + 1) = entF (A.set k (-1)) (k + 1) n := by
          rw [entF, getD_set (by omega), if_pos rfl, if_neg (by decide)]
        rw [e1, entF_congr (B := A) n (k + 1) (fun j a b => by rw [getD_set (by omega), if_neg (by omega)])]
        rw [ee0, takeE, if_pos (by rfl)]
    · have el : lstF A k (n + 1) = lstF A (k + 1) n := by simp only [lstF, if_neg h0]
      by_cases hp : 0 ≤ A.getD k 0
      · have ee : entF A k (n + 1) = [(k : Int), A.getD k 0] :: entF A (k + 1) n := by simp only [entF, if_pos hp]
        have hne : ¬ ([(k : Int), A.getD k 0] : List Int).getD 1 0 = 0 := by simpa using h0
        have ei : idxL (entF A k (n + 1)) = if idxL (entF A (k + 1) n) < 0 then -1 else idxL (entF A (k + 1) n) + 1 := by rw [ee, idxL, if_neg hne]
        rcases ih with ⟨a, b⟩ | ⟨j, j1, j2, j3, j4, j5, j6, j7⟩
        · exact .inl ⟨by rw [el, a], by rw [ei, if_pos b]; decide⟩
        · refine .inr ⟨j, by omega, by omega, by rw [el, j3], j4, by rw [ei, if_neg (by omega)]; omega, by rw [ee, takeN, if_neg hne, j6], ?_⟩
          rw [ee, takeE, if_neg hne, j7]
          have e1 : (A.set j (-1)).getD k 0 = A.getD k 0 := by rw [getD_set (by omega), if_neg (by omega)]
          rw [entF, e1, if_pos hp]
      · have ee : entF A k (n + 1) = entF A (k + 1) n := by simp only [entF, if_neg hp]
        rcases ih with ⟨a, b⟩ | ⟨j, j1, j2, j3, j4, j5, j6, j7⟩
        · exact .inl ⟨by rw [el, a], by rw [ee]; exact b⟩
        · refine .inr ⟨j, by omega, by omega, by rw [el, j3], j4, by rw [ee]; exact j5, by rw [ee, j6], ?_⟩
          have e1 : (A.set j (-1)).getD k 0 = A.getD k 0 := by rw [getD_set (by omega), if_neg (by omega)]
          rw [ee, j7, entF, e1, if_neg hp]
theorem lst_snoc {A : List Int} : ∀ n k, 1 ≤ k → lstF A k (n + 1) = if lstF A k n = 0 then (if A.getD (k + n) 0 = 0 then ((k + n : Nat) : Int) else 0) else lstF A k n
  | 0, k, h => by simp [lstF]
  | n + 1, k, h => by
    rw [lstF, lst_snoc n (k + 1) (by omega), lstF, show k + 1 + n = k + (n + 1) by omega]
    split
    · rw [if_neg (by omega)]
    · rfl
theorem lst_mono {A : List Int} {k n : Nat} (hk : 1 ≤ k) (h : lstF A k n ≠ 0) : ∀ m, lstF A k (n + m) = lstF A k n
  | 0 => rfl
  | m + 1 => by
    have := lst_mono hk h m
    rw [show n + (m + 1) = (n + m) + 1 by omega, lst_snoc _ _ hk, this, if_neg h]
theorem has_ent {A : List Int} {p : Nat} : ∀ n k, hasE (p : Int) (entF A k n) = true ↔ k ≤ p ∧ p < k + n ∧ 0 ≤ A.getD p 0
  | 0, k => by simp [hasE, entF]; omega
  | n + 1, k => by
    have ih := has_ent (A := A) (p := p) n (k + 1)
    unfold entF
    split
    · rename_i h
      have e : hasE (p : Int) ([(k : Int), A.getD k 0] :: entF A (k + 1) n) = (((k : Int) == (p : Int)) || hasE (p : Int) (entF A (k + 1) n)) := rfl
      rw [e, Bool.or_eq_true, ih, beq_iff_eq]
      constructor
      · rintro (h1 | h1)
        · have : k = p := by omega
          subst this; exact ⟨Nat.le_refl _, by omega, h⟩
        · exact ⟨by omega, by omega, h1.2.2⟩
      · rintro ⟨h1, h2, h3⟩
        by_cases hk : k = p
        · exact .inl (by omega)
        · exact .inr ⟨by omega, by omega, h3⟩
    · rename_i h
      rw [ih]
      constructor
      · rintro ⟨h1, h2, h3⟩; exact ⟨by omega, by omega, h3⟩
      · rintro ⟨h1, h2, h3⟩
        have : k ≠ p := fun e => h (e ▸ h3)
        exact ⟨by omega, by omega, h3⟩
theorem ins_head {p t : Int} : ∀ {l : List (List Int)}, (∀ r ∈ l, ¬ r.getD 0 0 < p) → insE p t l = [p, t] :: l
  | [], _ => rfl
  | r :: l, h => by unfold insE; rw [if_neg (h r List.mem_cons_self)]
theorem ins_ent {A : List Int} {p : Nat} {t : Int} (h0 : 0 ≤ t) : ∀ n k, k ≤ p → p < k + n → k + n ≤ A.length → A.getD p 0 < 0 → insE (p : Int) t (entF A k n) = entF (A.set p t) k n
  | 0, k, h1, h2, _, _ => by omega
  | n + 1, k, h1, h2, h3, h4 => by
    by_cases hk : k = p
    · subst hk
      have e1 : entF A k (n + 1) = entF A (k + 1) n := by rw [entF, if_neg (by omega)]
      rw [e1, entF, getD_set (by omega), if_pos rfl, if_pos h0, ins_head (fun r hr => by have := entF_page n (k + 1) r hr; omega),
        entF_congr (A := A.set k t) (B := A) n (k + 1) (fun j a b => by rw [getD_set (by omega), if_neg (by omega)])]
    · have ih := ins_ent (A := A) (p := p) h0 n (k + 1) (by omega) (by omega) (by omega) h4
      have e1 : (A.set p t).getD k 0 = A.getD k 0 := by rw [getD_set (by omega), if_neg (by omega)]
      rw [entF, entF, e1]
      split
      · rw [insE, if_pos (by simp; omega), ih]
      · exact ih
theorem relA_len (A : List Int) (m : Nat) (old : Int) : (relA A m old).length = A.length := by unfold relA; simp
theorem relA_get {A : List Int} {m : Nat} {old : Int} {j : Nat} (h : j < A.length) : (relA A m old).getD j 0 = if 2 ≤ j ∧ j < m ∧ 0 < A.getD j 0 ∧ A.getD j 0 ≤ old then 0 else A.getD j 0 := by
  unfold relA
  rw [List.getD_eq_getElem?_getD, List.getElem?_map, List.getElem?_range h]; rfl
theorem getD_ext {A B : List Int} (hl : A.length = B.length) (h : ∀ j, j < A.length → A.getD j 0 = B.getD j 0) : A = B := by
  apply List.ext_getElem hl
  intro i h1 h2
  have := h i h1
  rw [List.getD_eq_getElem?_getD, List.getD_eq_getElem?_getD, List.getElem?_eq_getElem h1, List.getElem?_eq_getElem h2] at this
  exact this
theorem relA_zero (A : List Int) (old : Int) {m : Nat} (hm : m ≤ 2) : relA A m old = A :=
  getD_ext (relA_len ..) fun j hj => by rw [relA_len] at hj; rw [relA_get hj, if_neg (by omega)]
theorem relA_yes {A : List Int} {m : Nat} {old : Int} (h2 : 2 ≤ m) (hm : m < A.length) (hy : 0 < A.getD m 0 ∧ A.getD m 0 ≤ old) : (relA A m old).set m 0 = relA A (m + 1) old := by
  refine getD_ext (by rw [List.length_set, relA_len, relA_len]) fun j hj => ?_
  rw [List.length_set, relA_len] at hj
  rw [getD_set (by rw [relA_len]; exact hm), relA_get hj, relA_get hj]
  by_cases h : m = j
  · subst h; rw [if_pos rfl, if_pos ⟨h2, by omega, hy.1, hy.2⟩]
  · rw [if_neg h]; split <;> split <;> first | rfl | omega
theorem relA_no {A : List Int} {m : Nat} {old : Int} (hy : ¬ (0 < A.getD m 0 ∧ A.getD m 0 ≤ old)) : relA A m old = relA A (m + 1) old := by
  refine getD_ext (by rw [relA_len, relA_len]) fun j hj => ?_
  rw [relA_len] at hj
  rw [relA_get hj, relA_get hj]
  by_cases h : m = j
  · subst h; rw [if_neg (by omega), if_neg (by omega)]
  · split <;> split <;> first | rfl | omega
theorem rel_ent {A B : List Int} {old : Int} : ∀ n k, (∀ j, k ≤ j → j < k + n → B.getD j 0 = if 0 < A.getD j 0 ∧ A.getD j 0 ≤ old then 0 else A.getD j 0) → (entF A k n).map (relE old) = entF B k n
  | 0, k, _ => rfl
  | n + 1, k, h => by
    have ih := rel_ent (A := A) (B := B) (old := old) n (k + 1) (fun j a b => h j (by omega) (by omega))
    have hk := h k (Nat.le_refl _) (by omega)
    rw [entF, entF, hk]
    by_cases hc : 0 < A.getD k 0 ∧ A.getD k 0 ≤ old
    · rw [if_pos hc, if_pos (by omega), if_pos (by omega), List.map_cons, ih]
      congr 1
      unfold relE relT
      rw [if_pos (by simpa using hc)]; rfl
    · rw [if_neg hc]
      split
      · rw [List.map_cons, ih]
        congr 1
        unfold relE relT
        rw [if_neg (by simpa using hc)]
      · exact ih
theorem relN_ent {A : List Int} {old : Int} : ∀ n k, relN old (entF A k n) = cntF A old k n
  | 0, k => rfl
  | n + 1, k => by
    have ih := relN_ent (A := A) (old := old) n (k + 1)
    rw [entF, cntF]
    by_cases hc : 0 < A.getD k 0 ∧ A.getD k 0 ≤ old
    · rw [if_pos (by omega), if_pos hc]
      unfold relN at *
      rw [List.filter_cons, if_pos (by simpa [relT] using hc), List.length_cons]; omega
    · rw [if_neg hc]
      split
      · unfold relN at *
        rw [List.filter_cons, if_neg (by simpa [relT] using hc)]; omega
      · omega
theorem cnt_snoc {A : List Int} {old : Int} : ∀ n k, cntF A old k (n + 1) = cntF A old k n + if 0 < A.getD (k + n) 0 ∧ A.getD (k + n) 0 ≤ old then 1 else 0
  | 0, k => by simp [cntF]
  | n + 1, k => by
    rw [cntF, cnt_snoc n (k + 1), cntF, show k + 1 + n = k + (n + 1) by omega]; omega
theorem sel_ent {A : List Int} {p : Int → Bool} {q : List Int → Bool} (hq : ∀ x y : Int, q [x, y] = p y) (hp : ∀ y, y < 0 → p y = false) : ∀ n k, selE q (entF A k n) = selF p A k n
  | 0, k => rfl
  | n + 1, k => by
    have ih := sel_ent (A := A) hq hp n (k + 1)
    rw [entF, selF]
    split
    · unfold selE at *
      rw [List.filter_cons, hq]
      split
      · rw [List.map_cons, ih]; rfl
      · exact ih
    · rename_i h
      rw [hp _ (by omega), ih]; rfl
theorem sel_yes {A : List Int} {p : Int → Bool} {k : Int} (h0 : 0 ≤ k) (h : k < 10) (hp : p (A.getD k.toNat 0) = true) : selF p A k.toNat (10 - k.toNat) = k :: selF p A (k + 1).toNat (10 - (k + 1).toNat) := by
  rw [show 10 - k.toNat = (10 - (k + 1).toNat) + 1 by omega, selF, if_pos hp, show k.toNat + 1 = (k + 1).toNat by omega, show ((k.toNat : Nat) : Int) = k by omega]
theorem sel_no {A : List Int} {p : Int → Bool} {k : Int} (h0 : 0 ≤ k) (h : k < 10) (hp : p (A.getD k.toNat 0) = false) : selF p A k.toNat (10 - k.toNat) = selF p A (k + 1).toNat (10 - (k + 1).toNat) := by
  rw [show 10 - k.toNat = (10 - (k + 1).toNat) + 1 by omega, selF, if_neg (by rw [hp]; decide), show k.toNat + 1 = (k + 1).toNat by omega]
theorem once_len {A : List Int} {e : List (List Int)} (h : OnceP A e) : A.length = 10 := h.1
theorem once_take {A : List Int} {e : List (List Int)} (h : OnceP A e) :
    (lstF A 2 8 = 0 ∧ takeB e = false ∧ takeE e = e) ∨ (∃ j : Nat, 2 ≤ j ∧ j < 10 ∧ lstF A 2 8 = j ∧ takeB e = true ∧ takeN e = j ∧ OnceP (A.set j (-1)) (takeE e)) := by
  obtain ⟨h1, rfl, h3⟩ := h
  rcases take_ent (A := A) 8 2 (by omega) (by omega) with ⟨a, b⟩ | ⟨j, j1, j2, j3, j4, j5, j6, j7⟩
  · obtain ⟨t1, _, t3⟩ := take_none b
    exact .inl ⟨a, t3, t1⟩
  · refine .inr ⟨j, j1, by omega, j3, by unfold takeB; exact decide_eq_true j5, j6, by rw [List.length_set]; exact h1, j7, fun q q1 q2 => ?_⟩
    rw [getD_set (by omega)]
    have := h3 q q1 q2
    split <;> omega
theorem once_give {A : List Int} {e : List (List Int)} {p t : Int} (h : OnceP A e) (p1 : 2 ≤ p) (p2 : p < 10) (t1 : 0 ≤ t) (t2 : t ≤ 100) :
    (A.getD p.toNat 0 = -1 ∧ giveE p t e = 0 ∧ OnceP (A.set p.toNat t) (giveL p t e)) ∨ (A.getD p.toNat 0 ≠ -1 ∧ giveE p t e = 100 ∧ giveL p t e = e) := by
  obtain ⟨h1, rfl, h3⟩ := h
  obtain ⟨q, rfl⟩ := Int.eq_ofNat_of_zero_le (show 0 ≤ p by omega)
  have hh := has_ent (A := A) (p := q) 8 2
  have hr := h3 q (by omega) (by omega)
  rw [Int.toNat_natCast]
  by_cases hn : A.getD q 0 = -1
  · have hf : hasE (q : Int) (entF A 2 8) = false := by rw [Bool.eq_false_iff]; intro hx; have := (hh.1 hx).2.2; omega
    have hg : giveE (q : Int) t (entF A 2 8) = 0 := by unfold giveE; rw [if_neg (by omega), if_neg (by omega), hf]; rfl
    refine .inl ⟨hn, hg, by rw [List.length_set]; exact h1, ?_, fun j j1 j2 => ?_⟩
    · unfold giveL
      rw [if_pos hg, ins_ent t1 8 2 (by omega) (by omega) (by omega) (by omega)]
    · rw [getD_set (by omega)]
      have := h3 j j1 j2
      split <;> omega
  · have hf : hasE (q : Int) (entF A 2 8) = true := hh.2 ⟨by omega, by omega, by omega⟩
    have hg : giveE (q : Int) t (entF A 2 8) = 100 := by unfold giveE; rw [if_neg (by omega), if_neg (by omega), hf]; rfl
    exact .inr ⟨hn, hg, by unfold giveL; rw [if_neg (by omega)]⟩
theorem once_rel {A : List Int} {e : List (List Int)} (old : Int) (h : OnceP A e) : OnceP (relA A 10 old) (e.map (relE old)) ∧ relN old e = cntF A old 2 8 := by
  obtain ⟨h1, rfl, h3⟩ := h
  refine ⟨⟨by rw [relA_len]; exact h1, rel_ent 8 2 fun j j1 j2 => ?_, fun j j1 j2 => ?_⟩, relN_ent 8 2⟩
  · rw [relA_get (by omega)]
    split <;> split <;> first | rfl | omega
  · rw [relA_get (by omega)]
    have := h3 j j1 j2
    split <;> omega
theorem once_free {A : List Int} {e : List (List Int)} (h : OnceP A e) : selE isF e = selF (fun x => x == 0) A 2 8 ∧ selE isW e = selF (fun x => decide (0 < x)) A 2 8 := by
  obtain ⟨_, rfl, _⟩ := h
  exact ⟨sel_ent (fun _ _ => rfl) (fun y hy => by simp; omega) 8 2, sel_ent (fun _ _ => rfl) (fun y hy => by simp; omega) 8 2⟩
theorem lst_step {A : List Int} {k : Int} (h0 : 2 ≤ k) : lstF A 2 ((k + 1).toNat - 2) = if lstF A 2 (k.toNat - 2) = 0 then (if A.getD k.toNat 0 = 0 then k else 0) else lstF A 2 (k.toNat - 2) := by
  rw [show (k + 1).toNat - 2 = (k.toNat - 2) + 1 by omega, lst_snoc _ _ (by omega), show 2 + (k.toNat - 2) = k.toNat by omega, show ((k.toNat : Nat) : Int) = k by omega]
theorem lst_fin {A : List Int} {k l : Int} (h0 : 2 ≤ k) (h1 : k ≤ 10) (hl : l = lstF A 2 (k.toNat - 2)) (h : 10 ≤ k ∨ ¬ l = 0) : l = lstF A 2 8 := by
  rcases h with h | h
  · rw [hl, show k.toNat - 2 = 8 by omega]
  · rw [hl] at h ⊢
    rw [← lst_mono (by omega) h (10 - k.toNat), show k.toNat - 2 + (10 - k.toNat) = 8 by omega]
theorem cnt_step {A : List Int} {old k : Int} (h0 : 2 ≤ k) : cntF A old 2 ((k + 1).toNat - 2) = cntF A old 2 (k.toNat - 2) + if 0 < A.getD k.toNat 0 ∧ A.getD k.toNat 0 ≤ old then 1 else 0 := by
  rw [show (k + 1).toNat - 2 = (k.toNat - 2) + 1 by omega, cnt_snoc, show 2 + (k.toNat - 2) = k.toNat by omega]
theorem drop_cons {L : List Int} {k : Int} {x : Int} {t : List Int} (h0 : 0 ≤ k) (h : L.drop k.toNat = x :: t) : k < L.length ∧ L.getD k.toNat 0 = x ∧ L.drop (k + 1).toNat = t := by
  have hl : k.toNat < L.length := by
    rcases Nat.lt_or_ge k.toNat L.length with h' | h'
    · exact h'
    · rw [List.drop_of_length_le h'] at h; cases h
  rw [List.drop_eq_getElem_cons hl] at h
  injection h with a b
  exact ⟨by omega, by rw [List.getD_eq_getElem?_getD, List.getElem?_eq_getElem hl]; exact a, by rw [show (k + 1).toNat = k.toNat + 1 by omega]; exact b⟩
theorem drop_nil {L : List Int} {k l : Int} (h0 : 0 ≤ k) (h1 : 0 ≤ l) (hl : k + l = L.length) (h : L.drop k.toNat = []) : l = 0 := by
  have := congrArg List.length h
  rw [List.length_drop, List.length_nil] at this
  omega
end
end Go.Proofs.Ytmjonggabppgaaa
