/- What stands in a list's room behind an insertion. -/
import Derived.Test.YtmjonggabppgaaaPm3
import Derived.Test.YtmjonggabppgaaaPm4
import Derived.Shelf.SlLaysF0
import Derived.Shelf.SlLaysC2
import Derived.Ground.SlsfProg
import Derived.Ground.SlgcProg
import Derived.Test.YtmjonggabppgaaaProg
import Derived.Shelf.GgSortFunc.RowK
import Derived.Shelf.SlSortCmp.Insertion
import Derived.Shelf.GgSortFunc.InsertionK
import Derived.Shelf.SlSortCmp.NoneTotal
import Derived.Shelf.SlicesG.Cmp
set_option linter.unusedVariables false
namespace Go.Proofs.Ytmjonggabppgaaa
theorem ins_room {R V Y : List (List Int)} {n i : Nat} (hi : i ≤ n) (hn : n ≤ R.length) (hV : V.length = 1) :
    (R.take i ++ (V ++ ((R.drop i).take (n - i) ++ Y))).take (n + 1) = (R.take n).take i ++ V ++ (R.take n).drop i := by
  have e : R.take i ++ (V ++ ((R.drop i).take (n - i) ++ Y)) = ((R.take n).take i ++ V ++ (R.take n).drop i) ++ Y := by
    rw [List.take_take, Nat.min_eq_left hi, List.drop_take]; simp only [List.append_assoc]
  rw [e, List.take_append_of_le_length (by simp only [List.length_append, List.length_take, List.length_drop, hV]; omega), List.take_of_length_le (by simp only [List.length_append, List.length_take, List.length_drop, hV]; omega)]
theorem ins_end {R V : List (List Int)} {n : Nat} (hn : n ≤ R.length) (hV : V.length = 1) : (R.take n ++ V.take 1).take (n + 1) = (R.take n).take n ++ V ++ (R.take n).drop n := by
  have := ins_room (Y := []) (Nat.le_refl n) hn hV
  rw [← this, Nat.sub_self, List.take_zero, List.append_nil, List.append_nil, List.take_of_length_le (by omega : V.length ≤ 1)]
theorem ins_grow {R V Z Y : List (List Int)} {n i : Nat} (hi : i ≤ n) (hn : n ≤ R.length) (hV : V.length = 1) :
    ((((R.take i ++ Z).take i ++ (V ++ (R.take i ++ Z).drop (i + 1))).take (i + 1)) ++ ((R.drop i).take (n - i) ++ Y)).take (n + 1) = (R.take n).take i ++ V ++ (R.take n).drop i := by
  have h1 : (R.take i).length = i := by rw [List.length_take]; omega
  have e1 : (R.take i ++ Z).take i = R.take i := by rw [List.take_append_of_le_length (by omega), List.take_take, Nat.min_self]
  have e2 : ((R.take i ++ (V ++ (R.take i ++ Z).drop (i + 1))).take (i + 1)) = R.take i ++ V := by
    rw [← List.append_assoc, List.take_append_of_le_length (by rw [List.length_append, h1]; omega), List.take_of_length_le (by rw [List.length_append, h1]; omega)]
  rw [e1, e2, List.append_assoc]
  exact ins_room hi hn hV
theorem ins_here {R V : List (List Int)} {n i : Nat} (hi : i < n) (hn : n ≤ R.length) (hV : V.length = 1) :
    (((R.take (i + 1) ++ ((R.drop i).take (n - i) ++ R.drop (n + 1))).take i) ++ (V ++ (R.take (i + 1) ++ ((R.drop i).take (n - i) ++ R.drop (n + 1))).drop (i + 1))).take (n + 1) = (R.take n).take i ++ V ++ (R.take n).drop i := by
  have h1 : (R.take (i + 1)).length = i + 1 := by rw [List.length_take]; omega
  have e1 : (R.take (i + 1) ++ ((R.drop i).take (n - i) ++ R.drop (n + 1))).take i = R.take i := by
    rw [List.take_append_of_le_length (by omega), List.take_take, Nat.min_eq_left (by omega)]
  have e2 : (R.take (i + 1) ++ ((R.drop i).take (n - i) ++ R.drop (n + 1))).drop (i + 1) = (R.drop i).take (n - i) ++ R.drop (n + 1) := by
    rw [List.drop_append_of_le_length (by omega), List.drop_of_length_le (by omega), List.nil_append]
  rw [e1, e2]
  exact ins_room (by omega) hn hV
end Go.Proofs.Ytmjonggabppgaaa

/- A page is given back. -/
set_option linter.unusedSimpArgs false
set_option linter.unusedVariables false
namespace Go.Proofs.Ytmjonggabppgaaa
noncomputable section
open Go.Eng
def cmpCtr : Ctr := ⟨[.int, .int], [.one (.int .i64 (ai 0)), .one (.int .i64 (ai 1))], [], [], [], .one (.int .i64 (usI 46 (ai 0) (ai 1) z0)), [], []⟩
def cmpCx : Cx := { specs := [], anns := [] }
def bsCtr : Ctr := ⟨[.int, .rows, .int, .int, .int, .int], [.one (slC (ai 0) (ai 2) (ai 3) 2), .one (.int .i64 (ai 5)), .one (.fn 78)], [.arr enT (ai 0) (rA 1) (ai 4)],
  [eLe (.int 0) (ai 2), eLe (ai 2) (.f1 32 (rA 1)), eLe (ai 2) (.int 65534), usB 41 (rA 1) (ai 2) z0], [], .tup [(false, [.int .i64 (usI 36 (rA 1) (ai 2) (ai 5))]), (false, [.bool (usB 37 (rA 1) (ai 2) (ai 5))])], [.arr enT (ai 0) (rA 1) (ai 4)], []⟩
def bsInv : Inv := ⟨[.int, .int], [(9, .one (.int .i64 (di 0))), (10, .one (.int .i64 (di 1)))], [], [eLe (.int 0) (di 0), eLe (di 0) (di 1), eLe (di 1) (ai 2), eLe (di 0) (usI 36 (rA 1) (ai 2) (ai 5)), eLe (usI 36 (rA 1) (ai 2) (ai 5)) (di 1)], .f2 41 (di 1) (di 0)⟩
def bsCx : Cx := { specs := [(56, [cmpCtr])], anns := [(77, [(3, .inv bsInv)])] }
def insCtr : Ctr := ⟨[.int, .rows, .int, .int, .int, .int, .rows], [.one (slC (ai 0) (ai 2) (ai 3) 2), .one (.int .i64 (ai 4)), .one (slC (ai 5) (.int 1) (.int 1) 2)], [.arr enT (ai 0) (rA 1) (ai 3), .arr enT (ai 5) (rA 6) (.int 1)],
  [eLe (.int 0) (ai 2), eLe (ai 2) (.f1 32 (rA 1)), eLe (ai 2) (.int 65534), eLe (ai 2) (ai 3), eLe (.int 0) (ai 4), eLe (ai 4) (ai 2), eEq (.f1 32 (rA 6)) (.int 1)], [.int, .int, .rows],
  .one (slC (ai 7) (SX.mk2 40 (ai 2) (.int 1)) (ai 8) 2), [.arr enT (ai 7) (rA 9) (ai 8)], [eLe (SX.mk2 40 (ai 2) (.int 1)) (.f1 32 (rA 9)), eLe (SX.mk2 40 (ai 2) (.int 1)) (ai 8), eqS (tk (rA 9) (SX.mk2 40 (ai 2) (.int 1))) (.us .rows 38 (rA 1) (ai 2) (ai 4) (rA 6))]⟩
def insCx : Cx := { specs := [], anns := [], exts := [(88, [ovCtr (.rows [.int .i64, .int .i64])])] }
def giveCtr : Ctr := ⟨[.int, .g, .int, .int], [.one (.ptr (ai 0) 0), .one (.int .i64 (ai 2)), .one (.int .i64 (ai 3))], [freeC (ai 0) (gA 1)], [], [], .one (.int .i64 (usI 39 (gA 1) (ai 2) (ai 3))), [freeC (ai 0) (usG 42 (gA 1) (ai 2) (ai 3))], []⟩
def giveCx : Cx := { specs := [(77, [bsCtr]), (79, [insCtr])], anns := [(34, [(5, .ghost unfC [.tmp 0]), (7, .ghost fldC [.tmp 0]), (9, .ghost fldC [.tmp 0])])] }
-- BEGIN VC cmp
def cmpVc : VC := (.and (.imp (.f2 46 (.at .int 0) (.at .int 1)) (.need (.f2 45 (.us .int 46 (.at .int 0) (.at .int 1) (.int 0) (.int 0)) (.int (-(0 + 1)))) .tt)) (.imp
    (.f2 47 (.at .int 1) (.at .int 0)) (.and (.imp (.f2 46 (.at .int 1) (.at .int 0)) (.need (.f2 45 (.us .int 46 (.at .int 0) (.at .int 1) (.int 0)
    (.int 0)) (.int 1)) .tt)) (.imp (.f2 47 (.at .int 0) (.at .int 1)) (.need (.f2 45 (.us .int 46 (.at .int 0) (.at .int 1) (.int 0) (.int 0)) (.int
    0)) .tt)))))
theorem cmp_vc : vcOf Try.prog cmpCx 10 56 cmpCtr = cmpVc := by kernel_rfl
-- END VC cmp
-- BEGIN VC bs
def bsVc : VC := (.imp (.f2 47 (.int 0) (.at .int 2)) (.imp (.f2 47 (.at .int 2) (.f1 32 (.at .rows 1))) (.imp (.f2 47 (.at .int 2) (.int 65534)) (.imp (.us .bool 41
    (.at .rows 1) (.at .int 2) (.int 0) (.int 0)) (.need (.f2 47 (.at .int 2) (.at .int 2)) (.need (.f2 47 (.int 0) (.us .int 36 (.at .rows 1) (.at
    .int 2) (.at .int 5) (.int 0))) (.need (.f2 47 (.us .int 36 (.at .rows 1) (.at .int 2) (.at .int 5) (.int 0)) (.at .int 2)) (.all 6 .int (.all 7
    .int (.imp (.f2 47 (.int 0) (.at .int 6)) (.imp (.f2 47 (.at .int 6) (.at .int 7)) (.imp (.f2 47 (.at .int 7) (.at .int 2)) (.imp (.f2 47 (.at .int
    6) (.us .int 36 (.at .rows 1) (.at .int 2) (.at .int 5) (.int 0))) (.imp (.f2 47 (.us .int 36 (.at .rows 1) (.at .int 2) (.at .int 5) (.int 0))
    (.at .int 7)) (.and (.imp (.f2 46 (.at .int 6) (.at .int 7)) (.need (.f1 23 (.f2 40 (.at .int 6) (.at .int 7))) (.need (.f1 23 (.f2 107 (.f1 17
    (.f2 40 (.at .int 6) (.at .int 7))) (.int 1))) (.need (.f2 47 (.int 0) (.f2 107 (.f1 17 (.f2 40 (.at .int 6) (.at .int 7))) (.int 1))) (.need (.f2
    46 (.f2 107 (.f1 17 (.f2 40 (.at .int 6) (.at .int 7))) (.int 1)) (.at .int 2)) (.need (.f2 46 (.f2 107 (.f1 17 (.f2 40 (.at .int 6) (.at .int 7)))
    (.int 1)) (.f1 32 (.at .rows 1))) (.all 8 .int (.imp (.f2 47 (.int 0) (.at .int 8)) (.and (.imp (.f2 46 (.us .int 46 (.f3 112 (.at .rows 1) (.f2
    107 (.f1 17 (.f2 40 (.at .int 6) (.at .int 7))) (.int 1)) (.int 0)) (.at .int 5) (.int 0) (.int 0)) (.int 0)) (.need (.f1 23 (.f2 40 (.f2 107 (.f1
    17 (.f2 40 (.at .int 6) (.at .int 7))) (.int 1)) (.int 1))) (.need (.f2 47 (.int 0) (.f2 41 (.at .int 7) (.f2 40 (.f2 107 (.f1 17 (.f2 40 (.at .int
    6) (.at .int 7))) (.int 1)) (.int 1)))) (.need (.f2 46 (.f2 41 (.at .int 7) (.f2 40 (.f2 107 (.f1 17 (.f2 40 (.at .int 6) (.at .int 7))) (.int 1))
    (.int 1))) (.f2 41 (.at .int 7) (.at .int 6))) (.need (.f2 47 (.int 0) (.f2 40 (.f2 107 (.f1 17 (.f2 40 (.at .int 6) (.at .int 7))) (.int 1)) (.int
    1))) (.need (.f2 47 (.f2 40 (.f2 107 (.f1 17 (.f2 40 (.at .int 6) (.at .int 7))) (.int 1)) (.int 1)) (.at .int 7)) (.need (.f2 47 (.f2 40 (.f2 107
    (.f1 17 (.f2 40 (.at .int 6) (.at .int 7))) (.int 1)) (.int 1)) (.us .int 36 (.at .rows 1) (.at .int 2) (.at .int 5) (.int 0))) .tt))))))) (.imp
    (.f2 47 (.int 0) (.us .int 46 (.f3 112 (.at .rows 1) (.f2 107 (.f1 17 (.f2 40 (.at .int 6) (.at .int 7))) (.int 1)) (.int 0)) (.at .int 5) (.int 0)
    (.int 0))) (.need (.f2 47 (.int 0) (.f2 41 (.f2 107 (.f1 17 (.f2 40 (.at .int 6) (.at .int 7))) (.int 1)) (.at .int 6))) (.need (.f2 46 (.f2 41
    (.f2 107 (.f1 17 (.f2 40 (.at .int 6) (.at .int 7))) (.int 1)) (.at .int 6)) (.f2 41 (.at .int 7) (.at .int 6))) (.need (.f2 47 (.at .int 6) (.f2
    107 (.f1 17 (.f2 40 (.at .int 6) (.at .int 7))) (.int 1))) (.need (.f2 47 (.f2 107 (.f1 17 (.f2 40 (.at .int 6) (.at .int 7))) (.int 1)) (.at .int
    2)) (.need (.f2 47 (.us .int 36 (.at .rows 1) (.at .int 2) (.at .int 5) (.int 0)) (.f2 107 (.f1 17 (.f2 40 (.at .int 6) (.at .int 7))) (.int 1)))
    .tt))))))))))))))) (.imp (.f2 47 (.at .int 7) (.at .int 6)) (.and (.imp (.f2 46 (.at .int 6) (.at .int 2)) (.need (.f2 46 (.at .int 6) (.f1 32 (.at
    .rows 1))) (.all 8 .int (.imp (.f2 47 (.int 0) (.at .int 8)) (.need (.f2 155 (.us .bool 37 (.at .rows 1) (.at .int 2) (.at .int 5) (.int 0)) (.f2
    45 (.us .int 46 (.f3 112 (.at .rows 1) (.at .int 6) (.int 0)) (.at .int 5) (.int 0) (.int 0)) (.int 0))) (.need (.f2 45 (.us .int 36 (.at .rows 1)
    (.at .int 2) (.at .int 5) (.int 0)) (.at .int 6)) .tt)))))) (.imp (.f2 47 (.at .int 2) (.at .int 6)) (.need (.f2 155 (.us .bool 37 (.at .rows 1)
    (.at .int 2) (.at .int 5) (.int 0)) (.bool .false)) (.need (.f2 45 (.us .int 36 (.at .rows 1) (.at .int 2) (.at .int 5) (.int 0)) (.at .int 6))
    .tt))))))))))))))))))))
theorem bs_vc : vcOf Try.prog bsCx 10 77 bsCtr = bsVc := by kernel_rfl
-- END VC bs
-- BEGIN VC ins
def insVc : VC := (.imp (.f2 47 (.int 0) (.at .int 2)) (.imp (.f2 47 (.at .int 2) (.f1 32 (.at .rows 1))) (.imp (.f2 47 (.at .int 2) (.int 65534)) (.imp (.f2 47 (.at
    .int 2) (.at .int 3)) (.imp (.f2 47 (.int 0) (.at .int 4)) (.imp (.f2 47 (.at .int 4) (.at .int 2)) (.imp (.f2 45 (.f1 32 (.at .rows 6)) (.int 1))
    (.need (.f2 47 (.int 0) (.at .int 3)) (.and (.imp (.f2 45 (.at .int 4) (.at .int 2)) (.need (.f2 47 (.f2 42 (.f2 40 (.at .int 2) (.int 1)) (.int
    16)) (.int 140737488355328)) (.need (.f2 47 (.int 1) (.f1 32 (.at .rows 6))) (.all 7 .int (.all 8 .int (.imp (.f2 47 (.f2 40 (.at .int 2) (.int 1))
    (.at .int 8)) (.imp (.f2 50 (.f2 47 (.int 0) (.at .int 7)) (.f2 45 (.f2 40 (.at .int 2) (.int 1)) (.int 0))) (.need (.f2 47 (.f2 40 (.at .int 2)
    (.int 1)) (.f2 40 (.f1 32 (.f2 115 (.at .rows 1) (.at .int 2))) (.f1 32 (.f2 115 (.at .rows 6) (.int 1))))) (.need (.f2 155 (.f2 115 (.f2 121 (.f2
    115 (.at .rows 1) (.at .int 2)) (.f2 115 (.at .rows 6) (.int 1))) (.f2 40 (.at .int 2) (.int 1))) (.us .rows 38 (.at .rows 1) (.at .int 2) (.at
    .int 4) (.at .rows 6))) .tt))))))))) (.imp (.f1 2 (.f2 45 (.at .int 4) (.at .int 2))) (.need (.f1 23 (.f2 40 (.at .int 2) (.int 1))) (.and (.imp
    (.f2 46 (.at .int 3) (.f2 40 (.at .int 2) (.int 1))) (.need (.f2 47 (.at .int 4) (.at .int 3)) (.need (.f1 23 (.f2 41 (.f2 40 (.at .int 2) (.int
    1)) (.at .int 4))) (.need (.f2 46 (.at .int 3) (.f2 40 (.at .int 4) (.f2 41 (.f2 40 (.at .int 2) (.int 1)) (.at .int 4)))) (.need (.f2 47 (.f2 42
    (.f2 40 (.at .int 4) (.f2 41 (.f2 40 (.at .int 2) (.int 1)) (.at .int 4))) (.int 16)) (.int 140737488355328)) (.need (.f2 47 (.int 0) (.f2 41 (.f2
    40 (.at .int 2) (.int 1)) (.at .int 4))) (.need (.f2 47 (.at .int 4) (.f1 32 (.at .rows 1))) (.all 7 .int (.all 8 .int (.imp (.f2 47 (.f2 40 (.at
    .int 4) (.f2 41 (.f2 40 (.at .int 2) (.int 1)) (.at .int 4))) (.at .int 8)) (.imp (.f2 47 (.int 0) (.at .int 7)) (.need (.f2 47 (.int 0) (.f2 40
    (.at .int 4) (.f2 41 (.f2 40 (.at .int 2) (.int 1)) (.at .int 4)))) (.need (.f2 47 (.int 0) (.at .int 8)) (.need (.f2 47 (.at .int 4) (.f2 40 (.at
    .int 4) (.f2 41 (.f2 40 (.at .int 2) (.int 1)) (.at .int 4)))) (.need (.f2 47 (.int 0) (.f2 41 (.f2 40 (.at .int 4) (.f2 41 (.f2 40 (.at .int 2)
    (.int 1)) (.at .int 4))) (.at .int 4))) (.need (.f2 47 (.f2 41 (.f2 40 (.at .int 4) (.f2 41 (.f2 40 (.at .int 2) (.int 1)) (.at .int 4))) (.at .int
    4)) (.f2 41 (.at .int 8) (.at .int 4))) (.need (.f2 47 (.at .int 4) (.f2 40 (.f1 32 (.f2 115 (.at .rows 1) (.at .int 4))) (.f1 32 (.f2 127 (.f2 41
    (.f2 40 (.at .int 2) (.int 1)) (.at .int 4)) (.f2 122 (.int 0) (.f2 122 (.int 0) (.f1 152 (.int 0)))))))) (.need (.f2 47 (.f2 40 (.at .int 4) (.f2
    41 (.f2 40 (.at .int 4) (.f2 41 (.f2 40 (.at .int 2) (.int 1)) (.at .int 4))) (.at .int 4))) (.at .int 8)) (.need (.f2 47 (.int 1) (.f1 32 (.at
    .rows 6))) (.need (.f1 23 (.f2 40 (.at .int 4) (.int 1))) (.need (.f2 47 (.int 0) (.f2 40 (.at .int 4) (.int 1))) (.need (.f2 47 (.f2 40 (.at .int
    4) (.int 1)) (.f2 40 (.at .int 4) (.f2 41 (.f2 40 (.at .int 2) (.int 1)) (.at .int 4)))) (.need (.f2 47 (.int 0) (.f2 41 (.f2 40 (.at .int 4) (.f2
    41 (.f2 40 (.at .int 2) (.int 1)) (.at .int 4))) (.f2 40 (.at .int 4) (.int 1)))) (.need (.f2 47 (.f2 41 (.f2 40 (.at .int 4) (.f2 41 (.f2 40 (.at
    .int 2) (.int 1)) (.at .int 4))) (.f2 40 (.at .int 4) (.int 1))) (.f2 41 (.at .int 8) (.f2 40 (.at .int 4) (.int 1)))) (.need (.f2 47 (.f2 40 (.at
    .int 4) (.int 1)) (.f2 40 (.f1 32 (.f2 115 (.f2 121 (.f2 115 (.at .rows 1) (.at .int 4)) (.f2 127 (.f2 41 (.f2 40 (.at .int 2) (.int 1)) (.at .int
    4)) (.f2 122 (.int 0) (.f2 122 (.int 0) (.f1 152 (.int 0)))))) (.at .int 4))) (.f2 40 (.f1 32 (.f2 115 (.f2 115 (.at .rows 6) (.int 1)) (.f2 51
    (.int 1) (.f2 41 (.f2 40 (.at .int 4) (.f2 41 (.f2 40 (.at .int 2) (.int 1)) (.at .int 4))) (.at .int 4))))) (.f1 32 (.f2 118 (.f2 121 (.f2 115
    (.at .rows 1) (.at .int 4)) (.f2 127 (.f2 41 (.f2 40 (.at .int 2) (.int 1)) (.at .int 4)) (.f2 122 (.int 0) (.f2 122 (.int 0) (.f1 152 (.int
    0)))))) (.f2 40 (.at .int 4) (.f2 51 (.int 1) (.f2 41 (.f2 40 (.at .int 4) (.f2 41 (.f2 40 (.at .int 2) (.int 1)) (.at .int 4))) (.at .int
    4))))))))) (.need (.f2 47 (.f2 40 (.f2 40 (.at .int 4) (.f2 41 (.f2 40 (.at .int 4) (.f2 41 (.f2 40 (.at .int 2) (.int 1)) (.at .int 4))) (.f2 40
    (.at .int 4) (.int 1)))) (.int 1)) (.at .int 8)) (.need (.f2 47 (.int 0) (.f2 41 (.at .int 2) (.at .int 4))) (.need (.f2 47 (.f2 41 (.at .int 2)
    (.at .int 4)) (.f2 41 (.at .int 3) (.at .int 4))) (.need (.f2 47 (.f2 40 (.at .int 4) (.f2 41 (.at .int 2) (.at .int 4))) (.f1 32 (.at .rows 1)))
    (.need (.f2 47 (.f2 40 (.at .int 2) (.int 1)) (.f2 40 (.f1 32 (.f2 115 (.f2 121 (.f2 115 (.f2 121 (.f2 115 (.at .rows 1) (.at .int 4)) (.f2 127
    (.f2 41 (.f2 40 (.at .int 2) (.int 1)) (.at .int 4)) (.f2 122 (.int 0) (.f2 122 (.int 0) (.f1 152 (.int 0)))))) (.at .int 4)) (.f2 121 (.f2 115
    (.f2 115 (.at .rows 6) (.int 1)) (.f2 51 (.int 1) (.f2 41 (.f2 40 (.at .int 4) (.f2 41 (.f2 40 (.at .int 2) (.int 1)) (.at .int 4))) (.at .int
    4)))) (.f2 118 (.f2 121 (.f2 115 (.at .rows 1) (.at .int 4)) (.f2 127 (.f2 41 (.f2 40 (.at .int 2) (.int 1)) (.at .int 4)) (.f2 122 (.int 0) (.f2
    122 (.int 0) (.f1 152 (.int 0)))))) (.f2 40 (.at .int 4) (.f2 51 (.int 1) (.f2 41 (.f2 40 (.at .int 4) (.f2 41 (.f2 40 (.at .int 2) (.int 1)) (.at
    .int 4))) (.at .int 4))))))) (.f2 40 (.at .int 4) (.int 1)))) (.f2 40 (.f1 32 (.f2 115 (.f2 115 (.f2 118 (.at .rows 1) (.at .int 4)) (.f2 41 (.at
    .int 2) (.at .int 4))) (.f2 51 (.f2 41 (.at .int 2) (.at .int 4)) (.f2 41 (.f2 40 (.at .int 4) (.f2 41 (.f2 40 (.at .int 2) (.int 1)) (.at .int
    4))) (.f2 40 (.at .int 4) (.int 1)))))) (.f1 32 (.f2 118 (.f2 121 (.f2 115 (.f2 121 (.f2 115 (.at .rows 1) (.at .int 4)) (.f2 127 (.f2 41 (.f2 40
    (.at .int 2) (.int 1)) (.at .int 4)) (.f2 122 (.int 0) (.f2 122 (.int 0) (.f1 152 (.int 0)))))) (.at .int 4)) (.f2 121 (.f2 115 (.f2 115 (.at .rows
    6) (.int 1)) (.f2 51 (.int 1) (.f2 41 (.f2 40 (.at .int 4) (.f2 41 (.f2 40 (.at .int 2) (.int 1)) (.at .int 4))) (.at .int 4)))) (.f2 118 (.f2 121
    (.f2 115 (.at .rows 1) (.at .int 4)) (.f2 127 (.f2 41 (.f2 40 (.at .int 2) (.int 1)) (.at .int 4)) (.f2 122 (.int 0) (.f2 122 (.int 0) (.f1 152
    (.int 0)))))) (.f2 40 (.at .int 4) (.f2 51 (.int 1) (.f2 41 (.f2 40 (.at .int 4) (.f2 41 (.f2 40 (.at .int 2) (.int 1)) (.at .int 4))) (.at .int
    4))))))) (.f2 40 (.f2 40 (.at .int 4) (.f2 51 (.f2 41 (.at .int 2) (.at .int 4)) (.f2 41 (.f2 40 (.at .int 4) (.f2 41 (.f2 40 (.at .int 2) (.int
    1)) (.at .int 4))) (.f2 40 (.at .int 4) (.int 1))))) (.int 1))))))) (.need (.f2 47 (.f2 40 (.at .int 2) (.int 1)) (.at .int 8)) (.need (.f2 155
    (.f2 115 (.f2 121 (.f2 115 (.f2 121 (.f2 115 (.f2 121 (.f2 115 (.at .rows 1) (.at .int 4)) (.f2 127 (.f2 41 (.f2 40 (.at .int 2) (.int 1)) (.at
    .int 4)) (.f2 122 (.int 0) (.f2 122 (.int 0) (.f1 152 (.int 0)))))) (.at .int 4)) (.f2 121 (.f2 115 (.f2 115 (.at .rows 6) (.int 1)) (.f2 51 (.int
    1) (.f2 41 (.f2 40 (.at .int 4) (.f2 41 (.f2 40 (.at .int 2) (.int 1)) (.at .int 4))) (.at .int 4)))) (.f2 118 (.f2 121 (.f2 115 (.at .rows 1) (.at
    .int 4)) (.f2 127 (.f2 41 (.f2 40 (.at .int 2) (.int 1)) (.at .int 4)) (.f2 122 (.int 0) (.f2 122 (.int 0) (.f1 152 (.int 0)))))) (.f2 40 (.at .int
    4) (.f2 51 (.int 1) (.f2 41 (.f2 40 (.at .int 4) (.f2 41 (.f2 40 (.at .int 2) (.int 1)) (.at .int 4))) (.at .int 4))))))) (.f2 40 (.at .int 4)
    (.int 1))) (.f2 121 (.f2 115 (.f2 115 (.f2 118 (.at .rows 1) (.at .int 4)) (.f2 41 (.at .int 2) (.at .int 4))) (.f2 51 (.f2 41 (.at .int 2) (.at
    .int 4)) (.f2 41 (.f2 40 (.at .int 4) (.f2 41 (.f2 40 (.at .int 2) (.int 1)) (.at .int 4))) (.f2 40 (.at .int 4) (.int 1))))) (.f2 118 (.f2 121
    (.f2 115 (.f2 121 (.f2 115 (.at .rows 1) (.at .int 4)) (.f2 127 (.f2 41 (.f2 40 (.at .int 2) (.int 1)) (.at .int 4)) (.f2 122 (.int 0) (.f2 122
    (.int 0) (.f1 152 (.int 0)))))) (.at .int 4)) (.f2 121 (.f2 115 (.f2 115 (.at .rows 6) (.int 1)) (.f2 51 (.int 1) (.f2 41 (.f2 40 (.at .int 4) (.f2
    41 (.f2 40 (.at .int 2) (.int 1)) (.at .int 4))) (.at .int 4)))) (.f2 118 (.f2 121 (.f2 115 (.at .rows 1) (.at .int 4)) (.f2 127 (.f2 41 (.f2 40
    (.at .int 2) (.int 1)) (.at .int 4)) (.f2 122 (.int 0) (.f2 122 (.int 0) (.f1 152 (.int 0)))))) (.f2 40 (.at .int 4) (.f2 51 (.int 1) (.f2 41 (.f2
    40 (.at .int 4) (.f2 41 (.f2 40 (.at .int 2) (.int 1)) (.at .int 4))) (.at .int 4))))))) (.f2 40 (.f2 40 (.at .int 4) (.f2 51 (.f2 41 (.at .int 2)
    (.at .int 4)) (.f2 41 (.f2 40 (.at .int 4) (.f2 41 (.f2 40 (.at .int 2) (.int 1)) (.at .int 4))) (.f2 40 (.at .int 4) (.int 1))))) (.int 1)))))
    (.f2 40 (.at .int 2) (.int 1))) (.us .rows 38 (.at .rows 1) (.at .int 2) (.at .int 4) (.at .rows 6))) (.need (.f2 45 (.f2 40 (.at .int 2) (.int 1))
    (.f2 40 (.at .int 4) (.f2 41 (.f2 40 (.at .int 2) (.int 1)) (.at .int 4)))) .tt))))))))))))))))))))))))))))))))) (.imp (.f2 47 (.f2 40 (.at .int 2)
    (.int 1)) (.at .int 3)) (.need (.f2 47 (.int 0) (.f2 40 (.at .int 2) (.int 1))) (.need (.f1 23 (.f2 40 (.at .int 4) (.int 1))) (.need (.f2 47 (.int
    0) (.f2 40 (.at .int 4) (.int 1))) (.need (.f2 47 (.f2 40 (.at .int 4) (.int 1)) (.f2 40 (.at .int 2) (.int 1))) (.need (.f2 47 (.f2 41 (.f2 40
    (.at .int 2) (.int 1)) (.f2 40 (.at .int 4) (.int 1))) (.at .int 3)) (.need (.f2 47 (.at .int 4) (.f2 40 (.at .int 2) (.int 1))) (.need (.f2 47
    (.int 0) (.f2 41 (.f2 40 (.at .int 2) (.int 1)) (.f2 40 (.at .int 4) (.int 1)))) (.need (.f2 47 (.f2 41 (.f2 40 (.at .int 2) (.int 1)) (.f2 40 (.at
    .int 4) (.int 1))) (.f2 41 (.at .int 3) (.f2 40 (.at .int 4) (.int 1)))) (.need (.f2 47 (.f2 40 (.at .int 4) (.int 1)) (.f1 32 (.at .rows 1)))
    (.need (.f2 47 (.f2 40 (.f2 40 (.at .int 4) (.f2 41 (.f2 40 (.at .int 2) (.int 1)) (.f2 40 (.at .int 4) (.int 1)))) (.int 1)) (.at .int 3)) (.need
    (.f2 47 (.int 0) (.f2 41 (.f2 40 (.at .int 2) (.int 1)) (.at .int 4))) (.need (.f2 47 (.f2 41 (.f2 40 (.at .int 2) (.int 1)) (.at .int 4)) (.f2 41
    (.at .int 3) (.at .int 4))) (.need (.f2 47 (.f2 40 (.at .int 4) (.f2 51 (.f2 41 (.f2 40 (.at .int 2) (.int 1)) (.at .int 4)) (.f2 41 (.f2 40 (.at
    .int 2) (.int 1)) (.f2 40 (.at .int 4) (.int 1))))) (.f1 32 (.at .rows 1))) (.need (.f2 47 (.at .int 4) (.f2 40 (.f1 32 (.f2 115 (.at .rows 1) (.f2
    40 (.at .int 4) (.int 1)))) (.f2 40 (.f1 32 (.f2 115 (.f2 115 (.f2 118 (.at .rows 1) (.at .int 4)) (.f2 51 (.f2 41 (.f2 40 (.at .int 2) (.int 1))
    (.at .int 4)) (.f2 41 (.f2 40 (.at .int 2) (.int 1)) (.f2 40 (.at .int 4) (.int 1))))) (.f2 51 (.f2 41 (.f2 40 (.at .int 2) (.int 1)) (.at .int 4))
    (.f2 41 (.f2 40 (.at .int 2) (.int 1)) (.f2 40 (.at .int 4) (.int 1)))))) (.f1 32 (.f2 118 (.at .rows 1) (.f2 40 (.f2 40 (.at .int 4) (.f2 51 (.f2
    41 (.f2 40 (.at .int 2) (.int 1)) (.at .int 4)) (.f2 41 (.f2 40 (.at .int 2) (.int 1)) (.f2 40 (.at .int 4) (.int 1))))) (.int 1))))))) (.need (.f2
    47 (.f2 40 (.at .int 4) (.f2 41 (.f2 40 (.at .int 2) (.int 1)) (.at .int 4))) (.at .int 3)) (.need (.f2 47 (.int 1) (.f1 32 (.at .rows 6))) (.need
    (.f2 47 (.f2 40 (.at .int 2) (.int 1)) (.f2 40 (.f1 32 (.f2 115 (.f2 121 (.f2 115 (.at .rows 1) (.f2 40 (.at .int 4) (.int 1))) (.f2 121 (.f2 115
    (.f2 115 (.f2 118 (.at .rows 1) (.at .int 4)) (.f2 51 (.f2 41 (.f2 40 (.at .int 2) (.int 1)) (.at .int 4)) (.f2 41 (.f2 40 (.at .int 2) (.int 1))
    (.f2 40 (.at .int 4) (.int 1))))) (.f2 51 (.f2 41 (.f2 40 (.at .int 2) (.int 1)) (.at .int 4)) (.f2 41 (.f2 40 (.at .int 2) (.int 1)) (.f2 40 (.at
    .int 4) (.int 1))))) (.f2 118 (.at .rows 1) (.f2 40 (.f2 40 (.at .int 4) (.f2 51 (.f2 41 (.f2 40 (.at .int 2) (.int 1)) (.at .int 4)) (.f2 41 (.f2
    40 (.at .int 2) (.int 1)) (.f2 40 (.at .int 4) (.int 1))))) (.int 1))))) (.at .int 4))) (.f2 40 (.f1 32 (.f2 115 (.f2 115 (.at .rows 6) (.int 1))
    (.f2 51 (.int 1) (.f2 41 (.f2 40 (.at .int 2) (.int 1)) (.at .int 4))))) (.f1 32 (.f2 118 (.f2 121 (.f2 115 (.at .rows 1) (.f2 40 (.at .int 4)
    (.int 1))) (.f2 121 (.f2 115 (.f2 115 (.f2 118 (.at .rows 1) (.at .int 4)) (.f2 51 (.f2 41 (.f2 40 (.at .int 2) (.int 1)) (.at .int 4)) (.f2 41
    (.f2 40 (.at .int 2) (.int 1)) (.f2 40 (.at .int 4) (.int 1))))) (.f2 51 (.f2 41 (.f2 40 (.at .int 2) (.int 1)) (.at .int 4)) (.f2 41 (.f2 40 (.at
    .int 2) (.int 1)) (.f2 40 (.at .int 4) (.int 1))))) (.f2 118 (.at .rows 1) (.f2 40 (.f2 40 (.at .int 4) (.f2 51 (.f2 41 (.f2 40 (.at .int 2) (.int
    1)) (.at .int 4)) (.f2 41 (.f2 40 (.at .int 2) (.int 1)) (.f2 40 (.at .int 4) (.int 1))))) (.int 1))))) (.f2 40 (.at .int 4) (.f2 51 (.int 1) (.f2
    41 (.f2 40 (.at .int 2) (.int 1)) (.at .int 4))))))))) (.need (.f2 155 (.f2 115 (.f2 121 (.f2 115 (.f2 121 (.f2 115 (.at .rows 1) (.f2 40 (.at .int
    4) (.int 1))) (.f2 121 (.f2 115 (.f2 115 (.f2 118 (.at .rows 1) (.at .int 4)) (.f2 51 (.f2 41 (.f2 40 (.at .int 2) (.int 1)) (.at .int 4)) (.f2 41
    (.f2 40 (.at .int 2) (.int 1)) (.f2 40 (.at .int 4) (.int 1))))) (.f2 51 (.f2 41 (.f2 40 (.at .int 2) (.int 1)) (.at .int 4)) (.f2 41 (.f2 40 (.at
    .int 2) (.int 1)) (.f2 40 (.at .int 4) (.int 1))))) (.f2 118 (.at .rows 1) (.f2 40 (.f2 40 (.at .int 4) (.f2 51 (.f2 41 (.f2 40 (.at .int 2) (.int
    1)) (.at .int 4)) (.f2 41 (.f2 40 (.at .int 2) (.int 1)) (.f2 40 (.at .int 4) (.int 1))))) (.int 1))))) (.at .int 4)) (.f2 121 (.f2 115 (.f2 115
    (.at .rows 6) (.int 1)) (.f2 51 (.int 1) (.f2 41 (.f2 40 (.at .int 2) (.int 1)) (.at .int 4)))) (.f2 118 (.f2 121 (.f2 115 (.at .rows 1) (.f2 40
    (.at .int 4) (.int 1))) (.f2 121 (.f2 115 (.f2 115 (.f2 118 (.at .rows 1) (.at .int 4)) (.f2 51 (.f2 41 (.f2 40 (.at .int 2) (.int 1)) (.at .int
    4)) (.f2 41 (.f2 40 (.at .int 2) (.int 1)) (.f2 40 (.at .int 4) (.int 1))))) (.f2 51 (.f2 41 (.f2 40 (.at .int 2) (.int 1)) (.at .int 4)) (.f2 41
    (.f2 40 (.at .int 2) (.int 1)) (.f2 40 (.at .int 4) (.int 1))))) (.f2 118 (.at .rows 1) (.f2 40 (.f2 40 (.at .int 4) (.f2 51 (.f2 41 (.f2 40 (.at
    .int 2) (.int 1)) (.at .int 4)) (.f2 41 (.f2 40 (.at .int 2) (.int 1)) (.f2 40 (.at .int 4) (.int 1))))) (.int 1))))) (.f2 40 (.at .int 4) (.f2 51
    (.int 1) (.f2 41 (.f2 40 (.at .int 2) (.int 1)) (.at .int 4))))))) (.f2 40 (.at .int 2) (.int 1))) (.us .rows 38 (.at .rows 1) (.at .int 2) (.at
    .int 4) (.at .rows 6))) .tt)))))))))))))))))))))))))))))))
theorem ins_vc : vcOf Try.prog insCx 10 79 insCtr = insVc := by kernel_rfl
-- END VC ins
-- BEGIN VC give
def giveVc : VC := (.and (.imp (.f2 47 (.int 2) (.at .int 2)) (.and (.imp (.f2 47 (.int 65536) (.at .int 2)) (.need (.f2 155 (.us .g 42 (.at .g 1) (.at .int 2) (.at .int
    3) (.int 0)) (.at .g 1)) (.need (.f2 45 (.us .int 39 (.at .g 1) (.at .int 2) (.at .int 3) (.int 0)) (.int 30)) .tt))) (.imp (.f2 46 (.at .int 2)
    (.int 65536)) (.and (.imp (.f2 47 (.int 0) (.at .int 3)) (.and (.imp (.f2 46 (.int 1099511627776) (.at .int 3)) (.need (.f2 155 (.us .g 42 (.at .g
    1) (.at .int 2) (.at .int 3) (.int 0)) (.at .g 1)) (.need (.f2 45 (.us .int 39 (.at .g 1) (.at .int 2) (.at .int 3) (.int 0)) (.int 1)) .tt)))
    (.imp (.f2 47 (.at .int 3) (.int 1099511627776)) (.all 4 .int (.all 5 .int (.all 6 .int (.all 7 .rows (.all 8 .int (.all 9 .int (.all 10 .int (.imp
    (.f2 47 (.int 0) (.at .int 5)) (.imp (.f2 47 (.at .int 5) (.f1 32 (.at .rows 7))) (.imp (.f2 47 (.at .int 5) (.int 65534)) (.imp (.f2 47 (.at .int
    5) (.at .int 6)) (.imp (.us .bool 41 (.at .rows 7) (.at .int 5) (.int 0) (.int 0)) (.imp (.f2 155 (.us .rows 21 (.at .g 1) (.int 0) (.int 0) (.int
    0)) (.f2 115 (.at .rows 7) (.at .int 5))) (.and (.imp (.us .bool 37 (.at .rows 7) (.at .int 5) (.at .int 2) (.int 0)) (.need (.f2 155 (.us .g 42
    (.at .g 1) (.at .int 2) (.at .int 3) (.int 0)) (.us .g 22 (.at .g 1) (.at .rows 7) (.at .int 5) (.int 0))) (.need (.f2 45 (.us .int 39 (.at .g 1)
    (.at .int 2) (.at .int 3) (.int 0)) (.int 100)) .tt))) (.imp (.f1 2 (.us .bool 37 (.at .rows 7) (.at .int 5) (.at .int 2) (.int 0))) (.all 11 .int
    (.imp (.f2 47 (.int 0) (.at .int 11)) (.need (.f2 47 (.int 0) (.us .int 36 (.at .rows 7) (.at .int 5) (.at .int 2) (.int 0))) (.need (.f2 47 (.us
    .int 36 (.at .rows 7) (.at .int 5) (.at .int 2) (.int 0)) (.at .int 5)) (.all 12 .int (.all 13 .int (.all 14 .rows (.imp (.f2 47 (.f2 40 (.at .int
    5) (.int 1)) (.f1 32 (.at .rows 14))) (.imp (.f2 47 (.f2 40 (.at .int 5) (.int 1)) (.at .int 13)) (.imp (.f2 155 (.f2 115 (.at .rows 14) (.f2 40
    (.at .int 5) (.int 1))) (.us .rows 38 (.at .rows 7) (.at .int 5) (.us .int 36 (.at .rows 7) (.at .int 5) (.at .int 2) (.int 0)) (.f2 124 (.f2 122
    (.at .int 2) (.f2 122 (.at .int 3) (.f1 152 (.int 0)))) (.f1 154 (.int 0))))) (.need (.f2 47 (.int 0) (.f2 40 (.at .int 5) (.int 1))) (.need (.us
    .bool 41 (.at .rows 14) (.f2 40 (.at .int 5) (.int 1)) (.int 0) (.int 0)) (.need (.f2 155 (.us .g 42 (.at .g 1) (.at .int 2) (.at .int 3) (.int 0))
    (.us .g 22 (.at .g 1) (.at .rows 14) (.f2 40 (.at .int 5) (.int 1)) (.int 0))) (.need (.f2 45 (.us .int 39 (.at .g 1) (.at .int 2) (.at .int 3)
    (.int 0)) (.int 0)) .tt)))))))))))))))))))))))))))))))) (.imp (.f2 46 (.at .int 3) (.int 0)) (.need (.f2 155 (.us .g 42 (.at .g 1) (.at .int 2)
    (.at .int 3) (.int 0)) (.at .g 1)) (.need (.f2 45 (.us .int 39 (.at .g 1) (.at .int 2) (.at .int 3) (.int 0)) (.int 1)) .tt))))))) (.imp (.f2 46
    (.at .int 2) (.int 2)) (.need (.f2 155 (.us .g 42 (.at .g 1) (.at .int 2) (.at .int 3) (.int 0)) (.at .g 1)) (.need (.f2 45 (.us .int 39 (.at .g 1)
    (.at .int 2) (.at .int 3) (.int 0)) (.int 30)) .tt))))
theorem give_vc : vcOf Try.prog giveCx 10 34 giveCtr = giveVc := by kernel_rfl
-- END VC give
-- PROOFS
theorem cmp_ok (S : Sig FL) (hS : FlSig S) : CtrOk S Try.prog 56 cmpCtr := by
  refine vcOf_sound S (C := cmpCx) (fuel := 10) (cx_of trivial trivial trivial) fun ρ => ?_
  rw [cmp_vc]
  simp only [cmpVc, VC.den, SX.den, co_int, Env.upd, hS.u46, p45, p46, p47, U.toInt_int, Int.reduceAdd, Int.reduceNeg]
  generalize (ρ 0).toInt = a
  generalize (ρ 1).toInt = b
  unfold cmpI
  refine ⟨fun h => ⟨by rw [if_pos h], trivial⟩, fun h => ⟨fun h2 => ⟨by rw [if_neg (by omega), if_pos h2], trivial⟩, fun h2 => ⟨by rw [if_neg (by omega), if_neg (by omega)], trivial⟩⟩⟩
theorem half_i64 {x : Int} (h0 : 0 ≤ x) (h1 : x ≤ 1000000000) : Int.fdiv (IntKind.wrap .u64 x) (2 ^ (min (Int.toNat 1) (IntKind.bits .u64))) = x / 2 := by
  have e : IntKind.wrap .u64 x = x := by unfold IntKind.wrap; simp only [IntKind.signed, IntKind.bits]; simp; omega
  rw [e]
  have : (2 : Int) ^ (min (Int.toNat 1) (IntKind.bits .u64)) = 2 := by decide
  rw [this]
  rw [Int.fdiv_eq_ediv_of_nonneg _ (by decide)]
theorem bs_ok (S : Sig FL) (hS : FlSig S) : CtrOk S Try.prog 77 bsCtr := by
  refine vcOf_sound S (C := bsCx) (fuel := 10) (cx_of ⟨one_spec (by decide) (cmp_ok S hS), trivial⟩ ⟨⟨trivial, trivial⟩, trivial⟩ trivial) fun ρ => ?_
  rw [bs_vc]
  simp only [bsVc, VC.den, SX.den, co_int, co_bool, co_rows, Env.upd, hS.u36, hS.u37, hS.u41, hS.u46, p155, p23, p45, p46, p47, ap1_2, ap1_17, ap1_32, ap2_40, ap2_41, ap2_45, ap2_107, ap3_112, U.toProp_bool, U.toBool_bool, i64lo, i64hi, U.toInt_int, U.toRows_rows, Int.toNat_zero, Nat.reduceEqDiff, reduceIte, U.bool.injEq, beq_iff_eq]
  generalize (ρ 1).toRows = R
  generalize (ρ 2).toInt = n
  generalize (ρ 5).toInt = p
  intro a1 a2 a3 hg
  have hg := goodB_iff.1 hg
  have hl := lowE_le p (R.take n.toNat)
  have hln : (((R.take n.toNat).length : Nat) : Int) = n := by rw [List.length_take]; omega
  have hlt := @low_lt p (R.take n.toNat)
  have hhas := @has_low p (R.take n.toNat) hg.2
  rw [hln] at hl hhas
  generalize hlow : lowE p (R.take n.toNat) = low at *
  refine ⟨by omega, by omega, by omega, fun i j h1 h2 h3 h4 h5 => ⟨fun hij => ?_, fun hij => ⟨fun hi => ⟨by omega, fun _ _ => ⟨?_, by omega, trivial⟩⟩, fun hi => ⟨?_, by omega, trivial⟩⟩⟩⟩
  · rw [half_i64 (x := i + j) (by omega) (by omega)]
    have hh := hlt (h := ((i + j) / 2).toNat) hg.2 (by omega)
    rw [nth_take (by omega)] at hh
    rw [cmpI_lt, show ∀ q, (0 ≤ cmpI q p ↔ ¬ q < p) from fun q => by rw [← cmpI_lt]; omega]
    have e : (((((i + j) / 2).toNat : Nat)) : Int) = (i + j) / 2 := by omega
    rw [e] at hh
    refine ⟨by omega, by omega, by omega, by omega, by omega, fun _ _ => ⟨fun hc => ?_, fun hc => ?_⟩⟩
    · have := hh.1 hc
      repeat' (first | exact trivial | apply And.intro)
      all_goals omega
    · have : ¬ (i + j) / 2 < low := fun h => hc (hh.2 h)
      repeat' (first | exact trivial | apply And.intro)
      all_goals omega
  · have e : i = low := by omega
    subst e
    rw [nth_take (by omega)] at hhas
    rw [Bool.eq_iff_iff, hhas, beq_iff_eq, cmpI_eq]
    exact ⟨fun h => h.2, fun h => ⟨hi, h⟩⟩
  · have e : low = n := by omega
    rw [Bool.eq_false_iff]
    intro h
    have := (hhas.1 h).1
    omega
theorem ins_ok (S : Sig FL) (hS : FlSig S) : CtrOk S Try.prog 79 insCtr := by
  refine vcOf_sound S (C := insCx) (fuel := 10) (cx_of trivial trivial ⟨one_ext (by decide) (ovE_ok S), trivial⟩) fun ρ => ?_
  rw [ins_vc]
  simp only [insVc, VC.den, SX.den, co_int, co_bool, co_rows, Env.upd, hS.u38, p155, p23, p45, p46, p47, p50, b47, b45, ap1_2, ap1_32, ap1_152, ap2_40, ap2_41, ap2_42, ap2_45, ap2_51i, ap2_115, ap2_118, ap2_121, ap2_122, ap2_127, U.toProp_bool, U.toBool_bool, i64lo, i64hi, U.toInt_int, U.toInts_ints, U.toRows_rows, Int.toNat_zero, toNat1, Nat.reduceEqDiff, reduceIte, Bool.not_eq_true', beq_eq_false_iff_ne, beq_iff_eq, ne_eq, U.rows.injEq]
  generalize (ρ 1).toRows = R
  generalize (ρ 6).toRows = V
  generalize (ρ 2).toInt = n
  generalize (ρ 3).toInt = c
  generalize (ρ 4).toInt = i
  intro a1 a2 a3 a4 a5 a6 a7
  have hV : V.length = 1 := by omega
  have hV1 : V.take 1 = V := List.take_of_length_le (by omega)
  have hln : (R.take n.toNat).length = n.toNat := by rw [List.length_take]; omega
  have hli : (R.take i.toNat).length = i.toNat := by rw [List.length_take]; omega
  have e1 : (n + 1).toNat = n.toNat + 1 := by omega
  refine ⟨by omega, fun hi => ?_, fun hi => ⟨by omega, fun hc => ?_, fun hc => ?_⟩⟩
  · refine ⟨by omega, by omega, fun b c' h1 h2 => ⟨by rw [hV1, hln, hV]; omega, ?_, trivial⟩⟩
    rw [hi, e1]
    exact ins_end (by omega) hV
  · have m1 : imin 1 (i + (n + 1 - i) - i) = 1 := imin_left (by omega)
    have m2 : imin (n - i) (i + (n + 1 - i) - (i + 1)) = n - i := imin_left (by omega)
    simp only [m1, m2, toNat1]
    have f1 : (i + 1).toNat = i.toNat + 1 := by omega
    have f2 : (n - i).toNat = n.toNat - i.toNat := by omega
    have f3 : (i + (n - i) + 1).toNat = n.toNat + 1 := by omega
    simp only [f1, f2, f3, e1, hV1]
    repeat' (first | exact trivial | apply And.intro | intro _)
    all_goals first
      | omega
      | (simp only [List.length_append, List.length_take, List.length_drop, List.length_replicate, hV]; omega)
      | skip
    all_goals rw [List.take_take, Nat.min_self]; exact ins_grow (by omega) (by omega) hV
  · have m1 : imin 1 (n + 1 - i) = 1 := imin_left (by omega)
    have m2 : imin (n + 1 - i) (n + 1 - (i + 1)) = n - i := by rw [imin_right (by omega)]; omega
    simp only [m1, m2, toNat1]
    have f1 : (i + 1).toNat = i.toNat + 1 := by omega
    have f2 : (n - i).toNat = n.toNat - i.toNat := by omega
    have f3 : (i + (n - i) + 1).toNat = n.toNat + 1 := by omega
    simp only [f1, f2, f3, e1, hV1]
    repeat' (first | exact trivial | apply And.intro | intro _)
    all_goals first
      | omega
      | (simp only [List.length_append, List.length_take, List.length_drop, List.length_replicate, hV]; omega)
      | skip
    all_goals rw [List.take_take, Nat.min_self]; exact ins_here (by omega) (by omega) hV
theorem give_ok (S : Sig FL) (hS : FlSig S) (hu : GhOk S unfC) (hf : GhOk S fldC) : CtrOk S Try.prog 34 giveCtr := by
  refine vcOf_sound S (C := giveCx) (fuel := 10) (cx_of ⟨one_spec (by decide) (bs_ok S hS), one_spec (by decide) (ins_ok S hS), trivial⟩ ⟨⟨⟨by decide, hu⟩, ⟨by decide, hf⟩, ⟨by decide, hf⟩, trivial⟩, trivial⟩ trivial) fun ρ => ?_
  rw [give_vc]
  simp only [giveVc, VC.den, SX.den, co_int, co_bool, co_rows, co_g, gOf_g, Env.upd, hS.u21, hS.u22, hS.u36, hS.u37, hS.u38, hS.u39, hS.u41, hS.u42, p155, p23, p45, p46, p47, ap1_2, ap1_32, ap1_152, ap1_154, ap2_40, ap2_115, ap2_122, ap2_124, U.toProp_bool, U.toBool_bool, Bool.not_eq_true', i64lo, i64hi, U.toInt_int, U.toInts_ints, U.toRows_rows, Nat.reduceEqDiff, reduceIte, U.rows.injEq, U.g.injEq]
  obtain ⟨s, hs⟩ : ∃ s, U.co S Srt.g (ρ 1) = .g s := by cases ρ 1 <;> exact ⟨_, rfl⟩
  simp only [hs, gOf_g, U.g.injEq]
  generalize (ρ 2).toInt = p
  generalize (ρ 3).toInt = t
  obtain ⟨e, m, last⟩ := s
  have same : ∀ e, giveE p t e ≠ 0 → giveL p t e = e := fun e h => by unfold giveL; rw [if_neg h]
  have h30 : ∀ e, ¬ (2 ≤ p ∧ p < 65536) → giveE p t e = 30 := fun e h => by unfold giveE; rw [if_pos h]
  have h1 : ∀ e, (2 ≤ p ∧ p < 65536) → (t < 0 ∨ 1099511627776 < t) → giveE p t e = 1 := fun e h h' => by unfold giveE; rw [if_neg (fun x => x h), if_pos h']
  refine ⟨fun a1 => ⟨fun a2 => ?_, fun a2 => ⟨fun a3 => ⟨fun a4 => ?_, fun a4 b n c R bm nm cm k0 k1 k2 k3 hg he => ?_⟩, fun a3 => ?_⟩⟩, fun a1 => ?_⟩
  · have := h30 e (by omega)
    exact ⟨by rw [same e (by omega)], this, trivial⟩
  · have := h1 e (by omega) (by omega)
    exact ⟨by rw [same e (by omega)], this, trivial⟩
  · simp only at he
    subst he
    have hg := goodB_iff.1 hg
    have hl := lowE_le p (R.take n.toNat)
    have hln : (((R.take n.toNat).length : Nat) : Int) = n := by rw [List.length_take]; omega
    rw [hln] at hl
    have h2 : hasE p (R.take n.toNat) = true → giveE p t (R.take n.toNat) = 100 := fun h => by unfold giveE; rw [if_neg (by omega), if_neg (by omega), if_pos h]
    have h3 : hasE p (R.take n.toNat) = false → giveE p t (R.take n.toNat) = 0 := fun h => by unfold giveE; rw [if_neg (by omega), if_neg (by omega), h]; rfl
    refine ⟨fun hh => ?_, fun hh _ _ => ⟨hl.1, hl.2, fun b' c' R' q1 q2 q3 => ?_⟩⟩
    · have := h2 hh
      exact ⟨by rw [same _ (show giveE p t (R.take n.toNat) ≠ 0 by omega)], this, trivial⟩
    · have h0 := h3 hh
      have hi := ins_low (p := p) (t := t) hg.2
      have e1 : giveL p t (R.take n.toNat) = R'.take (n + 1).toNat := by unfold giveL; rw [if_pos h0, hi, q3]
      refine ⟨by omega, ?_, by rw [e1], h0, trivial⟩
      rw [goodB_iff, ← e1]
      unfold giveL
      rw [if_pos h0]
      exact hg.ins (by omega) (by omega) a3 a4 hh
  · have := h1 e (by omega) (by omega)
    exact ⟨by rw [same e (by omega)], this, trivial⟩
  · have := h30 e (by omega)
    exact ⟨by rw [same e (by omega)], this, trivial⟩
end
end Go.Proofs.Ytmjonggabppgaaa

/- Where the first free entry stands. -/
set_option linter.unusedSimpArgs false
set_option linter.unusedVariables false
namespace Go.Proofs.Ytmjonggabppgaaa
noncomputable section
open Go.Eng
def idxCtr : Ctr := ⟨[.int, .rows, .int, .int, .int], [.one (slC (ai 0) (ai 2) (ai 3) 2), .one (.fn 75)], [.arr enT (ai 0) (rA 1) (ai 4)],
  [eLe (.int 0) (ai 2), eLe (ai 2) (.f1 32 (rA 1)), eLe (ai 2) (.int 65534)], [], .one (.int .i64 (usI 26 (rA 1) (ai 2) z0)), [.arr enT (ai 0) (rA 1) (ai 4)], []⟩
def idxInv : Inv := ⟨[.int], [(8, .one (.int .i64 (di 0)))], [], [eLe (.int 0) (di 0), eLe (di 0) (ai 2), eEq (usI 26 (rA 1) (di 0) z0) (.int (-1))], .f2 41 (ai 2) (di 0)⟩
def idxCx : Cx := { specs := [], anns := [(74, [(2, .inv idxInv)])] }
-- BEGIN VC idx
def idxVc : VC := (.imp (.f2 47 (.int 0) (.at .int 2)) (.imp (.f2 47 (.at .int 2) (.f1 32 (.at .rows 1))) (.imp (.f2 47 (.at .int 2) (.int 65534)) (.need (.f2 45 (.us
    .int 26 (.at .rows 1) (.int 0) (.int 0) (.int 0)) (.int (-(0 + 1)))) (.all 5 .int (.imp (.f2 47 (.int 0) (.at .int 5)) (.imp (.f2 47 (.at .int 5)
    (.at .int 2)) (.imp (.f2 45 (.us .int 26 (.at .rows 1) (.at .int 5) (.int 0) (.int 0)) (.int (-(0 + 1)))) (.and (.imp (.f2 46 (.at .int 5) (.at
    .int 2)) (.need (.f2 46 (.at .int 5) (.f1 32 (.at .rows 1))) (.all 6 .int (.imp (.f2 47 (.int 0) (.at .int 6)) (.and (.imp (.f2 45 (.f3 112 (.at
    .rows 1) (.at .int 5) (.int 1)) (.int 0)) (.need (.f2 45 (.us .int 26 (.at .rows 1) (.at .int 2) (.int 0) (.int 0)) (.at .int 5)) .tt)) (.imp (.f1
    2 (.f2 45 (.f3 112 (.at .rows 1) (.at .int 5) (.int 1)) (.int 0))) (.need (.f1 23 (.f2 40 (.at .int 5) (.int 1))) (.need (.f2 47 (.int 0) (.f2 41
    (.at .int 2) (.f2 40 (.at .int 5) (.int 1)))) (.need (.f2 46 (.f2 41 (.at .int 2) (.f2 40 (.at .int 5) (.int 1))) (.f2 41 (.at .int 2) (.at .int
    5))) (.need (.f2 47 (.int 0) (.f2 40 (.at .int 5) (.int 1))) (.need (.f2 47 (.f2 40 (.at .int 5) (.int 1)) (.at .int 2)) (.need (.f2 45 (.us .int
    26 (.at .rows 1) (.f2 40 (.at .int 5) (.int 1)) (.int 0) (.int 0)) (.int (-(0 + 1)))) .tt)))))))))))) (.imp (.f2 47 (.at .int 2) (.at .int 5))
    (.need (.f2 45 (.us .int 26 (.at .rows 1) (.at .int 2) (.int 0) (.int 0)) (.int (-(0 + 1)))) .tt)))))))))))
theorem idx_vc : vcOf Try.prog idxCx 10 74 idxCtr = idxVc := by kernel_rfl
-- END VC idx
-- PROOFS
theorem idx_ok (S : Sig FL) (hS : FlSig S) : CtrOk S Try.prog 74 idxCtr := by
  refine vcOf_sound S (C := idxCx) (fuel := 10) (cx_of trivial ⟨⟨trivial, trivial⟩, trivial⟩ trivial) fun ρ => ?_
  rw [idx_vc]
  simp only [idxVc, VC.den, SX.den, U.co, Env.upd, hS.u26, p23, p45, p46, p47, ap1_2, ap1_32, ap2_40, ap2_41, ap2_45, ap3_112, U.toProp_bool, U.toBool_bool, Bool.not_eq_true', beq_eq_false_iff_ne, beq_iff_eq, ne_eq, i64lo, i64hi, U.toInt_int, U.toRows_rows, Int.toNat_zero, toNat1, List.take_zero, Nat.reduceEqDiff, reduceIte, Int.reduceAdd, Int.reduceNeg]
  generalize (ρ 1).toRows = R
  generalize (ρ 2).toInt = n
  intro a1 a2 a3
  refine ⟨rfl, fun x k0 k1 k2 => ⟨fun hk => ⟨by omega, fun y _ => ⟨fun hz => ⟨idx_found k0 hk a2 k2 hz, trivial⟩, fun hz => ⟨by omega, by omega, by omega, by omega, by omega, idx_step k0 (by omega) k2 hz, trivial⟩⟩⟩, fun hk => ⟨?_, trivial⟩⟩⟩
  have : x = n := by omega
  rw [← this]; exact k2
end
end Go.Proofs.Ytmjonggabppgaaa

/- The least free page is taken. -/
set_option linter.unusedSimpArgs false
set_option linter.unusedVariables false
namespace Go.Proofs.Ytmjonggabppgaaa
noncomputable section
open Go.Eng
def takeCtr : Ctr := ⟨[.int, .g], [.one (.ptr (ai 0) 0)], [freeC (ai 0) (gA 1)], [], [], .tup [(false, [.int .i64 (usI 23 (gA 1) z0 z0)]), (false, [.bool (usB 24 (gA 1) z0 z0)])], [freeC (ai 0) (usG 25 (gA 1) z0 z0)], []⟩
def takeCx : Cx := { specs := [(74, [idxCtr])], anns := [(33, [(1, .ghost unfC [.tmp 0]), (3, .ghost fldC [.tmp 0]), (6, .ghost fldC [.tmp 0])]), (76, [(5, .ghost inC [.tmp 0, .tmp 1, .tmp 2])])] }
-- BEGIN VC take
def takeVc : VC := (.all 2 .int (.all 3 .int (.all 4 .int (.all 5 .rows (.all 6 .int (.all 7 .int (.all 8 .int (.imp (.f2 47 (.int 0) (.at .int 3)) (.imp (.f2 47 (.at
    .int 3) (.f1 32 (.at .rows 5))) (.imp (.f2 47 (.at .int 3) (.int 65534)) (.imp (.f2 47 (.at .int 3) (.at .int 4)) (.imp (.us .bool 41 (.at .rows 5)
    (.at .int 3) (.int 0) (.int 0)) (.imp (.f2 155 (.us .rows 21 (.at .g 1) (.int 0) (.int 0) (.int 0)) (.f2 115 (.at .rows 5) (.at .int 3))) (.and
    (.imp (.f2 46 (.us .int 26 (.at .rows 5) (.at .int 3) (.int 0) (.int 0)) (.int 0)) (.need (.f2 155 (.us .g 25 (.at .g 1) (.int 0) (.int 0) (.int
    0)) (.us .g 22 (.at .g 1) (.at .rows 5) (.at .int 3) (.int 0))) (.need (.f2 155 (.us .bool 24 (.at .g 1) (.int 0) (.int 0) (.int 0)) (.bool
    .false)) (.need (.f2 45 (.us .int 23 (.at .g 1) (.int 0) (.int 0) (.int 0)) (.int 0)) .tt)))) (.imp (.f2 47 (.int 0) (.us .int 26 (.at .rows 5)
    (.at .int 3) (.int 0) (.int 0))) (.need (.f2 46 (.us .int 26 (.at .rows 5) (.at .int 3) (.int 0) (.int 0)) (.at .int 3)) (.need (.f2 46 (.us .int
    26 (.at .rows 5) (.at .int 3) (.int 0) (.int 0)) (.f1 32 (.at .rows 5))) (.need (.f1 23 (.f2 40 (.us .int 26 (.at .rows 5) (.at .int 3) (.int 0)
    (.int 0)) (.int 1))) (.need (.f2 47 (.int 0) (.at .int 4)) (.need (.f2 47 (.us .int 26 (.at .rows 5) (.at .int 3) (.int 0) (.int 0)) (.f2 40 (.us
    .int 26 (.at .rows 5) (.at .int 3) (.int 0) (.int 0)) (.int 1))) (.need (.f2 47 (.int 0) (.f2 40 (.us .int 26 (.at .rows 5) (.at .int 3) (.int 0)
    (.int 0)) (.int 1))) (.need (.f2 47 (.f2 40 (.us .int 26 (.at .rows 5) (.at .int 3) (.int 0) (.int 0)) (.int 1)) (.at .int 3)) (.and (.imp (.f2 45
    (.us .int 26 (.at .rows 5) (.at .int 3) (.int 0) (.int 0)) (.f2 40 (.us .int 26 (.at .rows 5) (.at .int 3) (.int 0) (.int 0)) (.int 1))) (.need
    (.f2 155 (.us .g 25 (.at .g 1) (.int 0) (.int 0) (.int 0)) (.us .g 22 (.at .g 1) (.at .rows 5) (.at .int 3) (.int 0))) (.need (.f2 155 (.us .bool
    24 (.at .g 1) (.int 0) (.int 0) (.int 0)) (.bool .true)) (.need (.f2 45 (.us .int 23 (.at .g 1) (.int 0) (.int 0) (.int 0)) (.f3 112 (.at .rows 5)
    (.us .int 26 (.at .rows 5) (.at .int 3) (.int 0) (.int 0)) (.int 0))) .tt)))) (.imp (.f1 2 (.f2 45 (.us .int 26 (.at .rows 5) (.at .int 3) (.int 0)
    (.int 0)) (.f2 40 (.us .int 26 (.at .rows 5) (.at .int 3) (.int 0) (.int 0)) (.int 1)))) (.need (.f2 47 (.f2 40 (.us .int 26 (.at .rows 5) (.at
    .int 3) (.int 0) (.int 0)) (.f2 41 (.at .int 3) (.f2 40 (.us .int 26 (.at .rows 5) (.at .int 3) (.int 0) (.int 0)) (.int 1)))) (.at .int 4)) (.imp
    (.f2 47 (.f2 40 (.us .int 26 (.at .rows 5) (.at .int 3) (.int 0) (.int 0)) (.f2 41 (.at .int 3) (.f2 40 (.us .int 26 (.at .rows 5) (.at .int 3)
    (.int 0) (.int 0)) (.int 1)))) (.at .int 4)) (.need (.f2 47 (.us .int 26 (.at .rows 5) (.at .int 3) (.int 0) (.int 0)) (.at .int 4)) (.need (.f2 47
    (.us .int 26 (.at .rows 5) (.at .int 3) (.int 0) (.int 0)) (.f1 32 (.at .rows 5))) (.need (.f2 47 (.int 0) (.f2 41 (.at .int 3) (.f2 40 (.us .int
    26 (.at .rows 5) (.at .int 3) (.int 0) (.int 0)) (.int 1)))) (.need (.f2 47 (.f2 41 (.at .int 3) (.f2 40 (.us .int 26 (.at .rows 5) (.at .int 3)
    (.int 0) (.int 0)) (.int 1))) (.f2 41 (.at .int 4) (.f2 40 (.us .int 26 (.at .rows 5) (.at .int 3) (.int 0) (.int 0)) (.int 1)))) (.need (.f2 47
    (.f2 40 (.f2 40 (.us .int 26 (.at .rows 5) (.at .int 3) (.int 0) (.int 0)) (.f2 41 (.at .int 3) (.f2 40 (.us .int 26 (.at .rows 5) (.at .int 3)
    (.int 0) (.int 0)) (.int 1)))) (.int 1)) (.f1 32 (.at .rows 5))) (.need (.f2 47 (.int 0) (.f2 40 (.us .int 26 (.at .rows 5) (.at .int 3) (.int 0)
    (.int 0)) (.f2 41 (.at .int 3) (.f2 40 (.us .int 26 (.at .rows 5) (.at .int 3) (.int 0) (.int 0)) (.int 1))))) (.need (.f2 47 (.f2 40 (.us .int 26
    (.at .rows 5) (.at .int 3) (.int 0) (.int 0)) (.f2 41 (.at .int 3) (.f2 40 (.us .int 26 (.at .rows 5) (.at .int 3) (.int 0) (.int 0)) (.int 1))))
    (.at .int 3)) (.need (.f2 47 (.int 0) (.f2 41 (.at .int 3) (.f2 40 (.us .int 26 (.at .rows 5) (.at .int 3) (.int 0) (.int 0)) (.f2 41 (.at .int 3)
    (.f2 40 (.us .int 26 (.at .rows 5) (.at .int 3) (.int 0) (.int 0)) (.int 1)))))) (.need (.f2 47 (.f2 41 (.at .int 3) (.f2 40 (.us .int 26 (.at
    .rows 5) (.at .int 3) (.int 0) (.int 0)) (.f2 41 (.at .int 3) (.f2 40 (.us .int 26 (.at .rows 5) (.at .int 3) (.int 0) (.int 0)) (.int 1))))) (.f2
    41 (.at .int 4) (.f2 40 (.us .int 26 (.at .rows 5) (.at .int 3) (.int 0) (.int 0)) (.f2 41 (.at .int 3) (.f2 40 (.us .int 26 (.at .rows 5) (.at
    .int 3) (.int 0) (.int 0)) (.int 1)))))) (.need (.f2 47 (.f2 40 (.f2 40 (.us .int 26 (.at .rows 5) (.at .int 3) (.int 0) (.int 0)) (.f2 41 (.at
    .int 3) (.f2 40 (.us .int 26 (.at .rows 5) (.at .int 3) (.int 0) (.int 0)) (.int 1)))) (.f2 41 (.at .int 3) (.f2 40 (.us .int 26 (.at .rows 5) (.at
    .int 3) (.int 0) (.int 0)) (.f2 41 (.at .int 3) (.f2 40 (.us .int 26 (.at .rows 5) (.at .int 3) (.int 0) (.int 0)) (.int 1)))))) (.f2 40 (.f1 32
    (.f2 115 (.at .rows 5) (.us .int 26 (.at .rows 5) (.at .int 3) (.int 0) (.int 0)))) (.f2 40 (.f1 32 (.f2 115 (.f2 118 (.at .rows 5) (.f2 40 (.us
    .int 26 (.at .rows 5) (.at .int 3) (.int 0) (.int 0)) (.int 1))) (.f2 41 (.at .int 3) (.f2 40 (.us .int 26 (.at .rows 5) (.at .int 3) (.int 0)
    (.int 0)) (.int 1))))) (.f1 32 (.f2 118 (.at .rows 5) (.f2 40 (.us .int 26 (.at .rows 5) (.at .int 3) (.int 0) (.int 0)) (.f2 41 (.at .int 3) (.f2
    40 (.us .int 26 (.at .rows 5) (.at .int 3) (.int 0) (.int 0)) (.int 1))))))))) (.need (.f2 47 (.f2 40 (.us .int 26 (.at .rows 5) (.at .int 3) (.int
    0) (.int 0)) (.f2 41 (.at .int 3) (.f2 40 (.us .int 26 (.at .rows 5) (.at .int 3) (.int 0) (.int 0)) (.int 1)))) (.f2 40 (.f1 32 (.f2 115 (.f2 121
    (.f2 115 (.at .rows 5) (.us .int 26 (.at .rows 5) (.at .int 3) (.int 0) (.int 0))) (.f2 121 (.f2 115 (.f2 118 (.at .rows 5) (.f2 40 (.us .int 26
    (.at .rows 5) (.at .int 3) (.int 0) (.int 0)) (.int 1))) (.f2 41 (.at .int 3) (.f2 40 (.us .int 26 (.at .rows 5) (.at .int 3) (.int 0) (.int 0))
    (.int 1)))) (.f2 118 (.at .rows 5) (.f2 40 (.us .int 26 (.at .rows 5) (.at .int 3) (.int 0) (.int 0)) (.f2 41 (.at .int 3) (.f2 40 (.us .int 26
    (.at .rows 5) (.at .int 3) (.int 0) (.int 0)) (.int 1))))))) (.f2 40 (.us .int 26 (.at .rows 5) (.at .int 3) (.int 0) (.int 0)) (.f2 41 (.at .int
    3) (.f2 40 (.us .int 26 (.at .rows 5) (.at .int 3) (.int 0) (.int 0)) (.int 1)))))) (.f2 40 (.f1 32 (.f2 127 (.f2 41 (.at .int 3) (.f2 40 (.us .int
    26 (.at .rows 5) (.at .int 3) (.int 0) (.int 0)) (.f2 41 (.at .int 3) (.f2 40 (.us .int 26 (.at .rows 5) (.at .int 3) (.int 0) (.int 0)) (.int
    1))))) (.f2 122 (.int 0) (.f2 122 (.int 0) (.f1 152 (.int 0)))))) (.f1 32 (.f2 118 (.f2 121 (.f2 115 (.at .rows 5) (.us .int 26 (.at .rows 5) (.at
    .int 3) (.int 0) (.int 0))) (.f2 121 (.f2 115 (.f2 118 (.at .rows 5) (.f2 40 (.us .int 26 (.at .rows 5) (.at .int 3) (.int 0) (.int 0)) (.int 1)))
    (.f2 41 (.at .int 3) (.f2 40 (.us .int 26 (.at .rows 5) (.at .int 3) (.int 0) (.int 0)) (.int 1)))) (.f2 118 (.at .rows 5) (.f2 40 (.us .int 26
    (.at .rows 5) (.at .int 3) (.int 0) (.int 0)) (.f2 41 (.at .int 3) (.f2 40 (.us .int 26 (.at .rows 5) (.at .int 3) (.int 0) (.int 0)) (.int
    1))))))) (.f2 40 (.f2 40 (.us .int 26 (.at .rows 5) (.at .int 3) (.int 0) (.int 0)) (.f2 41 (.at .int 3) (.f2 40 (.us .int 26 (.at .rows 5) (.at
    .int 3) (.int 0) (.int 0)) (.int 1)))) (.f2 41 (.at .int 3) (.f2 40 (.us .int 26 (.at .rows 5) (.at .int 3) (.int 0) (.int 0)) (.f2 41 (.at .int 3)
    (.f2 40 (.us .int 26 (.at .rows 5) (.at .int 3) (.int 0) (.int 0)) (.int 1))))))))))) (.need (.us .bool 41 (.f2 121 (.f2 115 (.f2 121 (.f2 115 (.at
    .rows 5) (.us .int 26 (.at .rows 5) (.at .int 3) (.int 0) (.int 0))) (.f2 121 (.f2 115 (.f2 118 (.at .rows 5) (.f2 40 (.us .int 26 (.at .rows 5)
    (.at .int 3) (.int 0) (.int 0)) (.int 1))) (.f2 41 (.at .int 3) (.f2 40 (.us .int 26 (.at .rows 5) (.at .int 3) (.int 0) (.int 0)) (.int 1)))) (.f2
    118 (.at .rows 5) (.f2 40 (.us .int 26 (.at .rows 5) (.at .int 3) (.int 0) (.int 0)) (.f2 41 (.at .int 3) (.f2 40 (.us .int 26 (.at .rows 5) (.at
    .int 3) (.int 0) (.int 0)) (.int 1))))))) (.f2 40 (.us .int 26 (.at .rows 5) (.at .int 3) (.int 0) (.int 0)) (.f2 41 (.at .int 3) (.f2 40 (.us .int
    26 (.at .rows 5) (.at .int 3) (.int 0) (.int 0)) (.int 1))))) (.f2 121 (.f2 127 (.f2 41 (.at .int 3) (.f2 40 (.us .int 26 (.at .rows 5) (.at .int
    3) (.int 0) (.int 0)) (.f2 41 (.at .int 3) (.f2 40 (.us .int 26 (.at .rows 5) (.at .int 3) (.int 0) (.int 0)) (.int 1))))) (.f2 122 (.int 0) (.f2
    122 (.int 0) (.f1 152 (.int 0))))) (.f2 118 (.f2 121 (.f2 115 (.at .rows 5) (.us .int 26 (.at .rows 5) (.at .int 3) (.int 0) (.int 0))) (.f2 121
    (.f2 115 (.f2 118 (.at .rows 5) (.f2 40 (.us .int 26 (.at .rows 5) (.at .int 3) (.int 0) (.int 0)) (.int 1))) (.f2 41 (.at .int 3) (.f2 40 (.us
    .int 26 (.at .rows 5) (.at .int 3) (.int 0) (.int 0)) (.int 1)))) (.f2 118 (.at .rows 5) (.f2 40 (.us .int 26 (.at .rows 5) (.at .int 3) (.int 0)
    (.int 0)) (.f2 41 (.at .int 3) (.f2 40 (.us .int 26 (.at .rows 5) (.at .int 3) (.int 0) (.int 0)) (.int 1))))))) (.f2 40 (.f2 40 (.us .int 26 (.at
    .rows 5) (.at .int 3) (.int 0) (.int 0)) (.f2 41 (.at .int 3) (.f2 40 (.us .int 26 (.at .rows 5) (.at .int 3) (.int 0) (.int 0)) (.int 1)))) (.f2
    41 (.at .int 3) (.f2 40 (.us .int 26 (.at .rows 5) (.at .int 3) (.int 0) (.int 0)) (.f2 41 (.at .int 3) (.f2 40 (.us .int 26 (.at .rows 5) (.at
    .int 3) (.int 0) (.int 0)) (.int 1))))))))) (.f2 40 (.us .int 26 (.at .rows 5) (.at .int 3) (.int 0) (.int 0)) (.f2 41 (.at .int 3) (.f2 40 (.us
    .int 26 (.at .rows 5) (.at .int 3) (.int 0) (.int 0)) (.int 1)))) (.int 0) (.int 0)) (.need (.f2 155 (.us .g 25 (.at .g 1) (.int 0) (.int 0) (.int
    0)) (.us .g 22 (.at .g 1) (.f2 121 (.f2 115 (.f2 121 (.f2 115 (.at .rows 5) (.us .int 26 (.at .rows 5) (.at .int 3) (.int 0) (.int 0))) (.f2 121
    (.f2 115 (.f2 118 (.at .rows 5) (.f2 40 (.us .int 26 (.at .rows 5) (.at .int 3) (.int 0) (.int 0)) (.int 1))) (.f2 41 (.at .int 3) (.f2 40 (.us
    .int 26 (.at .rows 5) (.at .int 3) (.int 0) (.int 0)) (.int 1)))) (.f2 118 (.at .rows 5) (.f2 40 (.us .int 26 (.at .rows 5) (.at .int 3) (.int 0)
    (.int 0)) (.f2 41 (.at .int 3) (.f2 40 (.us .int 26 (.at .rows 5) (.at .int 3) (.int 0) (.int 0)) (.int 1))))))) (.f2 40 (.us .int 26 (.at .rows 5)
    (.at .int 3) (.int 0) (.int 0)) (.f2 41 (.at .int 3) (.f2 40 (.us .int 26 (.at .rows 5) (.at .int 3) (.int 0) (.int 0)) (.int 1))))) (.f2 121 (.f2
    127 (.f2 41 (.at .int 3) (.f2 40 (.us .int 26 (.at .rows 5) (.at .int 3) (.int 0) (.int 0)) (.f2 41 (.at .int 3) (.f2 40 (.us .int 26 (.at .rows 5)
    (.at .int 3) (.int 0) (.int 0)) (.int 1))))) (.f2 122 (.int 0) (.f2 122 (.int 0) (.f1 152 (.int 0))))) (.f2 118 (.f2 121 (.f2 115 (.at .rows 5)
    (.us .int 26 (.at .rows 5) (.at .int 3) (.int 0) (.int 0))) (.f2 121 (.f2 115 (.f2 118 (.at .rows 5) (.f2 40 (.us .int 26 (.at .rows 5) (.at .int
    3) (.int 0) (.int 0)) (.int 1))) (.f2 41 (.at .int 3) (.f2 40 (.us .int 26 (.at .rows 5) (.at .int 3) (.int 0) (.int 0)) (.int 1)))) (.f2 118 (.at
    .rows 5) (.f2 40 (.us .int 26 (.at .rows 5) (.at .int 3) (.int 0) (.int 0)) (.f2 41 (.at .int 3) (.f2 40 (.us .int 26 (.at .rows 5) (.at .int 3)
    (.int 0) (.int 0)) (.int 1))))))) (.f2 40 (.f2 40 (.us .int 26 (.at .rows 5) (.at .int 3) (.int 0) (.int 0)) (.f2 41 (.at .int 3) (.f2 40 (.us .int
    26 (.at .rows 5) (.at .int 3) (.int 0) (.int 0)) (.int 1)))) (.f2 41 (.at .int 3) (.f2 40 (.us .int 26 (.at .rows 5) (.at .int 3) (.int 0) (.int
    0)) (.f2 41 (.at .int 3) (.f2 40 (.us .int 26 (.at .rows 5) (.at .int 3) (.int 0) (.int 0)) (.int 1))))))))) (.f2 40 (.us .int 26 (.at .rows 5)
    (.at .int 3) (.int 0) (.int 0)) (.f2 41 (.at .int 3) (.f2 40 (.us .int 26 (.at .rows 5) (.at .int 3) (.int 0) (.int 0)) (.int 1)))) (.int 0)))
    (.need (.f2 155 (.us .bool 24 (.at .g 1) (.int 0) (.int 0) (.int 0)) (.bool .true)) (.need (.f2 45 (.us .int 23 (.at .g 1) (.int 0) (.int 0) (.int
    0)) (.f3 112 (.at .rows 5) (.us .int 26 (.at .rows 5) (.at .int 3) (.int 0) (.int 0)) (.int 0))) .tt)))))))))))))))))))))))))))))))))))))))))
theorem take_vc : vcOf Try.prog takeCx 10 33 takeCtr = takeVc := by kernel_rfl
-- END VC take
-- PROOFS
theorem take_ok (S : Sig FL) (hS : FlSig S) (hu : GhOk S unfC) (hf : GhOk S fldC) : CtrOk S Try.prog 33 takeCtr := by
  refine vcOf_sound S (C := takeCx) (fuel := 10) (cx_of ⟨one_spec (by decide) (idx_ok S hS), trivial⟩ ⟨⟨⟨by decide, hu⟩, ⟨by decide, hf⟩, ⟨by decide, hf⟩, trivial⟩, ⟨⟨by decide, gh_said S rfl rfl rfl⟩, trivial⟩, trivial⟩ trivial) fun ρ => ?_
  rw [take_vc]
  simp only [takeVc, VC.den, SX.den, co_int, co_bool, co_ints, co_rows, co_g, gOf_g, Env.upd, hS.u21, hS.u22, hS.u23, hS.u24, hS.u25, hS.u26, hS.u41, p155, p23, p45, p46, p47, ap1_2, ap1_32, ap1_152, ap2_40, ap2_41, ap2_42, ap2_45, ap2_115, ap2_118, ap2_121, ap2_122, ap2_127, ap3_112, U.toProp_bool, U.toBool_bool, Bool.not_eq_true', beq_eq_false_iff_ne, beq_iff_eq, ne_eq, i64lo, i64hi, U.toInt_int, U.toRows_rows, U.toInts_ints, Int.toNat_zero, toNat1, List.take_zero, Nat.reduceEqDiff, reduceIte, Int.reduceAdd, Int.reduceNeg, U.rows.injEq, U.g.injEq, U.bool.injEq]
  generalize gOf (U.co S .g (ρ 1)) = s
  obtain ⟨e, m, last⟩ := s
  intro b n c R bm nm cm h1 h2 h3 h4 hg he
  simp only at he
  subst he
  have hg := goodB_iff.1 hg
  have hlo := idxL_lo (R.take n.toNat)
  have hhi := idxL_hi (R.take n.toNat)
  have hln : (((R.take n.toNat).length : Nat) : Int) = n := by rw [List.length_take]; omega
  rw [hln] at hhi
  generalize hj : idxL (R.take n.toNat) = j at *
  refine ⟨fun hn => ?_, fun hp => ?_⟩
  · obtain ⟨t1, t2, t3⟩ := take_none (l := R.take n.toNat) (by omega)
    exact ⟨by rw [t1], t3, t2, trivial⟩
  · obtain ⟨t1, t2, t3⟩ := take_some (l := R.take n.toNat) (i := j.toNat) (by omega)
    have hnth : ((R.take n.toNat).getD j.toNat []).getD 0 0 = (R.getD j.toNat []).getD 0 0 := by rw [nth_take (by omega)]
    have hroom := fun Z Y => del_room (R := R) (Z := Z) (Y := Y) hp hhi h2
    repeat' (first | apply And.intro | intro)
    all_goals first | omega | (simp only [List.length_append, List.length_take, List.length_drop, List.length_replicate]; omega) | skip
    · rw [goodB_iff, hroom, ← t1]; exact hg.sub (takeE_sub _)
    · simp only
      rw [t1, hroom]
    all_goals first | exact t3 | trivial | (rw [← hnth]; exact t2)
end
end Go.Proofs.Ytmjonggabppgaaa

/- What older views do not need is free. -/
set_option linter.unusedSimpArgs false
set_option linter.unusedVariables false
namespace Go.Proofs.Ytmjonggabppgaaa
noncomputable section
open Go.Eng
def relCtr : Ctr := ⟨[.int, .g, .int], [.one (.ptr (ai 0) 0), .one (.int .i64 (ai 2))], [freeC (ai 0) (gA 1)], [], [], .one (.int .i64 (usI 28 (gA 1) (ai 2) z0)), [freeC (ai 0) (usG 29 (gA 1) (ai 2) z0)], []⟩
def relInv : Inv := ⟨[.int, .int, .rows], [(13, .one (.int .i64 (di 0))), (5, .one (.int .i64 (di 1)))], [.arr enT (ai 3) (rA 1000002) (ai 5)],
  [eLe (.int 0) (di 0), eLe (di 0) (ai 4), eqS (rA 1000002) (usR 30 (rA 6) (di 0) (ai 2)), eEq (di 1) (usI 31 (rA 6) (di 0) (ai 2))], .f2 41 (ai 4) (di 0)⟩
def relCx : Cx := { specs := [], anns := [(35, [(2, .ghost unfC [.tmp 0]), (3, .inv relInv), (9, .ghost fldC [.tmp 0])])] }
-- BEGIN VC rel
def relVc : VC := (.all 3 .int (.all 4 .int (.all 5 .int (.all 6 .rows (.all 7 .int (.all 8 .int (.all 9 .int (.imp (.f2 47 (.int 0) (.at .int 4)) (.imp (.f2 47 (.at
    .int 4) (.f1 32 (.at .rows 6))) (.imp (.f2 47 (.at .int 4) (.int 65534)) (.imp (.f2 47 (.at .int 4) (.at .int 5)) (.imp (.us .bool 41 (.at .rows 6)
    (.at .int 4) (.int 0) (.int 0)) (.imp (.f2 155 (.us .rows 21 (.at .g 1) (.int 0) (.int 0) (.int 0)) (.f2 115 (.at .rows 6) (.at .int 4))) (.need
    (.f2 155 (.at .rows 6) (.us .rows 30 (.at .rows 6) (.int 0) (.at .int 2) (.int 0))) (.need (.f2 45 (.int 0) (.us .int 31 (.at .rows 6) (.int 0)
    (.at .int 2) (.int 0))) (.all 10 .int (.all 11 .int (.all 12 .rows (.imp (.f2 47 (.int 0) (.at .int 10)) (.imp (.f2 47 (.at .int 10) (.at .int 4))
    (.imp (.f2 155 (.at .rows 12) (.us .rows 30 (.at .rows 6) (.at .int 10) (.at .int 2) (.int 0))) (.imp (.f2 45 (.at .int 11) (.us .int 31 (.at .rows
    6) (.at .int 10) (.at .int 2) (.int 0))) (.and (.imp (.f2 46 (.at .int 10) (.at .int 4)) (.need (.f2 46 (.at .int 10) (.f1 32 (.at .rows 12)))
    (.all 13 .int (.imp (.f2 47 (.int 0) (.at .int 13)) (.and (.imp (.f2 46 (.int 0) (.f3 112 (.at .rows 12) (.at .int 10) (.int 1))) (.and (.imp (.f2
    47 (.f3 112 (.at .rows 12) (.at .int 10) (.int 1)) (.at .int 2)) (.need (.f1 23 (.f2 40 (.at .int 11) (.int 1))) (.need (.f1 23 (.f2 40 (.at .int
    10) (.int 1))) (.need (.f2 47 (.int 0) (.f2 41 (.at .int 4) (.f2 40 (.at .int 10) (.int 1)))) (.need (.f2 46 (.f2 41 (.at .int 4) (.f2 40 (.at .int
    10) (.int 1))) (.f2 41 (.at .int 4) (.at .int 10))) (.need (.f2 47 (.int 0) (.f2 40 (.at .int 10) (.int 1))) (.need (.f2 47 (.f2 40 (.at .int 10)
    (.int 1)) (.at .int 4)) (.need (.f2 155 (.f3 132 (.at .rows 12) (.at .int 10) (.f2 122 (.f3 112 (.at .rows 12) (.at .int 10) (.int 0)) (.f2 122
    (.int 0) (.f1 152 (.int 0))))) (.us .rows 30 (.at .rows 6) (.f2 40 (.at .int 10) (.int 1)) (.at .int 2) (.int 0))) (.need (.f2 45 (.f2 40 (.at .int
    11) (.int 1)) (.us .int 31 (.at .rows 6) (.f2 40 (.at .int 10) (.int 1)) (.at .int 2) (.int 0))) .tt))))))))) (.imp (.f2 46 (.at .int 2) (.f3 112
    (.at .rows 12) (.at .int 10) (.int 1))) (.need (.f1 23 (.f2 40 (.at .int 10) (.int 1))) (.need (.f2 47 (.int 0) (.f2 41 (.at .int 4) (.f2 40 (.at
    .int 10) (.int 1)))) (.need (.f2 46 (.f2 41 (.at .int 4) (.f2 40 (.at .int 10) (.int 1))) (.f2 41 (.at .int 4) (.at .int 10))) (.need (.f2 47 (.int
    0) (.f2 40 (.at .int 10) (.int 1))) (.need (.f2 47 (.f2 40 (.at .int 10) (.int 1)) (.at .int 4)) (.need (.f2 155 (.at .rows 12) (.us .rows 30 (.at
    .rows 6) (.f2 40 (.at .int 10) (.int 1)) (.at .int 2) (.int 0))) (.need (.f2 45 (.at .int 11) (.us .int 31 (.at .rows 6) (.f2 40 (.at .int 10)
    (.int 1)) (.at .int 2) (.int 0))) .tt)))))))))) (.imp (.f2 47 (.f3 112 (.at .rows 12) (.at .int 10) (.int 1)) (.int 0)) (.need (.f1 23 (.f2 40 (.at
    .int 10) (.int 1))) (.need (.f2 47 (.int 0) (.f2 41 (.at .int 4) (.f2 40 (.at .int 10) (.int 1)))) (.need (.f2 46 (.f2 41 (.at .int 4) (.f2 40 (.at
    .int 10) (.int 1))) (.f2 41 (.at .int 4) (.at .int 10))) (.need (.f2 47 (.int 0) (.f2 40 (.at .int 10) (.int 1))) (.need (.f2 47 (.f2 40 (.at .int
    10) (.int 1)) (.at .int 4)) (.need (.f2 155 (.at .rows 12) (.us .rows 30 (.at .rows 6) (.f2 40 (.at .int 10) (.int 1)) (.at .int 2) (.int 0)))
    (.need (.f2 45 (.at .int 11) (.us .int 31 (.at .rows 6) (.f2 40 (.at .int 10) (.int 1)) (.at .int 2) (.int 0))) .tt))))))))))))) (.imp (.f2 47 (.at
    .int 4) (.at .int 10)) (.need (.f2 47 (.at .int 4) (.f1 32 (.at .rows 12))) (.need (.us .bool 41 (.at .rows 12) (.at .int 4) (.int 0) (.int 0))
    (.need (.f2 155 (.us .g 29 (.at .g 1) (.at .int 2) (.int 0) (.int 0)) (.us .g 22 (.at .g 1) (.at .rows 12) (.at .int 4) (.int 0))) (.need (.f2 45
    (.us .int 28 (.at .g 1) (.at .int 2) (.int 0) (.int 0)) (.at .int 11)) .tt))))))))))))))))))))))))))))
theorem rel_vc : vcOf Try.prog relCx 10 35 relCtr = relVc := by kernel_rfl
-- END VC rel
-- PROOFS
theorem rel_ok (S : Sig FL) (hS : FlSig S) (hu : GhOk S unfC) (hf : GhOk S fldC) : CtrOk S Try.prog 35 relCtr := by
  refine vcOf_sound S (C := relCx) (fuel := 10) (cx_of trivial ⟨⟨⟨by decide, hu⟩, trivial, ⟨by decide, hf⟩, trivial⟩, trivial⟩ trivial) fun ρ => ?_
  rw [rel_vc]
  simp only [relVc, hS.u21, hS.u22, hS.u28, hS.u29, hS.u30, hS.u31, hS.u41, VC.den, SX.den, co_int, co_bool, co_ints, co_rows, co_g, gOf_g, Env.upd, p155, p23, p45, p46, p47, ap1_2, ap1_32, ap1_152, ap2_40, ap2_41, ap2_42, ap2_45, ap2_115, ap2_118, ap2_121, ap2_122, ap2_127, ap3_112, ap3_132, U.toProp_bool, U.toBool_bool, Bool.not_eq_true', beq_eq_false_iff_ne, beq_iff_eq, ne_eq, i64lo, i64hi, U.toInt_int, U.toRows_rows, U.toInts_ints, Int.toNat_zero, toNat1, List.take_zero, Nat.reduceEqDiff, reduceIte, Int.reduceAdd, Int.reduceNeg, U.rows.injEq, U.g.injEq, U.bool.injEq]
  generalize gOf (U.co S .g (ρ 1)) = s
  generalize (ρ 2).toInt = old
  obtain ⟨e, m, last⟩ := s
  intro b n c R bm nm cm h1 h2 h3 h4 hg he
  simp only at he
  subst he
  have hg := goodB_iff.1 hg
  have nle := fun l => relN_le old l
  refine ⟨by simp, rfl, fun i k x j0 j1 hx hk => ⟨fun hi => ?_, fun hi => ?_⟩⟩
  · subst hx
    have hil : i.toNat < R.length := by omega
    have hk1 := nle (R.take i.toNat)
    rw [← hk, List.length_take] at hk1
    rw [upd_len, upd_nth hil]
    have e1 : (i + 1).toNat = i.toNat + 1 := by omega
    rw [e1, relN_step hil, ← hk]
    have hs := upd_step (f := relE old) hil
    have hq := upd_same (f := relE old) hil
    generalize hr : R.getD i.toNat [] = r at *
    have hT : 0 < r.getD 1 0 → r.getD 1 0 ≤ old → relT old r = true := fun a b => by unfold relT; rw [decide_eq_true a, decide_eq_true b]; rfl
    have hF1 : r.getD 1 0 ≤ 0 → relT old r = false := fun a => by unfold relT; rw [decide_eq_false (by omega)]; rfl
    have hF2 : old < r.getD 1 0 → relT old r = false := fun a => by unfold relT; rw [decide_eq_false (p := r.getD 1 0 ≤ old) (by omega), Bool.and_false]
    have eT : relT old r = true → relE old r = [r.getD 0 0, 0] := fun a => by unfold relE; rw [if_pos a]
    have eF : relT old r = false → relE old r = r := fun a => by unfold relE; rw [a]; rfl
    repeat' (first | apply And.intro | intro)
    all_goals first | omega | trivial | skip
    · rename_i a b; rw [← hs, eT (hT a b)]
    · rename_i a b; rw [if_pos (hT a b)]
    · rename_i a b; exact hq (eF (hF2 b))
    · rename_i a b; rw [hF2 b]; simp
    · rename_i a; exact hq (eF (hF1 a))
    · rename_i a; rw [hF1 a]; simp
  · have : i = n := by omega
    subst this
    subst hx
    rw [upd_len, goodB_iff, upd_end (by omega)]
    exact ⟨h2, hg.rel old, rfl, hk.symm, trivial⟩
end
end Go.Proofs.Ytmjonggabppgaaa

/- A list's marks: Mark, Back; a law's call. -/
set_option linter.unusedSimpArgs false
set_option linter.unusedVariables false
namespace Go.Proofs.Ytmjonggabppgaaa
noncomputable section
open Go.Eng
def cloCtr : Ctr := ⟨[.int, .rows, .int, .int], [.one (slC (ai 0) (ai 2) (ai 3) 2)], [.arr enT (ai 0) (rA 1) (ai 3)], [eLe (.int 0) (ai 2), eLe (ai 2) (.f1 32 (rA 1)), eLe (ai 2) (.int 65534), eLe (ai 2) (ai 3)], [.int, .int, .rows],
  .one (slC (ai 4) (ai 2) (ai 5) 2), [.arr enT (ai 0) (rA 1) (ai 3), .arr enT (ai 4) (rA 6) (ai 5)], [eLe (ai 2) (.f1 32 (rA 6)), eqS (tk (rA 6) (ai 2)) (tk (rA 1) (ai 2))]⟩
def cloCx : Cx := { specs := [], anns := [(58, [(1, .ghost nnC [.tmp 0])])] }
def ixmCtr : Ctr := ⟨[.int, .rows, .int, .int, .int, .int], [.one (slC (ai 0) (ai 2) (ai 3) 2), .one (.cap (.fn 81) (.ptr (ai 4) 0))], [.arr mkT (ai 0) (rA 1) (ai 3), .cel (ai 4) 0 [.int .i64 (ai 5)]],
  [eLe (.int 0) (ai 2), eLe (ai 2) (.f1 32 (rA 1)), eLe (ai 2) (.int 1000000), eLe (.int 0) (ai 4)], [], .one (.int .i64 (usI 64 (rA 1) (ai 2) (ai 5))), [.arr mkT (ai 0) (rA 1) (ai 3), .cel (ai 4) 0 [.int .i64 (ai 5)]], []⟩
def ixmInv : Inv := ⟨[.int], [(8, .one (.int .i64 (di 0)))], [], [eLe (.int 0) (di 0), eLe (di 0) (ai 2), eEq (usI 64 (rA 1) (di 0) (ai 5)) (.int (-1))], .f2 41 (ai 2) (di 0)⟩
def ixmCx : Cx := { specs := [], anns := [(80, [(2, .inv ixmInv)])] }
def lastX : SX := usI 20 (gA 1) z0 z0
def LX : SX := SX.mk2 40 lastX (.int 1)
def contX : SX := .f2 121 (tk (rA 9) (ai 7)) (.f2 124 (.f2 122 LX (.f2 122 (ai 10) (.f2 122 (ai 3) (one1 (ai 11))))) nilR)
def markCtr : Ctr := ⟨[.int, .g], [.one (.ptr (ai 0) 0)], [freeC (ai 0) (gA 1)], [eLe (.int 0) lastX, eLe lastX (.int 4611686018427387904), eLe (usI 71 (gA 1) z0 z0) (.int 1000000)], [], .one (.int .i64 (usI 63 (gA 1) z0 z0)), [freeC (ai 0) (usG 62 (gA 1) z0 z0)], []⟩
def markInv : Inv := ⟨[.int], [(3, .one (.int .i64 (di 0)))], [], [eLe (.int 0) (di 0), eLe (di 0) (usI 58 contX LX z0)], .f2 41 (SX.mk2 40 (ai 7) (.int 1)) (di 0)⟩
def markCx : Cx := { specs := [(58, [cloCtr])], anns := [(37, [(1, .ghost unfC [.tmp 0]), (1, .ghost unmC []), (3, .ghost psC [.tmp 25, .tmp 20]), (4, .inv markInv), (999999, .ghost drC [.tmp 3]), (999999, .ghost shmC [.tmp 70]), (999999, .ghost fldC [.tmp 0])])] }
def backCtr : Ctr := ⟨[.int, .g, .int], [.one (.ptr (ai 0) 0), .one (.int .i64 (ai 2))], [freeC (ai 0) (gA 1)], [eLe (usI 71 (gA 1) z0 z0) (.int 1000000)], [], .one (.int .i64 (usI 69 (gA 1) (ai 2) z0)), [freeC (ai 0) (usG 68 (gA 1) (ai 2) z0)], []⟩
def backCx : Cx := { specs := [(58, [cloCtr]), (80, [ixmCtr])], anns := [(38, [(1, .ghost unfC [.tmp 0]), (1, .ghost unmC []), (3, .ghost shmC [.tmp 9]), (3, .ghost fldC [.tmp 0]), (4, .ghost toC [.tmp 5]), (5, .ghost pbC []), (7, .ghost ftC [.tmp 5]), (7, .ghost shmC [.tmp 40]), (7, .ghost fldC [.tmp 0])])] }
def actCtr : Ctr := ⟨[.int, .g, .int, .int, .int], [.one (.ptr (ai 0) 0), .agg [.int .i64 (ai 2), .int .i64 (ai 3), .int .i64 (ai 4)]], [freeC (ai 0) (gA 1)], [eLe (.int 0) lastX, eLe lastX (.int 4611686018427387904), eLe (usI 71 (gA 1) z0 z0) (.int 1000000)], [],
  .one (.int .i64 (.us .int 72 (gA 1) (ai 2) (ai 3) (ai 4))), [freeC (ai 0) (.us .g 73 (gA 1) (ai 2) (ai 3) (ai 4))], []⟩
def actCx : Cx := { specs := [(33, [takeCtr]), (34, [giveCtr]), (35, [relCtr]), (37, [markCtr])], anns := [] }
-- BEGIN VC clo
def cloVc : VC := (.imp (.f2 47 (.int 0) (.at .int 2)) (.imp (.f2 47 (.at .int 2) (.f1 32 (.at .rows 1))) (.imp (.f2 47 (.at .int 2) (.int 65534)) (.imp (.f2 47 (.at
    .int 2) (.at .int 3)) (.imp (.f2 50 (.f2 47 (.int 0) (.at .int 0)) (.f2 45 (.f1 32 (.at .rows 1)) (.int 0))) (.and (.imp (.f2 46 (.at .int 0) (.int
    0)) (.need (.f2 47 (.at .int 2) (.int 0)) (.need (.f2 155 (.f2 115 (.f1 154 (.int 0)) (.at .int 2)) (.f2 115 (.at .rows 1) (.at .int 2))) (.need
    (.f2 45 (.at .int 2) (.int 0)) .tt)))) (.imp (.f2 47 (.int 0) (.at .int 0)) (.all 4 .int (.imp (.f2 47 (.int 0) (.at .int 4)) (.need (.f2 47 (.f2
    42 (.at .int 2) (.int 16)) (.int 140737488355328)) (.all 5 .int (.all 6 .int (.imp (.f2 47 (.at .int 2) (.at .int 6)) (.imp (.f2 50 (.f2 47 (.int
    0) (.at .int 5)) (.f2 45 (.at .int 2) (.int 0))) (.need (.f2 47 (.at .int 2) (.f1 32 (.f2 115 (.at .rows 1) (.at .int 2)))) (.need (.f2 155 (.f2
    115 (.f2 115 (.at .rows 1) (.at .int 2)) (.at .int 2)) (.f2 115 (.at .rows 1) (.at .int 2))) .tt))))))))))))))))
theorem clo_vc : vcOf Try.prog cloCx 10 58 cloCtr = cloVc := by kernel_rfl
-- END VC clo
-- BEGIN VC ixm
def ixmVc : VC := (.imp (.f2 47 (.int 0) (.at .int 2)) (.imp (.f2 47 (.at .int 2) (.f1 32 (.at .rows 1))) (.imp (.f2 47 (.at .int 2) (.int 1000000)) (.imp (.f2 47 (.int
    0) (.at .int 4)) (.need (.f2 45 (.us .int 64 (.at .rows 1) (.int 0) (.at .int 5) (.int 0)) (.int (-(0 + 1)))) (.all 6 .int (.imp (.f2 47 (.int 0)
    (.at .int 6)) (.imp (.f2 47 (.at .int 6) (.at .int 2)) (.imp (.f2 45 (.us .int 64 (.at .rows 1) (.at .int 6) (.at .int 5) (.int 0)) (.int (-(0 +
    1)))) (.and (.imp (.f2 46 (.at .int 6) (.at .int 2)) (.need (.f2 46 (.at .int 6) (.f1 32 (.at .rows 1))) (.all 7 .int (.imp (.f2 47 (.int 0) (.at
    .int 7)) (.and (.imp (.f2 45 (.f3 112 (.at .rows 1) (.at .int 6) (.int 0)) (.at .int 5)) (.need (.f2 45 (.us .int 64 (.at .rows 1) (.at .int 2)
    (.at .int 5) (.int 0)) (.at .int 6)) .tt)) (.imp (.f1 2 (.f2 45 (.f3 112 (.at .rows 1) (.at .int 6) (.int 0)) (.at .int 5))) (.need (.f1 23 (.f2 40
    (.at .int 6) (.int 1))) (.need (.f2 47 (.int 0) (.f2 41 (.at .int 2) (.f2 40 (.at .int 6) (.int 1)))) (.need (.f2 46 (.f2 41 (.at .int 2) (.f2 40
    (.at .int 6) (.int 1))) (.f2 41 (.at .int 2) (.at .int 6))) (.need (.f2 47 (.int 0) (.f2 40 (.at .int 6) (.int 1))) (.need (.f2 47 (.f2 40 (.at
    .int 6) (.int 1)) (.at .int 2)) (.need (.f2 45 (.us .int 64 (.at .rows 1) (.f2 40 (.at .int 6) (.int 1)) (.at .int 5) (.int 0)) (.int (-(0 + 1))))
    .tt)))))))))))) (.imp (.f2 47 (.at .int 2) (.at .int 6)) (.need (.f2 45 (.us .int 64 (.at .rows 1) (.at .int 2) (.at .int 5) (.int 0)) (.int (-(0 +
    1)))) .tt))))))))))))
theorem ixm_vc : vcOf Try.prog ixmCx 10 80 ixmCtr = ixmVc := by kernel_rfl
-- END VC ixm
-- BEGIN VC mark
def markVc : VC := (.imp (.f2 47 (.int 0) (.us .int 20 (.at .g 1) (.int 0) (.int 0) (.int 0))) (.imp (.f2 47 (.us .int 20 (.at .g 1) (.int 0) (.int 0) (.int 0)) (.int
    4611686018427387904)) (.imp (.f2 47 (.us .int 71 (.at .g 1) (.int 0) (.int 0) (.int 0)) (.int 1000000)) (.all 2 .int (.all 3 .int (.all 4 .int
    (.all 5 .rows (.all 6 .int (.all 7 .int (.all 8 .int (.imp (.f2 47 (.int 0) (.at .int 3)) (.imp (.f2 47 (.at .int 3) (.f1 32 (.at .rows 5))) (.imp
    (.f2 47 (.at .int 3) (.int 65534)) (.imp (.f2 47 (.at .int 3) (.at .int 4)) (.imp (.us .bool 41 (.at .rows 5) (.at .int 3) (.int 0) (.int 0)) (.imp
    (.f2 155 (.us .rows 21 (.at .g 1) (.int 0) (.int 0) (.int 0)) (.f2 115 (.at .rows 5) (.at .int 3))) (.all 9 .rows (.imp (.f2 47 (.int 0) (.at .int
    7)) (.imp (.f2 47 (.at .int 7) (.f1 32 (.at .rows 9))) (.imp (.f2 47 (.at .int 7) (.at .int 8)) (.imp (.us .bool 67 (.at .rows 9) (.at .int 7) (.at
    .g 1) (.int 0)) (.imp (.f2 45 (.at .int 7) (.us .int 71 (.at .g 1) (.int 0) (.int 0) (.int 0))) (.need (.f1 23 (.f2 40 (.us .int 20 (.at .g 1)
    (.int 0) (.int 0) (.int 0)) (.int 1))) (.all 10 .int (.all 11 .int (.all 12 .rows (.imp (.f2 47 (.at .int 3) (.f1 32 (.at .rows 12))) (.imp (.f2
    155 (.f2 115 (.at .rows 12) (.at .int 3)) (.f2 115 (.at .rows 5) (.at .int 3))) (.all 13 .int (.imp (.f2 47 (.int 0) (.at .int 13)) (.need (.f2 47
    (.f2 42 (.f2 40 (.at .int 7) (.int 1)) (.int 32)) (.int 140737488355328)) (.all 14 .int (.all 15 .int (.imp (.f2 47 (.f2 40 (.at .int 7) (.int 1))
    (.at .int 15)) (.imp (.f2 50 (.f2 47 (.int 0) (.at .int 14)) (.f2 45 (.f2 40 (.at .int 7) (.int 1)) (.int 0))) (.need (.us .bool 41 (.at .rows 12)
    (.at .int 3) (.int 0) (.int 0)) (.need (.f2 47 (.int 0) (.us .int 58 (.f2 121 (.f2 115 (.at .rows 9) (.at .int 7)) (.f2 124 (.f2 122 (.f2 40 (.us
    .int 20 (.at .g 1) (.int 0) (.int 0) (.int 0)) (.int 1)) (.f2 122 (.at .int 10) (.f2 122 (.at .int 3) (.f2 122 (.at .int 11) (.f1 152 (.int 0))))))
    (.f1 154 (.int 0)))) (.f2 40 (.us .int 20 (.at .g 1) (.int 0) (.int 0) (.int 0)) (.int 1)) (.int 0) (.int 0))) (.all 16 .int (.imp (.f2 47 (.int 0)
    (.at .int 16)) (.imp (.f2 47 (.at .int 16) (.us .int 58 (.f2 121 (.f2 115 (.at .rows 9) (.at .int 7)) (.f2 124 (.f2 122 (.f2 40 (.us .int 20 (.at
    .g 1) (.int 0) (.int 0) (.int 0)) (.int 1)) (.f2 122 (.at .int 10) (.f2 122 (.at .int 3) (.f2 122 (.at .int 11) (.f1 152 (.int 0)))))) (.f1 154
    (.int 0)))) (.f2 40 (.us .int 20 (.at .g 1) (.int 0) (.int 0) (.int 0)) (.int 1)) (.int 0) (.int 0))) (.need (.f2 46 (.at .int 16) (.f2 40 (.at
    .int 7) (.int 1))) (.need (.f2 46 (.at .int 16) (.f2 40 (.f1 32 (.f2 115 (.at .rows 9) (.at .int 7))) (.int 1))) (.need (.f1 23 (.f2 40 (.us .int
    20 (.at .g 1) (.int 0) (.int 0) (.int 0)) (.int (-(14 + 1))))) (.and (.imp (.f2 47 (.f3 112 (.f2 121 (.f2 115 (.at .rows 9) (.at .int 7)) (.f2 124
    (.f2 122 (.f2 40 (.us .int 20 (.at .g 1) (.int 0) (.int 0) (.int 0)) (.int 1)) (.f2 122 (.at .int 10) (.f2 122 (.at .int 3) (.f2 122 (.at .int 11)
    (.f1 152 (.int 0)))))) (.f1 154 (.int 0)))) (.at .int 16) (.int 0)) (.f2 40 (.us .int 20 (.at .g 1) (.int 0) (.int 0) (.int 0)) (.int (-(14 +
    1))))) (.need (.f1 23 (.f2 40 (.at .int 16) (.int 1))) (.need (.f2 47 (.int 0) (.f2 41 (.f2 40 (.at .int 7) (.int 1)) (.f2 40 (.at .int 16) (.int
    1)))) (.need (.f2 46 (.f2 41 (.f2 40 (.at .int 7) (.int 1)) (.f2 40 (.at .int 16) (.int 1))) (.f2 41 (.f2 40 (.at .int 7) (.int 1)) (.at .int 16)))
    (.need (.f2 47 (.int 0) (.f2 40 (.at .int 16) (.int 1))) (.need (.f2 47 (.f2 40 (.at .int 16) (.int 1)) (.us .int 58 (.f2 121 (.f2 115 (.at .rows
    9) (.at .int 7)) (.f2 124 (.f2 122 (.f2 40 (.us .int 20 (.at .g 1) (.int 0) (.int 0) (.int 0)) (.int 1)) (.f2 122 (.at .int 10) (.f2 122 (.at .int
    3) (.f2 122 (.at .int 11) (.f1 152 (.int 0)))))) (.f1 154 (.int 0)))) (.f2 40 (.us .int 20 (.at .g 1) (.int 0) (.int 0) (.int 0)) (.int 1)) (.int
    0) (.int 0))) .tt)))))) (.imp (.f2 46 (.f2 40 (.us .int 20 (.at .g 1) (.int 0) (.int 0) (.int 0)) (.int (-(14 + 1)))) (.f3 112 (.f2 121 (.f2 115
    (.at .rows 9) (.at .int 7)) (.f2 124 (.f2 122 (.f2 40 (.us .int 20 (.at .g 1) (.int 0) (.int 0) (.int 0)) (.int 1)) (.f2 122 (.at .int 10) (.f2 122
    (.at .int 3) (.f2 122 (.at .int 11) (.f1 152 (.int 0)))))) (.f1 154 (.int 0)))) (.at .int 16) (.int 0))) (.need (.f2 47 (.int 0) (.f2 40 (.at .int
    7) (.int 1))) (.need (.f2 47 (.int 0) (.at .int 15)) (.need (.f2 47 (.at .int 16) (.f2 40 (.at .int 7) (.int 1))) (.need (.f2 47 (.int 0) (.f2 40
    (.f1 32 (.f2 115 (.at .rows 9) (.at .int 7))) (.int 1))) (.need (.f2 47 (.int 0) (.f2 41 (.f2 40 (.at .int 7) (.int 1)) (.at .int 16))) (.need (.f2
    47 (.f2 41 (.f2 40 (.at .int 7) (.int 1)) (.at .int 16)) (.f2 41 (.at .int 15) (.at .int 16))) (.need (.f2 47 (.f2 40 (.at .int 16) (.f2 51 (.f2 41
    (.f2 40 (.at .int 7) (.int 1)) (.at .int 16)) (.f2 40 (.at .int 7) (.int 1)))) (.f2 40 (.f1 32 (.f2 115 (.at .rows 9) (.at .int 7))) (.int 1)))
    (.need (.f2 47 (.int 0) (.f2 51 (.f2 41 (.f2 40 (.at .int 7) (.int 1)) (.at .int 16)) (.f2 40 (.at .int 7) (.int 1)))) (.need (.f2 47 (.f2 51 (.f2
    41 (.f2 40 (.at .int 7) (.int 1)) (.at .int 16)) (.f2 40 (.at .int 7) (.int 1))) (.f2 40 (.at .int 7) (.int 1))) (.need (.f2 47 (.int 0) (.f2 41
    (.f2 40 (.at .int 7) (.int 1)) (.f2 51 (.f2 41 (.f2 40 (.at .int 7) (.int 1)) (.at .int 16)) (.f2 40 (.at .int 7) (.int 1))))) (.need (.f2 47 (.f2
    41 (.f2 40 (.at .int 7) (.int 1)) (.f2 51 (.f2 41 (.f2 40 (.at .int 7) (.int 1)) (.at .int 16)) (.f2 40 (.at .int 7) (.int 1)))) (.f2 41 (.at .int
    15) (.f2 51 (.f2 41 (.f2 40 (.at .int 7) (.int 1)) (.at .int 16)) (.f2 40 (.at .int 7) (.int 1))))) (.need (.f2 47 (.f2 40 (.f2 51 (.f2 41 (.f2 40
    (.at .int 7) (.int 1)) (.at .int 16)) (.f2 40 (.at .int 7) (.int 1))) (.f2 41 (.f2 40 (.at .int 7) (.int 1)) (.f2 51 (.f2 41 (.f2 40 (.at .int 7)
    (.int 1)) (.at .int 16)) (.f2 40 (.at .int 7) (.int 1))))) (.f2 40 (.f1 32 (.f2 115 (.f2 121 (.f2 115 (.at .rows 9) (.at .int 7)) (.f2 124 (.f2 122
    (.f2 40 (.us .int 20 (.at .g 1) (.int 0) (.int 0) (.int 0)) (.int 1)) (.f2 122 (.at .int 10) (.f2 122 (.at .int 3) (.f2 122 (.at .int 11) (.f1 152
    (.int 0)))))) (.f1 154 (.int 0)))) (.int 0))) (.f2 40 (.f1 32 (.f2 115 (.f2 115 (.f2 118 (.f2 121 (.f2 115 (.at .rows 9) (.at .int 7)) (.f2 124
    (.f2 122 (.f2 40 (.us .int 20 (.at .g 1) (.int 0) (.int 0) (.int 0)) (.int 1)) (.f2 122 (.at .int 10) (.f2 122 (.at .int 3) (.f2 122 (.at .int 11)
    (.f1 152 (.int 0)))))) (.f1 154 (.int 0)))) (.at .int 16)) (.f2 51 (.f2 41 (.f2 40 (.at .int 7) (.int 1)) (.at .int 16)) (.f2 40 (.at .int 7) (.int
    1)))) (.f2 51 (.f2 41 (.f2 40 (.at .int 7) (.int 1)) (.at .int 16)) (.f2 40 (.at .int 7) (.int 1))))) (.f1 32 (.f2 118 (.f2 121 (.f2 115 (.at .rows
    9) (.at .int 7)) (.f2 124 (.f2 122 (.f2 40 (.us .int 20 (.at .g 1) (.int 0) (.int 0) (.int 0)) (.int 1)) (.f2 122 (.at .int 10) (.f2 122 (.at .int
    3) (.f2 122 (.at .int 11) (.f1 152 (.int 0)))))) (.f1 154 (.int 0)))) (.f2 51 (.f2 41 (.f2 40 (.at .int 7) (.int 1)) (.at .int 16)) (.f2 40 (.at
    .int 7) (.int 1)))))))) (.need (.f2 47 (.f2 51 (.f2 41 (.f2 40 (.at .int 7) (.int 1)) (.at .int 16)) (.f2 40 (.at .int 7) (.int 1))) (.at .int 15))
    (.need (.f2 47 (.f2 40 (.at .int 7) (.int 1)) (.f2 40 (.f1 32 (.f2 115 (.at .rows 9) (.at .int 7))) (.int 1))) (.need (.f2 47 (.f2 51 (.f2 41 (.f2
    40 (.at .int 7) (.int 1)) (.at .int 16)) (.f2 40 (.at .int 7) (.int 1))) (.f2 40 (.f1 32 (.f2 115 (.f2 121 (.f2 115 (.f2 121 (.f2 115 (.at .rows 9)
    (.at .int 7)) (.f2 124 (.f2 122 (.f2 40 (.us .int 20 (.at .g 1) (.int 0) (.int 0) (.int 0)) (.int 1)) (.f2 122 (.at .int 10) (.f2 122 (.at .int 3)
    (.f2 122 (.at .int 11) (.f1 152 (.int 0)))))) (.f1 154 (.int 0)))) (.int 0)) (.f2 121 (.f2 115 (.f2 115 (.f2 118 (.f2 121 (.f2 115 (.at .rows 9)
    (.at .int 7)) (.f2 124 (.f2 122 (.f2 40 (.us .int 20 (.at .g 1) (.int 0) (.int 0) (.int 0)) (.int 1)) (.f2 122 (.at .int 10) (.f2 122 (.at .int 3)
    (.f2 122 (.at .int 11) (.f1 152 (.int 0)))))) (.f1 154 (.int 0)))) (.at .int 16)) (.f2 51 (.f2 41 (.f2 40 (.at .int 7) (.int 1)) (.at .int 16))
    (.f2 40 (.at .int 7) (.int 1)))) (.f2 51 (.f2 41 (.f2 40 (.at .int 7) (.int 1)) (.at .int 16)) (.f2 40 (.at .int 7) (.int 1)))) (.f2 118 (.f2 121
    (.f2 115 (.at .rows 9) (.at .int 7)) (.f2 124 (.f2 122 (.f2 40 (.us .int 20 (.at .g 1) (.int 0) (.int 0) (.int 0)) (.int 1)) (.f2 122 (.at .int 10)
    (.f2 122 (.at .int 3) (.f2 122 (.at .int 11) (.f1 152 (.int 0)))))) (.f1 154 (.int 0)))) (.f2 51 (.f2 41 (.f2 40 (.at .int 7) (.int 1)) (.at .int
    16)) (.f2 40 (.at .int 7) (.int 1)))))) (.f2 51 (.f2 41 (.f2 40 (.at .int 7) (.int 1)) (.at .int 16)) (.f2 40 (.at .int 7) (.int 1))))) (.f2 40
    (.f1 32 (.f2 127 (.f2 41 (.f2 40 (.at .int 7) (.int 1)) (.f2 51 (.f2 41 (.f2 40 (.at .int 7) (.int 1)) (.at .int 16)) (.f2 40 (.at .int 7) (.int
    1)))) (.f2 122 (.int 0) (.f2 122 (.int (-(0 + 1))) (.f2 122 (.int 0) (.f2 122 (.int 0) (.f1 152 (.int 0)))))))) (.f1 32 (.f2 118 (.f2 121 (.f2 115
    (.f2 121 (.f2 115 (.at .rows 9) (.at .int 7)) (.f2 124 (.f2 122 (.f2 40 (.us .int 20 (.at .g 1) (.int 0) (.int 0) (.int 0)) (.int 1)) (.f2 122 (.at
    .int 10) (.f2 122 (.at .int 3) (.f2 122 (.at .int 11) (.f1 152 (.int 0)))))) (.f1 154 (.int 0)))) (.int 0)) (.f2 121 (.f2 115 (.f2 115 (.f2 118
    (.f2 121 (.f2 115 (.at .rows 9) (.at .int 7)) (.f2 124 (.f2 122 (.f2 40 (.us .int 20 (.at .g 1) (.int 0) (.int 0) (.int 0)) (.int 1)) (.f2 122 (.at
    .int 10) (.f2 122 (.at .int 3) (.f2 122 (.at .int 11) (.f1 152 (.int 0)))))) (.f1 154 (.int 0)))) (.at .int 16)) (.f2 51 (.f2 41 (.f2 40 (.at .int
    7) (.int 1)) (.at .int 16)) (.f2 40 (.at .int 7) (.int 1)))) (.f2 51 (.f2 41 (.f2 40 (.at .int 7) (.int 1)) (.at .int 16)) (.f2 40 (.at .int 7)
    (.int 1)))) (.f2 118 (.f2 121 (.f2 115 (.at .rows 9) (.at .int 7)) (.f2 124 (.f2 122 (.f2 40 (.us .int 20 (.at .g 1) (.int 0) (.int 0) (.int 0))
    (.int 1)) (.f2 122 (.at .int 10) (.f2 122 (.at .int 3) (.f2 122 (.at .int 11) (.f1 152 (.int 0)))))) (.f1 154 (.int 0)))) (.f2 51 (.f2 41 (.f2 40
    (.at .int 7) (.int 1)) (.at .int 16)) (.f2 40 (.at .int 7) (.int 1)))))) (.f2 40 (.f2 51 (.f2 41 (.f2 40 (.at .int 7) (.int 1)) (.at .int 16)) (.f2
    40 (.at .int 7) (.int 1))) (.f2 41 (.f2 40 (.at .int 7) (.int 1)) (.f2 51 (.f2 41 (.f2 40 (.at .int 7) (.int 1)) (.at .int 16)) (.f2 40 (.at .int
    7) (.int 1)))))))))) (.need (.f2 155 (.f2 115 (.f2 121 (.f2 115 (.f2 121 (.f2 115 (.f2 121 (.f2 115 (.at .rows 9) (.at .int 7)) (.f2 124 (.f2 122
    (.f2 40 (.us .int 20 (.at .g 1) (.int 0) (.int 0) (.int 0)) (.int 1)) (.f2 122 (.at .int 10) (.f2 122 (.at .int 3) (.f2 122 (.at .int 11) (.f1 152
    (.int 0)))))) (.f1 154 (.int 0)))) (.int 0)) (.f2 121 (.f2 115 (.f2 115 (.f2 118 (.f2 121 (.f2 115 (.at .rows 9) (.at .int 7)) (.f2 124 (.f2 122
    (.f2 40 (.us .int 20 (.at .g 1) (.int 0) (.int 0) (.int 0)) (.int 1)) (.f2 122 (.at .int 10) (.f2 122 (.at .int 3) (.f2 122 (.at .int 11) (.f1 152
    (.int 0)))))) (.f1 154 (.int 0)))) (.at .int 16)) (.f2 51 (.f2 41 (.f2 40 (.at .int 7) (.int 1)) (.at .int 16)) (.f2 40 (.at .int 7) (.int 1))))
    (.f2 51 (.f2 41 (.f2 40 (.at .int 7) (.int 1)) (.at .int 16)) (.f2 40 (.at .int 7) (.int 1)))) (.f2 118 (.f2 121 (.f2 115 (.at .rows 9) (.at .int
    7)) (.f2 124 (.f2 122 (.f2 40 (.us .int 20 (.at .g 1) (.int 0) (.int 0) (.int 0)) (.int 1)) (.f2 122 (.at .int 10) (.f2 122 (.at .int 3) (.f2 122
    (.at .int 11) (.f1 152 (.int 0)))))) (.f1 154 (.int 0)))) (.f2 51 (.f2 41 (.f2 40 (.at .int 7) (.int 1)) (.at .int 16)) (.f2 40 (.at .int 7) (.int
    1)))))) (.f2 51 (.f2 41 (.f2 40 (.at .int 7) (.int 1)) (.at .int 16)) (.f2 40 (.at .int 7) (.int 1)))) (.f2 121 (.f2 127 (.f2 41 (.f2 40 (.at .int
    7) (.int 1)) (.f2 51 (.f2 41 (.f2 40 (.at .int 7) (.int 1)) (.at .int 16)) (.f2 40 (.at .int 7) (.int 1)))) (.f2 122 (.int 0) (.f2 122 (.int (-(0 +
    1))) (.f2 122 (.int 0) (.f2 122 (.int 0) (.f1 152 (.int 0))))))) (.f2 118 (.f2 121 (.f2 115 (.f2 121 (.f2 115 (.at .rows 9) (.at .int 7)) (.f2 124
    (.f2 122 (.f2 40 (.us .int 20 (.at .g 1) (.int 0) (.int 0) (.int 0)) (.int 1)) (.f2 122 (.at .int 10) (.f2 122 (.at .int 3) (.f2 122 (.at .int 11)
    (.f1 152 (.int 0)))))) (.f1 154 (.int 0)))) (.int 0)) (.f2 121 (.f2 115 (.f2 115 (.f2 118 (.f2 121 (.f2 115 (.at .rows 9) (.at .int 7)) (.f2 124
    (.f2 122 (.f2 40 (.us .int 20 (.at .g 1) (.int 0) (.int 0) (.int 0)) (.int 1)) (.f2 122 (.at .int 10) (.f2 122 (.at .int 3) (.f2 122 (.at .int 11)
    (.f1 152 (.int 0)))))) (.f1 154 (.int 0)))) (.at .int 16)) (.f2 51 (.f2 41 (.f2 40 (.at .int 7) (.int 1)) (.at .int 16)) (.f2 40 (.at .int 7) (.int
    1)))) (.f2 51 (.f2 41 (.f2 40 (.at .int 7) (.int 1)) (.at .int 16)) (.f2 40 (.at .int 7) (.int 1)))) (.f2 118 (.f2 121 (.f2 115 (.at .rows 9) (.at
    .int 7)) (.f2 124 (.f2 122 (.f2 40 (.us .int 20 (.at .g 1) (.int 0) (.int 0) (.int 0)) (.int 1)) (.f2 122 (.at .int 10) (.f2 122 (.at .int 3) (.f2
    122 (.at .int 11) (.f1 152 (.int 0)))))) (.f1 154 (.int 0)))) (.f2 51 (.f2 41 (.f2 40 (.at .int 7) (.int 1)) (.at .int 16)) (.f2 40 (.at .int 7)
    (.int 1)))))) (.f2 40 (.f2 51 (.f2 41 (.f2 40 (.at .int 7) (.int 1)) (.at .int 16)) (.f2 40 (.at .int 7) (.int 1))) (.f2 41 (.f2 40 (.at .int 7)
    (.int 1)) (.f2 51 (.f2 41 (.f2 40 (.at .int 7) (.int 1)) (.at .int 16)) (.f2 40 (.at .int 7) (.int 1)))))))) (.f2 51 (.f2 41 (.f2 40 (.at .int 7)
    (.int 1)) (.at .int 16)) (.f2 40 (.at .int 7) (.int 1)))) (.f2 115 (.f2 118 (.f2 121 (.f2 115 (.at .rows 9) (.at .int 7)) (.f2 124 (.f2 122 (.f2 40
    (.us .int 20 (.at .g 1) (.int 0) (.int 0) (.int 0)) (.int 1)) (.f2 122 (.at .int 10) (.f2 122 (.at .int 3) (.f2 122 (.at .int 11) (.f1 152 (.int
    0)))))) (.f1 154 (.int 0)))) (.at .int 16)) (.f2 41 (.f2 40 (.at .int 7) (.int 1)) (.at .int 16)))) (.need (.f2 45 (.us .int 20 (.us .g 61 (.us .g
    57 (.at .g 1) (.f2 40 (.us .int 20 (.at .g 1) (.int 0) (.int 0) (.int 0)) (.int 1)) (.at .rows 12) (.at .int 3)) (.at .int 16) (.int 0) (.int 0))
    (.int 0) (.int 0) (.int 0)) (.f2 40 (.us .int 20 (.at .g 1) (.int 0) (.int 0) (.int 0)) (.int 1))) (.need (.f2 155 (.us .g 62 (.at .g 1) (.int 0)
    (.int 0) (.int 0)) (.us .g 22 (.us .g 61 (.us .g 57 (.at .g 1) (.f2 40 (.us .int 20 (.at .g 1) (.int 0) (.int 0) (.int 0)) (.int 1)) (.at .rows 12)
    (.at .int 3)) (.at .int 16) (.int 0) (.int 0)) (.at .rows 5) (.at .int 3) (.int 0))) (.need (.f2 45 (.us .int 63 (.at .g 1) (.int 0) (.int 0) (.int
    0)) (.f2 40 (.us .int 20 (.at .g 1) (.int 0) (.int 0) (.int 0)) (.int 1))) .tt))))))))))))))))))))))))))))))))))))))))))))))))))))))))))))))))
theorem mark_vc : vcOf Try.prog markCx 10 37 markCtr = markVc := by kernel_rfl
-- END VC mark
-- BEGIN VC back
def backVc : VC := (.imp (.f2 47 (.us .int 71 (.at .g 1) (.int 0) (.int 0) (.int 0)) (.int 1000000)) (.all 3 .int (.imp (.f2 47 (.int 0) (.at .int 3)) (.all 4 .int (.all
    5 .int (.all 6 .int (.all 7 .rows (.all 8 .int (.all 9 .int (.all 10 .int (.imp (.f2 47 (.int 0) (.at .int 5)) (.imp (.f2 47 (.at .int 5) (.f1 32
    (.at .rows 7))) (.imp (.f2 47 (.at .int 5) (.int 65534)) (.imp (.f2 47 (.at .int 5) (.at .int 6)) (.imp (.us .bool 41 (.at .rows 7) (.at .int 5)
    (.int 0) (.int 0)) (.imp (.f2 155 (.us .rows 21 (.at .g 1) (.int 0) (.int 0) (.int 0)) (.f2 115 (.at .rows 7) (.at .int 5))) (.all 11 .rows (.imp
    (.f2 47 (.int 0) (.at .int 9)) (.imp (.f2 47 (.at .int 9) (.f1 32 (.at .rows 11))) (.imp (.f2 47 (.at .int 9) (.at .int 10)) (.imp (.us .bool 67
    (.at .rows 11) (.at .int 9) (.at .g 1) (.int 0)) (.imp (.f2 45 (.at .int 9) (.us .int 71 (.at .g 1) (.int 0) (.int 0) (.int 0))) (.need (.f2 47
    (.at .int 9) (.int 1000000)) (.and (.imp (.f2 46 (.us .int 64 (.at .rows 11) (.at .int 9) (.at .int 2) (.int 0)) (.int 0)) (.need (.f2 155 (.f2 115
    (.at .rows 11) (.at .int 9)) (.f2 115 (.at .rows 11) (.at .int 9))) (.need (.f2 155 (.us .g 68 (.at .g 1) (.at .int 2) (.int 0) (.int 0)) (.us .g
    22 (.at .g 1) (.at .rows 7) (.at .int 5) (.int 0))) (.need (.f2 45 (.us .int 69 (.at .g 1) (.at .int 2) (.int 0) (.int 0)) (.int 1)) .tt)))) (.imp
    (.f2 47 (.int 0) (.us .int 64 (.at .rows 11) (.at .int 9) (.at .int 2) (.int 0))) (.need (.f2 46 (.us .int 64 (.at .rows 11) (.at .int 9) (.at .int
    2) (.int 0)) (.at .int 9)) (.all 12 .rows (.imp (.f2 47 (.int 0) (.f3 112 (.at .rows 11) (.us .int 64 (.at .rows 11) (.at .int 9) (.at .int 2)
    (.int 0)) (.int 2))) (.imp (.f2 47 (.f3 112 (.at .rows 11) (.us .int 64 (.at .rows 11) (.at .int 9) (.at .int 2) (.int 0)) (.int 2)) (.f1 32 (.at
    .rows 12))) (.imp (.f2 47 (.f3 112 (.at .rows 11) (.us .int 64 (.at .rows 11) (.at .int 9) (.at .int 2) (.int 0)) (.int 2)) (.int 65534)) (.imp
    (.f2 47 (.f3 112 (.at .rows 11) (.us .int 64 (.at .rows 11) (.at .int 9) (.at .int 2) (.int 0)) (.int 2)) (.f3 112 (.at .rows 11) (.us .int 64 (.at
    .rows 11) (.at .int 9) (.at .int 2) (.int 0)) (.int 3))) (.imp (.f2 155 (.f2 115 (.at .rows 12) (.f3 112 (.at .rows 11) (.us .int 64 (.at .rows 11)
    (.at .int 9) (.at .int 2) (.int 0)) (.int 2))) (.us .rows 65 (.at .g 1) (.us .int 64 (.at .rows 11) (.at .int 9) (.at .int 2) (.int 0)) (.int 0)
    (.int 0))) (.imp (.us .bool 41 (.at .rows 12) (.f3 112 (.at .rows 11) (.us .int 64 (.at .rows 11) (.at .int 9) (.at .int 2) (.int 0)) (.int 2))
    (.int 0) (.int 0)) (.need (.f2 46 (.us .int 64 (.at .rows 11) (.at .int 9) (.at .int 2) (.int 0)) (.f1 32 (.at .rows 11))) (.all 13 .int (.all 14
    .int (.all 15 .rows (.imp (.f2 47 (.f3 112 (.at .rows 11) (.us .int 64 (.at .rows 11) (.at .int 9) (.at .int 2) (.int 0)) (.int 2)) (.f1 32 (.at
    .rows 15))) (.imp (.f2 155 (.f2 115 (.at .rows 15) (.f3 112 (.at .rows 11) (.us .int 64 (.at .rows 11) (.at .int 9) (.at .int 2) (.int 0)) (.int
    2))) (.f2 115 (.at .rows 12) (.f3 112 (.at .rows 11) (.us .int 64 (.at .rows 11) (.at .int 9) (.at .int 2) (.int 0)) (.int 2)))) (.need (.f1 23
    (.f2 40 (.us .int 64 (.at .rows 11) (.at .int 9) (.at .int 2) (.int 0)) (.int 1))) (.need (.f2 47 (.int 0) (.at .int 10)) (.need (.f2 47 (.int 0)
    (.f2 40 (.us .int 64 (.at .rows 11) (.at .int 9) (.at .int 2) (.int 0)) (.int 1))) (.need (.f2 47 (.f2 40 (.us .int 64 (.at .rows 11) (.at .int 9)
    (.at .int 2) (.int 0)) (.int 1)) (.at .int 9)) (.need (.f2 47 (.int 0) (.f2 41 (.at .int 9) (.f2 40 (.us .int 64 (.at .rows 11) (.at .int 9) (.at
    .int 2) (.int 0)) (.int 1)))) (.need (.f2 47 (.f2 41 (.at .int 9) (.f2 40 (.us .int 64 (.at .rows 11) (.at .int 9) (.at .int 2) (.int 0)) (.int
    1))) (.f2 41 (.at .int 10) (.f2 40 (.us .int 64 (.at .rows 11) (.at .int 9) (.at .int 2) (.int 0)) (.int 1)))) (.need (.f2 47 (.f2 40 (.f2 40 (.us
    .int 64 (.at .rows 11) (.at .int 9) (.at .int 2) (.int 0)) (.f2 41 (.at .int 9) (.f2 40 (.us .int 64 (.at .rows 11) (.at .int 9) (.at .int 2) (.int
    0)) (.int 1)))) (.int 1)) (.f1 32 (.at .rows 11))) (.need (.f2 47 (.f2 40 (.us .int 64 (.at .rows 11) (.at .int 9) (.at .int 2) (.int 0)) (.int 1))
    (.at .int 10)) (.need (.f2 47 (.f2 40 (.us .int 64 (.at .rows 11) (.at .int 9) (.at .int 2) (.int 0)) (.int 1)) (.f2 40 (.f1 32 (.f2 115 (.at .rows
    11) (.f2 40 (.us .int 64 (.at .rows 11) (.at .int 9) (.at .int 2) (.int 0)) (.int 1)))) (.f2 40 (.f1 32 (.f2 127 (.f2 41 (.at .int 9) (.f2 40 (.us
    .int 64 (.at .rows 11) (.at .int 9) (.at .int 2) (.int 0)) (.int 1))) (.f2 122 (.int 0) (.f2 122 (.int (-(0 + 1))) (.f2 122 (.int 0) (.f2 122 (.int
    0) (.f1 152 (.int 0)))))))) (.f1 32 (.f2 118 (.at .rows 11) (.f2 40 (.f2 40 (.us .int 64 (.at .rows 11) (.at .int 9) (.at .int 2) (.int 0)) (.f2 41
    (.at .int 9) (.f2 40 (.us .int 64 (.at .rows 11) (.at .int 9) (.at .int 2) (.int 0)) (.int 1)))) (.int 1))))))) (.need (.f2 155 (.f2 115 (.f2 121
    (.f2 115 (.at .rows 11) (.f2 40 (.us .int 64 (.at .rows 11) (.at .int 9) (.at .int 2) (.int 0)) (.int 1))) (.f2 121 (.f2 127 (.f2 41 (.at .int 9)
    (.f2 40 (.us .int 64 (.at .rows 11) (.at .int 9) (.at .int 2) (.int 0)) (.int 1))) (.f2 122 (.int 0) (.f2 122 (.int (-(0 + 1))) (.f2 122 (.int 0)
    (.f2 122 (.int 0) (.f1 152 (.int 0))))))) (.f2 118 (.at .rows 11) (.f2 40 (.f2 40 (.us .int 64 (.at .rows 11) (.at .int 9) (.at .int 2) (.int 0))
    (.f2 41 (.at .int 9) (.f2 40 (.us .int 64 (.at .rows 11) (.at .int 9) (.at .int 2) (.int 0)) (.int 1)))) (.int 1))))) (.f2 40 (.us .int 64 (.at
    .rows 11) (.at .int 9) (.at .int 2) (.int 0)) (.int 1))) (.f2 115 (.at .rows 11) (.f2 40 (.us .int 64 (.at .rows 11) (.at .int 9) (.at .int 2)
    (.int 0)) (.int 1)))) (.need (.us .bool 41 (.at .rows 15) (.f3 112 (.at .rows 11) (.us .int 64 (.at .rows 11) (.at .int 9) (.at .int 2) (.int 0))
    (.int 2)) (.int 0) (.int 0)) (.need (.f2 45 (.us .int 20 (.us .g 66 (.at .g 1) (.f2 40 (.us .int 64 (.at .rows 11) (.at .int 9) (.at .int 2) (.int
    0)) (.int 1)) (.int 0) (.int 0)) (.int 0) (.int 0) (.int 0)) (.us .int 20 (.at .g 1) (.int 0) (.int 0) (.int 0))) (.need (.f2 155 (.us .g 68 (.at
    .g 1) (.at .int 2) (.int 0) (.int 0)) (.us .g 22 (.us .g 66 (.at .g 1) (.f2 40 (.us .int 64 (.at .rows 11) (.at .int 9) (.at .int 2) (.int 0))
    (.int 1)) (.int 0) (.int 0)) (.at .rows 15) (.f3 112 (.at .rows 11) (.us .int 64 (.at .rows 11) (.at .int 9) (.at .int 2) (.int 0)) (.int 2)) (.int
    0))) (.need (.f2 45 (.us .int 69 (.at .g 1) (.at .int 2) (.int 0) (.int 0)) (.int 0)) .tt)))))))))))))))))))))))))))))))))))))))))))))))))))))
theorem back_vc : vcOf Try.prog backCx 10 38 backCtr = backVc := by kernel_rfl
-- END VC back
-- BEGIN VC act
def actVc : VC := (.imp (.f2 47 (.int 0) (.us .int 20 (.at .g 1) (.int 0) (.int 0) (.int 0))) (.imp (.f2 47 (.us .int 20 (.at .g 1) (.int 0) (.int 0) (.int 0)) (.int
    4611686018427387904)) (.imp (.f2 47 (.us .int 71 (.at .g 1) (.int 0) (.int 0) (.int 0)) (.int 1000000)) (.all 5 .int (.imp (.f2 47 (.int 0) (.at
    .int 5)) (.and (.imp (.f2 45 (.at .int 2) (.int 1)) (.and (.imp (.f1 2 (.us .bool 24 (.at .g 1) (.int 0) (.int 0) (.int 0))) (.need (.f2 155 (.us
    .g 73 (.at .g 1) (.at .int 2) (.at .int 3) (.at .int 4)) (.us .g 25 (.at .g 1) (.int 0) (.int 0) (.int 0))) (.need (.f2 45 (.us .int 72 (.at .g 1)
    (.at .int 2) (.at .int 3) (.at .int 4)) (.int (-(0 + 1)))) .tt))) (.imp (.f1 2 (.f1 2 (.us .bool 24 (.at .g 1) (.int 0) (.int 0) (.int 0)))) (.need
    (.f2 155 (.us .g 73 (.at .g 1) (.at .int 2) (.at .int 3) (.at .int 4)) (.us .g 25 (.at .g 1) (.int 0) (.int 0) (.int 0))) (.need (.f2 45 (.us .int
    72 (.at .g 1) (.at .int 2) (.at .int 3) (.at .int 4)) (.us .int 23 (.at .g 1) (.int 0) (.int 0) (.int 0))) .tt))))) (.imp (.f1 2 (.f2 45 (.at .int
    2) (.int 1))) (.and (.imp (.f2 45 (.at .int 2) (.int 2)) (.need (.f2 155 (.us .g 73 (.at .g 1) (.at .int 2) (.at .int 3) (.at .int 4)) (.us .g 42
    (.at .g 1) (.at .int 3) (.at .int 4) (.int 0))) (.need (.f2 45 (.us .int 72 (.at .g 1) (.at .int 2) (.at .int 3) (.at .int 4)) (.us .int 39 (.at .g
    1) (.at .int 3) (.at .int 4) (.int 0))) .tt))) (.imp (.f1 2 (.f2 45 (.at .int 2) (.int 2))) (.and (.imp (.f2 45 (.at .int 2) (.int 3)) (.need (.f2
    155 (.us .g 73 (.at .g 1) (.at .int 2) (.at .int 3) (.at .int 4)) (.us .g 29 (.at .g 1) (.at .int 3) (.int 0) (.int 0))) (.need (.f2 45 (.us .int
    72 (.at .g 1) (.at .int 2) (.at .int 3) (.at .int 4)) (.us .int 28 (.at .g 1) (.at .int 3) (.int 0) (.int 0))) .tt))) (.imp (.f1 2 (.f2 45 (.at
    .int 2) (.int 3))) (.and (.imp (.f2 45 (.at .int 2) (.int 7)) (.need (.f2 155 (.us .g 73 (.at .g 1) (.at .int 2) (.at .int 3) (.at .int 4)) (.us .g
    62 (.at .g 1) (.int 0) (.int 0) (.int 0))) (.need (.f2 45 (.us .int 72 (.at .g 1) (.at .int 2) (.at .int 3) (.at .int 4)) (.us .int 63 (.at .g 1)
    (.int 0) (.int 0) (.int 0))) .tt))) (.imp (.f1 2 (.f2 45 (.at .int 2) (.int 7))) (.need (.f2 155 (.us .g 73 (.at .g 1) (.at .int 2) (.at .int 3)
    (.at .int 4)) (.at .g 1)) (.need (.f2 45 (.us .int 72 (.at .g 1) (.at .int 2) (.at .int 3) (.at .int 4)) (.int 0)) .tt)))))))))))))))
theorem act_vc : vcOf Try.prog actCx 10 36 actCtr = actVc := by kernel_rfl
-- END VC act
-- PROOFS
theorem clo_ok (S : Sig FL) : CtrOk S Try.prog 58 cloCtr := by
  refine vcOf_sound S (C := cloCx) (fuel := 10) (cx_of trivial ⟨⟨⟨by decide, nn_gh S⟩, trivial⟩, trivial⟩ trivial) fun ρ => ?_
  rw [clo_vc]
  simp only [cloVc, VC.den, SX.den, co_int, co_bool, co_ints, co_rows, co_g, gOf_g, Env.upd, p155, p23, p45, p46, p47, p50, b46, b47, ap2_45, ap1_2, ap1_30, ap1_32, ap1_152, ap1_154, ap2_40, ap2_41, ap2_42, ap2_51i, ap2_115, ap2_118, ap2_121, ap2_122, ap2_124, ap2_127, ap3_112, U.toProp_bool, U.toBool_bool, Bool.not_eq_true', Bool.not_not, beq_eq_false_iff_ne, beq_iff_eq, ne_eq, i64lo, i64hi, U.toInt_int, U.toInts_ints, U.toRows_rows, Int.toNat_zero, toNat1, List.take_zero, Nat.reduceEqDiff, reduceIte, U.rows.injEq, U.g.injEq, U.bool.injEq]
  generalize (ρ 1).toRows = R
  generalize (ρ 2).toInt = n
  intro a1 a2 a3 a5 a4
  refine ⟨fun hb => ⟨by omega, ?_, by omega, trivial⟩, fun hb _ _ => ⟨by omega, fun b c h1 h2 => ⟨by rw [List.length_take]; omega, ?_, trivial⟩⟩⟩
  · have : n.toNat = 0 := by omega
    rw [this]; rfl
  · rw [List.take_take, Nat.min_self]
theorem ixm_ok (S : Sig FL) (hM : MkSig S) : CtrOk S Try.prog 80 ixmCtr := by
  refine vcOf_sound S (C := ixmCx) (fuel := 10) (cx_of trivial ⟨⟨trivial, trivial⟩, trivial⟩ trivial) fun ρ => ?_
  rw [ixm_vc]
  simp only [ixmVc, hM.u64, VC.den, SX.den, co_int, co_bool, co_ints, co_rows, co_g, gOf_g, Env.upd, p155, p23, p45, p46, p47, p50, b46, b47, ap2_45, ap1_2, ap1_30, ap1_32, ap1_152, ap1_154, ap2_40, ap2_41, ap2_42, ap2_51i, ap2_115, ap2_118, ap2_121, ap2_122, ap2_124, ap2_127, ap3_112, U.toProp_bool, U.toBool_bool, Bool.not_eq_true', Bool.not_not, beq_eq_false_iff_ne, beq_iff_eq, ne_eq, i64lo, i64hi, U.toInt_int, U.toInts_ints, U.toRows_rows, Int.toNat_zero, toNat1, List.take_zero, Nat.reduceEqDiff, reduceIte, U.rows.injEq, U.g.injEq, U.bool.injEq]
  generalize (ρ 1).toRows = R
  generalize (ρ 2).toInt = n
  generalize (ρ 5).toInt = num
  intro a1 a2 a3 _
  refine ⟨rfl, fun x k0 k1 k2 => ⟨fun hk => ⟨by omega, fun y _ => ⟨fun hz => ⟨idxR_found k0 hk a2 k2 hz, trivial⟩, fun hz => ⟨by omega, by omega, by omega, by omega, by omega, idxR_step k0 (by omega) k2 hz, trivial⟩⟩⟩, fun hk => ⟨?_, trivial⟩⟩⟩
  have : x = n := by omega
  rw [← this]; exact k2
theorem mark_ok (S : Sig FL) (hS : FlSig S) (hM : MkSig S) : CtrOk S Try.prog 37 markCtr := by
  have hu := unf_gh S hS
  have hf := fld_gh S hS
  refine vcOf_sound S (C := markCx) (fuel := 10) (cx_of ⟨one_spec (by decide) (clo_ok S), trivial⟩ ⟨⟨⟨by decide, hu⟩, ⟨by decide, unm_gh S hS hM⟩, ⟨by decide, ps_gh S hS hM⟩, trivial, ⟨by decide, dr_gh S hM⟩, ⟨by decide, shm_gh S hS hM⟩, ⟨by decide, hf⟩, trivial⟩, trivial⟩ trivial) fun ρ => ?_
  rw [mark_vc]
  simp only [markVc, hS.u20, hS.u21, hS.u22, hS.u41, hM.u57, hM.u58, hM.u61, hM.u62, hM.u63, hM.u67, hM.u71, VC.den, SX.den, co_int, co_bool, co_ints, co_rows, co_g, gOf_g, Env.upd, p155, p23, p45, p46, p47, p50, b46, b47, ap2_45, ap1_2, ap1_30, ap1_32, ap1_152, ap1_154, ap2_40, ap2_41, ap2_42, ap2_51i, ap2_115, ap2_118, ap2_121, ap2_122, ap2_124, ap2_127, ap3_112, U.toProp_bool, U.toBool_bool, Bool.not_eq_true', Bool.not_not, beq_eq_false_iff_ne, beq_iff_eq, ne_eq, i64lo, i64hi, U.toInt_int, U.toInts_ints, U.toRows_rows, Int.toNat_zero, toNat1, List.take_zero, Nat.reduceEqDiff, reduceIte, U.rows.injEq, U.g.injEq, U.bool.injEq]
  generalize gOf (U.co S .g (ρ 1)) = s
  obtain ⟨e, m, last⟩ := s
  dsimp only
  intro b1 b2 b3 b n c R bm nm cm h1 h2 h3 h4 hg he y k0 k1 k2 k3 k4
  subst he
  refine ⟨by omega, fun b' c' R' q1 q2 bb _ => ⟨by omega, fun b2 c2 z1 z2 => ⟨?_, ?_, ?_⟩⟩⟩
  · rw [goodB_iff, q2]; exact goodB_iff.1 hg
  · exact preN_pos _ _
  · intro j j0 j1
    generalize hrow : ([last + 1, b', n, c'] : List Int) = row at *
    have hlast : hd0 row = last + 1 := by rw [← hrow]; rfl
    have hle := preN_le (r := row) (L := last + 1) (by omega) (y.take nm.toNat)
    have hC : (y.take nm.toNat ++ [row]).map hd0 = (m ++ [(last + 1, R.take n.toNat)]).map (·.1) := by
      rw [List.map_append, List.map_append, k3]
      show _ ++ [hd0 row] = _
      rw [hlast]; rfl
    have hpm := preN_M (L := last + 1) hC
    have hin := @preN_in (last + 1) (y.take nm.toNat ++ [row])
    have hat := @preN_at (last + 1) (y.take nm.toNat ++ [row])
    have hyl : (y.take nm.toNat).length = nm.toNat := by rw [List.length_take]; omega
    have hCl : (y.take nm.toNat ++ [row]).length = nm.toNat + 1 := by rw [List.length_append, hyl]; rfl
    rw [hyl] at hle
    generalize hCe : y.take nm.toNat ++ [row] = C at *
    refine ⟨by omega, by omega, by omega, fun hj => ?_, fun hj => ?_⟩
    · have hlt : j < preN C (last + 1) := by
        rcases Int.lt_or_eq_of_le j1 with h | h
        · exact h
        · have := hat (i := j.toNat) (by omega) (by omega)
          exact absurd (show hd0 (C.getD j.toNat []) ≤ last + 1 - 16 by show (C.getD j.toNat []).getD 0 0 ≤ _; omega) this
      repeat' (first | exact trivial | apply And.intro)
      all_goals omega
    · have hje : j = preN C (last + 1) := by
        rcases Int.lt_or_eq_of_le j1 with h | h
        · have : (C.getD j.toNat []).getD 0 0 ≤ last + 1 - 16 := hin (i := j.toNat) (by omega)
          omega
        · exact h
      have hfinal : markS ⟨R.take n.toNat, m, last⟩ = { dropS (pushS ⟨R.take n.toNat, m, last⟩ (last + 1) (R'.take n.toNat)) j with e := R.take n.toNat } := by
        unfold markS
        rw [q2]
        show dropS _ (preM (m ++ [(last + 1, R.take n.toNat)]) (last + 1)) = _
        rw [← hpm, ← hje]; rfl
      have m1 : imin (nm + 1 - j) (nm + 1) = nm + 1 - j := imin_left (by omega)
      rw [m1]
      have hq : (nm + 1 - j).toNat ≤ (C.drop j.toNat).length := by rw [List.length_drop]; omega
      have hml := fun Y Z => mark_list (C := C) (Y := Y) (Z := Z) hq
      rw [List.take_zero] at hml
      have hlen : (List.take (nm + 1 - j).toNat (List.take (nm + 1 - j).toNat (List.drop j.toNat C))).length = (nm + 1 - j).toNat := by
        rw [List.take_take, Nat.min_self, List.length_take]; omega
      repeat' (first | exact trivial | apply And.intro)
      all_goals first
        | omega
        | (simp only [List.length_append, List.length_take, List.length_drop, List.length_replicate, List.length_nil]; omega)
        | exact hml _ _
        | exact hfinal
        | rfl
theorem back_ok (S : Sig FL) (hS : FlSig S) (hM : MkSig S) : CtrOk S Try.prog 38 backCtr := by
  have hu := unf_gh S hS
  have hf := fld_gh S hS
  refine vcOf_sound S (C := backCx) (fuel := 10) (cx_of ⟨one_spec (by decide) (clo_ok S), one_spec (by decide) (ixm_ok S hM), trivial⟩ ⟨⟨⟨by decide, hu⟩, ⟨by decide, unm_gh S hS hM⟩, ⟨by decide, shm_gh S hS hM⟩, ⟨by decide, hf⟩, ⟨by decide, to_gh S hS hM⟩, ⟨by decide, pb_gh S hM⟩, ⟨by decide, ft_gh S hM⟩, ⟨by decide, shm_gh S hS hM⟩, ⟨by decide, hf⟩, trivial⟩, trivial⟩ trivial) fun ρ => ?_
  rw [back_vc]
  simp only [backVc, hS.u20, hS.u21, hS.u22, hS.u41, hM.u64, hM.u65, hM.u66, hM.u67, hM.u68, hM.u69, hM.u71, VC.den, SX.den, co_int, co_bool, co_ints, co_rows, co_g, gOf_g, Env.upd, p155, p23, p45, p46, p47, p50, b46, b47, ap2_45, ap1_2, ap1_30, ap1_32, ap1_152, ap1_154, ap2_40, ap2_41, ap2_42, ap2_51i, ap2_115, ap2_118, ap2_121, ap2_122, ap2_124, ap2_127, ap3_112, U.toProp_bool, U.toBool_bool, Bool.not_eq_true', Bool.not_not, beq_eq_false_iff_ne, beq_iff_eq, ne_eq, i64lo, i64hi, U.toInt_int, U.toInts_ints, U.toRows_rows, Int.toNat_zero, toNat1, List.take_zero, Nat.reduceEqDiff, reduceIte, U.rows.injEq, U.g.injEq, U.bool.injEq]
  generalize gOf (U.co S .g (ρ 1)) = s
  generalize (ρ 2).toInt = num
  obtain ⟨e, m, last⟩ := s
  dsimp only
  intro b3 bx _ b n c R bm nm cm h1 h2 h3 h4 hg he y k0 k1 k2 k3 k4
  subst he
  have hlo := idxR_lo num (y.take nm.toNat)
  have hhi := idxR_hi num (y.take nm.toNat)
  have hyl : (y.take nm.toNat).length = nm.toNat := by rw [List.length_take]; omega
  rw [hyl] at hhi
  have hix := idxR_M (n := num) k3
  generalize idxR num (y.take nm.toNat) = i at *
  refine ⟨by omega, fun hi => ⟨trivial, ?_, ?_, trivial⟩, fun hi => ⟨by omega, fun x x1 x2 x3 xc x4 x5 => ⟨by omega, fun b' c' R' q1 q2 => ?_⟩⟩⟩
  · unfold backS; rw [if_pos (by show idxM num m < 0; omega)]
  · unfold backE; rw [if_pos (by show idxM num m < 0; omega)]
  · generalize (y.getD i.toNat []).getD (Int.toNat 2) 0 = w at *
    have hbs : backS ⟨R.take n.toNat, m, last⟩ num = ⟨atM ⟨R.take n.toNat, m, last⟩ i, m.take (i + 1).toNat, last⟩ := by
      unfold backS
      rw [if_neg (by show ¬ idxM num m < 0; omega)]
      show FL.mk (atM _ (idxM num m)) (m.take (idxM num m + 1).toNat) last = _
      rw [← hix]
    have hbe : backE ⟨R.take n.toNat, m, last⟩ num = 0 := by unfold backE; rw [if_neg (by show ¬ idxM num m < 0; omega)]
    have hgd : goodB R' w = true := by rw [goodB_iff, q2]; exact goodB_iff.1 x5
    have hfin : backS ⟨R.take n.toNat, m, last⟩ num = ⟨R'.take w.toNat, m.take (i + 1).toNat, last⟩ := by rw [hbs, q2, x4]
    have htk : ∀ Z, (y.take (i + 1).toNat ++ Z).take (i + 1).toNat = y.take (i + 1).toNat := fun Z => by
      rw [List.take_append_of_le_length (by rw [List.length_take]; omega), List.take_take, Nat.min_self]
    repeat' (first | exact trivial | apply And.intro)
    all_goals first
      | omega
      | (simp only [List.length_append, List.length_take, List.length_drop, List.length_replicate]; omega)
      | exact htk _
      | exact hgd
      | exact hfin
      | exact hbe
      | rfl
theorem act_ok (S : Sig FL) (hS : FlSig S) (hM : MkSig S) : CtrOk S Try.prog 36 actCtr := by
  have hu := unf_gh S hS
  have hf := fld_gh S hS
  refine vcOf_sound S (C := actCx) (fuel := 10) (cx_of ⟨one_spec (by decide) (take_ok S hS hu hf), one_spec (by decide) (give_ok S hS hu hf), one_spec (by decide) (rel_ok S hS hu hf), one_spec (by decide) (mark_ok S hS hM), trivial⟩ trivial trivial) fun ρ => ?_
  rw [act_vc]
  simp only [actVc, hS.u20, hS.u23, hS.u24, hS.u25, hS.u28, hS.u29, hS.u39, hS.u42, hM.u62, hM.u63, hM.u71, hM.u72, hM.u73, VC.den, SX.den, co_int, co_bool, co_ints, co_rows, co_g, gOf_g, Env.upd, p155, p23, p45, p46, p47, p50, b46, b47, ap2_45, ap1_2, ap1_30, ap1_32, ap1_152, ap1_154, ap2_40, ap2_41, ap2_42, ap2_51i, ap2_115, ap2_118, ap2_121, ap2_122, ap2_124, ap2_127, ap3_112, U.toProp_bool, U.toBool_bool, Bool.not_eq_true', Bool.not_not, beq_eq_false_iff_ne, beq_iff_eq, ne_eq, i64lo, i64hi, U.toInt_int, U.toInts_ints, U.toRows_rows, Int.toNat_zero, toNat1, List.take_zero, Nat.reduceEqDiff, reduceIte, U.rows.injEq, U.g.injEq, U.bool.injEq]
  obtain ⟨s, hs⟩ : ∃ s, U.co S Srt.g (ρ 1) = .g s := by cases ρ 1 <;> exact ⟨_, rfl⟩
  simp only [hs, gOf_g, U.g.injEq]
  generalize (ρ 2).toInt = k
  generalize (ρ 3).toInt = a
  generalize (ρ 4).toInt = b
  intro _ _ _ _ _
  unfold actR actS
  refine ⟨fun h => ⟨fun h2 => ⟨by rw [if_pos h], by rw [if_pos h, h2]; rfl, trivial⟩, fun h2 => ⟨by rw [if_pos h], by rw [if_pos h, h2]; rfl, trivial⟩⟩, fun h => ⟨fun h2 => ⟨by rw [if_neg h, if_pos h2], by rw [if_neg h, if_pos h2], trivial⟩, fun h2 => ⟨fun h3 => ⟨by rw [if_neg h, if_neg h2, if_pos h3], by rw [if_neg h, if_neg h2, if_pos h3], trivial⟩, fun h3 => ⟨fun h4 => ⟨by rw [if_neg h, if_neg h2, if_neg h3, if_pos h4], by rw [if_neg h, if_neg h2, if_neg h3, if_pos h4], trivial⟩, fun h4 => ⟨by rw [if_neg h, if_neg h2, if_neg h3, if_neg h4], by rw [if_neg h, if_neg h2, if_neg h3, if_neg h4], trivial⟩⟩⟩⟩⟩
end
end Go.Proofs.Ytmjonggabppgaaa

/- FreeMarks: the plain laws. -/
set_option linter.unusedVariables false
namespace Go.Proofs.Ytmjonggabppgaaa
noncomputable section
/-- Nothing is marked. -/
def noM (s : FL) : Prop := s.m = [] ∧ s.last = 0
def seqF : Int → Nat → List Int
  | _, 0 => []
  | lo, n + 1 => lo :: seqF (lo + 1) n
/-- Behind a first mark and n more: the first is there, as it was, or it went. -/
def MkP (s' s : FL) (n : Int) : Prop := 0 ≤ n ∧ s'.last = n + 1 ∧ ((n < 16 ∧ ∃ t : List (Int × List (List Int)), s'.m = (1, s.e) :: t ∧ t.map (·.1) = seqF 2 n.toNat) ∨ (16 ≤ n ∧ s'.m.map (·.1) = seqF (n - 14) 16))
/-- Back at the mark. -/
def BkP (s1 s2 : FL) : Prop := s1.e = s2.e ∧ s1.m.map (·.1) = [1] ∧ 0 ≤ s1.last ∧ s1.last ≤ 2000000 ∧ noM s2
def bP (p : Prop) : Bool := @decide p (Classical.propDecidable _)
theorem bP_iff {p : Prop} : bP p = true ↔ p := by unfold bP; exact @decide_eq_true_iff _ (Classical.propDecidable _)
theorem seqF_snoc : ∀ (n : Nat) (lo : Int), seqF lo (n + 1) = seqF lo n ++ [lo + n]
  | 0, lo => by simp [seqF]
  | n + 1, lo => by
    rw [seqF, seqF_snoc n (lo + 1), seqF, List.cons_append]
    congr 3
    omega
theorem seqF_len : ∀ (n : Nat) (lo : Int), (seqF lo n).length = n
  | 0, _ => rfl
  | n + 1, lo => by rw [seqF, List.length_cons, seqF_len n]
theorem seqF_ge : ∀ (n : Nat) (lo : Int), ∀ x ∈ seqF lo n, lo ≤ x
  | 0, _, x, h => by simp [seqF] at h
  | n + 1, lo, x, h => by
    rw [seqF, List.mem_cons] at h
    rcases h with rfl | h
    · exact Int.le_refl _
    · have := seqF_ge n (lo + 1) x h; omega
theorem preM_map (m : List (Int × List (List Int))) (L : Int) : preM m L = (((m.map (·.1)).takeWhile fun x => decide (x ≤ L - 16)).length : Nat) := by
  unfold preM
  rw [List.takeWhile_map, List.length_map]; rfl
theorem idxM_none {num : Int} : ∀ {m : List (Int × List (List Int))}, (∀ x ∈ m.map (·.1), x ≠ num) → idxM num m = -1
  | [], _ => rfl
  | p :: m, h => by
    rw [idxM, if_neg (h p.1 (by simp)), idxM_none (fun x hx => h x (by rw [List.map_cons]; exact List.mem_cons_of_mem _ hx))]; rfl
theorem idxM_head {num : Int} {m : List (Int × List (List Int))} {t : List Int} (h : m.map (·.1) = num :: t) : idxM num m = 0 := by
  cases m with
  | nil => simp at h
  | cons p m =>
    simp only [List.map_cons, List.cons.injEq] at h
    rw [idxM, if_pos h.1]
theorem len_map {m : List (Int × List (List Int))} {l : List Int} (h : m.map (·.1) = l) : m.length = l.length := by rw [← h, List.length_map]
theorem noM_act {s : FL} {k a b : Int} (hk : k < 7) (h : noM s) : noM (actS s k a b) := by
  unfold actS
  split
  · exact h
  · split
    · exact h
    · split
      · exact h
      · rw [if_neg (by omega)]; exact h
theorem mk_first {s : FL} (h : noM s) : MkP (markS s) s 0 := by
  obtain ⟨e, m, last⟩ := s
  obtain ⟨h1, h2⟩ := h
  simp only at h1 h2
  subst h1 h2
  have : preM ([] ++ [((0 : Int) + 1, e)]) (0 + 1) = 0 := by rw [preM_map]; rfl
  refine ⟨Int.le_refl _, rfl, .inl ⟨by decide, [], ?_, rfl⟩⟩
  unfold markS dropS
  simp only [this]
  rfl
theorem mk_more {s' s : FL} {n : Int} (h : MkP s' s n) : MkP (markS s') s (n + 1) := by
  obtain ⟨e, m, last⟩ := s'
  obtain ⟨h0, h1, h2⟩ := h
  simp only at h1
  subst h1
  have hL : n + 1 + 1 - 16 = n - 14 := by omega
  refine ⟨by omega, rfl, ?_⟩
  rcases h2 with ⟨hn, t, hm, ht⟩ | ⟨hn, hm⟩
  · simp only at hm
    subst hm
    by_cases h15 : n = 15
    · subst h15
      have hp : preM ((1, s.e) :: t ++ [((15 : Int) + 1 + 1, e)]) (15 + 1 + 1) = 1 := by
        rw [preM_map, List.map_append, List.map_cons, ht]; rfl
      refine .inr ⟨by decide, ?_⟩
      show (((1, s.e) :: t ++ [((15 : Int) + 1 + 1, e)]).drop (preM ((1, s.e) :: t ++ [((15 : Int) + 1 + 1, e)]) (15 + 1 + 1)).toNat).map (·.1) = _
      rw [hp]
      show (t ++ [((15 : Int) + 1 + 1, e)]).map (·.1) = _
      rw [List.map_append, ht]; rfl
    · have hp : preM ((1, s.e) :: t ++ [(n + 1 + 1, e)]) (n + 1 + 1) = 0 := by
        rw [preM_map, List.map_append, List.map_cons, List.cons_append, List.takeWhile_cons, hL]
        have : decide ((1 : Int) ≤ n - 14) = false := decide_eq_false (by omega)
        rw [this]; rfl
      refine .inl ⟨by omega, t ++ [(n + 1 + 1, e)], ?_, ?_⟩
      · show ((1, s.e) :: t ++ [(n + 1 + 1, e)]).drop (preM ((1, s.e) :: t ++ [(n + 1 + 1, e)]) (n + 1 + 1)).toNat = _
        rw [hp]; rfl
      · rw [List.map_append, ht, show (n + 1).toNat = n.toNat + 1 by omega, seqF_snoc]
        show _ ++ [n + 1 + 1] = _
        congr 2; omega
  · simp only at hm
    have hmm : (m ++ [(n + 1 + 1, e)]).map (·.1) = (n - 14) :: (seqF (n - 14 + 1) 15 ++ [n + 1 + 1]) := by
      rw [List.map_append, hm]; rfl
    have hp : preM (m ++ [(n + 1 + 1, e)]) (n + 1 + 1) = 1 := by
      rw [preM_map, hmm, hL, List.takeWhile_cons]
      have h1 : decide (n - 14 ≤ n - 14) = true := decide_eq_true (Int.le_refl _)
      rw [h1]
      have h2 : (seqF (n - 14 + 1) 15 ++ [n + 1 + 1]).takeWhile (fun x => decide (x ≤ n - 14)) = [] := by
        show ((n - 14 + 1) :: _).takeWhile _ = []
        rw [List.takeWhile_cons]
        have : decide (n - 14 + 1 ≤ n - 14) = false := decide_eq_false (by omega)
        rw [this]; rfl
      rw [if_pos rfl, h2]; rfl
    refine .inr ⟨by omega, ?_⟩
    show ((m ++ [(n + 1 + 1, e)]).drop (preM (m ++ [(n + 1 + 1, e)]) (n + 1 + 1)).toNat).map (·.1) = _
    rw [hp, List.map_drop, hmm]
    show seqF (n - 14 + 1) 15 ++ [n + 1 + 1] = _
    have : n + 1 + 1 = n - 14 + 1 + (15 : Nat) := by omega
    rw [show n + 1 - 14 = n - 14 + 1 by omega, this]
    exact (seqF_snoc 15 (n - 14 + 1)).symm
theorem mk_act {s' s : FL} {n k a b : Int} (hk : ¬ k = 7) (h : MkP s' s n) : MkP (actS s' k a b) s n := by
  unfold actS
  repeat' split
  all_goals first | exact h | omega
theorem mk_len {s' s : FL} {n : Int} (h : MkP s' s n) : s'.m.length ≤ 16 := by
  obtain ⟨h0, h1, ⟨hn, t, hm, ht⟩ | ⟨hn, hm⟩⟩ := h
  · have := len_map ht
    rw [seqF_len] at this
    rw [hm, List.length_cons]; omega
  · have := len_map hm
    rw [seqF_len] at this; omega
theorem mk_gone {s' s : FL} {n : Int} (h : MkP s' s n) (hn : 16 ≤ n) : backE s' 1 = 1 := by
  obtain ⟨h0, h1, ⟨hn', _⟩ | ⟨_, hm⟩⟩ := h
  · omega
  · unfold backE
    rw [idxM_none (fun x hx => by rw [hm] at hx; have := seqF_ge _ _ x hx; omega), if_pos (by decide)]
theorem mk_back {s' s : FL} {n : Int} (h : MkP s' s n) (hn : n < 16) (h2 : noM s) : backE s' 1 = 0 ∧ BkP (backS s' 1) s := by
  obtain ⟨h0, h1, ⟨_, t, hm, ht⟩ | ⟨hn', _⟩⟩ := h
  · have hi : idxM 1 s'.m = 0 := by rw [hm, idxM, if_pos rfl]
    refine ⟨by unfold backE; rw [hi]; rfl, ?_⟩
    unfold backS
    rw [hi, if_neg (by decide)]
    refine ⟨?_, ?_, by show 0 ≤ s'.last; omega, by show s'.last ≤ 2000000; omega, h2⟩
    · show atM s' 0 = s.e
      unfold atM; rw [hm]; rfl
    · show (s'.m.take 1).map (·.1) = [1]
      rw [hm]; rfl
  · omega
theorem bk_act {s1 s2 : FL} {k a b : Int} (hk : k < 7) (h : BkP s1 s2) : actR s1 k a b = actR s2 k a b ∧ BkP (actS s1 k a b) (actS s2 k a b) := by
  obtain ⟨h1, h2, h3, h4, h5⟩ := h
  unfold actR actS
  rw [h1]
  split
  · exact ⟨rfl, rfl, h2, h3, h4, h5⟩
  · split
    · exact ⟨rfl, rfl, h2, h3, h4, h5⟩
    · split
      · exact ⟨rfl, rfl, h2, h3, h4, h5⟩
      · rw [if_neg (by omega), if_neg (by omega), if_neg (by omega), if_neg (by omega)]
        exact ⟨rfl, h1, h2, h3, h4, h5⟩
theorem bk_len {s1 s2 : FL} (h : BkP s1 s2) : s1.m.length = 1 := by have := len_map h.2.1; simpa using this
theorem back_m {s : FL} (h : s.m.map (·.1) = [1]) : backE s 1 = 0 := by unfold backE; rw [idxM_head h]; rfl
end
end Go.Proofs.Ytmjonggabppgaaa

/- Two lists of numbers: are they the same? The law's own 'same'. -/
set_option linter.unusedSimpArgs false
set_option linter.unusedVariables false
namespace Go.Proofs.Ytmjonggabppgaaa
noncomputable section
open Go.Eng
def xsA (n : Nat) : SX := .at .ints n
def rdI (j : Nat) (b : Nat) : Ch := .rd j (.ints .i64) (ai b) (ai (b + 1)) (xsA (b + 4)) (ai (b + 5))
def sameCtr : Ctr := ⟨[.int, .int, .int, .int, .ints, .int, .int, .int, .int, .int, .ints, .int],
  [.one (.slice (ai 0) (ai 1) (.int 0) (.int 0) (ai 2) (ai 3) 1), .one (.slice (ai 6) (ai 7) (.int 0) (.int 0) (ai 8) (ai 9) 1)], [rdI 0 0, rdI 1 6],
  [eLe (.int 0) (ai 2), eLe (ai 2) (.f1 30 (xsA 4)), eLe (ai 2) (.int 140737488355328), eLe (.int 0) (ai 8), eLe (ai 8) (.f1 30 (xsA 10)), eLe (ai 8) (.int 140737488355328)], [.bool],
  .one (.bool (.at .bool 12)), [rdI 0 0, rdI 1 6], [.f2 48 (.at .bool 12) (.f2 153 (.f2 113 (xsA 4) (ai 2)) (.f2 113 (xsA 10) (ai 8)))]⟩
def sameInv : Inv := ⟨[.int], [(5, .one (.int .i64 (di 0)))], [], [eLe (.int 0) (di 0), eLe (di 0) (ai 2), .f2 153 (.f2 113 (xsA 4) (di 0)) (.f2 113 (xsA 10) (di 0))], .f2 41 (ai 2) (di 0)⟩
def sameCx : Cx := { specs := [], anns := [(23, [(4, .inv sameInv)])] }
def sameVc : VC := .imp (.f2 47 (.int 0) (.at .int 2)) (.imp (.f2 47 (.at .int 2) (.f1 30 (.at .ints 4))) (.imp (.f2 47 (.at .int 2) (.int 140737488355328)) (.imp (.f2 
    47 (.int 0) (.at .int 8)) (.imp (.f2 47 (.at .int 8) (.f1 30 (.at .ints 10))) (.imp (.f2 47 (.at .int 8) (.int 140737488355328)) (.and (.imp (.f1 2 
    (.f2 45 (.at .int 2) (.at .int 8))) (.need (.f2 48 (.bool false) (.f2 153 (.f2 113 (.at .ints 4) (.at .int 2)) (.f2 113 (.at .ints 10) (.at .int 8)))) 
    (.tt))) (.imp (.f2 45 (.at .int 2) (.at .int 8)) (.need (.f2 153 (.f2 113 (.at .ints 4) (.int 0)) (.f2 113 (.at .ints 10) (.int 0))) (.all 12 .int 
    (.imp (.f2 47 (.int 0) (.at .int 12)) (.imp (.f2 47 (.at .int 12) (.at .int 2)) (.imp (.f2 153 (.f2 113 (.at .ints 4) (.at .int 12)) (.f2 113 (.at 
    .ints 10) (.at .int 12))) (.and (.imp (.f2 46 (.at .int 12) (.at .int 2)) (.need (.f2 46 (.at .int 12) (.f1 30 (.at .ints 4))) (.need (.f2 46 (.at 
    .int 12) (.at .int 8)) (.need (.f2 46 (.at .int 12) (.f1 30 (.at .ints 10))) (.and (.imp (.f1 2 (.f2 45 (.f2 110 (.at .ints 4) (.at .int 12)) (.f2 110 
    (.at .ints 10) (.at .int 12)))) (.need (.f2 48 (.bool false) (.f2 153 (.f2 113 (.at .ints 4) (.at .int 2)) (.f2 113 (.at .ints 10) (.at .int 8)))) 
    (.tt))) (.imp (.f2 45 (.f2 110 (.at .ints 4) (.at .int 12)) (.f2 110 (.at .ints 10) (.at .int 12))) (.need (.f1 23 (.f2 40 (.at .int 12) (.int 1))) 
    (.need (.f2 47 (.int 0) (.f2 41 (.at .int 2) (.f2 40 (.at .int 12) (.int 1)))) (.need (.f2 46 (.f2 41 (.at .int 2) (.f2 40 (.at .int 12) (.int 1))) 
    (.f2 41 (.at .int 2) (.at .int 12))) (.need (.f2 47 (.int 0) (.f2 40 (.at .int 12) (.int 1))) (.need (.f2 47 (.f2 40 (.at .int 12) (.int 1)) (.at .int 
    2)) (.need (.f2 153 (.f2 113 (.at .ints 4) (.f2 40 (.at .int 12) (.int 1))) (.f2 113 (.at .ints 10) (.f2 40 (.at .int 12) (.int 1)))) 
    (.tt))))))))))))) (.imp (.f2 47 (.at .int 2) (.at .int 12)) (.need (.f2 48 (.bool true) (.f2 153 (.f2 113 (.at .ints 4) (.at .int 2)) (.f2 113 (.at 
    .ints 10) (.at .int 8)))) (.tt))))))))))))))))
theorem same_vc : vcOf Try.prog sameCx 10 23 sameCtr = sameVc := by kernel_rfl
theorem p48_153 {G : Type} (c : Bool) (a b : U G) : (ap2 48 (.bool c) (ap2 153 a b)).toProp = (c = true ↔ a.toInts = b.toInts) := by
  rw [ap2_48, ap2_153]
  simp only [U.toProp_bool, U.toBool_bool, beq_iff_eq]
  by_cases h : a.toInts = b.toInts <;> cases c <;> simp [h]
theorem take_getD (l : List Int) (i : Nat) (h : i < l.length) : l.take (i + 1) = l.take i ++ [l.getD i 0] := by
  rw [List.take_add_one, List.getD_eq_getElem?_getD, List.getElem?_eq_getElem h]; rfl
theorem same_ok {G : Type} (S : Sig G) : CtrOk S Try.prog 23 sameCtr := by
  refine vcOf_sound S (C := sameCx) (fuel := 10) ⟨fun f sps h => by simp [sameCx, assoc] at h, fun f l h i sp args hm => ?_, fun f sps h => by simp [sameCx, assoc] at h⟩ fun ρ => ?_
  · simp only [sameCx, assoc] at h
    cases hb : Nat.beq 23 f
    · rw [hb] at h; cases h
    · rw [hb] at h; cases h
      simp at hm
  · rw [same_vc]
    simp only [sameVc, VC.den, SX.den, U.co, Env.upd, p23, p45, p46, p47, p2_45, p153, p48_153, ap1_30, ap2_40, ap2_41, ap2_110, ap2_113, U.toInt_int, U.toInts_ints, if_true, if_false, Nat.reduceEqDiff, reduceIte]
    generalize (ρ 4).toInts = A
    generalize (ρ 10).toInts = B
    generalize (ρ 2).toInt = m
    generalize (ρ 8).toInt = n
    intro h1 h2 h3 h4 h5 h6
    refine ⟨fun hne => ⟨⟨fun h => (by cases h), fun h => ?_⟩, trivial⟩, fun heq => ⟨by simp, fun i h7 h8 h9 => ⟨fun h10 => ⟨by omega, by omega, by omega, fun hn => ⟨⟨fun h => (by cases h), fun h => ?_⟩, trivial⟩, fun he => ⟨⟨?_, ?_⟩, by omega, by omega, by omega, by omega, ?_, trivial⟩⟩, fun h10 => ⟨⟨fun _ => ?_, fun _ => trivial⟩, trivial⟩⟩⟩⟩
    · have := congrArg List.length h
      rw [List.length_take, List.length_take] at this
      omega
    · exfalso
      apply hn
      have e := congrArg (fun l : List Int => l.getD i.toNat 0) h
      simp only [List.getD_eq_getElem?_getD, List.getElem?_take] at e
      rw [if_pos (by omega), if_pos (by omega)] at e
      simpa [List.getD_eq_getElem?_getD] using e
    · show (-(2 ^ 63) : Int) ≤ _; omega
    · show _ ≤ (2 ^ 63 - 1 : Int); omega
    · have e : (i + 1).toNat = i.toNat + 1 := by omega
      rw [e, take_getD A _ (by omega), take_getD B _ (by omega), h9, he]
    · have : i = m := by omega
      rw [← heq, ← this]; exact h9
end
end Go.Proofs.Ytmjonggabppgaaa

/- Numbers as their owner hands them in: a new list, two marks behind. -/
set_option linter.unusedSimpArgs false
set_option linter.unusedVariables false
namespace Go.Proofs.Ytmjonggabppgaaa
noncomputable section
open Go.Eng
def lentCtr : Ctr := ⟨[.int, .int, .int, .int, .ints, .int],
  [.one (.slice (ai 0) (ai 1) (.int 0) (.int 0) (ai 2) (ai 3) 1)], [rdI 0 0],
  [eLe (.int 0) (ai 2), eLe (ai 2) (.f1 30 (xsA 4)), eLe (ai 2) (ai 3), eLe (ai 2) (.int 17592186044414)], [.int, .ints, .int],
  .one (.slice (ai 6) (.int 0) (.int 0) (.int 0) (ai 2) (ai 8) 1), [rdI 0 0, .arr (.ints .i64) (ai 6) (xsA 7) (ai 8)],
  [eEq (ai 8) (SX.mk2 40 (ai 2) (.int 2)), eLe (.int 0) (ai 6), .f2 153 (xsA 7) (.f2 119 (.f2 113 (xsA 4) (ai 2)) (.f2 122 (.int (-71)) (.f2 122 (.int (-72)) (.f1 152 (.int 0)))))]⟩
def lentCx : Cx := { specs := [], anns := [] }
-- BEGIN VC lent
def lentVc : VC := (.imp (.f2 47 (.int 0) (.at .int 2)) (.imp (.f2 47 (.at .int 2) (.f1 30 (.at .ints 4))) (.imp (.f2 47 (.at .int 2) (.at .int 3)) (.imp (.f2 47 (.at
    .int 2) (.int 17592186044414)) (.need (.f1 23 (.f2 40 (.at .int 2) (.int 2))) (.need (.f2 47 (.int 0) (.f2 40 (.at .int 2) (.int 2))) (.need (.f2
    47 (.f2 40 (.at .int 2) (.int 2)) (.f2 40 (.at .int 2) (.int 2))) (.need (.f2 47 (.f2 42 (.f2 40 (.at .int 2) (.int 2)) (.int 8)) (.int
    140737488355328)) (.all 6 .int (.imp (.f2 47 (.int 0) (.at .int 6)) (.need (.f2 46 (.at .int 2) (.f2 40 (.at .int 2) (.int 2))) (.need (.f2 46 (.at
    .int 2) (.f2 40 (.f1 30 (.f2 113 (.f2 125 (.f2 40 (.at .int 2) (.int 2)) (.int 0)) (.int 0))) (.f2 40 (.f1 30 (.f2 113 (.f2 113 (.at .ints 4) (.at
    .int 2)) (.f2 51 (.at .int 2) (.f2 40 (.at .int 2) (.int 2))))) (.f1 30 (.f2 116 (.f2 125 (.f2 40 (.at .int 2) (.int 2)) (.int 0)) (.f2 51 (.at
    .int 2) (.f2 40 (.at .int 2) (.int 2)))))))) (.need (.f1 23 (.f2 40 (.at .int 2) (.int 1))) (.need (.f2 47 (.int 0) (.f2 40 (.at .int 2) (.int 1)))
    (.need (.f2 46 (.f2 40 (.at .int 2) (.int 1)) (.f2 40 (.at .int 2) (.int 2))) (.need (.f2 46 (.f2 40 (.at .int 2) (.int 1)) (.f2 40 (.f1 30 (.f2
    113 (.f2 125 (.f2 40 (.at .int 2) (.int 2)) (.int 0)) (.int 0))) (.f2 40 (.f1 30 (.f2 113 (.f2 113 (.at .ints 4) (.at .int 2)) (.f2 51 (.at .int 2)
    (.f2 40 (.at .int 2) (.int 2))))) (.f1 30 (.f2 116 (.f2 125 (.f2 40 (.at .int 2) (.int 2)) (.int 0)) (.f2 51 (.at .int 2) (.f2 40 (.at .int 2)
    (.int 2)))))))) (.need (.f2 47 (.at .int 2) (.f2 40 (.at .int 2) (.int 2))) (.need (.f2 45 (.f2 40 (.at .int 2) (.int 2)) (.f2 40 (.at .int 2)
    (.int 2))) (.need (.f2 153 (.f3 130 (.f3 130 (.f2 119 (.f2 113 (.f2 125 (.f2 40 (.at .int 2) (.int 2)) (.int 0)) (.int 0)) (.f2 119 (.f2 113 (.f2
    113 (.at .ints 4) (.at .int 2)) (.f2 51 (.at .int 2) (.f2 40 (.at .int 2) (.int 2)))) (.f2 116 (.f2 125 (.f2 40 (.at .int 2) (.int 2)) (.int 0))
    (.f2 51 (.at .int 2) (.f2 40 (.at .int 2) (.int 2)))))) (.at .int 2) (.int (-(70 + 1)))) (.f2 40 (.at .int 2) (.int 1)) (.int (-(71 + 1)))) (.f2
    119 (.f2 113 (.at .ints 4) (.at .int 2)) (.f2 122 (.int (-(70 + 1))) (.f2 122 (.int (-(71 + 1))) (.f1 152 (.int 0)))))) .tt)))))))))))))))))))
theorem lent_vc : vcOf Try.prog lentCx 10 11 lentCtr = lentVc := by kernel_rfl
-- END VC lent
theorem lent_list (L : List Int) (n : Nat) (h : n ≤ L.length) :
    (((List.replicate (n + 2) (0 : Int)).take 0 ++ ((L.take n).take n ++ (List.replicate (n + 2) (0 : Int)).drop n)).set n (-71)).set (n + 1) (-72) = L.take n ++ [-71, -72] := by
  have hl : (L.take n).length = n := by rw [List.length_take]; omega
  have hd : (List.replicate (n + 2) (0 : Int)).drop n = [0, 0] := by rw [List.drop_replicate]; simp [show n + 2 - n = 2 by omega]
  rw [List.take_zero, List.nil_append, List.take_of_length_le (by omega), hd, List.set_append_right _ _ (by omega), List.set_append_right _ _ (by omega), hl]
  simp [show n + 1 - n = 1 by omega]
theorem lent_ok {G : Type} (S : Sig G) : CtrOk S Try.prog 11 lentCtr := by
  refine vcOf_sound S (C := lentCx) (fuel := 10) ⟨fun f sps h => by simp [lentCx, assoc] at h, fun f l h i sp args hm => ?_, fun f sps h => by simp [lentCx, assoc] at h⟩ fun ρ => ?_
  · simp only [lentCx, assoc] at h
    cases h
  · rw [lent_vc]
    simp only [lentVc, VC.den, SX.den, U.co, Env.upd, p23, p45, p46, p47, p153, ap1_30, ap1_152, ap2_40, ap2_42, ap2_51i, ap2_113, ap2_116, ap2_119, ap2_122, ap2_125, ap3_130, U.toInt_int, U.toInts_ints, U.toBytes_bytes, U.toRows_rows, if_true, if_false, Nat.reduceEqDiff, reduceIte]
    generalize (ρ 4).toInts = A
    generalize (ρ 2).toInt = m
    generalize (ρ 3).toInt = c
    intro h1 h2 h3 h4
    have hmin : imin m (m + 2) = m := imin_left (by omega)
    have e2 : (m + 2).toNat = m.toNat + 2 := by omega
    have e1 : (m + 1).toNat = m.toNat + 1 := by omega
    simp only [hmin]
    rw [e2, e1]
    have hA : (A.take m.toNat).length = m.toNat := by rw [List.length_take]; omega
    repeat' (first | exact trivial | apply And.intro | intro _)
    all_goals first
      | omega
      | (show (-(2 ^ 63) : Int) ≤ _; omega)
      | (show _ ≤ (2 ^ 63 - 1 : Int); omega)
      | (simp only [List.length_take, List.length_drop, List.length_replicate]; omega)
      | exact lent_list A m.toNat (by omega)
end
end Go.Proofs.Ytmjonggabppgaaa

/- slices.CompactFunc over entries by their page: it is shorter just if two neighbours bear one page. -/
set_option linter.unusedSimpArgs false
set_option linter.unusedVariables false
namespace Go.Proofs.Ytmjonggabppgaaa
noncomputable section
open Go.Eng
def enE : En := .rows [.int .i64, .int .i64]
def rwA (n : Nat) : SX := .at .rows n
/-- No two neighbours among the first n bear one page. -/
def adjB (R : List (List Int)) (n : Int) : Bool := (List.range n.toNat).all fun i => i == 0 || (R.getD i []).getD 0 0 != (R.getD (i - 1) []).getD 0 0
def adjX (x l : SX) : SX := .us .bool 0 x l (.int 0) (.int 0)
def compactCtr : Ctr := ⟨[.int, .rows, .int, .int, .int],
  [.one (.slice (ai 0) (.int 0) (.int 0) (.int 0) (ai 2) (ai 3) 2), .one (.fn 59)], [.arr enE (ai 0) (rwA 1) (ai 4)],
  [eLe (.int 0) (ai 2), eLe (ai 2) (.f1 32 (rwA 1)), eLe (ai 2) (ai 3), eLe (ai 2) (.int 140737488355328)], [.rows, .int],
  .one (.slice (ai 0) (.int 0) (.int 0) (.int 0) (ai 6) (ai 3) 2), [.arr enE (ai 0) (rwA 5) (ai 4)],
  [eLe (.int 0) (ai 6), eLe (ai 6) (ai 2), .f2 48 (.f2 45 (ai 6) (ai 2)) (adjX (rwA 1) (ai 2))]⟩
def compactInv1 : Inv := ⟨[.int], [(5, .one (.int .i64 (di 0)))], [], [eLe (.int 1) (di 0), eLe (di 0) (ai 2), adjX (rwA 1) (di 0)], .f2 41 (ai 2) (di 0)⟩
def compactInv2 : Inv := ⟨[.int, .int, .rows, .int, .int, .int], [(5, .one (.int .i64 (di 0))), (7, .one (.int .i64 (di 1))), (6, .one (.slice (ai 0) (.int 0) (di 3) (.int 0) (di 4) (di 5) 2))], [.arr enE (ai 0) (rwA 1000002) (ai 4)],
  [eLe (.int 1) (di 1), eLe (di 1) (di 4), eLe (.int 1) (di 3), eLe (di 3) (di 0), eLt (di 0) (.f2 40 (di 3) (di 1)), eEq (.f2 40 (di 3) (di 4)) (ai 2), eLe (di 4) (di 5), eEq (.f1 32 (rwA 1000002)) (.f1 32 (rwA 1))], .f2 41 (di 4) (di 1)⟩
def compactCx : Cx := { specs := [], anns := [(57, [(4, .inv compactInv1), (9, .inv compactInv2)])] }
def compactVc : VC := .imp (.f2 47 (.int 0) (.at .int 2)) (.imp (.f2 47 (.at .int 2) (.f1 32 (.at .rows 1))) (.imp (.f2 47 (.at .int 2) (.at .int 3)) (.imp (.f2 47 (.at 
    .int 2) (.int 140737488355328)) (.and (.imp (.f2 46 (.at .int 2) (.int 2)) (.need (.f2 47 (.at .int 2) (.at .int 2)) (.need (.f2 48 (.f2 45 (.at .int 
    2) (.at .int 2)) (.us .bool 0 (.at .rows 1) (.at .int 2) (.int 0) (.int 0))) (.tt)))) (.imp (.f2 47 (.int 2) (.at .int 2)) (.need (.f2 47 (.int 1) 
    (.at .int 2)) (.need (.us .bool 0 (.at .rows 1) (.int 1) (.int 0) (.int 0)) (.all 5 .int (.imp (.f2 47 (.int 1) (.at .int 5)) (.imp (.f2 47 (.at .int 
    5) (.at .int 2)) (.imp (.us .bool 0 (.at .rows 1) (.at .int 5) (.int 0) (.int 0)) (.and (.imp (.f2 46 (.at .int 5) (.at .int 2)) (.need (.f2 47 (.int 
    0) (.at .int 5)) (.need (.f2 46 (.at .int 5) (.f1 32 (.at .rows 1))) (.need (.f1 23 (.f2 40 (.at .int 5) (.int (-1)))) (.need (.f2 47 (.int 0) (.f2 40 
    (.at .int 5) (.int (-1)))) (.need (.f2 46 (.f2 40 (.at .int 5) (.int (-1))) (.at .int 2)) (.need (.f2 46 (.f2 40 (.at .int 5) (.int (-1))) (.f1 32 
    (.at .rows 1))) (.all 6 .int (.imp (.f2 47 (.int 0) (.at .int 6)) (.all 7 .int (.imp (.f2 47 (.int 0) (.at .int 7)) (.and (.imp (.f2 45 (.f3 112 (.at 
    .rows 1) (.at .int 5) (.int 0)) (.f3 112 (.at .rows 1) (.f2 40 (.at .int 5) (.int (-1))) (.int 0))) (.need (.f2 47 (.int 0) (.at .int 3)) (.need (.f2 
    47 (.int 1) (.f2 41 (.at .int 2) (.at .int 5))) (.need (.f2 47 (.at .int 5) (.at .int 5)) (.need (.f2 46 (.at .int 5) (.f2 40 (.at .int 5) (.int 1))) 
    (.need (.f2 45 (.f2 40 (.at .int 5) (.f2 41 (.at .int 2) (.at .int 5))) (.at .int 2)) (.need (.f2 47 (.f2 41 (.at .int 2) (.at .int 5)) (.f2 41 (.at 
    .int 3) (.at .int 5))) (.need (.f2 45 (.f1 32 (.at .rows 1)) (.f1 32 (.at .rows 1))) (.all 8 .int (.all 9 .int (.all 10 .rows (.all 11 .int (.all 12 
    .int (.all 13 .int (.imp (.f2 47 (.int 1) (.at .int 9)) (.imp (.f2 47 (.at .int 9) (.at .int 12)) (.imp (.f2 47 (.int 1) (.at .int 11)) (.imp (.f2 47 
    (.at .int 11) (.at .int 8)) (.imp (.f2 46 (.at .int 8) (.f2 40 (.at .int 11) (.at .int 9))) (.imp (.f2 45 (.f2 40 (.at .int 11) (.at .int 12)) (.at 
    .int 2)) (.imp (.f2 47 (.at .int 12) (.at .int 13)) (.imp (.f2 45 (.f1 32 (.at .rows 10)) (.f1 32 (.at .rows 1))) (.need (.f2 47 (.int 0) (.at .int 
    12)) (.and (.imp (.f2 46 (.at .int 9) (.at .int 12)) (.need (.f2 47 (.int 0) (.at .int 9)) (.need (.f2 47 (.int 0) (.at .int 11)) (.need (.f2 46 (.f2 
    40 (.at .int 11) (.at .int 9)) (.f1 32 (.at .rows 10))) (.need (.f2 46 (.int 0) (.at .int 13)) (.need (.f2 47 (.int 0) (.f2 40 (.at .int 11) (.at .int 
    9))) (.need (.f1 23 (.f2 40 (.at .int 9) (.int (-1)))) (.need (.f2 47 (.int 0) (.f2 40 (.at .int 9) (.int (-1)))) (.need (.f2 46 (.f2 40 (.at .int 9) 
    (.int (-1))) (.at .int 12)) (.need (.f2 46 (.f2 40 (.at .int 11) (.f2 40 (.at .int 9) (.int (-1)))) (.f1 32 (.at .rows 10))) (.need (.f2 47 (.int 0) 
    (.f2 40 (.at .int 11) (.f2 40 (.at .int 9) (.int (-1))))) (.all 14 .int (.imp (.f2 47 (.int 0) (.at .int 14)) (.all 15 .int (.imp (.f2 47 (.int 0) 
    (.at .int 15)) (.and (.imp (.f1 2 (.f2 45 (.f3 112 (.at .rows 10) (.f2 40 (.at .int 11) (.at .int 9)) (.int 0)) (.f3 112 (.at .rows 10) (.f2 40 (.at 
    .int 11) (.f2 40 (.at .int 9) (.int (-1)))) (.int 0)))) (.need (.f2 47 (.int 0) (.at .int 8)) (.need (.f2 46 (.at .int 8) (.at .int 2)) (.need (.f2 46 
    (.at .int 8) (.f1 32 (.at .rows 10))) (.need (.f1 23 (.f2 40 (.at .int 8) (.int 1))) (.need (.f1 23 (.f2 40 (.at .int 9) (.int 1))) (.need (.f2 47 
    (.int 0) (.f2 41 (.at .int 12) (.f2 40 (.at .int 9) (.int 1)))) (.need (.f2 46 (.f2 41 (.at .int 12) (.f2 40 (.at .int 9) (.int 1))) (.f2 41 (.at .int 
    12) (.at .int 9))) (.need (.f2 47 (.int 1) (.f2 40 (.at .int 9) (.int 1))) (.need (.f2 47 (.f2 40 (.at .int 9) (.int 1)) (.at .int 12)) (.need (.f2 47 
    (.at .int 11) (.f2 40 (.at .int 8) (.int 1))) (.need (.f2 46 (.f2 40 (.at .int 8) (.int 1)) (.f2 40 (.at .int 11) (.f2 40 (.at .int 9) (.int 1)))) 
    (.tt))))))))))))) (.imp (.f2 45 (.f3 112 (.at .rows 10) (.f2 40 (.at .int 11) (.at .int 9)) (.int 0)) (.f3 112 (.at .rows 10) (.f2 40 (.at .int 11) 
    (.f2 40 (.at .int 9) (.int (-1)))) (.int 0))) (.need (.f1 23 (.f2 40 (.at .int 9) (.int 1))) (.need (.f2 47 (.int 0) (.f2 41 (.at .int 12) (.f2 40 
    (.at .int 9) (.int 1)))) (.need (.f2 46 (.f2 41 (.at .int 12) (.f2 40 (.at .int 9) (.int 1))) (.f2 41 (.at .int 12) (.at .int 9))) (.need (.f2 47 
    (.int 1) (.f2 40 (.at .int 9) (.int 1))) (.need (.f2 47 (.f2 40 (.at .int 9) (.int 1)) (.at .int 12)) (.need (.f2 46 (.at .int 8) (.f2 40 (.at .int 
    11) (.f2 40 (.at .int 9) (.int 1)))) (.tt)))))))))))))))))))))))) (.imp (.f2 47 (.at .int 12) (.at .int 9)) (.need (.f2 47 (.int 0) (.at .int 8)) 
    (.need (.f2 47 (.at .int 8) (.at .int 2)) (.need (.f2 47 (.int 0) (.f2 41 (.at .int 2) (.at .int 8))) (.need (.f2 47 (.f2 41 (.at .int 2) (.at .int 
    8)) (.f2 41 (.at .int 3) (.at .int 8))) (.need (.f2 47 (.f2 40 (.at .int 8) (.f2 41 (.at .int 2) (.at .int 8))) (.f1 32 (.at .rows 10))) (.need (.f2 
    47 (.at .int 8) (.at .int 3)) (.need (.f2 48 (.f2 45 (.at .int 8) (.at .int 2)) (.us .bool 0 (.at .rows 1) (.at .int 2) (.int 0) (.int 0))) 
    (.tt))))))))))))))))))))))))))))))))) (.imp (.f1 2 (.f2 45 (.f3 112 (.at .rows 1) (.at .int 5) (.int 0)) (.f3 112 (.at .rows 1) (.f2 40 (.at .int 5) 
    (.int (-1))) (.int 0)))) (.need (.f1 23 (.f2 40 (.at .int 5) (.int 1))) (.need (.f2 47 (.int 0) (.f2 41 (.at .int 2) (.f2 40 (.at .int 5) (.int 1)))) 
    (.need (.f2 46 (.f2 41 (.at .int 2) (.f2 40 (.at .int 5) (.int 1))) (.f2 41 (.at .int 2) (.at .int 5))) (.need (.f2 47 (.int 1) (.f2 40 (.at .int 5) 
    (.int 1))) (.need (.f2 47 (.f2 40 (.at .int 5) (.int 1)) (.at .int 2)) (.need (.us .bool 0 (.at .rows 1) (.f2 40 (.at .int 5) (.int 1)) (.int 0) (.int 
    0)) (.tt)))))))))))))))))))) (.imp (.f2 47 (.at .int 2) (.at .int 5)) (.need (.f2 47 (.at .int 2) (.at .int 2)) (.need (.f2 48 (.f2 45 (.at .int 2) 
    (.at .int 2)) (.us .bool 0 (.at .rows 1) (.at .int 2) (.int 0) (.int 0))) (.tt))))))))))))))))
theorem compact_vc : vcOf Try.prog compactCx 10 57 compactCtr = compactVc := by kernel_rfl
theorem i64_min' : IntKind.min .i64 = -9223372036854775808 := rfl
theorem i64_max' : IntKind.max .i64 = 9223372036854775807 := rfl
def pg (R : List (List Int)) (i : Nat) : Int := (R.getD i []).getD 0 0
theorem adjB_iff (R : List (List Int)) (n : Int) : adjB R n = true ↔ ∀ i : Nat, 1 ≤ i → i < n.toNat → pg R i ≠ pg R (i - 1) := by
  unfold adjB
  rw [List.all_eq_true]
  constructor
  · intro h i h1 h2
    have := h i (List.mem_range.2 h2)
    simp only [Bool.or_eq_true, beq_iff_eq, bne_iff_ne, ne_eq] at this
    rcases this with h0 | h0
    · omega
    · exact h0
  · intro h i hi
    rw [List.mem_range] at hi
    simp only [Bool.or_eq_true, beq_iff_eq, bne_iff_ne, ne_eq]
    by_cases h0 : i = 0
    · exact .inl h0
    · exact .inr (h i (by omega) hi)
theorem adjB_small (R : List (List Int)) (n : Int) (h : n < 2) : adjB R n = true := (adjB_iff R n).2 fun i h1 h2 => by omega
theorem adjB_step (R : List (List Int)) (n : Int) (h0 : 1 ≤ n) (h : adjB R n = true) (hne : pg R n.toNat ≠ pg R (n + -1).toNat) : adjB R (n + 1) = true := by
  rw [adjB_iff] at *
  intro i h1 h2
  by_cases e : i = n.toNat
  · subst e
    rw [show n.toNat - 1 = (n + -1).toNat by omega]; exact hne
  · exact h i h1 (by omega)
theorem adjB_dup (R : List (List Int)) (n m : Int) (h0 : 1 ≤ n) (h1 : n < m) (he : pg R n.toNat = pg R (n + -1).toNat) : adjB R m = false := by
  cases h : adjB R m
  · rfl
  · rw [adjB_iff] at h
    exfalso
    apply h n.toNat (by omega) (by omega)
    rw [show n.toNat - 1 = (n + -1).toNat by omega]; exact he
theorem compact_ok {G : Type} (S : Sig G) (hS : ∀ a b c d, S.usr 0 a b c d = .bool (adjB a.toRows b.toInt)) : CtrOk S Try.prog 57 compactCtr := by
  refine vcOf_sound S (C := compactCx) (fuel := 10) ⟨fun f sps h => by simp [compactCx, assoc] at h, fun f l h i sp args hm => ?_, fun f sps h => by simp [compactCx, assoc] at h⟩ fun ρ => ?_
  · simp only [compactCx, assoc] at h
    cases hb : Nat.beq 57 f
    · rw [hb] at h; cases h
    · rw [hb] at h; cases h
      simp at hm
  · rw [compact_vc]
    simp only [compactVc, VC.den, SX.den, U.co, Env.upd, hS, p23, p46, p47, ap1_2, ap1_32, ap2_40, ap2_41, ap2_45, ap2_48, ap3_112, U.toProp_bool, U.toBool_bool, Bool.not_eq_true', beq_eq_false_iff_ne, ne_eq, beq_iff_eq, i64_min', i64_max', Int.toNat_zero, U.toInt_int, U.toInts_ints, U.toBytes_bytes, U.toRows_rows, if_true, if_false, Nat.reduceEqDiff, reduceIte]
    generalize (ρ 1).toRows = R
    generalize (ρ 2).toInt = m
    generalize (ρ 3).toInt = c
    intro h1 h2 h3 h4
    refine ⟨fun hm => ⟨by omega, ?_, trivial⟩, fun hm => ⟨by omega, adjB_small R 1 (by omega), fun x x1 x2 x3 => ⟨fun x4 => ⟨by omega, by omega, ⟨by omega, by omega⟩, by omega, by omega, by omega, fun p _ q _ => ⟨fun he => ?_,
      fun hne => ⟨⟨by omega, by omega⟩, by omega, by omega, by omega, by omega, adjB_step R x x1 x3 hne, trivial⟩⟩⟩, fun x4 => ⟨by omega, ?_, trivial⟩⟩⟩⟩
    · rw [adjB_small R m hm]; simp
    · have hd := adjB_dup R x m x1 x4 he
      repeat' (first | exact trivial | apply And.intro | intro _)
      all_goals first
        | omega
        | (rw [hd]; simp; omega)
    · have : x = m := by omega
      subst this
      rw [x3]; simp
end
end Go.Proofs.Ytmjonggabppgaaa

/- The predicates of the free list's contracts. -/
set_option linter.unusedSimpArgs false
set_option linter.unusedVariables false
namespace Go.Proofs.Ytmjonggabppgaaa
noncomputable section
open Go.Eng
def pageOf (r : List Int) : Int := r.getD 0 0
/-- The second is the first, sorted by page. -/
def SortP (x y : List (List Int)) : Prop := y.Perm x ∧ y.Pairwise fun a b => pageOf a ≤ pageOf b
open Classical in
def sortB (x y : List (List Int)) : Bool := decide (SortP x y)
def allNB (l : List Int) (n : Int) : Bool := (l.take n.toNat).all fun p => decide (2 ≤ p) && decide (p < 65536)
def entsB (l : List Int) (n : Int) : List (List Int) := (l.take n.toNat).map fun p => [p, 0]
def distB (l : List Int) (n : Int) : Bool := decide (l.take n.toNat).Nodup
/-- Is the page there among the first n? -/
def hasB (R : List (List Int)) (n p : Int) : Bool := (R.take n.toNat).any fun r => pageOf r == p
/-- The two numbers of each of the first n entries. -/
def nrm (R : List (List Int)) (n : Int) : List (List Int) := (R.take n.toNat).map fun r => [r.getD 0 0, r.getD 1 0]
/-- An entry put ahead of the first that has a greater page. -/
def insRow (e : List Int) : List (List Int) → List (List Int)
  | [] => [e]
  | r :: t => if pageOf e < pageOf r then e :: r :: t else r :: insRow e t
def inB (R : List (List Int)) (n : Int) (e : List Int) (o : List (List Int)) : Bool := (o == insRow e (nrm R n)) && (nrm R n).any fun r => decide (pageOf e < pageOf r)
def outB (R : List (List Int)) (n : Int) (e : List Int) (o : List (List Int)) : Bool := (o == nrm R n) && (nrm R n).all fun r => decide (pageOf r ≤ pageOf e)
def FreeSig {G : Type} (S : Sig G) : Prop :=
  (∀ a b c d, S.usr 0 a b c d = .bool (adjB a.toRows b.toInt)) ∧ (∀ a b c d, S.usr 1 a b c d = .bool (sortB a.toRows b.toRows)) ∧ (∀ a b c d, S.usr 2 a b c d = .bool (allNB a.toInts b.toInt)) ∧
  (∀ a b c d, S.usr 3 a b c d = .rows (entsB a.toInts b.toInt)) ∧ (∀ a b c d, S.usr 4 a b c d = .bool (distB a.toInts b.toInt)) ∧ (∀ a b c d, S.usr 5 a b c d = .bool (a.toRows == b.toRows)) ∧ (∀ a b c d, S.usr 6 a b c d = .bool (hasB a.toRows b.toInt c.toInt)) ∧ (∀ a b c d, S.usr 7 a b c d = .rows (insRow c.toInts (nrm a.toRows b.toInt))) ∧
  (∀ a b c d, S.usr 8 a b c d = .bool (inB a.toRows b.toInt c.toInts d.toRows)) ∧ (∀ a b c d, S.usr 9 a b c d = .bool (outB a.toRows b.toInt c.toInts d.toRows))
def sortX (x y : SX) : SX := .us .bool 1 x y (.int 0) (.int 0)
def allNX (l n : SX) : SX := .us .bool 2 l n (.int 0) (.int 0)
def entsX (l n : SX) : SX := .us .rows 3 l n (.int 0) (.int 0)
def distX (l n : SX) : SX := .us .bool 4 l n (.int 0) (.int 0)
def eqRX (x y : SX) : SX := .us .bool 5 x y (.int 0) (.int 0)
def hasX (x l p : SX) : SX := .us .bool 6 x l p (.int 0)
def sortCtr : Ctr := ⟨[.int, .rows, .int, .int, .int],
  [.one (.slice (ai 0) (.int 0) (.int 0) (.int 0) (ai 2) (ai 3) 2), .one (.fn 55)], [.arr enE (ai 0) (rwA 1) (ai 4)],
  [eLe (.int 0) (ai 2), eEq (ai 2) (.f1 32 (rwA 1)), eLe (ai 2) (ai 3), eLe (ai 2) (.int 140737488355328)], [.rows],
  .tup [], [.arr enE (ai 0) (rwA 5) (ai 4)], [eEq (.f1 32 (rwA 5)) (.f1 32 (rwA 1)), sortX (rwA 1) (rwA 5)]⟩
end
end Go.Proofs.Ytmjonggabppgaaa

/- free.New of numbers that are pages, no two alike: a list of them, sorted. -/
set_option linter.unusedSimpArgs false
set_option linter.unusedVariables false
namespace Go.Proofs.Ytmjonggabppgaaa
noncomputable section
open Go.Eng
def newACtr : Ctr := ⟨[.int, .int, .int, .int, .ints, .int], [.one (.slice (ai 0) (ai 1) (.int 0) (.int 0) (ai 2) (ai 3) 1)], [rdI 0 0],
  [eLe (.int 0) (ai 2), eLe (ai 2) (.f1 30 (xsA 4)), eLe (ai 2) (.int 1048576), allNX (xsA 4) (ai 2), distX (xsA 4) (ai 2)], [.int, .int, .int, .rows],
  .tup [(false, [.ptr (ai 6) 0]), (false, [.int .i64 (.int 0)])], [rdI 0 0, .cel (ai 6) 0 [.slice (ai 7) (.int 0) (.int 0) (.int 0) (ai 2) (ai 8) 2, .slice (.int (-1)) (.int 0) (.int 0) (.int 0) (.int 0) (.int 0) 2, .int .i64 (.int 0)], .arr enE (ai 7) (rwA 9) (ai 8)],
  [sortX (entsX (xsA 4) (ai 2)) (rwA 9), eLe (.int 0) (ai 6)]⟩
def emptC : Ctr := ⟨[], [], [], [], [], .tup [], [.arr enE (.int (-1)) (.f1 154 (.int 0)) (.int 0)], []⟩
def newAInv : Inv := ⟨[.int, .int, .int, .rows, .int], [(11, .one (.int .i64 (di 0))), (4, .one (.ptr (di 4) 0))], [.cel (di 4) 0 [.slice (di 1) (.int 0) (.int 0) (.int 0) (di 0) (di 2) 2, .slice (.int (-1)) (.int 0) (.int 0) (.int 0) (.int 0) (.int 0) 2, .int .i64 (.int 0)], .arr enE (di 1) (rwA 1000003) (di 2)],
  [eLe (.int 0) (di 0), eLe (di 0) (ai 2), eLe (di 0) (di 2), eEq (.f1 32 (rwA 1000003)) (di 0), eqRX (rwA 1000003) (entsX (xsA 4) (di 0)), .f2 50 (eLe (.int 0) (di 1)) (eEq (di 0) (.int 0)), eLe (.int 0) (di 4)], .f2 41 (ai 2) (di 0)⟩
def newACx : Cx := { specs := [(57, [compactCtr]), (54, [sortCtr])], anns := [(27, [(3, .inv newAInv), (2, .ghost emptC [])])] }
def newAVc : VC := .imp (.f2 47 (.int 0) (.at .int 2)) (.imp (.f2 47 (.at .int 2) (.f1 30 (.at .ints 4))) (.imp (.f2 47 (.at .int 2) (.int 1048576)) (.imp (.us .bool 2 
    (.at .ints 4) (.at .int 2) (.int 0) (.int 0)) (.imp (.us .bool 4 (.at .ints 4) (.at .int 2) (.int 0) (.int 0)) (.all 6 .int (.imp (.f2 47 (.int 0) 
    (.at .int 6)) (.need (.us .bool 5 (.f1 154 (.int 0)) (.us .rows 3 (.at .ints 4) (.int 0) (.int 0) (.int 0)) (.int 0) (.int 0)) (.all 7 .int (.all 8 
    .int (.all 9 .int (.all 10 .rows (.all 11 .int (.imp (.f2 47 (.int 0) (.at .int 7)) (.imp (.f2 47 (.at .int 7) (.at .int 2)) (.imp (.f2 47 (.at .int 
    7) (.at .int 9)) (.imp (.f2 45 (.f1 32 (.at .rows 10)) (.at .int 7)) (.imp (.us .bool 5 (.at .rows 10) (.us .rows 3 (.at .ints 4) (.at .int 7) (.int 
    0) (.int 0)) (.int 0) (.int 0)) (.imp (.f2 50 (.f2 47 (.int 0) (.at .int 8)) (.f2 45 (.at .int 7) (.int 0))) (.imp (.f2 47 (.int 0) (.at .int 11)) 
    (.and (.imp (.f2 46 (.at .int 7) (.at .int 2)) (.need (.f2 46 (.at .int 7) (.f1 30 (.at .ints 4))) (.and (.imp (.f2 47 (.int 2) (.f2 110 (.at .ints 4) 
    (.at .int 7))) (.and (.imp (.f2 47 (.int 65536) (.f2 110 (.at .ints 4) (.at .int 7))) (.ff 60)) (.imp (.f2 46 (.f2 110 (.at .ints 4) (.at .int 7)) 
    (.int 65536)) (.all 12 .int (.imp (.f2 47 (.int 0) (.at .int 12)) (.need (.f2 47 (.at .int 7) (.f1 32 (.at .rows 10))) (.need (.f2 47 (.f2 42 (.f2 40 
    (.at .int 7) (.int 1)) (.int 16)) (.int 140737488355328)) (.all 13 .int (.all 14 .int (.imp (.f2 47 (.f2 40 (.at .int 7) (.int 1)) (.at .int 14)) 
    (.imp (.f2 50 (.f2 47 (.int 0) (.at .int 13)) (.f2 45 (.f2 40 (.at .int 7) (.int 1)) (.int 0))) (.need (.f1 23 (.f2 40 (.at .int 7) (.int 1))) (.need 
    (.f2 47 (.int 0) (.f2 41 (.at .int 2) (.f2 40 (.at .int 7) (.int 1)))) (.need (.f2 46 (.f2 41 (.at .int 2) (.f2 40 (.at .int 7) (.int 1))) (.f2 41 
    (.at .int 2) (.at .int 7))) (.need (.f2 47 (.int 0) (.f2 40 (.at .int 7) (.int 1))) (.need (.f2 47 (.f2 40 (.at .int 7) (.int 1)) (.at .int 2)) (.need 
    (.f2 45 (.f2 40 (.f1 32 (.f2 115 (.at .rows 10) (.at .int 7))) (.int 1)) (.f2 40 (.at .int 7) (.int 1))) (.need (.us .bool 5 (.f2 121 (.f2 115 (.at 
    .rows 10) (.at .int 7)) (.f2 124 (.f2 122 (.f2 110 (.at .ints 4) (.at .int 7)) (.f2 122 (.int 0) (.f1 152 (.int 0)))) (.f1 154 (.int 0)))) (.us .rows 
    3 (.at .ints 4) (.f2 40 (.at .int 7) (.int 1)) (.int 0) (.int 0)) (.int 0) (.int 0)) (.tt))))))))))))))))))) (.imp (.f2 46 (.f2 110 (.at .ints 4) (.at 
    .int 7)) (.int 2)) (.ff 60))))) (.imp (.f2 47 (.at .int 2) (.at .int 7)) (.need (.f2 45 (.at .int 7) (.f1 32 (.at .rows 10))) (.need (.f2 47 (.at .int 
    7) (.int 140737488355328)) (.all 12 .rows (.imp (.f2 45 (.f1 32 (.at .rows 12)) (.f1 32 (.at .rows 10))) (.imp (.us .bool 1 (.at .rows 10) (.at .rows 
    12) (.int 0) (.int 0)) (.and (.imp (.f2 46 (.at .int 8) (.int 0)) (.all 13 .rows (.all 14 .int (.imp (.f2 47 (.int 0) (.at .int 14)) (.imp (.f2 47 
    (.at .int 14) (.int 0)) (.imp (.f2 48 (.f2 45 (.at .int 14) (.int 0)) (.us .bool 0 (.f1 154 (.int 0)) (.int 0) (.int 0) (.int 0))) (.and (.imp (.f2 46 
    (.at .int 14) (.at .int 2)) (.ff 60)) (.imp (.f2 47 (.at .int 2) (.at .int 14)) (.need (.us .bool 1 (.us .rows 3 (.at .ints 4) (.at .int 2) (.int 0) 
    (.int 0)) (.at .rows 12) (.int 0) (.int 0)) (.need (.f2 45 (.at .int 2) (.at .int 7)) (.tt))))))))))) (.imp (.f2 47 (.int 0) (.at .int 8)) (.all 13 
    .int (.imp (.f2 47 (.int 0) (.at .int 13)) (.need (.f2 47 (.f2 42 (.at .int 7) (.int 16)) (.int 140737488355328)) (.need (.f2 47 (.at .int 7) (.f1 32 
    (.at .rows 12))) (.all 14 .int (.all 15 .int (.imp (.f2 47 (.at .int 7) (.at .int 15)) (.imp (.f2 50 (.f2 47 (.int 0) (.at .int 14)) (.f2 45 (.at .int 
    7) (.int 0))) (.need (.f2 47 (.at .int 7) (.f1 32 (.f2 115 (.at .rows 12) (.at .int 7)))) (.all 16 .rows (.all 17 .int (.imp (.f2 47 (.int 0) (.at 
    .int 17)) (.imp (.f2 47 (.at .int 17) (.at .int 7)) (.imp (.f2 48 (.f2 45 (.at .int 17) (.at .int 7)) (.us .bool 0 (.f2 115 (.at .rows 12) (.at .int 
    7)) (.at .int 7) (.int 0) (.int 0))) (.and (.imp (.f2 46 (.at .int 17) (.at .int 2)) (.ff 60)) (.imp (.f2 47 (.at .int 2) (.at .int 17)) (.need (.us 
    .bool 1 (.us .rows 3 (.at .ints 4) (.at .int 2) (.int 0) (.int 0)) (.at .rows 12) (.int 0) (.int 0)) (.need (.f2 45 (.at .int 2) (.at .int 7)) 
    (.tt)))))))))))))))))))))))))))))))))))))))))))))))
theorem newA_vc : vcOf Try.prog newACx 10 27 newACtr = newAVc := by kernel_rfl
theorem allNB_get {L : List Int} {m x : Int} (h : allNB L m = true) (hm : m ≤ L.length) (h0 : 0 ≤ x) (h1 : x < m) : 2 ≤ L.getD x.toNat 0 ∧ L.getD x.toNat 0 < 65536 := by
  unfold allNB at h
  rw [List.all_eq_true] at h
  have hl : x.toNat < L.length := by omega
  have := h L[x.toNat] (by
    rw [List.mem_iff_getElem?]
    exact ⟨x.toNat, by rw [List.getElem?_take_of_lt (by omega), List.getElem?_eq_getElem hl]⟩)
  simp only [Bool.and_eq_true, decide_eq_true_eq] at this
  simpa [List.getD_eq_getElem?_getD, List.getElem?_eq_getElem hl] using this
theorem ents_step (L : List Int) (x : Int) (h0 : 0 ≤ x) (h1 : x < L.length) : entsB L x ++ [[L.getD x.toNat 0, 0]] = entsB L (x + 1) := by
  unfold entsB
  rw [show (x + 1).toNat = x.toNat + 1 by omega, take_getD L _ (by omega), List.map_append]; rfl
theorem ents_pages (L : List Int) (m : Int) : (entsB L m).map pageOf = L.take m.toNat := by
  unfold entsB
  rw [List.map_map]
  have : (pageOf ∘ fun p => [p, 0]) = id := by funext p; rfl
  rw [this, List.map_id]
/-- What is sorted and has no two pages alike has no two neighbours alike. -/
theorem sorted_adj {L : List Int} {m : Int} {y : List (List Int)} (hd : distB L m = true) (hs : SortP (entsB L m) y) (n : Int) (hn : n ≤ y.length) : adjB y n = true := by
  rw [adjB_iff]
  intro i h1 h2 he
  have hp : (y.map pageOf).Nodup := by
    have := hs.1.map pageOf
    rw [ents_pages] at this
    exact this.nodup_iff.2 (of_decide_eq_true hd)
  have a1 : i < (y.map pageOf).length := by rw [List.length_map]; omega
  have a2 : i - 1 < (y.map pageOf).length := by rw [List.length_map]; omega
  have b1 : (y.map pageOf)[i] = pg y i := by
    have : i < y.length := by omega
    simp [pg, pageOf, List.getD_eq_getElem?_getD, List.getElem?_eq_getElem this]
  have b2 : (y.map pageOf)[i - 1] = pg y (i - 1) := by
    have : i - 1 < y.length := by omega
    simp [pg, pageOf, List.getD_eq_getElem?_getD, List.getElem?_eq_getElem this]
  exact List.pairwise_iff_getElem.1 hp (i - 1) i a2 a1 (by omega) (by rw [b1, b2, he])
theorem sortB_iff {x y : List (List Int)} : sortB x y = true ↔ SortP x y := by unfold sortB; simp
theorem newA_specs {G : Type} (S : Sig G) (hS : FreeSig S) (hsort : CtrOk S Try.prog 54 sortCtr) :
    ∀ f sps, assoc newACx.specs f = some sps → ∀ sp ∈ sps, sp.wf = true ∧ CtrOk S Try.prog f sp := by
  intro f sps h sp hm
  simp only [newACx, assoc] at h
  cases hb : Nat.beq 57 f
  · rw [hb] at h
    cases hb2 : Nat.beq 54 f
    · rw [hb2] at h; cases h
    · rw [hb2] at h; cases h
      rw [List.mem_singleton] at hm
      rw [← Nat.eq_of_beq_eq_true hb2, hm]
      exact ⟨by decide, hsort⟩
  · rw [hb] at h; cases h
    rw [List.mem_singleton] at hm
    rw [← Nat.eq_of_beq_eq_true hb, hm]
    exact ⟨by decide, compact_ok S hS.1⟩
theorem empt_gh {G : Type} (S : Sig G) : GhOk S emptC := by
  intro ch w0 F ρ w _ hs
  refine ⟨ρ, Ext.refl _ _, ?_, fun x hx => nomatch hx⟩
  have e : hpDen (S.wc ch) ρ w0 emptC.pre = emp := rfl
  rw [e, emp_star] at hs
  have e2 : hpDen (S.wc ch) ρ w0 emptC.post = star (arrDen (S.wc ch) enE (.int (-1)) (.rows []) (.int 0)) emp := rfl
  rw [e2, star_assoc, emp_star]
  refine sat_ex_mk [] (sat_and_mk rfl (sat_and_mk (Int.le_refl 0) (sat_and_mk (.inr rfl) ?_)))
  show Sat w0 (star (row _ 0 [] true) F) w
  rw [row_nil, emp_star]; exact hs
theorem newA_ok {G : Type} (S : Sig G) (hS : FreeSig S) (hsort : CtrOk S Try.prog 54 sortCtr) : CtrOk S Try.prog 27 newACtr := by
  refine vcOf_sound S (C := newACx) (fuel := 10) ⟨newA_specs S hS hsort, fun f l h i sp args hm => ?_, fun f sps h => by simp [newACx, assoc] at h⟩ fun ρ => ?_
  · simp only [newACx, assoc] at h
    cases hb : Nat.beq 27 f
    · rw [hb] at h; cases h
    · rw [hb] at h; cases h
      simp at hm
      obtain ⟨rfl, rfl, rfl⟩ := hm
      exact ⟨by decide, empt_gh S⟩
  · rw [newA_vc]
    obtain ⟨h0, h1, h2, h3, h4, h5, _⟩ := hS
    simp only [newAVc, VC.den, SX.den, U.co, Env.upd, h0, h1, h2, h3, h4, h5, p23, p46, p47, ap1_2, ap1_30, ap1_32, ap1_152, ap1_154, ap2_40, ap2_41, ap2_42, b46, b47, p50, ap2_45, ap2_48, ap2_110, ap2_115, ap2_121, ap2_122, ap2_124, ap3_112, U.toProp_bool, U.toBool_bool, Bool.not_eq_true', beq_eq_false_iff_ne, ne_eq, beq_iff_eq, Bool.or_eq_true, i64_min', i64_max', Int.toNat_zero, U.toInt_int, U.toInts_ints, U.toBytes_bytes, U.toRows_rows, if_true, if_false, Nat.reduceEqDiff, reduceIte]
    generalize (ρ 4).toInts = L
    generalize (ρ 2).toInt = m
    intro a1 a2 a3 a4 a5 p ap
    refine ⟨by simp [entsB], fun k b c R q k0 k1 k2 k3 k4 k5 k6 => ⟨fun hk => ⟨by omega, fun hp => ⟨fun hq => ?_, fun hq t ht => ⟨by omega, by omega, fun b' c' hc hb => ⟨⟨by omega, by omega⟩, by omega, by omega, by omega, by omega, ?_, ?_, trivial⟩⟩⟩, fun hq => ?_⟩,
      fun hk => ⟨by omega, by omega, fun R' hl hs => ⟨fun hb R2 n n0 n1 n2 => ⟨fun hn => ?_, fun hn => ⟨?_, by omega, trivial⟩⟩, fun hb t ht => ⟨by omega, by omega, fun b' c' hc hb' => ⟨?_, fun R2 n n0 n1 n2 => ⟨fun hn => ?_, fun hn => ⟨?_, by omega, trivial⟩⟩⟩⟩⟩⟩⟩⟩
    · have := allNB_get a4 a2 k0 hk; omega
    · rw [List.length_take]; omega
    · rw [List.take_of_length_le (by omega), k4]
      exact ents_step L k k0 (by omega)
    · have := allNB_get a4 a2 k0 hk; omega
    · omega
    · have : k = m := by omega
      rw [← this, ← k4]; exact hs
    · rw [List.length_take]; omega
    · have e : k = m := by omega
      rw [k4, e] at hs
      have hadj := sorted_adj a5 (sortB_iff.1 hs) k (by omega)
      rw [List.take_of_length_le (by omega), hadj] at n2
      have := eq_of_beq n2
      omega
    · have : k = m := by omega
      rw [← this, ← k4]; exact hs
end
end Go.Proofs.Ytmjonggabppgaaa

/- free.New where some number is no page: refused. -/
set_option linter.unusedSimpArgs false
set_option linter.unusedVariables false
namespace Go.Proofs.Ytmjonggabppgaaa
noncomputable section
open Go.Eng
def newBCtr : Ctr := ⟨[.int, .int, .int, .int, .ints, .int], [.one (.slice (ai 0) (ai 1) (.int 0) (.int 0) (ai 2) (ai 3) 1)], [rdI 0 0],
  [eLe (.int 0) (ai 2), eLe (ai 2) (.f1 30 (xsA 4)), eLe (ai 2) (.int 1048576), .f1 2 (allNX (xsA 4) (ai 2))], [],
  .tup [(false, [.ptr (.int (-1)) 0]), (false, [.int .i64 (.int 30)])], [rdI 0 0], []⟩
def newBInv : Inv := ⟨[.int, .int, .int, .rows, .int], [(11, .one (.int .i64 (di 0))), (4, .one (.ptr (di 4) 0))], [.cel (di 4) 0 [.slice (di 1) (.int 0) (.int 0) (.int 0) (di 0) (di 2) 2, .slice (.int (-1)) (.int 0) (.int 0) (.int 0) (.int 0) (.int 0) 2, .int .i64 (.int 0)], .arr enE (di 1) (rwA 1000003) (di 2)],
  [eLe (.int 0) (di 0), eLe (di 0) (ai 2), eLe (di 0) (di 2), eEq (.f1 32 (rwA 1000003)) (di 0), eqRX (rwA 1000003) (entsX (xsA 4) (di 0)), allNX (xsA 4) (di 0), .f2 50 (eLe (.int 0) (di 1)) (eEq (di 0) (.int 0))], .f2 41 (ai 2) (di 0)⟩
def newBCx : Cx := { specs := [(57, [compactCtr]), (54, [sortCtr])], anns := [(27, [(3, .inv newBInv), (2, .ghost emptC [])])] }
def newBVc : VC := .imp (.f2 47 (.int 0) (.at .int 2)) (.imp (.f2 47 (.at .int 2) (.f1 30 (.at .ints 4))) (.imp (.f2 47 (.at .int 2) (.int 1048576)) (.imp (.f1 2 (.us 
    .bool 2 (.at .ints 4) (.at .int 2) (.int 0) (.int 0))) (.all 6 .int (.imp (.f2 47 (.int 0) (.at .int 6)) (.need (.us .bool 5 (.f1 154 (.int 0)) (.us 
    .rows 3 (.at .ints 4) (.int 0) (.int 0) (.int 0)) (.int 0) (.int 0)) (.need (.us .bool 2 (.at .ints 4) (.int 0) (.int 0) (.int 0)) (.all 7 .int (.all 
    8 .int (.all 9 .int (.all 10 .rows (.all 11 .int (.imp (.f2 47 (.int 0) (.at .int 7)) (.imp (.f2 47 (.at .int 7) (.at .int 2)) (.imp (.f2 47 (.at .int 
    7) (.at .int 9)) (.imp (.f2 45 (.f1 32 (.at .rows 10)) (.at .int 7)) (.imp (.us .bool 5 (.at .rows 10) (.us .rows 3 (.at .ints 4) (.at .int 7) (.int 
    0) (.int 0)) (.int 0) (.int 0)) (.imp (.us .bool 2 (.at .ints 4) (.at .int 7) (.int 0) (.int 0)) (.imp (.f2 50 (.f2 47 (.int 0) (.at .int 8)) (.f2 45 
    (.at .int 7) (.int 0))) (.and (.imp (.f2 46 (.at .int 7) (.at .int 2)) (.need (.f2 46 (.at .int 7) (.f1 30 (.at .ints 4))) (.and (.imp (.f2 47 (.int 
    2) (.f2 110 (.at .ints 4) (.at .int 7))) (.and (.imp (.f2 47 (.int 65536) (.f2 110 (.at .ints 4) (.at .int 7))) (.tt)) (.imp (.f2 46 (.f2 110 (.at 
    .ints 4) (.at .int 7)) (.int 65536)) (.all 12 .int (.imp (.f2 47 (.int 0) (.at .int 12)) (.need (.f2 47 (.at .int 7) (.f1 32 (.at .rows 10))) (.need 
    (.f2 47 (.f2 42 (.f2 40 (.at .int 7) (.int 1)) (.int 16)) (.int 140737488355328)) (.all 13 .int (.all 14 .int (.imp (.f2 47 (.f2 40 (.at .int 7) (.int 
    1)) (.at .int 14)) (.imp (.f2 50 (.f2 47 (.int 0) (.at .int 13)) (.f2 45 (.f2 40 (.at .int 7) (.int 1)) (.int 0))) (.need (.f1 23 (.f2 40 (.at .int 7) 
    (.int 1))) (.need (.f2 47 (.int 0) (.f2 41 (.at .int 2) (.f2 40 (.at .int 7) (.int 1)))) (.need (.f2 46 (.f2 41 (.at .int 2) (.f2 40 (.at .int 7) 
    (.int 1))) (.f2 41 (.at .int 2) (.at .int 7))) (.need (.f2 47 (.int 0) (.f2 40 (.at .int 7) (.int 1))) (.need (.f2 47 (.f2 40 (.at .int 7) (.int 1)) 
    (.at .int 2)) (.need (.f2 45 (.f2 40 (.f1 32 (.f2 115 (.at .rows 10) (.at .int 7))) (.int 1)) (.f2 40 (.at .int 7) (.int 1))) (.need (.us .bool 5 (.f2 
    121 (.f2 115 (.at .rows 10) (.at .int 7)) (.f2 124 (.f2 122 (.f2 110 (.at .ints 4) (.at .int 7)) (.f2 122 (.int 0) (.f1 152 (.int 0)))) (.f1 154 (.int 
    0)))) (.us .rows 3 (.at .ints 4) (.f2 40 (.at .int 7) (.int 1)) (.int 0) (.int 0)) (.int 0) (.int 0)) (.need (.us .bool 2 (.at .ints 4) (.f2 40 (.at 
    .int 7) (.int 1)) (.int 0) (.int 0)) (.tt)))))))))))))))))))) (.imp (.f2 46 (.f2 110 (.at .ints 4) (.at .int 7)) (.int 2)) (.tt))))) (.imp (.f2 47 
    (.at .int 2) (.at .int 7)) (.need (.f2 45 (.at .int 7) (.f1 32 (.at .rows 10))) (.need (.f2 47 (.at .int 7) (.int 140737488355328)) (.all 12 .rows 
    (.imp (.f2 45 (.f1 32 (.at .rows 12)) (.f1 32 (.at .rows 10))) (.imp (.us .bool 1 (.at .rows 10) (.at .rows 12) (.int 0) (.int 0)) (.and (.imp (.f2 46 
    (.at .int 8) (.int 0)) (.all 13 .rows (.all 14 .int (.imp (.f2 47 (.int 0) (.at .int 14)) (.imp (.f2 47 (.at .int 14) (.int 0)) (.imp (.f2 48 (.f2 45 
    (.at .int 14) (.int 0)) (.us .bool 0 (.f1 154 (.int 0)) (.int 0) (.int 0) (.int 0))) (.and (.imp (.f2 46 (.at .int 14) (.at .int 2)) (.need (.bool 
    false) (.tt))) (.imp (.f2 47 (.at .int 2) (.at .int 14)) (.need (.bool false) (.need (.f2 45 (.int (-1)) (.at .int 11)) (.tt))))))))))) (.imp (.f2 47 
    (.int 0) (.at .int 8)) (.all 13 .int (.imp (.f2 47 (.int 0) (.at .int 13)) (.need (.f2 47 (.f2 42 (.at .int 7) (.int 16)) (.int 140737488355328)) 
    (.need (.f2 47 (.at .int 7) (.f1 32 (.at .rows 12))) (.all 14 .int (.all 15 .int (.imp (.f2 47 (.at .int 7) (.at .int 15)) (.imp (.f2 50 (.f2 47 (.int 
    0) (.at .int 14)) (.f2 45 (.at .int 7) (.int 0))) (.need (.f2 47 (.at .int 7) (.f1 32 (.f2 115 (.at .rows 12) (.at .int 7)))) (.all 16 .rows (.all 17 
    .int (.imp (.f2 47 (.int 0) (.at .int 17)) (.imp (.f2 47 (.at .int 17) (.at .int 7)) (.imp (.f2 48 (.f2 45 (.at .int 17) (.at .int 7)) (.us .bool 0 
    (.f2 115 (.at .rows 12) (.at .int 7)) (.at .int 7) (.int 0) (.int 0))) (.and (.imp (.f2 46 (.at .int 17) (.at .int 2)) (.need (.bool false) (.tt))) 
    (.imp (.f2 47 (.at .int 2) (.at .int 17)) (.need (.bool false) (.need (.f2 45 (.int (-1)) (.at .int 11)) 
    (.tt)))))))))))))))))))))))))))))))))))))))))))))))
theorem newB_vc : vcOf Try.prog newBCx 10 27 newBCtr = newBVc := by kernel_rfl
theorem allNB_step {L : List Int} {x : Int} (h0 : 0 ≤ x) (hl : x < L.length) (h : allNB L x = true) (h1 : 2 ≤ L.getD x.toNat 0) (h2 : L.getD x.toNat 0 < 65536) : allNB L (x + 1) = true := by
  unfold allNB at *
  rw [show (x + 1).toNat = x.toNat + 1 by omega, take_getD L _ (by omega), List.all_append, h]
  simp only [List.all_cons, List.all_nil, Bool.true_and, Bool.and_true, Bool.and_eq_true, decide_eq_true_eq]
  exact ⟨h1, h2⟩
theorem newB_specs {G : Type} (S : Sig G) (hS : FreeSig S) (hsort : CtrOk S Try.prog 54 sortCtr) :
    ∀ f sps, assoc newBCx.specs f = some sps → ∀ sp ∈ sps, sp.wf = true ∧ CtrOk S Try.prog f sp := by
  intro f sps h sp hm
  simp only [newBCx, assoc] at h
  cases hb : Nat.beq 57 f
  · rw [hb] at h
    cases hb2 : Nat.beq 54 f
    · rw [hb2] at h; cases h
    · rw [hb2] at h; cases h
      rw [List.mem_singleton] at hm
      rw [← Nat.eq_of_beq_eq_true hb2, hm]
      exact ⟨by decide, hsort⟩
  · rw [hb] at h; cases h
    rw [List.mem_singleton] at hm
    rw [← Nat.eq_of_beq_eq_true hb, hm]
    exact ⟨by decide, compact_ok S hS.1⟩
theorem newB_ok {G : Type} (S : Sig G) (hS : FreeSig S) (hsort : CtrOk S Try.prog 54 sortCtr) : CtrOk S Try.prog 27 newBCtr := by
  refine vcOf_sound S (C := newBCx) (fuel := 10) ⟨newB_specs S hS hsort, fun f l h i sp args hm => ?_, fun f sps h => by simp [newBCx, assoc] at h⟩ fun ρ => ?_
  · simp only [newBCx, assoc] at h
    cases hb : Nat.beq 27 f
    · rw [hb] at h; cases h
    · rw [hb] at h; cases h
      simp at hm
      obtain ⟨rfl, rfl, rfl⟩ := hm
      exact ⟨by decide, empt_gh S⟩
  · rw [newB_vc]
    obtain ⟨h0, h1, h2, h3, h4, h5, _⟩ := hS
    simp only [newBVc, VC.den, SX.den, U.co, Env.upd, h0, h1, h2, h3, h4, h5, p23, p46, p47, ap1_2, ap1_30, ap1_32, ap1_152, ap1_154, ap2_40, ap2_41, ap2_42, b46, b47, p50, ap2_45, ap2_48, ap2_110, ap2_115, ap2_121, ap2_122, ap2_124, ap3_112, U.toProp_bool, U.toBool_bool, Bool.not_eq_true', beq_eq_false_iff_ne, ne_eq, beq_iff_eq, Bool.or_eq_true, i64_min', i64_max', Int.toNat_zero, U.toInt_int, U.toInts_ints, U.toBytes_bytes, U.toRows_rows, if_true, if_false, Nat.reduceEqDiff, reduceIte]
    generalize (ρ 4).toInts = L
    generalize (ρ 2).toInt = m
    intro a1 a2 a3 a4 p ap
    refine ⟨by simp [entsB], by simp [allNB], fun k b c R q k0 k1 k2 k3 k4 kn k5 => ⟨fun hk => ⟨by omega, fun hp => ⟨fun hq => trivial, fun hq t ht => ⟨by omega, by omega, fun b' c' hc hb => ⟨⟨by omega, by omega⟩, by omega, by omega, by omega, by omega, ?_, ?_, ?_, trivial⟩⟩⟩, fun hq => trivial⟩,
      fun hk => ?_⟩⟩
    · rw [List.length_take]; omega
    · rw [List.take_of_length_le (by omega), k4]
      exact ents_step L k k0 (by omega)
    · exact allNB_step k0 (by omega) kn hp hq
    · exfalso
      have : k = m := by omega
      rw [this, a4] at kn; cases kn
end
end Go.Proofs.Ytmjonggabppgaaa

/- free.New where two numbers are alike: refused. -/
set_option linter.unusedSimpArgs false
set_option linter.unusedVariables false
namespace Go.Proofs.Ytmjonggabppgaaa
noncomputable section
open Go.Eng
def newCCtr : Ctr := ⟨[.int, .int, .int, .int, .ints, .int], [.one (.slice (ai 0) (ai 1) (.int 0) (.int 0) (ai 2) (ai 3) 1)], [rdI 0 0],
  [eLe (.int 0) (ai 2), eLe (ai 2) (.f1 30 (xsA 4)), eLe (ai 2) (.int 1048576), allNX (xsA 4) (ai 2), .f1 2 (distX (xsA 4) (ai 2))], [],
  .tup [(false, [.ptr (.int (-1)) 0]), (false, [.int .i64 (.int 100)])], [rdI 0 0], []⟩
def newCInv : Inv := ⟨[.int, .int, .int, .rows, .int], [(11, .one (.int .i64 (di 0))), (4, .one (.ptr (di 4) 0))], [.cel (di 4) 0 [.slice (di 1) (.int 0) (.int 0) (.int 0) (di 0) (di 2) 2, .slice (.int (-1)) (.int 0) (.int 0) (.int 0) (.int 0) (.int 0) 2, .int .i64 (.int 0)], .arr enE (di 1) (rwA 1000003) (di 2)],
  [eLe (.int 0) (di 0), eLe (di 0) (ai 2), eLe (di 0) (di 2), eEq (.f1 32 (rwA 1000003)) (di 0), eqRX (rwA 1000003) (entsX (xsA 4) (di 0)), allNX (xsA 4) (di 0), .f2 50 (eLe (.int 0) (di 1)) (eEq (di 0) (.int 0))], .f2 41 (ai 2) (di 0)⟩
def newCCx : Cx := { specs := [(57, [compactCtr]), (54, [sortCtr])], anns := [(27, [(3, .inv newCInv), (2, .ghost emptC [])])] }
def newCVc : VC := .imp (.f2 47 (.int 0) (.at .int 2)) (.imp (.f2 47 (.at .int 2) (.f1 30 (.at .ints 4))) (.imp (.f2 47 (.at .int 2) (.int 1048576)) (.imp (.us .bool 2 
    (.at .ints 4) (.at .int 2) (.int 0) (.int 0)) (.imp (.f1 2 (.us .bool 4 (.at .ints 4) (.at .int 2) (.int 0) (.int 0))) (.all 6 .int (.imp (.f2 47 
    (.int 0) (.at .int 6)) (.need (.us .bool 5 (.f1 154 (.int 0)) (.us .rows 3 (.at .ints 4) (.int 0) (.int 0) (.int 0)) (.int 0) (.int 0)) (.need (.us 
    .bool 2 (.at .ints 4) (.int 0) (.int 0) (.int 0)) (.all 7 .int (.all 8 .int (.all 9 .int (.all 10 .rows (.all 11 .int (.imp (.f2 47 (.int 0) (.at .int 
    7)) (.imp (.f2 47 (.at .int 7) (.at .int 2)) (.imp (.f2 47 (.at .int 7) (.at .int 9)) (.imp (.f2 45 (.f1 32 (.at .rows 10)) (.at .int 7)) (.imp (.us 
    .bool 5 (.at .rows 10) (.us .rows 3 (.at .ints 4) (.at .int 7) (.int 0) (.int 0)) (.int 0) (.int 0)) (.imp (.us .bool 2 (.at .ints 4) (.at .int 7) 
    (.int 0) (.int 0)) (.imp (.f2 50 (.f2 47 (.int 0) (.at .int 8)) (.f2 45 (.at .int 7) (.int 0))) (.and (.imp (.f2 46 (.at .int 7) (.at .int 2)) (.need 
    (.f2 46 (.at .int 7) (.f1 30 (.at .ints 4))) (.and (.imp (.f2 47 (.int 2) (.f2 110 (.at .ints 4) (.at .int 7))) (.and (.imp (.f2 47 (.int 65536) (.f2 
    110 (.at .ints 4) (.at .int 7))) (.need (.bool false) (.tt))) (.imp (.f2 46 (.f2 110 (.at .ints 4) (.at .int 7)) (.int 65536)) (.all 12 .int (.imp 
    (.f2 47 (.int 0) (.at .int 12)) (.need (.f2 47 (.at .int 7) (.f1 32 (.at .rows 10))) (.need (.f2 47 (.f2 42 (.f2 40 (.at .int 7) (.int 1)) (.int 16)) 
    (.int 140737488355328)) (.all 13 .int (.all 14 .int (.imp (.f2 47 (.f2 40 (.at .int 7) (.int 1)) (.at .int 14)) (.imp (.f2 50 (.f2 47 (.int 0) (.at 
    .int 13)) (.f2 45 (.f2 40 (.at .int 7) (.int 1)) (.int 0))) (.need (.f1 23 (.f2 40 (.at .int 7) (.int 1))) (.need (.f2 47 (.int 0) (.f2 41 (.at .int 
    2) (.f2 40 (.at .int 7) (.int 1)))) (.need (.f2 46 (.f2 41 (.at .int 2) (.f2 40 (.at .int 7) (.int 1))) (.f2 41 (.at .int 2) (.at .int 7))) (.need 
    (.f2 47 (.int 0) (.f2 40 (.at .int 7) (.int 1))) (.need (.f2 47 (.f2 40 (.at .int 7) (.int 1)) (.at .int 2)) (.need (.f2 45 (.f2 40 (.f1 32 (.f2 115 
    (.at .rows 10) (.at .int 7))) (.int 1)) (.f2 40 (.at .int 7) (.int 1))) (.need (.us .bool 5 (.f2 121 (.f2 115 (.at .rows 10) (.at .int 7)) (.f2 124 
    (.f2 122 (.f2 110 (.at .ints 4) (.at .int 7)) (.f2 122 (.int 0) (.f1 152 (.int 0)))) (.f1 154 (.int 0)))) (.us .rows 3 (.at .ints 4) (.f2 40 (.at .int 
    7) (.int 1)) (.int 0) (.int 0)) (.int 0) (.int 0)) (.need (.us .bool 2 (.at .ints 4) (.f2 40 (.at .int 7) (.int 1)) (.int 0) (.int 0)) 
    (.tt)))))))))))))))))))) (.imp (.f2 46 (.f2 110 (.at .ints 4) (.at .int 7)) (.int 2)) (.need (.bool false) (.tt)))))) (.imp (.f2 47 (.at .int 2) (.at 
    .int 7)) (.need (.f2 45 (.at .int 7) (.f1 32 (.at .rows 10))) (.need (.f2 47 (.at .int 7) (.int 140737488355328)) (.all 12 .rows (.imp (.f2 45 (.f1 32 
    (.at .rows 12)) (.f1 32 (.at .rows 10))) (.imp (.us .bool 1 (.at .rows 10) (.at .rows 12) (.int 0) (.int 0)) (.and (.imp (.f2 46 (.at .int 8) (.int 
    0)) (.all 13 .rows (.all 14 .int (.imp (.f2 47 (.int 0) (.at .int 14)) (.imp (.f2 47 (.at .int 14) (.int 0)) (.imp (.f2 48 (.f2 45 (.at .int 14) (.int 
    0)) (.us .bool 0 (.f1 154 (.int 0)) (.int 0) (.int 0) (.int 0))) (.and (.imp (.f2 46 (.at .int 14) (.at .int 2)) (.tt)) (.imp (.f2 47 (.at .int 2) 
    (.at .int 14)) (.need (.bool false) (.need (.f2 45 (.int (-1)) (.at .int 11)) (.tt))))))))))) (.imp (.f2 47 (.int 0) (.at .int 8)) (.all 13 .int (.imp 
    (.f2 47 (.int 0) (.at .int 13)) (.need (.f2 47 (.f2 42 (.at .int 7) (.int 16)) (.int 140737488355328)) (.need (.f2 47 (.at .int 7) (.f1 32 (.at .rows 
    12))) (.all 14 .int (.all 15 .int (.imp (.f2 47 (.at .int 7) (.at .int 15)) (.imp (.f2 50 (.f2 47 (.int 0) (.at .int 14)) (.f2 45 (.at .int 7) (.int 
    0))) (.need (.f2 47 (.at .int 7) (.f1 32 (.f2 115 (.at .rows 12) (.at .int 7)))) (.all 16 .rows (.all 17 .int (.imp (.f2 47 (.int 0) (.at .int 17)) 
    (.imp (.f2 47 (.at .int 17) (.at .int 7)) (.imp (.f2 48 (.f2 45 (.at .int 17) (.at .int 7)) (.us .bool 0 (.f2 115 (.at .rows 12) (.at .int 7)) (.at 
    .int 7) (.int 0) (.int 0))) (.and (.imp (.f2 46 (.at .int 17) (.at .int 2)) (.tt)) (.imp (.f2 47 (.at .int 2) (.at .int 17)) (.need (.bool false) 
    (.need (.f2 45 (.int (-1)) (.at .int 11)) (.tt))))))))))))))))))))))))))))))))))))))))))))))))
theorem newC_vc : vcOf Try.prog newCCx 10 27 newCCtr = newCVc := by kernel_rfl
theorem adj_distinct {L : List Int} {m : Int} {y : List (List Int)} (hs : SortP (entsB L m) y) (ha : adjB y y.length = true) : distB L m = true := by
  have key : ∀ (z : List (List Int)), z.Pairwise (fun a b => pageOf a ≤ pageOf b) → (∀ i : Nat, 1 ≤ i → i < z.length → pg z i ≠ pg z (i - 1)) → (z.map pageOf).Pairwise (fun a b => a < b) := by
    intro z
    induction z with
    | nil => intro _ _; exact List.Pairwise.nil
    | cons r z ih =>
      intro hp hz
      rw [List.pairwise_cons] at hp
      rw [List.map_cons, List.pairwise_cons]
      have iz := ih hp.2 (fun i h1 h2 => by
        have := hz (i + 1) (by omega) (by simp; omega)
        have e : i + 1 - 1 = (i - 1) + 1 := by omega
        rw [e] at this
        simpa [pg] using this)
      refine ⟨fun q hq => ?_, iz⟩
      cases z with
      | nil => cases hq
      | cons r2 z =>
        have h1 := hp.1 r2 List.mem_cons_self
        have h2 : pageOf r ≠ pageOf r2 := by
          have := hz 1 (by omega) (by simp)
          intro e
          apply this
          simpa [pg, pageOf] using e.symm
        rw [List.map_cons, List.pairwise_cons] at iz
        rcases List.mem_cons.1 hq with rfl | hq
        · omega
        · have := iz.1 q hq; omega
  have h1 := key y hs.2 (by
    rw [adjB_iff] at ha
    intro i h1 h2
    exact ha i h1 (by omega))
  have h2 : (y.map pageOf).Nodup := h1.imp (fun h => by omega)
  have hp := hs.1.map pageOf
  rw [ents_pages] at hp
  exact decide_eq_true (hp.nodup_iff.1 h2)
theorem newC_specs {G : Type} (S : Sig G) (hS : FreeSig S) (hsort : CtrOk S Try.prog 54 sortCtr) :
    ∀ f sps, assoc newCCx.specs f = some sps → ∀ sp ∈ sps, sp.wf = true ∧ CtrOk S Try.prog f sp := by
  intro f sps h sp hm
  simp only [newCCx, assoc] at h
  cases hb : Nat.beq 57 f
  · rw [hb] at h
    cases hb2 : Nat.beq 54 f
    · rw [hb2] at h; cases h
    · rw [hb2] at h; cases h
      rw [List.mem_singleton] at hm
      rw [← Nat.eq_of_beq_eq_true hb2, hm]
      exact ⟨by decide, hsort⟩
  · rw [hb] at h; cases h
    rw [List.mem_singleton] at hm
    rw [← Nat.eq_of_beq_eq_true hb, hm]
    exact ⟨by decide, compact_ok S hS.1⟩
theorem newC_ok {G : Type} (S : Sig G) (hS : FreeSig S) (hsort : CtrOk S Try.prog 54 sortCtr) : CtrOk S Try.prog 27 newCCtr := by
  refine vcOf_sound S (C := newCCx) (fuel := 10) ⟨newC_specs S hS hsort, fun f l h i sp args hm => ?_, fun f sps h => by simp [newCCx, assoc] at h⟩ fun ρ => ?_
  · simp only [newCCx, assoc] at h
    cases hb : Nat.beq 27 f
    · rw [hb] at h; cases h
    · rw [hb] at h; cases h
      simp at hm
      obtain ⟨rfl, rfl, rfl⟩ := hm
      exact ⟨by decide, empt_gh S⟩
  · rw [newC_vc]
    obtain ⟨h0, h1, h2, h3, h4, h5, _⟩ := hS
    simp only [newCVc, VC.den, SX.den, U.co, Env.upd, h0, h1, h2, h3, h4, h5, p23, p46, p47, ap1_2, ap1_30, ap1_32, ap1_152, ap1_154, ap2_40, ap2_41, ap2_42, b46, b47, p50, ap2_45, ap2_48, ap2_110, ap2_115, ap2_121, ap2_122, ap2_124, ap3_112, U.toProp_bool, U.toBool_bool, Bool.not_eq_true', beq_eq_false_iff_ne, ne_eq, beq_iff_eq, Bool.or_eq_true, i64_min', i64_max', Int.toNat_zero, U.toInt_int, U.toInts_ints, U.toBytes_bytes, U.toRows_rows, if_true, if_false, Nat.reduceEqDiff, reduceIte]
    generalize (ρ 4).toInts = L
    generalize (ρ 2).toInt = m
    intro a1 a2 a3 a4 a5 p ap
    refine ⟨by simp [entsB], by simp [allNB], fun k b c R q k0 k1 k2 k3 k4 kn k5 => ⟨fun hk => ⟨by omega, fun hp => ⟨fun hq => ?_, fun hq t ht => ⟨by omega, by omega, fun b' c' hc hb => ⟨⟨by omega, by omega⟩, by omega, by omega, by omega, by omega, ?_, ?_, ?_, trivial⟩⟩⟩, fun hq => ?_⟩,
      fun hk => ⟨by omega, by omega, fun R' hl hs => ?_⟩⟩⟩
    · exfalso; have := allNB_get a4 a2 k0 hk; omega
    · rw [List.length_take]; omega
    · rw [List.take_of_length_le (by omega), k4]
      exact ents_step L k k0 (by omega)
    · exact allNB_step k0 (by omega) kn hp hq
    · exfalso; have := allNB_get a4 a2 k0 hk; omega
    · have e : k = m := by omega
      rw [k4, e] at hs
      have hno : adjB R' k = true → False := fun h => by
        have hlen : (R'.length : Int) = k := by omega
        have := adj_distinct (sortB_iff.1 hs) (by rw [hlen]; exact h)
        rw [a5] at this; cases this
      refine ⟨fun hb R2 n n0 n1 n2 => ⟨fun hn => trivial, fun hn => ?_⟩, fun hb t ht => ⟨by omega, by omega, fun b' c' hc hb' => ⟨?_, fun R2 n n0 n1 n2 => ⟨fun hn => trivial, fun hn => ?_⟩⟩⟩⟩
      · exfalso
        exact hno (adjB_small _ _ (by omega))
      · rw [List.length_take]; omega
      · exfalso
        apply hno
        rw [List.take_of_length_le (by omega)] at n2
        rw [← n2]
        simp; omega
end
end Go.Proofs.Ytmjonggabppgaaa

/- The reference's find: is the page on the list? -/
set_option linter.unusedSimpArgs false
set_option linter.unusedVariables false
namespace Go.Proofs.Ytmjonggabppgaaa
noncomputable section
open Go.Eng
def lstC : Ch := .cel (ai 0) 0 [.slice (ai 1) (.int 0) (.int 0) (.int 0) (ai 2) (ai 3) 2, .slice (ai 6) (.int 0) (.int 0) (.int 0) (ai 7) (ai 8) 2, .int .i64 (ai 9)]
def findCtr : Ctr := ⟨[.int, .int, .int, .int, .rows, .int, .int, .int, .int, .int, .int], [.one (.ptr (ai 0) 0), .one (.int .i64 (ai 10))], [lstC, .arr enE (ai 1) (rwA 4) (ai 5)],
  [eLe (.int 0) (ai 2), eLe (ai 2) (.f1 32 (rwA 4)), eLe (ai 2) (.int 140737488355328)], [.int], .one (.int .i64 (ai 11)), [lstC, .arr enE (ai 1) (rwA 4) (ai 5)],
  [eLe (.int (-1)) (ai 11), .f2 48 (.f2 47 (.int 0) (ai 11)) (hasX (rwA 4) (ai 2) (ai 10))]⟩
def findInv : Inv := ⟨[.int], [(5, .one (.int .i64 (di 0)))], [], [eLe (.int 0) (di 0), eLe (di 0) (ai 2), .f1 2 (hasX (rwA 4) (di 0) (ai 10))], .f2 41 (ai 2) (di 0)⟩
def findCx : Cx := { specs := [], anns := [(60, [(2, .inv findInv)])] }
def findVc : VC := .imp (.f2 47 (.int 0) (.at .int 2)) (.imp (.f2 47 (.at .int 2) (.f1 32 (.at .rows 4))) (.imp (.f2 47 (.at .int 2) (.int 140737488355328)) (.need (.f1 
    2 (.us .bool 6 (.at .rows 4) (.int 0) (.at .int 10) (.int 0))) (.all 11 .int (.imp (.f2 47 (.int 0) (.at .int 11)) (.imp (.f2 47 (.at .int 11) (.at 
    .int 2)) (.imp (.f1 2 (.us .bool 6 (.at .rows 4) (.at .int 11) (.at .int 10) (.int 0))) (.and (.imp (.f2 46 (.at .int 11) (.at .int 2)) (.need (.f2 46 
    (.at .int 11) (.f1 32 (.at .rows 4))) (.and (.imp (.f2 45 (.f3 112 (.at .rows 4) (.at .int 11) (.int 0)) (.at .int 10)) (.need (.f2 47 (.int (-1)) 
    (.at .int 11)) (.need (.f2 48 (.f2 47 (.int 0) (.at .int 11)) (.us .bool 6 (.at .rows 4) (.at .int 2) (.at .int 10) (.int 0))) (.tt)))) (.imp (.f1 2 
    (.f2 45 (.f3 112 (.at .rows 4) (.at .int 11) (.int 0)) (.at .int 10))) (.need (.f1 23 (.f2 40 (.at .int 11) (.int 1))) (.need (.f2 47 (.int 0) (.f2 41 
    (.at .int 2) (.f2 40 (.at .int 11) (.int 1)))) (.need (.f2 46 (.f2 41 (.at .int 2) (.f2 40 (.at .int 11) (.int 1))) (.f2 41 (.at .int 2) (.at .int 
    11))) (.need (.f2 47 (.int 0) (.f2 40 (.at .int 11) (.int 1))) (.need (.f2 47 (.f2 40 (.at .int 11) (.int 1)) (.at .int 2)) (.need (.f1 2 (.us .bool 6 
    (.at .rows 4) (.f2 40 (.at .int 11) (.int 1)) (.at .int 10) (.int 0))) (.tt))))))))))) (.imp (.f2 47 (.at .int 2) (.at .int 11)) (.need (.f2 48 (.bool 
    false) (.us .bool 6 (.at .rows 4) (.at .int 2) (.at .int 10) (.int 0))) (.tt)))))))))))
theorem find_vc : vcOf Try.prog findCx 10 60 findCtr = findVc := by kernel_rfl
theorem hasB_zero (R : List (List Int)) (p : Int) : hasB R 0 p = false := by simp [hasB]
theorem take_rows (R : List (List Int)) (i : Nat) (h : i < R.length) : R.take (i + 1) = R.take i ++ [R.getD i []] := by
  rw [List.take_add_one, List.getD_eq_getElem?_getD, List.getElem?_eq_getElem h]; rfl
theorem hasB_step {R : List (List Int)} {x p : Int} (h0 : 0 ≤ x) (hl : x < R.length) (h : hasB R x p = false) (hne : ¬ pg R x.toNat = p) : hasB R (x + 1) p = false := by
  unfold hasB at *
  rw [show (x + 1).toNat = x.toNat + 1 by omega, take_rows R _ (by omega), List.any_append, h]
  simp only [List.any_cons, List.any_nil, Bool.or_false, Bool.false_or, beq_eq_false_iff_ne, ne_eq]
  exact hne
theorem hasB_found {R : List (List Int)} {x m p : Int} (h0 : 0 ≤ x) (hm : x < m) (hl : m ≤ R.length) (he : pg R x.toNat = p) : hasB R m p = true := by
  unfold hasB
  rw [List.any_eq_true]
  have hx : x.toNat < R.length := by omega
  refine ⟨R.getD x.toNat [], ?_, by rw [beq_iff_eq]; exact he⟩
  rw [List.mem_iff_getElem?]
  refine ⟨x.toNat, ?_⟩
  rw [List.getElem?_take_of_lt (by omega), List.getD_eq_getElem?_getD, List.getElem?_eq_getElem hx]; rfl
theorem find_ok {G : Type} (S : Sig G) (hS : FreeSig S) : CtrOk S Try.prog 60 findCtr := by
  refine vcOf_sound S (C := findCx) (fuel := 10) ⟨fun f sps h => by simp [findCx, assoc] at h, fun f l h i sp args hm => ?_, fun f sps h => by simp [findCx, assoc] at h⟩ fun ρ => ?_
  · simp only [findCx, assoc] at h
    cases hb : Nat.beq 60 f
    · rw [hb] at h; cases h
    · rw [hb] at h; cases h
      simp at hm
  · rw [find_vc]
    obtain ⟨_, _, _, _, _, _, h6, _⟩ := hS
    simp only [findVc, VC.den, SX.den, U.co, Env.upd, h6, p23, p46, p47, ap1_2, ap1_32, ap2_40, ap2_41, ap2_45, t47, ap2_48, ap3_112, U.toProp_bool, U.toBool_bool, Bool.not_eq_true', beq_eq_false_iff_ne, ne_eq, beq_iff_eq, i64_min', i64_max', Int.toNat_zero, U.toInt_int, U.toInts_ints, U.toBytes_bytes, U.toRows_rows, if_true, if_false, Nat.reduceEqDiff, reduceIte]
    generalize (ρ 4).toRows = R
    generalize (ρ 2).toInt = m
    generalize (ρ 10).toInt = p
    intro a1 a2 a3
    refine ⟨hasB_zero R p, fun x k0 k1 k2 => ⟨fun hk => ⟨by omega, fun he => ⟨by omega, ?_, trivial⟩, fun hne => ⟨⟨by omega, by omega⟩, by omega, by omega, by omega, by omega, hasB_step k0 (by omega) k2 hne, trivial⟩⟩, fun hk => ⟨?_, trivial⟩⟩⟩
    · rw [hasB_found k0 hk a2 he, leB_iff]; exact k0
    · have : x = m := by omega
      rw [← this]; exact k2.symm
end
end Go.Proofs.Ytmjonggabppgaaa

/- The reference's with: an entry put in by its page. -/
set_option linter.unusedSimpArgs false
set_option linter.unusedVariables false
namespace Go.Proofs.Ytmjonggabppgaaa
noncomputable section
open Go.Eng
def eX : SX := .f2 122 (ai 10) (.f2 122 (ai 11) (.f1 152 (.int 0)))
def insX (x l : SX) : SX := .us .rows 7 x l eX (.int 0)
def inX (x l o : SX) : SX := .us .bool 8 x l eX o
def outX (x l o : SX) : SX := .us .bool 9 x l eX o
def lstW (b l c : SX) : Ch := .cel (ai 0) 0 [.slice b (.int 0) (.int 0) (.int 0) l c 2, .slice (ai 6) (.int 0) (.int 0) (.int 0) (ai 7) (ai 8) 2, .int .i64 (ai 9)]
def emptW : Ctr := ⟨[], [], [], [], [], .tup [], [.arr enE (.int (-1)) (.f1 154 (.int 0)) (.int 0)], []⟩
def withCtr : Ctr := ⟨[.int, .int, .int, .int, .rows, .int, .int, .int, .int, .int, .int, .int], [.one (.ptr (ai 0) 0), .agg [.int .i64 (ai 10), .int .i64 (ai 11)]], [lstW (ai 1) (ai 2) (ai 3), .arr enE (ai 1) (rwA 4) (ai 5)],
  [eLe (.int 0) (ai 2), eEq (ai 2) (.f1 32 (rwA 4)), eLe (ai 2) (.int 1048576)], [.int, .int, .rows], .tup [], [lstW (ai 12) (SX.mk2 40 (ai 2) (.int 1)) (ai 13), .arr enE (ai 12) (rwA 14) (ai 13)],
  [eEq (.f1 32 (rwA 14)) (SX.mk2 40 (ai 2) (.int 1)), eqRX (rwA 14) (insX (rwA 4) (ai 2))]⟩
def dIn : SX := .at .bool 1000001
def withInv : Inv := ⟨[.int, .bool, .int, .int, .rows, .int], [(6, .one (.int .i64 (di 0))), (5, .one (.bool dIn)), (4, .one (.slice (di 2) (.int 0) (.int 0) (.int 0) (di 5) (di 3) 2))], [.arr enE (di 2) (rwA 1000004) (di 3)],
  [eLe (.int 0) (di 0), eLe (di 0) (ai 2), eEq (di 5) (.f2 40 (di 0) (.f1 3 dIn)), eEq (.f1 32 (rwA 1000004)) (di 5), eLe (di 5) (di 3), .f3 134 dIn (inX (rwA 4) (di 0) (rwA 1000004)) (outX (rwA 4) (di 0) (rwA 1000004))], .f2 41 (ai 2) (di 0)⟩
def withCx : Cx := { specs := [], anns := [(61, [(4, .inv withInv), (2, .ghost emptW [])])] }
def withVc : VC := .imp (.f2 47 (.int 0) (.at .int 2)) (.imp (.f2 45 (.at .int 2) (.f1 32 (.at .rows 4))) (.imp (.f2 47 (.at .int 2) (.int 1048576)) (.all 12 .int (.imp 
    (.f2 47 (.int 0) (.at .int 12)) (.need (.f3 134 (.bool false) (.us .bool 8 (.at .rows 4) (.int 0) (.f2 122 (.at .int 10) (.f2 122 (.at .int 11) (.f1 
    152 (.int 0)))) (.f1 154 (.int 0))) (.us .bool 9 (.at .rows 4) (.int 0) (.f2 122 (.at .int 10) (.f2 122 (.at .int 11) (.f1 152 (.int 0)))) (.f1 154 
    (.int 0)))) (.all 13 .int (.all 14 .bool (.all 15 .int (.all 16 .int (.all 17 .rows (.all 18 .int (.imp (.f2 47 (.int 0) (.at .int 13)) (.imp (.f2 47 
    (.at .int 13) (.at .int 2)) (.imp (.f2 45 (.at .int 18) (.f2 40 (.at .int 13) (.f1 3 (.at .bool 14)))) (.imp (.f2 45 (.f1 32 (.at .rows 17)) (.at .int 
    18)) (.imp (.f2 47 (.at .int 18) (.at .int 16)) (.imp (.f3 134 (.at .bool 14) (.us .bool 8 (.at .rows 4) (.at .int 13) (.f2 122 (.at .int 10) (.f2 122 
    (.at .int 11) (.f1 152 (.int 0)))) (.at .rows 17)) (.us .bool 9 (.at .rows 4) (.at .int 13) (.f2 122 (.at .int 10) (.f2 122 (.at .int 11) (.f1 152 
    (.int 0)))) (.at .rows 17))) (.and (.imp (.f2 46 (.at .int 13) (.at .int 2)) (.and (.imp (.f1 2 (.at .bool 14)) (.need (.f2 46 (.at .int 13) (.f1 32 
    (.at .rows 4))) (.and (.imp (.f2 46 (.at .int 10) (.f3 112 (.at .rows 4) (.at .int 13) (.int 0))) (.all 19 .int (.imp (.f2 47 (.int 0) (.at .int 19)) 
    (.need (.f2 47 (.int 0) (.at .int 18)) (.need (.f2 47 (.at .int 18) (.f1 32 (.at .rows 17))) (.need (.f2 47 (.f2 42 (.f2 40 (.at .int 18) (.int 1)) 
    (.int 16)) (.int 140737488355328)) (.all 20 .int (.all 21 .int (.imp (.f2 47 (.f2 40 (.at .int 18) (.int 1)) (.at .int 21)) (.imp (.f2 50 (.f2 47 
    (.int 0) (.at .int 20)) (.f2 45 (.f2 40 (.at .int 18) (.int 1)) (.int 0))) (.all 22 .int (.imp (.f2 47 (.int 0) (.at .int 22)) (.need (.f2 47 (.int 0) 
    (.f2 40 (.at .int 18) (.int 1))) (.need (.f2 47 (.f2 40 (.at .int 18) (.int 1)) (.f2 40 (.f1 32 (.f2 115 (.at .rows 17) (.at .int 18))) (.int 1))) 
    (.need (.f2 47 (.f2 42 (.f2 40 (.at .int 18) (.int 2)) (.int 16)) (.int 140737488355328)) (.all 23 .int (.all 24 .int (.imp (.f2 47 (.f2 40 (.at .int 
    18) (.int 2)) (.at .int 24)) (.imp (.f2 50 (.f2 47 (.int 0) (.at .int 23)) (.f2 45 (.f2 40 (.at .int 18) (.int 2)) (.int 0))) (.need (.f1 23 (.f2 40 
    (.at .int 13) (.int 1))) (.need (.f2 47 (.int 0) (.f2 41 (.at .int 2) (.f2 40 (.at .int 13) (.int 1)))) (.need (.f2 46 (.f2 41 (.at .int 2) (.f2 40 
    (.at .int 13) (.int 1))) (.f2 41 (.at .int 2) (.at .int 13))) (.need (.f2 47 (.int 0) (.f2 40 (.at .int 13) (.int 1))) (.need (.f2 47 (.f2 40 (.at 
    .int 13) (.int 1)) (.at .int 2)) (.need (.f2 45 (.f2 40 (.at .int 18) (.int 2)) (.f2 40 (.at .int 13) (.int 2))) (.need (.f2 45 (.f2 40 (.f1 32 (.f2 
    115 (.f2 121 (.f2 115 (.at .rows 17) (.at .int 18)) (.f2 124 (.f2 122 (.at .int 10) (.f2 122 (.at .int 11) (.f1 152 (.int 0)))) (.f1 154 (.int 0)))) 
    (.f2 40 (.at .int 18) (.int 1)))) (.int 1)) (.f2 40 (.at .int 18) (.int 2))) (.need (.f3 134 (.bool true) (.us .bool 8 (.at .rows 4) (.f2 40 (.at .int 
    13) (.int 1)) (.f2 122 (.at .int 10) (.f2 122 (.at .int 11) (.f1 152 (.int 0)))) (.f2 121 (.f2 115 (.f2 121 (.f2 115 (.at .rows 17) (.at .int 18)) 
    (.f2 124 (.f2 122 (.at .int 10) (.f2 122 (.at .int 11) (.f1 152 (.int 0)))) (.f1 154 (.int 0)))) (.f2 40 (.at .int 18) (.int 1))) (.f2 124 (.f2 122 
    (.f3 112 (.at .rows 4) (.at .int 13) (.int 0)) (.f2 122 (.f3 112 (.at .rows 4) (.at .int 13) (.int 1)) (.f1 152 (.int 0)))) (.f1 154 (.int 0))))) (.us 
    .bool 9 (.at .rows 4) (.f2 40 (.at .int 13) (.int 1)) (.f2 122 (.at .int 10) (.f2 122 (.at .int 11) (.f1 152 (.int 0)))) (.f2 121 (.f2 115 (.f2 121 
    (.f2 115 (.at .rows 17) (.at .int 18)) (.f2 124 (.f2 122 (.at .int 10) (.f2 122 (.at .int 11) (.f1 152 (.int 0)))) (.f1 154 (.int 0)))) (.f2 40 (.at 
    .int 18) (.int 1))) (.f2 124 (.f2 122 (.f3 112 (.at .rows 4) (.at .int 13) (.int 0)) (.f2 122 (.f3 112 (.at .rows 4) (.at .int 13) (.int 1)) (.f1 152 
    (.int 0)))) (.f1 154 (.int 0)))))) (.tt)))))))))))))))))))))))))))) (.imp (.f2 47 (.f3 112 (.at .rows 4) (.at .int 13) (.int 0)) (.at .int 10)) (.all 
    19 .int (.imp (.f2 47 (.int 0) (.at .int 19)) (.need (.f2 47 (.int 0) (.at .int 18)) (.need (.f2 47 (.at .int 18) (.f1 32 (.at .rows 17))) (.need (.f2 
    47 (.f2 42 (.f2 40 (.at .int 18) (.int 1)) (.int 16)) (.int 140737488355328)) (.all 20 .int (.all 21 .int (.imp (.f2 47 (.f2 40 (.at .int 18) (.int 
    1)) (.at .int 21)) (.imp (.f2 50 (.f2 47 (.int 0) (.at .int 20)) (.f2 45 (.f2 40 (.at .int 18) (.int 1)) (.int 0))) (.need (.f1 23 (.f2 40 (.at .int 
    13) (.int 1))) (.need (.f2 47 (.int 0) (.f2 41 (.at .int 2) (.f2 40 (.at .int 13) (.int 1)))) (.need (.f2 46 (.f2 41 (.at .int 2) (.f2 40 (.at .int 
    13) (.int 1))) (.f2 41 (.at .int 2) (.at .int 13))) (.need (.f2 47 (.int 0) (.f2 40 (.at .int 13) (.int 1))) (.need (.f2 47 (.f2 40 (.at .int 13) 
    (.int 1)) (.at .int 2)) (.need (.f2 45 (.f2 40 (.at .int 18) (.int 1)) (.f2 40 (.f2 40 (.at .int 13) (.f1 3 (.at .bool 14))) (.int 1))) (.need (.f2 45 
    (.f2 40 (.f1 32 (.f2 115 (.at .rows 17) (.at .int 18))) (.int 1)) (.f2 40 (.at .int 18) (.int 1))) (.need (.f3 134 (.at .bool 14) (.us .bool 8 (.at 
    .rows 4) (.f2 40 (.at .int 13) (.int 1)) (.f2 122 (.at .int 10) (.f2 122 (.at .int 11) (.f1 152 (.int 0)))) (.f2 121 (.f2 115 (.at .rows 17) (.at .int 
    18)) (.f2 124 (.f2 122 (.f3 112 (.at .rows 4) (.at .int 13) (.int 0)) (.f2 122 (.f3 112 (.at .rows 4) (.at .int 13) (.int 1)) (.f1 152 (.int 0)))) 
    (.f1 154 (.int 0))))) (.us .bool 9 (.at .rows 4) (.f2 40 (.at .int 13) (.int 1)) (.f2 122 (.at .int 10) (.f2 122 (.at .int 11) (.f1 152 (.int 0)))) 
    (.f2 121 (.f2 115 (.at .rows 17) (.at .int 18)) (.f2 124 (.f2 122 (.f3 112 (.at .rows 4) (.at .int 13) (.int 0)) (.f2 122 (.f3 112 (.at .rows 4) (.at 
    .int 13) (.int 1)) (.f1 152 (.int 0)))) (.f1 154 (.int 0)))))) (.tt)))))))))))))))))))))) (.imp (.f1 2 (.f1 2 (.at .bool 14))) (.need (.f2 46 (.at 
    .int 13) (.f1 32 (.at .rows 4))) (.all 19 .int (.imp (.f2 47 (.int 0) (.at .int 19)) (.need (.f2 47 (.int 0) (.at .int 18)) (.need (.f2 47 (.at .int 
    18) (.f1 32 (.at .rows 17))) (.need (.f2 47 (.f2 42 (.f2 40 (.at .int 18) (.int 1)) (.int 16)) (.int 140737488355328)) (.all 20 .int (.all 21 .int 
    (.imp (.f2 47 (.f2 40 (.at .int 18) (.int 1)) (.at .int 21)) (.imp (.f2 50 (.f2 47 (.int 0) (.at .int 20)) (.f2 45 (.f2 40 (.at .int 18) (.int 1)) 
    (.int 0))) (.need (.f1 23 (.f2 40 (.at .int 13) (.int 1))) (.need (.f2 47 (.int 0) (.f2 41 (.at .int 2) (.f2 40 (.at .int 13) (.int 1)))) (.need (.f2 
    46 (.f2 41 (.at .int 2) (.f2 40 (.at .int 13) (.int 1))) (.f2 41 (.at .int 2) (.at .int 13))) (.need (.f2 47 (.int 0) (.f2 40 (.at .int 13) (.int 1))) 
    (.need (.f2 47 (.f2 40 (.at .int 13) (.int 1)) (.at .int 2)) (.need (.f2 45 (.f2 40 (.at .int 18) (.int 1)) (.f2 40 (.f2 40 (.at .int 13) (.f1 3 (.at 
    .bool 14))) (.int 1))) (.need (.f2 45 (.f2 40 (.f1 32 (.f2 115 (.at .rows 17) (.at .int 18))) (.int 1)) (.f2 40 (.at .int 18) (.int 1))) (.need (.f3 
    134 (.at .bool 14) (.us .bool 8 (.at .rows 4) (.f2 40 (.at .int 13) (.int 1)) (.f2 122 (.at .int 10) (.f2 122 (.at .int 11) (.f1 152 (.int 0)))) (.f2 
    121 (.f2 115 (.at .rows 17) (.at .int 18)) (.f2 124 (.f2 122 (.f3 112 (.at .rows 4) (.at .int 13) (.int 0)) (.f2 122 (.f3 112 (.at .rows 4) (.at .int 
    13) (.int 1)) (.f1 152 (.int 0)))) (.f1 154 (.int 0))))) (.us .bool 9 (.at .rows 4) (.f2 40 (.at .int 13) (.int 1)) (.f2 122 (.at .int 10) (.f2 122 
    (.at .int 11) (.f1 152 (.int 0)))) (.f2 121 (.f2 115 (.at .rows 17) (.at .int 18)) (.f2 124 (.f2 122 (.f3 112 (.at .rows 4) (.at .int 13) (.int 0)) 
    (.f2 122 (.f3 112 (.at .rows 4) (.at .int 13) (.int 1)) (.f1 152 (.int 0)))) (.f1 154 (.int 0)))))) (.tt)))))))))))))))))))))) (.imp (.f2 47 (.at .int 
    2) (.at .int 13)) (.and (.imp (.f1 2 (.at .bool 14)) (.all 19 .int (.imp (.f2 47 (.int 0) (.at .int 19)) (.need (.f2 47 (.int 0) (.at .int 18)) (.need 
    (.f2 47 (.at .int 18) (.f1 32 (.at .rows 17))) (.need (.f2 47 (.f2 42 (.f2 40 (.at .int 18) (.int 1)) (.int 16)) (.int 140737488355328)) (.all 20 .int 
    (.all 21 .int (.imp (.f2 47 (.f2 40 (.at .int 18) (.int 1)) (.at .int 21)) (.imp (.f2 50 (.f2 47 (.int 0) (.at .int 20)) (.f2 45 (.f2 40 (.at .int 18) 
    (.int 1)) (.int 0))) (.need (.f2 45 (.f2 40 (.f1 32 (.f2 115 (.at .rows 17) (.at .int 18))) (.int 1)) (.f2 40 (.at .int 2) (.int 1))) (.need (.us 
    .bool 5 (.f2 121 (.f2 115 (.at .rows 17) (.at .int 18)) (.f2 124 (.f2 122 (.at .int 10) (.f2 122 (.at .int 11) (.f1 152 (.int 0)))) (.f1 154 (.int 
    0)))) (.us .rows 7 (.at .rows 4) (.at .int 2) (.f2 122 (.at .int 10) (.f2 122 (.at .int 11) (.f1 152 (.int 0)))) (.int 0)) (.int 0) (.int 0)) (.need 
    (.f2 45 (.f2 40 (.at .int 2) (.int 1)) (.f2 40 (.at .int 18) (.int 1))) (.tt)))))))))))))) (.imp (.f1 2 (.f1 2 (.at .bool 14))) (.need (.f2 45 (.f1 32 
    (.at .rows 17)) (.f2 40 (.at .int 2) (.int 1))) (.need (.us .bool 5 (.at .rows 17) (.us .rows 7 (.at .rows 4) (.at .int 2) (.f2 122 (.at .int 10) (.f2 
    122 (.at .int 11) (.f1 152 (.int 0)))) (.int 0)) (.int 0) (.int 0)) (.need (.f2 45 (.f2 40 (.at .int 2) (.int 1)) (.at .int 18)) 
    (.tt)))))))))))))))))))))))))
theorem with_vc : vcOf Try.prog withCx 10 61 withCtr = withVc := by kernel_rfl
theorem insRow_le (e : List Int) : ∀ (xs ys : List (List Int)), (∀ r ∈ xs, pageOf r ≤ pageOf e) → insRow e (xs ++ ys) = xs ++ insRow e ys
  | [], ys, _ => rfl
  | r :: xs, ys, h => by
    have := h r List.mem_cons_self
    simp only [List.cons_append, insRow]
    rw [if_neg (by omega), insRow_le e xs ys fun r hr => h r (List.mem_cons_of_mem _ hr)]
theorem insRow_in (e : List Int) : ∀ (xs ys : List (List Int)), (∃ r ∈ xs, pageOf e < pageOf r) → insRow e (xs ++ ys) = insRow e xs ++ ys
  | [], ys, h => by obtain ⟨r, hr, _⟩ := h; cases hr
  | r :: xs, ys, h => by
    simp only [List.cons_append, insRow]
    by_cases hp : pageOf e < pageOf r
    · rw [if_pos hp, if_pos hp]; rfl
    · rw [if_neg hp, if_neg hp]
      obtain ⟨q, hq, h2⟩ := h
      rcases List.mem_cons.1 hq with rfl | hq
      · exact absurd h2 hp
      · rw [insRow_in e xs ys ⟨q, hq, h2⟩]; rfl
theorem nrm_step (R : List (List Int)) (x : Int) (h0 : 0 ≤ x) (hl : x < R.length) : nrm R (x + 1) = nrm R x ++ [[(R.getD x.toNat []).getD 0 0, (R.getD x.toNat []).getD 1 0]] := by
  unfold nrm
  rw [show (x + 1).toNat = x.toNat + 1 by omega, take_rows R _ (by omega), List.map_append]; rfl
theorem nrm_len (R : List (List Int)) (x : Int) (h0 : 0 ≤ x) (hl : x ≤ R.length) : ((nrm R x).length : Int) = x := by
  unfold nrm; rw [List.length_map, List.length_take]; omega
theorem insRow_len (e : List Int) : ∀ xs : List (List Int), (insRow e xs).length = xs.length + 1
  | [] => rfl
  | r :: xs => by simp only [insRow]; split <;> simp [insRow_len e xs]
theorem inB_iff {R : List (List Int)} {n : Int} {e : List Int} {o : List (List Int)} : inB R n e o = true ↔ o = insRow e (nrm R n) ∧ ∃ r ∈ nrm R n, pageOf e < pageOf r := by
  unfold inB; simp
theorem outB_iff {R : List (List Int)} {n : Int} {e : List Int} {o : List (List Int)} : outB R n e o = true ↔ o = nrm R n ∧ ∀ r ∈ nrm R n, pageOf r ≤ pageOf e := by
  unfold outB; simp
theorem w1 {R : List (List Int)} {e : List Int} {O : List (List Int)} {k : Int} (h0 : 0 ≤ k) (hl : k < R.length) (ho : outB R k e O = true) (hp : pageOf e < (R.getD k.toNat []).getD 0 0) :
    inB R (k + 1) e ((O ++ [e]) ++ [[(R.getD k.toNat []).getD 0 0, (R.getD k.toNat []).getD 1 0]]) = true := by
  obtain ⟨e1, e2⟩ := outB_iff.1 ho
  rw [inB_iff, nrm_step R k h0 hl, insRow_le e _ _ e2, e1]
  refine ⟨?_, _, List.mem_append.2 (.inr List.mem_cons_self), hp⟩
  simp only [insRow]
  rw [if_pos (show pageOf e < pageOf [(R.getD k.toNat []).getD 0 0, (R.getD k.toNat []).getD 1 0] from hp)]
  simp
theorem w2 {R : List (List Int)} {e : List Int} {O : List (List Int)} {k : Int} (h0 : 0 ≤ k) (hl : k < R.length) (ho : outB R k e O = true) (hp : (R.getD k.toNat []).getD 0 0 ≤ pageOf e) :
    outB R (k + 1) e (O ++ [[(R.getD k.toNat []).getD 0 0, (R.getD k.toNat []).getD 1 0]]) = true := by
  obtain ⟨e1, e2⟩ := outB_iff.1 ho
  rw [outB_iff, nrm_step R k h0 hl, e1]
  refine ⟨rfl, fun r hr => ?_⟩
  rcases List.mem_append.1 hr with hr | hr
  · exact e2 r hr
  · rw [List.mem_singleton] at hr; subst hr; exact hp
theorem w3 {R : List (List Int)} {e : List Int} {O : List (List Int)} {k : Int} (h0 : 0 ≤ k) (hl : k < R.length) (hi : inB R k e O = true) :
    inB R (k + 1) e (O ++ [[(R.getD k.toNat []).getD 0 0, (R.getD k.toNat []).getD 1 0]]) = true := by
  obtain ⟨e1, e2⟩ := inB_iff.1 hi
  rw [inB_iff, nrm_step R k h0 hl, insRow_in e _ _ e2, e1]
  obtain ⟨r, hr, h⟩ := e2
  exact ⟨rfl, r, List.mem_append.2 (.inl hr), h⟩
theorem w4 {R : List (List Int)} {e : List Int} {O : List (List Int)} {k : Int} (ho : outB R k e O = true) : O ++ [e] = insRow e (nrm R k) := by
  obtain ⟨e1, e2⟩ := outB_iff.1 ho
  have := insRow_le e (nrm R k) [] e2
  rw [List.append_nil] at this
  rw [this, e1]; rfl
theorem cond_f {G : Type} (a b c : U G) : (ap3 134 a b c).toProp = (if a.toBool = true then b.toBool = true else c.toBool = true) := by
  rw [ap3_134, U.toProp_bool]; cases a.toBool <;> rfl
theorem with_ok {G : Type} (S : Sig G) (hS : FreeSig S) (hE : GhOk S emptW) : CtrOk S Try.prog 61 withCtr := by
  refine vcOf_sound S (C := withCx) (fuel := 10) ⟨fun f sps h => by simp [withCx, assoc] at h, fun f l h i sp args hm => ?_, fun f sps h => by simp [withCx, assoc] at h⟩ fun ρ => ?_
  · simp only [withCx, assoc] at h
    cases hb : Nat.beq 61 f
    · rw [hb] at h; cases h
    · rw [hb] at h; cases h
      simp at hm
      obtain ⟨rfl, rfl, rfl⟩ := hm
      exact ⟨by decide, hE⟩
  · rw [with_vc]
    obtain ⟨_, _, _, _, _, h5, _, h7, h8, h9⟩ := hS
    simp only [withVc, VC.den, SX.den, U.co, Env.upd, h5, h7, h8, h9, cond_f, p23, p45, p46, p47, p2_46, p50, b45, b47, ap1_2, ap1_3, ap1_32, ap1_152, ap1_154, ap2_40, ap2_41, ap2_42, ap2_115, ap2_121, ap2_122, ap2_124, ap3_112, U.toProp_bool, U.toBool_bool, Bool.not_eq_true', beq_eq_false_iff_ne, ne_eq, beq_iff_eq, i64_min', i64_max', Int.toNat_zero, U.toInt_int, U.toInts_ints, U.toBytes_bytes, U.toRows_rows, if_true, if_false, Nat.reduceEqDiff, reduceIte]
    generalize (ρ 4).toRows = R
    generalize (ρ 2).toInt = m
    generalize (ρ 10).toInt = pg0
    generalize (ρ 11).toInt = tx
    intro a1 a2 a3 p ap
    refine ⟨by simp [outB, nrm], fun k b base c O ln k0 k1 k2 k3 k4 k5 => ?_⟩
    have hO : O.take ln.toNat = O := List.take_of_length_le (by omega)
    have t1 : Int.toNat 1 = 1 := rfl
    rw [hO, t1]
    have hO2 : (O ++ [[pg0, tx]]).take (ln + 1).toNat = O ++ [[pg0, tx]] := List.take_of_length_le (by rw [List.length_append, List.length_singleton]; omega)
    rw [hO2]
    have hlen : ((O ++ [[pg0, tx]]).length : Int) = ln + 1 := by rw [List.length_append, List.length_singleton]; omega
    cases b
    · simp only [Bool.false_eq_true, if_false, reduceIte, Bool.not_false, Bool.true_eq_false, false_implies, and_true, true_implies, forall_const, Int.add_zero] at k2 k5 ⊢
      refine ⟨fun hk => ⟨by omega, fun hp t ht => ⟨by omega, by omega, by omega, fun u v hu hv t2 ht2 => ⟨by omega, by omega, by omega, fun u2 v2 hu2 hv2 => ⟨⟨by omega, by omega⟩, by omega, by omega, by omega, by omega, by omega, by omega, w1 k0 (by omega) k5 hp⟩⟩⟩,
        fun hp t ht => ⟨by omega, by omega, by omega, fun u v hu hv => ⟨⟨by omega, by omega⟩, by omega, by omega, by omega, by omega, by omega, by omega, w2 k0 (by omega) k5 hp⟩⟩⟩,
        fun hk t ht => ⟨by omega, by omega, by omega, fun u v hu hv => ⟨by omega, ?_, by omega⟩⟩⟩
      have : k = m := by omega
      rw [← this]; exact w4 k5
    · simp only [if_true, reduceIte, Bool.not_true, Bool.true_eq_false, false_implies, true_and, true_implies, and_true, forall_const] at k2 k5 ⊢
      refine ⟨fun hk => ⟨by omega, fun t ht => ⟨by omega, by omega, by omega, fun u v hu hv => ⟨⟨by omega, by omega⟩, by omega, by omega, by omega, by omega, by omega, by omega, w3 k0 (by omega) k5⟩⟩⟩, fun hk => ⟨by omega, ?_, by omega⟩⟩
      have : k = m := by omega
      rw [← this]; exact (inB_iff.1 k5).1
end
end Go.Proofs.Ytmjonggabppgaaa

/- The contracts of both News, so far. -/

/- What is told of a list: the pages of some of its entries. -/
set_option linter.unusedSimpArgs false
set_option linter.unusedVariables false
namespace Go.Proofs.Ytmjonggabppgaaa
noncomputable section
open Go.Eng
def selB (p : List Int → Bool) (R : List (List Int)) (n : Int) : List Int := ((R.take n.toNat).filter p).map pageOf
def isFree (r : List Int) : Bool := r.getD 1 0 == 0
def isWait (r : List Int) : Bool := decide (0 < r.getD 1 0)
def isAny (r : List Int) : Bool := decide (0 ≤ r.getD 1 0)
def PickSig {G : Type} (S : Sig G) : Prop := (∀ a b c d, S.usr 10 a b c d = .ints (selB isFree a.toRows b.toInt)) ∧ (∀ a b c d, S.usr 11 a b c d = .ints (selB isWait a.toRows b.toInt)) ∧
  (∀ a b c d, S.usr 12 a b c d = .ints (selB (fun _ => true) a.toRows b.toInt)) ∧ (∀ a b c d, S.usr 13 a b c d = .ints (selB isAny a.toRows b.toInt))
def selX (k : Nat) (x n : SX) : SX := .us .ints k x n (.int 0) (.int 0)
theorem toNat_one' : Int.toNat 1 = 1 := rfl
theorem selB_zero (p : List Int → Bool) (R : List (List Int)) : selB p R 0 = [] := by simp [selB]
theorem selB_step (p : List Int → Bool) {R : List (List Int)} {k : Int} (h0 : 0 ≤ k) (hk : k < R.length) : selB p R (k + 1) = selB p R k ++ if p (R.getD k.toNat []) then [pg R k.toNat] else [] := by
  unfold selB
  rw [show (k + 1).toNat = k.toNat + 1 by omega, take_rows R _ (by omega), List.filter_append, List.map_append]
  congr 1
  rw [List.filter_cons, List.filter_nil]
  split <;> rfl
theorem selB_yes {p : List Int → Bool} {R : List (List Int)} {k l : Int} {L : List Int} (h0 : 0 ≤ k) (hk : k < R.length) (hL : L = selB p R k) (hl : (L.length : Int) = l) (hp : p (R.getD k.toNat []) = true) :
    L.take l.toNat ++ [pg R k.toNat] = selB p R (k + 1) := by
  rw [selB_step p h0 hk, if_pos hp, ← hL, List.take_of_length_le (by omega)]
theorem selB_no {p : List Int → Bool} {R : List (List Int)} {k : Int} {L : List Int} (h0 : 0 ≤ k) (hk : k < R.length) (hL : L = selB p R k) (hp : p (R.getD k.toNat []) = false) : L = selB p R (k + 1) := by
  rw [selB_step p h0 hk, hp, ← hL]; simp
/-- No numbers, as a list that is not held yet. -/
def emptI : Ctr := ⟨[], [], [], [], [], .tup [], [.arr (.ints .i64) (.int (-1)) (.f1 152 (.int 0)) (.int 0)], []⟩
theorem emptI_gh {G : Type} (S : Sig G) : GhOk S emptI := by
  intro ch w0 F ρ w _ hs
  refine ⟨ρ, Ext.refl _ _, ?_, by simp [emptI]⟩
  simp only [emptI, hpDen_cons, star_assoc, Ch.den]
  have hn : ∀ ρ, hpDen (S.wc ch) ρ w0 [] = emp := fun _ => rfl
  have e : arrDen (S.wc ch) (.ints .i64) ((SX.int (-1)).den (S.wc ch) ρ) ((SX.f1 152 (.int 0)).den (S.wc ch) ρ) ((SX.int 0).den (S.wc ch) ρ) Hl.none := by
    refine ⟨[], ?_, ?_, ?_, ?_⟩
    · simp [En.vals, SX.den, ap1, En.stride]
    · simp [SX.den]
    · simp [SX.den]
    · simp [En.vals, SX.den, ap1, row, rowH_nil]
  obtain ⟨x, ⟨a, b, d, rfl, ha, hb⟩, hi⟩ := hs
  refine ⟨_, ⟨Hl.none, Hl.un a b, fun i j => .inl rfl, ?_, e, ⟨a, b, d, rfl, ha, hb⟩⟩, hi⟩
  funext i j; unfold Hl.un Hl.none; rfl
end
end Go.Proofs.Ytmjonggabppgaaa

/- The pages that are free. -/
set_option linter.unusedSimpArgs false
set_option linter.unusedVariables false
namespace Go.Proofs.Ytmjonggabppgaaa
noncomputable section
open Go.Eng
def pickFCtr : Ctr := ⟨[.int, .rows, .int, .int, .int], [.one (.slice (ai 0) (.int 0) (.int 0) (.int 0) (ai 2) (ai 3) 2), .one (.fn 63), .one (.fn 64)], [.arr enE (ai 0) (rwA 1) (ai 4)],
  [eLe (.int 0) (ai 2), eLe (ai 2) (.f1 32 (rwA 1)), eLe (ai 2) (.int 1048576)], [.int, .int, .int, .ints],
  .one (.slice (ai 5) (.int 0) (.int 0) (.int 0) (ai 6) (ai 7) 1), [.arr enE (ai 0) (rwA 1) (ai 4), .arr (.ints .i64) (ai 5) (xsA 8) (ai 7)],
  [eEq (.f1 30 (xsA 8)) (ai 6), eLe (.int 0) (ai 6), eLe (ai 6) (ai 2), .f2 153 (xsA 8) (selX 10 (rwA 1) (ai 2))]⟩
def pickFInv : Inv := ⟨[.int, .int, .int, .int, .ints], [(12, .one (.int .i64 (di 0))), (7, .one (.slice (di 1) (.int 0) (.int 0) (.int 0) (di 2) (di 3) 1))], [.arr (.ints .i64) (di 1) (xsA 1000004) (di 3)],
  [eLe (.int 0) (di 0), eLe (di 0) (ai 2), eEq (.f1 30 (xsA 1000004)) (di 2), eLe (.int 0) (di 2), eLe (di 2) (di 0), .f2 153 (xsA 1000004) (selX 10 (rwA 1) (di 0))], .f2 41 (ai 2) (di 0)⟩
def pickFCx : Cx := { specs := [], anns := [(62, [(3, .inv pickFInv), (2, .ghost emptI [])])] }
def pickFVc : VC := .imp (.f2 47 (.int 0) (.at .int 2)) (.imp (.f2 47 (.at .int 2) (.f1 32 (.at .rows 1))) (.imp (.f2 47 (.at .int 2) (.int 1048576)) (.need (.f2 153 (.f1 
    152 (.int 0)) (.us .ints 10 (.at .rows 1) (.int 0) (.int 0) (.int 0))) (.all 5 .int (.all 6 .int (.all 7 .int (.all 8 .int (.all 9 .ints (.imp (.f2 47 
    (.int 0) (.at .int 5)) (.imp (.f2 47 (.at .int 5) (.at .int 2)) (.imp (.f2 45 (.f1 30 (.at .ints 9)) (.at .int 7)) (.imp (.f2 47 (.int 0) (.at .int 
    7)) (.imp (.f2 47 (.at .int 7) (.at .int 5)) (.imp (.f2 153 (.at .ints 9) (.us .ints 10 (.at .rows 1) (.at .int 5) (.int 0) (.int 0))) (.and (.imp 
    (.f2 46 (.at .int 5) (.at .int 2)) (.need (.f2 46 (.at .int 5) (.f1 32 (.at .rows 1))) (.all 10 .int (.imp (.f2 47 (.int 0) (.at .int 10)) (.all 11 
    .int (.imp (.f2 47 (.int 0) (.at .int 11)) (.and (.imp (.f2 45 (.f3 112 (.at .rows 1) (.at .int 5) (.int 1)) (.int 0)) (.all 12 .int (.imp (.f2 47 
    (.int 0) (.at .int 12)) (.all 13 .int (.imp (.f2 47 (.int 0) (.at .int 13)) (.need (.f2 47 (.at .int 7) (.f1 30 (.at .ints 9))) (.need (.f2 47 (.f2 42 
    (.f2 40 (.at .int 7) (.int 1)) (.int 8)) (.int 140737488355328)) (.all 14 .int (.all 15 .int (.imp (.f2 47 (.f2 40 (.at .int 7) (.int 1)) (.at .int 
    15)) (.imp (.f2 50 (.f2 47 (.int 0) (.at .int 14)) (.f2 45 (.f2 40 (.at .int 7) (.int 1)) (.int 0))) (.need (.f1 23 (.f2 40 (.at .int 5) (.int 1))) 
    (.need (.f2 47 (.int 0) (.f2 41 (.at .int 2) (.f2 40 (.at .int 5) (.int 1)))) (.need (.f2 46 (.f2 41 (.at .int 2) (.f2 40 (.at .int 5) (.int 1))) (.f2 
    41 (.at .int 2) (.at .int 5))) (.need (.f2 47 (.int 0) (.f2 40 (.at .int 5) (.int 1))) (.need (.f2 47 (.f2 40 (.at .int 5) (.int 1)) (.at .int 2)) 
    (.need (.f2 45 (.f2 40 (.f1 30 (.f2 113 (.at .ints 9) (.at .int 7))) (.int 1)) (.f2 40 (.at .int 7) (.int 1))) (.need (.f2 47 (.int 0) (.f2 40 (.at 
    .int 7) (.int 1))) (.need (.f2 47 (.f2 40 (.at .int 7) (.int 1)) (.f2 40 (.at .int 5) (.int 1))) (.need (.f2 153 (.f2 119 (.f2 113 (.at .ints 9) (.at 
    .int 7)) (.f2 122 (.f3 112 (.at .rows 1) (.at .int 5) (.int 0)) (.f1 152 (.int 0)))) (.us .ints 10 (.at .rows 1) (.f2 40 (.at .int 5) (.int 1)) (.int 
    0) (.int 0))) (.tt))))))))))))))))))))) (.imp (.f1 2 (.f2 45 (.f3 112 (.at .rows 1) (.at .int 5) (.int 1)) (.int 0))) (.need (.f1 23 (.f2 40 (.at .int 
    5) (.int 1))) (.need (.f2 47 (.int 0) (.f2 41 (.at .int 2) (.f2 40 (.at .int 5) (.int 1)))) (.need (.f2 46 (.f2 41 (.at .int 2) (.f2 40 (.at .int 5) 
    (.int 1))) (.f2 41 (.at .int 2) (.at .int 5))) (.need (.f2 47 (.int 0) (.f2 40 (.at .int 5) (.int 1))) (.need (.f2 47 (.f2 40 (.at .int 5) (.int 1)) 
    (.at .int 2)) (.need (.f2 47 (.at .int 7) (.f2 40 (.at .int 5) (.int 1))) (.need (.f2 153 (.at .ints 9) (.us .ints 10 (.at .rows 1) (.f2 40 (.at .int 
    5) (.int 1)) (.int 0) (.int 0))) (.tt)))))))))))))))) (.imp (.f2 47 (.at .int 2) (.at .int 5)) (.need (.f2 47 (.at .int 7) (.at .int 2)) (.need (.f2 
    153 (.at .ints 9) (.us .ints 10 (.at .rows 1) (.at .int 2) (.int 0) (.int 0))) (.tt)))))))))))))))))))
theorem pickF_vc : vcOf Try.prog pickFCx 10 62 pickFCtr = pickFVc := by kernel_rfl

theorem pickF_ok {G : Type} (S : Sig G) (hS : PickSig S) : CtrOk S Try.prog 62 pickFCtr := by
  refine vcOf_sound S (C := pickFCx) (fuel := 10) ⟨fun f sps h => by simp [pickFCx, assoc] at h, fun f l h i sp args hm => ?_, fun f sps h => by simp [pickFCx, assoc] at h⟩ fun ρ => ?_
  · simp only [pickFCx, assoc] at h
    cases hb : Nat.beq 62 f
    · rw [hb] at h; cases h
    · rw [hb] at h; cases h
      simp at hm
      obtain ⟨rfl, rfl, rfl⟩ := hm
      exact ⟨by decide, emptI_gh S⟩
  · rw [pickF_vc]
    obtain ⟨hu, _⟩ := hS
    simp only [pickFVc, VC.den, SX.den, U.co, Env.upd, hu, p23, p46, p47, ap1_2, ap1_30, ap1_32, ap1_152, ap2_40, ap2_41, ap2_42, ap2_45, ap2_48, ap2_50, ap2_113, ap2_119, ap2_122, ap2_153, t47, ap3_112, U.toProp_bool, U.toBool_bool, Bool.not_eq_true', beq_eq_false_iff_ne, ne_eq, beq_iff_eq, i64_min', i64_max', Int.toNat_zero, toNat_one', U.toInt_int, U.toInts_ints, U.toBytes_bytes, U.toRows_rows, if_true, if_false, Nat.reduceEqDiff, reduceIte]
    generalize (ρ 1).toRows = R
    generalize (ρ 2).toInt = m
    intro a1 a2 a3
    refine ⟨(selB_zero _ R).symm, fun x c l b L k0 k1 k2 k3 k4 k5 => ⟨fun hk => ?_, fun hk => ?_⟩⟩
    · repeat' (first | exact trivial | apply And.intro | intro _)
      all_goals first
        | omega
        | (refine selB_yes k0 (by omega) k5 k2 ?_; first | rfl | (simp only [isFree, isWait, isAny, beq_iff_eq, decide_eq_true_eq, beq_eq_false_iff_ne, decide_eq_false_iff_not]; omega))
        | (refine selB_no k0 (by omega) k5 ?_; first | rfl | (simp only [isFree, isWait, isAny, beq_iff_eq, decide_eq_true_eq, beq_eq_false_iff_ne, decide_eq_false_iff_not]; omega))
        | (simp only [List.length_take]; omega)
        | skip
    · have hxm : x = m := by omega
      subst hxm
      exact ⟨by omega, k5, trivial⟩
end
end Go.Proofs.Ytmjonggabppgaaa

/- The pages that wait. -/
set_option linter.unusedSimpArgs false
set_option linter.unusedVariables false
namespace Go.Proofs.Ytmjonggabppgaaa
noncomputable section
open Go.Eng
def pickWCtr : Ctr := ⟨[.int, .rows, .int, .int, .int], [.one (.slice (ai 0) (.int 0) (.int 0) (.int 0) (ai 2) (ai 3) 2), .one (.fn 66), .one (.fn 64)], [.arr enE (ai 0) (rwA 1) (ai 4)],
  [eLe (.int 0) (ai 2), eLe (ai 2) (.f1 32 (rwA 1)), eLe (ai 2) (.int 1048576)], [.int, .int, .int, .ints],
  .one (.slice (ai 5) (.int 0) (.int 0) (.int 0) (ai 6) (ai 7) 1), [.arr enE (ai 0) (rwA 1) (ai 4), .arr (.ints .i64) (ai 5) (xsA 8) (ai 7)],
  [eEq (.f1 30 (xsA 8)) (ai 6), eLe (.int 0) (ai 6), eLe (ai 6) (ai 2), .f2 153 (xsA 8) (selX 11 (rwA 1) (ai 2))]⟩
def pickWInv : Inv := ⟨[.int, .int, .int, .int, .ints], [(12, .one (.int .i64 (di 0))), (7, .one (.slice (di 1) (.int 0) (.int 0) (.int 0) (di 2) (di 3) 1))], [.arr (.ints .i64) (di 1) (xsA 1000004) (di 3)],
  [eLe (.int 0) (di 0), eLe (di 0) (ai 2), eEq (.f1 30 (xsA 1000004)) (di 2), eLe (.int 0) (di 2), eLe (di 2) (di 0), .f2 153 (xsA 1000004) (selX 11 (rwA 1) (di 0))], .f2 41 (ai 2) (di 0)⟩
def pickWCx : Cx := { specs := [], anns := [(62, [(3, .inv pickWInv), (2, .ghost emptI [])])] }
def pickWVc : VC := .imp (.f2 47 (.int 0) (.at .int 2)) (.imp (.f2 47 (.at .int 2) (.f1 32 (.at .rows 1))) (.imp (.f2 47 (.at .int 2) (.int 1048576)) (.need (.f2 153 (.f1 
    152 (.int 0)) (.us .ints 11 (.at .rows 1) (.int 0) (.int 0) (.int 0))) (.all 5 .int (.all 6 .int (.all 7 .int (.all 8 .int (.all 9 .ints (.imp (.f2 47 
    (.int 0) (.at .int 5)) (.imp (.f2 47 (.at .int 5) (.at .int 2)) (.imp (.f2 45 (.f1 30 (.at .ints 9)) (.at .int 7)) (.imp (.f2 47 (.int 0) (.at .int 
    7)) (.imp (.f2 47 (.at .int 7) (.at .int 5)) (.imp (.f2 153 (.at .ints 9) (.us .ints 11 (.at .rows 1) (.at .int 5) (.int 0) (.int 0))) (.and (.imp 
    (.f2 46 (.at .int 5) (.at .int 2)) (.need (.f2 46 (.at .int 5) (.f1 32 (.at .rows 1))) (.all 10 .int (.imp (.f2 47 (.int 0) (.at .int 10)) (.all 11 
    .int (.imp (.f2 47 (.int 0) (.at .int 11)) (.and (.imp (.f2 46 (.int 0) (.f3 112 (.at .rows 1) (.at .int 5) (.int 1))) (.all 12 .int (.imp (.f2 47 
    (.int 0) (.at .int 12)) (.all 13 .int (.imp (.f2 47 (.int 0) (.at .int 13)) (.need (.f2 47 (.at .int 7) (.f1 30 (.at .ints 9))) (.need (.f2 47 (.f2 42 
    (.f2 40 (.at .int 7) (.int 1)) (.int 8)) (.int 140737488355328)) (.all 14 .int (.all 15 .int (.imp (.f2 47 (.f2 40 (.at .int 7) (.int 1)) (.at .int 
    15)) (.imp (.f2 50 (.f2 47 (.int 0) (.at .int 14)) (.f2 45 (.f2 40 (.at .int 7) (.int 1)) (.int 0))) (.need (.f1 23 (.f2 40 (.at .int 5) (.int 1))) 
    (.need (.f2 47 (.int 0) (.f2 41 (.at .int 2) (.f2 40 (.at .int 5) (.int 1)))) (.need (.f2 46 (.f2 41 (.at .int 2) (.f2 40 (.at .int 5) (.int 1))) (.f2 
    41 (.at .int 2) (.at .int 5))) (.need (.f2 47 (.int 0) (.f2 40 (.at .int 5) (.int 1))) (.need (.f2 47 (.f2 40 (.at .int 5) (.int 1)) (.at .int 2)) 
    (.need (.f2 45 (.f2 40 (.f1 30 (.f2 113 (.at .ints 9) (.at .int 7))) (.int 1)) (.f2 40 (.at .int 7) (.int 1))) (.need (.f2 47 (.int 0) (.f2 40 (.at 
    .int 7) (.int 1))) (.need (.f2 47 (.f2 40 (.at .int 7) (.int 1)) (.f2 40 (.at .int 5) (.int 1))) (.need (.f2 153 (.f2 119 (.f2 113 (.at .ints 9) (.at 
    .int 7)) (.f2 122 (.f3 112 (.at .rows 1) (.at .int 5) (.int 0)) (.f1 152 (.int 0)))) (.us .ints 11 (.at .rows 1) (.f2 40 (.at .int 5) (.int 1)) (.int 
    0) (.int 0))) (.tt))))))))))))))))))))) (.imp (.f2 47 (.f3 112 (.at .rows 1) (.at .int 5) (.int 1)) (.int 0)) (.need (.f1 23 (.f2 40 (.at .int 5) 
    (.int 1))) (.need (.f2 47 (.int 0) (.f2 41 (.at .int 2) (.f2 40 (.at .int 5) (.int 1)))) (.need (.f2 46 (.f2 41 (.at .int 2) (.f2 40 (.at .int 5) 
    (.int 1))) (.f2 41 (.at .int 2) (.at .int 5))) (.need (.f2 47 (.int 0) (.f2 40 (.at .int 5) (.int 1))) (.need (.f2 47 (.f2 40 (.at .int 5) (.int 1)) 
    (.at .int 2)) (.need (.f2 47 (.at .int 7) (.f2 40 (.at .int 5) (.int 1))) (.need (.f2 153 (.at .ints 9) (.us .ints 11 (.at .rows 1) (.f2 40 (.at .int 
    5) (.int 1)) (.int 0) (.int 0))) (.tt)))))))))))))))) (.imp (.f2 47 (.at .int 2) (.at .int 5)) (.need (.f2 47 (.at .int 7) (.at .int 2)) (.need (.f2 
    153 (.at .ints 9) (.us .ints 11 (.at .rows 1) (.at .int 2) (.int 0) (.int 0))) (.tt)))))))))))))))))))
theorem pickW_vc : vcOf Try.prog pickWCx 10 62 pickWCtr = pickWVc := by kernel_rfl

theorem pickW_ok {G : Type} (S : Sig G) (hS : PickSig S) : CtrOk S Try.prog 62 pickWCtr := by
  refine vcOf_sound S (C := pickWCx) (fuel := 10) ⟨fun f sps h => by simp [pickWCx, assoc] at h, fun f l h i sp args hm => ?_, fun f sps h => by simp [pickWCx, assoc] at h⟩ fun ρ => ?_
  · simp only [pickWCx, assoc] at h
    cases hb : Nat.beq 62 f
    · rw [hb] at h; cases h
    · rw [hb] at h; cases h
      simp at hm
      obtain ⟨rfl, rfl, rfl⟩ := hm
      exact ⟨by decide, emptI_gh S⟩
  · rw [pickW_vc]
    obtain ⟨_, hu, _⟩ := hS
    simp only [pickWVc, VC.den, SX.den, U.co, Env.upd, hu, p23, p46, p47, ap1_2, ap1_30, ap1_32, ap1_152, ap2_40, ap2_41, ap2_42, ap2_45, ap2_48, ap2_50, ap2_113, ap2_119, ap2_122, ap2_153, t47, ap3_112, U.toProp_bool, U.toBool_bool, Bool.not_eq_true', beq_eq_false_iff_ne, ne_eq, beq_iff_eq, i64_min', i64_max', Int.toNat_zero, toNat_one', U.toInt_int, U.toInts_ints, U.toBytes_bytes, U.toRows_rows, if_true, if_false, Nat.reduceEqDiff, reduceIte]
    generalize (ρ 1).toRows = R
    generalize (ρ 2).toInt = m
    intro a1 a2 a3
    refine ⟨(selB_zero _ R).symm, fun x c l b L k0 k1 k2 k3 k4 k5 => ⟨fun hk => ?_, fun hk => ?_⟩⟩
    · repeat' (first | exact trivial | apply And.intro | intro _)
      all_goals first
        | omega
        | (refine selB_yes k0 (by omega) k5 k2 ?_; first | rfl | (simp only [isFree, isWait, isAny, beq_iff_eq, decide_eq_true_eq, beq_eq_false_iff_ne, decide_eq_false_iff_not]; omega))
        | (refine selB_no k0 (by omega) k5 ?_; first | rfl | (simp only [isFree, isWait, isAny, beq_iff_eq, decide_eq_true_eq, beq_eq_false_iff_ne, decide_eq_false_iff_not]; omega))
        | (simp only [List.length_take]; omega)
        | skip
    · have hxm : x = m := by omega
      subst hxm
      exact ⟨by omega, k5, trivial⟩
end
end Go.Proofs.Ytmjonggabppgaaa

/- All pages. -/
set_option linter.unusedSimpArgs false
set_option linter.unusedVariables false
namespace Go.Proofs.Ytmjonggabppgaaa
noncomputable section
open Go.Eng
def pickACtr : Ctr := ⟨[.int, .rows, .int, .int, .int], [.one (.slice (ai 0) (.int 0) (.int 0) (.int 0) (ai 2) (ai 3) 2), .one (.fn 82), .one (.fn 64)], [.arr enE (ai 0) (rwA 1) (ai 4)],
  [eLe (.int 0) (ai 2), eLe (ai 2) (.f1 32 (rwA 1)), eLe (ai 2) (.int 1048576)], [.int, .int, .int, .ints],
  .one (.slice (ai 5) (.int 0) (.int 0) (.int 0) (ai 6) (ai 7) 1), [.arr enE (ai 0) (rwA 1) (ai 4), .arr (.ints .i64) (ai 5) (xsA 8) (ai 7)],
  [eEq (.f1 30 (xsA 8)) (ai 6), eLe (.int 0) (ai 6), eLe (ai 6) (ai 2), .f2 153 (xsA 8) (selX 12 (rwA 1) (ai 2))]⟩
def pickAInv : Inv := ⟨[.int, .int, .int, .int, .ints], [(12, .one (.int .i64 (di 0))), (7, .one (.slice (di 1) (.int 0) (.int 0) (.int 0) (di 2) (di 3) 1))], [.arr (.ints .i64) (di 1) (xsA 1000004) (di 3)],
  [eLe (.int 0) (di 0), eLe (di 0) (ai 2), eEq (.f1 30 (xsA 1000004)) (di 2), eLe (.int 0) (di 2), eLe (di 2) (di 0), .f2 153 (xsA 1000004) (selX 12 (rwA 1) (di 0))], .f2 41 (ai 2) (di 0)⟩
def pickACx : Cx := { specs := [], anns := [(62, [(3, .inv pickAInv), (2, .ghost emptI [])])] }
def pickAVc : VC := .imp (.f2 47 (.int 0) (.at .int 2)) (.imp (.f2 47 (.at .int 2) (.f1 32 (.at .rows 1))) (.imp (.f2 47 (.at .int 2) (.int 1048576)) (.need (.f2 153 (.f1 
    152 (.int 0)) (.us .ints 12 (.at .rows 1) (.int 0) (.int 0) (.int 0))) (.all 5 .int (.all 6 .int (.all 7 .int (.all 8 .int (.all 9 .ints (.imp (.f2 47 
    (.int 0) (.at .int 5)) (.imp (.f2 47 (.at .int 5) (.at .int 2)) (.imp (.f2 45 (.f1 30 (.at .ints 9)) (.at .int 7)) (.imp (.f2 47 (.int 0) (.at .int 
    7)) (.imp (.f2 47 (.at .int 7) (.at .int 5)) (.imp (.f2 153 (.at .ints 9) (.us .ints 12 (.at .rows 1) (.at .int 5) (.int 0) (.int 0))) (.and (.imp 
    (.f2 46 (.at .int 5) (.at .int 2)) (.need (.f2 46 (.at .int 5) (.f1 32 (.at .rows 1))) (.all 10 .int (.imp (.f2 47 (.int 0) (.at .int 10)) (.all 11 
    .int (.imp (.f2 47 (.int 0) (.at .int 11)) (.all 12 .int (.imp (.f2 47 (.int 0) (.at .int 12)) (.all 13 .int (.imp (.f2 47 (.int 0) (.at .int 13)) 
    (.need (.f2 47 (.at .int 7) (.f1 30 (.at .ints 9))) (.need (.f2 47 (.f2 42 (.f2 40 (.at .int 7) (.int 1)) (.int 8)) (.int 140737488355328)) (.all 14 
    .int (.all 15 .int (.imp (.f2 47 (.f2 40 (.at .int 7) (.int 1)) (.at .int 15)) (.imp (.f2 50 (.f2 47 (.int 0) (.at .int 14)) (.f2 45 (.f2 40 (.at .int 
    7) (.int 1)) (.int 0))) (.need (.f1 23 (.f2 40 (.at .int 5) (.int 1))) (.need (.f2 47 (.int 0) (.f2 41 (.at .int 2) (.f2 40 (.at .int 5) (.int 1)))) 
    (.need (.f2 46 (.f2 41 (.at .int 2) (.f2 40 (.at .int 5) (.int 1))) (.f2 41 (.at .int 2) (.at .int 5))) (.need (.f2 47 (.int 0) (.f2 40 (.at .int 5) 
    (.int 1))) (.need (.f2 47 (.f2 40 (.at .int 5) (.int 1)) (.at .int 2)) (.need (.f2 45 (.f2 40 (.f1 30 (.f2 113 (.at .ints 9) (.at .int 7))) (.int 1)) 
    (.f2 40 (.at .int 7) (.int 1))) (.need (.f2 47 (.int 0) (.f2 40 (.at .int 7) (.int 1))) (.need (.f2 47 (.f2 40 (.at .int 7) (.int 1)) (.f2 40 (.at 
    .int 5) (.int 1))) (.need (.f2 153 (.f2 119 (.f2 113 (.at .ints 9) (.at .int 7)) (.f2 122 (.f3 112 (.at .rows 1) (.at .int 5) (.int 0)) (.f1 152 (.int 
    0)))) (.us .ints 12 (.at .rows 1) (.f2 40 (.at .int 5) (.int 1)) (.int 0) (.int 0))) (.tt)))))))))))))))))))))))))) (.imp (.f2 47 (.at .int 2) (.at 
    .int 5)) (.need (.f2 47 (.at .int 7) (.at .int 2)) (.need (.f2 153 (.at .ints 9) (.us .ints 12 (.at .rows 1) (.at .int 2) (.int 0) (.int 0))) 
    (.tt)))))))))))))))))))
theorem pickA_vc : vcOf Try.prog pickACx 10 62 pickACtr = pickAVc := by kernel_rfl

theorem pickA_ok {G : Type} (S : Sig G) (hS : PickSig S) : CtrOk S Try.prog 62 pickACtr := by
  refine vcOf_sound S (C := pickACx) (fuel := 10) ⟨fun f sps h => by simp [pickACx, assoc] at h, fun f l h i sp args hm => ?_, fun f sps h => by simp [pickACx, assoc] at h⟩ fun ρ => ?_
  · simp only [pickACx, assoc] at h
    cases hb : Nat.beq 62 f
    · rw [hb] at h; cases h
    · rw [hb] at h; cases h
      simp at hm
      obtain ⟨rfl, rfl, rfl⟩ := hm
      exact ⟨by decide, emptI_gh S⟩
  · rw [pickA_vc]
    obtain ⟨_, _, hu, _⟩ := hS
    simp only [pickAVc, VC.den, SX.den, U.co, Env.upd, hu, p23, p46, p47, ap1_2, ap1_30, ap1_32, ap1_152, ap2_40, ap2_41, ap2_42, ap2_45, ap2_48, ap2_50, ap2_113, ap2_119, ap2_122, ap2_153, t47, ap3_112, U.toProp_bool, U.toBool_bool, Bool.not_eq_true', beq_eq_false_iff_ne, ne_eq, beq_iff_eq, i64_min', i64_max', Int.toNat_zero, toNat_one', U.toInt_int, U.toInts_ints, U.toBytes_bytes, U.toRows_rows, if_true, if_false, Nat.reduceEqDiff, reduceIte]
    generalize (ρ 1).toRows = R
    generalize (ρ 2).toInt = m
    intro a1 a2 a3
    refine ⟨(selB_zero _ R).symm, fun x c l b L k0 k1 k2 k3 k4 k5 => ⟨fun hk => ?_, fun hk => ?_⟩⟩
    · repeat' (first | exact trivial | apply And.intro | intro _)
      all_goals first
        | omega
        | (refine selB_yes k0 (by omega) k5 k2 ?_; first | rfl | (simp only [isFree, isWait, isAny, beq_iff_eq, decide_eq_true_eq, beq_eq_false_iff_ne, decide_eq_false_iff_not]; omega))
        | (refine selB_no k0 (by omega) k5 ?_; first | rfl | (simp only [isFree, isWait, isAny, beq_iff_eq, decide_eq_true_eq, beq_eq_false_iff_ne, decide_eq_false_iff_not]; omega))
        | (simp only [List.length_take]; omega)
        | skip
    · have hxm : x = m := by omega
      subst hxm
      exact ⟨by omega, k5, trivial⟩
end
end Go.Proofs.Ytmjonggabppgaaa

/- What a list tells: the pages that are free, that wait, all. -/
set_option linter.unusedSimpArgs false
set_option linter.unusedVariables false
namespace Go.Proofs.Ytmjonggabppgaaa
noncomputable section
open Go.Eng
def toldP : List Ch := [listC (ai 0) (ai 2) (ai 3) (ai 4) (ai 6) (ai 7) (ai 8) (gA 1), .arr enT (ai 2) (rA 5) (ai 4), .prd 1 (key3 (ai 6) (ai 7) (ai 8)) (gA 1)]
def toldC (k : Nat) : Ctr := ⟨[.int, .g, .int, .int, .int, .rows, .int, .int, .int], [.one (.ptr (ai 0) 0)], toldP, [eLe (.int 0) (ai 3), eLe (ai 3) (.f1 32 (rA 5)), eLe (ai 3) (.int 65534)], [.int, .int, .int, .ints],
  .one (slC (ai 9) (ai 10) (ai 11) 1), toldP ++ [.arr (.ints .i64) (ai 9) (iA 12) (ai 11)], [eEq (.f1 30 (iA 12)) (ai 10), eLe (.int 0) (ai 10), eLe (ai 10) (ai 3), .f2 153 (iA 12) (selX k (rA 5) (ai 3))]⟩
def frCtr : Ctr := toldC 10
def waCtr : Ctr := toldC 11
def alCtr : Ctr := toldC 12
def frCx : Cx := { specs := [(62, [pickFCtr])], anns := [] }
def waCx : Cx := { specs := [(62, [pickWCtr])], anns := [] }
def alCx : Cx := { specs := [(62, [pickACtr])], anns := [] }
-- BEGIN VC fr
def frVc : VC := (.imp (.f2 47 (.int 0) (.at .int 3)) (.imp (.f2 47 (.at .int 3) (.f1 32 (.at .rows 5))) (.imp (.f2 47 (.at .int 3) (.int 65534)) (.need (.f2 47 (.at
    .int 3) (.int 1048576)) (.all 9 .int (.all 10 .int (.all 11 .int (.all 12 .ints (.imp (.f2 45 (.f1 30 (.at .ints 12)) (.at .int 10)) (.imp (.f2 47
    (.int 0) (.at .int 10)) (.imp (.f2 47 (.at .int 10) (.at .int 3)) (.imp (.f2 153 (.at .ints 12) (.us .ints 10 (.at .rows 5) (.at .int 3) (.int 0)
    (.int 0))) .tt))))))))))))
theorem fr_vc : vcOf Try.prog frCx 10 29 frCtr = frVc := by kernel_rfl
-- END VC fr
-- BEGIN VC wa
def waVc : VC := (.imp (.f2 47 (.int 0) (.at .int 3)) (.imp (.f2 47 (.at .int 3) (.f1 32 (.at .rows 5))) (.imp (.f2 47 (.at .int 3) (.int 65534)) (.need (.f2 47 (.at
    .int 3) (.int 1048576)) (.all 9 .int (.all 10 .int (.all 11 .int (.all 12 .ints (.imp (.f2 45 (.f1 30 (.at .ints 12)) (.at .int 10)) (.imp (.f2 47
    (.int 0) (.at .int 10)) (.imp (.f2 47 (.at .int 10) (.at .int 3)) (.imp (.f2 153 (.at .ints 12) (.us .ints 11 (.at .rows 5) (.at .int 3) (.int 0)
    (.int 0))) .tt))))))))))))
theorem wa_vc : vcOf Try.prog waCx 10 31 waCtr = waVc := by kernel_rfl
-- END VC wa
-- BEGIN VC al
def alVc : VC := (.imp (.f2 47 (.int 0) (.at .int 3)) (.imp (.f2 47 (.at .int 3) (.f1 32 (.at .rows 5))) (.imp (.f2 47 (.at .int 3) (.int 65534)) (.need (.f2 47 (.at
    .int 3) (.int 1048576)) (.all 9 .int (.all 10 .int (.all 11 .int (.all 12 .ints (.imp (.f2 45 (.f1 30 (.at .ints 12)) (.at .int 10)) (.imp (.f2 47
    (.int 0) (.at .int 10)) (.imp (.f2 47 (.at .int 10) (.at .int 3)) (.imp (.f2 153 (.at .ints 12) (.us .ints 12 (.at .rows 5) (.at .int 3) (.int 0)
    (.int 0))) .tt))))))))))))
theorem al_vc : vcOf Try.prog alCx 10 39 alCtr = alVc := by kernel_rfl
-- END VC al
-- PROOFS
theorem fr_ok (S : Sig FL) (hP : PickSig S) : CtrOk S Try.prog 29 frCtr := by
  refine vcOf_sound S (C := frCx) (fuel := 10) (cx_of ⟨one_spec (by decide) (pickF_ok S hP), trivial⟩ trivial trivial) fun ρ => ?_
  rw [fr_vc]
  simp only [frVc, VC.den, SX.den, co_int, Env.upd, p47, U.toInt_int]
  exact fun _ _ h => ⟨by omega, fun _ _ _ _ _ _ _ _ => trivial⟩
theorem wa_ok (S : Sig FL) (hP : PickSig S) : CtrOk S Try.prog 31 waCtr := by
  refine vcOf_sound S (C := waCx) (fuel := 10) (cx_of ⟨one_spec (by decide) (pickW_ok S hP), trivial⟩ trivial trivial) fun ρ => ?_
  rw [wa_vc]
  simp only [waVc, VC.den, SX.den, co_int, Env.upd, p47, U.toInt_int]
  exact fun _ _ h => ⟨by omega, fun _ _ _ _ _ _ _ _ => trivial⟩
theorem al_ok (S : Sig FL) (hP : PickSig S) : CtrOk S Try.prog 39 alCtr := by
  refine vcOf_sound S (C := alCx) (fuel := 10) (cx_of ⟨one_spec (by decide) (pickA_ok S hP), trivial⟩ trivial trivial) fun ρ => ?_
  rw [al_vc]
  simp only [alVc, VC.den, SX.den, co_int, Env.upd, p47, U.toInt_int]
  exact fun _ _ h => ⟨by omega, fun _ _ _ _ _ _ _ _ => trivial⟩
end
end Go.Proofs.Ytmjonggabppgaaa

/- What a new list holds. -/
set_option linter.unusedVariables false
namespace Go.Proofs.Ytmjonggabppgaaa
theorem sort_rows {L : List Int} {m : Int} {R : List (List Int)} (h : sortB (entsB L m) R = true) : R = (R.map pageOf).map fun p => [p, 0] := by
  rw [List.map_map]
  conv => lhs; rw [← List.map_id R]
  refine List.map_congr_left fun r hr => ?_
  have := (sortB_iff.1 h).1.mem_iff.1 hr
  unfold entsB at this
  obtain ⟨p, _, rfl⟩ := List.mem_map.1 this
  rfl
theorem sort_pages {E R R' : List (List Int)} (h : sortB E R = true) (h' : sortB E R' = true) : R.map pageOf = R'.map pageOf := by
  have a := sortB_iff.1 h
  have b := sortB_iff.1 h'
  refine List.Perm.eq_of_pairwise (le := fun x y => x ≤ y) (fun x y _ _ h1 h2 => Int.le_antisymm h1 h2) (List.pairwise_map.2 a.2) (List.pairwise_map.2 b.2) ((a.1.trans b.1.symm).map _)
theorem sort_one {L : List Int} {m : Int} {R R' : List (List Int)} (h : sortB (entsB L m) R = true) (h' : sortB (entsB L m) R' = true) : R = R' := by
  rw [sort_rows h, sort_rows h', sort_pages h h']
theorem sort_size {L : List Int} {m : Int} {R : List (List Int)} (h0 : 0 ≤ m) (hm : m ≤ L.length) (h : sortB (entsB L m) R = true) : (R.length : Int) = m := by
  rw [(sortB_iff.1 h).1.length_eq]
  unfold entsB
  rw [List.length_map, List.length_take]; omega
theorem sort_good {L : List Int} {m : Int} {R : List (List Int)} (h0 : 0 ≤ m) (hm : m ≤ L.length) (ha : allNB L m = true) (hd : distB L m = true) (h : sortB (entsB L m) R = true) : GoodP R := by
  have hs := sortB_iff.1 h
  refine ⟨fun r hr => ?_, ?_⟩
  · have hm := hs.1.mem_iff.1 hr
    unfold entsB at hm
    obtain ⟨p, hp, rfl⟩ := List.mem_map.1 hm
    unfold allNB at ha
    have := List.all_eq_true.1 ha p hp
    simp only [Bool.and_eq_true, decide_eq_true_eq] at this
    exact ⟨p, 0, rfl, this.1, this.2, by decide, by decide⟩
  · have hn : (R.map pageOf).Nodup := by
      have := hs.1.map pageOf
      rw [ents_pages] at this
      exact this.nodup_iff.2 (of_decide_eq_true hd)
    have h2 := List.pairwise_map.1 hn
    exact (hs.2.and h2).imp fun {a b} hab => by
      have := hab.1
      have := hab.2
      unfold pageOf at *
      omega
end Go.Proofs.Ytmjonggabppgaaa

/- slices.SortFunc and cmp.Compare as the library's shelf has them: the tables of numbers, in plain words (written by the shelf's lay-plain). -/
namespace Go.Proofs
open Go.Shelf
def Try.sortEn_ren : Go.Shelf.Ren := ⟨fun | 6 => 54 | 15 => 86 | 14 => 85 | 28 => 98 | 29 => 99 | 20 => 90 | 21 => 91 | 22 => 92 | 23 => 93 | 24 => 94 | 25 => 95 | 26 => 96 | 27 => 97 | 46 => 101 | 47 => 102 | 48 => 103 | 49 => 104 | 50 => 105 | 57 => 107 | n => n, fun | 22 => 80 | 24 => 85 | 25 => 87 | 3 => 3 | 39 => 111 | 0 => 0 | 53 => 71 | 55 => 70 | 4 => 4 | 46 => 123 | 45 => 122 | 50 => 60 | 5 => 5 | 9 => 9 | 66 => 130 | 70 => 134 | 76 => 137 | 77 => 138 | n => n, fun | n => n⟩
theorem Try.sortEn : Go.Proofs.SlLaysF0.n6 Try.prog Try.sortEn_ren := {
  mixed := by kernel_rfl
  f6 := ⟨Try.f54.name, by decide, Try.func54.trans (congrArg some (by kernel_rfl))⟩
  f14 := ⟨Try.f85.name, by decide, Try.func85.trans (congrArg some (by kernel_rfl))⟩
  f15 := Try.func86.trans (congrArg some (by kernel_rfl))
  f20 := ⟨Try.f90.name, by decide, Try.func90.trans (congrArg some (by kernel_rfl))⟩
  f21 := ⟨Try.f91.name, by decide, Try.func91.trans (congrArg some (by kernel_rfl))⟩
  f22 := ⟨Try.f92.name, by decide, Try.func92.trans (congrArg some (by kernel_rfl))⟩
  f23 := ⟨Try.f93.name, by decide, Try.func93.trans (congrArg some (by kernel_rfl))⟩
  f24 := ⟨Try.f94.name, by decide, Try.func94.trans (congrArg some (by kernel_rfl))⟩
  f25 := ⟨Try.f95.name, by decide, Try.func95.trans (congrArg some (by kernel_rfl))⟩
  f26 := ⟨Try.f96.name, by decide, Try.func96.trans (congrArg some (by kernel_rfl))⟩
  f27 := ⟨Try.f97.name, by decide, Try.func97.trans (congrArg some (by kernel_rfl))⟩
  f28 := Try.func98.trans (congrArg some (by kernel_rfl))
  f29 := Try.func99.trans (congrArg some (by kernel_rfl))
  f46 := ⟨Try.f101.name, by decide, Try.func101.trans (congrArg some (by kernel_rfl))⟩
  f47 := Try.func102.trans (congrArg some (by kernel_rfl))
  f48 := Try.func103.trans (congrArg some (by kernel_rfl))
  f49 := ⟨Try.f104.name, by decide, Try.func104.trans (congrArg some (by kernel_rfl))⟩
  f50 := ⟨Try.f105.name, by decide, Try.func105.trans (congrArg some (by kernel_rfl))⟩
  f57 := ⟨Try.f107.name, by decide, Try.func107.trans (congrArg some (by kernel_rfl))⟩
  t0 := Try.underlying0
  a0 := Try.isAgg0
  z0 := Try.sizeOf0
  v0 := Try.zeroValue0
  t3 := Try.underlying3
  a3 := Try.isAgg3
  z3 := Try.sizeOf3
  v3 := Try.zeroValue3
  t4 := Try.underlying4
  a4 := Try.isAgg4
  z4 := Try.sizeOf4
  v4 := Try.zeroValue4
  t5 := Try.underlying5
  a5 := Try.isAgg5
  z5 := Try.sizeOf5
  v5 := Try.zeroValue5
  t9 := Try.underlying9
  a9 := Try.isAgg9
  z9 := Try.sizeOf9
  v9 := Try.zeroValue9
  t22 := Try.underlying80
  a22 := Try.isAgg80
  z22 := Try.sizeOf80
  v22 := Try.zeroValue80
  t25 := Try.underlying87
  a25 := Try.isAgg87
  z25 := Try.sizeOf87
  v25 := Try.zeroValue87
  t39 := Try.underlying111
  a39 := Try.isAgg111
  z39 := Try.sizeOf111
  v39 := Try.zeroValue111
  t45 := Try.underlying122
  a45 := Try.isAgg122
  z45 := Try.sizeOf122
  v45 := Try.zeroValue122
  t46 := Try.underlying123
  a46 := Try.isAgg123
  z46 := Try.sizeOf123
  v46 := Try.zeroValue123
  t50 := Try.underlying60
  a50 := Try.isAgg60
  z50 := Try.sizeOf60
  v50 := Try.zeroValue60
  t53 := Try.underlying71
  a53 := Try.isAgg71
  z53 := Try.sizeOf71
  v53 := Try.zeroValue71
  t55 := Try.underlying70
  a55 := Try.isAgg70
  z55 := Try.sizeOf70
  v55 := Try.zeroValue70
  t66 := Try.underlying130
  a66 := Try.isAgg130
  z66 := Try.sizeOf130
  v66 := Try.zeroValue130
  t70 := Try.underlying134
  a70 := Try.isAgg134
  z70 := Try.sizeOf134
  v70 := Try.zeroValue134
  t76 := Try.underlying137
  a76 := Try.isAgg137
  z76 := Try.sizeOf137
  v76 := Try.zeroValue137
  t77 := Try.underlying138
  a77 := Try.isAgg138
  z77 := Try.sizeOf138
  v77 := Try.zeroValue138 }
def Try.cmpInt_ren : Go.Shelf.Ren := ⟨fun | 5 => 56 | 7 => 87 | n => n, fun | 22 => 3 | 3 => 3 | 4 => 4 | n => n, fun | n => n⟩
theorem Try.cmpInt : Go.Proofs.SlLaysC2.n5 Try.prog Try.cmpInt_ren := {
  mixed := by kernel_rfl
  f5 := ⟨Try.f56.name, by decide, Try.func56.trans (congrArg some (by kernel_rfl))⟩
  f7 := ⟨Try.f87.name, by decide, Try.func87.trans (congrArg some (by kernel_rfl))⟩
  t3 := Try.underlying3
  a3 := Try.isAgg3
  z3 := Try.sizeOf3
  v3 := Try.zeroValue3
  t4 := Try.underlying4
  a4 := Try.isAgg4
  z4 := Try.sizeOf4
  v4 := Try.zeroValue4
  t22 := Try.underlying3
  a22 := Try.isAgg3
  z22 := Try.sizeOf3
  v22 := Try.zeroValue3 }
end Go.Proofs

/- Towards slices.SortFunc's contract: rows of the shelf's and of this claim's proofs. -/
set_option linter.unusedSimpArgs false
set_option linter.unusedVariables false
namespace Go.Proofs.Ytmjonggabppgaaa
noncomputable section
open Go.Eng
open Go.Sort (grow flatK putRow putRowK HoldsK setMany ahead)
def encE (x : Int × Int) : List Value := [.int .i64 x.1, .int .i64 x.2]
def pairOf (r : List Int) : Int × Int := (r.getD 0 0, (r.drop 1).getD 0 0)
theorem rowVals_pair (r : List Int) : rowVals [.int .i64, .int .i64] r = encE (pairOf r) := rfl
theorem flat_get : ∀ (l : List (Int × Int)) (t : Nat), t < l.length * 2 → (l.flatMap encE)[t]? = some ((encE (l.getD (t / 2) default))[t % 2]!)
  | [], t, h => by simp at h
  | x :: l, t, h => by
    rw [List.flatMap_cons]
    match t with
    | 0 => rfl
    | 1 => rfl
    | t + 2 =>
      rw [List.getElem?_append_right (by simp [encE])]
      have : t + 2 - (encE x).length = t := by simp [encE]
      rw [this, flat_get l t (by simp at h ⊢; omega)]
      have e1 : (t + 2) / 2 = t / 2 + 1 := by omega
      have e2 : (t + 2) % 2 = t % 2 := by omega
      rw [e1, e2]; rfl
theorem flatK_list (l : List (Int × Int)) : (flatK encE 2 l.toArray).toList = l.flatMap encE := by
  apply List.ext_getElem?
  intro t
  by_cases h : t < l.length * 2
  · rw [flat_get l t h]
    have := Go.Sort.get_flatK encE 2 l.toArray t (by simpa using h)
    have hs : t < (flatK encE 2 l.toArray).size := by simpa using h
    rw [getElem!_pos _ t hs] at this
    rw [Array.getElem?_toList, Array.getElem?_eq_getElem hs, this]
    congr 2
    simp [Array.getElem!_eq_getD, Array.getD_eq_getD_getElem?, List.getD_eq_getElem?_getD]
  · rw [List.getElem?_eq_none (by simpa using h)]
    have hl : (l.flatMap encE).length = l.length * 2 := by
      rw [List.length_flatMap]; simp [encE, List.map_const', Nat.mul_comm]
    rw [List.getElem?_eq_none (by omega)]
theorem perm_lift {α β : Type} (f : α → β) {m' m : List β} (h : m'.Perm m) : ∀ {l : List α}, l.map f = m → ∃ y : List α, y.Perm l ∧ y.map f = m' := by
  induction h with
  | nil => intro l hl; exact ⟨l, List.Perm.refl _, hl⟩
  | cons x _ ih =>
    intro l hl
    cases l with
    | nil => cases hl
    | cons a l =>
      simp only [List.map_cons, List.cons.injEq] at hl
      obtain ⟨y, hy, e⟩ := ih hl.2
      exact ⟨a :: y, hy.cons _, by simp [hl.1, e]⟩
  | swap x y l' =>
    intro l hl
    match l, hl with
    | a :: b :: l, hl =>
      simp only [List.map_cons, List.cons.injEq] at hl
      exact ⟨b :: a :: l, List.Perm.swap _ _ _, by simp [hl.1, hl.2.1, hl.2.2]⟩
  | trans _ _ ih1 ih2 =>
    intro l hl
    obtain ⟨y, hy, e⟩ := ih2 hl
    obtain ⟨z, hz, e2⟩ := ih1 e
    exact ⟨z, hz.trans hy, e2⟩
theorem Sat.push' {w0 w : World} {H : HProp} (h : Sat w0 H w) (x : Obj) : Sat w0 H { w with heap := w.heap.push x } := by
  obtain ⟨y, hy, hi⟩ := h
  exact ⟨y, hy, hi.push x⟩
theorem Sat.grow {w0 : World} {H : HProp} : ∀ (os : List Obj) {w : World}, Sat w0 H w → Sat w0 H (grow w os.toArray)
  | [], w, h => by rw [show (([] : List Obj).toArray) = #[] from rfl, Go.Sort.grow_empty]; exact h
  | x :: os, w, h => by
    have := Sat.grow os (Sat.push' h x)
    have e : Go.Sort.grow { w with heap := w.heap.push x } os.toArray = Go.Sort.grow w (x :: os).toArray := by
      unfold Go.Sort.grow; simp
    rw [e] at this; exact this
theorem Sat.cells {w0 : World} {b o : Nat} {z : Bool} {H : HProp} : ∀ (new : List Value) (i : Nat) (cs : List Value) (w : World), Sat w0 (star (row b o cs z) H) w → i + new.length ≤ cs.length →
    Sat w0 (star (row b o (cs.take i ++ new ++ cs.drop (i + new.length)) z) H) (w.setCells b (o + i) new)
  | [], i, cs, w, h, _ => by simpa [World.setCells] using h
  | v :: new, i, cs, w, h, hl => by
    simp only [List.length_cons] at hl
    have hs := h.store (i := i) (by omega) v
    have := Sat.cells new (i + 1) (cs.set i v) _ hs (by simp; omega)
    have e : (cs.set i v).take (i + 1) ++ new ++ (cs.set i v).drop (i + 1 + new.length) = cs.take i ++ (v :: new) ++ cs.drop (i + (v :: new).length) := by
      have e1 : (cs.set i v).take (i + 1) = cs.take i ++ [v] := by
        rw [List.take_add_one, List.take_set_of_le (Nat.le_refl i), List.getElem?_set_self (by omega)]
        rfl
      rw [e1, List.drop_set_of_lt (by omega), List.length_cons]
      simp [Nat.add_assoc, Nat.add_comm 1]
    rw [e] at this
    exact this
theorem Sat.put {w0 w : World} {b : Nat} {z : Bool} {H : HProp} {old new : List (Int × Int)} {spare : List Value} (h : Sat w0 (star (row b 0 (old.flatMap encE ++ spare) z) H) w) (hl : new.length = old.length) :
    Sat w0 (star (row b 0 (new.flatMap encE ++ spare) z) H) (putRowK encE 2 w b 0 new.toArray) := by
  have len : ∀ l : List (Int × Int), (l.flatMap encE).length = l.length * 2 := fun l => by rw [List.length_flatMap]; simp [encE, List.map_const', Nat.mul_comm]
  have hh : HoldsK encE 2 w b 0 old.toArray := by
    intro j hj
    rw [Go.Sort.size_flatK] at hj
    have hj' : j < (old.flatMap encE ++ spare).length := by rw [List.length_append, len]; simp at hj; omega
    have := h.load hj'
    rw [List.getElem_append_left (by rw [len]; simpa using hj)] at this
    have e : (flatK encE 2 old.toArray)[j]! = (old.flatMap encE)[j]'(by rw [len]; simpa using hj) := by
      have hs : j < (flatK encE 2 old.toArray).size := by simpa using hj
      rw [getElem!_pos _ j hs, ← Array.getElem_toList]
      congr 1
      exact flatK_list old
    rw [e]
    exact this
  have e1 : putRowK encE 2 w b 0 old.toArray = w := Go.Sort.putRowK_self encE 2 w b 0 _ hh
  have e2 := Go.Sort.setCells_putRow w b 0 (new.flatMap encE) 0 (flatK encE 2 old.toArray) (by simp [len, hl])
  have e3 : setMany (flatK encE 2 old.toArray) 0 (new.flatMap encE) = flatK encE 2 new.toArray := by
    refine Go.Sort.ext_get! (by simp [hl]) fun t ht => ?_
    have ht' : t < old.length * 2 := by simpa using ht
    rw [Go.Sort.get_setMany _ _ _ _ (by simpa using ht'), if_pos (by rw [len]; omega), Nat.sub_zero]
    have hs : t < (flatK encE 2 new.toArray).size := by simp [hl]; exact ht'
    have ht2 : t < (new.flatMap encE).length := by rw [len]; omega
    rw [getElem!_pos _ t ht2, getElem!_pos _ t hs, ← Array.getElem_toList]
    congr 1
    exact (flatK_list new).symm
  rw [show putRow id w b 0 (flatK encE 2 old.toArray) = w from e1, e3] at e2
  have := Sat.cells (new.flatMap encE) 0 _ w h (by rw [List.length_append, len, len]; omega)
  rw [e2, List.take_zero, List.nil_append, Nat.zero_add, show (new.flatMap encE).length = (old.flatMap encE).length by rw [len, len, hl], List.drop_left] at this
  exact this
end
end Go.Proofs.Ytmjonggabppgaaa

/- slices.SortFunc's contract out of what the library's shelf says of it. -/
set_option linter.unusedSimpArgs false
set_option linter.unusedVariables false
namespace Go.Proofs.Ytmjonggabppgaaa
noncomputable section
open Go.Eng
open Go.Sort (grow flatK putRow putRowK HoldsK setMany ahead PermIn SortedIn)
open Go.Proofs (ltOf sortWorldK)
theorem ltPage' (x y : Int × Int) : ltOf (fun x y : Int × Int => Go.Lib.compareInt x.1 y.1) x y = decide (x.1 < y.1) := by
  unfold ltOf Go.Lib.compareInt
  by_cases h1 : x.1 < y.1
  · simp [h1]
  · by_cases h2 : y.1 < x.1 <;> simp [h1, h2]
theorem sort_facts {d : List (Int × Int)} {R : List (List Int)} {d' : Array (Int × Int)} (hd : d = R.map pairOf) (hp : Go.Sort.PermIn 0 d.length d.toArray d')
    (hs : Go.Sort.SortedIn (ltOf fun x y : Int × Int => Go.Lib.compareInt x.1 y.1) 0 d.length d') :
    ∃ y : List (List Int), y.map pairOf = d'.toList ∧ y.length = R.length ∧ SortP R y := by
  obtain ⟨h1, h2, h3⟩ := hp
  have hsz : d'.size = d.length := by simpa using h1
  have h3 : d'.toList.Perm (R.map pairOf) := by
    have e1 : (d'.extract 0 d.length) = d' := by rw [← hsz]; simp
    have e2 : (d.toArray.extract 0 d.length) = d.toArray := by simp
    rw [e1, e2] at h3
    rw [← hd]; simpa using h3
  obtain ⟨y, hy, e⟩ := perm_lift pairOf h3 rfl
  refine ⟨y, e, hy.length_eq, hy, ?_⟩
  rw [List.pairwise_iff_getElem]
  intro i j hi hj hij
  have hl : y.length = d'.size := by have := congrArg List.length e; simpa using this
  have := hs i j (Nat.zero_le _) hij (by omega)
  rw [ltPage', decide_eq_false_iff_not, getElem!_pos _ _ (by omega), getElem!_pos _ _ (by omega)] at this
  have g : ∀ k (hk : k < y.length), pairOf y[k] = d'[k]'(by omega) := by
    intro k hk
    have : (y.map pairOf)[k]? = d'.toList[k]? := by rw [e]
    rw [List.getElem?_map, List.getElem?_eq_getElem hk, Array.getElem?_toList, Array.getElem?_eq_getElem (by omega)] at this
    simpa using this
  rw [← g i hi, ← g j hj] at this
  simp only [pairOf, pageOf] at this ⊢
  omega
def SortSome (P : Program) (f g : FuncId) : Prop := ∀ (blk cap : Nat) (d : Array (Int × Int)) (w : World), HoldsK encE 2 w blk 0 d → blk < w.heap.size → d.size < 4611686018427387904 →
    Calls P f #[.slice (some ⟨blk, 0, none⟩) d.size cap, .func (.func g) #[] #[]] w fun e w' => e = .returned (.tuple #[]) ∧
      ∃ d' n os, PermIn 0 d.size d d' ∧ SortedIn (ltOf fun x y : Int × Int => Go.Lib.compareInt x.1 y.1) 0 d.size d' ∧ w' = sortWorldK encE 2 w blk 0 n d' os
def SortNone (P : Program) (f : FuncId) : Prop := ∀ (p : Option Addr) (cap : Nat) (fv : Value) (w : World), Calls P f #[.slice p 0 cap, fv] w fun e w' => e = .returned (.tuple #[]) ∧ w' = w
theorem vals_pairs (R : List (List Int)) : R.flatMap (rowVals [.int .i64, .int .i64]) = (R.map pairOf).flatMap encE := by rw [List.flatMap_map]; rfl
theorem enc_len (l : List (Int × Int)) : (l.flatMap encE).length = l.length * 2 := by rw [List.length_flatMap]; simp [encE, List.map_const', Nat.mul_comm]
theorem sort_of {G : Type} (S : Sig G) (hS : FreeSig S) {P : Program} {f : FuncId} (hsome : SortSome P f 55) (hnone : SortNone P f) : CtrOk S P f sortCtr := by
  obtain ⟨_, hs1, _, _, _, _⟩ := hS
  intro ch w0 F ρ w xs hx hq hsat
  obtain ⟨v1, v2, rfl, hv1, hv2⟩ : ∃ v1 v2, xs = [v1, v2] ∧ SV.R S ρ (.one (.slice (ai 0) (.int 0) (.int 0) (.int 0) (ai 2) (ai 3) 2)) v1 ∧ SV.R S ρ (.one (.fn 55)) v2 := by
    match xs, hx with
    | [v1, v2], hx => exact ⟨v1, v2, rfl, hx.1, hx.2.1⟩
  have hv1 := R_one S ρ hv1
  have hv2 := R_one S ρ hv2
  have q1 := hq (eLe (.int 0) (ai 2)) (by simp [sortCtr])
  have q2 := hq (eEq (ai 2) (.f1 32 (rwA 1))) (by simp [sortCtr])
  have q3 := hq (eLe (ai 2) (.int 140737488355328)) (by simp [sortCtr])
  rw [eLe_den] at q1 q3
  have q2 : ((SX.at .int 2).den S ρ).toInt = ((SX.f1 32 (rwA 1)).den S ρ).toInt := by rw [eEq_bool] at q2; simpa [U.toProp, ai] using q2
  simp only [sortCtr, hpDen_cons, star_assoc, Ch.den] at hsat
  rw [SX.den_wc, SX.den_wc, SX.den_wc] at hsat
  simp only [SX.den, ai, rwA, ap1_32, U.co, U.toInt_int] at q1 q2 q3 hsat
  subst hv1 hv2
  simp only [SC.den, SX.den, ai, U.co, U.toInt_int, if_true, Int.toNat_zero, Nat.zero_mul, Nat.zero_add, ite_self]
  generalize hb : (ρ 0).toInt = b at *
  generalize hn : (ρ 2).toInt = n at *
  generalize hR : (ρ 1).toRows = R at *
  generalize hc : (ρ 4).toInt = c at *
  obtain ⟨spare, hsat⟩ := sat_ex hsat
  obtain ⟨g1, hsat⟩ := sat_and hsat
  obtain ⟨g2, hsat⟩ := sat_and hsat
  obtain ⟨g3, hsat⟩ := sat_and hsat
  have hlen : ((R.map pairOf).flatMap encE).length = R.length * 2 := by rw [enc_len, List.length_map]
  simp only [enE, En.vals, En.stride, List.length_cons, List.length_nil, U.toInt_int, U.toRows_rows] at g1 g2 g3 q2 hsat
  rw [vals_pairs] at g1 hsat
  by_cases hR0 : R = []
  · subst hR0
    have hn0 : n = 0 := by simpa using q2
    subst hn0
    refine (hnone _ _ _ w).mono ?_
    rintro e w' ⟨rfl, rfl⟩
    refine ⟨ρ.upd 5 (.rows []), .tuple #[], Ext.upd _ _, rfl, .inr rfl, ?_, ?_⟩
    · simp only [sortCtr, hpDen_cons, star_assoc, Ch.den]
      rw [SX.den_wc, SX.den_wc, SX.den_wc]
      simp only [SX.den, ai, rwA, U.co, U.toInt_int, Env.upd, if_true, Nat.reduceEqDiff, reduceIte, hb, hc, U.toRows_rows]
      exact sat_ex_mk spare (sat_and_mk (by simpa [enE, En.vals, En.stride] using g1) (sat_and_mk g2 (sat_and_mk g3 (by simp only [enE, En.vals, List.flatMap_nil, U.toRows_rows]; exact hsat))))
    · intro x hx
      simp only [sortCtr, List.mem_cons, List.not_mem_nil, or_false] at hx
      rcases hx with rfl | rfl
      · rw [eEq_bool]; simp [SX.den, rwA, ap1_32, Env.upd, hR, U.toProp, U.co]
      · simp [SX.den, sortX, rwA, Env.upd, hs1, hR, sortB, SortP, U.co, U.toProp, U.toBool]
  · have hRl : 0 < R.length := List.length_pos_iff.2 hR0
    have hb0 : 0 ≤ b := by
      rcases g3 with h | h
      · exact h
      · exfalso; rw [h, hlen] at g1; simp at g1; omega
    have hn' : n.toNat = (R.map pairOf).length := by rw [List.length_map]; omega
    have hlt := hsat.row_lt (by intro e; have := congrArg List.length e; rw [List.length_append, hlen] at this; simp at this; omega)
    have hold : HoldsK encE 2 w b.toNat 0 (R.map pairOf).toArray := by
      have h2 := Sat.put hsat rfl
      intro j hj
      have hj0 := hj
      rw [Go.Sort.size_flatK] at hj
      have hj' : j < ((R.map pairOf).flatMap encE ++ spare).length := by rw [List.length_append, hlen]; simp at hj; omega
      have := hsat.load hj'
      rw [List.getElem_append_left (by rw [hlen]; simpa using hj)] at this
      rw [getElem!_pos _ j hj0, ← Array.getElem_toList]
      have e : (flatK encE 2 (R.map pairOf).toArray).toList[j]'(by simpa using hj0) = ((R.map pairOf).flatMap encE)[j]'(by rw [hlen]; simpa using hj) := by
        congr 1
        exact flatK_list _
      rw [e]
      exact this
    have hcall := hsome b.toNat (SX.den S ρ (ai 3)).toInt.toNat (R.map pairOf).toArray w hold hlt.2 (by simp; omega)
    rw [if_neg (by omega), hn']
    refine hcall.mono ?_
    rintro e w' ⟨rfl, d', m, os, hp, hs, rfl⟩
    obtain ⟨y, hy, hyl, hys⟩ := sort_facts rfl (by simpa using hp) (by simpa using hs)
    refine ⟨ρ.upd 5 (.rows y), .tuple #[], Ext.upd _ _, rfl, .inr rfl, ?_, ?_⟩
    · simp only [sortCtr, hpDen_cons, star_assoc, Ch.den]
      rw [SX.den_wc, SX.den_wc, SX.den_wc]
      simp only [SX.den, ai, rwA, U.co, U.toInt_int, Env.upd, if_true, Nat.reduceEqDiff, reduceIte, hb, hc, U.toRows_rows]
      have hput : Sat w0 (star (row b.toNat 0 ((y.map pairOf).flatMap encE ++ spare) true) (star (hpDen (S.wc ch) (ρ.upd 5 (.rows y)) w0 []) F)) (sortWorldK encE 2 w b.toNat 0 m d' os) := by
        have h1 := Sat.put (new := d'.toList) (hsat.drew (w.drawn + m)) (by simpa using hp.1)
        have h2 := Sat.grow os.toList h1
        rw [hy]
        exact h2
      refine sat_ex_mk spare (sat_and_mk ?_ (sat_and_mk g2 (sat_and_mk g3 ?_)))
      · simp only [enE, En.vals, En.stride, List.length_cons, List.length_nil, vals_pairs, U.toInt_int, U.toRows_rows]
        rw [← g1, hlen, enc_len, List.length_map, hyl]
      · simp only [enE, En.vals, vals_pairs]
        exact hput
    · intro x hx
      simp only [sortCtr, List.mem_cons, List.not_mem_nil, or_false] at hx
      rcases hx with rfl | rfl
      · rw [eEq_bool]; simp [SX.den, rwA, ap1_32, Env.upd, hR, U.toProp, U.co, hyl]
      · simp [SX.den, sortX, rwA, Env.upd, hs1, hR, sortB, U.co, U.toProp, U.toBool, hys]
end
end Go.Proofs.Ytmjonggabppgaaa

/- slices.SortFunc at the list's entries keeps its contract (out of the library's shelf). -/
set_option linter.unusedSimpArgs false
set_option linter.unusedVariables false
namespace Go.Proofs
open Go.Shelf Go.RowKit Go.Lib Go.Sort
open Go.Proofs.Ytmjonggabppgaaa (encE)
set_option maxHeartbeats 1000000 in
theorem Try.closureSort (x y : Int × Int) (W : World) : Calls Try.prog 55 #[.agg #[.int .i64 x.1, .int .i64 x.2], .agg #[.int .i64 y.1, .int .i64 y.2]] W fun e w' => e = .returned (.int .i64 (Lib.compareInt x.1 y.1)) ∧ ∃ q os', w' = grow (W.drewN q) os' := by
  have hcon := fun W' => AnyG.cmp_Compare_int Try.cmpInt x.1 y.1 W'
  change ∀ W', Calls Try.prog 56 _ _ _ at hcon
  generalize Lib.compareInt x.1 y.1 = r at hcon ⊢
  go_enter Try.func55, Try.ntmps55
  go_wp2_with (go_at_call 56; refine (hcon _).mono ?_; rintro e w' ⟨rfl, rfl⟩)
  go_ret
  exact ⟨rfl, 0, _, by rw [alloc_eq_grow, alloc_eq_grow, grow_grow]; rfl⟩
theorem Try.ltPage (x y : Int × Int) : ltOf (fun x y : Int × Int => Lib.compareInt x.1 y.1) x y = decide (x.1 < y.1) := by
  unfold ltOf Lib.compareInt
  by_cases h1 : x.1 < y.1
  · simp [h1]
  · by_cases h2 : y.1 < x.1 <;> simp [h1, h2]
theorem Try.swoPage : SWO (ltOf fun x y : Int × Int => Lib.compareInt x.1 y.1) where
  irrefl x := by rw [Try.ltPage]; simp
  trans x y z h1 h2 := by rw [Try.ltPage] at *; simp at *; omega
  ntrans x y z h1 h2 := by rw [Try.ltPage] at *; simp at *; omega
theorem Try.sortEntries (blk cap : Nat) (d : Array (Int × Int)) (w : World) (hH : HoldsK encE 2 w blk 0 d) (hblk : blk < w.heap.size) (hsz : d.size < 4611686018427387904) :
    Calls Try.prog 54 #[.slice (some ⟨blk, 0, none⟩) d.size cap, .func (.func 55) #[] #[]] w fun e w' => e = .returned (.tuple #[]) ∧
      ∃ d' n os, PermIn 0 d.size d d' ∧ SortedIn (ltOf fun x y : Int × Int => Lib.compareInt x.1 y.1) 0 d.size d' ∧ w' = sortWorldK encE 2 w blk 0 n d' os := by
  have eg : ∀ args w, (callFunc 55 args).run Try.prog w = .ok (.enter 55 args) w := enters_of Try.func55 (by kernel_rfl) rfl
  exact AnyQ.slices_SortFunc Try.sortEn 2 Try.isAgg85 Try.sizeOf85 encE (fun _ => rfl) (fun x v hv => by simp [encE] at hv; rcases hv with rfl | rfl <;> rfl) (fun x y => Lib.compareInt x.1 y.1) Try.swoPage 55 #[] blk 0 cap d w eg
    (fun _ _ _ _ x y => Try.closureSort x y _) hH hblk hsz
theorem Try.sortNone (p : Option Addr) (cap : Nat) (fv : Value) (w : World) :
    Calls Try.prog 54 #[.slice p 0 cap, fv] w fun e w' => e = .returned (.tuple #[]) ∧ w' = w := AnyF.slices_SortFunc_none Try.sortEn p cap fv w
end Go.Proofs
namespace Go.Proofs.Ytmjonggabppgaaa
noncomputable section
open Go.Eng
theorem sort_ok {G : Type} (S : Sig G) (hS : FreeSig S) : CtrOk S Try.prog 54 sortCtr :=
  sort_of S hS (fun blk cap d w h1 h2 h3 => Try.sortEntries blk cap d w h1 h2 h3) (fun p cap fv w => Try.sortNone p cap fv w)
end
end Go.Proofs.Ytmjonggabppgaaa

/- FreeOnce: what the numbers of the pages' states say of the list's entries. -/
set_option linter.unusedVariables false
namespace Go.Proofs.Ytmjonggabppgaaa
noncomputable section
def entF (A : List Int) : Nat → Nat → List (List Int)
  | _, 0 => []
  | k, n + 1 => if 0 ≤ A.getD k 0 then [(k : Int), A.getD k 0] :: entF A (k + 1) n else entF A (k + 1) n
def lstF (A : List Int) : Nat → Nat → Int
  | _, 0 => 0
  | k, n + 1 => if A.getD k 0 = 0 then (k : Int) else lstF A (k + 1) n
def cntF (A : List Int) (old : Int) : Nat → Nat → Int
  | _, 0 => 0
  | k, n + 1 => (if 0 < A.getD k 0 ∧ A.getD k 0 ≤ old then 1 else 0) + cntF A old (k + 1) n
def selF (p : Int → Bool) (A : List Int) : Nat → Nat → List Int
  | _, 0 => []
  | k, n + 1 => if p (A.getD k 0) then (k : Int) :: selF p A (k + 1) n else selF p A (k + 1) n
def relA (A : List Int) (m : Nat) (old : Int) : List Int := (List.range A.length).map fun j => if 2 ≤ j ∧ j < m ∧ 0 < A.getD j 0 ∧ A.getD j 0 ≤ old then 0 else A.getD j 0
def OnceP (A : List Int) (e : List (List Int)) : Prop := A.length = 10 ∧ e = entF A 2 8 ∧ ∀ j, 2 ≤ j → j < 10 → -1 ≤ A.getD j 0 ∧ A.getD j 0 ≤ 100
def onceB (A : List Int) (e : List (List Int)) : Bool := @decide (OnceP A e) (Classical.propDecidable _)
theorem onceB_iff {A : List Int} {e : List (List Int)} : onceB A e = true ↔ OnceP A e := by unfold onceB; exact @decide_eq_true_iff _ (Classical.propDecidable _)
theorem getD_set {A : List Int} {i j : Nat} {x : Int} (h : i < A.length) : (A.set i x).getD j 0 = if i = j then x else A.getD j 0 := by
  rw [List.getD_eq_getElem?_getD, List.getElem?_set, List.getD_eq_getElem?_getD]
  split
  · rename_i e; subst e; first | rw [if_pos h]; rfl | rfl
  · rfl
theorem entF_congr {A B : List Int} : ∀ n k, (∀ j, k ≤ j → j < k + n → A.getD j 0 = B.getD j 0) → entF A k n = entF B k n
  | 0, k, _ => rfl
  | n + 1, k, h => by
    unfold entF
    rw [h k (Nat.le_refl _) (by omega), entF_congr n (k + 1) (fun j a b => h j (by omega) (by omega))]
theorem entF_page {A : List Int} : ∀ n k, ∀ r ∈ entF A k n, (k : Int) ≤ r.getD 0 0
  | 0, k, r, h => by simp [entF] at h
  | n + 1, k, r, h => by
    unfold entF at h
    split at h
    · rcases List.mem_cons.1 h with rfl | h
      · simp
      · have := entF_page n (k + 1) r h; omega
    · have := entF_page n (k + 1) r h; omega
theorem take_ent {A : List Int} : ∀ n k, 1 ≤ k → k + n ≤ A.length →
    (lstF A k n = 0 ∧ idxL (entF A k n) < 0) ∨ (∃ j, k ≤ j ∧ j < k + n ∧ lstF A k n = j ∧ A.getD j 0 = 0 ∧ 0 ≤ idxL (entF A k n) ∧ takeN (entF A k n) = j ∧ takeE (entF A k n) = entF (A.set j (-1)) k n)
  | 0, k, _, _ => .inl ⟨rfl, by rw [entF, idxL]; decide⟩
  | n + 1, k, h1, h2 => by
    have ih := take_ent (A := A) n (k + 1) (by omega) (by omega)
    by_cases h0 : A.getD k 0 = 0
    · have ee0 : entF A k (n + 1) = [(k : Int), 0] :: entF A (k + 1) n := by rw [entF, if_pos (by omega), h0]
      refine .inr ⟨k, Nat.le_refl _, by omega, by simp only [lstF, if_pos h0], h0, ?_, ?_, ?_⟩
      · rw [ee0, idxL, if_pos (by rfl)]; exact Int.le_refl 0
      · rw [ee0, takeN, if_pos (by rfl)]; rfl
      · have e1 : entF (A.set k (-1)) k (n + 1) = entF (A.set k (-1)) (k + 1) n := by
          rw [entF, getD_set (by omega), if_pos rfl, if_neg (by decide)]
        rw [e1, entF_congr (B := A) n (k + 1) (fun j a b => by rw [getD_set (by omega), if_neg (by omega)])]
        rw [ee0, takeE, if_pos (by rfl)]
    · have el : lstF A k (n + 1) = lstF A (k + 1) n := by simp only [lstF, if_neg h0]
      by_cases hp : 0 ≤ A.getD k 0
      · have ee : entF A k (n + 1) = [(k : Int), A.getD k 0] :: entF A (k + 1) n := by simp only [entF, if_pos hp]
        have hne : ¬ ([(k : Int), A.getD k 0] : List Int).getD 1 0 = 0 := by simpa using h0
        have ei : idxL (entF A k (n + 1)) = if idxL (entF A (k + 1) n) < 0 then -1 else idxL (entF A (k + 1) n) + 1 := by rw [ee, idxL, if_neg hne]
        rcases ih with ⟨a, b⟩ | ⟨j, j1, j2, j3, j4, j5, j6, j7⟩
        · exact .inl ⟨by rw [el, a], by rw [ei, if_pos b]; decide⟩
        · refine .inr ⟨j, by omega, by omega, by rw [el, j3], j4, by rw [ei, if_neg (by omega)]; omega, by rw [ee, takeN, if_neg hne, j6], ?_⟩
          rw [ee, takeE, if_neg hne, j7]
          have e1 : (A.set j (-1)).getD k 0 = A.getD k 0 := by rw [getD_set (by omega), if_neg (by omega)]
          rw [entF, e1, if_pos hp]
      · have ee : entF A k (n + 1) = entF A (k + 1) n := by simp only [entF, if_neg hp]
        rcases ih with ⟨a, b⟩ | ⟨j, j1, j2, j3, j4, j5, j6, j7⟩
        · exact .inl ⟨by rw [el, a], by rw [ee]; exact b⟩
        · refine .inr ⟨j, by omega, by omega, by rw [el, j3], j4, by rw [ee]; exact j5, by rw [ee, j6], ?_⟩
          have e1 : (A.set j (-1)).getD k 0 = A.getD k 0 := by rw [getD_set (by omega), if_neg (by omega)]
          rw [ee, j7, entF, e1, if_neg hp]
theorem lst_snoc {A : List Int} : ∀ n k, 1 ≤ k → lstF A k (n + 1) = if lstF A k n = 0 then (if A.getD (k + n) 0 = 0 then ((k + n : Nat) : Int) else 0) else lstF A k n
  | 0, k, h => by simp [lstF]
  | n + 1, k, h => by
    rw [lstF, lst_snoc n (k + 1) (by omega), lstF, show k + 1 + n = k + (n + 1) by omega]
    split
    · rw [if_neg (by omega)]
    · rfl
theorem lst_mono {A : List Int} {k n : Nat} (hk : 1 ≤ k) (h : lstF A k n ≠ 0) : ∀ m, lstF A k (n + m) = lstF A k n
  | 0 => rfl
  | m + 1 => by
    have := lst_mono hk h m
    rw [show n + (m + 1) = (n + m) + 1 by omega, lst_snoc _ _ hk, this, if_neg h]
theorem has_ent {A : List Int} {p : Nat} : ∀ n k, hasE (p : Int) (entF A k n) = true ↔ k ≤ p ∧ p < k + n ∧ 0 ≤ A.getD p 0
  | 0, k => by simp [hasE, entF]; omega
  | n + 1, k => by
    have ih := has_ent (A := A) (p := p) n (k + 1)
    unfold entF
    split
    · rename_i h
      have e : hasE (p : Int) ([(k : Int), A.getD k 0] :: entF A (k + 1) n) = (((k : Int) == (p : Int)) || hasE (p : Int) (entF A (k + 1) n)) := rfl
      rw [e, Bool.or_eq_true, ih, beq_iff_eq]
      constructor
      · rintro (h1 | h1)
        · have : k = p := by omega
          subst this; exact ⟨Nat.le_refl _, by omega, h⟩
        · exact ⟨by omega, by omega, h1.2.2⟩
      · rintro ⟨h1, h2, h3⟩
        by_cases hk : k = p
        · exact .inl (by omega)
        · exact .inr ⟨by omega, by omega, h3⟩
    · rename_i h
      rw [ih]
      constructor
      · rintro ⟨h1, h2, h3⟩; exact ⟨by omega, by omega, h3⟩
      · rintro ⟨h1, h2, h3⟩
        have : k ≠ p := fun e => h (e ▸ h3)
        exact ⟨by omega, by omega, h3⟩
theorem ins_head {p t : Int} : ∀ {l : List (List Int)}, (∀ r ∈ l, ¬ r.getD 0 0 < p) → insE p t l = [p, t] :: l
  | [], _ => rfl
  | r :: l, h => by unfold insE; rw [if_neg (h r List.mem_cons_self)]
theorem ins_ent {A : List Int} {p : Nat} {t : Int} (h0 : 0 ≤ t) : ∀ n k, k ≤ p → p < k + n → k + n ≤ A.length → A.getD p 0 < 0 → insE (p : Int) t (entF A k n) = entF (A.set p t) k n
  | 0, k, h1, h2, _, _ => by omega
  | n + 1, k, h1, h2, h3, h4 => by
    by_cases hk : k = p
    · subst hk
      have e1 : entF A k (n + 1) = entF A (k + 1) n := by rw [entF, if_neg (by omega)]
      rw [e1, entF, getD_set (by omega), if_pos rfl, if_pos h0, ins_head (fun r hr => by have := entF_page n (k + 1) r hr; omega),
        entF_congr (A := A.set k t) (B := A) n (k + 1) (fun j a b => by rw [getD_set (by omega), if_neg (by omega)])]
    · have ih := ins_ent (A := A) (p := p) h0 n (k + 1) (by omega) (by omega) (by omega) h4
      have e1 : (A.set p t).getD k 0 = A.getD k 0 := by rw [getD_set (by omega), if_neg (by omega)]
      rw [entF, entF, e1]
      split
      · rw [insE, if_pos (by simp; omega), ih]
      · exact ih
theorem relA_len (A : List Int) (m : Nat) (old : Int) : (relA A m old).length = A.length := by unfold relA; simp
theorem relA_get {A : List Int} {m : Nat} {old : Int} {j : Nat} (h : j < A.length) : (relA A m old).getD j 0 = if 2 ≤ j ∧ j < m ∧ 0 < A.getD j 0 ∧ A.getD j 0 ≤ old then 0 else A.getD j 0 := by
  unfold relA
  rw [List.getD_eq_getElem?_getD, List.getElem?_map, List.getElem?_range h]; rfl
theorem getD_ext {A B : List Int} (hl : A.length = B.length) (h : ∀ j, j < A.length → A.getD j 0 = B.getD j 0) : A = B := by
  apply List.ext_getElem hl
  intro i h1 h2
  have := h i h1
  rw [List.getD_eq_getElem?_getD, List.getD_eq_getElem?_getD, List.getElem?_eq_getElem h1, List.getElem?_eq_getElem h2] at this
  exact this
theorem relA_zero (A : List Int) (old : Int) {m : Nat} (hm : m ≤ 2) : relA A m old = A :=
  getD_ext (relA_len ..) fun j hj => by rw [relA_len] at hj; rw [relA_get hj, if_neg (by omega)]
theorem relA_yes {A : List Int} {m : Nat} {old : Int} (h2 : 2 ≤ m) (hm : m < A.length) (hy : 0 < A.getD m 0 ∧ A.getD m 0 ≤ old) : (relA A m old).set m 0 = relA A (m + 1) old := by
  refine getD_ext (by rw [List.length_set, relA_len, relA_len]) fun j hj => ?_
  rw [List.length_set, relA_len] at hj
  rw [getD_set (by rw [relA_len]; exact hm), relA_get hj, relA_get hj]
  by_cases h : m = j
  · subst h; rw [if_pos rfl, if_pos ⟨h2, by omega, hy.1, hy.2⟩]
  · rw [if_neg h]; split <;> split <;> first | rfl | omega
theorem relA_no {A : List Int} {m : Nat} {old : Int} (hy : ¬ (0 < A.getD m 0 ∧ A.getD m 0 ≤ old)) : relA A m old = relA A (m + 1) old := by
  refine getD_ext (by rw [relA_len, relA_len]) fun j hj => ?_
  rw [relA_len] at hj
  rw [relA_get hj, relA_get hj]
  by_cases h : m = j
  · subst h; rw [if_neg (by omega), if_neg (by omega)]
  · split <;> split <;> first | rfl | omega
theorem rel_ent {A B : List Int} {old : Int} : ∀ n k, (∀ j, k ≤ j → j < k + n → B.getD j 0 = if 0 < A.getD j 0 ∧ A.getD j 0 ≤ old then 0 else A.getD j 0) → (entF A k n).map (relE old) = entF B k n
  | 0, k, _ => rfl
  | n + 1, k, h => by
    have ih := rel_ent (A := A) (B := B) (old := old) n (k + 1) (fun j a b => h j (by omega) (by omega))
    have hk := h k (Nat.le_refl _) (by omega)
    rw [entF, entF, hk]
    by_cases hc : 0 < A.getD k 0 ∧ A.getD k 0 ≤ old
    · rw [if_pos hc, if_pos (by omega), if_pos (by omega), List.map_cons, ih]
      congr 1
      unfold relE relT
      rw [if_pos (by simpa using hc)]; rfl
    · rw [if_neg hc]
      split
      · rw [List.map_cons, ih]
        congr 1
        unfold relE relT
        rw [if_neg (by simpa using hc)]
      · exact ih
theorem relN_ent {A : List Int} {old : Int} : ∀ n k, relN old (entF A k n) = cntF A old k n
  | 0, k => rfl
  | n + 1, k => by
    have ih := relN_ent (A := A) (old := old) n (k + 1)
    rw [entF, cntF]
    by_cases hc : 0 < A.getD k 0 ∧ A.getD k 0 ≤ old
    · rw [if_pos (by omega), if_pos hc]
      unfold relN at *
      rw [List.filter_cons, if_pos (by simpa [relT] using hc), List.length_cons]; omega
    · rw [if_neg hc]
      split
      · unfold relN at *
        rw [List.filter_cons, if_neg (by simpa [relT] using hc)]; omega
      · omega
theorem cnt_snoc {A : List Int} {old : Int} : ∀ n k, cntF A old k (n + 1) = cntF A old k n + if 0 < A.getD (k + n) 0 ∧ A.getD (k + n) 0 ≤ old then 1 else 0
  | 0, k => by simp [cntF]
  | n + 1, k => by
    rw [cntF, cnt_snoc n (k + 1), cntF, show k + 1 + n = k + (n + 1) by omega]; omega
theorem sel_ent {A : List Int} {p : Int → Bool} {q : List Int → Bool} (hq : ∀ x y : Int, q [x, y] = p y) (hp : ∀ y, y < 0 → p y = false) : ∀ n k, selE q (entF A k n) = selF p A k n
  | 0, k => rfl
  | n + 1, k => by
    have ih := sel_ent (A := A) hq hp n (k + 1)
    rw [entF, selF]
    split
    · unfold selE at *
      rw [List.filter_cons, hq]
      split
      · rw [List.map_cons, ih]; rfl
      · exact ih
    · rename_i h
      rw [hp _ (by omega), ih]; rfl
theorem sel_yes {A : List Int} {p : Int → Bool} {k : Int} (h0 : 0 ≤ k) (h : k < 10) (hp : p (A.getD k.toNat 0) = true) : selF p A k.toNat (10 - k.toNat) = k :: selF p A (k + 1).toNat (10 - (k + 1).toNat) := by
  rw [show 10 - k.toNat = (10 - (k + 1).toNat) + 1 by omega, selF, if_pos hp, show k.toNat + 1 = (k + 1).toNat by omega, show ((k.toNat : Nat) : Int) = k by omega]
theorem sel_no {A : List Int} {p : Int → Bool} {k : Int} (h0 : 0 ≤ k) (h : k < 10) (hp : p (A.getD k.toNat 0) = false) : selF p A k.toNat (10 - k.toNat) = selF p A (k + 1).toNat (10 - (k + 1).toNat) := by
  rw [show 10 - k.toNat = (10 - (k + 1).toNat) + 1 by omega, selF, if_neg (by rw [hp]; decide), show k.toNat + 1 = (k + 1).toNat by omega]
theorem once_len {A : List Int} {e : List (List Int)} (h : OnceP A e) : A.length = 10 := h.1
theorem once_take {A : List Int} {e : List (List Int)} (h : OnceP A e) :
    (lstF A 2 8 = 0 ∧ takeB e = false ∧ takeE e = e) ∨ (∃ j : Nat, 2 ≤ j ∧ j < 10 ∧ lstF A 2 8 = j ∧ takeB e = true ∧ takeN e = j ∧ OnceP (A.set j (-1)) (takeE e)) := by
  obtain ⟨h1, rfl, h3⟩ := h
  rcases take_ent (A := A) 8 2 (by omega) (by omega) with ⟨a, b⟩ | ⟨j, j1, j2, j3, j4, j5, j6, j7⟩
  · obtain ⟨t1, _, t3⟩ := take_none b
    exact .inl ⟨a, t3, t1⟩
  · refine .inr ⟨j, j1, by omega, j3, by unfold takeB; exact decide_eq_true j5, j6, by rw [List.length_set]; exact h1, j7, fun q q1 q2 => ?_⟩
    rw [getD_set (by omega)]
    have := h3 q q1 q2
    split <;> omega
theorem once_give {A : List Int} {e : List (List Int)} {p t : Int} (h : OnceP A e) (p1 : 2 ≤ p) (p2 : p < 10) (t1 : 0 ≤ t) (t2 : t ≤ 100) :
    (A.getD p.toNat 0 = -1 ∧ giveE p t e = 0 ∧ OnceP (A.set p.toNat t) (giveL p t e)) ∨ (A.getD p.toNat 0 ≠ -1 ∧ giveE p t e = 100 ∧ giveL p t e = e) := by
  obtain ⟨h1, rfl, h3⟩ := h
  obtain ⟨q, rfl⟩ := Int.eq_ofNat_of_zero_le (show 0 ≤ p by omega)
  have hh := has_ent (A := A) (p := q) 8 2
  have hr := h3 q (by omega) (by omega)
  rw [Int.toNat_natCast]
  by_cases hn : A.getD q 0 = -1
  · have hf : hasE (q : Int) (entF A 2 8) = false := by rw [Bool.eq_false_iff]; intro hx; have := (hh.1 hx).2.2; omega
    have hg : giveE (q : Int) t (entF A 2 8) = 0 := by unfold giveE; rw [if_neg (by omega), if_neg (by omega), hf]; rfl
    refine .inl ⟨hn, hg, by rw [List.length_set]; exact h1, ?_, fun j j1 j2 => ?_⟩
    · unfold giveL
      rw [if_pos hg, ins_ent t1 8 2 (by omega) (by omega) (by omega) (by omega)]
    · rw [getD_set (by omega)]
      have := h3 j j1 j2
      split <;> omega
  · have hf : hasE (q : Int) (entF A 2 8) = true := hh.2 ⟨by omega, by omega, by omega⟩
    have hg : giveE (q : Int) t (entF A 2 8) = 100 := by unfold giveE; rw [if_neg (by omega), if_neg (by omega), hf]; rfl
    exact .inr ⟨hn, hg, by unfold giveL; rw [if_neg (by omega)]⟩
theorem once_rel {A : List Int} {e : List (List Int)} (old : Int) (h : OnceP A e) : OnceP (relA A 10 old) (e.map (relE old)) ∧ relN old e = cntF A old 2 8 := by
  obtain ⟨h1, rfl, h3⟩ := h
  refine ⟨⟨by rw [relA_len]; exact h1, rel_ent 8 2 fun j j1 j2 => ?_, fun j j1 j2 => ?_⟩, relN_ent 8 2⟩
  · rw [relA_get (by omega)]
    split <;> split <;> first | rfl | omega
  · rw [relA_get (by omega)]
    have := h3 j j1 j2
    split <;> omega
theorem once_free {A : List Int} {e : List (List Int)} (h : OnceP A e) : selE isF e = selF (fun x => x == 0) A 2 8 ∧ selE isW e = selF (fun x => decide (0 < x)) A 2 8 := by
  obtain ⟨_, rfl, _⟩ := h
  exact ⟨sel_ent (fun _ _ => rfl) (fun y hy => by simp; omega) 8 2, sel_ent (fun _ _ => rfl) (fun y hy => by simp; omega) 8 2⟩
theorem lst_step {A : List Int} {k : Int} (h0 : 2 ≤ k) : lstF A 2 ((k + 1).toNat - 2) = if lstF A 2 (k.toNat - 2) = 0 then (if A.getD k.toNat 0 = 0 then k else 0) else lstF A 2 (k.toNat - 2) := by
  rw [show (k + 1).toNat - 2 = (k.toNat - 2) + 1 by omega, lst_snoc _ _ (by omega), show 2 + (k.toNat - 2) = k.toNat by omega, show ((k.toNat : Nat) : Int) = k by omega]
theorem lst_fin {A : List Int} {k l : Int} (h0 : 2 ≤ k) (h1 : k ≤ 10) (hl : l = lstF A 2 (k.toNat - 2)) (h : 10 ≤ k ∨ ¬ l = 0) : l = lstF A 2 8 := by
  rcases h with h | h
  · rw [hl, show k.toNat - 2 = 8 by omega]
  · rw [hl] at h ⊢
    rw [← lst_mono (by omega) h (10 - k.toNat), show k.toNat - 2 + (10 - k.toNat) = 8 by omega]
theorem cnt_step {A : List Int} {old k : Int} (h0 : 2 ≤ k) : cntF A old 2 ((k + 1).toNat - 2) = cntF A old 2 (k.toNat - 2) + if 0 < A.getD k.toNat 0 ∧ A.getD k.toNat 0 ≤ old then 1 else 0 := by
  rw [show (k + 1).toNat - 2 = (k.toNat - 2) + 1 by omega, cnt_snoc, show 2 + (k.toNat - 2) = k.toNat by omega]
theorem drop_cons {L : List Int} {k : Int} {x : Int} {t : List Int} (h0 : 0 ≤ k) (h : L.drop k.toNat = x :: t) : k < L.length ∧ L.getD k.toNat 0 = x ∧ L.drop (k + 1).toNat = t := by
  have hl : k.toNat < L.length := by
    rcases Nat.lt_or_ge k.toNat L.length with h' | h'
    · exact h'
    · rw [List.drop_of_length_le h'] at h; cases h
  rw [List.drop_eq_getElem_cons hl] at h
  injection h with a b
  exact ⟨by omega, by rw [List.getD_eq_getElem?_getD, List.getElem?_eq_getElem hl]; exact a, by rw [show (k + 1).toNat = k.toNat + 1 by omega]; exact b⟩
theorem drop_nil {L : List Int} {k l : Int} (h0 : 0 ≤ k) (h1 : 0 ≤ l) (hl : k + l = L.length) (h : L.drop k.toNat = []) : l = 0 := by
  have := congrArg List.length h
  rw [List.length_drop, List.length_nil] at this
  omega
end
end Go.Proofs.Ytmjonggabppgaaa
