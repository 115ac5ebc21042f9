/- What stands in a list's room behind an insertion. -/
import Derived.Test.YtmjonggabppgaaaPz3
import Derived.Test.YtmjonggabppgaaaPz6
import Derived.Test.YtmjonggabppgaaaPz4
import Derived.Test.YtmjonggabppgaaaPz5
import Derived.Shelf.SlLaysF0
import Derived.Shelf.SlLaysC2
import Derived.Ground.SlsfProg
import Derived.Ground.SlgcProg
import Derived.Test.YtmjonggabppgaaaProg
import Derived.Shelf.GgSortFunc.RowK
import Derived.Shelf.SlSortCmp.Insertion
import Derived.Shelf.GgSortFunc.InsertionK
import Derived.Shelf.SlSortCmp.NoneTotal
import Derived.Shelf.SlicesG.Cmp
import Derived.Deep.Slices
set_option linter.unusedVariables false
namespace Go.Proofs.Ytmjonggabppgaaa
theorem ins_room {R V Y : List (List Int)} {n i : Nat} (hi : i ≤ n) (hn : n ≤ R.length) (hV : V.length = 1) :
    (R.take i ++ (V ++ ((R.drop i).take (n - i) ++ Y))).take (n + 1) = (R.take n).take i ++ V ++ (R.take n).drop i := by
  have e : R.take i ++ (V ++ ((R.drop i).take (n - i) ++ Y)) = ((R.take n).take i ++ V ++ (R.take n).drop i) ++ Y := by
    rw [List.take_take, Nat.min_eq_left hi, List.drop_take]; simp only [List.append_assoc]
  rw [e, List.take_append_of_le_length (by simp only [List.length_append, List.length_take, List.length_drop, hV]; omega), List.take_of_length_le (by simp only [List.length_append, List.length_take, List.length_drop, hV]; omega)]
theorem ins_end {R V : List (List Int)} {n : Nat} (hn : n ≤ R.length) (hV : V.length = 1) : (R.take n ++ V.take 1).take (n + 1) = (R.take n).take n ++ V ++ (R.take n).drop n := by
  have := ins_room (Y := []) (Nat.le_refl n) hn hV
  rw [← this, Nat.sub_self, List.take_zero, List.append_nil, List.append_nil, List.take_of_length_le (by omega : V.length ≤ 1)]
theorem ins_grow {R V Z Y : List (List Int)} {n i : Nat} (hi : i ≤ n) (hn : n ≤ R.length) (hV : V.length = 1) :
    ((((R.take i ++ Z).take i ++ (V ++ (R.take i ++ Z).drop (i + 1))).take (i + 1)) ++ ((R.drop i).take (n - i) ++ Y)).take (n + 1) = (R.take n).take i ++ V ++ (R.take n).drop i := by
  have h1 : (R.take i).length = i := by rw [List.length_take]; omega
  have e1 : (R.take i ++ Z).take i = R.take i := by rw [List.take_append_of_le_length (by omega), List.take_take, Nat.min_self]
  have e2 : ((R.take i ++ (V ++ (R.take i ++ Z).drop (i + 1))).take (i + 1)) = R.take i ++ V := by
    rw [← List.append_assoc, List.take_append_of_le_length (by rw [List.length_append, h1]; omega), List.take_of_length_le (by rw [List.length_append, h1]; omega)]
  rw [e1, e2, List.append_assoc]
  exact ins_room hi hn hV
theorem ins_here {R V : List (List Int)} {n i : Nat} (hi : i < n) (hn : n ≤ R.length) (hV : V.length = 1) :
    (((R.take (i + 1) ++ ((R.drop i).take (n - i) ++ R.drop (n + 1))).take i) ++ (V ++ (R.take (i + 1) ++ ((R.drop i).take (n - i) ++ R.drop (n + 1))).drop (i + 1))).take (n + 1) = (R.take n).take i ++ V ++ (R.take n).drop i := by
  have h1 : (R.take (i + 1)).length = i + 1 := by rw [List.length_take]; omega
  have e1 : (R.take (i + 1) ++ ((R.drop i).take (n - i) ++ R.drop (n + 1))).take i = R.take i := by
    rw [List.take_append_of_le_length (by omega), List.take_take, Nat.min_eq_left (by omega)]
  have e2 : (R.take (i + 1) ++ ((R.drop i).take (n - i) ++ R.drop (n + 1))).drop (i + 1) = (R.drop i).take (n - i) ++ R.drop (n + 1) := by
    rw [List.drop_append_of_le_length (by omega), List.drop_of_length_le (by omega), List.nil_append]
  rw [e1, e2]
  exact ins_room (by omega) hn hV
end Go.Proofs.Ytmjonggabppgaaa

/- A page is given back. -/
set_option linter.unusedSimpArgs false
set_option linter.unusedVariables false
namespace Go.Proofs.Ytmjonggabppgaaa
noncomputable section
open Go.Eng
def cmpCtr : Ctr := ⟨[.int, .int], [.one (.int .i64 (ai 0)), .one (.int .i64 (ai 1))], [], [], [], .one (.int .i64 (usI 46 (ai 0) (ai 1) z0)), [], []⟩
def cmpCx : Cx := { specs := [], anns := [] }
def bsCtr : Ctr := ⟨[.int, .rows, .int, .int, .int, .int], [.one (slC (ai 0) (ai 2) (ai 3) 2), .one (.int .i64 (ai 5)), .one (.fn 78)], [.arr enT (ai 0) (rA 1) (ai 4)],
  [eLe (.int 0) (ai 2), eLe (ai 2) (.f1 32 (rA 1)), eLe (ai 2) (.int 65534), usB 41 (rA 1) (ai 2) z0], [], .tup [(false, [.int .i64 (usI 36 (rA 1) (ai 2) (ai 5))]), (false, [.bool (usB 37 (rA 1) (ai 2) (ai 5))])], [.arr enT (ai 0) (rA 1) (ai 4)], []⟩
def bsInv : Inv := ⟨[.int, .int], [(9, .one (.int .i64 (di 0))), (10, .one (.int .i64 (di 1)))], [], [eLe (.int 0) (di 0), eLe (di 0) (di 1), eLe (di 1) (ai 2), eLe (di 0) (usI 36 (rA 1) (ai 2) (ai 5)), eLe (usI 36 (rA 1) (ai 2) (ai 5)) (di 1)], .f2 41 (di 1) (di 0)⟩
def bsCx : Cx := { specs := [(56, [cmpCtr])], anns := [(77, [(3, .inv bsInv)])] }
def insCtr : Ctr := ⟨[.int, .rows, .int, .int, .int, .int, .rows], [.one (slC (ai 0) (ai 2) (ai 3) 2), .one (.int .i64 (ai 4)), .one (slC (ai 5) (.int 1) (.int 1) 2)], [.arr enT (ai 0) (rA 1) (ai 3), .arr enT (ai 5) (rA 6) (.int 1)],
  [eLe (.int 0) (ai 2), eLe (ai 2) (.f1 32 (rA 1)), eLe (ai 2) (.int 65534), eLe (ai 2) (ai 3), eLe (.int 0) (ai 4), eLe (ai 4) (ai 2), eEq (.f1 32 (rA 6)) (.int 1)], [.int, .int, .rows],
  .one (slC (ai 7) (SX.mk2 40 (ai 2) (.int 1)) (ai 8) 2), [.arr enT (ai 7) (rA 9) (ai 8)], [eLe (SX.mk2 40 (ai 2) (.int 1)) (.f1 32 (rA 9)), eLe (SX.mk2 40 (ai 2) (.int 1)) (ai 8), eqS (tk (rA 9) (SX.mk2 40 (ai 2) (.int 1))) (.us .rows 38 (rA 1) (ai 2) (ai 4) (rA 6))]⟩
def insCx : Cx := { specs := [], anns := [], exts := [(88, [ovCtr (.rows [.int .i64, .int .i64])])] }
def giveCtr : Ctr := ⟨[.int, .g, .int, .int], [.one (.ptr (ai 0) 0), .one (.int .i64 (ai 2)), .one (.int .i64 (ai 3))], [freeC (ai 0) (gA 1)], [], [], .one (.int .i64 (usI 39 (gA 1) (ai 2) (ai 3))), [freeC (ai 0) (usG 42 (gA 1) (ai 2) (ai 3))], []⟩
def giveCx : Cx := { specs := [(77, [bsCtr]), (79, [insCtr])], anns := [(34, [(5, .ghost unfC [.tmp 0]), (7, .ghost fldC [.tmp 0]), (9, .ghost fldC [.tmp 0])])] }
-- BEGIN VC cmp
def cmpVc : VC := (.and (.imp (.f2 46 (.at .int 0) (.at .int 1)) (.need (.f2 45 (.us .int 46 (.at .int 0) (.at .int 1) (.int 0) (.int 0)) (.int (-(0 + 1)))) .tt)) (.imp
    (.f2 47 (.at .int 1) (.at .int 0)) (.and (.imp (.f2 46 (.at .int 1) (.at .int 0)) (.need (.f2 45 (.us .int 46 (.at .int 0) (.at .int 1) (.int 0)
    (.int 0)) (.int 1)) .tt)) (.imp (.f2 47 (.at .int 0) (.at .int 1)) (.need (.f2 45 (.us .int 46 (.at .int 0) (.at .int 1) (.int 0) (.int 0)) (.int
    0)) .tt)))))
theorem cmp_vc : vcOf Try.prog cmpCx 10 56 cmpCtr = cmpVc := by kernel_rfl
-- END VC cmp
-- BEGIN VC bs
def bsVc : VC := (.imp (.f2 47 (.int 0) (.at .int 2)) (.imp (.f2 47 (.at .int 2) (.f1 32 (.at .rows 1))) (.imp (.f2 47 (.at .int 2) (.int 65534)) (.imp (.us .bool 41
    (.at .rows 1) (.at .int 2) (.int 0) (.int 0)) (.need (.f2 47 (.at .int 2) (.at .int 2)) (.need (.f2 47 (.int 0) (.us .int 36 (.at .rows 1) (.at
    .int 2) (.at .int 5) (.int 0))) (.need (.f2 47 (.us .int 36 (.at .rows 1) (.at .int 2) (.at .int 5) (.int 0)) (.at .int 2)) (.all 6 .int (.all 7
    .int (.imp (.f2 47 (.int 0) (.at .int 6)) (.imp (.f2 47 (.at .int 6) (.at .int 7)) (.imp (.f2 47 (.at .int 7) (.at .int 2)) (.imp (.f2 47 (.at .int
    6) (.us .int 36 (.at .rows 1) (.at .int 2) (.at .int 5) (.int 0))) (.imp (.f2 47 (.us .int 36 (.at .rows 1) (.at .int 2) (.at .int 5) (.int 0))
    (.at .int 7)) (.and (.imp (.f2 46 (.at .int 6) (.at .int 7)) (.need (.f1 23 (.f2 40 (.at .int 6) (.at .int 7))) (.need (.f1 23 (.f2 107 (.f1 17
    (.f2 40 (.at .int 6) (.at .int 7))) (.int 1))) (.need (.f2 47 (.int 0) (.f2 107 (.f1 17 (.f2 40 (.at .int 6) (.at .int 7))) (.int 1))) (.need (.f2
    46 (.f2 107 (.f1 17 (.f2 40 (.at .int 6) (.at .int 7))) (.int 1)) (.at .int 2)) (.need (.f2 46 (.f2 107 (.f1 17 (.f2 40 (.at .int 6) (.at .int 7)))
    (.int 1)) (.f1 32 (.at .rows 1))) (.all 8 .int (.imp (.f2 47 (.int 0) (.at .int 8)) (.and (.imp (.f2 46 (.us .int 46 (.f3 112 (.at .rows 1) (.f2
    107 (.f1 17 (.f2 40 (.at .int 6) (.at .int 7))) (.int 1)) (.int 0)) (.at .int 5) (.int 0) (.int 0)) (.int 0)) (.need (.f1 23 (.f2 40 (.f2 107 (.f1
    17 (.f2 40 (.at .int 6) (.at .int 7))) (.int 1)) (.int 1))) (.need (.f2 47 (.int 0) (.f2 41 (.at .int 7) (.f2 40 (.f2 107 (.f1 17 (.f2 40 (.at .int
    6) (.at .int 7))) (.int 1)) (.int 1)))) (.need (.f2 46 (.f2 41 (.at .int 7) (.f2 40 (.f2 107 (.f1 17 (.f2 40 (.at .int 6) (.at .int 7))) (.int 1))
    (.int 1))) (.f2 41 (.at .int 7) (.at .int 6))) (.need (.f2 47 (.int 0) (.f2 40 (.f2 107 (.f1 17 (.f2 40 (.at .int 6) (.at .int 7))) (.int 1)) (.int
    1))) (.need (.f2 47 (.f2 40 (.f2 107 (.f1 17 (.f2 40 (.at .int 6) (.at .int 7))) (.int 1)) (.int 1)) (.at .int 7)) (.need (.f2 47 (.f2 40 (.f2 107
    (.f1 17 (.f2 40 (.at .int 6) (.at .int 7))) (.int 1)) (.int 1)) (.us .int 36 (.at .rows 1) (.at .int 2) (.at .int 5) (.int 0))) .tt))))))) (.imp
    (.f2 47 (.int 0) (.us .int 46 (.f3 112 (.at .rows 1) (.f2 107 (.f1 17 (.f2 40 (.at .int 6) (.at .int 7))) (.int 1)) (.int 0)) (.at .int 5) (.int 0)
    (.int 0))) (.need (.f2 47 (.int 0) (.f2 41 (.f2 107 (.f1 17 (.f2 40 (.at .int 6) (.at .int 7))) (.int 1)) (.at .int 6))) (.need (.f2 46 (.f2 41
    (.f2 107 (.f1 17 (.f2 40 (.at .int 6) (.at .int 7))) (.int 1)) (.at .int 6)) (.f2 41 (.at .int 7) (.at .int 6))) (.need (.f2 47 (.at .int 6) (.f2
    107 (.f1 17 (.f2 40 (.at .int 6) (.at .int 7))) (.int 1))) (.need (.f2 47 (.f2 107 (.f1 17 (.f2 40 (.at .int 6) (.at .int 7))) (.int 1)) (.at .int
    2)) (.need (.f2 47 (.us .int 36 (.at .rows 1) (.at .int 2) (.at .int 5) (.int 0)) (.f2 107 (.f1 17 (.f2 40 (.at .int 6) (.at .int 7))) (.int 1)))
    .tt))))))))))))))) (.imp (.f2 47 (.at .int 7) (.at .int 6)) (.and (.imp (.f2 46 (.at .int 6) (.at .int 2)) (.need (.f2 46 (.at .int 6) (.f1 32 (.at
    .rows 1))) (.all 8 .int (.imp (.f2 47 (.int 0) (.at .int 8)) (.need (.f2 155 (.us .bool 37 (.at .rows 1) (.at .int 2) (.at .int 5) (.int 0)) (.f2
    45 (.us .int 46 (.f3 112 (.at .rows 1) (.at .int 6) (.int 0)) (.at .int 5) (.int 0) (.int 0)) (.int 0))) (.need (.f2 45 (.us .int 36 (.at .rows 1)
    (.at .int 2) (.at .int 5) (.int 0)) (.at .int 6)) .tt)))))) (.imp (.f2 47 (.at .int 2) (.at .int 6)) (.need (.f2 155 (.us .bool 37 (.at .rows 1)
    (.at .int 2) (.at .int 5) (.int 0)) (.bool .false)) (.need (.f2 45 (.us .int 36 (.at .rows 1) (.at .int 2) (.at .int 5) (.int 0)) (.at .int 6))
    .tt))))))))))))))))))))
theorem bs_vc : vcOf Try.prog bsCx 10 77 bsCtr = bsVc := by kernel_rfl
-- END VC bs
-- BEGIN VC ins
def insVc : VC := (.imp (.f2 47 (.int 0) (.at .int 2)) (.imp (.f2 47 (.at .int 2) (.f1 32 (.at .rows 1))) (.imp (.f2 47 (.at .int 2) (.int 65534)) (.imp (.f2 47 (.at
    .int 2) (.at .int 3)) (.imp (.f2 47 (.int 0) (.at .int 4)) (.imp (.f2 47 (.at .int 4) (.at .int 2)) (.imp (.f2 45 (.f1 32 (.at .rows 6)) (.int 1))
    (.need (.f2 47 (.int 0) (.at .int 3)) (.and (.imp (.f2 45 (.at .int 4) (.at .int 2)) (.need (.f2 47 (.f2 42 (.f2 40 (.at .int 2) (.int 1)) (.int
    16)) (.int 140737488355328)) (.need (.f2 47 (.int 1) (.f1 32 (.at .rows 6))) (.all 7 .int (.all 8 .int (.imp (.f2 47 (.f2 40 (.at .int 2) (.int 1))
    (.at .int 8)) (.imp (.f2 50 (.f2 47 (.int 0) (.at .int 7)) (.f2 45 (.f2 40 (.at .int 2) (.int 1)) (.int 0))) (.need (.f2 47 (.f2 40 (.at .int 2)
    (.int 1)) (.f2 40 (.f1 32 (.f2 115 (.at .rows 1) (.at .int 2))) (.f1 32 (.f2 115 (.at .rows 6) (.int 1))))) (.need (.f2 155 (.f2 115 (.f2 121 (.f2
    115 (.at .rows 1) (.at .int 2)) (.f2 115 (.at .rows 6) (.int 1))) (.f2 40 (.at .int 2) (.int 1))) (.us .rows 38 (.at .rows 1) (.at .int 2) (.at
    .int 4) (.at .rows 6))) .tt))))))))) (.imp (.f1 2 (.f2 45 (.at .int 4) (.at .int 2))) (.need (.f1 23 (.f2 40 (.at .int 2) (.int 1))) (.and (.imp
    (.f2 46 (.at .int 3) (.f2 40 (.at .int 2) (.int 1))) (.need (.f2 47 (.at .int 4) (.at .int 3)) (.need (.f1 23 (.f2 41 (.f2 40 (.at .int 2) (.int
    1)) (.at .int 4))) (.need (.f2 46 (.at .int 3) (.f2 40 (.at .int 4) (.f2 41 (.f2 40 (.at .int 2) (.int 1)) (.at .int 4)))) (.need (.f2 47 (.f2 42
    (.f2 40 (.at .int 4) (.f2 41 (.f2 40 (.at .int 2) (.int 1)) (.at .int 4))) (.int 16)) (.int 140737488355328)) (.need (.f2 47 (.int 0) (.f2 41 (.f2
    40 (.at .int 2) (.int 1)) (.at .int 4))) (.need (.f2 47 (.at .int 4) (.f1 32 (.at .rows 1))) (.all 7 .int (.all 8 .int (.imp (.f2 47 (.f2 40 (.at
    .int 4) (.f2 41 (.f2 40 (.at .int 2) (.int 1)) (.at .int 4))) (.at .int 8)) (.imp (.f2 47 (.int 0) (.at .int 7)) (.need (.f2 47 (.int 0) (.f2 40
    (.at .int 4) (.f2 41 (.f2 40 (.at .int 2) (.int 1)) (.at .int 4)))) (.need (.f2 47 (.int 0) (.at .int 8)) (.need (.f2 47 (.at .int 4) (.f2 40 (.at
    .int 4) (.f2 41 (.f2 40 (.at .int 2) (.int 1)) (.at .int 4)))) (.need (.f2 47 (.int 0) (.f2 41 (.f2 40 (.at .int 4) (.f2 41 (.f2 40 (.at .int 2)
    (.int 1)) (.at .int 4))) (.at .int 4))) (.need (.f2 47 (.f2 41 (.f2 40 (.at .int 4) (.f2 41 (.f2 40 (.at .int 2) (.int 1)) (.at .int 4))) (.at .int
    4)) (.f2 41 (.at .int 8) (.at .int 4))) (.need (.f2 47 (.at .int 4) (.f2 40 (.f1 32 (.f2 115 (.at .rows 1) (.at .int 4))) (.f1 32 (.f2 127 (.f2 41
    (.f2 40 (.at .int 2) (.int 1)) (.at .int 4)) (.f2 122 (.int 0) (.f2 122 (.int 0) (.f1 152 (.int 0)))))))) (.need (.f2 47 (.f2 40 (.at .int 4) (.f2
    41 (.f2 40 (.at .int 4) (.f2 41 (.f2 40 (.at .int 2) (.int 1)) (.at .int 4))) (.at .int 4))) (.at .int 8)) (.need (.f2 47 (.int 1) (.f1 32 (.at
    .rows 6))) (.need (.f1 23 (.f2 40 (.at .int 4) (.int 1))) (.need (.f2 47 (.int 0) (.f2 40 (.at .int 4) (.int 1))) (.need (.f2 47 (.f2 40 (.at .int
    4) (.int 1)) (.f2 40 (.at .int 4) (.f2 41 (.f2 40 (.at .int 2) (.int 1)) (.at .int 4)))) (.need (.f2 47 (.int 0) (.f2 41 (.f2 40 (.at .int 4) (.f2
    41 (.f2 40 (.at .int 2) (.int 1)) (.at .int 4))) (.f2 40 (.at .int 4) (.int 1)))) (.need (.f2 47 (.f2 41 (.f2 40 (.at .int 4) (.f2 41 (.f2 40 (.at
    .int 2) (.int 1)) (.at .int 4))) (.f2 40 (.at .int 4) (.int 1))) (.f2 41 (.at .int 8) (.f2 40 (.at .int 4) (.int 1)))) (.need (.f2 47 (.f2 40 (.at
    .int 4) (.int 1)) (.f2 40 (.f1 32 (.f2 115 (.f2 121 (.f2 115 (.at .rows 1) (.at .int 4)) (.f2 127 (.f2 41 (.f2 40 (.at .int 2) (.int 1)) (.at .int
    4)) (.f2 122 (.int 0) (.f2 122 (.int 0) (.f1 152 (.int 0)))))) (.at .int 4))) (.f2 40 (.f1 32 (.f2 115 (.f2 115 (.at .rows 6) (.int 1)) (.f2 51
    (.int 1) (.f2 41 (.f2 40 (.at .int 4) (.f2 41 (.f2 40 (.at .int 2) (.int 1)) (.at .int 4))) (.at .int 4))))) (.f1 32 (.f2 118 (.f2 121 (.f2 115
    (.at .rows 1) (.at .int 4)) (.f2 127 (.f2 41 (.f2 40 (.at .int 2) (.int 1)) (.at .int 4)) (.f2 122 (.int 0) (.f2 122 (.int 0) (.f1 152 (.int
    0)))))) (.f2 40 (.at .int 4) (.f2 51 (.int 1) (.f2 41 (.f2 40 (.at .int 4) (.f2 41 (.f2 40 (.at .int 2) (.int 1)) (.at .int 4))) (.at .int
    4))))))))) (.need (.f2 47 (.f2 40 (.f2 40 (.at .int 4) (.f2 41 (.f2 40 (.at .int 4) (.f2 41 (.f2 40 (.at .int 2) (.int 1)) (.at .int 4))) (.f2 40
    (.at .int 4) (.int 1)))) (.int 1)) (.at .int 8)) (.need (.f2 47 (.int 0) (.f2 41 (.at .int 2) (.at .int 4))) (.need (.f2 47 (.f2 41 (.at .int 2)
    (.at .int 4)) (.f2 41 (.at .int 3) (.at .int 4))) (.need (.f2 47 (.f2 40 (.at .int 4) (.f2 41 (.at .int 2) (.at .int 4))) (.f1 32 (.at .rows 1)))
    (.need (.f2 47 (.f2 40 (.at .int 2) (.int 1)) (.f2 40 (.f1 32 (.f2 115 (.f2 121 (.f2 115 (.f2 121 (.f2 115 (.at .rows 1) (.at .int 4)) (.f2 127
    (.f2 41 (.f2 40 (.at .int 2) (.int 1)) (.at .int 4)) (.f2 122 (.int 0) (.f2 122 (.int 0) (.f1 152 (.int 0)))))) (.at .int 4)) (.f2 121 (.f2 115
    (.f2 115 (.at .rows 6) (.int 1)) (.f2 51 (.int 1) (.f2 41 (.f2 40 (.at .int 4) (.f2 41 (.f2 40 (.at .int 2) (.int 1)) (.at .int 4))) (.at .int
    4)))) (.f2 118 (.f2 121 (.f2 115 (.at .rows 1) (.at .int 4)) (.f2 127 (.f2 41 (.f2 40 (.at .int 2) (.int 1)) (.at .int 4)) (.f2 122 (.int 0) (.f2
    122 (.int 0) (.f1 152 (.int 0)))))) (.f2 40 (.at .int 4) (.f2 51 (.int 1) (.f2 41 (.f2 40 (.at .int 4) (.f2 41 (.f2 40 (.at .int 2) (.int 1)) (.at
    .int 4))) (.at .int 4))))))) (.f2 40 (.at .int 4) (.int 1)))) (.f2 40 (.f1 32 (.f2 115 (.f2 115 (.f2 118 (.at .rows 1) (.at .int 4)) (.f2 41 (.at
    .int 2) (.at .int 4))) (.f2 51 (.f2 41 (.at .int 2) (.at .int 4)) (.f2 41 (.f2 40 (.at .int 4) (.f2 41 (.f2 40 (.at .int 2) (.int 1)) (.at .int
    4))) (.f2 40 (.at .int 4) (.int 1)))))) (.f1 32 (.f2 118 (.f2 121 (.f2 115 (.f2 121 (.f2 115 (.at .rows 1) (.at .int 4)) (.f2 127 (.f2 41 (.f2 40
    (.at .int 2) (.int 1)) (.at .int 4)) (.f2 122 (.int 0) (.f2 122 (.int 0) (.f1 152 (.int 0)))))) (.at .int 4)) (.f2 121 (.f2 115 (.f2 115 (.at .rows
    6) (.int 1)) (.f2 51 (.int 1) (.f2 41 (.f2 40 (.at .int 4) (.f2 41 (.f2 40 (.at .int 2) (.int 1)) (.at .int 4))) (.at .int 4)))) (.f2 118 (.f2 121
    (.f2 115 (.at .rows 1) (.at .int 4)) (.f2 127 (.f2 41 (.f2 40 (.at .int 2) (.int 1)) (.at .int 4)) (.f2 122 (.int 0) (.f2 122 (.int 0) (.f1 152
    (.int 0)))))) (.f2 40 (.at .int 4) (.f2 51 (.int 1) (.f2 41 (.f2 40 (.at .int 4) (.f2 41 (.f2 40 (.at .int 2) (.int 1)) (.at .int 4))) (.at .int
    4))))))) (.f2 40 (.f2 40 (.at .int 4) (.f2 51 (.f2 41 (.at .int 2) (.at .int 4)) (.f2 41 (.f2 40 (.at .int 4) (.f2 41 (.f2 40 (.at .int 2) (.int
    1)) (.at .int 4))) (.f2 40 (.at .int 4) (.int 1))))) (.int 1))))))) (.need (.f2 47 (.f2 40 (.at .int 2) (.int 1)) (.at .int 8)) (.need (.f2 155
    (.f2 115 (.f2 121 (.f2 115 (.f2 121 (.f2 115 (.f2 121 (.f2 115 (.at .rows 1) (.at .int 4)) (.f2 127 (.f2 41 (.f2 40 (.at .int 2) (.int 1)) (.at
    .int 4)) (.f2 122 (.int 0) (.f2 122 (.int 0) (.f1 152 (.int 0)))))) (.at .int 4)) (.f2 121 (.f2 115 (.f2 115 (.at .rows 6) (.int 1)) (.f2 51 (.int
    1) (.f2 41 (.f2 40 (.at .int 4) (.f2 41 (.f2 40 (.at .int 2) (.int 1)) (.at .int 4))) (.at .int 4)))) (.f2 118 (.f2 121 (.f2 115 (.at .rows 1) (.at
    .int 4)) (.f2 127 (.f2 41 (.f2 40 (.at .int 2) (.int 1)) (.at .int 4)) (.f2 122 (.int 0) (.f2 122 (.int 0) (.f1 152 (.int 0)))))) (.f2 40 (.at .int
    4) (.f2 51 (.int 1) (.f2 41 (.f2 40 (.at .int 4) (.f2 41 (.f2 40 (.at .int 2) (.int 1)) (.at .int 4))) (.at .int 4))))))) (.f2 40 (.at .int 4)
    (.int 1))) (.f2 121 (.f2 115 (.f2 115 (.f2 118 (.at .rows 1) (.at .int 4)) (.f2 41 (.at .int 2) (.at .int 4))) (.f2 51 (.f2 41 (.at .int 2) (.at
    .int 4)) (.f2 41 (.f2 40 (.at .int 4) (.f2 41 (.f2 40 (.at .int 2) (.int 1)) (.at .int 4))) (.f2 40 (.at .int 4) (.int 1))))) (.f2 118 (.f2 121
    (.f2 115 (.f2 121 (.f2 115 (.at .rows 1) (.at .int 4)) (.f2 127 (.f2 41 (.f2 40 (.at .int 2) (.int 1)) (.at .int 4)) (.f2 122 (.int 0) (.f2 122
    (.int 0) (.f1 152 (.int 0)))))) (.at .int 4)) (.f2 121 (.f2 115 (.f2 115 (.at .rows 6) (.int 1)) (.f2 51 (.int 1) (.f2 41 (.f2 40 (.at .int 4) (.f2
    41 (.f2 40 (.at .int 2) (.int 1)) (.at .int 4))) (.at .int 4)))) (.f2 118 (.f2 121 (.f2 115 (.at .rows 1) (.at .int 4)) (.f2 127 (.f2 41 (.f2 40
    (.at .int 2) (.int 1)) (.at .int 4)) (.f2 122 (.int 0) (.f2 122 (.int 0) (.f1 152 (.int 0)))))) (.f2 40 (.at .int 4) (.f2 51 (.int 1) (.f2 41 (.f2
    40 (.at .int 4) (.f2 41 (.f2 40 (.at .int 2) (.int 1)) (.at .int 4))) (.at .int 4))))))) (.f2 40 (.f2 40 (.at .int 4) (.f2 51 (.f2 41 (.at .int 2)
    (.at .int 4)) (.f2 41 (.f2 40 (.at .int 4) (.f2 41 (.f2 40 (.at .int 2) (.int 1)) (.at .int 4))) (.f2 40 (.at .int 4) (.int 1))))) (.int 1)))))
    (.f2 40 (.at .int 2) (.int 1))) (.us .rows 38 (.at .rows 1) (.at .int 2) (.at .int 4) (.at .rows 6))) (.need (.f2 45 (.f2 40 (.at .int 2) (.int 1))
    (.f2 40 (.at .int 4) (.f2 41 (.f2 40 (.at .int 2) (.int 1)) (.at .int 4)))) .tt))))))))))))))))))))))))))))))))) (.imp (.f2 47 (.f2 40 (.at .int 2)
    (.int 1)) (.at .int 3)) (.need (.f2 47 (.int 0) (.f2 40 (.at .int 2) (.int 1))) (.need (.f1 23 (.f2 40 (.at .int 4) (.int 1))) (.need (.f2 47 (.int
    0) (.f2 40 (.at .int 4) (.int 1))) (.need (.f2 47 (.f2 40 (.at .int 4) (.int 1)) (.f2 40 (.at .int 2) (.int 1))) (.need (.f2 47 (.f2 41 (.f2 40
    (.at .int 2) (.int 1)) (.f2 40 (.at .int 4) (.int 1))) (.at .int 3)) (.need (.f2 47 (.at .int 4) (.f2 40 (.at .int 2) (.int 1))) (.need (.f2 47
    (.int 0) (.f2 41 (.f2 40 (.at .int 2) (.int 1)) (.f2 40 (.at .int 4) (.int 1)))) (.need (.f2 47 (.f2 41 (.f2 40 (.at .int 2) (.int 1)) (.f2 40 (.at
    .int 4) (.int 1))) (.f2 41 (.at .int 3) (.f2 40 (.at .int 4) (.int 1)))) (.need (.f2 47 (.f2 40 (.at .int 4) (.int 1)) (.f1 32 (.at .rows 1)))
    (.need (.f2 47 (.f2 40 (.f2 40 (.at .int 4) (.f2 41 (.f2 40 (.at .int 2) (.int 1)) (.f2 40 (.at .int 4) (.int 1)))) (.int 1)) (.at .int 3)) (.need
    (.f2 47 (.int 0) (.f2 41 (.f2 40 (.at .int 2) (.int 1)) (.at .int 4))) (.need (.f2 47 (.f2 41 (.f2 40 (.at .int 2) (.int 1)) (.at .int 4)) (.f2 41
    (.at .int 3) (.at .int 4))) (.need (.f2 47 (.f2 40 (.at .int 4) (.f2 51 (.f2 41 (.f2 40 (.at .int 2) (.int 1)) (.at .int 4)) (.f2 41 (.f2 40 (.at
    .int 2) (.int 1)) (.f2 40 (.at .int 4) (.int 1))))) (.f1 32 (.at .rows 1))) (.need (.f2 47 (.at .int 4) (.f2 40 (.f1 32 (.f2 115 (.at .rows 1) (.f2
    40 (.at .int 4) (.int 1)))) (.f2 40 (.f1 32 (.f2 115 (.f2 115 (.f2 118 (.at .rows 1) (.at .int 4)) (.f2 51 (.f2 41 (.f2 40 (.at .int 2) (.int 1))
    (.at .int 4)) (.f2 41 (.f2 40 (.at .int 2) (.int 1)) (.f2 40 (.at .int 4) (.int 1))))) (.f2 51 (.f2 41 (.f2 40 (.at .int 2) (.int 1)) (.at .int 4))
    (.f2 41 (.f2 40 (.at .int 2) (.int 1)) (.f2 40 (.at .int 4) (.int 1)))))) (.f1 32 (.f2 118 (.at .rows 1) (.f2 40 (.f2 40 (.at .int 4) (.f2 51 (.f2
    41 (.f2 40 (.at .int 2) (.int 1)) (.at .int 4)) (.f2 41 (.f2 40 (.at .int 2) (.int 1)) (.f2 40 (.at .int 4) (.int 1))))) (.int 1))))))) (.need (.f2
    47 (.f2 40 (.at .int 4) (.f2 41 (.f2 40 (.at .int 2) (.int 1)) (.at .int 4))) (.at .int 3)) (.need (.f2 47 (.int 1) (.f1 32 (.at .rows 6))) (.need
    (.f2 47 (.f2 40 (.at .int 2) (.int 1)) (.f2 40 (.f1 32 (.f2 115 (.f2 121 (.f2 115 (.at .rows 1) (.f2 40 (.at .int 4) (.int 1))) (.f2 121 (.f2 115
    (.f2 115 (.f2 118 (.at .rows 1) (.at .int 4)) (.f2 51 (.f2 41 (.f2 40 (.at .int 2) (.int 1)) (.at .int 4)) (.f2 41 (.f2 40 (.at .int 2) (.int 1))
    (.f2 40 (.at .int 4) (.int 1))))) (.f2 51 (.f2 41 (.f2 40 (.at .int 2) (.int 1)) (.at .int 4)) (.f2 41 (.f2 40 (.at .int 2) (.int 1)) (.f2 40 (.at
    .int 4) (.int 1))))) (.f2 118 (.at .rows 1) (.f2 40 (.f2 40 (.at .int 4) (.f2 51 (.f2 41 (.f2 40 (.at .int 2) (.int 1)) (.at .int 4)) (.f2 41 (.f2
    40 (.at .int 2) (.int 1)) (.f2 40 (.at .int 4) (.int 1))))) (.int 1))))) (.at .int 4))) (.f2 40 (.f1 32 (.f2 115 (.f2 115 (.at .rows 6) (.int 1))
    (.f2 51 (.int 1) (.f2 41 (.f2 40 (.at .int 2) (.int 1)) (.at .int 4))))) (.f1 32 (.f2 118 (.f2 121 (.f2 115 (.at .rows 1) (.f2 40 (.at .int 4)
    (.int 1))) (.f2 121 (.f2 115 (.f2 115 (.f2 118 (.at .rows 1) (.at .int 4)) (.f2 51 (.f2 41 (.f2 40 (.at .int 2) (.int 1)) (.at .int 4)) (.f2 41
    (.f2 40 (.at .int 2) (.int 1)) (.f2 40 (.at .int 4) (.int 1))))) (.f2 51 (.f2 41 (.f2 40 (.at .int 2) (.int 1)) (.at .int 4)) (.f2 41 (.f2 40 (.at
    .int 2) (.int 1)) (.f2 40 (.at .int 4) (.int 1))))) (.f2 118 (.at .rows 1) (.f2 40 (.f2 40 (.at .int 4) (.f2 51 (.f2 41 (.f2 40 (.at .int 2) (.int
    1)) (.at .int 4)) (.f2 41 (.f2 40 (.at .int 2) (.int 1)) (.f2 40 (.at .int 4) (.int 1))))) (.int 1))))) (.f2 40 (.at .int 4) (.f2 51 (.int 1) (.f2
    41 (.f2 40 (.at .int 2) (.int 1)) (.at .int 4))))))))) (.need (.f2 155 (.f2 115 (.f2 121 (.f2 115 (.f2 121 (.f2 115 (.at .rows 1) (.f2 40 (.at .int
    4) (.int 1))) (.f2 121 (.f2 115 (.f2 115 (.f2 118 (.at .rows 1) (.at .int 4)) (.f2 51 (.f2 41 (.f2 40 (.at .int 2) (.int 1)) (.at .int 4)) (.f2 41
    (.f2 40 (.at .int 2) (.int 1)) (.f2 40 (.at .int 4) (.int 1))))) (.f2 51 (.f2 41 (.f2 40 (.at .int 2) (.int 1)) (.at .int 4)) (.f2 41 (.f2 40 (.at
    .int 2) (.int 1)) (.f2 40 (.at .int 4) (.int 1))))) (.f2 118 (.at .rows 1) (.f2 40 (.f2 40 (.at .int 4) (.f2 51 (.f2 41 (.f2 40 (.at .int 2) (.int
    1)) (.at .int 4)) (.f2 41 (.f2 40 (.at .int 2) (.int 1)) (.f2 40 (.at .int 4) (.int 1))))) (.int 1))))) (.at .int 4)) (.f2 121 (.f2 115 (.f2 115
    (.at .rows 6) (.int 1)) (.f2 51 (.int 1) (.f2 41 (.f2 40 (.at .int 2) (.int 1)) (.at .int 4)))) (.f2 118 (.f2 121 (.f2 115 (.at .rows 1) (.f2 40
    (.at .int 4) (.int 1))) (.f2 121 (.f2 115 (.f2 115 (.f2 118 (.at .rows 1) (.at .int 4)) (.f2 51 (.f2 41 (.f2 40 (.at .int 2) (.int 1)) (.at .int
    4)) (.f2 41 (.f2 40 (.at .int 2) (.int 1)) (.f2 40 (.at .int 4) (.int 1))))) (.f2 51 (.f2 41 (.f2 40 (.at .int 2) (.int 1)) (.at .int 4)) (.f2 41
    (.f2 40 (.at .int 2) (.int 1)) (.f2 40 (.at .int 4) (.int 1))))) (.f2 118 (.at .rows 1) (.f2 40 (.f2 40 (.at .int 4) (.f2 51 (.f2 41 (.f2 40 (.at
    .int 2) (.int 1)) (.at .int 4)) (.f2 41 (.f2 40 (.at .int 2) (.int 1)) (.f2 40 (.at .int 4) (.int 1))))) (.int 1))))) (.f2 40 (.at .int 4) (.f2 51
    (.int 1) (.f2 41 (.f2 40 (.at .int 2) (.int 1)) (.at .int 4))))))) (.f2 40 (.at .int 2) (.int 1))) (.us .rows 38 (.at .rows 1) (.at .int 2) (.at
    .int 4) (.at .rows 6))) .tt)))))))))))))))))))))))))))))))
theorem ins_vc : vcOf Try.prog insCx 10 79 insCtr = insVc := by kernel_rfl
-- END VC ins
-- BEGIN VC give
def giveVc : VC := (.and (.imp (.f2 47 (.int 2) (.at .int 2)) (.and (.imp (.f2 47 (.int 65536) (.at .int 2)) (.need (.f2 155 (.us .g 42 (.at .g 1) (.at .int 2) (.at .int
    3) (.int 0)) (.at .g 1)) (.need (.f2 45 (.us .int 39 (.at .g 1) (.at .int 2) (.at .int 3) (.int 0)) (.int 30)) .tt))) (.imp (.f2 46 (.at .int 2)
    (.int 65536)) (.and (.imp (.f2 47 (.int 0) (.at .int 3)) (.and (.imp (.f2 46 (.int 1099511627776) (.at .int 3)) (.need (.f2 155 (.us .g 42 (.at .g
    1) (.at .int 2) (.at .int 3) (.int 0)) (.at .g 1)) (.need (.f2 45 (.us .int 39 (.at .g 1) (.at .int 2) (.at .int 3) (.int 0)) (.int 1)) .tt)))
    (.imp (.f2 47 (.at .int 3) (.int 1099511627776)) (.all 4 .int (.all 5 .int (.all 6 .int (.all 7 .rows (.all 8 .int (.all 9 .int (.all 10 .int (.imp
    (.f2 47 (.int 0) (.at .int 5)) (.imp (.f2 47 (.at .int 5) (.f1 32 (.at .rows 7))) (.imp (.f2 47 (.at .int 5) (.int 65534)) (.imp (.f2 47 (.at .int
    5) (.at .int 6)) (.imp (.us .bool 41 (.at .rows 7) (.at .int 5) (.int 0) (.int 0)) (.imp (.f2 155 (.us .rows 21 (.at .g 1) (.int 0) (.int 0) (.int
    0)) (.f2 115 (.at .rows 7) (.at .int 5))) (.and (.imp (.us .bool 37 (.at .rows 7) (.at .int 5) (.at .int 2) (.int 0)) (.need (.f2 155 (.us .g 42
    (.at .g 1) (.at .int 2) (.at .int 3) (.int 0)) (.us .g 22 (.at .g 1) (.at .rows 7) (.at .int 5) (.int 0))) (.need (.f2 45 (.us .int 39 (.at .g 1)
    (.at .int 2) (.at .int 3) (.int 0)) (.int 100)) .tt))) (.imp (.f1 2 (.us .bool 37 (.at .rows 7) (.at .int 5) (.at .int 2) (.int 0))) (.all 11 .int
    (.imp (.f2 47 (.int 0) (.at .int 11)) (.need (.f2 47 (.int 0) (.us .int 36 (.at .rows 7) (.at .int 5) (.at .int 2) (.int 0))) (.need (.f2 47 (.us
    .int 36 (.at .rows 7) (.at .int 5) (.at .int 2) (.int 0)) (.at .int 5)) (.all 12 .int (.all 13 .int (.all 14 .rows (.imp (.f2 47 (.f2 40 (.at .int
    5) (.int 1)) (.f1 32 (.at .rows 14))) (.imp (.f2 47 (.f2 40 (.at .int 5) (.int 1)) (.at .int 13)) (.imp (.f2 155 (.f2 115 (.at .rows 14) (.f2 40
    (.at .int 5) (.int 1))) (.us .rows 38 (.at .rows 7) (.at .int 5) (.us .int 36 (.at .rows 7) (.at .int 5) (.at .int 2) (.int 0)) (.f2 124 (.f2 122
    (.at .int 2) (.f2 122 (.at .int 3) (.f1 152 (.int 0)))) (.f1 154 (.int 0))))) (.need (.f2 47 (.int 0) (.f2 40 (.at .int 5) (.int 1))) (.need (.us
    .bool 41 (.at .rows 14) (.f2 40 (.at .int 5) (.int 1)) (.int 0) (.int 0)) (.need (.f2 155 (.us .g 42 (.at .g 1) (.at .int 2) (.at .int 3) (.int 0))
    (.us .g 22 (.at .g 1) (.at .rows 14) (.f2 40 (.at .int 5) (.int 1)) (.int 0))) (.need (.f2 45 (.us .int 39 (.at .g 1) (.at .int 2) (.at .int 3)
    (.int 0)) (.int 0)) .tt)))))))))))))))))))))))))))))))) (.imp (.f2 46 (.at .int 3) (.int 0)) (.need (.f2 155 (.us .g 42 (.at .g 1) (.at .int 2)
    (.at .int 3) (.int 0)) (.at .g 1)) (.need (.f2 45 (.us .int 39 (.at .g 1) (.at .int 2) (.at .int 3) (.int 0)) (.int 1)) .tt))))))) (.imp (.f2 46
    (.at .int 2) (.int 2)) (.need (.f2 155 (.us .g 42 (.at .g 1) (.at .int 2) (.at .int 3) (.int 0)) (.at .g 1)) (.need (.f2 45 (.us .int 39 (.at .g 1)
    (.at .int 2) (.at .int 3) (.int 0)) (.int 30)) .tt))))
theorem give_vc : vcOf Try.prog giveCx 10 34 giveCtr = giveVc := by kernel_rfl
-- END VC give
-- PROOFS
theorem cmp_ok (S : Sig FL) (hS : FlSig S) : CtrOk S Try.prog 56 cmpCtr := by
  refine vcOf_sound S (C := cmpCx) (fuel := 10) (cx_of trivial trivial trivial) fun ρ => ?_
  rw [cmp_vc]
  simp only [cmpVc, VC.den, SX.den, co_int, Env.upd, hS.u46, p45, p46, p47, U.toInt_int, Int.reduceAdd, Int.reduceNeg]
  generalize (ρ 0).toInt = a
  generalize (ρ 1).toInt = b
  unfold cmpI
  refine ⟨fun h => ⟨by rw [if_pos h], trivial⟩, fun h => ⟨fun h2 => ⟨by rw [if_neg (by omega), if_pos h2], trivial⟩, fun h2 => ⟨by rw [if_neg (by omega), if_neg (by omega)], trivial⟩⟩⟩
theorem half_i64 {x : Int} (h0 : 0 ≤ x) (h1 : x ≤ 1000000000) : Int.fdiv (IntKind.wrap .u64 x) (2 ^ (min (Int.toNat 1) (IntKind.bits .u64))) = x / 2 := by
  have e : IntKind.wrap .u64 x = x := by unfold IntKind.wrap; simp only [IntKind.signed, IntKind.bits]; simp; omega
  rw [e]
  have : (2 : Int) ^ (min (Int.toNat 1) (IntKind.bits .u64)) = 2 := by decide
  rw [this]
  rw [Int.fdiv_eq_ediv_of_nonneg _ (by decide)]
theorem bs_ok (S : Sig FL) (hS : FlSig S) : CtrOk S Try.prog 77 bsCtr := by
  refine vcOf_sound S (C := bsCx) (fuel := 10) (cx_of ⟨one_spec (by decide) (cmp_ok S hS), trivial⟩ ⟨⟨trivial, trivial⟩, trivial⟩ trivial) fun ρ => ?_
  rw [bs_vc]
  simp only [bsVc, VC.den, SX.den, co_int, co_bool, co_rows, Env.upd, hS.u36, hS.u37, hS.u41, hS.u46, p155, p23, p45, p46, p47, ap1_2, ap1_17, ap1_32, ap2_40, ap2_41, ap2_45, ap2_107, ap3_112, U.toProp_bool, U.toBool_bool, i64lo, i64hi, U.toInt_int, U.toRows_rows, Int.toNat_zero, Nat.reduceEqDiff, reduceIte, U.bool.injEq, beq_iff_eq]
  generalize (ρ 1).toRows = R
  generalize (ρ 2).toInt = n
  generalize (ρ 5).toInt = p
  intro a1 a2 a3 hg
  have hg := goodB_iff.1 hg
  have hl := lowE_le p (R.take n.toNat)
  have hln : (((R.take n.toNat).length : Nat) : Int) = n := by rw [List.length_take]; omega
  have hlt := @low_lt p (R.take n.toNat)
  have hhas := @has_low p (R.take n.toNat) hg.2
  rw [hln] at hl hhas
  generalize hlow : lowE p (R.take n.toNat) = low at *
  refine ⟨by omega, by omega, by omega, fun i j h1 h2 h3 h4 h5 => ⟨fun hij => ?_, fun hij => ⟨fun hi => ⟨by omega, fun _ _ => ⟨?_, by omega, trivial⟩⟩, fun hi => ⟨?_, by omega, trivial⟩⟩⟩⟩
  · rw [half_i64 (x := i + j) (by omega) (by omega)]
    have hh := hlt (h := ((i + j) / 2).toNat) hg.2 (by omega)
    rw [nth_take (by omega)] at hh
    rw [cmpI_lt, show ∀ q, (0 ≤ cmpI q p ↔ ¬ q < p) from fun q => by rw [← cmpI_lt]; omega]
    have e : (((((i + j) / 2).toNat : Nat)) : Int) = (i + j) / 2 := by omega
    rw [e] at hh
    refine ⟨by omega, by omega, by omega, by omega, by omega, fun _ _ => ⟨fun hc => ?_, fun hc => ?_⟩⟩
    · have := hh.1 hc
      repeat' (first | exact trivial | apply And.intro)
      all_goals omega
    · have : ¬ (i + j) / 2 < low := fun h => hc (hh.2 h)
      repeat' (first | exact trivial | apply And.intro)
      all_goals omega
  · have e : i = low := by omega
    subst e
    rw [nth_take (by omega)] at hhas
    rw [Bool.eq_iff_iff, hhas, beq_iff_eq, cmpI_eq]
    exact ⟨fun h => h.2, fun h => ⟨hi, h⟩⟩
  · have e : low = n := by omega
    rw [Bool.eq_false_iff]
    intro h
    have := (hhas.1 h).1
    omega
theorem ins_ok (S : Sig FL) (hS : FlSig S) : CtrOk S Try.prog 79 insCtr := by
  refine vcOf_sound S (C := insCx) (fuel := 10) (cx_of trivial trivial ⟨one_ext (by decide) (ovE_ok S), trivial⟩) fun ρ => ?_
  rw [ins_vc]
  simp only [insVc, VC.den, SX.den, co_int, co_bool, co_rows, Env.upd, hS.u38, p155, p23, p45, p46, p47, p50, b47, b45, ap1_2, ap1_32, ap1_152, ap2_40, ap2_41, ap2_42, ap2_45, ap2_51i, ap2_115, ap2_118, ap2_121, ap2_122, ap2_127, U.toProp_bool, U.toBool_bool, i64lo, i64hi, U.toInt_int, U.toInts_ints, U.toRows_rows, Int.toNat_zero, toNat1, Nat.reduceEqDiff, reduceIte, Bool.not_eq_true', beq_eq_false_iff_ne, beq_iff_eq, ne_eq, U.rows.injEq]
  generalize (ρ 1).toRows = R
  generalize (ρ 6).toRows = V
  generalize (ρ 2).toInt = n
  generalize (ρ 3).toInt = c
  generalize (ρ 4).toInt = i
  intro a1 a2 a3 a4 a5 a6 a7
  have hV : V.length = 1 := by omega
  have hV1 : V.take 1 = V := List.take_of_length_le (by omega)
  have hln : (R.take n.toNat).length = n.toNat := by rw [List.length_take]; omega
  have hli : (R.take i.toNat).length = i.toNat := by rw [List.length_take]; omega
  have e1 : (n + 1).toNat = n.toNat + 1 := by omega
  refine ⟨by omega, fun hi => ?_, fun hi => ⟨by omega, fun hc => ?_, fun hc => ?_⟩⟩
  · refine ⟨by omega, by omega, fun b c' h1 h2 => ⟨by rw [hV1, hln, hV]; omega, ?_, trivial⟩⟩
    rw [hi, e1]
    exact ins_end (by omega) hV
  · have m1 : imin 1 (i + (n + 1 - i) - i) = 1 := imin_left (by omega)
    have m2 : imin (n - i) (i + (n + 1 - i) - (i + 1)) = n - i := imin_left (by omega)
    simp only [m1, m2, toNat1]
    have f1 : (i + 1).toNat = i.toNat + 1 := by omega
    have f2 : (n - i).toNat = n.toNat - i.toNat := by omega
    have f3 : (i + (n - i) + 1).toNat = n.toNat + 1 := by omega
    simp only [f1, f2, f3, e1, hV1]
    repeat' (first | exact trivial | apply And.intro | intro _)
    all_goals first
      | omega
      | (simp only [List.length_append, List.length_take, List.length_drop, List.length_replicate, hV]; omega)
      | skip
    all_goals rw [List.take_take, Nat.min_self]; exact ins_grow (by omega) (by omega) hV
  · have m1 : imin 1 (n + 1 - i) = 1 := imin_left (by omega)
    have m2 : imin (n + 1 - i) (n + 1 - (i + 1)) = n - i := by rw [imin_right (by omega)]; omega
    simp only [m1, m2, toNat1]
    have f1 : (i + 1).toNat = i.toNat + 1 := by omega
    have f2 : (n - i).toNat = n.toNat - i.toNat := by omega
    have f3 : (i + (n - i) + 1).toNat = n.toNat + 1 := by omega
    simp only [f1, f2, f3, e1, hV1]
    repeat' (first | exact trivial | apply And.intro | intro _)
    all_goals first
      | omega
      | (simp only [List.length_append, List.length_take, List.length_drop, List.length_replicate, hV]; omega)
      | skip
    all_goals rw [List.take_take, Nat.min_self]; exact ins_here (by omega) (by omega) hV
theorem give_ok (S : Sig FL) (hS : FlSig S) (hu : GhOk S unfC) (hf : GhOk S fldC) : CtrOk S Try.prog 34 giveCtr := by
  refine vcOf_sound S (C := giveCx) (fuel := 10) (cx_of ⟨one_spec (by decide) (bs_ok S hS), one_spec (by decide) (ins_ok S hS), trivial⟩ ⟨⟨⟨by decide, hu⟩, ⟨by decide, hf⟩, ⟨by decide, hf⟩, trivial⟩, trivial⟩ trivial) fun ρ => ?_
  rw [give_vc]
  simp only [giveVc, VC.den, SX.den, co_int, co_bool, co_rows, co_g, gOf_g, Env.upd, hS.u21, hS.u22, hS.u36, hS.u37, hS.u38, hS.u39, hS.u41, hS.u42, p155, p23, p45, p46, p47, ap1_2, ap1_32, ap1_152, ap1_154, ap2_40, ap2_115, ap2_122, ap2_124, U.toProp_bool, U.toBool_bool, Bool.not_eq_true', i64lo, i64hi, U.toInt_int, U.toInts_ints, U.toRows_rows, Nat.reduceEqDiff, reduceIte, U.rows.injEq, U.g.injEq]
  obtain ⟨s, hs⟩ : ∃ s, U.co S Srt.g (ρ 1) = .g s := by cases ρ 1 <;> exact ⟨_, rfl⟩
  simp only [hs, gOf_g, U.g.injEq]
  generalize (ρ 2).toInt = p
  generalize (ρ 3).toInt = t
  obtain ⟨e, m, last⟩ := s
  have same : ∀ e, giveE p t e ≠ 0 → giveL p t e = e := fun e h => by unfold giveL; rw [if_neg h]
  have h30 : ∀ e, ¬ (2 ≤ p ∧ p < 65536) → giveE p t e = 30 := fun e h => by unfold giveE; rw [if_pos h]
  have h1 : ∀ e, (2 ≤ p ∧ p < 65536) → (t < 0 ∨ 1099511627776 < t) → giveE p t e = 1 := fun e h h' => by unfold giveE; rw [if_neg (fun x => x h), if_pos h']
  refine ⟨fun a1 => ⟨fun a2 => ?_, fun a2 => ⟨fun a3 => ⟨fun a4 => ?_, fun a4 b n c R bm nm cm k0 k1 k2 k3 hg he => ?_⟩, fun a3 => ?_⟩⟩, fun a1 => ?_⟩
  · have := h30 e (by omega)
    exact ⟨by rw [same e (by omega)], this, trivial⟩
  · have := h1 e (by omega) (by omega)
    exact ⟨by rw [same e (by omega)], this, trivial⟩
  · simp only at he
    subst he
    have hg := goodB_iff.1 hg
    have hl := lowE_le p (R.take n.toNat)
    have hln : (((R.take n.toNat).length : Nat) : Int) = n := by rw [List.length_take]; omega
    rw [hln] at hl
    have h2 : hasE p (R.take n.toNat) = true → giveE p t (R.take n.toNat) = 100 := fun h => by unfold giveE; rw [if_neg (by omega), if_neg (by omega), if_pos h]
    have h3 : hasE p (R.take n.toNat) = false → giveE p t (R.take n.toNat) = 0 := fun h => by unfold giveE; rw [if_neg (by omega), if_neg (by omega), h]; rfl
    refine ⟨fun hh => ?_, fun hh _ _ => ⟨hl.1, hl.2, fun b' c' R' q1 q2 q3 => ?_⟩⟩
    · have := h2 hh
      exact ⟨by rw [same _ (show giveE p t (R.take n.toNat) ≠ 0 by omega)], this, trivial⟩
    · have h0 := h3 hh
      have hi := ins_low (p := p) (t := t) hg.2
      have e1 : giveL p t (R.take n.toNat) = R'.take (n + 1).toNat := by unfold giveL; rw [if_pos h0, hi, q3]
      refine ⟨by omega, ?_, by rw [e1], h0, trivial⟩
      rw [goodB_iff, ← e1]
      unfold giveL
      rw [if_pos h0]
      exact hg.ins (by omega) (by omega) a3 a4 hh
  · have := h1 e (by omega) (by omega)
    exact ⟨by rw [same e (by omega)], this, trivial⟩
  · have := h30 e (by omega)
    exact ⟨by rw [same e (by omega)], this, trivial⟩
end
end Go.Proofs.Ytmjonggabppgaaa

/- Where the first free entry stands. -/
set_option linter.unusedSimpArgs false
set_option linter.unusedVariables false
namespace Go.Proofs.Ytmjonggabppgaaa
noncomputable section
open Go.Eng
def idxCtr : Ctr := ⟨[.int, .rows, .int, .int, .int], [.one (slC (ai 0) (ai 2) (ai 3) 2), .one (.fn 75)], [.arr enT (ai 0) (rA 1) (ai 4)],
  [eLe (.int 0) (ai 2), eLe (ai 2) (.f1 32 (rA 1)), eLe (ai 2) (.int 65534)], [], .one (.int .i64 (usI 26 (rA 1) (ai 2) z0)), [.arr enT (ai 0) (rA 1) (ai 4)], []⟩
def idxInv : Inv := ⟨[.int], [(8, .one (.int .i64 (di 0)))], [], [eLe (.int 0) (di 0), eLe (di 0) (ai 2), eEq (usI 26 (rA 1) (di 0) z0) (.int (-1))], .f2 41 (ai 2) (di 0)⟩
def idxCx : Cx := { specs := [], anns := [(74, [(2, .inv idxInv)])] }
-- BEGIN VC idx
def idxVc : VC := (.imp (.f2 47 (.int 0) (.at .int 2)) (.imp (.f2 47 (.at .int 2) (.f1 32 (.at .rows 1))) (.imp (.f2 47 (.at .int 2) (.int 65534)) (.need (.f2 45 (.us
    .int 26 (.at .rows 1) (.int 0) (.int 0) (.int 0)) (.int (-(0 + 1)))) (.all 5 .int (.imp (.f2 47 (.int 0) (.at .int 5)) (.imp (.f2 47 (.at .int 5)
    (.at .int 2)) (.imp (.f2 45 (.us .int 26 (.at .rows 1) (.at .int 5) (.int 0) (.int 0)) (.int (-(0 + 1)))) (.and (.imp (.f2 46 (.at .int 5) (.at
    .int 2)) (.need (.f2 46 (.at .int 5) (.f1 32 (.at .rows 1))) (.all 6 .int (.imp (.f2 47 (.int 0) (.at .int 6)) (.and (.imp (.f2 45 (.f3 112 (.at
    .rows 1) (.at .int 5) (.int 1)) (.int 0)) (.need (.f2 45 (.us .int 26 (.at .rows 1) (.at .int 2) (.int 0) (.int 0)) (.at .int 5)) .tt)) (.imp (.f1
    2 (.f2 45 (.f3 112 (.at .rows 1) (.at .int 5) (.int 1)) (.int 0))) (.need (.f1 23 (.f2 40 (.at .int 5) (.int 1))) (.need (.f2 47 (.int 0) (.f2 41
    (.at .int 2) (.f2 40 (.at .int 5) (.int 1)))) (.need (.f2 46 (.f2 41 (.at .int 2) (.f2 40 (.at .int 5) (.int 1))) (.f2 41 (.at .int 2) (.at .int
    5))) (.need (.f2 47 (.int 0) (.f2 40 (.at .int 5) (.int 1))) (.need (.f2 47 (.f2 40 (.at .int 5) (.int 1)) (.at .int 2)) (.need (.f2 45 (.us .int
    26 (.at .rows 1) (.f2 40 (.at .int 5) (.int 1)) (.int 0) (.int 0)) (.int (-(0 + 1)))) .tt)))))))))))) (.imp (.f2 47 (.at .int 2) (.at .int 5))
    (.need (.f2 45 (.us .int 26 (.at .rows 1) (.at .int 2) (.int 0) (.int 0)) (.int (-(0 + 1)))) .tt)))))))))))
theorem idx_vc : vcOf Try.prog idxCx 10 74 idxCtr = idxVc := by kernel_rfl
-- END VC idx
-- PROOFS
theorem idx_ok (S : Sig FL) (hS : FlSig S) : CtrOk S Try.prog 74 idxCtr := by
  refine vcOf_sound S (C := idxCx) (fuel := 10) (cx_of trivial ⟨⟨trivial, trivial⟩, trivial⟩ trivial) fun ρ => ?_
  rw [idx_vc]
  simp only [idxVc, VC.den, SX.den, U.co, Env.upd, hS.u26, p23, p45, p46, p47, ap1_2, ap1_32, ap2_40, ap2_41, ap2_45, ap3_112, U.toProp_bool, U.toBool_bool, Bool.not_eq_true', beq_eq_false_iff_ne, beq_iff_eq, ne_eq, i64lo, i64hi, U.toInt_int, U.toRows_rows, Int.toNat_zero, toNat1, List.take_zero, Nat.reduceEqDiff, reduceIte, Int.reduceAdd, Int.reduceNeg]
  generalize (ρ 1).toRows = R
  generalize (ρ 2).toInt = n
  intro a1 a2 a3
  refine ⟨rfl, fun x k0 k1 k2 => ⟨fun hk => ⟨by omega, fun y _ => ⟨fun hz => ⟨idx_found k0 hk a2 k2 hz, trivial⟩, fun hz => ⟨by omega, by omega, by omega, by omega, by omega, idx_step k0 (by omega) k2 hz, trivial⟩⟩⟩, fun hk => ⟨?_, trivial⟩⟩⟩
  have : x = n := by omega
  rw [← this]; exact k2
end
end Go.Proofs.Ytmjonggabppgaaa

/- The least free page is taken. -/
set_option linter.unusedSimpArgs false
set_option linter.unusedVariables false
namespace Go.Proofs.Ytmjonggabppgaaa
noncomputable section
open Go.Eng
def takeCtr : Ctr := ⟨[.int, .g], [.one (.ptr (ai 0) 0)], [freeC (ai 0) (gA 1)], [], [], .tup [(false, [.int .i64 (usI 23 (gA 1) z0 z0)]), (false, [.bool (usB 24 (gA 1) z0 z0)])], [freeC (ai 0) (usG 25 (gA 1) z0 z0)], []⟩
def takeCx : Cx := { specs := [(74, [idxCtr])], anns := [(33, [(1, .ghost unfC [.tmp 0]), (3, .ghost fldC [.tmp 0]), (6, .ghost fldC [.tmp 0])]), (76, [(5, .ghost inC [.tmp 0, .tmp 1, .tmp 2])])] }
-- BEGIN VC take
def takeVc : VC := (.all 2 .int (.all 3 .int (.all 4 .int (.all 5 .rows (.all 6 .int (.all 7 .int (.all 8 .int (.imp (.f2 47 (.int 0) (.at .int 3)) (.imp (.f2 47 (.at
    .int 3) (.f1 32 (.at .rows 5))) (.imp (.f2 47 (.at .int 3) (.int 65534)) (.imp (.f2 47 (.at .int 3) (.at .int 4)) (.imp (.us .bool 41 (.at .rows 5)
    (.at .int 3) (.int 0) (.int 0)) (.imp (.f2 155 (.us .rows 21 (.at .g 1) (.int 0) (.int 0) (.int 0)) (.f2 115 (.at .rows 5) (.at .int 3))) (.and
    (.imp (.f2 46 (.us .int 26 (.at .rows 5) (.at .int 3) (.int 0) (.int 0)) (.int 0)) (.need (.f2 155 (.us .g 25 (.at .g 1) (.int 0) (.int 0) (.int
    0)) (.us .g 22 (.at .g 1) (.at .rows 5) (.at .int 3) (.int 0))) (.need (.f2 155 (.us .bool 24 (.at .g 1) (.int 0) (.int 0) (.int 0)) (.bool
    .false)) (.need (.f2 45 (.us .int 23 (.at .g 1) (.int 0) (.int 0) (.int 0)) (.int 0)) .tt)))) (.imp (.f2 47 (.int 0) (.us .int 26 (.at .rows 5)
    (.at .int 3) (.int 0) (.int 0))) (.need (.f2 46 (.us .int 26 (.at .rows 5) (.at .int 3) (.int 0) (.int 0)) (.at .int 3)) (.need (.f2 46 (.us .int
    26 (.at .rows 5) (.at .int 3) (.int 0) (.int 0)) (.f1 32 (.at .rows 5))) (.need (.f1 23 (.f2 40 (.us .int 26 (.at .rows 5) (.at .int 3) (.int 0)
    (.int 0)) (.int 1))) (.need (.f2 47 (.int 0) (.at .int 4)) (.need (.f2 47 (.us .int 26 (.at .rows 5) (.at .int 3) (.int 0) (.int 0)) (.f2 40 (.us
    .int 26 (.at .rows 5) (.at .int 3) (.int 0) (.int 0)) (.int 1))) (.need (.f2 47 (.int 0) (.f2 40 (.us .int 26 (.at .rows 5) (.at .int 3) (.int 0)
    (.int 0)) (.int 1))) (.need (.f2 47 (.f2 40 (.us .int 26 (.at .rows 5) (.at .int 3) (.int 0) (.int 0)) (.int 1)) (.at .int 3)) (.and (.imp (.f2 45
    (.us .int 26 (.at .rows 5) (.at .int 3) (.int 0) (.int 0)) (.f2 40 (.us .int 26 (.at .rows 5) (.at .int 3) (.int 0) (.int 0)) (.int 1))) (.need
    (.f2 155 (.us .g 25 (.at .g 1) (.int 0) (.int 0) (.int 0)) (.us .g 22 (.at .g 1) (.at .rows 5) (.at .int 3) (.int 0))) (.need (.f2 155 (.us .bool
    24 (.at .g 1) (.int 0) (.int 0) (.int 0)) (.bool .true)) (.need (.f2 45 (.us .int 23 (.at .g 1) (.int 0) (.int 0) (.int 0)) (.f3 112 (.at .rows 5)
    (.us .int 26 (.at .rows 5) (.at .int 3) (.int 0) (.int 0)) (.int 0))) .tt)))) (.imp (.f1 2 (.f2 45 (.us .int 26 (.at .rows 5) (.at .int 3) (.int 0)
    (.int 0)) (.f2 40 (.us .int 26 (.at .rows 5) (.at .int 3) (.int 0) (.int 0)) (.int 1)))) (.need (.f2 47 (.f2 40 (.us .int 26 (.at .rows 5) (.at
    .int 3) (.int 0) (.int 0)) (.f2 41 (.at .int 3) (.f2 40 (.us .int 26 (.at .rows 5) (.at .int 3) (.int 0) (.int 0)) (.int 1)))) (.at .int 4)) (.imp
    (.f2 47 (.f2 40 (.us .int 26 (.at .rows 5) (.at .int 3) (.int 0) (.int 0)) (.f2 41 (.at .int 3) (.f2 40 (.us .int 26 (.at .rows 5) (.at .int 3)
    (.int 0) (.int 0)) (.int 1)))) (.at .int 4)) (.need (.f2 47 (.us .int 26 (.at .rows 5) (.at .int 3) (.int 0) (.int 0)) (.at .int 4)) (.need (.f2 47
    (.us .int 26 (.at .rows 5) (.at .int 3) (.int 0) (.int 0)) (.f1 32 (.at .rows 5))) (.need (.f2 47 (.int 0) (.f2 41 (.at .int 3) (.f2 40 (.us .int
    26 (.at .rows 5) (.at .int 3) (.int 0) (.int 0)) (.int 1)))) (.need (.f2 47 (.f2 41 (.at .int 3) (.f2 40 (.us .int 26 (.at .rows 5) (.at .int 3)
    (.int 0) (.int 0)) (.int 1))) (.f2 41 (.at .int 4) (.f2 40 (.us .int 26 (.at .rows 5) (.at .int 3) (.int 0) (.int 0)) (.int 1)))) (.need (.f2 47
    (.f2 40 (.f2 40 (.us .int 26 (.at .rows 5) (.at .int 3) (.int 0) (.int 0)) (.f2 41 (.at .int 3) (.f2 40 (.us .int 26 (.at .rows 5) (.at .int 3)
    (.int 0) (.int 0)) (.int 1)))) (.int 1)) (.f1 32 (.at .rows 5))) (.need (.f2 47 (.int 0) (.f2 40 (.us .int 26 (.at .rows 5) (.at .int 3) (.int 0)
    (.int 0)) (.f2 41 (.at .int 3) (.f2 40 (.us .int 26 (.at .rows 5) (.at .int 3) (.int 0) (.int 0)) (.int 1))))) (.need (.f2 47 (.f2 40 (.us .int 26
    (.at .rows 5) (.at .int 3) (.int 0) (.int 0)) (.f2 41 (.at .int 3) (.f2 40 (.us .int 26 (.at .rows 5) (.at .int 3) (.int 0) (.int 0)) (.int 1))))
    (.at .int 3)) (.need (.f2 47 (.int 0) (.f2 41 (.at .int 3) (.f2 40 (.us .int 26 (.at .rows 5) (.at .int 3) (.int 0) (.int 0)) (.f2 41 (.at .int 3)
    (.f2 40 (.us .int 26 (.at .rows 5) (.at .int 3) (.int 0) (.int 0)) (.int 1)))))) (.need (.f2 47 (.f2 41 (.at .int 3) (.f2 40 (.us .int 26 (.at
    .rows 5) (.at .int 3) (.int 0) (.int 0)) (.f2 41 (.at .int 3) (.f2 40 (.us .int 26 (.at .rows 5) (.at .int 3) (.int 0) (.int 0)) (.int 1))))) (.f2
    41 (.at .int 4) (.f2 40 (.us .int 26 (.at .rows 5) (.at .int 3) (.int 0) (.int 0)) (.f2 41 (.at .int 3) (.f2 40 (.us .int 26 (.at .rows 5) (.at
    .int 3) (.int 0) (.int 0)) (.int 1)))))) (.need (.f2 47 (.f2 40 (.f2 40 (.us .int 26 (.at .rows 5) (.at .int 3) (.int 0) (.int 0)) (.f2 41 (.at
    .int 3) (.f2 40 (.us .int 26 (.at .rows 5) (.at .int 3) (.int 0) (.int 0)) (.int 1)))) (.f2 41 (.at .int 3) (.f2 40 (.us .int 26 (.at .rows 5) (.at
    .int 3) (.int 0) (.int 0)) (.f2 41 (.at .int 3) (.f2 40 (.us .int 26 (.at .rows 5) (.at .int 3) (.int 0) (.int 0)) (.int 1)))))) (.f2 40 (.f1 32
    (.f2 115 (.at .rows 5) (.us .int 26 (.at .rows 5) (.at .int 3) (.int 0) (.int 0)))) (.f2 40 (.f1 32 (.f2 115 (.f2 118 (.at .rows 5) (.f2 40 (.us
    .int 26 (.at .rows 5) (.at .int 3) (.int 0) (.int 0)) (.int 1))) (.f2 41 (.at .int 3) (.f2 40 (.us .int 26 (.at .rows 5) (.at .int 3) (.int 0)
    (.int 0)) (.int 1))))) (.f1 32 (.f2 118 (.at .rows 5) (.f2 40 (.us .int 26 (.at .rows 5) (.at .int 3) (.int 0) (.int 0)) (.f2 41 (.at .int 3) (.f2
    40 (.us .int 26 (.at .rows 5) (.at .int 3) (.int 0) (.int 0)) (.int 1))))))))) (.need (.f2 47 (.f2 40 (.us .int 26 (.at .rows 5) (.at .int 3) (.int
    0) (.int 0)) (.f2 41 (.at .int 3) (.f2 40 (.us .int 26 (.at .rows 5) (.at .int 3) (.int 0) (.int 0)) (.int 1)))) (.f2 40 (.f1 32 (.f2 115 (.f2 121
    (.f2 115 (.at .rows 5) (.us .int 26 (.at .rows 5) (.at .int 3) (.int 0) (.int 0))) (.f2 121 (.f2 115 (.f2 118 (.at .rows 5) (.f2 40 (.us .int 26
    (.at .rows 5) (.at .int 3) (.int 0) (.int 0)) (.int 1))) (.f2 41 (.at .int 3) (.f2 40 (.us .int 26 (.at .rows 5) (.at .int 3) (.int 0) (.int 0))
    (.int 1)))) (.f2 118 (.at .rows 5) (.f2 40 (.us .int 26 (.at .rows 5) (.at .int 3) (.int 0) (.int 0)) (.f2 41 (.at .int 3) (.f2 40 (.us .int 26
    (.at .rows 5) (.at .int 3) (.int 0) (.int 0)) (.int 1))))))) (.f2 40 (.us .int 26 (.at .rows 5) (.at .int 3) (.int 0) (.int 0)) (.f2 41 (.at .int
    3) (.f2 40 (.us .int 26 (.at .rows 5) (.at .int 3) (.int 0) (.int 0)) (.int 1)))))) (.f2 40 (.f1 32 (.f2 127 (.f2 41 (.at .int 3) (.f2 40 (.us .int
    26 (.at .rows 5) (.at .int 3) (.int 0) (.int 0)) (.f2 41 (.at .int 3) (.f2 40 (.us .int 26 (.at .rows 5) (.at .int 3) (.int 0) (.int 0)) (.int
    1))))) (.f2 122 (.int 0) (.f2 122 (.int 0) (.f1 152 (.int 0)))))) (.f1 32 (.f2 118 (.f2 121 (.f2 115 (.at .rows 5) (.us .int 26 (.at .rows 5) (.at
    .int 3) (.int 0) (.int 0))) (.f2 121 (.f2 115 (.f2 118 (.at .rows 5) (.f2 40 (.us .int 26 (.at .rows 5) (.at .int 3) (.int 0) (.int 0)) (.int 1)))
    (.f2 41 (.at .int 3) (.f2 40 (.us .int 26 (.at .rows 5) (.at .int 3) (.int 0) (.int 0)) (.int 1)))) (.f2 118 (.at .rows 5) (.f2 40 (.us .int 26
    (.at .rows 5) (.at .int 3) (.int 0) (.int 0)) (.f2 41 (.at .int 3) (.f2 40 (.us .int 26 (.at .rows 5) (.at .int 3) (.int 0) (.int 0)) (.int
    1))))))) (.f2 40 (.f2 40 (.us .int 26 (.at .rows 5) (.at .int 3) (.int 0) (.int 0)) (.f2 41 (.at .int 3) (.f2 40 (.us .int 26 (.at .rows 5) (.at
    .int 3) (.int 0) (.int 0)) (.int 1)))) (.f2 41 (.at .int 3) (.f2 40 (.us .int 26 (.at .rows 5) (.at .int 3) (.int 0) (.int 0)) (.f2 41 (.at .int 3)
    (.f2 40 (.us .int 26 (.at .rows 5) (.at .int 3) (.int 0) (.int 0)) (.int 1))))))))))) (.need (.us .bool 41 (.f2 121 (.f2 115 (.f2 121 (.f2 115 (.at
    .rows 5) (.us .int 26 (.at .rows 5) (.at .int 3) (.int 0) (.int 0))) (.f2 121 (.f2 115 (.f2 118 (.at .rows 5) (.f2 40 (.us .int 26 (.at .rows 5)
    (.at .int 3) (.int 0) (.int 0)) (.int 1))) (.f2 41 (.at .int 3) (.f2 40 (.us .int 26 (.at .rows 5) (.at .int 3) (.int 0) (.int 0)) (.int 1)))) (.f2
    118 (.at .rows 5) (.f2 40 (.us .int 26 (.at .rows 5) (.at .int 3) (.int 0) (.int 0)) (.f2 41 (.at .int 3) (.f2 40 (.us .int 26 (.at .rows 5) (.at
    .int 3) (.int 0) (.int 0)) (.int 1))))))) (.f2 40 (.us .int 26 (.at .rows 5) (.at .int 3) (.int 0) (.int 0)) (.f2 41 (.at .int 3) (.f2 40 (.us .int
    26 (.at .rows 5) (.at .int 3) (.int 0) (.int 0)) (.int 1))))) (.f2 121 (.f2 127 (.f2 41 (.at .int 3) (.f2 40 (.us .int 26 (.at .rows 5) (.at .int
    3) (.int 0) (.int 0)) (.f2 41 (.at .int 3) (.f2 40 (.us .int 26 (.at .rows 5) (.at .int 3) (.int 0) (.int 0)) (.int 1))))) (.f2 122 (.int 0) (.f2
    122 (.int 0) (.f1 152 (.int 0))))) (.f2 118 (.f2 121 (.f2 115 (.at .rows 5) (.us .int 26 (.at .rows 5) (.at .int 3) (.int 0) (.int 0))) (.f2 121
    (.f2 115 (.f2 118 (.at .rows 5) (.f2 40 (.us .int 26 (.at .rows 5) (.at .int 3) (.int 0) (.int 0)) (.int 1))) (.f2 41 (.at .int 3) (.f2 40 (.us
    .int 26 (.at .rows 5) (.at .int 3) (.int 0) (.int 0)) (.int 1)))) (.f2 118 (.at .rows 5) (.f2 40 (.us .int 26 (.at .rows 5) (.at .int 3) (.int 0)
    (.int 0)) (.f2 41 (.at .int 3) (.f2 40 (.us .int 26 (.at .rows 5) (.at .int 3) (.int 0) (.int 0)) (.int 1))))))) (.f2 40 (.f2 40 (.us .int 26 (.at
    .rows 5) (.at .int 3) (.int 0) (.int 0)) (.f2 41 (.at .int 3) (.f2 40 (.us .int 26 (.at .rows 5) (.at .int 3) (.int 0) (.int 0)) (.int 1)))) (.f2
    41 (.at .int 3) (.f2 40 (.us .int 26 (.at .rows 5) (.at .int 3) (.int 0) (.int 0)) (.f2 41 (.at .int 3) (.f2 40 (.us .int 26 (.at .rows 5) (.at
    .int 3) (.int 0) (.int 0)) (.int 1))))))))) (.f2 40 (.us .int 26 (.at .rows 5) (.at .int 3) (.int 0) (.int 0)) (.f2 41 (.at .int 3) (.f2 40 (.us
    .int 26 (.at .rows 5) (.at .int 3) (.int 0) (.int 0)) (.int 1)))) (.int 0) (.int 0)) (.need (.f2 155 (.us .g 25 (.at .g 1) (.int 0) (.int 0) (.int
    0)) (.us .g 22 (.at .g 1) (.f2 121 (.f2 115 (.f2 121 (.f2 115 (.at .rows 5) (.us .int 26 (.at .rows 5) (.at .int 3) (.int 0) (.int 0))) (.f2 121
    (.f2 115 (.f2 118 (.at .rows 5) (.f2 40 (.us .int 26 (.at .rows 5) (.at .int 3) (.int 0) (.int 0)) (.int 1))) (.f2 41 (.at .int 3) (.f2 40 (.us
    .int 26 (.at .rows 5) (.at .int 3) (.int 0) (.int 0)) (.int 1)))) (.f2 118 (.at .rows 5) (.f2 40 (.us .int 26 (.at .rows 5) (.at .int 3) (.int 0)
    (.int 0)) (.f2 41 (.at .int 3) (.f2 40 (.us .int 26 (.at .rows 5) (.at .int 3) (.int 0) (.int 0)) (.int 1))))))) (.f2 40 (.us .int 26 (.at .rows 5)
    (.at .int 3) (.int 0) (.int 0)) (.f2 41 (.at .int 3) (.f2 40 (.us .int 26 (.at .rows 5) (.at .int 3) (.int 0) (.int 0)) (.int 1))))) (.f2 121 (.f2
    127 (.f2 41 (.at .int 3) (.f2 40 (.us .int 26 (.at .rows 5) (.at .int 3) (.int 0) (.int 0)) (.f2 41 (.at .int 3) (.f2 40 (.us .int 26 (.at .rows 5)
    (.at .int 3) (.int 0) (.int 0)) (.int 1))))) (.f2 122 (.int 0) (.f2 122 (.int 0) (.f1 152 (.int 0))))) (.f2 118 (.f2 121 (.f2 115 (.at .rows 5)
    (.us .int 26 (.at .rows 5) (.at .int 3) (.int 0) (.int 0))) (.f2 121 (.f2 115 (.f2 118 (.at .rows 5) (.f2 40 (.us .int 26 (.at .rows 5) (.at .int
    3) (.int 0) (.int 0)) (.int 1))) (.f2 41 (.at .int 3) (.f2 40 (.us .int 26 (.at .rows 5) (.at .int 3) (.int 0) (.int 0)) (.int 1)))) (.f2 118 (.at
    .rows 5) (.f2 40 (.us .int 26 (.at .rows 5) (.at .int 3) (.int 0) (.int 0)) (.f2 41 (.at .int 3) (.f2 40 (.us .int 26 (.at .rows 5) (.at .int 3)
    (.int 0) (.int 0)) (.int 1))))))) (.f2 40 (.f2 40 (.us .int 26 (.at .rows 5) (.at .int 3) (.int 0) (.int 0)) (.f2 41 (.at .int 3) (.f2 40 (.us .int
    26 (.at .rows 5) (.at .int 3) (.int 0) (.int 0)) (.int 1)))) (.f2 41 (.at .int 3) (.f2 40 (.us .int 26 (.at .rows 5) (.at .int 3) (.int 0) (.int
    0)) (.f2 41 (.at .int 3) (.f2 40 (.us .int 26 (.at .rows 5) (.at .int 3) (.int 0) (.int 0)) (.int 1))))))))) (.f2 40 (.us .int 26 (.at .rows 5)
    (.at .int 3) (.int 0) (.int 0)) (.f2 41 (.at .int 3) (.f2 40 (.us .int 26 (.at .rows 5) (.at .int 3) (.int 0) (.int 0)) (.int 1)))) (.int 0)))
    (.need (.f2 155 (.us .bool 24 (.at .g 1) (.int 0) (.int 0) (.int 0)) (.bool .true)) (.need (.f2 45 (.us .int 23 (.at .g 1) (.int 0) (.int 0) (.int
    0)) (.f3 112 (.at .rows 5) (.us .int 26 (.at .rows 5) (.at .int 3) (.int 0) (.int 0)) (.int 0))) .tt)))))))))))))))))))))))))))))))))))))))))
theorem take_vc : vcOf Try.prog takeCx 10 33 takeCtr = takeVc := by kernel_rfl
-- END VC take
-- PROOFS
theorem take_ok (S : Sig FL) (hS : FlSig S) (hu : GhOk S unfC) (hf : GhOk S fldC) : CtrOk S Try.prog 33 takeCtr := by
  refine vcOf_sound S (C := takeCx) (fuel := 10) (cx_of ⟨one_spec (by decide) (idx_ok S hS), trivial⟩ ⟨⟨⟨by decide, hu⟩, ⟨by decide, hf⟩, ⟨by decide, hf⟩, trivial⟩, ⟨⟨by decide, gh_said S rfl rfl rfl⟩, trivial⟩, trivial⟩ trivial) fun ρ => ?_
  rw [take_vc]
  simp only [takeVc, VC.den, SX.den, co_int, co_bool, co_ints, co_rows, co_g, gOf_g, Env.upd, hS.u21, hS.u22, hS.u23, hS.u24, hS.u25, hS.u26, hS.u41, p155, p23, p45, p46, p47, ap1_2, ap1_32, ap1_152, ap2_40, ap2_41, ap2_42, ap2_45, ap2_115, ap2_118, ap2_121, ap2_122, ap2_127, ap3_112, U.toProp_bool, U.toBool_bool, Bool.not_eq_true', beq_eq_false_iff_ne, beq_iff_eq, ne_eq, i64lo, i64hi, U.toInt_int, U.toRows_rows, U.toInts_ints, Int.toNat_zero, toNat1, List.take_zero, Nat.reduceEqDiff, reduceIte, Int.reduceAdd, Int.reduceNeg, U.rows.injEq, U.g.injEq, U.bool.injEq]
  generalize gOf (U.co S .g (ρ 1)) = s
  obtain ⟨e, m, last⟩ := s
  intro b n c R bm nm cm h1 h2 h3 h4 hg he
  simp only at he
  subst he
  have hg := goodB_iff.1 hg
  have hlo := idxL_lo (R.take n.toNat)
  have hhi := idxL_hi (R.take n.toNat)
  have hln : (((R.take n.toNat).length : Nat) : Int) = n := by rw [List.length_take]; omega
  rw [hln] at hhi
  generalize hj : idxL (R.take n.toNat) = j at *
  refine ⟨fun hn => ?_, fun hp => ?_⟩
  · obtain ⟨t1, t2, t3⟩ := take_none (l := R.take n.toNat) (by omega)
    exact ⟨by rw [t1], t3, t2, trivial⟩
  · obtain ⟨t1, t2, t3⟩ := take_some (l := R.take n.toNat) (i := j.toNat) (by omega)
    have hnth : ((R.take n.toNat).getD j.toNat []).getD 0 0 = (R.getD j.toNat []).getD 0 0 := by rw [nth_take (by omega)]
    have hroom := fun Z Y => del_room (R := R) (Z := Z) (Y := Y) hp hhi h2
    repeat' (first | apply And.intro | intro)
    all_goals first | omega | (simp only [List.length_append, List.length_take, List.length_drop, List.length_replicate]; omega) | skip
    · rw [goodB_iff, hroom, ← t1]; exact hg.sub (takeE_sub _)
    · simp only
      rw [t1, hroom]
    all_goals first | exact t3 | trivial | (rw [← hnth]; exact t2)
end
end Go.Proofs.Ytmjonggabppgaaa

/- What older views do not need is free. -/
set_option linter.unusedSimpArgs false
set_option linter.unusedVariables false
namespace Go.Proofs.Ytmjonggabppgaaa
noncomputable section
open Go.Eng
def relCtr : Ctr := ⟨[.int, .g, .int], [.one (.ptr (ai 0) 0), .one (.int .i64 (ai 2))], [freeC (ai 0) (gA 1)], [], [], .one (.int .i64 (usI 28 (gA 1) (ai 2) z0)), [freeC (ai 0) (usG 29 (gA 1) (ai 2) z0)], []⟩
def relInv : Inv := ⟨[.int, .int, .rows], [(13, .one (.int .i64 (di 0))), (5, .one (.int .i64 (di 1)))], [.arr enT (ai 3) (rA 1000002) (ai 5)],
  [eLe (.int 0) (di 0), eLe (di 0) (ai 4), eqS (rA 1000002) (usR 30 (rA 6) (di 0) (ai 2)), eEq (di 1) (usI 31 (rA 6) (di 0) (ai 2))], .f2 41 (ai 4) (di 0)⟩
def relCx : Cx := { specs := [], anns := [(35, [(2, .ghost unfC [.tmp 0]), (3, .inv relInv), (9, .ghost fldC [.tmp 0])])] }
-- BEGIN VC rel
def relVc : VC := (.all 3 .int (.all 4 .int (.all 5 .int (.all 6 .rows (.all 7 .int (.all 8 .int (.all 9 .int (.imp (.f2 47 (.int 0) (.at .int 4)) (.imp (.f2 47 (.at
    .int 4) (.f1 32 (.at .rows 6))) (.imp (.f2 47 (.at .int 4) (.int 65534)) (.imp (.f2 47 (.at .int 4) (.at .int 5)) (.imp (.us .bool 41 (.at .rows 6)
    (.at .int 4) (.int 0) (.int 0)) (.imp (.f2 155 (.us .rows 21 (.at .g 1) (.int 0) (.int 0) (.int 0)) (.f2 115 (.at .rows 6) (.at .int 4))) (.need
    (.f2 155 (.at .rows 6) (.us .rows 30 (.at .rows 6) (.int 0) (.at .int 2) (.int 0))) (.need (.f2 45 (.int 0) (.us .int 31 (.at .rows 6) (.int 0)
    (.at .int 2) (.int 0))) (.all 10 .int (.all 11 .int (.all 12 .rows (.imp (.f2 47 (.int 0) (.at .int 10)) (.imp (.f2 47 (.at .int 10) (.at .int 4))
    (.imp (.f2 155 (.at .rows 12) (.us .rows 30 (.at .rows 6) (.at .int 10) (.at .int 2) (.int 0))) (.imp (.f2 45 (.at .int 11) (.us .int 31 (.at .rows
    6) (.at .int 10) (.at .int 2) (.int 0))) (.and (.imp (.f2 46 (.at .int 10) (.at .int 4)) (.need (.f2 46 (.at .int 10) (.f1 32 (.at .rows 12)))
    (.all 13 .int (.imp (.f2 47 (.int 0) (.at .int 13)) (.and (.imp (.f2 46 (.int 0) (.f3 112 (.at .rows 12) (.at .int 10) (.int 1))) (.and (.imp (.f2
    47 (.f3 112 (.at .rows 12) (.at .int 10) (.int 1)) (.at .int 2)) (.need (.f1 23 (.f2 40 (.at .int 11) (.int 1))) (.need (.f1 23 (.f2 40 (.at .int
    10) (.int 1))) (.need (.f2 47 (.int 0) (.f2 41 (.at .int 4) (.f2 40 (.at .int 10) (.int 1)))) (.need (.f2 46 (.f2 41 (.at .int 4) (.f2 40 (.at .int
    10) (.int 1))) (.f2 41 (.at .int 4) (.at .int 10))) (.need (.f2 47 (.int 0) (.f2 40 (.at .int 10) (.int 1))) (.need (.f2 47 (.f2 40 (.at .int 10)
    (.int 1)) (.at .int 4)) (.need (.f2 155 (.f3 132 (.at .rows 12) (.at .int 10) (.f2 122 (.f3 112 (.at .rows 12) (.at .int 10) (.int 0)) (.f2 122
    (.int 0) (.f1 152 (.int 0))))) (.us .rows 30 (.at .rows 6) (.f2 40 (.at .int 10) (.int 1)) (.at .int 2) (.int 0))) (.need (.f2 45 (.f2 40 (.at .int
    11) (.int 1)) (.us .int 31 (.at .rows 6) (.f2 40 (.at .int 10) (.int 1)) (.at .int 2) (.int 0))) .tt))))))))) (.imp (.f2 46 (.at .int 2) (.f3 112
    (.at .rows 12) (.at .int 10) (.int 1))) (.need (.f1 23 (.f2 40 (.at .int 10) (.int 1))) (.need (.f2 47 (.int 0) (.f2 41 (.at .int 4) (.f2 40 (.at
    .int 10) (.int 1)))) (.need (.f2 46 (.f2 41 (.at .int 4) (.f2 40 (.at .int 10) (.int 1))) (.f2 41 (.at .int 4) (.at .int 10))) (.need (.f2 47 (.int
    0) (.f2 40 (.at .int 10) (.int 1))) (.need (.f2 47 (.f2 40 (.at .int 10) (.int 1)) (.at .int 4)) (.need (.f2 155 (.at .rows 12) (.us .rows 30 (.at
    .rows 6) (.f2 40 (.at .int 10) (.int 1)) (.at .int 2) (.int 0))) (.need (.f2 45 (.at .int 11) (.us .int 31 (.at .rows 6) (.f2 40 (.at .int 10)
    (.int 1)) (.at .int 2) (.int 0))) .tt)))))))))) (.imp (.f2 47 (.f3 112 (.at .rows 12) (.at .int 10) (.int 1)) (.int 0)) (.need (.f1 23 (.f2 40 (.at
    .int 10) (.int 1))) (.need (.f2 47 (.int 0) (.f2 41 (.at .int 4) (.f2 40 (.at .int 10) (.int 1)))) (.need (.f2 46 (.f2 41 (.at .int 4) (.f2 40 (.at
    .int 10) (.int 1))) (.f2 41 (.at .int 4) (.at .int 10))) (.need (.f2 47 (.int 0) (.f2 40 (.at .int 10) (.int 1))) (.need (.f2 47 (.f2 40 (.at .int
    10) (.int 1)) (.at .int 4)) (.need (.f2 155 (.at .rows 12) (.us .rows 30 (.at .rows 6) (.f2 40 (.at .int 10) (.int 1)) (.at .int 2) (.int 0)))
    (.need (.f2 45 (.at .int 11) (.us .int 31 (.at .rows 6) (.f2 40 (.at .int 10) (.int 1)) (.at .int 2) (.int 0))) .tt))))))))))))) (.imp (.f2 47 (.at
    .int 4) (.at .int 10)) (.need (.f2 47 (.at .int 4) (.f1 32 (.at .rows 12))) (.need (.us .bool 41 (.at .rows 12) (.at .int 4) (.int 0) (.int 0))
    (.need (.f2 155 (.us .g 29 (.at .g 1) (.at .int 2) (.int 0) (.int 0)) (.us .g 22 (.at .g 1) (.at .rows 12) (.at .int 4) (.int 0))) (.need (.f2 45
    (.us .int 28 (.at .g 1) (.at .int 2) (.int 0) (.int 0)) (.at .int 11)) .tt))))))))))))))))))))))))))))
theorem rel_vc : vcOf Try.prog relCx 10 35 relCtr = relVc := by kernel_rfl
-- END VC rel
-- PROOFS
theorem rel_ok (S : Sig FL) (hS : FlSig S) (hu : GhOk S unfC) (hf : GhOk S fldC) : CtrOk S Try.prog 35 relCtr := by
  refine vcOf_sound S (C := relCx) (fuel := 10) (cx_of trivial ⟨⟨⟨by decide, hu⟩, trivial, ⟨by decide, hf⟩, trivial⟩, trivial⟩ trivial) fun ρ => ?_
  rw [rel_vc]
  simp only [relVc, hS.u21, hS.u22, hS.u28, hS.u29, hS.u30, hS.u31, hS.u41, VC.den, SX.den, co_int, co_bool, co_ints, co_rows, co_g, gOf_g, Env.upd, p155, p23, p45, p46, p47, ap1_2, ap1_32, ap1_152, ap2_40, ap2_41, ap2_42, ap2_45, ap2_115, ap2_118, ap2_121, ap2_122, ap2_127, ap3_112, ap3_132, U.toProp_bool, U.toBool_bool, Bool.not_eq_true', beq_eq_false_iff_ne, beq_iff_eq, ne_eq, i64lo, i64hi, U.toInt_int, U.toRows_rows, U.toInts_ints, Int.toNat_zero, toNat1, List.take_zero, Nat.reduceEqDiff, reduceIte, Int.reduceAdd, Int.reduceNeg, U.rows.injEq, U.g.injEq, U.bool.injEq]
  generalize gOf (U.co S .g (ρ 1)) = s
  generalize (ρ 2).toInt = old
  obtain ⟨e, m, last⟩ := s
  intro b n c R bm nm cm h1 h2 h3 h4 hg he
  simp only at he
  subst he
  have hg := goodB_iff.1 hg
  have nle := fun l => relN_le old l
  refine ⟨by simp, rfl, fun i k x j0 j1 hx hk => ⟨fun hi => ?_, fun hi => ?_⟩⟩
  · subst hx
    have hil : i.toNat < R.length := by omega
    have hk1 := nle (R.take i.toNat)
    rw [← hk, List.length_take] at hk1
    rw [upd_len, upd_nth hil]
    have e1 : (i + 1).toNat = i.toNat + 1 := by omega
    rw [e1, relN_step hil, ← hk]
    have hs := upd_step (f := relE old) hil
    have hq := upd_same (f := relE old) hil
    generalize hr : R.getD i.toNat [] = r at *
    have hT : 0 < r.getD 1 0 → r.getD 1 0 ≤ old → relT old r = true := fun a b => by unfold relT; rw [decide_eq_true a, decide_eq_true b]; rfl
    have hF1 : r.getD 1 0 ≤ 0 → relT old r = false := fun a => by unfold relT; rw [decide_eq_false (by omega)]; rfl
    have hF2 : old < r.getD 1 0 → relT old r = false := fun a => by unfold relT; rw [decide_eq_false (p := r.getD 1 0 ≤ old) (by omega), Bool.and_false]
    have eT : relT old r = true → relE old r = [r.getD 0 0, 0] := fun a => by unfold relE; rw [if_pos a]
    have eF : relT old r = false → relE old r = r := fun a => by unfold relE; rw [a]; rfl
    repeat' (first | apply And.intro | intro)
    all_goals first | omega | trivial | skip
    · rename_i a b; rw [← hs, eT (hT a b)]
    · rename_i a b; rw [if_pos (hT a b)]
    · rename_i a b; exact hq (eF (hF2 b))
    · rename_i a b; rw [hF2 b]; simp
    · rename_i a; exact hq (eF (hF1 a))
    · rename_i a; rw [hF1 a]; simp
  · have : i = n := by omega
    subst this
    subst hx
    rw [upd_len, goodB_iff, upd_end (by omega)]
    exact ⟨h2, hg.rel old, rfl, hk.symm, trivial⟩
end
end Go.Proofs.Ytmjonggabppgaaa

/- A list's marks: Mark, Back; a law's call. -/
set_option linter.unusedSimpArgs false
set_option linter.unusedVariables false
namespace Go.Proofs.Ytmjonggabppgaaa
noncomputable section
open Go.Eng
def cloCtr : Ctr := ⟨[.int, .rows, .int, .int], [.one (slC (ai 0) (ai 2) (ai 3) 2)], [.arr enT (ai 0) (rA 1) (ai 3)], [eLe (.int 0) (ai 2), eLe (ai 2) (.f1 32 (rA 1)), eLe (ai 2) (.int 65534), eLe (ai 2) (ai 3)], [.int, .int, .rows],
  .one (slC (ai 4) (ai 2) (ai 5) 2), [.arr enT (ai 0) (rA 1) (ai 3), .arr enT (ai 4) (rA 6) (ai 5)], [eLe (ai 2) (.f1 32 (rA 6)), eqS (tk (rA 6) (ai 2)) (tk (rA 1) (ai 2))]⟩
def cloCx : Cx := { specs := [], anns := [(58, [(1, .ghost nnC [.tmp 0])])] }
def ixmCtr : Ctr := ⟨[.int, .rows, .int, .int, .int, .int], [.one (slC (ai 0) (ai 2) (ai 3) 2), .one (.cap (.fn 81) (.ptr (ai 4) 0))], [.arr mkT (ai 0) (rA 1) (ai 3), .cel (ai 4) 0 [.int .i64 (ai 5)]],
  [eLe (.int 0) (ai 2), eLe (ai 2) (.f1 32 (rA 1)), eLe (ai 2) (.int 1000000), eLe (.int 0) (ai 4)], [], .one (.int .i64 (usI 64 (rA 1) (ai 2) (ai 5))), [.arr mkT (ai 0) (rA 1) (ai 3), .cel (ai 4) 0 [.int .i64 (ai 5)]], []⟩
def ixmInv : Inv := ⟨[.int], [(8, .one (.int .i64 (di 0)))], [], [eLe (.int 0) (di 0), eLe (di 0) (ai 2), eEq (usI 64 (rA 1) (di 0) (ai 5)) (.int (-1))], .f2 41 (ai 2) (di 0)⟩
def ixmCx : Cx := { specs := [], anns := [(80, [(2, .inv ixmInv)])] }
def lastX : SX := usI 20 (gA 1) z0 z0
def LX : SX := SX.mk2 40 lastX (.int 1)
def contX : SX := .f2 121 (tk (rA 9) (ai 7)) (.f2 124 (.f2 122 LX (.f2 122 (ai 10) (.f2 122 (ai 3) (one1 (ai 11))))) nilR)
def markCtr : Ctr := ⟨[.int, .g], [.one (.ptr (ai 0) 0)], [freeC (ai 0) (gA 1)], [eLe (.int 0) lastX, eLe lastX (.int 4611686018427387904), eLe (usI 71 (gA 1) z0 z0) (.int 1000000)], [], .one (.int .i64 (usI 63 (gA 1) z0 z0)), [freeC (ai 0) (usG 62 (gA 1) z0 z0)], []⟩
def markInv : Inv := ⟨[.int], [(3, .one (.int .i64 (di 0)))], [], [eLe (.int 0) (di 0), eLe (di 0) (usI 58 contX LX z0)], .f2 41 (SX.mk2 40 (ai 7) (.int 1)) (di 0)⟩
def markCx : Cx := { specs := [(58, [cloCtr])], anns := [(37, [(1, .ghost unfC [.tmp 0]), (1, .ghost unmC []), (3, .ghost psC [.tmp 25, .tmp 20]), (4, .inv markInv), (999999, .ghost drC [.tmp 3]), (999999, .ghost shmC [.tmp 70]), (999999, .ghost fldC [.tmp 0])])] }
def backCtr : Ctr := ⟨[.int, .g, .int], [.one (.ptr (ai 0) 0), .one (.int .i64 (ai 2))], [freeC (ai 0) (gA 1)], [eLe (usI 71 (gA 1) z0 z0) (.int 1000000)], [], .one (.int .i64 (usI 69 (gA 1) (ai 2) z0)), [freeC (ai 0) (usG 68 (gA 1) (ai 2) z0)], []⟩
def backCx : Cx := { specs := [(58, [cloCtr]), (80, [ixmCtr])], anns := [(38, [(1, .ghost unfC [.tmp 0]), (1, .ghost unmC []), (3, .ghost shmC [.tmp 9]), (3, .ghost fldC [.tmp 0]), (4, .ghost toC [.tmp 5]), (5, .ghost pbC []), (7, .ghost ftC [.tmp 5]), (7, .ghost shmC [.tmp 40]), (7, .ghost fldC [.tmp 0])])] }
def actCtr : Ctr := ⟨[.int, .g, .int, .int, .int], [.one (.ptr (ai 0) 0), .agg [.int .i64 (ai 2), .int .i64 (ai 3), .int .i64 (ai 4)]], [freeC (ai 0) (gA 1)], [eLe (.int 0) lastX, eLe lastX (.int 4611686018427387904), eLe (usI 71 (gA 1) z0 z0) (.int 1000000)], [],
  .one (.int .i64 (.us .int 72 (gA 1) (ai 2) (ai 3) (ai 4))), [freeC (ai 0) (.us .g 73 (gA 1) (ai 2) (ai 3) (ai 4))], []⟩
def actCx : Cx := { specs := [(33, [takeCtr]), (34, [giveCtr]), (35, [relCtr]), (37, [markCtr])], anns := [] }
-- BEGIN VC clo
def cloVc : VC := (.imp (.f2 47 (.int 0) (.at .int 2)) (.imp (.f2 47 (.at .int 2) (.f1 32 (.at .rows 1))) (.imp (.f2 47 (.at .int 2) (.int 65534)) (.imp (.f2 47 (.at
    .int 2) (.at .int 3)) (.imp (.f2 50 (.f2 47 (.int 0) (.at .int 0)) (.f2 45 (.f1 32 (.at .rows 1)) (.int 0))) (.and (.imp (.f2 46 (.at .int 0) (.int
    0)) (.need (.f2 47 (.at .int 2) (.int 0)) (.need (.f2 155 (.f2 115 (.f1 154 (.int 0)) (.at .int 2)) (.f2 115 (.at .rows 1) (.at .int 2))) (.need
    (.f2 45 (.at .int 2) (.int 0)) .tt)))) (.imp (.f2 47 (.int 0) (.at .int 0)) (.all 4 .int (.imp (.f2 47 (.int 0) (.at .int 4)) (.need (.f2 47 (.f2
    42 (.at .int 2) (.int 16)) (.int 140737488355328)) (.all 5 .int (.all 6 .int (.imp (.f2 47 (.at .int 2) (.at .int 6)) (.imp (.f2 50 (.f2 47 (.int
    0) (.at .int 5)) (.f2 45 (.at .int 2) (.int 0))) (.need (.f2 47 (.at .int 2) (.f1 32 (.f2 115 (.at .rows 1) (.at .int 2)))) (.need (.f2 155 (.f2
    115 (.f2 115 (.at .rows 1) (.at .int 2)) (.at .int 2)) (.f2 115 (.at .rows 1) (.at .int 2))) .tt))))))))))))))))
theorem clo_vc : vcOf Try.prog cloCx 10 58 cloCtr = cloVc := by kernel_rfl
-- END VC clo
-- BEGIN VC ixm
def ixmVc : VC := (.imp (.f2 47 (.int 0) (.at .int 2)) (.imp (.f2 47 (.at .int 2) (.f1 32 (.at .rows 1))) (.imp (.f2 47 (.at .int 2) (.int 1000000)) (.imp (.f2 47 (.int
    0) (.at .int 4)) (.need (.f2 45 (.us .int 64 (.at .rows 1) (.int 0) (.at .int 5) (.int 0)) (.int (-(0 + 1)))) (.all 6 .int (.imp (.f2 47 (.int 0)
    (.at .int 6)) (.imp (.f2 47 (.at .int 6) (.at .int 2)) (.imp (.f2 45 (.us .int 64 (.at .rows 1) (.at .int 6) (.at .int 5) (.int 0)) (.int (-(0 +
    1)))) (.and (.imp (.f2 46 (.at .int 6) (.at .int 2)) (.need (.f2 46 (.at .int 6) (.f1 32 (.at .rows 1))) (.all 7 .int (.imp (.f2 47 (.int 0) (.at
    .int 7)) (.and (.imp (.f2 45 (.f3 112 (.at .rows 1) (.at .int 6) (.int 0)) (.at .int 5)) (.need (.f2 45 (.us .int 64 (.at .rows 1) (.at .int 2)
    (.at .int 5) (.int 0)) (.at .int 6)) .tt)) (.imp (.f1 2 (.f2 45 (.f3 112 (.at .rows 1) (.at .int 6) (.int 0)) (.at .int 5))) (.need (.f1 23 (.f2 40
    (.at .int 6) (.int 1))) (.need (.f2 47 (.int 0) (.f2 41 (.at .int 2) (.f2 40 (.at .int 6) (.int 1)))) (.need (.f2 46 (.f2 41 (.at .int 2) (.f2 40
    (.at .int 6) (.int 1))) (.f2 41 (.at .int 2) (.at .int 6))) (.need (.f2 47 (.int 0) (.f2 40 (.at .int 6) (.int 1))) (.need (.f2 47 (.f2 40 (.at
    .int 6) (.int 1)) (.at .int 2)) (.need (.f2 45 (.us .int 64 (.at .rows 1) (.f2 40 (.at .int 6) (.int 1)) (.at .int 5) (.int 0)) (.int (-(0 + 1))))
    .tt)))))))))))) (.imp (.f2 47 (.at .int 2) (.at .int 6)) (.need (.f2 45 (.us .int 64 (.at .rows 1) (.at .int 2) (.at .int 5) (.int 0)) (.int (-(0 +
    1)))) .tt))))))))))))
theorem ixm_vc : vcOf Try.prog ixmCx 10 80 ixmCtr = ixmVc := by kernel_rfl
-- END VC ixm
-- BEGIN VC mark
def markVc : VC := (.imp (.f2 47 (.int 0) (.us .int 20 (.at .g 1) (.int 0) (.int 0) (.int 0))) (.imp (.f2 47 (.us .int 20 (.at .g 1) (.int 0) (.int 0) (.int 0)) (.int
    4611686018427387904)) (.imp (.f2 47 (.us .int 71 (.at .g 1) (.int 0) (.int 0) (.int 0)) (.int 1000000)) (.all 2 .int (.all 3 .int (.all 4 .int
    (.all 5 .rows (.all 6 .int (.all 7 .int (.all 8 .int (.imp (.f2 47 (.int 0) (.at .int 3)) (.imp (.f2 47 (.at .int 3) (.f1 32 (.at .rows 5))) (.imp
    (.f2 47 (.at .int 3) (.int 65534)) (.imp (.f2 47 (.at .int 3) (.at .int 4)) (.imp (.us .bool 41 (.at .rows 5) (.at .int 3) (.int 0) (.int 0)) (.imp
    (.f2 155 (.us .rows 21 (.at .g 1) (.int 0) (.int 0) (.int 0)) (.f2 115 (.at .rows 5) (.at .int 3))) (.all 9 .rows (.imp (.f2 47 (.int 0) (.at .int
    7)) (.imp (.f2 47 (.at .int 7) (.f1 32 (.at .rows 9))) (.imp (.f2 47 (.at .int 7) (.at .int 8)) (.imp (.us .bool 67 (.at .rows 9) (.at .int 7) (.at
    .g 1) (.int 0)) (.imp (.f2 45 (.at .int 7) (.us .int 71 (.at .g 1) (.int 0) (.int 0) (.int 0))) (.need (.f1 23 (.f2 40 (.us .int 20 (.at .g 1)
    (.int 0) (.int 0) (.int 0)) (.int 1))) (.all 10 .int (.all 11 .int (.all 12 .rows (.imp (.f2 47 (.at .int 3) (.f1 32 (.at .rows 12))) (.imp (.f2
    155 (.f2 115 (.at .rows 12) (.at .int 3)) (.f2 115 (.at .rows 5) (.at .int 3))) (.all 13 .int (.imp (.f2 47 (.int 0) (.at .int 13)) (.need (.f2 47
    (.f2 42 (.f2 40 (.at .int 7) (.int 1)) (.int 32)) (.int 140737488355328)) (.all 14 .int (.all 15 .int (.imp (.f2 47 (.f2 40 (.at .int 7) (.int 1))
    (.at .int 15)) (.imp (.f2 50 (.f2 47 (.int 0) (.at .int 14)) (.f2 45 (.f2 40 (.at .int 7) (.int 1)) (.int 0))) (.need (.us .bool 41 (.at .rows 12)
    (.at .int 3) (.int 0) (.int 0)) (.need (.f2 47 (.int 0) (.us .int 58 (.f2 121 (.f2 115 (.at .rows 9) (.at .int 7)) (.f2 124 (.f2 122 (.f2 40 (.us
    .int 20 (.at .g 1) (.int 0) (.int 0) (.int 0)) (.int 1)) (.f2 122 (.at .int 10) (.f2 122 (.at .int 3) (.f2 122 (.at .int 11) (.f1 152 (.int 0))))))
    (.f1 154 (.int 0)))) (.f2 40 (.us .int 20 (.at .g 1) (.int 0) (.int 0) (.int 0)) (.int 1)) (.int 0) (.int 0))) (.all 16 .int (.imp (.f2 47 (.int 0)
    (.at .int 16)) (.imp (.f2 47 (.at .int 16) (.us .int 58 (.f2 121 (.f2 115 (.at .rows 9) (.at .int 7)) (.f2 124 (.f2 122 (.f2 40 (.us .int 20 (.at
    .g 1) (.int 0) (.int 0) (.int 0)) (.int 1)) (.f2 122 (.at .int 10) (.f2 122 (.at .int 3) (.f2 122 (.at .int 11) (.f1 152 (.int 0)))))) (.f1 154
    (.int 0)))) (.f2 40 (.us .int 20 (.at .g 1) (.int 0) (.int 0) (.int 0)) (.int 1)) (.int 0) (.int 0))) (.need (.f2 46 (.at .int 16) (.f2 40 (.at
    .int 7) (.int 1))) (.need (.f2 46 (.at .int 16) (.f2 40 (.f1 32 (.f2 115 (.at .rows 9) (.at .int 7))) (.int 1))) (.need (.f1 23 (.f2 40 (.us .int
    20 (.at .g 1) (.int 0) (.int 0) (.int 0)) (.int (-(14 + 1))))) (.and (.imp (.f2 47 (.f3 112 (.f2 121 (.f2 115 (.at .rows 9) (.at .int 7)) (.f2 124
    (.f2 122 (.f2 40 (.us .int 20 (.at .g 1) (.int 0) (.int 0) (.int 0)) (.int 1)) (.f2 122 (.at .int 10) (.f2 122 (.at .int 3) (.f2 122 (.at .int 11)
    (.f1 152 (.int 0)))))) (.f1 154 (.int 0)))) (.at .int 16) (.int 0)) (.f2 40 (.us .int 20 (.at .g 1) (.int 0) (.int 0) (.int 0)) (.int (-(14 +
    1))))) (.need (.f1 23 (.f2 40 (.at .int 16) (.int 1))) (.need (.f2 47 (.int 0) (.f2 41 (.f2 40 (.at .int 7) (.int 1)) (.f2 40 (.at .int 16) (.int
    1)))) (.need (.f2 46 (.f2 41 (.f2 40 (.at .int 7) (.int 1)) (.f2 40 (.at .int 16) (.int 1))) (.f2 41 (.f2 40 (.at .int 7) (.int 1)) (.at .int 16)))
    (.need (.f2 47 (.int 0) (.f2 40 (.at .int 16) (.int 1))) (.need (.f2 47 (.f2 40 (.at .int 16) (.int 1)) (.us .int 58 (.f2 121 (.f2 115 (.at .rows
    9) (.at .int 7)) (.f2 124 (.f2 122 (.f2 40 (.us .int 20 (.at .g 1) (.int 0) (.int 0) (.int 0)) (.int 1)) (.f2 122 (.at .int 10) (.f2 122 (.at .int
    3) (.f2 122 (.at .int 11) (.f1 152 (.int 0)))))) (.f1 154 (.int 0)))) (.f2 40 (.us .int 20 (.at .g 1) (.int 0) (.int 0) (.int 0)) (.int 1)) (.int
    0) (.int 0))) .tt)))))) (.imp (.f2 46 (.f2 40 (.us .int 20 (.at .g 1) (.int 0) (.int 0) (.int 0)) (.int (-(14 + 1)))) (.f3 112 (.f2 121 (.f2 115
    (.at .rows 9) (.at .int 7)) (.f2 124 (.f2 122 (.f2 40 (.us .int 20 (.at .g 1) (.int 0) (.int 0) (.int 0)) (.int 1)) (.f2 122 (.at .int 10) (.f2 122
    (.at .int 3) (.f2 122 (.at .int 11) (.f1 152 (.int 0)))))) (.f1 154 (.int 0)))) (.at .int 16) (.int 0))) (.need (.f2 47 (.int 0) (.f2 40 (.at .int
    7) (.int 1))) (.need (.f2 47 (.int 0) (.at .int 15)) (.need (.f2 47 (.at .int 16) (.f2 40 (.at .int 7) (.int 1))) (.need (.f2 47 (.int 0) (.f2 40
    (.f1 32 (.f2 115 (.at .rows 9) (.at .int 7))) (.int 1))) (.need (.f2 47 (.int 0) (.f2 41 (.f2 40 (.at .int 7) (.int 1)) (.at .int 16))) (.need (.f2
    47 (.f2 41 (.f2 40 (.at .int 7) (.int 1)) (.at .int 16)) (.f2 41 (.at .int 15) (.at .int 16))) (.need (.f2 47 (.f2 40 (.at .int 16) (.f2 51 (.f2 41
    (.f2 40 (.at .int 7) (.int 1)) (.at .int 16)) (.f2 40 (.at .int 7) (.int 1)))) (.f2 40 (.f1 32 (.f2 115 (.at .rows 9) (.at .int 7))) (.int 1)))
    (.need (.f2 47 (.int 0) (.f2 51 (.f2 41 (.f2 40 (.at .int 7) (.int 1)) (.at .int 16)) (.f2 40 (.at .int 7) (.int 1)))) (.need (.f2 47 (.f2 51 (.f2
    41 (.f2 40 (.at .int 7) (.int 1)) (.at .int 16)) (.f2 40 (.at .int 7) (.int 1))) (.f2 40 (.at .int 7) (.int 1))) (.need (.f2 47 (.int 0) (.f2 41
    (.f2 40 (.at .int 7) (.int 1)) (.f2 51 (.f2 41 (.f2 40 (.at .int 7) (.int 1)) (.at .int 16)) (.f2 40 (.at .int 7) (.int 1))))) (.need (.f2 47 (.f2
    41 (.f2 40 (.at .int 7) (.int 1)) (.f2 51 (.f2 41 (.f2 40 (.at .int 7) (.int 1)) (.at .int 16)) (.f2 40 (.at .int 7) (.int 1)))) (.f2 41 (.at .int
    15) (.f2 51 (.f2 41 (.f2 40 (.at .int 7) (.int 1)) (.at .int 16)) (.f2 40 (.at .int 7) (.int 1))))) (.need (.f2 47 (.f2 40 (.f2 51 (.f2 41 (.f2 40
    (.at .int 7) (.int 1)) (.at .int 16)) (.f2 40 (.at .int 7) (.int 1))) (.f2 41 (.f2 40 (.at .int 7) (.int 1)) (.f2 51 (.f2 41 (.f2 40 (.at .int 7)
    (.int 1)) (.at .int 16)) (.f2 40 (.at .int 7) (.int 1))))) (.f2 40 (.f1 32 (.f2 115 (.f2 121 (.f2 115 (.at .rows 9) (.at .int 7)) (.f2 124 (.f2 122
    (.f2 40 (.us .int 20 (.at .g 1) (.int 0) (.int 0) (.int 0)) (.int 1)) (.f2 122 (.at .int 10) (.f2 122 (.at .int 3) (.f2 122 (.at .int 11) (.f1 152
    (.int 0)))))) (.f1 154 (.int 0)))) (.int 0))) (.f2 40 (.f1 32 (.f2 115 (.f2 115 (.f2 118 (.f2 121 (.f2 115 (.at .rows 9) (.at .int 7)) (.f2 124
    (.f2 122 (.f2 40 (.us .int 20 (.at .g 1) (.int 0) (.int 0) (.int 0)) (.int 1)) (.f2 122 (.at .int 10) (.f2 122 (.at .int 3) (.f2 122 (.at .int 11)
    (.f1 152 (.int 0)))))) (.f1 154 (.int 0)))) (.at .int 16)) (.f2 51 (.f2 41 (.f2 40 (.at .int 7) (.int 1)) (.at .int 16)) (.f2 40 (.at .int 7) (.int
    1)))) (.f2 51 (.f2 41 (.f2 40 (.at .int 7) (.int 1)) (.at .int 16)) (.f2 40 (.at .int 7) (.int 1))))) (.f1 32 (.f2 118 (.f2 121 (.f2 115 (.at .rows
    9) (.at .int 7)) (.f2 124 (.f2 122 (.f2 40 (.us .int 20 (.at .g 1) (.int 0) (.int 0) (.int 0)) (.int 1)) (.f2 122 (.at .int 10) (.f2 122 (.at .int
    3) (.f2 122 (.at .int 11) (.f1 152 (.int 0)))))) (.f1 154 (.int 0)))) (.f2 51 (.f2 41 (.f2 40 (.at .int 7) (.int 1)) (.at .int 16)) (.f2 40 (.at
    .int 7) (.int 1)))))))) (.need (.f2 47 (.f2 51 (.f2 41 (.f2 40 (.at .int 7) (.int 1)) (.at .int 16)) (.f2 40 (.at .int 7) (.int 1))) (.at .int 15))
    (.need (.f2 47 (.f2 40 (.at .int 7) (.int 1)) (.f2 40 (.f1 32 (.f2 115 (.at .rows 9) (.at .int 7))) (.int 1))) (.need (.f2 47 (.f2 51 (.f2 41 (.f2
    40 (.at .int 7) (.int 1)) (.at .int 16)) (.f2 40 (.at .int 7) (.int 1))) (.f2 40 (.f1 32 (.f2 115 (.f2 121 (.f2 115 (.f2 121 (.f2 115 (.at .rows 9)
    (.at .int 7)) (.f2 124 (.f2 122 (.f2 40 (.us .int 20 (.at .g 1) (.int 0) (.int 0) (.int 0)) (.int 1)) (.f2 122 (.at .int 10) (.f2 122 (.at .int 3)
    (.f2 122 (.at .int 11) (.f1 152 (.int 0)))))) (.f1 154 (.int 0)))) (.int 0)) (.f2 121 (.f2 115 (.f2 115 (.f2 118 (.f2 121 (.f2 115 (.at .rows 9)
    (.at .int 7)) (.f2 124 (.f2 122 (.f2 40 (.us .int 20 (.at .g 1) (.int 0) (.int 0) (.int 0)) (.int 1)) (.f2 122 (.at .int 10) (.f2 122 (.at .int 3)
    (.f2 122 (.at .int 11) (.f1 152 (.int 0)))))) (.f1 154 (.int 0)))) (.at .int 16)) (.f2 51 (.f2 41 (.f2 40 (.at .int 7) (.int 1)) (.at .int 16))
    (.f2 40 (.at .int 7) (.int 1)))) (.f2 51 (.f2 41 (.f2 40 (.at .int 7) (.int 1)) (.at .int 16)) (.f2 40 (.at .int 7) (.int 1)))) (.f2 118 (.f2 121
    (.f2 115 (.at .rows 9) (.at .int 7)) (.f2 124 (.f2 122 (.f2 40 (.us .int 20 (.at .g 1) (.int 0) (.int 0) (.int 0)) (.int 1)) (.f2 122 (.at .int 10)
    (.f2 122 (.at .int 3) (.f2 122 (.at .int 11) (.f1 152 (.int 0)))))) (.f1 154 (.int 0)))) (.f2 51 (.f2 41 (.f2 40 (.at .int 7) (.int 1)) (.at .int
    16)) (.f2 40 (.at .int 7) (.int 1)))))) (.f2 51 (.f2 41 (.f2 40 (.at .int 7) (.int 1)) (.at .int 16)) (.f2 40 (.at .int 7) (.int 1))))) (.f2 40
    (.f1 32 (.f2 127 (.f2 41 (.f2 40 (.at .int 7) (.int 1)) (.f2 51 (.f2 41 (.f2 40 (.at .int 7) (.int 1)) (.at .int 16)) (.f2 40 (.at .int 7) (.int
    1)))) (.f2 122 (.int 0) (.f2 122 (.int (-(0 + 1))) (.f2 122 (.int 0) (.f2 122 (.int 0) (.f1 152 (.int 0)))))))) (.f1 32 (.f2 118 (.f2 121 (.f2 115
    (.f2 121 (.f2 115 (.at .rows 9) (.at .int 7)) (.f2 124 (.f2 122 (.f2 40 (.us .int 20 (.at .g 1) (.int 0) (.int 0) (.int 0)) (.int 1)) (.f2 122 (.at
    .int 10) (.f2 122 (.at .int 3) (.f2 122 (.at .int 11) (.f1 152 (.int 0)))))) (.f1 154 (.int 0)))) (.int 0)) (.f2 121 (.f2 115 (.f2 115 (.f2 118
    (.f2 121 (.f2 115 (.at .rows 9) (.at .int 7)) (.f2 124 (.f2 122 (.f2 40 (.us .int 20 (.at .g 1) (.int 0) (.int 0) (.int 0)) (.int 1)) (.f2 122 (.at
    .int 10) (.f2 122 (.at .int 3) (.f2 122 (.at .int 11) (.f1 152 (.int 0)))))) (.f1 154 (.int 0)))) (.at .int 16)) (.f2 51 (.f2 41 (.f2 40 (.at .int
    7) (.int 1)) (.at .int 16)) (.f2 40 (.at .int 7) (.int 1)))) (.f2 51 (.f2 41 (.f2 40 (.at .int 7) (.int 1)) (.at .int 16)) (.f2 40 (.at .int 7)
    (.int 1)))) (.f2 118 (.f2 121 (.f2 115 (.at .rows 9) (.at .int 7)) (.f2 124 (.f2 122 (.f2 40 (.us .int 20 (.at .g 1) (.int 0) (.int 0) (.int 0))
    (.int 1)) (.f2 122 (.at .int 10) (.f2 122 (.at .int 3) (.f2 122 (.at .int 11) (.f1 152 (.int 0)))))) (.f1 154 (.int 0)))) (.f2 51 (.f2 41 (.f2 40
    (.at .int 7) (.int 1)) (.at .int 16)) (.f2 40 (.at .int 7) (.int 1)))))) (.f2 40 (.f2 51 (.f2 41 (.f2 40 (.at .int 7) (.int 1)) (.at .int 16)) (.f2
    40 (.at .int 7) (.int 1))) (.f2 41 (.f2 40 (.at .int 7) (.int 1)) (.f2 51 (.f2 41 (.f2 40 (.at .int 7) (.int 1)) (.at .int 16)) (.f2 40 (.at .int
    7) (.int 1)))))))))) (.need (.f2 155 (.f2 115 (.f2 121 (.f2 115 (.f2 121 (.f2 115 (.f2 121 (.f2 115 (.at .rows 9) (.at .int 7)) (.f2 124 (.f2 122
    (.f2 40 (.us .int 20 (.at .g 1) (.int 0) (.int 0) (.int 0)) (.int 1)) (.f2 122 (.at .int 10) (.f2 122 (.at .int 3) (.f2 122 (.at .int 11) (.f1 152
    (.int 0)))))) (.f1 154 (.int 0)))) (.int 0)) (.f2 121 (.f2 115 (.f2 115 (.f2 118 (.f2 121 (.f2 115 (.at .rows 9) (.at .int 7)) (.f2 124 (.f2 122
    (.f2 40 (.us .int 20 (.at .g 1) (.int 0) (.int 0) (.int 0)) (.int 1)) (.f2 122 (.at .int 10) (.f2 122 (.at .int 3) (.f2 122 (.at .int 11) (.f1 152
    (.int 0)))))) (.f1 154 (.int 0)))) (.at .int 16)) (.f2 51 (.f2 41 (.f2 40 (.at .int 7) (.int 1)) (.at .int 16)) (.f2 40 (.at .int 7) (.int 1))))
    (.f2 51 (.f2 41 (.f2 40 (.at .int 7) (.int 1)) (.at .int 16)) (.f2 40 (.at .int 7) (.int 1)))) (.f2 118 (.f2 121 (.f2 115 (.at .rows 9) (.at .int
    7)) (.f2 124 (.f2 122 (.f2 40 (.us .int 20 (.at .g 1) (.int 0) (.int 0) (.int 0)) (.int 1)) (.f2 122 (.at .int 10) (.f2 122 (.at .int 3) (.f2 122
    (.at .int 11) (.f1 152 (.int 0)))))) (.f1 154 (.int 0)))) (.f2 51 (.f2 41 (.f2 40 (.at .int 7) (.int 1)) (.at .int 16)) (.f2 40 (.at .int 7) (.int
    1)))))) (.f2 51 (.f2 41 (.f2 40 (.at .int 7) (.int 1)) (.at .int 16)) (.f2 40 (.at .int 7) (.int 1)))) (.f2 121 (.f2 127 (.f2 41 (.f2 40 (.at .int
    7) (.int 1)) (.f2 51 (.f2 41 (.f2 40 (.at .int 7) (.int 1)) (.at .int 16)) (.f2 40 (.at .int 7) (.int 1)))) (.f2 122 (.int 0) (.f2 122 (.int (-(0 +
    1))) (.f2 122 (.int 0) (.f2 122 (.int 0) (.f1 152 (.int 0))))))) (.f2 118 (.f2 121 (.f2 115 (.f2 121 (.f2 115 (.at .rows 9) (.at .int 7)) (.f2 124
    (.f2 122 (.f2 40 (.us .int 20 (.at .g 1) (.int 0) (.int 0) (.int 0)) (.int 1)) (.f2 122 (.at .int 10) (.f2 122 (.at .int 3) (.f2 122 (.at .int 11)
    (.f1 152 (.int 0)))))) (.f1 154 (.int 0)))) (.int 0)) (.f2 121 (.f2 115 (.f2 115 (.f2 118 (.f2 121 (.f2 115 (.at .rows 9) (.at .int 7)) (.f2 124
    (.f2 122 (.f2 40 (.us .int 20 (.at .g 1) (.int 0) (.int 0) (.int 0)) (.int 1)) (.f2 122 (.at .int 10) (.f2 122 (.at .int 3) (.f2 122 (.at .int 11)
    (.f1 152 (.int 0)))))) (.f1 154 (.int 0)))) (.at .int 16)) (.f2 51 (.f2 41 (.f2 40 (.at .int 7) (.int 1)) (.at .int 16)) (.f2 40 (.at .int 7) (.int
    1)))) (.f2 51 (.f2 41 (.f2 40 (.at .int 7) (.int 1)) (.at .int 16)) (.f2 40 (.at .int 7) (.int 1)))) (.f2 118 (.f2 121 (.f2 115 (.at .rows 9) (.at
    .int 7)) (.f2 124 (.f2 122 (.f2 40 (.us .int 20 (.at .g 1) (.int 0) (.int 0) (.int 0)) (.int 1)) (.f2 122 (.at .int 10) (.f2 122 (.at .int 3) (.f2
    122 (.at .int 11) (.f1 152 (.int 0)))))) (.f1 154 (.int 0)))) (.f2 51 (.f2 41 (.f2 40 (.at .int 7) (.int 1)) (.at .int 16)) (.f2 40 (.at .int 7)
    (.int 1)))))) (.f2 40 (.f2 51 (.f2 41 (.f2 40 (.at .int 7) (.int 1)) (.at .int 16)) (.f2 40 (.at .int 7) (.int 1))) (.f2 41 (.f2 40 (.at .int 7)
    (.int 1)) (.f2 51 (.f2 41 (.f2 40 (.at .int 7) (.int 1)) (.at .int 16)) (.f2 40 (.at .int 7) (.int 1)))))))) (.f2 51 (.f2 41 (.f2 40 (.at .int 7)
    (.int 1)) (.at .int 16)) (.f2 40 (.at .int 7) (.int 1)))) (.f2 115 (.f2 118 (.f2 121 (.f2 115 (.at .rows 9) (.at .int 7)) (.f2 124 (.f2 122 (.f2 40
    (.us .int 20 (.at .g 1) (.int 0) (.int 0) (.int 0)) (.int 1)) (.f2 122 (.at .int 10) (.f2 122 (.at .int 3) (.f2 122 (.at .int 11) (.f1 152 (.int
    0)))))) (.f1 154 (.int 0)))) (.at .int 16)) (.f2 41 (.f2 40 (.at .int 7) (.int 1)) (.at .int 16)))) (.need (.f2 45 (.us .int 20 (.us .g 61 (.us .g
    57 (.at .g 1) (.f2 40 (.us .int 20 (.at .g 1) (.int 0) (.int 0) (.int 0)) (.int 1)) (.at .rows 12) (.at .int 3)) (.at .int 16) (.int 0) (.int 0))
    (.int 0) (.int 0) (.int 0)) (.f2 40 (.us .int 20 (.at .g 1) (.int 0) (.int 0) (.int 0)) (.int 1))) (.need (.f2 155 (.us .g 62 (.at .g 1) (.int 0)
    (.int 0) (.int 0)) (.us .g 22 (.us .g 61 (.us .g 57 (.at .g 1) (.f2 40 (.us .int 20 (.at .g 1) (.int 0) (.int 0) (.int 0)) (.int 1)) (.at .rows 12)
    (.at .int 3)) (.at .int 16) (.int 0) (.int 0)) (.at .rows 5) (.at .int 3) (.int 0))) (.need (.f2 45 (.us .int 63 (.at .g 1) (.int 0) (.int 0) (.int
    0)) (.f2 40 (.us .int 20 (.at .g 1) (.int 0) (.int 0) (.int 0)) (.int 1))) .tt))))))))))))))))))))))))))))))))))))))))))))))))))))))))))))))))
theorem mark_vc : vcOf Try.prog markCx 10 37 markCtr = markVc := by kernel_rfl
-- END VC mark
-- BEGIN VC back
def backVc : VC := (.imp (.f2 47 (.us .int 71 (.at .g 1) (.int 0) (.int 0) (.int 0)) (.int 1000000)) (.all 3 .int (.imp (.f2 47 (.int 0) (.at .int 3)) (.all 4 .int (.all
    5 .int (.all 6 .int (.all 7 .rows (.all 8 .int (.all 9 .int (.all 10 .int (.imp (.f2 47 (.int 0) (.at .int 5)) (.imp (.f2 47 (.at .int 5) (.f1 32
    (.at .rows 7))) (.imp (.f2 47 (.at .int 5) (.int 65534)) (.imp (.f2 47 (.at .int 5) (.at .int 6)) (.imp (.us .bool 41 (.at .rows 7) (.at .int 5)
    (.int 0) (.int 0)) (.imp (.f2 155 (.us .rows 21 (.at .g 1) (.int 0) (.int 0) (.int 0)) (.f2 115 (.at .rows 7) (.at .int 5))) (.all 11 .rows (.imp
    (.f2 47 (.int 0) (.at .int 9)) (.imp (.f2 47 (.at .int 9) (.f1 32 (.at .rows 11))) (.imp (.f2 47 (.at .int 9) (.at .int 10)) (.imp (.us .bool 67
    (.at .rows 11) (.at .int 9) (.at .g 1) (.int 0)) (.imp (.f2 45 (.at .int 9) (.us .int 71 (.at .g 1) (.int 0) (.int 0) (.int 0))) (.need (.f2 47
    (.at .int 9) (.int 1000000)) (.and (.imp (.f2 46 (.us .int 64 (.at .rows 11) (.at .int 9) (.at .int 2) (.int 0)) (.int 0)) (.need (.f2 155 (.f2 115
    (.at .rows 11) (.at .int 9)) (.f2 115 (.at .rows 11) (.at .int 9))) (.need (.f2 155 (.us .g 68 (.at .g 1) (.at .int 2) (.int 0) (.int 0)) (.us .g
    22 (.at .g 1) (.at .rows 7) (.at .int 5) (.int 0))) (.need (.f2 45 (.us .int 69 (.at .g 1) (.at .int 2) (.int 0) (.int 0)) (.int 1)) .tt)))) (.imp
    (.f2 47 (.int 0) (.us .int 64 (.at .rows 11) (.at .int 9) (.at .int 2) (.int 0))) (.need (.f2 46 (.us .int 64 (.at .rows 11) (.at .int 9) (.at .int
    2) (.int 0)) (.at .int 9)) (.all 12 .rows (.imp (.f2 47 (.int 0) (.f3 112 (.at .rows 11) (.us .int 64 (.at .rows 11) (.at .int 9) (.at .int 2)
    (.int 0)) (.int 2))) (.imp (.f2 47 (.f3 112 (.at .rows 11) (.us .int 64 (.at .rows 11) (.at .int 9) (.at .int 2) (.int 0)) (.int 2)) (.f1 32 (.at
    .rows 12))) (.imp (.f2 47 (.f3 112 (.at .rows 11) (.us .int 64 (.at .rows 11) (.at .int 9) (.at .int 2) (.int 0)) (.int 2)) (.int 65534)) (.imp
    (.f2 47 (.f3 112 (.at .rows 11) (.us .int 64 (.at .rows 11) (.at .int 9) (.at .int 2) (.int 0)) (.int 2)) (.f3 112 (.at .rows 11) (.us .int 64 (.at
    .rows 11) (.at .int 9) (.at .int 2) (.int 0)) (.int 3))) (.imp (.f2 155 (.f2 115 (.at .rows 12) (.f3 112 (.at .rows 11) (.us .int 64 (.at .rows 11)
    (.at .int 9) (.at .int 2) (.int 0)) (.int 2))) (.us .rows 65 (.at .g 1) (.us .int 64 (.at .rows 11) (.at .int 9) (.at .int 2) (.int 0)) (.int 0)
    (.int 0))) (.imp (.us .bool 41 (.at .rows 12) (.f3 112 (.at .rows 11) (.us .int 64 (.at .rows 11) (.at .int 9) (.at .int 2) (.int 0)) (.int 2))
    (.int 0) (.int 0)) (.need (.f2 46 (.us .int 64 (.at .rows 11) (.at .int 9) (.at .int 2) (.int 0)) (.f1 32 (.at .rows 11))) (.all 13 .int (.all 14
    .int (.all 15 .rows (.imp (.f2 47 (.f3 112 (.at .rows 11) (.us .int 64 (.at .rows 11) (.at .int 9) (.at .int 2) (.int 0)) (.int 2)) (.f1 32 (.at
    .rows 15))) (.imp (.f2 155 (.f2 115 (.at .rows 15) (.f3 112 (.at .rows 11) (.us .int 64 (.at .rows 11) (.at .int 9) (.at .int 2) (.int 0)) (.int
    2))) (.f2 115 (.at .rows 12) (.f3 112 (.at .rows 11) (.us .int 64 (.at .rows 11) (.at .int 9) (.at .int 2) (.int 0)) (.int 2)))) (.need (.f1 23
    (.f2 40 (.us .int 64 (.at .rows 11) (.at .int 9) (.at .int 2) (.int 0)) (.int 1))) (.need (.f2 47 (.int 0) (.at .int 10)) (.need (.f2 47 (.int 0)
    (.f2 40 (.us .int 64 (.at .rows 11) (.at .int 9) (.at .int 2) (.int 0)) (.int 1))) (.need (.f2 47 (.f2 40 (.us .int 64 (.at .rows 11) (.at .int 9)
    (.at .int 2) (.int 0)) (.int 1)) (.at .int 9)) (.need (.f2 47 (.int 0) (.f2 41 (.at .int 9) (.f2 40 (.us .int 64 (.at .rows 11) (.at .int 9) (.at
    .int 2) (.int 0)) (.int 1)))) (.need (.f2 47 (.f2 41 (.at .int 9) (.f2 40 (.us .int 64 (.at .rows 11) (.at .int 9) (.at .int 2) (.int 0)) (.int
    1))) (.f2 41 (.at .int 10) (.f2 40 (.us .int 64 (.at .rows 11) (.at .int 9) (.at .int 2) (.int 0)) (.int 1)))) (.need (.f2 47 (.f2 40 (.f2 40 (.us
    .int 64 (.at .rows 11) (.at .int 9) (.at .int 2) (.int 0)) (.f2 41 (.at .int 9) (.f2 40 (.us .int 64 (.at .rows 11) (.at .int 9) (.at .int 2) (.int
    0)) (.int 1)))) (.int 1)) (.f1 32 (.at .rows 11))) (.need (.f2 47 (.f2 40 (.us .int 64 (.at .rows 11) (.at .int 9) (.at .int 2) (.int 0)) (.int 1))
    (.at .int 10)) (.need (.f2 47 (.f2 40 (.us .int 64 (.at .rows 11) (.at .int 9) (.at .int 2) (.int 0)) (.int 1)) (.f2 40 (.f1 32 (.f2 115 (.at .rows
    11) (.f2 40 (.us .int 64 (.at .rows 11) (.at .int 9) (.at .int 2) (.int 0)) (.int 1)))) (.f2 40 (.f1 32 (.f2 127 (.f2 41 (.at .int 9) (.f2 40 (.us
    .int 64 (.at .rows 11) (.at .int 9) (.at .int 2) (.int 0)) (.int 1))) (.f2 122 (.int 0) (.f2 122 (.int (-(0 + 1))) (.f2 122 (.int 0) (.f2 122 (.int
    0) (.f1 152 (.int 0)))))))) (.f1 32 (.f2 118 (.at .rows 11) (.f2 40 (.f2 40 (.us .int 64 (.at .rows 11) (.at .int 9) (.at .int 2) (.int 0)) (.f2 41
    (.at .int 9) (.f2 40 (.us .int 64 (.at .rows 11) (.at .int 9) (.at .int 2) (.int 0)) (.int 1)))) (.int 1))))))) (.need (.f2 155 (.f2 115 (.f2 121
    (.f2 115 (.at .rows 11) (.f2 40 (.us .int 64 (.at .rows 11) (.at .int 9) (.at .int 2) (.int 0)) (.int 1))) (.f2 121 (.f2 127 (.f2 41 (.at .int 9)
    (.f2 40 (.us .int 64 (.at .rows 11) (.at .int 9) (.at .int 2) (.int 0)) (.int 1))) (.f2 122 (.int 0) (.f2 122 (.int (-(0 + 1))) (.f2 122 (.int 0)
    (.f2 122 (.int 0) (.f1 152 (.int 0))))))) (.f2 118 (.at .rows 11) (.f2 40 (.f2 40 (.us .int 64 (.at .rows 11) (.at .int 9) (.at .int 2) (.int 0))
    (.f2 41 (.at .int 9) (.f2 40 (.us .int 64 (.at .rows 11) (.at .int 9) (.at .int 2) (.int 0)) (.int 1)))) (.int 1))))) (.f2 40 (.us .int 64 (.at
    .rows 11) (.at .int 9) (.at .int 2) (.int 0)) (.int 1))) (.f2 115 (.at .rows 11) (.f2 40 (.us .int 64 (.at .rows 11) (.at .int 9) (.at .int 2)
    (.int 0)) (.int 1)))) (.need (.us .bool 41 (.at .rows 15) (.f3 112 (.at .rows 11) (.us .int 64 (.at .rows 11) (.at .int 9) (.at .int 2) (.int 0))
    (.int 2)) (.int 0) (.int 0)) (.need (.f2 45 (.us .int 20 (.us .g 66 (.at .g 1) (.f2 40 (.us .int 64 (.at .rows 11) (.at .int 9) (.at .int 2) (.int
    0)) (.int 1)) (.int 0) (.int 0)) (.int 0) (.int 0) (.int 0)) (.us .int 20 (.at .g 1) (.int 0) (.int 0) (.int 0))) (.need (.f2 155 (.us .g 68 (.at
    .g 1) (.at .int 2) (.int 0) (.int 0)) (.us .g 22 (.us .g 66 (.at .g 1) (.f2 40 (.us .int 64 (.at .rows 11) (.at .int 9) (.at .int 2) (.int 0))
    (.int 1)) (.int 0) (.int 0)) (.at .rows 15) (.f3 112 (.at .rows 11) (.us .int 64 (.at .rows 11) (.at .int 9) (.at .int 2) (.int 0)) (.int 2)) (.int
    0))) (.need (.f2 45 (.us .int 69 (.at .g 1) (.at .int 2) (.int 0) (.int 0)) (.int 0)) .tt)))))))))))))))))))))))))))))))))))))))))))))))))))))
theorem back_vc : vcOf Try.prog backCx 10 38 backCtr = backVc := by kernel_rfl
-- END VC back
-- BEGIN VC act
def actVc : VC := (.imp (.f2 47 (.int 0) (.us .int 20 (.at .g 1) (.int 0) (.int 0) (.int 0))) (.imp (.f2 47 (.us .int 20 (.at .g 1) (.int 0) (.int 0) (.int 0)) (.int
    4611686018427387904)) (.imp (.f2 47 (.us .int 71 (.at .g 1) (.int 0) (.int 0) (.int 0)) (.int 1000000)) (.all 5 .int (.imp (.f2 47 (.int 0) (.at
    .int 5)) (.and (.imp (.f2 45 (.at .int 2) (.int 1)) (.and (.imp (.f1 2 (.us .bool 24 (.at .g 1) (.int 0) (.int 0) (.int 0))) (.need (.f2 155 (.us
    .g 73 (.at .g 1) (.at .int 2) (.at .int 3) (.at .int 4)) (.us .g 25 (.at .g 1) (.int 0) (.int 0) (.int 0))) (.need (.f2 45 (.us .int 72 (.at .g 1)
    (.at .int 2) (.at .int 3) (.at .int 4)) (.int (-(0 + 1)))) .tt))) (.imp (.f1 2 (.f1 2 (.us .bool 24 (.at .g 1) (.int 0) (.int 0) (.int 0)))) (.need
    (.f2 155 (.us .g 73 (.at .g 1) (.at .int 2) (.at .int 3) (.at .int 4)) (.us .g 25 (.at .g 1) (.int 0) (.int 0) (.int 0))) (.need (.f2 45 (.us .int
    72 (.at .g 1) (.at .int 2) (.at .int 3) (.at .int 4)) (.us .int 23 (.at .g 1) (.int 0) (.int 0) (.int 0))) .tt))))) (.imp (.f1 2 (.f2 45 (.at .int
    2) (.int 1))) (.and (.imp (.f2 45 (.at .int 2) (.int 2)) (.need (.f2 155 (.us .g 73 (.at .g 1) (.at .int 2) (.at .int 3) (.at .int 4)) (.us .g 42
    (.at .g 1) (.at .int 3) (.at .int 4) (.int 0))) (.need (.f2 45 (.us .int 72 (.at .g 1) (.at .int 2) (.at .int 3) (.at .int 4)) (.us .int 39 (.at .g
    1) (.at .int 3) (.at .int 4) (.int 0))) .tt))) (.imp (.f1 2 (.f2 45 (.at .int 2) (.int 2))) (.and (.imp (.f2 45 (.at .int 2) (.int 3)) (.need (.f2
    155 (.us .g 73 (.at .g 1) (.at .int 2) (.at .int 3) (.at .int 4)) (.us .g 29 (.at .g 1) (.at .int 3) (.int 0) (.int 0))) (.need (.f2 45 (.us .int
    72 (.at .g 1) (.at .int 2) (.at .int 3) (.at .int 4)) (.us .int 28 (.at .g 1) (.at .int 3) (.int 0) (.int 0))) .tt))) (.imp (.f1 2 (.f2 45 (.at
    .int 2) (.int 3))) (.and (.imp (.f2 45 (.at .int 2) (.int 7)) (.need (.f2 155 (.us .g 73 (.at .g 1) (.at .int 2) (.at .int 3) (.at .int 4)) (.us .g
    62 (.at .g 1) (.int 0) (.int 0) (.int 0))) (.need (.f2 45 (.us .int 72 (.at .g 1) (.at .int 2) (.at .int 3) (.at .int 4)) (.us .int 63 (.at .g 1)
    (.int 0) (.int 0) (.int 0))) .tt))) (.imp (.f1 2 (.f2 45 (.at .int 2) (.int 7))) (.need (.f2 155 (.us .g 73 (.at .g 1) (.at .int 2) (.at .int 3)
    (.at .int 4)) (.at .g 1)) (.need (.f2 45 (.us .int 72 (.at .g 1) (.at .int 2) (.at .int 3) (.at .int 4)) (.int 0)) .tt)))))))))))))))
theorem act_vc : vcOf Try.prog actCx 10 36 actCtr = actVc := by kernel_rfl
-- END VC act
-- PROOFS
theorem clo_ok (S : Sig FL) : CtrOk S Try.prog 58 cloCtr := by
  refine vcOf_sound S (C := cloCx) (fuel := 10) (cx_of trivial ⟨⟨⟨by decide, nn_gh S⟩, trivial⟩, trivial⟩ trivial) fun ρ => ?_
  rw [clo_vc]
  simp only [cloVc, VC.den, SX.den, co_int, co_bool, co_ints, co_rows, co_g, gOf_g, Env.upd, p155, p23, p45, p46, p47, p50, b46, b47, ap2_45, ap1_2, ap1_30, ap1_32, ap1_152, ap1_154, ap2_40, ap2_41, ap2_42, ap2_51i, ap2_115, ap2_118, ap2_121, ap2_122, ap2_124, ap2_127, ap3_112, U.toProp_bool, U.toBool_bool, Bool.not_eq_true', Bool.not_not, beq_eq_false_iff_ne, beq_iff_eq, ne_eq, i64lo, i64hi, U.toInt_int, U.toInts_ints, U.toRows_rows, Int.toNat_zero, toNat1, List.take_zero, Nat.reduceEqDiff, reduceIte, U.rows.injEq, U.g.injEq, U.bool.injEq]
  generalize (ρ 1).toRows = R
  generalize (ρ 2).toInt = n
  intro a1 a2 a3 a5 a4
  refine ⟨fun hb => ⟨by omega, ?_, by omega, trivial⟩, fun hb _ _ => ⟨by omega, fun b c h1 h2 => ⟨by rw [List.length_take]; omega, ?_, trivial⟩⟩⟩
  · have : n.toNat = 0 := by omega
    rw [this]; rfl
  · rw [List.take_take, Nat.min_self]
theorem ixm_ok (S : Sig FL) (hM : MkSig S) : CtrOk S Try.prog 80 ixmCtr := by
  refine vcOf_sound S (C := ixmCx) (fuel := 10) (cx_of trivial ⟨⟨trivial, trivial⟩, trivial⟩ trivial) fun ρ => ?_
  rw [ixm_vc]
  simp only [ixmVc, hM.u64, VC.den, SX.den, co_int, co_bool, co_ints, co_rows, co_g, gOf_g, Env.upd, p155, p23, p45, p46, p47, p50, b46, b47, ap2_45, ap1_2, ap1_30, ap1_32, ap1_152, ap1_154, ap2_40, ap2_41, ap2_42, ap2_51i, ap2_115, ap2_118, ap2_121, ap2_122, ap2_124, ap2_127, ap3_112, U.toProp_bool, U.toBool_bool, Bool.not_eq_true', Bool.not_not, beq_eq_false_iff_ne, beq_iff_eq, ne_eq, i64lo, i64hi, U.toInt_int, U.toInts_ints, U.toRows_rows, Int.toNat_zero, toNat1, List.take_zero, Nat.reduceEqDiff, reduceIte, U.rows.injEq, U.g.injEq, U.bool.injEq]
  generalize (ρ 1).toRows = R
  generalize (ρ 2).toInt = n
  generalize (ρ 5).toInt = num
  intro a1 a2 a3 _
  refine ⟨rfl, fun x k0 k1 k2 => ⟨fun hk => ⟨by omega, fun y _ => ⟨fun hz => ⟨idxR_found k0 hk a2 k2 hz, trivial⟩, fun hz => ⟨by omega, by omega, by omega, by omega, by omega, idxR_step k0 (by omega) k2 hz, trivial⟩⟩⟩, fun hk => ⟨?_, trivial⟩⟩⟩
  have : x = n := by omega
  rw [← this]; exact k2
theorem mark_ok (S : Sig FL) (hS : FlSig S) (hM : MkSig S) : CtrOk S Try.prog 37 markCtr := by
  have hu := unf_gh S hS
  have hf := fld_gh S hS
  refine vcOf_sound S (C := markCx) (fuel := 10) (cx_of ⟨one_spec (by decide) (clo_ok S), trivial⟩ ⟨⟨⟨by decide, hu⟩, ⟨by decide, unm_gh S hS hM⟩, ⟨by decide, ps_gh S hS hM⟩, trivial, ⟨by decide, dr_gh S hM⟩, ⟨by decide, shm_gh S hS hM⟩, ⟨by decide, hf⟩, trivial⟩, trivial⟩ trivial) fun ρ => ?_
  rw [mark_vc]
  simp only [markVc, hS.u20, hS.u21, hS.u22, hS.u41, hM.u57, hM.u58, hM.u61, hM.u62, hM.u63, hM.u67, hM.u71, VC.den, SX.den, co_int, co_bool, co_ints, co_rows, co_g, gOf_g, Env.upd, p155, p23, p45, p46, p47, p50, b46, b47, ap2_45, ap1_2, ap1_30, ap1_32, ap1_152, ap1_154, ap2_40, ap2_41, ap2_42, ap2_51i, ap2_115, ap2_118, ap2_121, ap2_122, ap2_124, ap2_127, ap3_112, U.toProp_bool, U.toBool_bool, Bool.not_eq_true', Bool.not_not, beq_eq_false_iff_ne, beq_iff_eq, ne_eq, i64lo, i64hi, U.toInt_int, U.toInts_ints, U.toRows_rows, Int.toNat_zero, toNat1, List.take_zero, Nat.reduceEqDiff, reduceIte, U.rows.injEq, U.g.injEq, U.bool.injEq]
  generalize gOf (U.co S .g (ρ 1)) = s
  obtain ⟨e, m, last⟩ := s
  dsimp only
  intro b1 b2 b3 b n c R bm nm cm h1 h2 h3 h4 hg he y k0 k1 k2 k3 k4
  subst he
  refine ⟨by omega, fun b' c' R' q1 q2 bb _ => ⟨by omega, fun b2 c2 z1 z2 => ⟨?_, ?_, ?_⟩⟩⟩
  · rw [goodB_iff, q2]; exact goodB_iff.1 hg
  · exact preN_pos _ _
  · intro j j0 j1
    generalize hrow : ([last + 1, b', n, c'] : List Int) = row at *
    have hlast : hd0 row = last + 1 := by rw [← hrow]; rfl
    have hle := preN_le (r := row) (L := last + 1) (by omega) (y.take nm.toNat)
    have hC : (y.take nm.toNat ++ [row]).map hd0 = (m ++ [(last + 1, R.take n.toNat)]).map (·.1) := by
      rw [List.map_append, List.map_append, k3]
      show _ ++ [hd0 row] = _
      rw [hlast]; rfl
    have hpm := preN_M (L := last + 1) hC
    have hin := @preN_in (last + 1) (y.take nm.toNat ++ [row])
    have hat := @preN_at (last + 1) (y.take nm.toNat ++ [row])
    have hyl : (y.take nm.toNat).length = nm.toNat := by rw [List.length_take]; omega
    have hCl : (y.take nm.toNat ++ [row]).length = nm.toNat + 1 := by rw [List.length_append, hyl]; rfl
    rw [hyl] at hle
    generalize hCe : y.take nm.toNat ++ [row] = C at *
    refine ⟨by omega, by omega, by omega, fun hj => ?_, fun hj => ?_⟩
    · have hlt : j < preN C (last + 1) := by
        rcases Int.lt_or_eq_of_le j1 with h | h
        · exact h
        · have := hat (i := j.toNat) (by omega) (by omega)
          exact absurd (show hd0 (C.getD j.toNat []) ≤ last + 1 - 16 by show (C.getD j.toNat []).getD 0 0 ≤ _; omega) this
      repeat' (first | exact trivial | apply And.intro)
      all_goals omega
    · have hje : j = preN C (last + 1) := by
        rcases Int.lt_or_eq_of_le j1 with h | h
        · have : (C.getD j.toNat []).getD 0 0 ≤ last + 1 - 16 := hin (i := j.toNat) (by omega)
          omega
        · exact h
      have hfinal : markS ⟨R.take n.toNat, m, last⟩ = { dropS (pushS ⟨R.take n.toNat, m, last⟩ (last + 1) (R'.take n.toNat)) j with e := R.take n.toNat } := by
        unfold markS
        rw [q2]
        show dropS _ (preM (m ++ [(last + 1, R.take n.toNat)]) (last + 1)) = _
        rw [← hpm, ← hje]; rfl
      have m1 : imin (nm + 1 - j) (nm + 1) = nm + 1 - j := imin_left (by omega)
      rw [m1]
      have hq : (nm + 1 - j).toNat ≤ (C.drop j.toNat).length := by rw [List.length_drop]; omega
      have hml := fun Y Z => mark_list (C := C) (Y := Y) (Z := Z) hq
      rw [List.take_zero] at hml
      have hlen : (List.take (nm + 1 - j).toNat (List.take (nm + 1 - j).toNat (List.drop j.toNat C))).length = (nm + 1 - j).toNat := by
        rw [List.take_take, Nat.min_self, List.length_take]; omega
      repeat' (first | exact trivial | apply And.intro)
      all_goals first
        | omega
        | (simp only [List.length_append, List.length_take, List.length_drop, List.length_replicate, List.length_nil]; omega)
        | exact hml _ _
        | exact hfinal
        | rfl
theorem back_ok (S : Sig FL) (hS : FlSig S) (hM : MkSig S) : CtrOk S Try.prog 38 backCtr := by
  have hu := unf_gh S hS
  have hf := fld_gh S hS
  refine vcOf_sound S (C := backCx) (fuel := 10) (cx_of ⟨one_spec (by decide) (clo_ok S), one_spec (by decide) (ixm_ok S hM), trivial⟩ ⟨⟨⟨by decide, hu⟩, ⟨by decide, unm_gh S hS hM⟩, ⟨by decide, shm_gh S hS hM⟩, ⟨by decide, hf⟩, ⟨by decide, to_gh S hS hM⟩, ⟨by decide, pb_gh S hM⟩, ⟨by decide, ft_gh S hM⟩, ⟨by decide, shm_gh S hS hM⟩, ⟨by decide, hf⟩, trivial⟩, trivial⟩ trivial) fun ρ => ?_
  rw [back_vc]
  simp only [backVc, hS.u20, hS.u21, hS.u22, hS.u41, hM.u64, hM.u65, hM.u66, hM.u67, hM.u68, hM.u69, hM.u71, VC.den, SX.den, co_int, co_bool, co_ints, co_rows, co_g, gOf_g, Env.upd, p155, p23, p45, p46, p47, p50, b46, b47, ap2_45, ap1_2, ap1_30, ap1_32, ap1_152, ap1_154, ap2_40, ap2_41, ap2_42, ap2_51i, ap2_115, ap2_118, ap2_121, ap2_122, ap2_124, ap2_127, ap3_112, U.toProp_bool, U.toBool_bool, Bool.not_eq_true', Bool.not_not, beq_eq_false_iff_ne, beq_iff_eq, ne_eq, i64lo, i64hi, U.toInt_int, U.toInts_ints, U.toRows_rows, Int.toNat_zero, toNat1, List.take_zero, Nat.reduceEqDiff, reduceIte, U.rows.injEq, U.g.injEq, U.bool.injEq]
  generalize gOf (U.co S .g (ρ 1)) = s
  generalize (ρ 2).toInt = num
  obtain ⟨e, m, last⟩ := s
  dsimp only
  intro b3 bx _ b n c R bm nm cm h1 h2 h3 h4 hg he y k0 k1 k2 k3 k4
  subst he
  have hlo := idxR_lo num (y.take nm.toNat)
  have hhi := idxR_hi num (y.take nm.toNat)
  have hyl : (y.take nm.toNat).length = nm.toNat := by rw [List.length_take]; omega
  rw [hyl] at hhi
  have hix := idxR_M (n := num) k3
  generalize idxR num (y.take nm.toNat) = i at *
  refine ⟨by omega, fun hi => ⟨trivial, ?_, ?_, trivial⟩, fun hi => ⟨by omega, fun x x1 x2 x3 xc x4 x5 => ⟨by omega, fun b' c' R' q1 q2 => ?_⟩⟩⟩
  · unfold backS; rw [if_pos (by show idxM num m < 0; omega)]
  · unfold backE; rw [if_pos (by show idxM num m < 0; omega)]
  · generalize (y.getD i.toNat []).getD (Int.toNat 2) 0 = w at *
    have hbs : backS ⟨R.take n.toNat, m, last⟩ num = ⟨atM ⟨R.take n.toNat, m, last⟩ i, m.take (i + 1).toNat, last⟩ := by
      unfold backS
      rw [if_neg (by show ¬ idxM num m < 0; omega)]
      show FL.mk (atM _ (idxM num m)) (m.take (idxM num m + 1).toNat) last = _
      rw [← hix]
    have hbe : backE ⟨R.take n.toNat, m, last⟩ num = 0 := by unfold backE; rw [if_neg (by show ¬ idxM num m < 0; omega)]
    have hgd : goodB R' w = true := by rw [goodB_iff, q2]; exact goodB_iff.1 x5
    have hfin : backS ⟨R.take n.toNat, m, last⟩ num = ⟨R'.take w.toNat, m.take (i + 1).toNat, last⟩ := by rw [hbs, q2, x4]
    have htk : ∀ Z, (y.take (i + 1).toNat ++ Z).take (i + 1).toNat = y.take (i + 1).toNat := fun Z => by
      rw [List.take_append_of_le_length (by rw [List.length_take]; omega), List.take_take, Nat.min_self]
    repeat' (first | exact trivial | apply And.intro)
    all_goals first
      | omega
      | (simp only [List.length_append, List.length_take, List.length_drop, List.length_replicate]; omega)
      | exact htk _
      | exact hgd
      | exact hfin
      | exact hbe
      | rfl
theorem act_ok (S : Sig FL) (hS : FlSig S) (hM : MkSig S) : CtrOk S Try.prog 36 actCtr := by
  have hu := unf_gh S hS
  have hf := fld_gh S hS
  refine vcOf_sound S (C := actCx) (fuel := 10) (cx_of ⟨one_spec (by decide) (take_ok S hS hu hf), one_spec (by decide) (give_ok S hS hu hf), one_spec (by decide) (rel_ok S hS hu hf), one_spec (by decide) (mark_ok S hS hM), trivial⟩ trivial trivial) fun ρ => ?_
  rw [act_vc]
  simp only [actVc, hS.u20, hS.u23, hS.u24, hS.u25, hS.u28, hS.u29, hS.u39, hS.u42, hM.u62, hM.u63, hM.u71, hM.u72, hM.u73, VC.den, SX.den, co_int, co_bool, co_ints, co_rows, co_g, gOf_g, Env.upd, p155, p23, p45, p46, p47, p50, b46, b47, ap2_45, ap1_2, ap1_30, ap1_32, ap1_152, ap1_154, ap2_40, ap2_41, ap2_42, ap2_51i, ap2_115, ap2_118, ap2_121, ap2_122, ap2_124, ap2_127, ap3_112, U.toProp_bool, U.toBool_bool, Bool.not_eq_true', Bool.not_not, beq_eq_false_iff_ne, beq_iff_eq, ne_eq, i64lo, i64hi, U.toInt_int, U.toInts_ints, U.toRows_rows, Int.toNat_zero, toNat1, List.take_zero, Nat.reduceEqDiff, reduceIte, U.rows.injEq, U.g.injEq, U.bool.injEq]
  obtain ⟨s, hs⟩ : ∃ s, U.co S Srt.g (ρ 1) = .g s := by cases ρ 1 <;> exact ⟨_, rfl⟩
  simp only [hs, gOf_g, U.g.injEq]
  generalize (ρ 2).toInt = k
  generalize (ρ 3).toInt = a
  generalize (ρ 4).toInt = b
  intro _ _ _ _ _
  unfold actR actS
  refine ⟨fun h => ⟨fun h2 => ⟨by rw [if_pos h], by rw [if_pos h, h2]; rfl, trivial⟩, fun h2 => ⟨by rw [if_pos h], by rw [if_pos h, h2]; rfl, trivial⟩⟩, fun h => ⟨fun h2 => ⟨by rw [if_neg h, if_pos h2], by rw [if_neg h, if_pos h2], trivial⟩, fun h2 => ⟨fun h3 => ⟨by rw [if_neg h, if_neg h2, if_pos h3], by rw [if_neg h, if_neg h2, if_pos h3], trivial⟩, fun h3 => ⟨fun h4 => ⟨by rw [if_neg h, if_neg h2, if_neg h3, if_pos h4], by rw [if_neg h, if_neg h2, if_neg h3, if_pos h4], trivial⟩, fun h4 => ⟨by rw [if_neg h, if_neg h2, if_neg h3, if_neg h4], by rw [if_neg h, if_neg h2, if_neg h3, if_neg h4], trivial⟩⟩⟩⟩⟩
end
end Go.Proofs.Ytmjonggabppgaaa

/- A step at both lists. -/
set_option linter.unusedSimpArgs false
set_option linter.unusedVariables false
namespace Go.Proofs.Ytmjonggabppgaaa
noncomputable section
open Go.Eng
/-- The program's list and the reference's are alike: the program has but the last marks. -/
def RelP (s r : FL) : Prop := s.e = r.e ∧ s.last = r.last ∧ 0 ≤ s.last ∧ s.m = r.m.filter (fun p => decide (r.last - 16 < p.1)) ∧ Nums r
def relB (s r : FL) : Bool := @decide (RelP s r) (Classical.propDecidable _)
theorem relB_iff {s r : FL} : relB s r = true ↔ RelP s r := by unfold relB; exact @decide_eq_true_iff _ (Classical.propDecidable _)
theorem inc_len : ∀ {l : List Int} {a b : Int}, l.Pairwise (· < ·) → (∀ x ∈ l, a < x ∧ x ≤ b) → a ≤ b → (l.length : Int) ≤ b - a
  | [], a, b, _, _, h => by simp; omega
  | x :: l, a, b, hp, hm, h => by
    rw [List.pairwise_cons] at hp
    have hx := hm x List.mem_cons_self
    have := inc_len (a := x) (b := b) hp.2 (fun y hy => ⟨hp.1 y hy, (hm y (List.mem_cons_of_mem _ hy)).2⟩) hx.2
    rw [List.length_cons]; omega
abbrev Mks := List (Int × List (List Int))
theorem rel_len {s r : FL} (h : RelP s r) : (s.m.length : Int) ≤ 16 ∧ (r.m.length : Int) ≤ r.last := by
  obtain ⟨_, h1, h0, h2, h3, h4⟩ := h
  have a : (r.m.length : Int) ≤ r.last - 0 := by
    have := inc_len (a := 0) (b := r.last) h3 (fun x hx => ⟨by have := h4 x hx; omega, (h4 x hx).2⟩) (by omega)
    simpa using this
  have b : ((s.m.map (·.1)).length : Int) ≤ r.last - (r.last - 16) := by
    refine inc_len ?_ ?_ (by omega)
    · rw [h2]; exact h3.sublist (List.filter_sublist.map _)
    · intro x hx
      rw [h2] at hx
      obtain ⟨p, hp, rfl⟩ := List.mem_map.1 hx
      have h5 := List.mem_filter.1 hp
      exact ⟨of_decide_eq_true h5.2, (h4 _ (List.mem_map_of_mem h5.1)).2⟩
  rw [List.length_map] at b
  omega
theorem rel_e {s r : FL} (h : RelP s r) (f : List (List Int) → List (List Int)) : RelP { s with e := f s.e } { r with e := f r.e } :=
  ⟨congrArg f h.1, h.2.1, h.2.2.1, h.2.2.2.1, h.2.2.2.2⟩
theorem drop_pre {L : Int} : ∀ {m : Mks}, (m.map (·.1)).Pairwise (· < ·) → m.drop (preM m L).toNat = m.filter fun p => decide (L - 16 < p.1)
  | [], _ => by simp
  | p :: m, h => by
    rw [List.map_cons, List.pairwise_cons] at h
    unfold preM
    by_cases hp : p.1 ≤ L - 16
    · have ih := drop_pre (L := L) h.2
      unfold preM at ih
      rw [List.takeWhile_cons_of_pos (by simpa using hp), List.filter_cons_of_neg (by simpa using hp), ← ih]
      simp
    · rw [List.takeWhile_cons_of_neg (by simpa using hp)]
      have : ∀ q ∈ p :: m, (decide (L - 16 < q.1)) = true := by
        intro q hq
        rcases List.mem_cons.1 hq with rfl | hq
        · exact decide_eq_true (by omega)
        · have := h.1 q.1 (List.mem_map_of_mem hq)
          exact decide_eq_true (by omega)
      rw [List.filter_eq_self.2 this]; rfl
theorem rel_mark {s r : FL} (h : RelP s r) : RelP (markS s) (pushS r (r.last + 1) r.e) := by
  obtain ⟨h0, h1, h2, h3, h4, h5⟩ := h
  have hm : ∀ {m : Mks}, (m.map (·.1)).Pairwise (· < ·) → (∀ x ∈ m.map (·.1), x ≤ r.last) → ((m ++ [(r.last + 1, r.e)]).map (·.1)).Pairwise (· < ·) := fun {m} a b => by
    rw [List.map_append, List.pairwise_append]
    refine ⟨a, by simp, fun x hx y hy => ?_⟩
    have := b x hx
    simp only [List.map_cons, List.map_nil, List.mem_singleton] at hy
    omega
  refine ⟨h0, by show s.last + 1 = r.last + 1; omega, by show 0 ≤ s.last + 1; omega, ?_, hm h4 fun x hx => (h5 x hx).2, fun x hx => ?_⟩
  · show (s.m ++ [(s.last + 1, s.e)]).drop (preM (s.m ++ [(s.last + 1, s.e)]) (s.last + 1)).toNat = (r.m ++ [(r.last + 1, r.e)]).filter fun p => decide (r.last + 1 - 16 < p.1)
    rw [h0, h1, drop_pre (hm (by rw [h3]; exact h4.sublist (List.filter_sublist.map _)) fun x hx => ?_), List.filter_append, List.filter_append, h3, List.filter_filter]
    · congr 1
      refine List.filter_congr fun p hp => ?_
      by_cases hq : r.last + 1 - 16 < p.1
      · simp only [decide_eq_true hq, Bool.true_and]; exact decide_eq_true (by omega)
      · simp only [decide_eq_false hq, Bool.false_and]
    · rw [h3] at hx
      obtain ⟨p, hp, rfl⟩ := List.mem_map.1 hx
      exact (h5 _ (List.mem_map_of_mem (List.mem_filter.1 hp).1)).2
  · have hx : x ∈ (r.m ++ [(r.last + 1, r.e)]).map (·.1) := hx
    show 1 ≤ x ∧ x ≤ r.last + 1
    rw [List.map_append, List.mem_append] at hx
    rcases hx with hx | hx
    · have := h5 x hx; omega
    · simp only [List.map_cons, List.map_nil, List.mem_singleton] at hx; omega
theorem idx_none {num : Int} : ∀ {m : Mks}, (∀ p ∈ m, p.1 ≠ num) → idxM num m = -1
  | [], _ => rfl
  | p :: m, h => by
    unfold idxM
    rw [if_neg (h p List.mem_cons_self), if_pos (by rw [idx_none fun q hq => h q (List.mem_cons_of_mem _ hq)]; decide)]
theorem idx_app {num : Int} {f : Mks} : ∀ {a : Mks}, (∀ p ∈ a, p.1 ≠ num) → idxM num (a ++ f) = if idxM num f < 0 then -1 else a.length + idxM num f
  | [], _ => by
    rw [List.nil_append]
    split
    · rename_i h
      have : ∀ m : Mks, idxM num m < 0 → idxM num m = -1 := by
        intro m hm
        cases m with
        | nil => rfl
        | cons p m => unfold idxM at *; repeat' split at * <;> omega
      exact this _ h
    · simp
  | p :: a, h => by
    rw [List.cons_append]
    conv => lhs; unfold idxM
    rw [if_neg (h p List.mem_cons_self), idx_app fun q hq => h q (List.mem_cons_of_mem _ hq)]
    by_cases hf : idxM num f < 0
    · rw [if_pos hf, if_pos (by decide), if_pos hf]
    · rw [if_neg hf, if_neg (by omega), if_neg hf, List.length_cons]; omega
theorem idx_hi {num : Int} : ∀ m : Mks, idxM num m < m.length
  | [] => by simp [idxM]
  | p :: m => by
    have := idx_hi (num := num) m
    unfold idxM
    rw [List.length_cons]
    repeat' split
    all_goals omega
theorem rel_back {s r : FL} (h : RelP s r) (num : Int) : backE s num = rbackE r num ∧ RelP (backS s num) (rbackS r num) := by
  have h' := h
  obtain ⟨h0, h1, h2, h3, h4, h5⟩ := h
  have hlo : ∀ p ∈ s.m, r.last - 16 < p.1 := fun p hp => by rw [h3] at hp; exact of_decide_eq_true (List.mem_filter.1 hp).2
  by_cases hn : 16 ≤ r.last - num
  · have e1 : idxM num s.m = -1 := idx_none fun p hp => by have := hlo p hp; omega
    have e2 : backS s num = s := by unfold backS; rw [if_pos (by rw [e1]; decide)]
    have e3 : rbackS r num = r := by unfold rbackS; rw [if_pos (.inr hn)]
    rw [e2, e3]
    refine ⟨?_, h'⟩
    unfold backE rbackE
    rw [if_pos (by rw [e1]; decide), if_pos (.inr hn)]
  · have hs : r.m = r.m.take (preM r.m r.last).toNat ++ s.m := by
      rw [h3, ← drop_pre h4, List.take_append_drop]
    generalize ha : r.m.take (preM r.m r.last).toNat = a at hs
    have hal : ∀ p ∈ a, p.1 ≤ r.last - 16 := fun p hp => by
      rw [← ha] at hp
      unfold preM at hp
      have e : ∀ (q : Int × List (List Int) → Bool) (m : Mks), m.take (m.takeWhile q).length = m.takeWhile q := fun q m => by
        have := List.take_left (l₁ := m.takeWhile q) (l₂ := m.dropWhile q)
        rwa [List.takeWhile_append_dropWhile] at this
      rw [Int.toNat_natCast, e] at hp
      exact of_decide_eq_true (List.all_eq_true.1 (List.all_takeWhile (p := fun p : Int × List (List Int) => decide (p.1 ≤ r.last - 16))) p hp)
    have hi : idxM num r.m = if idxM num s.m < 0 then -1 else a.length + idxM num s.m := by
      rw [hs]; exact idx_app fun p hp => by have := hal p hp; omega
    by_cases hz : idxM num s.m < 0
    · rw [if_pos hz] at hi
      have e2 : backS s num = s := by unfold backS; rw [if_pos hz]
      have e3 : rbackS r num = r := by unfold rbackS; rw [if_pos (.inl (by rw [hi]; decide))]
      rw [e2, e3]
      refine ⟨?_, h'⟩
      unfold backE rbackE
      rw [if_pos hz, if_pos (.inl (by rw [hi]; decide))]
    · rw [if_neg hz] at hi
      have hh := idx_hi (num := num) s.m
      have hc : ¬ (idxM num r.m < 0 ∨ 16 ≤ r.last - num) := fun h => h.elim (fun h => by omega) hn
      have ht : (idxM num r.m + 1).toNat = a.length + (idxM num s.m + 1).toNat := by omega
      have e3 : r.m.take (idxM num r.m + 1).toNat = a ++ s.m.take (idxM num s.m + 1).toNat := by
        rw [ht]; conv => lhs; rw [hs]
        rw [List.take_length_add_append]
      unfold backE rbackE backS rbackS
      rw [if_neg hz, if_neg hc, if_neg hz, if_neg hc]
      refine ⟨rfl, ?_, h1, h2, ?_, ?_, ?_⟩
      · show atM s _ = atM r _
        unfold atM
        rw [show (idxM num r.m).toNat = a.length + (idxM num s.m).toNat by omega, hs, List.getD_eq_getElem?_getD, List.getD_eq_getElem?_getD, List.getElem?_append_right (by omega), Nat.add_sub_cancel_left]
      · show s.m.take _ = (r.m.take _).filter _
        rw [e3, List.filter_append, List.filter_eq_nil_iff.2 fun p hp => by have := hal p hp; simp; omega, List.nil_append, List.filter_eq_self.2 fun p hp => decide_eq_true (hlo p (List.mem_of_mem_take hp))]
      · exact h4.sublist ((List.take_sublist _ _).map _)
      · intro x hx
        exact h5 x (((List.take_sublist _ _).map _).mem hx)
structure StSig (S : Sig FL) : Prop where
  u92 : ∀ a b c d, S.usr 92 a b c d = .bool (relB (gOf a) (gOf b))
def stpCtr : Ctr := ⟨[.int, .int, .int, .int, .g, .int, .g, .int, .int, .int], [.one (.ptr (ai 0) 0), .one (.ptr (ai 3) 0), .one (.ptr (ai 5) 0), .agg [.int .i64 (ai 7), .int .i64 (ai 8), .int .i64 (ai 9)]], [keC (ai 0) (ai 1) (ai 2), freeC (ai 3) (gA 4), refC (ai 5) (gA 6)],
  [eLe (ai 2) (.int 3999999), eLe (usI 20 (gA 4) z0 z0) (.int 4000000), usB 92 (gA 4) (gA 6) z0], [.int, .g, .g], .one (.bool (.bool true)), [keC (ai 0) (ai 1) (ai 10), freeC (ai 3) (gA 11), refC (ai 5) (gA 12)],
  [eLe (ai 10) (SX.mk2 40 (ai 2) (.int 1)), usB 92 (gA 11) (gA 12) z0, eLe (usI 20 (gA 11) z0 z0) (SX.mk2 40 (usI 20 (gA 4) z0 z0) (.int 1))]⟩
def stpCx : Cx := { specs := [(33, [takeCtr]), (67, [rtkCtr]), (34, [giveCtr]), (68, [rgvCtr]), (35, [relCtr]), (69, [rrlCtr]),
  (29, [ptfCtr]), (30, [rtfCtr]), (31, [ptwCtr]), (70, [rtwCtr]), (39, [ptaCtr]), (71, [rtaCtr]),
  (37, [markCtr]), (72, [rmkCtr]), (38, [backCtr]), (73, [rbkCtr]), (23, [sameCtr]), (25, [tkkCtr])], anns := [] }
-- BEGIN VC stp
def stpVc : VC := (.imp (.f2 47 (.at .int 2) (.int 3999999)) (.imp (.f2 47 (.us .int 20 (.at .g 4) (.int 0) (.int 0) (.int 0)) (.int 4000000)) (.imp (.us .bool 92 (.at
    .g 4) (.at .g 6) (.int 0) (.int 0)) (.all 10 .int (.imp (.f2 47 (.int 0) (.at .int 10)) (.and (.imp (.f2 45 (.at .int 7) (.int 1)) (.and (.imp (.f2
    45 (.us .int 23 (.at .g 4) (.int 0) (.int 0) (.int 0)) (.us .int 23 (.at .g 6) (.int 0) (.int 0) (.int 0))) (.need (.f2 47 (.at .int 2) (.f2 40
    (.at .int 2) (.int 1))) (.need (.us .bool 92 (.us .g 25 (.at .g 4) (.int 0) (.int 0) (.int 0)) (.us .g 25 (.at .g 6) (.int 0) (.int 0) (.int 0))
    (.int 0) (.int 0)) (.need (.f2 47 (.us .int 20 (.us .g 25 (.at .g 4) (.int 0) (.int 0) (.int 0)) (.int 0) (.int 0) (.int 0)) (.f2 40 (.us .int 20
    (.at .g 4) (.int 0) (.int 0) (.int 0)) (.int 1))) (.need (.f2 155 (.bool .true) (.f2 48 (.us .bool 24 (.at .g 4) (.int 0) (.int 0) (.int 0)) (.us
    .bool 24 (.at .g 6) (.int 0) (.int 0) (.int 0)))) .tt))))) (.imp (.f1 2 (.f2 45 (.us .int 23 (.at .g 4) (.int 0) (.int 0) (.int 0)) (.us .int 23
    (.at .g 6) (.int 0) (.int 0) (.int 0)))) (.need (.f2 47 (.at .int 2) (.f2 40 (.at .int 2) (.int 1))) (.need (.us .bool 92 (.us .g 25 (.at .g 4)
    (.int 0) (.int 0) (.int 0)) (.us .g 25 (.at .g 6) (.int 0) (.int 0) (.int 0)) (.int 0) (.int 0)) (.need (.f2 47 (.us .int 20 (.us .g 25 (.at .g 4)
    (.int 0) (.int 0) (.int 0)) (.int 0) (.int 0) (.int 0)) (.f2 40 (.us .int 20 (.at .g 4) (.int 0) (.int 0) (.int 0)) (.int 1))) (.need (.f2 155
    (.bool .true) (.bool .false)) .tt))))))) (.imp (.f1 2 (.f2 45 (.at .int 7) (.int 1))) (.and (.imp (.f2 45 (.at .int 7) (.int 2)) (.need (.f2 47
    (.at .int 2) (.f2 40 (.at .int 2) (.int 1))) (.need (.us .bool 92 (.us .g 42 (.at .g 4) (.at .int 8) (.at .int 9) (.int 0)) (.us .g 42 (.at .g 6)
    (.at .int 8) (.at .int 9) (.int 0)) (.int 0) (.int 0)) (.need (.f2 47 (.us .int 20 (.us .g 42 (.at .g 4) (.at .int 8) (.at .int 9) (.int 0)) (.int
    0) (.int 0) (.int 0)) (.f2 40 (.us .int 20 (.at .g 4) (.int 0) (.int 0) (.int 0)) (.int 1))) (.need (.f2 155 (.bool .true) (.f2 45 (.us .int 39
    (.at .g 4) (.at .int 8) (.at .int 9) (.int 0)) (.us .int 39 (.at .g 6) (.at .int 8) (.at .int 9) (.int 0)))) .tt))))) (.imp (.f1 2 (.f2 45 (.at
    .int 7) (.int 2))) (.and (.imp (.f2 45 (.at .int 7) (.int 3)) (.need (.f2 47 (.at .int 2) (.f2 40 (.at .int 2) (.int 1))) (.need (.us .bool 92 (.us
    .g 29 (.at .g 4) (.at .int 8) (.int 0) (.int 0)) (.us .g 29 (.at .g 6) (.at .int 8) (.int 0) (.int 0)) (.int 0) (.int 0)) (.need (.f2 47 (.us .int
    20 (.us .g 29 (.at .g 4) (.at .int 8) (.int 0) (.int 0)) (.int 0) (.int 0) (.int 0)) (.f2 40 (.us .int 20 (.at .g 4) (.int 0) (.int 0) (.int 0))
    (.int 1))) (.need (.f2 155 (.bool .true) (.f2 45 (.us .int 28 (.at .g 4) (.at .int 8) (.int 0) (.int 0)) (.us .int 28 (.at .g 6) (.at .int 8) (.int
    0) (.int 0)))) .tt))))) (.imp (.f1 2 (.f2 45 (.at .int 7) (.int 3))) (.and (.imp (.f2 45 (.at .int 7) (.int 4)) (.all 11 .int (.all 12 .int (.all
    13 .int (.all 14 .ints (.imp (.f2 45 (.f1 30 (.at .ints 14)) (.at .int 12)) (.imp (.f2 47 (.int 0) (.at .int 12)) (.imp (.f2 47 (.at .int 12) (.int
    65534)) (.imp (.f2 155 (.at .ints 14) (.us .ints 33 (.at .g 4) (.int 0) (.int 0) (.int 0))) (.all 15 .int (.all 16 .int (.all 17 .int (.all 18
    .ints (.imp (.f2 45 (.f1 30 (.at .ints 18)) (.at .int 16)) (.imp (.f2 47 (.int 0) (.at .int 16)) (.imp (.f2 47 (.at .int 16) (.int 65534)) (.imp
    (.f2 155 (.at .ints 18) (.us .ints 33 (.at .g 6) (.int 0) (.int 0) (.int 0))) (.need (.f2 47 (.at .int 12) (.f1 30 (.at .ints 14))) (.need (.f2 47
    (.at .int 12) (.int 140737488355328)) (.need (.f2 47 (.at .int 16) (.f1 30 (.at .ints 18))) (.need (.f2 47 (.at .int 16) (.int 140737488355328))
    (.all 19 .bool (.imp (.f2 48 (.at .bool 19) (.f2 153 (.f2 113 (.at .ints 14) (.at .int 12)) (.f2 113 (.at .ints 18) (.at .int 16)))) (.need (.f2 47
    (.at .int 2) (.int 4000000)) (.need (.f2 153 (.f2 113 (.at .ints 14) (.at .int 12)) (.f2 113 (.at .ints 18) (.at .int 16))) (.need (.f2 47 (.f2 40
    (.at .int 2) (.int 1)) (.f2 40 (.at .int 2) (.int 1))) (.need (.f2 47 (.us .int 20 (.at .g 4) (.int 0) (.int 0) (.int 0)) (.f2 40 (.us .int 20 (.at
    .g 4) (.int 0) (.int 0) (.int 0)) (.int 1))) (.need (.f2 155 (.bool .true) (.at .bool 19)) .tt)))))))))))))))))))))))))))) (.imp (.f1 2 (.f2 45
    (.at .int 7) (.int 4))) (.and (.imp (.f2 45 (.at .int 7) (.int 5)) (.all 11 .int (.all 12 .int (.all 13 .int (.all 14 .ints (.imp (.f2 45 (.f1 30
    (.at .ints 14)) (.at .int 12)) (.imp (.f2 47 (.int 0) (.at .int 12)) (.imp (.f2 47 (.at .int 12) (.int 65534)) (.imp (.f2 155 (.at .ints 14) (.us
    .ints 34 (.at .g 4) (.int 0) (.int 0) (.int 0))) (.all 15 .int (.all 16 .int (.all 17 .int (.all 18 .ints (.imp (.f2 45 (.f1 30 (.at .ints 18))
    (.at .int 16)) (.imp (.f2 47 (.int 0) (.at .int 16)) (.imp (.f2 47 (.at .int 16) (.int 65534)) (.imp (.f2 155 (.at .ints 18) (.us .ints 34 (.at .g
    6) (.int 0) (.int 0) (.int 0))) (.need (.f2 47 (.at .int 12) (.f1 30 (.at .ints 14))) (.need (.f2 47 (.at .int 12) (.int 140737488355328)) (.need
    (.f2 47 (.at .int 16) (.f1 30 (.at .ints 18))) (.need (.f2 47 (.at .int 16) (.int 140737488355328)) (.all 19 .bool (.imp (.f2 48 (.at .bool 19)
    (.f2 153 (.f2 113 (.at .ints 14) (.at .int 12)) (.f2 113 (.at .ints 18) (.at .int 16)))) (.need (.f2 47 (.at .int 2) (.int 4000000)) (.need (.f2
    153 (.f2 113 (.at .ints 14) (.at .int 12)) (.f2 113 (.at .ints 18) (.at .int 16))) (.need (.f2 47 (.f2 40 (.at .int 2) (.int 1)) (.f2 40 (.at .int
    2) (.int 1))) (.need (.f2 47 (.us .int 20 (.at .g 4) (.int 0) (.int 0) (.int 0)) (.f2 40 (.us .int 20 (.at .g 4) (.int 0) (.int 0) (.int 0)) (.int
    1))) (.need (.f2 155 (.bool .true) (.at .bool 19)) .tt)))))))))))))))))))))))))))) (.imp (.f1 2 (.f2 45 (.at .int 7) (.int 5))) (.and (.imp (.f2 45
    (.at .int 7) (.int 6)) (.all 11 .int (.all 12 .int (.all 13 .int (.all 14 .ints (.imp (.f2 45 (.f1 30 (.at .ints 14)) (.at .int 12)) (.imp (.f2 47
    (.int 0) (.at .int 12)) (.imp (.f2 47 (.at .int 12) (.int 65534)) (.imp (.f2 155 (.at .ints 14) (.us .ints 35 (.at .g 4) (.int 0) (.int 0) (.int
    0))) (.all 15 .int (.all 16 .int (.all 17 .int (.all 18 .ints (.imp (.f2 45 (.f1 30 (.at .ints 18)) (.at .int 16)) (.imp (.f2 47 (.int 0) (.at .int
    16)) (.imp (.f2 47 (.at .int 16) (.int 65534)) (.imp (.f2 155 (.at .ints 18) (.us .ints 35 (.at .g 6) (.int 0) (.int 0) (.int 0))) (.need (.f2 47
    (.at .int 12) (.f1 30 (.at .ints 14))) (.need (.f2 47 (.at .int 12) (.int 140737488355328)) (.need (.f2 47 (.at .int 16) (.f1 30 (.at .ints 18)))
    (.need (.f2 47 (.at .int 16) (.int 140737488355328)) (.all 19 .bool (.imp (.f2 48 (.at .bool 19) (.f2 153 (.f2 113 (.at .ints 14) (.at .int 12))
    (.f2 113 (.at .ints 18) (.at .int 16)))) (.need (.f2 47 (.at .int 2) (.int 4000000)) (.need (.f2 153 (.f2 113 (.at .ints 14) (.at .int 12)) (.f2
    113 (.at .ints 18) (.at .int 16))) (.need (.f2 47 (.f2 40 (.at .int 2) (.int 1)) (.f2 40 (.at .int 2) (.int 1))) (.need (.f2 47 (.us .int 20 (.at
    .g 4) (.int 0) (.int 0) (.int 0)) (.f2 40 (.us .int 20 (.at .g 4) (.int 0) (.int 0) (.int 0)) (.int 1))) (.need (.f2 155 (.bool .true) (.at .bool
    19)) .tt)))))))))))))))))))))))))))) (.imp (.f1 2 (.f2 45 (.at .int 7) (.int 6))) (.and (.imp (.f2 45 (.at .int 7) (.int 7)) (.need (.f2 47 (.int
    0) (.us .int 20 (.at .g 4) (.int 0) (.int 0) (.int 0))) (.need (.f2 47 (.us .int 20 (.at .g 4) (.int 0) (.int 0) (.int 0)) (.int
    4611686018427387904)) (.need (.f2 47 (.us .int 71 (.at .g 4) (.int 0) (.int 0) (.int 0)) (.int 1000000)) (.need (.f2 47 (.int 0) (.us .int 20 (.at
    .g 6) (.int 0) (.int 0) (.int 0))) (.need (.f2 47 (.us .int 20 (.at .g 6) (.int 0) (.int 0) (.int 0)) (.int 4611686018427387904)) (.need (.f2 47
    (.us .int 71 (.at .g 6) (.int 0) (.int 0) (.int 0)) (.int 1000000000)) (.need (.f2 47 (.at .int 2) (.f2 40 (.at .int 2) (.int 1))) (.need (.us
    .bool 92 (.us .g 62 (.at .g 4) (.int 0) (.int 0) (.int 0)) (.us .g 83 (.at .g 6) (.f2 40 (.us .int 20 (.at .g 6) (.int 0) (.int 0) (.int 0)) (.int
    1)) (.int 0) (.int 0)) (.int 0) (.int 0)) (.need (.f2 47 (.us .int 20 (.us .g 62 (.at .g 4) (.int 0) (.int 0) (.int 0)) (.int 0) (.int 0) (.int 0))
    (.f2 40 (.us .int 20 (.at .g 4) (.int 0) (.int 0) (.int 0)) (.int 1))) (.need (.f2 155 (.bool .true) (.f2 45 (.us .int 63 (.at .g 4) (.int 0) (.int
    0) (.int 0)) (.us .int 63 (.at .g 6) (.int 0) (.int 0) (.int 0)))) .tt))))))))))) (.imp (.f1 2 (.f2 45 (.at .int 7) (.int 7))) (.and (.imp (.f2 45
    (.at .int 7) (.int 8)) (.need (.f2 47 (.us .int 71 (.at .g 4) (.int 0) (.int 0) (.int 0)) (.int 1000000)) (.need (.f2 47 (.int 0) (.us .int 20 (.at
    .g 6) (.int 0) (.int 0) (.int 0))) (.need (.f2 47 (.us .int 20 (.at .g 6) (.int 0) (.int 0) (.int 0)) (.int 4611686018427387904)) (.need (.us .bool
    84 (.at .g 6) (.int 0) (.int 0) (.int 0)) (.need (.f2 47 (.us .int 71 (.at .g 6) (.int 0) (.int 0) (.int 0)) (.int 1000000000)) (.need (.f2 47 (.at
    .int 2) (.f2 40 (.at .int 2) (.int 1))) (.need (.us .bool 92 (.us .g 68 (.at .g 4) (.at .int 8) (.int 0) (.int 0)) (.us .g 87 (.at .g 6) (.at .int
    8) (.int 0) (.int 0)) (.int 0) (.int 0)) (.need (.f2 47 (.us .int 20 (.us .g 68 (.at .g 4) (.at .int 8) (.int 0) (.int 0)) (.int 0) (.int 0) (.int
    0)) (.f2 40 (.us .int 20 (.at .g 4) (.int 0) (.int 0) (.int 0)) (.int 1))) (.need (.f2 155 (.bool .true) (.f2 45 (.us .int 69 (.at .g 4) (.at .int
    8) (.int 0) (.int 0)) (.us .int 86 (.at .g 6) (.at .int 8) (.int 0) (.int 0)))) .tt)))))))))) (.imp (.f1 2 (.f2 45 (.at .int 7) (.int 8))) (.need
    (.f2 47 (.at .int 2) (.f2 40 (.at .int 2) (.int 1))) (.need (.f2 47 (.us .int 20 (.at .g 4) (.int 0) (.int 0) (.int 0)) (.f2 40 (.us .int 20 (.at
    .g 4) (.int 0) (.int 0) (.int 0)) (.int 1))) .tt)))))))))))))))))))))))
theorem stp_vc : vcOf Try.prog stpCx 14 32 stpCtr = stpVc := by kernel_rfl
-- END VC stp
set_option maxRecDepth 20000 in
theorem stp_ok (S : Sig FL) (hF : FreeSig S) (hP : PickSig S) (hS : FlSig S) (hM : MkSig S) (hR : RfSig S) (hQ : RsSig S) (hK : KpSig S) (hT : StSig S) : CtrOk S Try.prog 32 stpCtr := by
  have hu := unf_gh S hS
  have hf := fld_gh S hS
  refine vcOf_sound S (C := stpCx) (fuel := 14) (cx_of ⟨one_spec (by decide) (take_ok S hS hu hf), one_spec (by decide) (rtk_ok S hS hM hR), one_spec (by decide) (give_ok S hS hu hf), one_spec (by decide) (rgv_ok S hF hS hM hR), one_spec (by decide) (rel_ok S hS hu hf), one_spec (by decide) (rrl_ok S hS hM hR),
    one_spec (by decide) (ptf_ok S hS hP), one_spec (by decide) (rtf_ok S hS hM hR hP), one_spec (by decide) (ptw_ok S hS hP), one_spec (by decide) (rtw_ok S hS hM hR hP), one_spec (by decide) (pta_ok S hS hP), one_spec (by decide) (rta_ok S hS hM hR hP),
    one_spec (by decide) (mark_ok S hS hM), one_spec (by decide) (rmk_ok S hS hM hR), one_spec (by decide) (back_ok S hS hM), one_spec (by decide) (rbk_ok S hS hM hR hQ), one_spec (by decide) (same_ok S), one_spec (by decide) (tkk_ok S hK), trivial⟩ trivial trivial) fun ρ => ?_
  rw [stp_vc]
  simp only [stpVc, hS.u20, hS.u23, hS.u24, hS.u25, hS.u28, hS.u29, hS.u33, hS.u34, hS.u35, hS.u39, hS.u42, hM.u62, hM.u63, hM.u68, hM.u69, hM.u71, hR.u83, hQ.u84, hQ.u86, hQ.u87, hT.u92, VC.den, SX.den, co_int, co_bool, co_ints, co_rows, co_g, gOf_g, Env.upd, p155, p153, p48_153, p23, p45, p46, p47, p50, b46, b47, t46, t47, p2_45, ap1_2, ap1_30, ap1_32, ap1_152, ap1_154, ap2_40, ap2_41, ap2_42, ap2_43, ap2_45, ap2_48, ap2_153, ap2_110, ap2_113, ap2_115, ap2_116, ap2_119, beq_iff_eq, Bool.not_eq_true', beq_eq_false_iff_ne, ne_eq, Bool.not_not, toNat1, ap2_121, ap2_122, ap2_124, ap2_125, ap3_112, ap3_130, U.toProp_bool, U.toBool_bool, i64lo, i64hi, U.toInt_int, U.toInts_ints, U.toRows_rows, Int.toNat_zero, Nat.reduceEqDiff, reduceIte, U.rows.injEq, U.ints.injEq, U.bool.injEq]
  generalize gOf (U.co S .g (ρ 4)) = s
  generalize gOf (U.co S .g (ρ 6)) = r
  simp only [relB_iff, numB_iff]
  intro h1 h2 hr N hN
  have hl := rel_len hr
  have hr' := hr
  obtain ⟨q0, q1, q2, q3, q4⟩ := hr
  refine ⟨fun _ => ⟨fun _ => ⟨by omega, rel_e hr' takeE, by omega, by rw [q0]; simp, trivial⟩, fun hne => absurd (by rw [q0]) hne⟩, fun _ => ⟨fun _ => ⟨by omega, rel_e hr' (giveL _ _), by omega, by rw [q0]; simp, trivial⟩, fun _ =>
    ⟨fun _ => ⟨by omega, rel_e hr' (List.map (relE _)), by omega, by rw [q0]; simp, trivial⟩, fun _ => ⟨fun _ => by
      intro _ n _ X e1 a1 a2 e2 _ n' _ X' e3 a3 a4 e4
      have hX : X = X' := by rw [e2, e4, q0]
      have hn : n = n' := by rw [← e1, ← e3, hX]
      subst hX; subst hn
      exact ⟨by omega, by omega, by omega, by omega, fun v hv => ⟨by omega, rfl, by omega, by omega, by rw [hv]; simp, trivial⟩⟩, fun _ => ⟨fun _ => by
      intro _ n _ X e1 a1 a2 e2 _ n' _ X' e3 a3 a4 e4
      have hX : X = X' := by rw [e2, e4, q0]
      have hn : n = n' := by rw [← e1, ← e3, hX]
      subst hX; subst hn
      exact ⟨by omega, by omega, by omega, by omega, fun v hv => ⟨by omega, rfl, by omega, by omega, by rw [hv]; simp, trivial⟩⟩, fun _ => ⟨fun _ => by
      intro _ n _ X e1 a1 a2 e2 _ n' _ X' e3 a3 a4 e4
      have hX : X = X' := by rw [e2, e4, q0]
      have hn : n = n' := by rw [← e1, ← e3, hX]
      subst hX; subst hn
      exact ⟨by omega, by omega, by omega, by omega, fun v hv => ⟨by omega, rfl, by omega, by omega, by rw [hv]; simp, trivial⟩⟩, fun _ => ⟨fun _ => ?_, fun _ => ⟨fun _ => ?_, fun _ => ⟨by omega, by omega, trivial⟩⟩⟩⟩⟩⟩⟩⟩⟩
  · exact ⟨by omega, by omega, by omega, by omega, by omega, by omega, by omega, rel_mark hr', Int.le_refl _, by rw [q1]; simp, trivial⟩
  · have hb := rel_back hr' (ρ 8).toInt
    have hbl : (backS s (ρ 8).toInt).last = s.last := by unfold backS; split <;> rfl
    exact ⟨by omega, by omega, by omega, q4, by omega, by omega, hb.2, by omega, by rw [hb.1]; simp, trivial⟩
end
end Go.Proofs.Ytmjonggabppgaaa

/- What a new list holds. -/
set_option linter.unusedVariables false
namespace Go.Proofs.Ytmjonggabppgaaa
theorem sort_rows {L : List Int} {m : Int} {R : List (List Int)} (h : sortB (entsB L m) R = true) : R = (R.map pageOf).map fun p => [p, 0] := by
  rw [List.map_map]
  conv => lhs; rw [← List.map_id R]
  refine List.map_congr_left fun r hr => ?_
  have := (sortB_iff.1 h).1.mem_iff.1 hr
  unfold entsB at this
  obtain ⟨p, _, rfl⟩ := List.mem_map.1 this
  rfl
theorem sort_pages {E R R' : List (List Int)} (h : sortB E R = true) (h' : sortB E R' = true) : R.map pageOf = R'.map pageOf := by
  have a := sortB_iff.1 h
  have b := sortB_iff.1 h'
  refine List.Perm.eq_of_pairwise (le := fun x y => x ≤ y) (fun x y _ _ h1 h2 => Int.le_antisymm h1 h2) (List.pairwise_map.2 a.2) (List.pairwise_map.2 b.2) ((a.1.trans b.1.symm).map _)
theorem sort_one {L : List Int} {m : Int} {R R' : List (List Int)} (h : sortB (entsB L m) R = true) (h' : sortB (entsB L m) R' = true) : R = R' := by
  rw [sort_rows h, sort_rows h', sort_pages h h']
theorem sort_size {L : List Int} {m : Int} {R : List (List Int)} (h0 : 0 ≤ m) (hm : m ≤ L.length) (h : sortB (entsB L m) R = true) : (R.length : Int) = m := by
  rw [(sortB_iff.1 h).1.length_eq]
  unfold entsB
  rw [List.length_map, List.length_take]; omega
theorem sort_good {L : List Int} {m : Int} {R : List (List Int)} (h0 : 0 ≤ m) (hm : m ≤ L.length) (ha : allNB L m = true) (hd : distB L m = true) (h : sortB (entsB L m) R = true) : GoodP R := by
  have hs := sortB_iff.1 h
  refine ⟨fun r hr => ?_, ?_⟩
  · have hm := hs.1.mem_iff.1 hr
    unfold entsB at hm
    obtain ⟨p, hp, rfl⟩ := List.mem_map.1 hm
    unfold allNB at ha
    have := List.all_eq_true.1 ha p hp
    simp only [Bool.and_eq_true, decide_eq_true_eq] at this
    exact ⟨p, 0, rfl, this.1, this.2, by decide, by decide⟩
  · have hn : (R.map pageOf).Nodup := by
      have := hs.1.map pageOf
      rw [ents_pages] at this
      exact this.nodup_iff.2 (of_decide_eq_true hd)
    have h2 := List.pairwise_map.1 hn
    exact (hs.2.and h2).imp fun {a b} hab => by
      have := hab.1
      have := hab.2
      unfold pageOf at *
      omega
end Go.Proofs.Ytmjonggabppgaaa

/- The reference's New of numbers that are pages, no two alike. -/
set_option linter.unusedSimpArgs false
set_option linter.unusedVariables false
namespace Go.Proofs.Ytmjonggabppgaaa
noncomputable section
open Go.Eng
def refNewACtr : Ctr := ⟨[.int, .int, .int, .int, .ints, .int], [.one (.slice (ai 0) (ai 1) (.int 0) (.int 0) (ai 2) (ai 3) 1)], [rdI 0 0],
  [eLe (.int 0) (ai 2), eLe (ai 2) (.f1 30 (xsA 4)), eLe (ai 2) (.int 1048576), allNX (xsA 4) (ai 2), distX (xsA 4) (ai 2)], [.int, .int, .int, .rows],
  .tup [(false, [.ptr (ai 6) 0]), (false, [.int .i64 (.int 0)])], [rdI 0 0, .cel (ai 6) 0 [.slice (ai 7) (.int 0) (.int 0) (.int 0) (ai 2) (ai 8) 2, .slice (.int (-1)) (.int 0) (.int 0) (.int 0) (.int 0) (.int 0) 2, .int .i64 (.int 0)], .arr enE (ai 7) (rwA 9) (ai 8)],
  [sortX (entsX (xsA 4) (ai 2)) (rwA 9), eLe (.int 0) (ai 6)]⟩
def refNewAInv1 : Inv := ⟨[.int], [(5, .one (.int .i64 (di 0)))], [], [eLe (.int 0) (di 0), eLe (di 0) (ai 2), allNX (xsA 4) (di 0)], .f2 41 (ai 2) (di 0)⟩
def refNewAInv2 : Inv := ⟨[.int, .int, .int, .int, .rows], [(7, .one (.int .i64 (di 0))), (4, .one (.ptr (di 1) 0))], [.cel (di 1) 0 [.slice (di 2) (.int 0) (.int 0) (.int 0) (di 0) (di 3) 2, .slice (.int (-1)) (.int 0) (.int 0) (.int 0) (.int 0) (.int 0) 2, .int .i64 (.int 0)], .arr enE (di 2) (rwA 1000004) (di 3)],
  [eLe (.int 0) (di 0), eLe (di 0) (ai 2), eEq (.f1 32 (rwA 1000004)) (di 0), distX (xsA 4) (di 0), sortX (entsX (xsA 4) (di 0)) (rwA 1000004), eLe (.int 0) (di 1)], .f2 41 (ai 2) (di 0)⟩
def refNewACx : Cx := { specs := [(60, [findCtr]), (61, [withCtr])], anns := [(28, [(3, .inv refNewAInv1), (9, .inv refNewAInv2), (8, .ghost emptW [])])] }
def refNewAVc : VC := .imp (.f2 47 (.int 0) (.at .int 2)) (.imp (.f2 47 (.at .int 2) (.f1 30 (.at .ints 4))) (.imp (.f2 47 (.at .int 2) (.int 1048576)) (.imp (.us .bool 2 
    (.at .ints 4) (.at .int 2) (.int 0) (.int 0)) (.imp (.us .bool 4 (.at .ints 4) (.at .int 2) (.int 0) (.int 0)) (.all 6 .int (.imp (.f2 47 (.int 0) 
    (.at .int 6)) (.need (.us .bool 2 (.at .ints 4) (.int 0) (.int 0) (.int 0)) (.all 7 .int (.imp (.f2 47 (.int 0) (.at .int 7)) (.imp (.f2 47 (.at .int 
    7) (.at .int 2)) (.imp (.us .bool 2 (.at .ints 4) (.at .int 7) (.int 0) (.int 0)) (.and (.imp (.f2 46 (.at .int 7) (.at .int 2)) (.need (.f2 46 (.at 
    .int 7) (.f1 30 (.at .ints 4))) (.and (.imp (.f2 47 (.int 2) (.f2 110 (.at .ints 4) (.at .int 7))) (.and (.imp (.f2 47 (.int 65536) (.f2 110 (.at 
    .ints 4) (.at .int 7))) (.ff 60)) (.imp (.f2 46 (.f2 110 (.at .ints 4) (.at .int 7)) (.int 65536)) (.need (.f1 23 (.f2 40 (.at .int 7) (.int 1))) 
    (.need (.f2 47 (.int 0) (.f2 41 (.at .int 2) (.f2 40 (.at .int 7) (.int 1)))) (.need (.f2 46 (.f2 41 (.at .int 2) (.f2 40 (.at .int 7) (.int 1))) (.f2 
    41 (.at .int 2) (.at .int 7))) (.need (.f2 47 (.int 0) (.f2 40 (.at .int 7) (.int 1))) (.need (.f2 47 (.f2 40 (.at .int 7) (.int 1)) (.at .int 2)) 
    (.need (.us .bool 2 (.at .ints 4) (.f2 40 (.at .int 7) (.int 1)) (.int 0) (.int 0)) (.tt)))))))))) (.imp (.f2 46 (.f2 110 (.at .ints 4) (.at .int 7)) 
    (.int 2)) (.ff 60))))) (.imp (.f2 47 (.at .int 2) (.at .int 7)) (.need (.us .bool 4 (.at .ints 4) (.int 0) (.int 0) (.int 0)) (.need (.us .bool 1 (.us 
    .rows 3 (.at .ints 4) (.int 0) (.int 0) (.int 0)) (.f1 154 (.int 0)) (.int 0) (.int 0)) (.all 8 .int (.all 9 .int (.all 10 .int (.all 11 .int (.all 12 
    .rows (.imp (.f2 47 (.int 0) (.at .int 8)) (.imp (.f2 47 (.at .int 8) (.at .int 2)) (.imp (.f2 45 (.f1 32 (.at .rows 12)) (.at .int 8)) (.imp (.us 
    .bool 4 (.at .ints 4) (.at .int 8) (.int 0) (.int 0)) (.imp (.us .bool 1 (.us .rows 3 (.at .ints 4) (.at .int 8) (.int 0) (.int 0)) (.at .rows 12) 
    (.int 0) (.int 0)) (.imp (.f2 47 (.int 0) (.at .int 9)) (.and (.imp (.f2 46 (.at .int 8) (.at .int 2)) (.need (.f2 46 (.at .int 8) (.f1 30 (.at .ints 
    4))) (.need (.f2 47 (.at .int 8) (.f1 32 (.at .rows 12))) (.need (.f2 47 (.at .int 8) (.int 140737488355328)) (.all 13 .int (.imp (.f2 47 (.int (-1)) 
    (.at .int 13)) (.imp (.f2 48 (.f2 47 (.int 0) (.at .int 13)) (.us .bool 6 (.at .rows 12) (.at .int 8) (.f2 110 (.at .ints 4) (.at .int 8)) (.int 0))) 
    (.and (.imp (.f2 47 (.int 0) (.at .int 13)) (.ff 60)) (.imp (.f2 46 (.at .int 13) (.int 0)) (.need (.f2 45 (.at .int 8) (.f1 32 (.at .rows 12))) 
    (.need (.f2 47 (.at .int 8) (.int 1048576)) (.all 14 .int (.all 15 .int (.all 16 .rows (.imp (.f2 45 (.f1 32 (.at .rows 16)) (.f2 40 (.at .int 8) 
    (.int 1))) (.imp (.us .bool 5 (.at .rows 16) (.us .rows 7 (.at .rows 12) (.at .int 8) (.f2 122 (.f2 110 (.at .ints 4) (.at .int 8)) (.f2 122 (.int 0) 
    (.f1 152 (.int 0)))) (.int 0)) (.int 0) (.int 0)) (.need (.f1 23 (.f2 40 (.at .int 8) (.int 1))) (.need (.f2 47 (.int 0) (.f2 41 (.at .int 2) (.f2 40 
    (.at .int 8) (.int 1)))) (.need (.f2 46 (.f2 41 (.at .int 2) (.f2 40 (.at .int 8) (.int 1))) (.f2 41 (.at .int 2) (.at .int 8))) (.need (.f2 47 (.int 
    0) (.f2 40 (.at .int 8) (.int 1))) (.need (.f2 47 (.f2 40 (.at .int 8) (.int 1)) (.at .int 2)) (.need (.us .bool 4 (.at .ints 4) (.f2 40 (.at .int 8) 
    (.int 1)) (.int 0) (.int 0)) (.need (.us .bool 1 (.us .rows 3 (.at .ints 4) (.f2 40 (.at .int 8) (.int 1)) (.int 0) (.int 0)) (.at .rows 16) (.int 0) 
    (.int 0)) (.tt)))))))))))))))))))))))) (.imp (.f2 47 (.at .int 2) (.at .int 8)) (.need (.us .bool 1 (.us .rows 3 (.at .ints 4) (.at .int 2) (.int 0) 
    (.int 0)) (.at .rows 12) (.int 0) (.int 0)) (.need (.f2 45 (.at .int 2) (.at .int 8)) (.tt)))))))))))))))))))))))))))))))
theorem refNewA_vc : vcOf Try.prog refNewACx 10 28 refNewACtr = refNewAVc := by kernel_rfl
theorem allNB_get' {L : List Int} {m x : Int} (h : allNB L m = true) (hm : m ≤ L.length) (h0 : 0 ≤ x) (h1 : x < m) : 2 ≤ L.getD x.toNat 0 ∧ L.getD x.toNat 0 < 65536 := allNB_get h hm h0 h1
theorem insRow_perm (e : List Int) : ∀ xs : List (List Int), (insRow e xs).Perm (e :: xs)
  | [] => List.Perm.refl _
  | r :: xs => by
    simp only [insRow]
    split
    · exact List.Perm.refl _
    · exact ((insRow_perm e xs).cons r).trans (List.Perm.swap e r xs)
theorem insRow_sorted (e : List Int) : ∀ xs : List (List Int), xs.Pairwise (fun a b => pageOf a ≤ pageOf b) → (insRow e xs).Pairwise (fun a b => pageOf a ≤ pageOf b)
  | [], _ => List.pairwise_singleton _ _
  | r :: xs, h => by
    rw [List.pairwise_cons] at h
    simp only [insRow]
    split
    · rename_i hp
      refine List.pairwise_cons.2 ⟨fun q hq => ?_, List.pairwise_cons.2 h⟩
      rcases List.mem_cons.1 hq with rfl | hq
      · omega
      · have := h.1 q hq; omega
    · rename_i hp
      refine List.pairwise_cons.2 ⟨fun q hq => ?_, insRow_sorted e xs h.2⟩
      rcases List.mem_cons.1 ((insRow_perm e xs).mem_iff.1 hq) with rfl | hq
      · omega
      · exact h.1 q hq
theorem nrm_ents {L : List Int} {k : Int} {R : List (List Int)} (hs : SortP (entsB L k) R) (hl : (R.length : Int) = k) : nrm R k = R := by
  unfold nrm
  rw [List.take_of_length_le (by omega)]
  have : ∀ r ∈ R, [r.getD 0 0, r.getD 1 0] = r := by
    intro r hr
    have := hs.1.mem_iff.1 hr
    unfold entsB at this
    obtain ⟨p, _, rfl⟩ := List.mem_map.1 this
    rfl
  rw [List.map_congr_left this, List.map_id']
theorem sort_step {L : List Int} {k : Int} {R : List (List Int)} (h0 : 0 ≤ k) (hk : k < L.length) (hl : (R.length : Int) = k) (hs : sortB (entsB L k) R = true) :
    sortB (entsB L (k + 1)) (insRow [L.getD k.toNat 0, 0] (nrm R k)) = true := by
  have hs := sortB_iff.1 hs
  rw [sortB_iff, nrm_ents hs hl, ← ents_step L k h0 hk]
  refine ⟨(insRow_perm _ _).trans (((hs.1.cons _)).trans (List.perm_append_singleton _ _).symm), insRow_sorted _ _ hs.2⟩
theorem has_iff {L : List Int} {k p : Int} {R : List (List Int)} (hl : (R.length : Int) = k) (hs : sortB (entsB L k) R = true) : hasB R k p = true ↔ p ∈ L.take k.toNat := by
  have hs := sortB_iff.1 hs
  unfold hasB
  rw [List.take_of_length_le (by omega), List.any_eq_true]
  have hp := hs.1.map pageOf
  rw [ents_pages] at hp
  rw [← hp.mem_iff, List.mem_map]
  constructor
  · rintro ⟨r, hr, h⟩; exact ⟨r, hr, eq_of_beq h⟩
  · rintro ⟨r, hr, h⟩; exact ⟨r, hr, by rw [beq_iff_eq]; exact h⟩
theorem dist_step {L : List Int} {k : Int} (h0 : 0 ≤ k) (hk : k < L.length) (hd : distB L k = true) (hn : L.getD k.toNat 0 ∉ L.take k.toNat) : distB L (k + 1) = true := by
  unfold distB at *
  rw [decide_eq_true_eq] at *
  rw [show (k + 1).toNat = k.toNat + 1 by omega, take_getD L _ (by omega), List.nodup_append]
  refine ⟨hd, by simp, fun a ha b hb e => ?_⟩
  rw [List.mem_singleton] at hb
  subst hb; subst e; exact hn ha
theorem dist_not {L : List Int} {k m : Int} (h0 : 0 ≤ k) (hk : k < m) (hm : m ≤ L.length) (hd : distB L m = true) : L.getD k.toNat 0 ∉ L.take k.toNat := by
  intro hin
  unfold distB at hd
  rw [decide_eq_true_eq] at hd
  have h2 : (L.take (k.toNat + 1)).Nodup := by
    have : L.take (k.toNat + 1) = (L.take m.toNat).take (k.toNat + 1) := by rw [List.take_take, Nat.min_eq_left (by omega)]
    rw [this]; exact hd.sublist (List.take_sublist _ _)
  rw [take_getD L _ (by omega), List.nodup_append] at h2
  exact h2.2.2 _ hin _ List.mem_cons_self rfl
theorem dist_zero (L : List Int) : distB L 0 = true := by simp [distB]
theorem sort_zero (L : List Int) : sortB (entsB L 0) [] = true := by rw [sortB_iff]; exact ⟨by simp [entsB], List.Pairwise.nil⟩
theorem refNewA_specs {G : Type} (S : Sig G) (hS : FreeSig S) (hE : GhOk S emptW) : ∀ f sps, assoc refNewACx.specs f = some sps → ∀ sp ∈ sps, sp.wf = true ∧ CtrOk S Try.prog f sp := by
  intro f sps h sp hm
  simp only [refNewACx, assoc] at h
  cases hb : Nat.beq 60 f
  · rw [hb] at h
    cases hb2 : Nat.beq 61 f
    · rw [hb2] at h; cases h
    · rw [hb2] at h; cases h
      rw [List.mem_singleton] at hm
      rw [← Nat.eq_of_beq_eq_true hb2, hm]
      exact ⟨by decide, with_ok S hS hE⟩
  · rw [hb] at h; cases h
    rw [List.mem_singleton] at hm
    rw [← Nat.eq_of_beq_eq_true hb, hm]
    exact ⟨by decide, find_ok S hS⟩
theorem refNewA_ok {G : Type} (S : Sig G) (hS : FreeSig S) (hE : GhOk S emptW) : CtrOk S Try.prog 28 refNewACtr := by
  refine vcOf_sound S (C := refNewACx) (fuel := 10) ⟨refNewA_specs S hS hE, fun f l h i sp args hm => ?_, fun f sps h => by simp [refNewACx, assoc] at h⟩ fun ρ => ?_
  · simp only [refNewACx, assoc] at h
    cases hb : Nat.beq 28 f
    · rw [hb] at h; cases h
    · rw [hb] at h; cases h
      simp at hm
      obtain ⟨rfl, rfl, rfl⟩ := hm
      exact ⟨by decide, hE⟩
  · rw [refNewA_vc]
    obtain ⟨_, h1, h2, h3, h4, h5, h6, h7, _, _⟩ := hS
    simp only [refNewAVc, VC.den, SX.den, U.co, Env.upd, h1, h2, h3, h4, h5, h6, h7, p23, p46, p47, ap1_2, ap1_30, ap1_32, ap1_152, ap1_154, ap2_40, ap2_41, ap2_45, t47, ap2_48, ap2_110, ap2_122, U.toProp_bool, U.toBool_bool, Bool.not_eq_true', beq_eq_false_iff_ne, ne_eq, beq_iff_eq, i64_min', i64_max', Int.toNat_zero, U.toInt_int, U.toInts_ints, U.toBytes_bytes, U.toRows_rows, if_true, if_false, Nat.reduceEqDiff, reduceIte]
    generalize (ρ 4).toInts = L
    generalize (ρ 2).toInt = m
    intro a1 a2 a3 a4 a5 p ap
    refine ⟨by simp [allNB], fun k k0 k1 k2 => ⟨fun hk => ⟨by omega, fun hp => ⟨fun hq => ?_, fun hq => ⟨⟨by omega, by omega⟩, by omega, by omega, by omega, by omega, allNB_step k0 (by omega) k2 hp hq, trivial⟩⟩, fun hq => ?_⟩,
      fun hk => ⟨dist_zero L, sort_zero L, fun j q b c R j0 j1 j2 j3 j4 j5 => ⟨fun hj => ⟨by omega, by omega, by omega, fun at' f0 f1 => ⟨fun g => ?_, fun g => ⟨by omega, by omega, fun b' c' R' g1 g2 => ⟨⟨by omega, by omega⟩, by omega, by omega, by omega, by omega, ?_, ?_, trivial⟩⟩⟩⟩, fun hj => ⟨?_, by omega, trivial⟩⟩⟩⟩⟩
    · have := allNB_get a4 a2 k0 hk; omega
    · have := allNB_get a4 a2 k0 hk; omega
    · rw [leB_iff.2 g] at f1
      exact dist_not j0 hj a2 a5 ((has_iff j2 j4).1 f1.symm)
    · exact dist_step j0 (by omega) j3 (dist_not j0 hj a2 a5)
    · rw [g2]; exact sort_step j0 (by omega) j2 j4
    · have : j = m := by omega
      rw [← this]; exact j4
end
end Go.Proofs.Ytmjonggabppgaaa

/- The reference's New where some number is no page. -/
set_option linter.unusedSimpArgs false
set_option linter.unusedVariables false
namespace Go.Proofs.Ytmjonggabppgaaa
noncomputable section
open Go.Eng
def refNewBCtr : Ctr := ⟨[.int, .int, .int, .int, .ints, .int], [.one (.slice (ai 0) (ai 1) (.int 0) (.int 0) (ai 2) (ai 3) 1)], [rdI 0 0],
  [eLe (.int 0) (ai 2), eLe (ai 2) (.f1 30 (xsA 4)), eLe (ai 2) (.int 1048576), .f1 2 (allNX (xsA 4) (ai 2))], [],
  .tup [(false, [.ptr (.int (-1)) 0]), (false, [.int .i64 (.int 30)])], [rdI 0 0], []⟩
def refNewBInv1 : Inv := ⟨[.int], [(5, .one (.int .i64 (di 0)))], [], [eLe (.int 0) (di 0), eLe (di 0) (ai 2), allNX (xsA 4) (di 0)], .f2 41 (ai 2) (di 0)⟩
def refNewBInv2 : Inv := ⟨[.int, .int, .int, .int, .rows], [(7, .one (.int .i64 (di 0))), (4, .one (.ptr (di 1) 0))], [.cel (di 1) 0 [.slice (di 2) (.int 0) (.int 0) (.int 0) (di 0) (di 3) 2, .slice (.int (-1)) (.int 0) (.int 0) (.int 0) (.int 0) (.int 0) 2, .int .i64 (.int 0)], .arr enE (di 2) (rwA 1000004) (di 3)],
  [eLe (.int 0) (di 0), eLe (di 0) (ai 2), eEq (.f1 32 (rwA 1000004)) (di 0), distX (xsA 4) (di 0), sortX (entsX (xsA 4) (di 0)) (rwA 1000004), eLe (.int 0) (di 1)], .f2 41 (ai 2) (di 0)⟩
def refNewBCx : Cx := { specs := [(60, [findCtr]), (61, [withCtr])], anns := [(28, [(3, .inv refNewBInv1), (9, .inv refNewBInv2), (8, .ghost emptW [])])] }
def refNewBVc : VC := .imp (.f2 47 (.int 0) (.at .int 2)) (.imp (.f2 47 (.at .int 2) (.f1 30 (.at .ints 4))) (.imp (.f2 47 (.at .int 2) (.int 1048576)) (.imp (.f1 2 (.us 
    .bool 2 (.at .ints 4) (.at .int 2) (.int 0) (.int 0))) (.all 6 .int (.imp (.f2 47 (.int 0) (.at .int 6)) (.need (.us .bool 2 (.at .ints 4) (.int 0) 
    (.int 0) (.int 0)) (.all 7 .int (.imp (.f2 47 (.int 0) (.at .int 7)) (.imp (.f2 47 (.at .int 7) (.at .int 2)) (.imp (.us .bool 2 (.at .ints 4) (.at 
    .int 7) (.int 0) (.int 0)) (.and (.imp (.f2 46 (.at .int 7) (.at .int 2)) (.need (.f2 46 (.at .int 7) (.f1 30 (.at .ints 4))) (.and (.imp (.f2 47 
    (.int 2) (.f2 110 (.at .ints 4) (.at .int 7))) (.and (.imp (.f2 47 (.int 65536) (.f2 110 (.at .ints 4) (.at .int 7))) (.tt)) (.imp (.f2 46 (.f2 110 
    (.at .ints 4) (.at .int 7)) (.int 65536)) (.need (.f1 23 (.f2 40 (.at .int 7) (.int 1))) (.need (.f2 47 (.int 0) (.f2 41 (.at .int 2) (.f2 40 (.at 
    .int 7) (.int 1)))) (.need (.f2 46 (.f2 41 (.at .int 2) (.f2 40 (.at .int 7) (.int 1))) (.f2 41 (.at .int 2) (.at .int 7))) (.need (.f2 47 (.int 0) 
    (.f2 40 (.at .int 7) (.int 1))) (.need (.f2 47 (.f2 40 (.at .int 7) (.int 1)) (.at .int 2)) (.need (.us .bool 2 (.at .ints 4) (.f2 40 (.at .int 7) 
    (.int 1)) (.int 0) (.int 0)) (.tt)))))))))) (.imp (.f2 46 (.f2 110 (.at .ints 4) (.at .int 7)) (.int 2)) (.tt))))) (.imp (.f2 47 (.at .int 2) (.at 
    .int 7)) (.need (.us .bool 4 (.at .ints 4) (.int 0) (.int 0) (.int 0)) (.need (.us .bool 1 (.us .rows 3 (.at .ints 4) (.int 0) (.int 0) (.int 0)) (.f1 
    154 (.int 0)) (.int 0) (.int 0)) (.all 8 .int (.all 9 .int (.all 10 .int (.all 11 .int (.all 12 .rows (.imp (.f2 47 (.int 0) (.at .int 8)) (.imp (.f2 
    47 (.at .int 8) (.at .int 2)) (.imp (.f2 45 (.f1 32 (.at .rows 12)) (.at .int 8)) (.imp (.us .bool 4 (.at .ints 4) (.at .int 8) (.int 0) (.int 0)) 
    (.imp (.us .bool 1 (.us .rows 3 (.at .ints 4) (.at .int 8) (.int 0) (.int 0)) (.at .rows 12) (.int 0) (.int 0)) (.imp (.f2 47 (.int 0) (.at .int 9)) 
    (.and (.imp (.f2 46 (.at .int 8) (.at .int 2)) (.need (.f2 46 (.at .int 8) (.f1 30 (.at .ints 4))) (.need (.f2 47 (.at .int 8) (.f1 32 (.at .rows 
    12))) (.need (.f2 47 (.at .int 8) (.int 140737488355328)) (.all 13 .int (.imp (.f2 47 (.int (-1)) (.at .int 13)) (.imp (.f2 48 (.f2 47 (.int 0) (.at 
    .int 13)) (.us .bool 6 (.at .rows 12) (.at .int 8) (.f2 110 (.at .ints 4) (.at .int 8)) (.int 0))) (.and (.imp (.f2 47 (.int 0) (.at .int 13)) (.need 
    (.bool false) (.tt))) (.imp (.f2 46 (.at .int 13) (.int 0)) (.need (.f2 45 (.at .int 8) (.f1 32 (.at .rows 12))) (.need (.f2 47 (.at .int 8) (.int 
    1048576)) (.all 14 .int (.all 15 .int (.all 16 .rows (.imp (.f2 45 (.f1 32 (.at .rows 16)) (.f2 40 (.at .int 8) (.int 1))) (.imp (.us .bool 5 (.at 
    .rows 16) (.us .rows 7 (.at .rows 12) (.at .int 8) (.f2 122 (.f2 110 (.at .ints 4) (.at .int 8)) (.f2 122 (.int 0) (.f1 152 (.int 0)))) (.int 0)) 
    (.int 0) (.int 0)) (.need (.f1 23 (.f2 40 (.at .int 8) (.int 1))) (.need (.f2 47 (.int 0) (.f2 41 (.at .int 2) (.f2 40 (.at .int 8) (.int 1)))) (.need 
    (.f2 46 (.f2 41 (.at .int 2) (.f2 40 (.at .int 8) (.int 1))) (.f2 41 (.at .int 2) (.at .int 8))) (.need (.f2 47 (.int 0) (.f2 40 (.at .int 8) (.int 
    1))) (.need (.f2 47 (.f2 40 (.at .int 8) (.int 1)) (.at .int 2)) (.need (.us .bool 4 (.at .ints 4) (.f2 40 (.at .int 8) (.int 1)) (.int 0) (.int 0)) 
    (.need (.us .bool 1 (.us .rows 3 (.at .ints 4) (.f2 40 (.at .int 8) (.int 1)) (.int 0) (.int 0)) (.at .rows 16) (.int 0) (.int 0)) 
    (.tt)))))))))))))))))))))))) (.imp (.f2 47 (.at .int 2) (.at .int 8)) (.need (.bool false) (.need (.f2 45 (.int (-1)) (.at .int 9)) 
    (.tt))))))))))))))))))))))))))))))
theorem refNewB_vc : vcOf Try.prog refNewBCx 10 28 refNewBCtr = refNewBVc := by kernel_rfl

theorem refNewB_specs {G : Type} (S : Sig G) (hS : FreeSig S) (hE : GhOk S emptW) : ∀ f sps, assoc refNewBCx.specs f = some sps → ∀ sp ∈ sps, sp.wf = true ∧ CtrOk S Try.prog f sp := by
  intro f sps h sp hm
  simp only [refNewBCx, assoc] at h
  cases hb : Nat.beq 60 f
  · rw [hb] at h
    cases hb2 : Nat.beq 61 f
    · rw [hb2] at h; cases h
    · rw [hb2] at h; cases h
      rw [List.mem_singleton] at hm
      rw [← Nat.eq_of_beq_eq_true hb2, hm]
      exact ⟨by decide, with_ok S hS hE⟩
  · rw [hb] at h; cases h
    rw [List.mem_singleton] at hm
    rw [← Nat.eq_of_beq_eq_true hb, hm]
    exact ⟨by decide, find_ok S hS⟩
theorem refNewB_ok {G : Type} (S : Sig G) (hS : FreeSig S) (hE : GhOk S emptW) : CtrOk S Try.prog 28 refNewBCtr := by
  refine vcOf_sound S (C := refNewBCx) (fuel := 10) ⟨refNewB_specs S hS hE, fun f l h i sp args hm => ?_, fun f sps h => by simp [refNewBCx, assoc] at h⟩ fun ρ => ?_
  · simp only [refNewBCx, assoc] at h
    cases hb : Nat.beq 28 f
    · rw [hb] at h; cases h
    · rw [hb] at h; cases h
      simp at hm
      obtain ⟨rfl, rfl, rfl⟩ := hm
      exact ⟨by decide, hE⟩
  · rw [refNewB_vc]
    obtain ⟨_, h1, h2, h3, h4, h5, h6, h7, _, _⟩ := hS
    simp only [refNewBVc, VC.den, SX.den, U.co, Env.upd, h1, h2, h3, h4, h5, h6, h7, p23, p46, p47, ap1_2, ap1_30, ap1_32, ap1_152, ap1_154, ap2_40, ap2_41, ap2_45, t47, ap2_48, ap2_110, ap2_122, U.toProp_bool, U.toBool_bool, Bool.not_eq_true', beq_eq_false_iff_ne, ne_eq, beq_iff_eq, i64_min', i64_max', Int.toNat_zero, U.toInt_int, U.toInts_ints, U.toBytes_bytes, U.toRows_rows, if_true, if_false, Nat.reduceEqDiff, reduceIte]
    generalize (ρ 4).toInts = L
    generalize (ρ 2).toInt = m
    intro a1 a2 a3 a4 p ap
    refine ⟨by simp [allNB], fun k k0 k1 k2 => ⟨fun hk => ⟨by omega, fun hp => ⟨fun hq => ?_, fun hq => ⟨⟨by omega, by omega⟩, by omega, by omega, by omega, by omega, allNB_step k0 (by omega) k2 hp hq, trivial⟩⟩, fun hq => ?_⟩, fun hk => ?_⟩⟩
    · trivial
    · trivial
    · exfalso
      have : k = m := by omega
      rw [this, a4] at k2; cases k2
end
end Go.Proofs.Ytmjonggabppgaaa

/- The reference's New where two numbers are alike. -/
set_option linter.unusedSimpArgs false
set_option linter.unusedVariables false
namespace Go.Proofs.Ytmjonggabppgaaa
noncomputable section
open Go.Eng
def refNewCCtr : Ctr := ⟨[.int, .int, .int, .int, .ints, .int], [.one (.slice (ai 0) (ai 1) (.int 0) (.int 0) (ai 2) (ai 3) 1)], [rdI 0 0],
  [eLe (.int 0) (ai 2), eLe (ai 2) (.f1 30 (xsA 4)), eLe (ai 2) (.int 1048576), allNX (xsA 4) (ai 2), .f1 2 (distX (xsA 4) (ai 2))], [],
  .tup [(false, [.ptr (.int (-1)) 0]), (false, [.int .i64 (.int 100)])], [rdI 0 0], []⟩
def refNewCInv1 : Inv := ⟨[.int], [(5, .one (.int .i64 (di 0)))], [], [eLe (.int 0) (di 0), eLe (di 0) (ai 2), allNX (xsA 4) (di 0)], .f2 41 (ai 2) (di 0)⟩
def refNewCInv2 : Inv := ⟨[.int, .int, .int, .int, .rows], [(7, .one (.int .i64 (di 0))), (4, .one (.ptr (di 1) 0))], [.cel (di 1) 0 [.slice (di 2) (.int 0) (.int 0) (.int 0) (di 0) (di 3) 2, .slice (.int (-1)) (.int 0) (.int 0) (.int 0) (.int 0) (.int 0) 2, .int .i64 (.int 0)], .arr enE (di 2) (rwA 1000004) (di 3)],
  [eLe (.int 0) (di 0), eLe (di 0) (ai 2), eEq (.f1 32 (rwA 1000004)) (di 0), distX (xsA 4) (di 0), sortX (entsX (xsA 4) (di 0)) (rwA 1000004), eLe (.int 0) (di 1)], .f2 41 (ai 2) (di 0)⟩
def refNewCCx : Cx := { specs := [(60, [findCtr]), (61, [withCtr])], anns := [(28, [(3, .inv refNewCInv1), (9, .inv refNewCInv2), (8, .ghost emptW [])])] }
def refNewCVc : VC := .imp (.f2 47 (.int 0) (.at .int 2)) (.imp (.f2 47 (.at .int 2) (.f1 30 (.at .ints 4))) (.imp (.f2 47 (.at .int 2) (.int 1048576)) (.imp (.us .bool 2 
    (.at .ints 4) (.at .int 2) (.int 0) (.int 0)) (.imp (.f1 2 (.us .bool 4 (.at .ints 4) (.at .int 2) (.int 0) (.int 0))) (.all 6 .int (.imp (.f2 47 
    (.int 0) (.at .int 6)) (.need (.us .bool 2 (.at .ints 4) (.int 0) (.int 0) (.int 0)) (.all 7 .int (.imp (.f2 47 (.int 0) (.at .int 7)) (.imp (.f2 47 
    (.at .int 7) (.at .int 2)) (.imp (.us .bool 2 (.at .ints 4) (.at .int 7) (.int 0) (.int 0)) (.and (.imp (.f2 46 (.at .int 7) (.at .int 2)) (.need (.f2 
    46 (.at .int 7) (.f1 30 (.at .ints 4))) (.and (.imp (.f2 47 (.int 2) (.f2 110 (.at .ints 4) (.at .int 7))) (.and (.imp (.f2 47 (.int 65536) (.f2 110 
    (.at .ints 4) (.at .int 7))) (.need (.bool false) (.tt))) (.imp (.f2 46 (.f2 110 (.at .ints 4) (.at .int 7)) (.int 65536)) (.need (.f1 23 (.f2 40 (.at 
    .int 7) (.int 1))) (.need (.f2 47 (.int 0) (.f2 41 (.at .int 2) (.f2 40 (.at .int 7) (.int 1)))) (.need (.f2 46 (.f2 41 (.at .int 2) (.f2 40 (.at .int 
    7) (.int 1))) (.f2 41 (.at .int 2) (.at .int 7))) (.need (.f2 47 (.int 0) (.f2 40 (.at .int 7) (.int 1))) (.need (.f2 47 (.f2 40 (.at .int 7) (.int 
    1)) (.at .int 2)) (.need (.us .bool 2 (.at .ints 4) (.f2 40 (.at .int 7) (.int 1)) (.int 0) (.int 0)) (.tt)))))))))) (.imp (.f2 46 (.f2 110 (.at .ints 
    4) (.at .int 7)) (.int 2)) (.need (.bool false) (.tt)))))) (.imp (.f2 47 (.at .int 2) (.at .int 7)) (.need (.us .bool 4 (.at .ints 4) (.int 0) (.int 
    0) (.int 0)) (.need (.us .bool 1 (.us .rows 3 (.at .ints 4) (.int 0) (.int 0) (.int 0)) (.f1 154 (.int 0)) (.int 0) (.int 0)) (.all 8 .int (.all 9 
    .int (.all 10 .int (.all 11 .int (.all 12 .rows (.imp (.f2 47 (.int 0) (.at .int 8)) (.imp (.f2 47 (.at .int 8) (.at .int 2)) (.imp (.f2 45 (.f1 32 
    (.at .rows 12)) (.at .int 8)) (.imp (.us .bool 4 (.at .ints 4) (.at .int 8) (.int 0) (.int 0)) (.imp (.us .bool 1 (.us .rows 3 (.at .ints 4) (.at .int 
    8) (.int 0) (.int 0)) (.at .rows 12) (.int 0) (.int 0)) (.imp (.f2 47 (.int 0) (.at .int 9)) (.and (.imp (.f2 46 (.at .int 8) (.at .int 2)) (.need 
    (.f2 46 (.at .int 8) (.f1 30 (.at .ints 4))) (.need (.f2 47 (.at .int 8) (.f1 32 (.at .rows 12))) (.need (.f2 47 (.at .int 8) (.int 140737488355328)) 
    (.all 13 .int (.imp (.f2 47 (.int (-1)) (.at .int 13)) (.imp (.f2 48 (.f2 47 (.int 0) (.at .int 13)) (.us .bool 6 (.at .rows 12) (.at .int 8) (.f2 110 
    (.at .ints 4) (.at .int 8)) (.int 0))) (.and (.imp (.f2 47 (.int 0) (.at .int 13)) (.tt)) (.imp (.f2 46 (.at .int 13) (.int 0)) (.need (.f2 45 (.at 
    .int 8) (.f1 32 (.at .rows 12))) (.need (.f2 47 (.at .int 8) (.int 1048576)) (.all 14 .int (.all 15 .int (.all 16 .rows (.imp (.f2 45 (.f1 32 (.at 
    .rows 16)) (.f2 40 (.at .int 8) (.int 1))) (.imp (.us .bool 5 (.at .rows 16) (.us .rows 7 (.at .rows 12) (.at .int 8) (.f2 122 (.f2 110 (.at .ints 4) 
    (.at .int 8)) (.f2 122 (.int 0) (.f1 152 (.int 0)))) (.int 0)) (.int 0) (.int 0)) (.need (.f1 23 (.f2 40 (.at .int 8) (.int 1))) (.need (.f2 47 (.int 
    0) (.f2 41 (.at .int 2) (.f2 40 (.at .int 8) (.int 1)))) (.need (.f2 46 (.f2 41 (.at .int 2) (.f2 40 (.at .int 8) (.int 1))) (.f2 41 (.at .int 2) (.at 
    .int 8))) (.need (.f2 47 (.int 0) (.f2 40 (.at .int 8) (.int 1))) (.need (.f2 47 (.f2 40 (.at .int 8) (.int 1)) (.at .int 2)) (.need (.us .bool 4 (.at 
    .ints 4) (.f2 40 (.at .int 8) (.int 1)) (.int 0) (.int 0)) (.need (.us .bool 1 (.us .rows 3 (.at .ints 4) (.f2 40 (.at .int 8) (.int 1)) (.int 0) 
    (.int 0)) (.at .rows 16) (.int 0) (.int 0)) (.tt)))))))))))))))))))))))) (.imp (.f2 47 (.at .int 2) (.at .int 8)) (.need (.bool false) (.need (.f2 45 
    (.int (-1)) (.at .int 9)) (.tt)))))))))))))))))))))))))))))))
theorem refNewC_vc : vcOf Try.prog refNewCCx 10 28 refNewCCtr = refNewCVc := by kernel_rfl

theorem refNewC_specs {G : Type} (S : Sig G) (hS : FreeSig S) (hE : GhOk S emptW) : ∀ f sps, assoc refNewCCx.specs f = some sps → ∀ sp ∈ sps, sp.wf = true ∧ CtrOk S Try.prog f sp := by
  intro f sps h sp hm
  simp only [refNewCCx, assoc] at h
  cases hb : Nat.beq 60 f
  · rw [hb] at h
    cases hb2 : Nat.beq 61 f
    · rw [hb2] at h; cases h
    · rw [hb2] at h; cases h
      rw [List.mem_singleton] at hm
      rw [← Nat.eq_of_beq_eq_true hb2, hm]
      exact ⟨by decide, with_ok S hS hE⟩
  · rw [hb] at h; cases h
    rw [List.mem_singleton] at hm
    rw [← Nat.eq_of_beq_eq_true hb, hm]
    exact ⟨by decide, find_ok S hS⟩
theorem refNewC_ok {G : Type} (S : Sig G) (hS : FreeSig S) (hE : GhOk S emptW) : CtrOk S Try.prog 28 refNewCCtr := by
  refine vcOf_sound S (C := refNewCCx) (fuel := 10) ⟨refNewC_specs S hS hE, fun f l h i sp args hm => ?_, fun f sps h => by simp [refNewCCx, assoc] at h⟩ fun ρ => ?_
  · simp only [refNewCCx, assoc] at h
    cases hb : Nat.beq 28 f
    · rw [hb] at h; cases h
    · rw [hb] at h; cases h
      simp at hm
      obtain ⟨rfl, rfl, rfl⟩ := hm
      exact ⟨by decide, hE⟩
  · rw [refNewC_vc]
    obtain ⟨_, h1, h2, h3, h4, h5, h6, h7, _, _⟩ := hS
    simp only [refNewCVc, VC.den, SX.den, U.co, Env.upd, h1, h2, h3, h4, h5, h6, h7, p23, p46, p47, ap1_2, ap1_30, ap1_32, ap1_152, ap1_154, ap2_40, ap2_41, ap2_45, t47, ap2_48, ap2_110, ap2_122, U.toProp_bool, U.toBool_bool, Bool.not_eq_true', beq_eq_false_iff_ne, ne_eq, beq_iff_eq, i64_min', i64_max', Int.toNat_zero, U.toInt_int, U.toInts_ints, U.toBytes_bytes, U.toRows_rows, if_true, if_false, Nat.reduceEqDiff, reduceIte]
    generalize (ρ 4).toInts = L
    generalize (ρ 2).toInt = m
    intro a1 a2 a3 a4 a5 p ap
    refine ⟨by simp [allNB], fun k k0 k1 k2 => ⟨fun hk => ⟨by omega, fun hp => ⟨fun hq => ?_, fun hq => ⟨⟨by omega, by omega⟩, by omega, by omega, by omega, by omega, allNB_step k0 (by omega) k2 hp hq, trivial⟩⟩, fun hq => ?_⟩,
      fun hk => ⟨dist_zero L, sort_zero L, fun j q b c R j0 j1 j2 j3 j4 j5 => ⟨fun hj => ⟨by omega, by omega, by omega, fun at' f0 f1 => ⟨fun g => trivial, fun g => ⟨by omega, by omega, fun b' c' R' g1 g2 => ⟨⟨by omega, by omega⟩, by omega, by omega, by omega, by omega, ?_, ?_, trivial⟩⟩⟩⟩, fun hj => ?_⟩⟩⟩⟩
    · exfalso; have := allNB_get a4 a2 k0 hk; omega
    · exfalso; have := allNB_get a4 a2 k0 hk; omega
    · refine dist_step j0 (by omega) j3 fun hin => ?_
      have := (has_iff j2 j4).2 hin
      rw [this] at f1
      have := leB_iff.1 f1
      omega
    · rw [g2]; exact sort_step j0 (by omega) j2 j4
    · exfalso
      have : j = m := by omega
      rw [this, a5] at j3; cases j3
end
end Go.Proofs.Ytmjonggabppgaaa

/- slices.SortFunc and cmp.Compare as the library's shelf has them: the tables of numbers, in plain words (written by the shelf's lay-plain). -/
namespace Go.Proofs
open Go.Shelf
def Try.sortEn_ren : Go.Shelf.Ren := ⟨fun | 6 => 54 | 15 => 86 | 14 => 85 | 28 => 98 | 29 => 99 | 20 => 90 | 21 => 91 | 22 => 92 | 23 => 93 | 24 => 94 | 25 => 95 | 26 => 96 | 27 => 97 | 46 => 101 | 47 => 102 | 48 => 103 | 49 => 104 | 50 => 105 | 57 => 107 | n => n, fun | 22 => 80 | 24 => 85 | 25 => 87 | 3 => 3 | 39 => 111 | 0 => 0 | 53 => 71 | 55 => 70 | 4 => 4 | 46 => 123 | 45 => 122 | 50 => 60 | 5 => 5 | 9 => 9 | 66 => 130 | 70 => 134 | 76 => 137 | 77 => 138 | n => n, fun | n => n⟩
theorem Try.sortEn : Go.Proofs.SlLaysF0.n6 Try.prog Try.sortEn_ren := {
  mixed := by kernel_rfl
  f6 := ⟨Try.f54.name, by decide, Try.func54.trans (congrArg some (by kernel_rfl))⟩
  f14 := ⟨Try.f85.name, by decide, Try.func85.trans (congrArg some (by kernel_rfl))⟩
  f15 := Try.func86.trans (congrArg some (by kernel_rfl))
  f20 := ⟨Try.f90.name, by decide, Try.func90.trans (congrArg some (by kernel_rfl))⟩
  f21 := ⟨Try.f91.name, by decide, Try.func91.trans (congrArg some (by kernel_rfl))⟩
  f22 := ⟨Try.f92.name, by decide, Try.func92.trans (congrArg some (by kernel_rfl))⟩
  f23 := ⟨Try.f93.name, by decide, Try.func93.trans (congrArg some (by kernel_rfl))⟩
  f24 := ⟨Try.f94.name, by decide, Try.func94.trans (congrArg some (by kernel_rfl))⟩
  f25 := ⟨Try.f95.name, by decide, Try.func95.trans (congrArg some (by kernel_rfl))⟩
  f26 := ⟨Try.f96.name, by decide, Try.func96.trans (congrArg some (by kernel_rfl))⟩
  f27 := ⟨Try.f97.name, by decide, Try.func97.trans (congrArg some (by kernel_rfl))⟩
  f28 := Try.func98.trans (congrArg some (by kernel_rfl))
  f29 := Try.func99.trans (congrArg some (by kernel_rfl))
  f46 := ⟨Try.f101.name, by decide, Try.func101.trans (congrArg some (by kernel_rfl))⟩
  f47 := Try.func102.trans (congrArg some (by kernel_rfl))
  f48 := Try.func103.trans (congrArg some (by kernel_rfl))
  f49 := ⟨Try.f104.name, by decide, Try.func104.trans (congrArg some (by kernel_rfl))⟩
  f50 := ⟨Try.f105.name, by decide, Try.func105.trans (congrArg some (by kernel_rfl))⟩
  f57 := ⟨Try.f107.name, by decide, Try.func107.trans (congrArg some (by kernel_rfl))⟩
  t0 := Try.underlying0
  a0 := Try.isAgg0
  z0 := Try.sizeOf0
  v0 := Try.zeroValue0
  t3 := Try.underlying3
  a3 := Try.isAgg3
  z3 := Try.sizeOf3
  v3 := Try.zeroValue3
  t4 := Try.underlying4
  a4 := Try.isAgg4
  z4 := Try.sizeOf4
  v4 := Try.zeroValue4
  t5 := Try.underlying5
  a5 := Try.isAgg5
  z5 := Try.sizeOf5
  v5 := Try.zeroValue5
  t9 := Try.underlying9
  a9 := Try.isAgg9
  z9 := Try.sizeOf9
  v9 := Try.zeroValue9
  t22 := Try.underlying80
  a22 := Try.isAgg80
  z22 := Try.sizeOf80
  v22 := Try.zeroValue80
  t25 := Try.underlying87
  a25 := Try.isAgg87
  z25 := Try.sizeOf87
  v25 := Try.zeroValue87
  t39 := Try.underlying111
  a39 := Try.isAgg111
  z39 := Try.sizeOf111
  v39 := Try.zeroValue111
  t45 := Try.underlying122
  a45 := Try.isAgg122
  z45 := Try.sizeOf122
  v45 := Try.zeroValue122
  t46 := Try.underlying123
  a46 := Try.isAgg123
  z46 := Try.sizeOf123
  v46 := Try.zeroValue123
  t50 := Try.underlying60
  a50 := Try.isAgg60
  z50 := Try.sizeOf60
  v50 := Try.zeroValue60
  t53 := Try.underlying71
  a53 := Try.isAgg71
  z53 := Try.sizeOf71
  v53 := Try.zeroValue71
  t55 := Try.underlying70
  a55 := Try.isAgg70
  z55 := Try.sizeOf70
  v55 := Try.zeroValue70
  t66 := Try.underlying130
  a66 := Try.isAgg130
  z66 := Try.sizeOf130
  v66 := Try.zeroValue130
  t70 := Try.underlying134
  a70 := Try.isAgg134
  z70 := Try.sizeOf134
  v70 := Try.zeroValue134
  t76 := Try.underlying137
  a76 := Try.isAgg137
  z76 := Try.sizeOf137
  v76 := Try.zeroValue137
  t77 := Try.underlying138
  a77 := Try.isAgg138
  z77 := Try.sizeOf138
  v77 := Try.zeroValue138 }
def Try.cmpInt_ren : Go.Shelf.Ren := ⟨fun | 5 => 56 | 7 => 87 | n => n, fun | 22 => 3 | 3 => 3 | 4 => 4 | n => n, fun | n => n⟩
theorem Try.cmpInt : Go.Proofs.SlLaysC2.n5 Try.prog Try.cmpInt_ren := {
  mixed := by kernel_rfl
  f5 := ⟨Try.f56.name, by decide, Try.func56.trans (congrArg some (by kernel_rfl))⟩
  f7 := ⟨Try.f87.name, by decide, Try.func87.trans (congrArg some (by kernel_rfl))⟩
  t3 := Try.underlying3
  a3 := Try.isAgg3
  z3 := Try.sizeOf3
  v3 := Try.zeroValue3
  t4 := Try.underlying4
  a4 := Try.isAgg4
  z4 := Try.sizeOf4
  v4 := Try.zeroValue4
  t22 := Try.underlying3
  a22 := Try.isAgg3
  z22 := Try.sizeOf3
  v22 := Try.zeroValue3 }
end Go.Proofs

/- Towards slices.SortFunc's contract: rows of the shelf's and of this claim's proofs. -/
set_option linter.unusedSimpArgs false
set_option linter.unusedVariables false
namespace Go.Proofs.Ytmjonggabppgaaa
noncomputable section
open Go.Eng
open Go.Sort (grow flatK putRow putRowK HoldsK setMany ahead)
def encE (x : Int × Int) : List Value := [.int .i64 x.1, .int .i64 x.2]
def pairOf (r : List Int) : Int × Int := (r.getD 0 0, (r.drop 1).getD 0 0)
theorem rowVals_pair (r : List Int) : rowVals [.int .i64, .int .i64] r = encE (pairOf r) := rfl
theorem flat_get : ∀ (l : List (Int × Int)) (t : Nat), t < l.length * 2 → (l.flatMap encE)[t]? = some ((encE (l.getD (t / 2) default))[t % 2]!)
  | [], t, h => by simp at h
  | x :: l, t, h => by
    rw [List.flatMap_cons]
    match t with
    | 0 => rfl
    | 1 => rfl
    | t + 2 =>
      rw [List.getElem?_append_right (by simp [encE])]
      have : t + 2 - (encE x).length = t := by simp [encE]
      rw [this, flat_get l t (by simp at h ⊢; omega)]
      have e1 : (t + 2) / 2 = t / 2 + 1 := by omega
      have e2 : (t + 2) % 2 = t % 2 := by omega
      rw [e1, e2]; rfl
theorem flatK_list (l : List (Int × Int)) : (flatK encE 2 l.toArray).toList = l.flatMap encE := by
  apply List.ext_getElem?
  intro t
  by_cases h : t < l.length * 2
  · rw [flat_get l t h]
    have := Go.Sort.get_flatK encE 2 l.toArray t (by simpa using h)
    have hs : t < (flatK encE 2 l.toArray).size := by simpa using h
    rw [getElem!_pos _ t hs] at this
    rw [Array.getElem?_toList, Array.getElem?_eq_getElem hs, this]
    congr 2
    simp [Array.getElem!_eq_getD, Array.getD_eq_getD_getElem?, List.getD_eq_getElem?_getD]
  · rw [List.getElem?_eq_none (by simpa using h)]
    have hl : (l.flatMap encE).length = l.length * 2 := by
      rw [List.length_flatMap]; simp [encE, List.map_const', Nat.mul_comm]
    rw [List.getElem?_eq_none (by omega)]
theorem perm_lift {α β : Type} (f : α → β) {m' m : List β} (h : m'.Perm m) : ∀ {l : List α}, l.map f = m → ∃ y : List α, y.Perm l ∧ y.map f = m' := by
  induction h with
  | nil => intro l hl; exact ⟨l, List.Perm.refl _, hl⟩
  | cons x _ ih =>
    intro l hl
    cases l with
    | nil => cases hl
    | cons a l =>
      simp only [List.map_cons, List.cons.injEq] at hl
      obtain ⟨y, hy, e⟩ := ih hl.2
      exact ⟨a :: y, hy.cons _, by simp [hl.1, e]⟩
  | swap x y l' =>
    intro l hl
    match l, hl with
    | a :: b :: l, hl =>
      simp only [List.map_cons, List.cons.injEq] at hl
      exact ⟨b :: a :: l, List.Perm.swap _ _ _, by simp [hl.1, hl.2.1, hl.2.2]⟩
  | trans _ _ ih1 ih2 =>
    intro l hl
    obtain ⟨y, hy, e⟩ := ih2 hl
    obtain ⟨z, hz, e2⟩ := ih1 e
    exact ⟨z, hz.trans hy, e2⟩
theorem Sat.push' {w0 w : World} {H : HProp} (h : Sat w0 H w) (x : Obj) : Sat w0 H { w with heap := w.heap.push x } := by
  obtain ⟨y, hy, hi⟩ := h
  exact ⟨y, hy, hi.push x⟩
theorem Sat.grow {w0 : World} {H : HProp} : ∀ (os : List Obj) {w : World}, Sat w0 H w → Sat w0 H (grow w os.toArray)
  | [], w, h => by rw [show (([] : List Obj).toArray) = #[] from rfl, Go.Sort.grow_empty]; exact h
  | x :: os, w, h => by
    have := Sat.grow os (Sat.push' h x)
    have e : Go.Sort.grow { w with heap := w.heap.push x } os.toArray = Go.Sort.grow w (x :: os).toArray := by
      unfold Go.Sort.grow; simp
    rw [e] at this; exact this
theorem Sat.cells {w0 : World} {b o : Nat} {z : Bool} {H : HProp} : ∀ (new : List Value) (i : Nat) (cs : List Value) (w : World), Sat w0 (star (row b o cs z) H) w → i + new.length ≤ cs.length →
    Sat w0 (star (row b o (cs.take i ++ new ++ cs.drop (i + new.length)) z) H) (w.setCells b (o + i) new)
  | [], i, cs, w, h, _ => by simpa [World.setCells] using h
  | v :: new, i, cs, w, h, hl => by
    simp only [List.length_cons] at hl
    have hs := h.store (i := i) (by omega) v
    have := Sat.cells new (i + 1) (cs.set i v) _ hs (by simp; omega)
    have e : (cs.set i v).take (i + 1) ++ new ++ (cs.set i v).drop (i + 1 + new.length) = cs.take i ++ (v :: new) ++ cs.drop (i + (v :: new).length) := by
      have e1 : (cs.set i v).take (i + 1) = cs.take i ++ [v] := by
        rw [List.take_add_one, List.take_set_of_le (Nat.le_refl i), List.getElem?_set_self (by omega)]
        rfl
      rw [e1, List.drop_set_of_lt (by omega), List.length_cons]
      simp [Nat.add_assoc, Nat.add_comm 1]
    rw [e] at this
    exact this
theorem Sat.put {w0 w : World} {b : Nat} {z : Bool} {H : HProp} {old new : List (Int × Int)} {spare : List Value} (h : Sat w0 (star (row b 0 (old.flatMap encE ++ spare) z) H) w) (hl : new.length = old.length) :
    Sat w0 (star (row b 0 (new.flatMap encE ++ spare) z) H) (putRowK encE 2 w b 0 new.toArray) := by
  have len : ∀ l : List (Int × Int), (l.flatMap encE).length = l.length * 2 := fun l => by rw [List.length_flatMap]; simp [encE, List.map_const', Nat.mul_comm]
  have hh : HoldsK encE 2 w b 0 old.toArray := by
    intro j hj
    rw [Go.Sort.size_flatK] at hj
    have hj' : j < (old.flatMap encE ++ spare).length := by rw [List.length_append, len]; simp at hj; omega
    have := h.load hj'
    rw [List.getElem_append_left (by rw [len]; simpa using hj)] at this
    have e : (flatK encE 2 old.toArray)[j]! = (old.flatMap encE)[j]'(by rw [len]; simpa using hj) := by
      have hs : j < (flatK encE 2 old.toArray).size := by simpa using hj
      rw [getElem!_pos _ j hs, ← Array.getElem_toList]
      congr 1
      exact flatK_list old
    rw [e]
    exact this
  have e1 : putRowK encE 2 w b 0 old.toArray = w := Go.Sort.putRowK_self encE 2 w b 0 _ hh
  have e2 := Go.Sort.setCells_putRow w b 0 (new.flatMap encE) 0 (flatK encE 2 old.toArray) (by simp [len, hl])
  have e3 : setMany (flatK encE 2 old.toArray) 0 (new.flatMap encE) = flatK encE 2 new.toArray := by
    refine Go.Sort.ext_get! (by simp [hl]) fun t ht => ?_
    have ht' : t < old.length * 2 := by simpa using ht
    rw [Go.Sort.get_setMany _ _ _ _ (by simpa using ht'), if_pos (by rw [len]; omega), Nat.sub_zero]
    have hs : t < (flatK encE 2 new.toArray).size := by simp [hl]; exact ht'
    have ht2 : t < (new.flatMap encE).length := by rw [len]; omega
    rw [getElem!_pos _ t ht2, getElem!_pos _ t hs, ← Array.getElem_toList]
    congr 1
    exact (flatK_list new).symm
  rw [show putRow id w b 0 (flatK encE 2 old.toArray) = w from e1, e3] at e2
  have := Sat.cells (new.flatMap encE) 0 _ w h (by rw [List.length_append, len, len]; omega)
  rw [e2, List.take_zero, List.nil_append, Nat.zero_add, show (new.flatMap encE).length = (old.flatMap encE).length by rw [len, len, hl], List.drop_left] at this
  exact this
end
end Go.Proofs.Ytmjonggabppgaaa

/- slices.SortFunc's contract out of what the library's shelf says of it. -/
set_option linter.unusedSimpArgs false
set_option linter.unusedVariables false
namespace Go.Proofs.Ytmjonggabppgaaa
noncomputable section
open Go.Eng
open Go.Sort (grow flatK putRow putRowK HoldsK setMany ahead PermIn SortedIn)
open Go.Proofs (ltOf sortWorldK)
theorem ltPage' (x y : Int × Int) : ltOf (fun x y : Int × Int => Go.Lib.compareInt x.1 y.1) x y = decide (x.1 < y.1) := by
  unfold ltOf Go.Lib.compareInt
  by_cases h1 : x.1 < y.1
  · simp [h1]
  · by_cases h2 : y.1 < x.1 <;> simp [h1, h2]
theorem sort_facts {d : List (Int × Int)} {R : List (List Int)} {d' : Array (Int × Int)} (hd : d = R.map pairOf) (hp : Go.Sort.PermIn 0 d.length d.toArray d')
    (hs : Go.Sort.SortedIn (ltOf fun x y : Int × Int => Go.Lib.compareInt x.1 y.1) 0 d.length d') :
    ∃ y : List (List Int), y.map pairOf = d'.toList ∧ y.length = R.length ∧ SortP R y := by
  obtain ⟨h1, h2, h3⟩ := hp
  have hsz : d'.size = d.length := by simpa using h1
  have h3 : d'.toList.Perm (R.map pairOf) := by
    have e1 : (d'.extract 0 d.length) = d' := by rw [← hsz]; simp
    have e2 : (d.toArray.extract 0 d.length) = d.toArray := by simp
    rw [e1, e2] at h3
    rw [← hd]; simpa using h3
  obtain ⟨y, hy, e⟩ := perm_lift pairOf h3 rfl
  refine ⟨y, e, hy.length_eq, hy, ?_⟩
  rw [List.pairwise_iff_getElem]
  intro i j hi hj hij
  have hl : y.length = d'.size := by have := congrArg List.length e; simpa using this
  have := hs i j (Nat.zero_le _) hij (by omega)
  rw [ltPage', decide_eq_false_iff_not, getElem!_pos _ _ (by omega), getElem!_pos _ _ (by omega)] at this
  have g : ∀ k (hk : k < y.length), pairOf y[k] = d'[k]'(by omega) := by
    intro k hk
    have : (y.map pairOf)[k]? = d'.toList[k]? := by rw [e]
    rw [List.getElem?_map, List.getElem?_eq_getElem hk, Array.getElem?_toList, Array.getElem?_eq_getElem (by omega)] at this
    simpa using this
  rw [← g i hi, ← g j hj] at this
  simp only [pairOf, pageOf] at this ⊢
  omega
def SortSome (P : Program) (f g : FuncId) : Prop := ∀ (blk cap : Nat) (d : Array (Int × Int)) (w : World), HoldsK encE 2 w blk 0 d → blk < w.heap.size → d.size < 4611686018427387904 →
    Calls P f #[.slice (some ⟨blk, 0, none⟩) d.size cap, .func (.func g) #[] #[]] w fun e w' => e = .returned (.tuple #[]) ∧
      ∃ d' n os, PermIn 0 d.size d d' ∧ SortedIn (ltOf fun x y : Int × Int => Go.Lib.compareInt x.1 y.1) 0 d.size d' ∧ w' = sortWorldK encE 2 w blk 0 n d' os
def SortNone (P : Program) (f : FuncId) : Prop := ∀ (p : Option Addr) (cap : Nat) (fv : Value) (w : World), Calls P f #[.slice p 0 cap, fv] w fun e w' => e = .returned (.tuple #[]) ∧ w' = w
theorem vals_pairs (R : List (List Int)) : R.flatMap (rowVals [.int .i64, .int .i64]) = (R.map pairOf).flatMap encE := by rw [List.flatMap_map]; rfl
theorem enc_len (l : List (Int × Int)) : (l.flatMap encE).length = l.length * 2 := by rw [List.length_flatMap]; simp [encE, List.map_const', Nat.mul_comm]
theorem sort_of {G : Type} (S : Sig G) (hS : FreeSig S) {P : Program} {f : FuncId} (hsome : SortSome P f 55) (hnone : SortNone P f) : CtrOk S P f sortCtr := by
  obtain ⟨_, hs1, _, _, _, _⟩ := hS
  intro ch w0 F ρ w xs hx hq hsat
  obtain ⟨v1, v2, rfl, hv1, hv2⟩ : ∃ v1 v2, xs = [v1, v2] ∧ SV.R S ρ (.one (.slice (ai 0) (.int 0) (.int 0) (.int 0) (ai 2) (ai 3) 2)) v1 ∧ SV.R S ρ (.one (.fn 55)) v2 := by
    match xs, hx with
    | [v1, v2], hx => exact ⟨v1, v2, rfl, hx.1, hx.2.1⟩
  have hv1 := R_one S ρ hv1
  have hv2 := R_one S ρ hv2
  have q1 := hq (eLe (.int 0) (ai 2)) (by simp [sortCtr])
  have q2 := hq (eEq (ai 2) (.f1 32 (rwA 1))) (by simp [sortCtr])
  have q3 := hq (eLe (ai 2) (.int 140737488355328)) (by simp [sortCtr])
  rw [eLe_den] at q1 q3
  have q2 : ((SX.at .int 2).den S ρ).toInt = ((SX.f1 32 (rwA 1)).den S ρ).toInt := by rw [eEq_bool] at q2; simpa [U.toProp, ai] using q2
  simp only [sortCtr, hpDen_cons, star_assoc, Ch.den] at hsat
  rw [SX.den_wc, SX.den_wc, SX.den_wc] at hsat
  simp only [SX.den, ai, rwA, ap1_32, U.co, U.toInt_int] at q1 q2 q3 hsat
  subst hv1 hv2
  simp only [SC.den, SX.den, ai, U.co, U.toInt_int, if_true, Int.toNat_zero, Nat.zero_mul, Nat.zero_add, ite_self]
  generalize hb : (ρ 0).toInt = b at *
  generalize hn : (ρ 2).toInt = n at *
  generalize hR : (ρ 1).toRows = R at *
  generalize hc : (ρ 4).toInt = c at *
  obtain ⟨spare, hsat⟩ := sat_ex hsat
  obtain ⟨g1, hsat⟩ := sat_and hsat
  obtain ⟨g2, hsat⟩ := sat_and hsat
  obtain ⟨g3, hsat⟩ := sat_and hsat
  have hlen : ((R.map pairOf).flatMap encE).length = R.length * 2 := by rw [enc_len, List.length_map]
  simp only [enE, En.vals, En.stride, List.length_cons, List.length_nil, U.toInt_int, U.toRows_rows] at g1 g2 g3 q2 hsat
  rw [vals_pairs] at g1 hsat
  by_cases hR0 : R = []
  · subst hR0
    have hn0 : n = 0 := by simpa using q2
    subst hn0
    refine (hnone _ _ _ w).mono ?_
    rintro e w' ⟨rfl, rfl⟩
    refine ⟨ρ.upd 5 (.rows []), .tuple #[], Ext.upd _ _, rfl, .inr rfl, ?_, ?_⟩
    · simp only [sortCtr, hpDen_cons, star_assoc, Ch.den]
      rw [SX.den_wc, SX.den_wc, SX.den_wc]
      simp only [SX.den, ai, rwA, U.co, U.toInt_int, Env.upd, if_true, Nat.reduceEqDiff, reduceIte, hb, hc, U.toRows_rows]
      exact sat_ex_mk spare (sat_and_mk (by simpa [enE, En.vals, En.stride] using g1) (sat_and_mk g2 (sat_and_mk g3 (by simp only [enE, En.vals, List.flatMap_nil, U.toRows_rows]; exact hsat))))
    · intro x hx
      simp only [sortCtr, List.mem_cons, List.not_mem_nil, or_false] at hx
      rcases hx with rfl | rfl
      · rw [eEq_bool]; simp [SX.den, rwA, ap1_32, Env.upd, hR, U.toProp, U.co]
      · simp [SX.den, sortX, rwA, Env.upd, hs1, hR, sortB, SortP, U.co, U.toProp, U.toBool]
  · have hRl : 0 < R.length := List.length_pos_iff.2 hR0
    have hb0 : 0 ≤ b := by
      rcases g3 with h | h
      · exact h
      · exfalso; rw [h, hlen] at g1; simp at g1; omega
    have hn' : n.toNat = (R.map pairOf).length := by rw [List.length_map]; omega
    have hlt := hsat.row_lt (by intro e; have := congrArg List.length e; rw [List.length_append, hlen] at this; simp at this; omega)
    have hold : HoldsK encE 2 w b.toNat 0 (R.map pairOf).toArray := by
      have h2 := Sat.put hsat rfl
      intro j hj
      have hj0 := hj
      rw [Go.Sort.size_flatK] at hj
      have hj' : j < ((R.map pairOf).flatMap encE ++ spare).length := by rw [List.length_append, hlen]; simp at hj; omega
      have := hsat.load hj'
      rw [List.getElem_append_left (by rw [hlen]; simpa using hj)] at this
      rw [getElem!_pos _ j hj0, ← Array.getElem_toList]
      have e : (flatK encE 2 (R.map pairOf).toArray).toList[j]'(by simpa using hj0) = ((R.map pairOf).flatMap encE)[j]'(by rw [hlen]; simpa using hj) := by
        congr 1
        exact flatK_list _
      rw [e]
      exact this
    have hcall := hsome b.toNat (SX.den S ρ (ai 3)).toInt.toNat (R.map pairOf).toArray w hold hlt.2 (by simp; omega)
    rw [if_neg (by omega), hn']
    refine hcall.mono ?_
    rintro e w' ⟨rfl, d', m, os, hp, hs, rfl⟩
    obtain ⟨y, hy, hyl, hys⟩ := sort_facts rfl (by simpa using hp) (by simpa using hs)
    refine ⟨ρ.upd 5 (.rows y), .tuple #[], Ext.upd _ _, rfl, .inr rfl, ?_, ?_⟩
    · simp only [sortCtr, hpDen_cons, star_assoc, Ch.den]
      rw [SX.den_wc, SX.den_wc, SX.den_wc]
      simp only [SX.den, ai, rwA, U.co, U.toInt_int, Env.upd, if_true, Nat.reduceEqDiff, reduceIte, hb, hc, U.toRows_rows]
      have hput : Sat w0 (star (row b.toNat 0 ((y.map pairOf).flatMap encE ++ spare) true) (star (hpDen (S.wc ch) (ρ.upd 5 (.rows y)) w0 []) F)) (sortWorldK encE 2 w b.toNat 0 m d' os) := by
        have h1 := Sat.put (new := d'.toList) (hsat.drew (w.drawn + m)) (by simpa using hp.1)
        have h2 := Sat.grow os.toList h1
        rw [hy]
        exact h2
      refine sat_ex_mk spare (sat_and_mk ?_ (sat_and_mk g2 (sat_and_mk g3 ?_)))
      · simp only [enE, En.vals, En.stride, List.length_cons, List.length_nil, vals_pairs, U.toInt_int, U.toRows_rows]
        rw [← g1, hlen, enc_len, List.length_map, hyl]
      · simp only [enE, En.vals, vals_pairs]
        exact hput
    · intro x hx
      simp only [sortCtr, List.mem_cons, List.not_mem_nil, or_false] at hx
      rcases hx with rfl | rfl
      · rw [eEq_bool]; simp [SX.den, rwA, ap1_32, Env.upd, hR, U.toProp, U.co, hyl]
      · simp [SX.den, sortX, rwA, Env.upd, hs1, hR, sortB, U.co, U.toProp, U.toBool, hys]
end
end Go.Proofs.Ytmjonggabppgaaa

/- slices.SortFunc at the list's entries keeps its contract (out of the library's shelf). -/
set_option linter.unusedSimpArgs false
set_option linter.unusedVariables false
namespace Go.Proofs
open Go.Shelf Go.RowKit Go.Lib Go.Sort
open Go.Proofs.Ytmjonggabppgaaa (encE)
set_option maxHeartbeats 1000000 in
theorem Try.closureSort (x y : Int × Int) (W : World) : Calls Try.prog 55 #[.agg #[.int .i64 x.1, .int .i64 x.2], .agg #[.int .i64 y.1, .int .i64 y.2]] W fun e w' => e = .returned (.int .i64 (Lib.compareInt x.1 y.1)) ∧ ∃ q os', w' = grow (W.drewN q) os' := by
  have hcon := fun W' => AnyG.cmp_Compare_int Try.cmpInt x.1 y.1 W'
  change ∀ W', Calls Try.prog 56 _ _ _ at hcon
  generalize Lib.compareInt x.1 y.1 = r at hcon ⊢
  go_enter Try.func55, Try.ntmps55
  go_wp2_with (go_at_call 56; refine (hcon _).mono ?_; rintro e w' ⟨rfl, rfl⟩)
  go_ret
  exact ⟨rfl, 0, _, by rw [alloc_eq_grow, alloc_eq_grow, grow_grow]; rfl⟩
theorem Try.ltPage (x y : Int × Int) : ltOf (fun x y : Int × Int => Lib.compareInt x.1 y.1) x y = decide (x.1 < y.1) := by
  unfold ltOf Lib.compareInt
  by_cases h1 : x.1 < y.1
  · simp [h1]
  · by_cases h2 : y.1 < x.1 <;> simp [h1, h2]
theorem Try.swoPage : SWO (ltOf fun x y : Int × Int => Lib.compareInt x.1 y.1) where
  irrefl x := by rw [Try.ltPage]; simp
  trans x y z h1 h2 := by rw [Try.ltPage] at *; simp at *; omega
  ntrans x y z h1 h2 := by rw [Try.ltPage] at *; simp at *; omega
theorem Try.sortEntries (blk cap : Nat) (d : Array (Int × Int)) (w : World) (hH : HoldsK encE 2 w blk 0 d) (hblk : blk < w.heap.size) (hsz : d.size < 4611686018427387904) :
    Calls Try.prog 54 #[.slice (some ⟨blk, 0, none⟩) d.size cap, .func (.func 55) #[] #[]] w fun e w' => e = .returned (.tuple #[]) ∧
      ∃ d' n os, PermIn 0 d.size d d' ∧ SortedIn (ltOf fun x y : Int × Int => Lib.compareInt x.1 y.1) 0 d.size d' ∧ w' = sortWorldK encE 2 w blk 0 n d' os := by
  have eg : ∀ args w, (callFunc 55 args).run Try.prog w = .ok (.enter 55 args) w := enters_of Try.func55 (by kernel_rfl) rfl
  exact AnyQ.slices_SortFunc Try.sortEn 2 Try.isAgg85 Try.sizeOf85 encE (fun _ => rfl) (fun x v hv => by simp [encE] at hv; rcases hv with rfl | rfl <;> rfl) (fun x y => Lib.compareInt x.1 y.1) Try.swoPage 55 #[] blk 0 cap d w eg
    (fun _ _ _ _ x y => Try.closureSort x y _) hH hblk hsz
theorem Try.sortNone (p : Option Addr) (cap : Nat) (fv : Value) (w : World) :
    Calls Try.prog 54 #[.slice p 0 cap, fv] w fun e w' => e = .returned (.tuple #[]) ∧ w' = w := AnyF.slices_SortFunc_none Try.sortEn p cap fv w
end Go.Proofs
namespace Go.Proofs.Ytmjonggabppgaaa
noncomputable section
open Go.Eng
theorem sort_ok {G : Type} (S : Sig G) (hS : FreeSig S) : CtrOk S Try.prog 54 sortCtr :=
  sort_of S hS (fun blk cap d w h1 h2 h3 => Try.sortEntries blk cap d w h1 h2 h3) (fun p cap fv w => Try.sortNone p cap fv w)
end
end Go.Proofs.Ytmjonggabppgaaa

/- New, whatever it is given: the program's and the reference's. -/
set_option linter.unusedSimpArgs false
set_option linter.unusedVariables false
namespace Go.Proofs.Ytmjonggabppgaaa
noncomputable section
open Go.Eng
def nwR (L : List Int) (n : Int) : List (List Int) := @dite _ (∃ R, sortB (entsB L n) R = true) (Classical.propDecidable _) (fun h => Classical.choose h) (fun _ => [])
def nwS (L : List Int) (n : Int) : FL := ⟨nwR L n, [], 0⟩
def nwE (L : List Int) (n : Int) : Int := bif allNB L n then (bif distB L n then 0 else 100) else 30
theorem nwS_eq {L : List Int} {n : Int} {R : List (List Int)} (h : sortB (entsB L n) R = true) : nwS L n = ⟨R, [], 0⟩ := by
  have hx : ∃ R, sortB (entsB L n) R = true := ⟨R, h⟩
  have : nwR L n = R := by
    unfold nwR
    rw [dif_pos hx]
    exact sort_one (Classical.choose_spec hx) h
  unfold nwS; rw [this]
def nwP (Q : Int → FL → HProp) (p : Int) (s : FL) : HProp := bif decide (p < 0) then emp else Q p s
theorem nwP_neg {Q : Int → FL → HProp} {p : Int} {s : FL} (h : p < 0) : nwP Q p s = emp := by unfold nwP; rw [decide_eq_true h]; rfl
theorem nwP_pos {Q : Int → FL → HProp} {p : Int} {s : FL} (h : 0 ≤ p) : nwP Q p s = Q p s := by unfold nwP; rw [decide_eq_false (by omega)]; rfl
structure PlSig (S : Sig FL) : Prop where
  p30 : ∀ w0 k x, S.prd 30 w0 k x = nwP freeP k.toInt (gOf x)
  p31 : ∀ w0 k x, S.prd 31 w0 k x = nwP refP k.toInt (gOf x)
  u90 : ∀ a b c d, S.usr 90 a b c d = .g (nwS a.toInts b.toInt)
  u91 : ∀ a b c d, S.usr 91 a b c d = .int (nwE a.toInts b.toInt)
def newUC (k : Nat) : Ctr := ⟨[.int, .int, .int, .int, .ints, .int], [.one (.slice (ai 0) (ai 1) (.int 0) (.int 0) (ai 2) (ai 3) 1)], [rdI 0 0],
  [eLe (.int 0) (ai 2), eLe (ai 2) (.f1 30 (xsA 4)), eLe (ai 2) (.int 1048576)], [.int, .int], .tup [(false, [.ptr (ai 6) 0]), (false, [.int .i64 (ai 7)])], [rdI 0 0, .prd k (ai 6) (usG 90 (xsA 4) (ai 2) z0)],
  [.f2 45 (ai 7) (usI 91 (xsA 4) (ai 2) z0), .f2 50 (.f2 49 (eLt (ai 6) z0) (.f1 2 (.f2 45 (ai 7) z0))) (.f2 49 (eLe z0 (ai 6)) (.f2 45 (ai 7) z0))]⟩
def celN (B b n c : Int) : HProp := fun h => 0 ≤ B ∧ row B.toNat 0 [slV b n c, slV (-1) 0 0, .int .i64 0] true h
theorem mk_none : arrDen sig0 mkT (.int (-1)) (.rows []) (.int 0) = emp := by
  funext h
  refine propext ⟨fun hx => ?_, fun hx => ⟨[], rfl, Int.le_refl 0, .inr rfl, by rw [show mkT.vals (.rows [] : U FL) ++ [] = [] from rfl, row_nil]; exact hx⟩⟩
  obtain ⟨sp, l1, _, _, l4⟩ := hx
  have : sp = [] := List.eq_nil_of_length_eq_zero (by have : (mkT.vals (.rows [] : U FL)).length = 0 := rfl; rw [this] at l1; simpa using l1)
  subst this
  rw [show mkT.vals (.rows [] : U FL) ++ [] = [] from rfl, row_nil] at l4
  exact l4
theorem free_new {B b c : Int} {R : List (List Int)} {h : Hl} (hg : GoodP R) (hh : star (celN B b R.length c) (arrDen sig0 enT (.int b) (.rows R) (.int c)) h) : freeP B ⟨R, [], 0⟩ h := by
  refine ⟨hg, b, R.length, c, -1, 0, 0, R, by omega, by omega, List.take_of_length_le (by omega), ?_⟩
  have hm : ∀ h, emp h → marksP [-1, 0, 0] ⟨R, [], 0⟩ h := fun h hx => by
    refine ⟨[], by simp, by simp, ?_⟩
    show star (arrDen sig0 mkT (.int (-1)) (.rows []) (.int 0)) emp h
    rw [star_emp, mk_none]; exact hx
  exact star_mono (fun _ h => h) (star_mono (fun _ h => h) hm) h (by rw [star_emp]; exact hh)
theorem ref_new {B b c : Int} {R : List (List Int)} {h : Hl} (hg : GoodP R) (hh : star (celN B b R.length c) (arrDen sig0 enT (.int b) (.rows R) (.int c)) h) : refP B ⟨R, [], 0⟩ h := by
  refine ⟨b, c, -1, 0, 0, [], [], hg, by decide, by decide, trivial, ?_⟩
  rw [mk_none]
  show star _ (star _ (star emp emp)) h
  rw [star_emp, star_emp]
  exact hh
theorem newU_ok (S : Sig FL) (hF : FreeSig S) (hN : PlSig S) {f k : Nat} {Q : Int → FL → HProp} (hk : ∀ w0 a x, S.prd k w0 a x = nwP Q a.toInt (gOf x))
    (hQ : ∀ {B b c : Int} {R : List (List Int)} {h : Hl}, GoodP R → star (celN B b R.length c) (arrDen sig0 enT (.int b) (.rows R) (.int c)) h → Q B ⟨R, [], 0⟩ h)
    (hA : CtrOk S Try.prog f newACtr) (hB : CtrOk S Try.prog f newBCtr) (hC : CtrOk S Try.prog f newCCtr) : CtrOk S Try.prog f (newUC k) := by
  intro ch w0 F ρ w xs ha hr hs
  obtain ⟨_, f1, f2, f3, f4, _⟩ := hF
  have r0 := hr (eLe (.int 0) (ai 2)) (by simp [newUC])
  have r1 := hr (eLe (ai 2) (.f1 30 (xsA 4))) (by simp [newUC])
  have r2 := hr (eLe (ai 2) (.int 1048576)) (by simp [newUC])
  have ea : ((allNX (xsA 4) (ai 2)).den S ρ).toProp ↔ allNB (ρ 4).toInts (ρ 2).toInt = true := by simp only [allNX, xsA, ai, SX.den, co_int, co_ints, co_bool, f2, U.toInts_ints, U.toInt_int, U.toProp_bool, U.toBool_bool]
  have ed : ((distX (xsA 4) (ai 2)).den S ρ).toProp ↔ distB (ρ 4).toInts (ρ 2).toInt = true := by simp only [distX, xsA, ai, SX.den, co_int, co_ints, co_bool, f4, U.toInts_ints, U.toInt_int, U.toProp_bool, U.toBool_bool]
  have na : ((SX.f1 2 (allNX (xsA 4) (ai 2))).den S ρ).toProp ↔ allNB (ρ 4).toInts (ρ 2).toInt = false := by simp only [allNX, xsA, ai, SX.den, co_int, co_ints, co_bool, f2, ap1_2, U.toInts_ints, U.toInt_int, U.toProp_bool, U.toBool_bool, Bool.not_eq_true']
  have nd : ((SX.f1 2 (distX (xsA 4) (ai 2))).den S ρ).toProp ↔ distB (ρ 4).toInts (ρ 2).toInt = false := by simp only [distX, xsA, ai, SX.den, co_int, co_ints, co_bool, f4, ap1_2, U.toInts_ints, U.toInt_int, U.toProp_bool, U.toBool_bool, Bool.not_eq_true']
  have hrd : ∀ ρa : Go.Eng.Env FL, (∀ i, i < 6 → ρa i = ρ i) → (rdI 0 0).den (S.wc ch) ρa w0 = (rdI 0 0).den (S.wc ch) ρ w0 := fun ρa h => by
    simp only [rdI, Ch.den, xsA, ai, SX.den, h 0 (by decide), h 1 (by decide), h 4 (by decide), h 5 (by decide), Nat.zero_add, Nat.reduceAdd]
  have hE0 : nwE (ρ 4).toInts (ρ 2).toInt = nwE (ρ 4).toInts (ρ 2).toInt := rfl
  have fin : ∀ (p e : Int) (w' : World) (G : HProp), (p < 0 ∧ e ≠ 0 ∨ 0 ≤ p ∧ e = 0) → nwE (ρ 4).toInts (ρ 2).toInt = e → (∀ h, G h → nwP Q p (nwS (ρ 4).toInts (ρ 2).toInt) h) → Sat w0 (star (star ((rdI 0 0).den (S.wc ch) ρ w0) G) F) w' →
      Sat w0 (star (hpDen (S.wc ch) ((ρ.upd 6 (.int p)).upd 7 (.int e)) w0 (newUC k).post) F) w' ∧ ∀ x ∈ (newUC k).facts, (x.den S ((ρ.upd 6 (.int p)).upd 7 (.int e))).toProp := by
    intro p e w' G hpe hE hG hsat
    have e2 : hpDen (S.wc ch) ((ρ.upd 6 (.int p)).upd 7 (.int e)) w0 (newUC k).post = star ((rdI 0 0).den (S.wc ch) ((ρ.upd 6 (.int p)).upd 7 (.int e)) w0) (star (S.prd k w0 ((ai 6).den (S.wc ch) ((ρ.upd 6 (.int p)).upd 7 (.int e))) ((usG 90 (xsA 4) (ai 2) z0).den (S.wc ch) ((ρ.upd 6 (.int p)).upd 7 (.int e)))) emp) := rfl
    have hw : (S.wc ch).usr = S.usr := rfl
    have e3 : gOf ((usG 90 (xsA 4) (ai 2) z0).den (S.wc ch) ((ρ.upd 6 (.int p)).upd 7 (.int e))) = nwS (ρ 4).toInts (ρ 2).toInt := by
      simp only [usG, xsA, ai, z0, SX.den, hw, hN.u90, co_int, co_ints, co_g, gOf_g, Env.upd, Nat.reduceEqDiff, reduceIte, U.toInts_ints, U.toInt_int]
    have e4 : ((ai 6).den (S.wc ch) ((ρ.upd 6 (.int p)).upd 7 (.int e))).toInt = p := rfl
    have e5 : nwE ((ρ.upd 6 (.int p)).upd 7 (.int e) 4).toInts ((ρ.upd 6 (.int p)).upd 7 (.int e) 2).toInt = e := hE
    constructor
    · rw [e2, star_emp, hk, e3, e4, hrd _ fun i hi => by unfold Env.upd; rw [if_neg (by omega), if_neg (by omega)]]
      obtain ⟨x, ⟨a, b, d, rfl, ha, hb⟩, hi⟩ := hsat
      exact ⟨_, ⟨a, b, d, rfl, star_mono (fun _ h => h) hG _ ha, hb⟩, hi⟩
    · intro x hx
      simp only [newUC, List.mem_cons, List.not_mem_nil, or_false] at hx
      rcases hx with rfl | rfl
      · simp only [usI, xsA, ai, z0, SX.den, hN.u91, co_int, co_ints, p45, U.toInts_ints, U.toInt_int]
        exact hE.symm
      · simp only [eLt, eLe, SX.mk2, ai, z0, SX.den, co_int, U.toInt_int, ap1_2, ap2_49, ap2_50, ap2_45, ap2_46, ap2_47, Env.upd, Nat.reduceEqDiff, reduceIte, U.toProp_bool, U.toBool_bool]
        rcases hpe with ⟨h1, h2⟩ | ⟨h1, h2⟩
        · simp [h1, h2]
        · simp [h1, h2]
  have bad : ∀ (e : Int) (sp : Ctr), sp.ss.length = 6 → sp.res = .tup [(false, [.ptr (.int (-1)) 0]), (false, [.int .i64 (.int e)])] → sp.post = [rdI 0 0] → e ≠ 0 → nwE (ρ 4).toInts (ρ 2).toInt = e →
      Calls Try.prog f xs.toArray w (fun e w' => ∃ ρ' v, Ext sp.ss.length ρ ρ' ∧ e = .returned v ∧ sp.res.R S ρ' v ∧ Sat w0 (star (hpDen (S.wc ch) ρ' w0 sp.post) F) w' ∧ ∀ x ∈ sp.facts, (x.den S ρ').toProp) →
      Calls Try.prog f xs.toArray w (fun e w' => ∃ ρ' v, Ext (newUC k).ss.length ρ ρ' ∧ e = .returned v ∧ (newUC k).res.R S ρ' v ∧ Sat w0 (star (hpDen (S.wc ch) ρ' w0 (newUC k).post) F) w' ∧ ∀ x ∈ (newUC k).facts, (x.den S ρ').toProp) := by
    intro e sp hl hres hpost he hE hc
    refine hc.mono ?_
    rintro e' w' ⟨ρ', v, hx, rfl, hv, hsat, _⟩
    rw [hl] at hx
    have hv : v = sp.res.den S ρ' := hv.resolve_left (by rw [hres]; exact fun h => Bool.noConfusion h)
    obtain ⟨h1, h2⟩ := fin (-1) e w' emp (.inl ⟨by decide, he⟩) hE (fun h hh => by rw [nwP_neg (by decide)]; exact hh) (by
      rw [hpost] at hsat
      rw [← hrd ρ' hx]
      exact hsat)
    exact ⟨_, v, fun i hi => by
      have hi : i < 6 := hi
      unfold Env.upd; rw [if_neg (by omega), if_neg (by omega)], rfl, .inr (by rw [hv, hres]; rfl), h1, h2⟩
  cases hall : allNB (ρ 4).toInts (ρ 2).toInt
  · refine bad 30 newBCtr rfl rfl rfl (by decide) (by unfold nwE; rw [hall]; rfl) (hB ch w0 F ρ w xs ha (fun e he => ?_) hs)
    simp only [newBCtr, List.mem_cons, List.not_mem_nil, or_false] at he
    rcases he with rfl | rfl | rfl | rfl
    · exact r0
    · exact r1
    · exact r2
    · exact na.2 hall
  · cases hdi : distB (ρ 4).toInts (ρ 2).toInt
    · refine bad 100 newCCtr rfl rfl rfl (by decide) (by unfold nwE; rw [hall, hdi]; rfl) (hC ch w0 F ρ w xs ha (fun e he => ?_) hs)
      simp only [newCCtr, List.mem_cons, List.not_mem_nil, or_false] at he
      rcases he with rfl | rfl | rfl | rfl | rfl
      · exact r0
      · exact r1
      · exact r2
      · exact ea.2 hall
      · exact nd.2 hdi
    · refine (hA ch w0 F ρ w xs ha (fun e he => ?_) hs).mono ?_
      · simp only [newACtr, List.mem_cons, List.not_mem_nil, or_false] at he
        rcases he with rfl | rfl | rfl | rfl | rfl
        · exact r0
        · exact r1
        · exact r2
        · exact ea.2 hall
        · exact ed.2 hdi
      rintro e' w' ⟨ρ', v, hx, rfl, hv, hsat, hfacts⟩
      have hx6 : ∀ i, i < 6 → ρ' i = ρ i := hx
      have hv : v = newACtr.res.den S ρ' := hv.resolve_left (by decide)
      have q1 := hfacts (sortX (entsX (xsA 4) (ai 2)) (rwA 9)) (by simp [newACtr])
      have q2 := hfacts (eLe (.int 0) (ai 6)) (by simp [newACtr])
      simp only [sortX, entsX, xsA, rwA, ai, eLe, SX.mk2, SX.den, f1, f3, co_int, co_ints, co_rows, co_bool, p47, U.toInts_ints, U.toRows_rows, U.toInt_int, U.toProp_bool, U.toBool_bool, hx6 4 (by decide), hx6 2 (by decide)] at q1 q2
      simp only [eLe, SX.mk2, xsA, SX.den, ai, co_int, co_ints, p47, ap1_30, U.toInt_int, U.toInts_ints] at r0 r1 r2
      have hs1 := sort_size r0 r1 q1
      have hg := sort_good r0 r1 hall hdi q1
      obtain ⟨h1, h2⟩ := fin (ρ' 6).toInt 0 w' (star (celN (ρ' 6).toInt (ρ' 7).toInt ((ρ' 9).toRows.length) (ρ' 8).toInt) (arrDen sig0 enT (.int (ρ' 7).toInt) (.rows (ρ' 9).toRows) (.int (ρ' 8).toInt))) (.inr ⟨q2, rfl⟩) (by unfold nwE; rw [hall, hdi]; rfl) (fun h hh => by
        rw [nwP_pos q2, nwS_eq q1]; exact hQ hg hh) (by
        rw [← hrd ρ' hx6]
        have e : hpDen (S.wc ch) ρ' w0 newACtr.post = star ((rdI 0 0).den (S.wc ch) ρ' w0) (star ((Ch.cel (ai 6) 0 [slC (ai 7) (ai 2) (ai 8) 2, slC (.int (-1)) z0 z0 2, .int .i64 (.int 0)]).den (S.wc ch) ρ' w0) (star (arrDen (S.wc ch) enT ((ai 7).den (S.wc ch) ρ') ((rA 9).den (S.wc ch) ρ') ((ai 8).den (S.wc ch) ρ')) emp)) := rfl
        rw [e, star_emp] at hsat
        simp only [Ch.den, List.map_cons, List.map_nil, slC_den, SC.den, SX.den, ai, rA, z0, co_int, co_rows, U.toInt_int, reduceCtorEq, or_false, hx6 2 (by decide)] at hsat
        rw [← hs1] at hsat
        exact hsat)
      exact ⟨_, v, fun i hi => by
        have hi : i < 6 := hi
        unfold Env.upd; rw [if_neg (by omega), if_neg (by omega)], rfl, .inr (by rw [hv]; rfl), h1, h2⟩
end
end Go.Proofs.Ytmjonggabppgaaa

/- A list of calls (three integers each), as it is handed in, opened. -/
set_option linter.unusedVariables false
namespace Go.Eng
open Go.ChangeShapes Go.WideShapes Go.Deep
theorem field1 {cs : List Value} {i : Nat} {v : Value} (h : (cs.drop i).take 1 = [v]) : cs[i]? = some v := by
  have h2 : ((cs.drop i).take 1)[0]? = some v := by rw [h]; rfl
  rw [List.getElem?_take_of_lt (by omega), List.getElem?_drop] at h2
  simpa using h2
theorem open_ops {H : Type} {enc : TypeId × Value → H} {P : Program} {w : World} {base : Nat} {spare : Nat → Bool} {held : Bool} {t e : TypeId} {g0 g1 g2 : Field} {fuel : Nat} {cs : List Value} {x : DataW H × List MemPlace}
    (ht : P.underlying t = some (.slice e)) (he : P.underlying e = some (.struct #[g0, g1, g2])) (ce : P.cellsOf e = 3) (o0 : g0.offset = 0) (o1 : g1.offset = 1) (o2 : g2.offset = 2)
    (c0 : P.cellsOf g0.type = 1) (c1 : P.cellsOf g1.type = 1) (c2 : P.cellsOf g2.type = 1) (k0 : P.underlying g0.type = some (.int .i64)) (k1 : P.underlying g1.type = some (.int .i64)) (k2 : P.underlying g2.type = some (.int .i64))
    (h : DataW.trod enc P w base spare held fuel t cs = some x) :
    (cs = [.slice none 0 0] ∧ x = (.nil, [])) ∨
    ∃ (a : Addr) (len cap : Nat) (rows : List (List Int)), cs = [.slice (some a) len cap] ∧ base ≤ a.block ∧ len ≤ cap ∧ cap ≤ maxLen ∧ len ≤ rows.length ∧ (∃ ds sp, x.1 = .slice ds sp ∧ ds.length = len) ∧
      ∀ j v, (rows.flatMap (rowVals [.int .i64, .int .i64, .int .i64]))[j]? = some v → w.cell? (a.add j) = some v := by
  rcases open_slice ht h with h0 | ⟨a, len, cap, m, n, D, Pl, rfl, hb, hl, hm, hmm, hxx, hx⟩
  · exact .inl h0
  right
  have hlm : len ≤ m := by rw [hmm]; split <;> omega
  have each : ∀ i, i < m → ∃ q : List Int, ∀ j, j < 3 → ∃ v, (rowVals [.int .i64, .int .i64, .int .i64] q)[j]? = some v ∧ w.cell? (a.add (i * 3 + j)) = some v := by
    intro i hi
    obtain ⟨cs', h1, h2⟩ := hx i hi
    rw [ce] at h1
    obtain ⟨_, hlen, hcell⟩ := World.cells?_some h1
    obtain ⟨xs, k, hk, _, _, hxl, hf⟩ := DataW.trod_struct he h2
    have f0 := hf 0 g0 rfl
    have f1 := hf 1 g1 rfl
    have f2 := hf 2 g2 rfl
    rw [o0, c0, List.getElem?_eq_getElem (by rw [hxl]; show _ < 3; omega)] at f0
    rw [o1, c1, List.getElem?_eq_getElem (by rw [hxl]; show _ < 3; omega)] at f1
    rw [o2, c2, List.getElem?_eq_getElem (by rw [hxl]; show _ < 3; omega)] at f2
    obtain ⟨n0, e0, _, _⟩ := DataW.trod_int k0 f0
    obtain ⟨n1, e1, _, _⟩ := DataW.trod_int k1 f1
    obtain ⟨n2, e2, _, _⟩ := DataW.trod_int k2 f2
    have e0 := field1 e0
    have e1 := field1 e1
    have e2 := field1 e2
    have d := fun j hj => hcell j hj
    refine ⟨[n0, n1, n2], fun j hj => ?_⟩
    have hc := hcell j (by omega)
    rw [add_add] at hc
    match j, hj with
    | 0, _ => exact ⟨_, rfl, by rw [hc, e0]; rfl⟩
    | 1, _ => exact ⟨_, rfl, by rw [hc, e1]; rfl⟩
    | 2, _ => exact ⟨_, rfl, by rw [hc, e2]; rfl⟩
  obtain ⟨q, hq⟩ := choose_lt each
  refine ⟨a, len, cap, (List.range m).map q, rfl, hb, hl, hm, by rw [List.length_map, List.length_range]; exact hlm, ⟨_, _, by rw [hxx], by rw [List.length_map, List.length_range]⟩, fun j v hj => ?_⟩
  have hlen3 : ∀ r : List Int, (rowVals [.int .i64, .int .i64, .int .i64] r).length = 3 := fun r => rowVals_length _ r
  have hjlt : j < m * 3 := by
    rcases Nat.lt_or_ge j (m * 3) with h' | h'
    · exact h'
    · rw [List.getElem?_eq_none (by rw [flatMap_length _ 3 hlen3, List.length_map, List.length_range]; exact h')] at hj; cases hj
  have hdm : j = j / 3 * 3 + j % 3 := by omega
  rw [hdm, flatMap_get _ 3 hlen3 _ _ _ (Nat.mod_lt _ (by decide)), List.getElem?_map, List.getElem?_range (by omega)] at hj
  obtain ⟨v', h1, h2⟩ := hq (j / 3) (by omega) (j % 3) (Nat.mod_lt _ (by decide))
  have hj' : (rowVals [.int .i64, .int .i64, .int .i64] (q (j / 3)))[j % 3]? = some v := hj
  rw [h1] at hj'
  cases hj'
  rw [hdm]; exact h2
/-- What is known of a slice that is handed in. -/
def ArgIs {H : Type} (w : World) (v : Value) (d : DataW H) (b o l c : Int) (n : Nat) (vals : List Value) : Prop :=
  v = .slice (if b < 0 then none else some ⟨b.toNat, o.toNat, none⟩) l.toNat c.toNat ∧ 0 ≤ l ∧ l ≤ n ∧ l ≤ c ∧ l ≤ 9223372036854775807 ∧
    ((0 ≤ b ∨ vals = []) ∧ ∀ i u, vals[i]? = some u → b.toNat < w.heap.size ∧ w.cell? ⟨b.toNat, o.toNat + i, none⟩ = some u) ∧ (d = .nil ∧ l = 0 ∨ ∃ ds sp, d = .slice ds sp ∧ (ds.length : Int) = l)
theorem slice_spot {P : Program} {W : World} {base : Nat} {t e : TypeId} {a : Addr} {len cap : Nat} (ht : P.underlying t = some (.slice e)) (hv : Value.okWide P W .any base t (.slice (some a) len cap)) : a.spot = none := by
  unfold Value.okWide at hv
  rw [ht] at hv
  unfold Cell.okWide at hv
  rw [ht] at hv
  simp only [Cell.ok] at hv
  rw [ht] at hv
  exact hv.2.2.2.1
theorem arg_ops {H : Type} {enc : TypeId × Value → H} {P : Program} {W : World} {base : Nat} {t e : TypeId} {g0 g1 g2 : Field} {v : Value} {d : DataW H} {ps : List MemPlace}
    (ht : P.underlying t = some (.slice e)) (he : P.underlying e = some (.struct #[g0, g1, g2])) (ce : P.cellsOf e = 3) (o0 : g0.offset = 0) (o1 : g1.offset = 1) (o2 : g2.offset = 2)
    (c0 : P.cellsOf g0.type = 1) (c1 : P.cellsOf g1.type = 1) (c2 : P.cellsOf g2.type = 1) (k0 : P.underlying g0.type = some (.int .i64)) (k1 : P.underlying g1.type = some (.int .i64)) (k2 : P.underlying g2.type = some (.int .i64))
    (hv : Value.okWide P W .any base t v) (h : DataW.Trod enc P W 0 (fun _ => true) true t v d ps) :
    ∃ (b o l c : Int) (L : List (List Int)), ArgIs W v d b o l c L.length (L.flatMap (rowVals [.int .i64, .int .i64, .int .i64])) := by
  obtain ⟨fuel, hf⟩ := h
  obtain ⟨a0, len, cap, rfl⟩ := okWide_slice ht hv
  rcases open_ops ht he ce o0 o1 o2 c0 c1 c2 k0 k1 k2 hf with ⟨hcs, hx⟩ | ⟨a, len', cap', rows, hcs, _, hl, hm, hz, hd, hcell⟩
  · simp [Value.cells] at hcs
    obtain ⟨rfl, rfl, rfl⟩ := hcs
    simp only [Prod.mk.injEq] at hx
    exact ⟨-1, 0, 0, 0, [], rfl, by decide, by decide, by decide, by decide, ⟨.inr rfl, fun i u hu => by simp at hu⟩, .inl ⟨hx.1, rfl⟩⟩
  · simp [Value.cells] at hcs
    obtain ⟨rfl, rfl, rfl⟩ := hcs
    have hspot := slice_spot ht hv
    obtain ⟨b, off, spot⟩ := a
    simp only at hspot
    subst hspot
    have hmax : maxLen = 9223372036854775807 := by decide
    obtain ⟨ds, sp, h1, h2⟩ := hd
    refine ⟨b, off, len, cap, rows, by rw [if_neg (by omega)]; simp, by omega, by omega, by omega, by omega, ⟨.inl (by omega), fun i u hu => ?_⟩, .inr ⟨ds, sp, h1, by omega⟩⟩
    have hc := hcell i u hu
    rw [add_plain] at hc
    exact ⟨by simpa using (World.block_lt_of_cell? W ⟨b, off + i, none⟩ hc), by simpa using hc⟩
theorem arg_ints {H : Type} {enc : TypeId × Value → H} {P : Program} {W : World} {base : Nat} {t e : TypeId} {v : Value} {d : DataW H} {ps : List MemPlace}
    (ht : P.underlying t = some (.slice e)) (he : P.underlying e = some (.int .i64)) (ce : P.cellsOf e = 1)
    (hv : Value.okWide P W .any base t v) (h : DataW.Trod enc P W 0 (fun _ => true) true t v d ps) :
    ∃ (b o l c : Int) (L : List Int), ArgIs W v d b o l c L.length (L.map (Value.int .i64)) := by
  obtain ⟨fuel, hf⟩ := h
  obtain ⟨a0, len, cap, rfl⟩ := okWide_slice ht hv
  rcases open_ints ht he ce hf with ⟨hcs, hx⟩ | ⟨a, len', cap', zs, hcs, _, hl, hm, hz, hx, hcell, hwz⟩
  · simp [Value.cells] at hcs
    obtain ⟨rfl, rfl, rfl⟩ := hcs
    simp only [Prod.mk.injEq] at hx
    exact ⟨-1, 0, 0, 0, [], rfl, by decide, by decide, by decide, by decide, ⟨.inr rfl, fun i u hu => by simp at hu⟩, .inl ⟨hx.1, rfl⟩⟩
  · simp [Value.cells] at hcs
    obtain ⟨rfl, rfl, rfl⟩ := hcs
    have hspot := slice_spot ht hv
    obtain ⟨b, off, spot⟩ := a
    simp only at hspot
    subst hspot
    have hmax : maxLen = 9223372036854775807 := by decide
    simp only [if_true] at hz
    simp only [Prod.mk.injEq] at hx
    refine ⟨b, off, len, cap, zs, by rw [if_neg (by omega)]; simp, by omega, by omega, by omega, by omega, ⟨.inl (by omega), fun i u hu => ?_⟩, .inr ⟨_, _, hx.1, ?_⟩⟩
    · rw [List.getElem?_map, Option.map_eq_some_iff] at hu
      obtain ⟨x, hx, rfl⟩ := hu
      have hi : i < zs.length := (List.getElem?_eq_some_iff.1 hx).1
      have hc := hcell i hi
      rw [add_plain] at hc
      rw [List.getD_eq_getElem?_getD, hx] at hc
      exact ⟨by simpa using (World.block_lt_of_cell? W ⟨b, off + i, none⟩ hc), by simpa using hc⟩
    · simp only [lits, List.length_map, List.length_take]; omega
end Go.Eng

/- Two lists in turns, any calls: the law's contract. -/
set_option linter.unusedSimpArgs false
set_option linter.unusedVariables false
namespace Go.Proofs.Ytmjonggabppgaaa
noncomputable section
open Go.Eng
def opnC : Ctr := ⟨[.int, .g], [.one (.ptr (ai 0) 0)], [.prd 30 (ai 0) (gA 1)], [eLe (.int 0) (ai 0)], [], .tup [], [freeC (ai 0) (gA 1)], []⟩
def oprC : Ctr := ⟨[.int, .g], [.one (.ptr (ai 0) 0)], [.prd 31 (ai 0) (gA 1)], [eLe (.int 0) (ai 0)], [], .tup [], [refC (ai 0) (gA 1)], []⟩
def nkpC : Ctr := ⟨[.int], [.one (.ptr (ai 0) 0)], [.cel (ai 0) 0 [.int .i64 (.int 0), sl1 (.int (-1)) z0 z0, sl1 (.int (-1)) z0 z0]], [], [], .tup [], [keC (ai 0) (.int 1) (.int 0)], []⟩
def plA : List SV := [.one (.slice (ai 0) (ai 1) z0 z0 (ai 2) (ai 3) 1), .one (.slice (ai 5) (ai 6) z0 z0 (ai 7) (ai 8) 1), .one (.slice (ai 10) (ai 11) z0 z0 (ai 12) (ai 13) 3)]
def plP : List Ch := [.ro (.ints .i64) (ai 0) (ai 1) (iA 4), .ro (.ints .i64) (ai 5) (ai 6) (iA 9), .ro opT (ai 10) (ai 11) (rA 14)]
def plS : List Srt := [.int, .int, .int, .int, .ints, .int, .int, .int, .int, .ints, .int, .int, .int, .int, .rows]
def mil : SX := .int 1048576
def plR : List SX := [eLe (.int 0) (ai 2), eLe (ai 2) (.f1 30 (iA 4)), eLe (ai 2) (ai 3), eLe (ai 2) mil, eLe (.int 0) (ai 7), eLe (ai 7) (.f1 30 (iA 9)), eLe (ai 7) (ai 8), eLe (ai 7) mil,
  eLe (.int 0) (ai 12), eLe (ai 12) (.f1 32 (rA 14)), eLe (ai 12) (ai 13), eLe (ai 12) mil]
def plsCtr : Ctr := ⟨plS, plA, plP, plR, [.bool], .one (.bool (.at .bool 15)), [], [.at .bool 15]⟩
def plsI : Inv := ⟨[.int, .int, .g, .g, .g, .g], [(17, .one (.int .i64 (di 0)))], [keC (ai 23) (.int 1) (di 1), freeC (ai 15) (gA 1000002), refC (ai 17) (gA 1000003), freeC (ai 19) (gA 1000004), refC (ai 21) (gA 1000005)],
  [eLe (.int 0) (di 0), eLe (di 0) (ai 12), eLe (di 1) (di 0), usB 92 (gA 1000002) (gA 1000003) z0, usB 92 (gA 1000004) (gA 1000005) z0, eLe (usI 20 (gA 1000002) z0 z0) (di 0), eLe (usI 20 (gA 1000004) z0 z0) (di 0)], .f2 41 (ai 12) (di 0)⟩
def plsCx : Cx := { specs := [(10, [Go.Eng.yes]), (27, [newUC 30]), (28, [newUC 31]), (32, [stpCtr]), (26, [stdCtr])], anns := [(7, [(8, .ghost opnC [.tmp 8]), (8, .ghost opnC [.tmp 12]), (8, .ghost oprC [.tmp 10]), (8, .ghost oprC [.tmp 14]), (9, .ghost nkpC [.tmp 16]), (10, .inv plsI)])] }
theorem opn_gh (S : Sig FL) (hS : FlSig S) (hN : PlSig S) : GhOk S opnC := by
  refine gh_mk S fun T w0 ρ h hu hp hd hr hpre => ⟨ρ, Ext.refl _ _, ?_, by intro x hx; exact nomatch hx⟩
  have e1 : hpDen T ρ w0 opnC.pre = star (T.prd 30 w0 ((ai 0).den T ρ) ((gA 1).den T ρ)) emp := rfl
  have e2 : hpDen T ρ w0 opnC.post = star (T.prd 0 w0 ((ai 0).den T ρ) ((gA 1).den T ρ)) emp := rfl
  have r0 := hr (eLe (.int 0) (ai 0)) (by simp [opnC])
  simp only [eLe, SX.mk2, SX.den, ai, co_int, U.toInt_int, p47] at r0
  rw [e1, star_emp, hp, hN.p30, nwP_pos (by exact r0)] at hpre
  rw [e2, star_emp, hp, hS.p0]
  exact hpre
theorem opr_gh (S : Sig FL) (hR : RfSig S) (hN : PlSig S) : GhOk S oprC := by
  refine gh_mk S fun T w0 ρ h hu hp hd hr hpre => ⟨ρ, Ext.refl _ _, ?_, by intro x hx; exact nomatch hx⟩
  have e1 : hpDen T ρ w0 oprC.pre = star (T.prd 31 w0 ((ai 0).den T ρ) ((gA 1).den T ρ)) emp := rfl
  have e2 : hpDen T ρ w0 oprC.post = star (T.prd 10 w0 ((ai 0).den T ρ) ((gA 1).den T ρ)) emp := rfl
  have r0 := hr (eLe (.int 0) (ai 0)) (by simp [oprC])
  simp only [eLe, SX.mk2, SX.den, ai, co_int, U.toInt_int, p47] at r0
  rw [e1, star_emp, hp, hN.p31, nwP_pos (by exact r0)] at hpre
  rw [e2, star_emp, hp, hR.p10]
  exact hpre
theorem sl_none : arrDen sig0 slT (.int (-1)) (.rows []) (.int 0) = emp := by
  funext h
  refine propext ⟨fun hx => ?_, fun hx => ⟨[], rfl, Int.le_refl 0, .inr rfl, by rw [show slT.vals (.rows [] : U FL) ++ [] = [] from rfl, row_nil]; exact hx⟩⟩
  obtain ⟨sp, l1, _, _, l4⟩ := hx
  have : sp = [] := List.eq_nil_of_length_eq_zero (by have : (slT.vals (.rows [] : U FL)).length = 0 := rfl; rw [this] at l1; simpa using l1)
  subst this
  rw [show slT.vals (.rows [] : U FL) ++ [] = [] from rfl, row_nil] at l4
  exact l4
theorem nkp_gh (S : Sig FL) (hK : KpSig S) : GhOk S nkpC := by
  refine gh_mk S fun T w0 ρ h hu hp hd hr hpre => ⟨ρ, Ext.refl _ _, ?_, by intro x hx; exact nomatch hx⟩
  have e1 : hpDen T ρ w0 nkpC.pre = star ((Ch.cel (ai 0) 0 [.int .i64 (.int 0), sl1 (.int (-1)) z0 z0, sl1 (.int (-1)) z0 z0]).den T ρ w0) emp := rfl
  have e2 : hpDen T ρ w0 nkpC.post = star (T.prd 20 w0 ((ints2 (ai 0) (.int 1)).den T ρ) ((SX.int 0).den T ρ)) emp := rfl
  rw [e1, star_emp] at hpre
  rw [e2, star_emp, hp, hK.p20]
  simp only [sl1, Ch.den, List.map_cons, List.map_nil, slC_den, SC.den, SX.den, ai, z0, co_int, U.toInt_int, reduceCtorEq, or_false] at hpre
  simp only [ints2, nilI, SX.den, ai, co_int, ap2_122, ap1_152, U.toInts_ints, U.toInt_int]
  refine ⟨-1, 0, 0, -1, 0, [], [], by decide, by decide, by decide, by decide, ?_⟩
  rw [sl_none]
  show star _ (star emp (star emp emp)) h
  rw [star_emp, star_emp, star_emp]
  exact hpre
theorem rel_new (L : List Int) (n : Int) : relB (nwS L n) (nwS L n) = true := relB_iff.2 ⟨rfl, rfl, Int.le_refl 0, rfl, List.Pairwise.nil, fun x hx => nomatch hx⟩
theorem ltB_dec (a b : Int) : ltB a b = decide (a < b) := by
  rw [Bool.eq_iff_iff, decide_eq_true_iff]; exact iff_of_eq (b46 (.int a : U FL) (.int b))
theorem leB_dec (a b : Int) : leB a b = decide (a ≤ b) := by
  rw [Bool.eq_iff_iff, decide_eq_true_iff]; exact iff_of_eq (b47 (.int a : U FL) (.int b))
structure PlAll (S : Sig FL) : Prop where
  free : FreeSig S
  pick : PickSig S
  fl : FlSig S
  mks : MkSig S
  rf : RfSig S
  rs : RsSig S
  kp : KpSig S
  st : StSig S
  pl : PlSig S
-- BEGIN VC pls
def plsVc : VC := (.imp (.f2 47 (.int 0) (.at .int 2)) (.imp (.f2 47 (.at .int 2) (.f1 30 (.at .ints 4))) (.imp (.f2 47 (.at .int 2) (.at .int 3)) (.imp (.f2 47 (.at
    .int 2) (.int 1048576)) (.imp (.f2 47 (.int 0) (.at .int 7)) (.imp (.f2 47 (.at .int 7) (.f1 30 (.at .ints 9))) (.imp (.f2 47 (.at .int 7) (.at
    .int 8)) (.imp (.f2 47 (.at .int 7) (.int 1048576)) (.imp (.f2 47 (.int 0) (.at .int 12)) (.imp (.f2 47 (.at .int 12) (.f1 32 (.at .rows 14)))
    (.imp (.f2 47 (.at .int 12) (.at .int 13)) (.imp (.f2 47 (.at .int 12) (.int 1048576)) (.all 15 .int (.all 16 .int (.imp (.f2 45 (.at .int 16) (.us
    .int 91 (.at .ints 4) (.at .int 2) (.int 0) (.int 0))) (.imp (.f2 50 (.f2 49 (.f2 46 (.at .int 15) (.int 0)) (.f1 2 (.f2 45 (.at .int 16) (.int
    0)))) (.f2 49 (.f2 47 (.int 0) (.at .int 15)) (.f2 45 (.at .int 16) (.int 0)))) (.all 17 .int (.all 18 .int (.imp (.f2 45 (.at .int 18) (.us .int
    91 (.at .ints 4) (.at .int 2) (.int 0) (.int 0))) (.imp (.f2 50 (.f2 49 (.f2 46 (.at .int 17) (.int 0)) (.f1 2 (.f2 45 (.at .int 18) (.int 0))))
    (.f2 49 (.f2 47 (.int 0) (.at .int 17)) (.f2 45 (.at .int 18) (.int 0)))) (.all 19 .int (.all 20 .int (.imp (.f2 45 (.at .int 20) (.us .int 91 (.at
    .ints 9) (.at .int 7) (.int 0) (.int 0))) (.imp (.f2 50 (.f2 49 (.f2 46 (.at .int 19) (.int 0)) (.f1 2 (.f2 45 (.at .int 20) (.int 0)))) (.f2 49
    (.f2 47 (.int 0) (.at .int 19)) (.f2 45 (.at .int 20) (.int 0)))) (.all 21 .int (.all 22 .int (.imp (.f2 45 (.at .int 22) (.us .int 91 (.at .ints
    9) (.at .int 7) (.int 0) (.int 0))) (.imp (.f2 50 (.f2 49 (.f2 46 (.at .int 21) (.int 0)) (.f1 2 (.f2 45 (.at .int 22) (.int 0)))) (.f2 49 (.f2 47
    (.int 0) (.at .int 21)) (.f2 45 (.at .int 22) (.int 0)))) (.and (.imp (.f2 45 (.at .int 16) (.at .int 18)) (.and (.imp (.f2 45 (.at .int 20) (.at
    .int 22)) (.and (.imp (.f2 47 (.int 0) (.at .int 15)) (.and (.imp (.f2 47 (.int 0) (.at .int 19)) (.and (.imp (.f2 47 (.int 0) (.at .int 17)) (.and
    (.imp (.f2 46 (.at .int 21) (.int 0)) (.and (.imp (.f2 45 (.at .int 16) (.at .int 18)) (.and (.imp (.f2 45 (.at .int 20) (.at .int 22)) (.and (.imp
    (.f2 48 (.f2 46 (.at .int 15) (.int 0)) (.f2 46 (.at .int 17) (.int 0))) (.need (.f2 48 (.f2 46 (.at .int 19) (.int 0)) (.f2 46 (.at .int 21) (.int
    0))) .tt)) (.imp (.f1 2 (.f2 48 (.f2 46 (.at .int 15) (.int 0)) (.f2 46 (.at .int 17) (.int 0)))) (.need (.bool .false) .tt)))) .tt)) .tt)) (.imp
    (.f2 47 (.int 0) (.at .int 21)) (.all 23 .int (.imp (.f2 47 (.int 0) (.at .int 23)) (.need (.us .bool 92 (.us .g 90 (.at .ints 4) (.at .int 2)
    (.int 0) (.int 0)) (.us .g 90 (.at .ints 4) (.at .int 2) (.int 0) (.int 0)) (.int 0) (.int 0)) (.need (.us .bool 92 (.us .g 90 (.at .ints 9) (.at
    .int 7) (.int 0) (.int 0)) (.us .g 90 (.at .ints 9) (.at .int 7) (.int 0) (.int 0)) (.int 0) (.int 0)) (.need (.f2 47 (.us .int 20 (.us .g 90 (.at
    .ints 4) (.at .int 2) (.int 0) (.int 0)) (.int 0) (.int 0) (.int 0)) (.int 0)) (.need (.f2 47 (.us .int 20 (.us .g 90 (.at .ints 9) (.at .int 7)
    (.int 0) (.int 0)) (.int 0) (.int 0) (.int 0)) (.int 0)) (.all 24 .int (.all 25 .int (.all 26 .g (.all 27 .g (.all 28 .g (.all 29 .g (.imp (.f2 47
    (.int 0) (.at .int 24)) (.imp (.f2 47 (.at .int 24) (.at .int 12)) (.imp (.f2 47 (.at .int 25) (.at .int 24)) (.imp (.us .bool 92 (.at .g 26) (.at
    .g 27) (.int 0) (.int 0)) (.imp (.us .bool 92 (.at .g 28) (.at .g 29) (.int 0) (.int 0)) (.imp (.f2 47 (.us .int 20 (.at .g 26) (.int 0) (.int 0)
    (.int 0)) (.at .int 24)) (.imp (.f2 47 (.us .int 20 (.at .g 28) (.int 0) (.int 0) (.int 0)) (.at .int 24)) (.and (.imp (.f2 46 (.at .int 24) (.at
    .int 12)) (.and (.imp (.f2 45 (.f2 44 (.at .int 24) (.int 4)) (.int 3)) (.need (.f2 46 (.at .int 24) (.f1 32 (.at .rows 14))) (.need (.f2 47 (.at
    .int 25) (.int 3999999)) (.need (.f2 47 (.us .int 20 (.at .g 28) (.int 0) (.int 0) (.int 0)) (.int 4000000)) (.all 30 .int (.all 31 .g (.all 32 .g
    (.imp (.f2 47 (.at .int 30) (.f2 40 (.at .int 25) (.int 1))) (.imp (.us .bool 92 (.at .g 31) (.at .g 32) (.int 0) (.int 0)) (.imp (.f2 47 (.us .int
    20 (.at .g 31) (.int 0) (.int 0) (.int 0)) (.f2 40 (.us .int 20 (.at .g 28) (.int 0) (.int 0) (.int 0)) (.int 1))) (.need (.f1 23 (.f2 40 (.at .int
    24) (.int 1))) (.need (.f2 47 (.int 0) (.f2 41 (.at .int 12) (.f2 40 (.at .int 24) (.int 1)))) (.need (.f2 46 (.f2 41 (.at .int 12) (.f2 40 (.at
    .int 24) (.int 1))) (.f2 41 (.at .int 12) (.at .int 24))) (.need (.f2 47 (.int 0) (.f2 40 (.at .int 24) (.int 1))) (.need (.f2 47 (.f2 40 (.at .int
    24) (.int 1)) (.at .int 12)) (.need (.f2 47 (.at .int 30) (.f2 40 (.at .int 24) (.int 1))) (.need (.f2 47 (.us .int 20 (.at .g 26) (.int 0) (.int
    0) (.int 0)) (.f2 40 (.at .int 24) (.int 1))) (.need (.f2 47 (.us .int 20 (.at .g 31) (.int 0) (.int 0) (.int 0)) (.f2 40 (.at .int 24) (.int 1)))
    .tt)))))))))))))))))) (.imp (.f1 2 (.f2 45 (.f2 44 (.at .int 24) (.int 4)) (.int 3))) (.need (.f2 46 (.at .int 24) (.f1 32 (.at .rows 14))) (.need
    (.f2 47 (.at .int 25) (.int 3999999)) (.need (.f2 47 (.us .int 20 (.at .g 26) (.int 0) (.int 0) (.int 0)) (.int 4000000)) (.all 30 .int (.all 31 .g
    (.all 32 .g (.imp (.f2 47 (.at .int 30) (.f2 40 (.at .int 25) (.int 1))) (.imp (.us .bool 92 (.at .g 31) (.at .g 32) (.int 0) (.int 0)) (.imp (.f2
    47 (.us .int 20 (.at .g 31) (.int 0) (.int 0) (.int 0)) (.f2 40 (.us .int 20 (.at .g 26) (.int 0) (.int 0) (.int 0)) (.int 1))) (.need (.f1 23 (.f2
    40 (.at .int 24) (.int 1))) (.need (.f2 47 (.int 0) (.f2 41 (.at .int 12) (.f2 40 (.at .int 24) (.int 1)))) (.need (.f2 46 (.f2 41 (.at .int 12)
    (.f2 40 (.at .int 24) (.int 1))) (.f2 41 (.at .int 12) (.at .int 24))) (.need (.f2 47 (.int 0) (.f2 40 (.at .int 24) (.int 1))) (.need (.f2 47 (.f2
    40 (.at .int 24) (.int 1)) (.at .int 12)) (.need (.f2 47 (.at .int 30) (.f2 40 (.at .int 24) (.int 1))) (.need (.f2 47 (.us .int 20 (.at .g 31)
    (.int 0) (.int 0) (.int 0)) (.f2 40 (.at .int 24) (.int 1))) (.need (.f2 47 (.us .int 20 (.at .g 28) (.int 0) (.int 0) (.int 0)) (.f2 40 (.at .int
    24) (.int 1))) .tt)))))))))))))))))))) (.imp (.f2 47 (.at .int 12) (.at .int 24)) (.need (.f2 47 (.at .int 25) (.int 3999999)) (.need (.f2 47 (.us
    .int 20 (.at .g 26) (.int 0) (.int 0) (.int 0)) (.int 4000000)) (.all 30 .int (.all 31 .g (.all 32 .g (.imp (.f2 47 (.at .int 30) (.f2 40 (.at .int
    25) (.int 1))) (.imp (.us .bool 92 (.at .g 31) (.at .g 32) (.int 0) (.int 0)) (.imp (.f2 47 (.us .int 20 (.at .g 31) (.int 0) (.int 0) (.int 0))
    (.f2 40 (.us .int 20 (.at .g 26) (.int 0) (.int 0) (.int 0)) (.int 1))) (.need (.f2 47 (.at .int 30) (.int 3999999)) (.need (.f2 47 (.us .int 20
    (.at .g 31) (.int 0) (.int 0) (.int 0)) (.int 4000000)) (.all 33 .int (.all 34 .g (.all 35 .g (.imp (.f2 47 (.at .int 33) (.f2 40 (.at .int 30)
    (.int 1))) (.imp (.us .bool 92 (.at .g 34) (.at .g 35) (.int 0) (.int 0)) (.imp (.f2 47 (.us .int 20 (.at .g 34) (.int 0) (.int 0) (.int 0)) (.f2
    40 (.us .int 20 (.at .g 31) (.int 0) (.int 0) (.int 0)) (.int 1))) (.need (.f2 47 (.at .int 33) (.int 3999999)) (.need (.f2 47 (.us .int 20 (.at .g
    28) (.int 0) (.int 0) (.int 0)) (.int 4000000)) (.all 36 .int (.all 37 .g (.all 38 .g (.imp (.f2 47 (.at .int 36) (.f2 40 (.at .int 33) (.int 1)))
    (.imp (.us .bool 92 (.at .g 37) (.at .g 38) (.int 0) (.int 0)) (.imp (.f2 47 (.us .int 20 (.at .g 37) (.int 0) (.int 0) (.int 0)) (.f2 40 (.us .int
    20 (.at .g 28) (.int 0) (.int 0) (.int 0)) (.int 1))) (.need (.f2 47 (.at .int 36) (.int 3999999)) (.need (.f2 47 (.us .int 20 (.at .g 37) (.int 0)
    (.int 0) (.int 0)) (.int 4000000)) (.all 39 .int (.all 40 .g (.all 41 .g (.imp (.f2 47 (.at .int 39) (.f2 40 (.at .int 36) (.int 1))) (.imp (.us
    .bool 92 (.at .g 40) (.at .g 41) (.int 0) (.int 0)) (.imp (.f2 47 (.us .int 20 (.at .g 40) (.int 0) (.int 0) (.int 0)) (.f2 40 (.us .int 20 (.at .g
    37) (.int 0) (.int 0) (.int 0)) (.int 1))) (.need (.f2 47 (.at .int 39) (.int 4000000)) (.need (.f2 47 (.at .int 39) (.int 3999999)) (.need (.f2 47
    (.us .int 20 (.at .g 34) (.int 0) (.int 0) (.int 0)) (.int 4000000)) (.all 42 .int (.all 43 .g (.all 44 .g (.imp (.f2 47 (.at .int 42) (.f2 40 (.at
    .int 39) (.int 1))) (.imp (.us .bool 92 (.at .g 43) (.at .g 44) (.int 0) (.int 0)) (.imp (.f2 47 (.us .int 20 (.at .g 43) (.int 0) (.int 0) (.int
    0)) (.f2 40 (.us .int 20 (.at .g 34) (.int 0) (.int 0) (.int 0)) (.int 1))) (.need (.f2 47 (.at .int 42) (.int 3999999)) (.need (.f2 47 (.us .int
    20 (.at .g 40) (.int 0) (.int 0) (.int 0)) (.int 4000000)) (.all 45 .int (.all 46 .g (.all 47 .g (.imp (.f2 47 (.at .int 45) (.f2 40 (.at .int 42)
    (.int 1))) (.imp (.us .bool 92 (.at .g 46) (.at .g 47) (.int 0) (.int 0)) (.imp (.f2 47 (.us .int 20 (.at .g 46) (.int 0) (.int 0) (.int 0)) (.f2
    40 (.us .int 20 (.at .g 40) (.int 0) (.int 0) (.int 0)) (.int 1))) .tt)))))))))))))))))))))))))))))))))))))))))))))))))))))))))))))))))))))))))
    (.imp (.f2 46 (.at .int 17) (.int 0)) (.and (.imp (.f2 45 (.at .int 16) (.at .int 18)) (.and (.imp (.f2 45 (.at .int 20) (.at .int 22)) (.and (.imp
    (.f2 48 (.f2 46 (.at .int 15) (.int 0)) (.f2 46 (.at .int 17) (.int 0))) (.need (.f2 48 (.f2 46 (.at .int 19) (.int 0)) (.f2 46 (.at .int 21) (.int
    0))) .tt)) (.imp (.f1 2 (.f2 48 (.f2 46 (.at .int 15) (.int 0)) (.f2 46 (.at .int 17) (.int 0)))) (.need (.bool .false) .tt)))) .tt)) .tt)))) (.imp
    (.f2 46 (.at .int 19) (.int 0)) (.and (.imp (.f2 45 (.at .int 16) (.at .int 18)) (.and (.imp (.f2 45 (.at .int 20) (.at .int 22)) (.and (.imp (.f2
    48 (.f2 46 (.at .int 15) (.int 0)) (.f2 46 (.at .int 17) (.int 0))) (.need (.f2 48 (.f2 46 (.at .int 19) (.int 0)) (.f2 46 (.at .int 21) (.int 0)))
    .tt)) (.imp (.f1 2 (.f2 48 (.f2 46 (.at .int 15) (.int 0)) (.f2 46 (.at .int 17) (.int 0)))) (.need (.bool .false) .tt)))) .tt)) .tt)))) (.imp (.f2
    46 (.at .int 15) (.int 0)) (.and (.imp (.f2 45 (.at .int 16) (.at .int 18)) (.and (.imp (.f2 45 (.at .int 20) (.at .int 22)) (.and (.imp (.f2 48
    (.f2 46 (.at .int 15) (.int 0)) (.f2 46 (.at .int 17) (.int 0))) (.need (.f2 48 (.f2 46 (.at .int 19) (.int 0)) (.f2 46 (.at .int 21) (.int 0)))
    .tt)) (.imp (.f1 2 (.f2 48 (.f2 46 (.at .int 15) (.int 0)) (.f2 46 (.at .int 17) (.int 0)))) (.need (.bool .false) .tt)))) .tt)) .tt)))) (.imp (.f1
    2 (.f2 45 (.at .int 20) (.at .int 22))) (.and (.imp (.f2 45 (.at .int 16) (.at .int 18)) (.and .tt (.imp (.f1 2 (.f2 45 (.at .int 20) (.at .int
    22))) (.need (.bool .false) .tt)))) .tt)))) (.imp (.f1 2 (.f2 45 (.at .int 16) (.at .int 18))) (.and .tt (.imp (.f1 2 (.f2 45 (.at .int 16) (.at
    .int 18))) (.need (.bool .false) .tt)))))))))))))))))))))))))))))))))
theorem pls_vc : vcOf Try.prog plsCx 14 7 plsCtr = plsVc := by kernel_rfl
-- END VC pls
set_option maxRecDepth 20000 in
theorem pls_ok (S : Sig FL) (hA : PlAll S) (hE : GhOk S emptW) : CtrOk S Try.prog 7 plsCtr := by
  obtain ⟨hF, hP, hS, hM, hR, hQ, hK, hT, hN⟩ := hA
  have ho := opn_gh S hS hN
  have hor := opr_gh S hR hN
  refine vcOf_sound S (C := plsCx) (fuel := 14) (cx_of ⟨one_spec (by decide) (live_ok S), one_spec (by decide) (newU_ok S hF hN hN.p30 free_new (newA_ok S hF (sort_ok S hF)) (newB_ok S hF (sort_ok S hF)) (newC_ok S hF (sort_ok S hF))),
    one_spec (by decide) (newU_ok S hF hN hN.p31 ref_new (refNewA_ok S hF hE) (refNewB_ok S hF hE) (refNewC_ok S hF hE)), one_spec (by decide) (stp_ok S hF hP hS hM hR hQ hK hT), one_spec (by decide) (std_ok S hK), trivial⟩
    ⟨⟨⟨by decide, ho⟩, ⟨by decide, ho⟩, ⟨by decide, hor⟩, ⟨by decide, hor⟩, ⟨by decide, nkp_gh S hK⟩, trivial, trivial⟩, trivial⟩ trivial) fun ρ => ?_
  rw [pls_vc]
  simp only [plsVc, hS.u20, hT.u92, hN.u90, hN.u91, VC.den, SX.den, co_int, co_bool, co_ints, co_rows, co_g, gOf_g, Env.upd, p155, p153, p48_153, p23, p45, p46, p47, p49, p50, b46, b47, t46, t47, p2_45, ap1_2, ap1_30, ap1_32, ap2_40, ap2_41, ap2_42, ap2_43, ap2_45, ap2_48, ap2_49, ap2_50, ap3_112, beq_iff_eq, Bool.not_eq_true', beq_eq_false_iff_ne, ne_eq, Bool.not_not, Bool.and_eq_true, Bool.or_eq_true, decide_eq_true_eq, U.toProp_bool, U.toBool_bool, i64lo, i64hi, U.toInt_int, U.toInts_ints, U.toRows_rows, Nat.reduceEqDiff, reduceIte, U.rows.injEq, U.ints.injEq, U.bool.injEq]
  repeat' (first | exact trivial | apply And.intro | intro _)
  all_goals first
    | omega
    | exact rel_new _ _
    | exact Int.le_refl _
    | (simp only [ltB_dec, leB_dec, decide_eq_true_eq, decide_eq_decide, Bool.false_eq_true] at *; omega)
end
end Go.Proofs.Ytmjonggabppgaaa
