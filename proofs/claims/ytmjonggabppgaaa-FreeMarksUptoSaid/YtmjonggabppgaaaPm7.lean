/- FreeMarks: the walk. -/
import Derived.Test.YtmjonggabppgaaaPm5
import Derived.Test.YtmjonggabppgaaaPm6
set_option linter.unusedSimpArgs false
set_option linter.unusedVariables false
namespace Go.Proofs.Ytmjonggabppgaaa
noncomputable section
open Go.Eng
structure FmSig (S : Sig FL) : Prop where
  u74 : ∀ a b c d, S.usr 74 a b c d = .bool (bP (noM (gOf a)))
  u75 : ∀ a b c d, S.usr 75 a b c d = .bool (bP (MkP (gOf a) (gOf b) c.toInt))
  u76 : ∀ a b c d, S.usr 76 a b c d = .bool (bP (BkP (gOf a) (gOf b)))
def fmA : List SV := [.one (.slice (ai 0) (ai 1) z0 z0 (ai 2) (ai 3) 1), .one (.slice (ai 5) (ai 6) z0 z0 (ai 7) (ai 8) 3), .one (.slice (ai 10) (ai 11) z0 z0 (ai 12) (ai 13) 3), .one (.slice (ai 15) (ai 16) z0 z0 (ai 17) (ai 18) 3)]
def fmP : List Ch := [.ro (.ints .i64) (ai 0) (ai 1) (iA 4), .ro opT (ai 5) (ai 6) (rA 9), .ro opT (ai 10) (ai 11) (rA 14), .ro opT (ai 15) (ai 16) (rA 19)]
def fmS : List Srt := [.int, .int, .int, .int, .ints, .int, .int, .int, .int, .rows, .int, .int, .int, .int, .rows, .int, .int, .int, .int, .rows]
def big1 : SX := .int 1048576
def fmR : List SX := [eLe (.int 0) (ai 2), eLe (ai 2) (.f1 30 (iA 4)), eLe (ai 2) (ai 3), eLe (ai 2) big1, eLe (.int 0) (ai 7), eLe (ai 7) (.f1 32 (rA 9)), eLe (ai 7) (ai 8), eLe (ai 7) big1,
  eLe (.int 0) (ai 12), eLe (ai 12) (.f1 32 (rA 14)), eLe (ai 12) (ai 13), eLe (ai 12) big1, eLe (.int 0) (ai 17), eLe (ai 17) (.f1 32 (rA 19)), eLe (ai 17) (ai 18), eLe (ai 17) big1]
def fmaCtr : Ctr := ⟨fmS, fmA, fmP, fmR ++ [allNX (iA 4) (ai 2), distX (iA 4) (ai 2)], [.bool], .one (.bool (.at .bool 20)), [], [.at .bool 20]⟩
def fmbCtr : Ctr := ⟨fmS, fmA, fmP, fmR ++ [.f1 2 (allNX (iA 4) (ai 2))], [.bool], .one (.bool (.at .bool 20)), [], [.at .bool 20]⟩
def fmcCtr : Ctr := ⟨fmS, fmA, fmP, fmR ++ [allNX (iA 4) (ai 2), .f1 2 (distX (iA 4) (ai 2))], [.bool], .one (.bool (.at .bool 20)), [], [.at .bool 20]⟩
def fmI1 : Inv := ⟨[.int, .g], [(14, .one (.int .i64 (di 0)))], [freeC (ai 20) (gA 1000001), freeC (ai 24) (gA 1000001)], [eLe (.int 0) (di 0), eLe (di 0) (ai 7), .us .bool 74 (gA 1000001) z0 z0 z0], .f2 41 (ai 7) (di 0)⟩
def fmI2 : Inv := ⟨[.int, .int, .g], [(18, .one (.int .i64 (di 0))), (17, .one (.int .i64 (di 1)))], [freeC (ai 20) (gA 1000002)], [eLe (.int 0) (di 0), eLe (di 0) (ai 12), eLe (di 1) (di 0), .us .bool 75 (gA 1000002) (gA 29) (di 1) z0], .f2 41 (ai 12) (di 0)⟩
def fmI3 : Inv := ⟨[.int, .g, .g], [(21, .one (.int .i64 (di 0)))], [freeC (ai 20) (gA 1000001), freeC (ai 24) (gA 1000002)], [eLe (.int 0) (di 0), eLe (di 0) (ai 17), .us .bool 76 (gA 1000001) (gA 1000002) z0 z0], .f2 41 (ai 17) (di 0)⟩
def fmaCx : Cx := { specs := [(10, [Go.Eng.yes]), (27, [newACtr]), (36, [actCtr]), (37, [markCtr]), (38, [backCtr]), (29, [frCtr]), (31, [waCtr]), (23, [sameCtr])], anns := [(9, [(6, .ghost newC []), (6, .ghost fldC [.tmp 10]), (6, .ghost newC []), (6, .ghost fldC [.tmp 12]), (7, .inv fmI1), (16, .inv fmI2), (26, .inv fmI3), (34, .ghost unfC [.tmp 10]), (35, .ghost unfC [.tmp 12]), (40, .ghost fldC [.tmp 10])])] }
def fmbCx : Cx := { specs := [(10, [Go.Eng.yes]), (27, [newBCtr])], anns := [] }
def fmcCx : Cx := { specs := [(10, [Go.Eng.yes]), (27, [newCCtr])], anns := [] }
-- BEGIN VC fma
def fmaVc : VC := (.imp (.f2 47 (.int 0) (.at .int 2)) (.imp (.f2 47 (.at .int 2) (.f1 30 (.at .ints 4))) (.imp (.f2 47 (.at .int 2) (.at .int 3)) (.imp (.f2 47 (.at
    .int 2) (.int 1048576)) (.imp (.f2 47 (.int 0) (.at .int 7)) (.imp (.f2 47 (.at .int 7) (.f1 32 (.at .rows 9))) (.imp (.f2 47 (.at .int 7) (.at
    .int 8)) (.imp (.f2 47 (.at .int 7) (.int 1048576)) (.imp (.f2 47 (.int 0) (.at .int 12)) (.imp (.f2 47 (.at .int 12) (.f1 32 (.at .rows 14)))
    (.imp (.f2 47 (.at .int 12) (.at .int 13)) (.imp (.f2 47 (.at .int 12) (.int 1048576)) (.imp (.f2 47 (.int 0) (.at .int 17)) (.imp (.f2 47 (.at
    .int 17) (.f1 32 (.at .rows 19))) (.imp (.f2 47 (.at .int 17) (.at .int 18)) (.imp (.f2 47 (.at .int 17) (.int 1048576)) (.imp (.us .bool 2 (.at
    .ints 4) (.at .int 2) (.int 0) (.int 0)) (.imp (.us .bool 4 (.at .ints 4) (.at .int 2) (.int 0) (.int 0)) (.all 20 .int (.all 21 .int (.all 22 .int
    (.all 23 .rows (.imp (.us .bool 1 (.us .rows 3 (.at .ints 4) (.at .int 2) (.int 0) (.int 0)) (.at .rows 23) (.int 0) (.int 0)) (.imp (.f2 47 (.int
    0) (.at .int 20)) (.all 24 .int (.all 25 .int (.all 26 .int (.all 27 .rows (.imp (.us .bool 1 (.us .rows 3 (.at .ints 4) (.at .int 2) (.int 0)
    (.int 0)) (.at .rows 27) (.int 0) (.int 0)) (.imp (.f2 47 (.int 0) (.at .int 24)) (.and (.imp (.f2 47 (.int 0) (.at .int 20)) (.and (.imp (.f2 47
    (.int 0) (.at .int 24)) (.need (.f2 47 (.at .int 2) (.f1 32 (.at .rows 23))) (.need (.us .bool 41 (.at .rows 23) (.at .int 2) (.int 0) (.int 0))
    (.need (.f2 45 (.us .int 20 (.us .g 40 (.int 0) (.int 0) (.int 0) (.int 0)) (.int 0) (.int 0) (.int 0)) (.int 0)) (.need (.f2 47 (.at .int 2) (.f1
    32 (.at .rows 27))) (.need (.us .bool 41 (.at .rows 27) (.at .int 2) (.int 0) (.int 0)) (.need (.us .bool 74 (.us .g 22 (.us .g 40 (.int 0) (.int
    0) (.int 0) (.int 0)) (.at .rows 23) (.at .int 2) (.int 0)) (.int 0) (.int 0) (.int 0)) (.need (.f2 155 (.us .g 22 (.us .g 40 (.int 0) (.int 0)
    (.int 0) (.int 0)) (.at .rows 23) (.at .int 2) (.int 0)) (.us .g 22 (.us .g 40 (.int 0) (.int 0) (.int 0) (.int 0)) (.at .rows 27) (.at .int 2)
    (.int 0))) (.all 28 .int (.all 29 .g (.imp (.f2 47 (.int 0) (.at .int 28)) (.imp (.f2 47 (.at .int 28) (.at .int 7)) (.imp (.us .bool 74 (.at .g
    29) (.int 0) (.int 0) (.int 0)) (.and (.imp (.f2 46 (.at .int 28) (.at .int 7)) (.need (.f2 46 (.at .int 28) (.f1 32 (.at .rows 9))) (.all 30 .int
    (.imp (.f2 47 (.int 0) (.at .int 30)) (.and (.imp (.f2 46 (.f3 112 (.at .rows 9) (.at .int 28) (.int 0)) (.int 7)) (.need (.f2 47 (.int 0) (.us
    .int 20 (.at .g 29) (.int 0) (.int 0) (.int 0))) (.need (.f2 47 (.us .int 20 (.at .g 29) (.int 0) (.int 0) (.int 0)) (.int 4611686018427387904))
    (.need (.f2 47 (.us .int 71 (.at .g 29) (.int 0) (.int 0) (.int 0)) (.int 1000000)) (.need (.f1 23 (.f2 40 (.at .int 28) (.int 1))) (.need (.f2 47
    (.int 0) (.f2 41 (.at .int 7) (.f2 40 (.at .int 28) (.int 1)))) (.need (.f2 46 (.f2 41 (.at .int 7) (.f2 40 (.at .int 28) (.int 1))) (.f2 41 (.at
    .int 7) (.at .int 28))) (.need (.f2 47 (.int 0) (.f2 40 (.at .int 28) (.int 1))) (.need (.f2 47 (.f2 40 (.at .int 28) (.int 1)) (.at .int 7))
    (.need (.us .bool 74 (.us .g 73 (.at .g 29) (.f3 112 (.at .rows 9) (.at .int 28) (.int 0)) (.f3 112 (.at .rows 9) (.at .int 28) (.int 1)) (.f3 112
    (.at .rows 9) (.at .int 28) (.int 2))) (.int 0) (.int 0) (.int 0)) .tt)))))))))) (.imp (.f2 47 (.int 7) (.f3 112 (.at .rows 9) (.at .int 28) (.int
    0))) (.need (.f1 23 (.f2 40 (.at .int 28) (.int 1))) (.need (.f2 47 (.int 0) (.f2 41 (.at .int 7) (.f2 40 (.at .int 28) (.int 1)))) (.need (.f2 46
    (.f2 41 (.at .int 7) (.f2 40 (.at .int 28) (.int 1))) (.f2 41 (.at .int 7) (.at .int 28))) (.need (.f2 47 (.int 0) (.f2 40 (.at .int 28) (.int 1)))
    (.need (.f2 47 (.f2 40 (.at .int 28) (.int 1)) (.at .int 7)) .tt))))))))))) (.imp (.f2 47 (.at .int 7) (.at .int 28)) (.need (.f2 47 (.int 0) (.us
    .int 20 (.at .g 29) (.int 0) (.int 0) (.int 0))) (.need (.f2 47 (.us .int 20 (.at .g 29) (.int 0) (.int 0) (.int 0)) (.int 4611686018427387904))
    (.need (.f2 47 (.us .int 71 (.at .g 29) (.int 0) (.int 0) (.int 0)) (.int 1000000)) (.need (.us .bool 75 (.us .g 62 (.at .g 29) (.int 0) (.int 0)
    (.int 0)) (.at .g 29) (.int 0) (.int 0)) (.all 30 .int (.all 31 .int (.all 32 .g (.imp (.f2 47 (.int 0) (.at .int 30)) (.imp (.f2 47 (.at .int 30)
    (.at .int 12)) (.imp (.f2 47 (.at .int 31) (.at .int 30)) (.imp (.us .bool 75 (.at .g 32) (.at .g 29) (.at .int 31) (.int 0)) (.and (.imp (.f2 46
    (.at .int 30) (.at .int 12)) (.need (.f2 46 (.at .int 30) (.f1 32 (.at .rows 14))) (.all 33 .int (.imp (.f2 47 (.int 0) (.at .int 33)) (.need (.f2
    47 (.int 0) (.us .int 20 (.at .g 32) (.int 0) (.int 0) (.int 0))) (.need (.f2 47 (.us .int 20 (.at .g 32) (.int 0) (.int 0) (.int 0)) (.int
    4611686018427387904)) (.need (.f2 47 (.us .int 71 (.at .g 32) (.int 0) (.int 0) (.int 0)) (.int 1000000)) (.and (.imp (.f2 45 (.f3 112 (.at .rows
    14) (.at .int 30) (.int 0)) (.int 7)) (.need (.f1 23 (.f2 40 (.at .int 31) (.int 1))) (.need (.f1 23 (.f2 40 (.at .int 30) (.int 1))) (.need (.f2
    47 (.int 0) (.f2 41 (.at .int 12) (.f2 40 (.at .int 30) (.int 1)))) (.need (.f2 46 (.f2 41 (.at .int 12) (.f2 40 (.at .int 30) (.int 1))) (.f2 41
    (.at .int 12) (.at .int 30))) (.need (.f2 47 (.int 0) (.f2 40 (.at .int 30) (.int 1))) (.need (.f2 47 (.f2 40 (.at .int 30) (.int 1)) (.at .int
    12)) (.need (.f2 47 (.f2 40 (.at .int 31) (.int 1)) (.f2 40 (.at .int 30) (.int 1))) (.need (.us .bool 75 (.us .g 73 (.at .g 32) (.f3 112 (.at
    .rows 14) (.at .int 30) (.int 0)) (.f3 112 (.at .rows 14) (.at .int 30) (.int 1)) (.f3 112 (.at .rows 14) (.at .int 30) (.int 2))) (.at .g 29) (.f2
    40 (.at .int 31) (.int 1)) (.int 0)) .tt))))))))) (.imp (.f1 2 (.f2 45 (.f3 112 (.at .rows 14) (.at .int 30) (.int 0)) (.int 7))) (.need (.f1 23
    (.f2 40 (.at .int 30) (.int 1))) (.need (.f2 47 (.int 0) (.f2 41 (.at .int 12) (.f2 40 (.at .int 30) (.int 1)))) (.need (.f2 46 (.f2 41 (.at .int
    12) (.f2 40 (.at .int 30) (.int 1))) (.f2 41 (.at .int 12) (.at .int 30))) (.need (.f2 47 (.int 0) (.f2 40 (.at .int 30) (.int 1))) (.need (.f2 47
    (.f2 40 (.at .int 30) (.int 1)) (.at .int 12)) (.need (.f2 47 (.at .int 31) (.f2 40 (.at .int 30) (.int 1))) (.need (.us .bool 75 (.us .g 73 (.at
    .g 32) (.f3 112 (.at .rows 14) (.at .int 30) (.int 0)) (.f3 112 (.at .rows 14) (.at .int 30) (.int 1)) (.f3 112 (.at .rows 14) (.at .int 30) (.int
    2))) (.at .g 29) (.at .int 31) (.int 0)) .tt)))))))))))))))) (.imp (.f2 47 (.at .int 12) (.at .int 30)) (.need (.f2 47 (.us .int 71 (.at .g 32)
    (.int 0) (.int 0) (.int 0)) (.int 1000000)) (.and (.imp (.f2 47 (.int 16) (.at .int 31)) (.need (.f2 45 (.us .int 69 (.at .g 32) (.us .int 63 (.at
    .g 29) (.int 0) (.int 0) (.int 0)) (.int 0) (.int 0)) (.int 1)) .tt)) (.imp (.f2 46 (.at .int 31) (.int 16)) (.need (.us .bool 76 (.us .g 68 (.at
    .g 32) (.us .int 63 (.at .g 29) (.int 0) (.int 0) (.int 0)) (.int 0) (.int 0)) (.at .g 29) (.int 0) (.int 0)) (.all 33 .int (.all 34 .g (.all 35 .g
    (.imp (.f2 47 (.int 0) (.at .int 33)) (.imp (.f2 47 (.at .int 33) (.at .int 17)) (.imp (.us .bool 76 (.at .g 34) (.at .g 35) (.int 0) (.int 0))
    (.and (.imp (.f2 46 (.at .int 33) (.at .int 17)) (.need (.f2 46 (.at .int 33) (.f1 32 (.at .rows 19))) (.all 36 .int (.imp (.f2 47 (.int 0) (.at
    .int 36)) (.and (.imp (.f2 46 (.f3 112 (.at .rows 19) (.at .int 33) (.int 0)) (.int 7)) (.need (.f2 47 (.int 0) (.us .int 20 (.at .g 34) (.int 0)
    (.int 0) (.int 0))) (.need (.f2 47 (.us .int 20 (.at .g 34) (.int 0) (.int 0) (.int 0)) (.int 4611686018427387904)) (.need (.f2 47 (.us .int 71
    (.at .g 34) (.int 0) (.int 0) (.int 0)) (.int 1000000)) (.need (.f2 47 (.int 0) (.us .int 20 (.at .g 35) (.int 0) (.int 0) (.int 0))) (.need (.f2
    47 (.us .int 20 (.at .g 35) (.int 0) (.int 0) (.int 0)) (.int 4611686018427387904)) (.need (.f2 47 (.us .int 71 (.at .g 35) (.int 0) (.int 0) (.int
    0)) (.int 1000000)) (.and (.imp (.f1 2 (.f2 45 (.us .int 72 (.at .g 34) (.f3 112 (.at .rows 19) (.at .int 33) (.int 0)) (.f3 112 (.at .rows 19)
    (.at .int 33) (.int 1)) (.f3 112 (.at .rows 19) (.at .int 33) (.int 2))) (.us .int 72 (.at .g 35) (.f3 112 (.at .rows 19) (.at .int 33) (.int 0))
    (.f3 112 (.at .rows 19) (.at .int 33) (.int 1)) (.f3 112 (.at .rows 19) (.at .int 33) (.int 2))))) (.need (.bool .false) .tt)) (.imp (.f2 45 (.us
    .int 72 (.at .g 34) (.f3 112 (.at .rows 19) (.at .int 33) (.int 0)) (.f3 112 (.at .rows 19) (.at .int 33) (.int 1)) (.f3 112 (.at .rows 19) (.at
    .int 33) (.int 2))) (.us .int 72 (.at .g 35) (.f3 112 (.at .rows 19) (.at .int 33) (.int 0)) (.f3 112 (.at .rows 19) (.at .int 33) (.int 1)) (.f3
    112 (.at .rows 19) (.at .int 33) (.int 2)))) (.need (.f1 23 (.f2 40 (.at .int 33) (.int 1))) (.need (.f2 47 (.int 0) (.f2 41 (.at .int 17) (.f2 40
    (.at .int 33) (.int 1)))) (.need (.f2 46 (.f2 41 (.at .int 17) (.f2 40 (.at .int 33) (.int 1))) (.f2 41 (.at .int 17) (.at .int 33))) (.need (.f2
    47 (.int 0) (.f2 40 (.at .int 33) (.int 1))) (.need (.f2 47 (.f2 40 (.at .int 33) (.int 1)) (.at .int 17)) (.need (.us .bool 76 (.us .g 73 (.at .g
    34) (.f3 112 (.at .rows 19) (.at .int 33) (.int 0)) (.f3 112 (.at .rows 19) (.at .int 33) (.int 1)) (.f3 112 (.at .rows 19) (.at .int 33) (.int
    2))) (.us .g 73 (.at .g 35) (.f3 112 (.at .rows 19) (.at .int 33) (.int 0)) (.f3 112 (.at .rows 19) (.at .int 33) (.int 1)) (.f3 112 (.at .rows 19)
    (.at .int 33) (.int 2))) (.int 0) (.int 0)) .tt))))))))))))))) (.imp (.f2 47 (.int 7) (.f3 112 (.at .rows 19) (.at .int 33) (.int 0))) (.need (.f1
    23 (.f2 40 (.at .int 33) (.int 1))) (.need (.f2 47 (.int 0) (.f2 41 (.at .int 17) (.f2 40 (.at .int 33) (.int 1)))) (.need (.f2 46 (.f2 41 (.at
    .int 17) (.f2 40 (.at .int 33) (.int 1))) (.f2 41 (.at .int 17) (.at .int 33))) (.need (.f2 47 (.int 0) (.f2 40 (.at .int 33) (.int 1))) (.need
    (.f2 47 (.f2 40 (.at .int 33) (.int 1)) (.at .int 17)) .tt))))))))))) (.imp (.f2 47 (.at .int 17) (.at .int 33)) (.all 36 .int (.all 37 .int (.all
    38 .int (.all 39 .rows (.all 40 .int (.all 41 .int (.all 42 .int (.imp (.f2 47 (.int 0) (.at .int 37)) (.imp (.f2 47 (.at .int 37) (.f1 32 (.at
    .rows 39))) (.imp (.f2 47 (.at .int 37) (.int 65534)) (.imp (.f2 47 (.at .int 37) (.at .int 38)) (.imp (.us .bool 41 (.at .rows 39) (.at .int 37)
    (.int 0) (.int 0)) (.imp (.f2 155 (.us .rows 21 (.at .g 34) (.int 0) (.int 0) (.int 0)) (.f2 115 (.at .rows 39) (.at .int 37))) (.all 43 .int (.all
    44 .int (.all 45 .int (.all 46 .ints (.imp (.f2 45 (.f1 30 (.at .ints 46)) (.at .int 44)) (.imp (.f2 47 (.int 0) (.at .int 44)) (.imp (.f2 47 (.at
    .int 44) (.at .int 37)) (.imp (.f2 153 (.at .ints 46) (.us .ints 10 (.at .rows 39) (.at .int 37) (.int 0) (.int 0))) (.all 47 .int (.all 48 .int
    (.all 49 .int (.all 50 .rows (.all 51 .int (.all 52 .int (.all 53 .int (.imp (.f2 47 (.int 0) (.at .int 48)) (.imp (.f2 47 (.at .int 48) (.f1 32
    (.at .rows 50))) (.imp (.f2 47 (.at .int 48) (.int 65534)) (.imp (.f2 47 (.at .int 48) (.at .int 49)) (.imp (.us .bool 41 (.at .rows 50) (.at .int
    48) (.int 0) (.int 0)) (.imp (.f2 155 (.us .rows 21 (.at .g 35) (.int 0) (.int 0) (.int 0)) (.f2 115 (.at .rows 50) (.at .int 48))) (.all 54 .int
    (.all 55 .int (.all 56 .int (.all 57 .ints (.imp (.f2 45 (.f1 30 (.at .ints 57)) (.at .int 55)) (.imp (.f2 47 (.int 0) (.at .int 55)) (.imp (.f2 47
    (.at .int 55) (.at .int 48)) (.imp (.f2 153 (.at .ints 57) (.us .ints 10 (.at .rows 50) (.at .int 48) (.int 0) (.int 0))) (.all 58 .int (.all 59
    .int (.all 60 .int (.all 61 .ints (.imp (.f2 45 (.f1 30 (.at .ints 61)) (.at .int 59)) (.imp (.f2 47 (.int 0) (.at .int 59)) (.imp (.f2 47 (.at
    .int 59) (.at .int 37)) (.imp (.f2 153 (.at .ints 61) (.us .ints 11 (.at .rows 39) (.at .int 37) (.int 0) (.int 0))) (.all 62 .int (.all 63 .int
    (.all 64 .int (.all 65 .ints (.imp (.f2 45 (.f1 30 (.at .ints 65)) (.at .int 63)) (.imp (.f2 47 (.int 0) (.at .int 63)) (.imp (.f2 47 (.at .int 63)
    (.at .int 48)) (.imp (.f2 153 (.at .ints 65) (.us .ints 11 (.at .rows 50) (.at .int 48) (.int 0) (.int 0))) (.need (.f2 47 (.at .int 44) (.f1 30
    (.at .ints 46))) (.need (.f2 47 (.at .int 44) (.int 140737488355328)) (.need (.f2 47 (.at .int 55) (.f1 30 (.at .ints 57))) (.need (.f2 47 (.at
    .int 55) (.int 140737488355328)) (.all 66 .bool (.imp (.f2 48 (.at .bool 66) (.f2 153 (.f2 113 (.at .ints 46) (.at .int 44)) (.f2 113 (.at .ints
    57) (.at .int 55)))) (.need (.f2 47 (.at .int 59) (.f1 30 (.at .ints 61))) (.need (.f2 47 (.at .int 59) (.int 140737488355328)) (.need (.f2 47 (.at
    .int 63) (.f1 30 (.at .ints 65))) (.need (.f2 47 (.at .int 63) (.int 140737488355328)) (.all 67 .bool (.imp (.f2 48 (.at .bool 67) (.f2 153 (.f2
    113 (.at .ints 61) (.at .int 59)) (.f2 113 (.at .ints 65) (.at .int 63)))) (.need (.f2 47 (.us .int 71 (.us .g 22 (.at .g 34) (.at .rows 39) (.at
    .int 37) (.int 0)) (.int 0) (.int 0) (.int 0)) (.int 1000000)) (.and (.imp (.f2 45 (.us .int 69 (.at .g 32) (.us .int 63 (.at .g 29) (.int 0) (.int
    0) (.int 0)) (.int 0) (.int 0)) (.int 0)) (.and (.imp (.at .bool 66) (.and (.imp (.at .bool 67) (.need (.f2 45 (.us .int 69 (.us .g 22 (.at .g 34)
    (.at .rows 39) (.at .int 37) (.int 0)) (.us .int 63 (.at .g 29) (.int 0) (.int 0) (.int 0)) (.int 0) (.int 0)) (.int 0)) .tt)) (.imp (.f1 2 (.at
    .bool 67)) (.need (.bool .false) .tt)))) (.imp (.f1 2 (.at .bool 66)) (.need (.bool .false) .tt)))) (.imp (.f1 2 (.f2 45 (.us .int 69 (.at .g 32)
    (.us .int 63 (.at .g 29) (.int 0) (.int 0) (.int 0)) (.int 0) (.int 0)) (.int 0))) (.need (.bool .false)
    .tt)))))))))))))))))))))))))))))))))))))))))))))))))))))))))))))))))))))))))))))))))))))))))))))))))))))))))))))))))) .tt))
    .tt)))))))))))))))))))))))))))))))
theorem fma_vc : vcOf Try.prog fmaCx 10 9 fmaCtr = fmaVc := by kernel_rfl
-- END VC fma
-- BEGIN VC fmb
def fmbVc : VC := (.imp (.f2 47 (.int 0) (.at .int 2)) (.imp (.f2 47 (.at .int 2) (.f1 30 (.at .ints 4))) (.imp (.f2 47 (.at .int 2) (.at .int 3)) (.imp (.f2 47 (.at
    .int 2) (.int 1048576)) (.imp (.f2 47 (.int 0) (.at .int 7)) (.imp (.f2 47 (.at .int 7) (.f1 32 (.at .rows 9))) (.imp (.f2 47 (.at .int 7) (.at
    .int 8)) (.imp (.f2 47 (.at .int 7) (.int 1048576)) (.imp (.f2 47 (.int 0) (.at .int 12)) (.imp (.f2 47 (.at .int 12) (.f1 32 (.at .rows 14)))
    (.imp (.f2 47 (.at .int 12) (.at .int 13)) (.imp (.f2 47 (.at .int 12) (.int 1048576)) (.imp (.f2 47 (.int 0) (.at .int 17)) (.imp (.f2 47 (.at
    .int 17) (.f1 32 (.at .rows 19))) (.imp (.f2 47 (.at .int 17) (.at .int 18)) (.imp (.f2 47 (.at .int 17) (.int 1048576)) (.imp (.f1 2 (.us .bool 2
    (.at .ints 4) (.at .int 2) (.int 0) (.int 0))) .tt)))))))))))))))))
theorem fmb_vc : vcOf Try.prog fmbCx 10 9 fmbCtr = fmbVc := by kernel_rfl
-- END VC fmb
-- BEGIN VC fmc
def fmcVc : VC := (.imp (.f2 47 (.int 0) (.at .int 2)) (.imp (.f2 47 (.at .int 2) (.f1 30 (.at .ints 4))) (.imp (.f2 47 (.at .int 2) (.at .int 3)) (.imp (.f2 47 (.at
    .int 2) (.int 1048576)) (.imp (.f2 47 (.int 0) (.at .int 7)) (.imp (.f2 47 (.at .int 7) (.f1 32 (.at .rows 9))) (.imp (.f2 47 (.at .int 7) (.at
    .int 8)) (.imp (.f2 47 (.at .int 7) (.int 1048576)) (.imp (.f2 47 (.int 0) (.at .int 12)) (.imp (.f2 47 (.at .int 12) (.f1 32 (.at .rows 14)))
    (.imp (.f2 47 (.at .int 12) (.at .int 13)) (.imp (.f2 47 (.at .int 12) (.int 1048576)) (.imp (.f2 47 (.int 0) (.at .int 17)) (.imp (.f2 47 (.at
    .int 17) (.f1 32 (.at .rows 19))) (.imp (.f2 47 (.at .int 17) (.at .int 18)) (.imp (.f2 47 (.at .int 17) (.int 1048576)) (.imp (.us .bool 2 (.at
    .ints 4) (.at .int 2) (.int 0) (.int 0)) (.imp (.f1 2 (.us .bool 4 (.at .ints 4) (.at .int 2) (.int 0) (.int 0))) .tt))))))))))))))))))
theorem fmc_vc : vcOf Try.prog fmcCx 10 9 fmcCtr = fmcVc := by kernel_rfl
-- END VC fmc
-- PROOFS
structure FmAll (S : Sig FL) : Prop where
  free : FreeSig S
  pick : PickSig S
  fl : FlSig S
  mks : MkSig S
  fm : FmSig S
set_option maxRecDepth 20000 in
theorem fma_ok (S : Sig FL) (hA : FmAll S) : CtrOk S Try.prog 9 fmaCtr := by
  obtain ⟨hF, hP, hS, hM, hQ⟩ := hA
  have hu := unf_gh S hS
  have hf := fld_gh S hS
  have hn := new_gh S hS
  refine vcOf_sound S (C := fmaCx) (fuel := 10) (cx_of ⟨one_spec (by decide) (live_ok S), one_spec (by decide) (newA_ok S hF (sort_ok S hF)), one_spec (by decide) (act_ok S hS hM), one_spec (by decide) (mark_ok S hS hM), one_spec (by decide) (back_ok S hS hM), one_spec (by decide) (fr_ok S hP), one_spec (by decide) (wa_ok S hP), one_spec (by decide) (same_ok S), trivial⟩
    ⟨⟨⟨by decide, hn⟩, ⟨by decide, hf⟩, ⟨by decide, hn⟩, ⟨by decide, hf⟩, trivial, trivial, trivial, ⟨by decide, hu⟩, ⟨by decide, hu⟩, ⟨by decide, hf⟩, trivial⟩, trivial⟩ trivial) fun ρ => ?_
  rw [fma_vc]
  obtain ⟨_, f1, f2, f3, f4, _⟩ := hF
  obtain ⟨q10, q11, _⟩ := hP
  obtain ⟨u74, u75, u76⟩ := hQ
  simp only [fmaVc, f1, f2, f3, f4, q10, q11, hS.u20, hS.u21, hS.u22, hS.u40, hS.u41, hM.u62, hM.u63, hM.u68, hM.u69, hM.u71, hM.u72, hM.u73, u74, u75, u76, VC.den, SX.den, co_int, co_bool, co_ints, co_rows, co_g, gOf_g, Env.upd, p155, p153, p23, p45, p46, p47, p50, b46, b47, ap1_2, ap1_30, ap1_32, ap1_152, ap1_154, ap2_40, ap2_41, ap2_42, ap2_45, ap2_48, ap2_110, ap2_113, ap2_115, ap2_153, ap3_112, U.toProp_bool, U.toBool_bool, Bool.not_eq_true', Bool.not_not, beq_eq_false_iff_ne, beq_iff_eq, ne_eq, i64lo, i64hi, U.toInt_int, U.toInts_ints, U.toRows_rows, Int.toNat_zero, toNat1, List.take_zero, Nat.reduceEqDiff, reduceIte, U.rows.injEq, U.g.injEq, U.bool.injEq]
  generalize (ρ 4).toInts = L
  generalize (ρ 2).toInt = n
  generalize (ρ 7).toInt = n1
  generalize (ρ 9).toRows = Q1
  generalize (ρ 12).toInt = n2
  generalize (ρ 14).toRows = Q2
  generalize (ρ 17).toInt = n3
  generalize (ρ 19).toRows = Q3
  clear f1 f2 f3 f4 q10 q11 u74 u75 u76 hu hf hn hS hM
  intro a1 a2 _ a4 b1 b2 _ b4 c1 c2 _ c4 d1 d2 _ d4 hall hdist B b c R hR hB B' b' c' R' hR' hB'
  have hlen := sort_size a1 a2 hR
  have hgood := sort_good a1 a2 hall hdist hR
  have heq := sort_one hR hR'
  subst heq
  have htk : R.take n.toNat = R := List.take_of_length_le (by omega)
  have hgb : goodB R n = true := goodB_iff.2 (by rw [htk]; exact hgood)
  refine ⟨fun _ => ⟨fun _ => ?_, trivial⟩, trivial⟩
  refine ⟨by omega, hgb, trivial, by omega, hgb, bP_iff.2 ⟨rfl, rfl⟩, rfl, fun i s i0 i1 hs => ⟨fun hi => ⟨by omega, fun _ _ => ⟨fun hk => ?_, fun hk => ?_⟩⟩, fun hi => ?_⟩⟩
  · have hs := bP_iff.1 hs
    have hx := noM_act (a := (Q1.getD i.toNat []).getD 1 0) (b := (Q1.getD i.toNat []).getD 2 0) hk hs
    have h1 := hs.1
    have h2 := hs.2
    rw [h1, h2]
    repeat' (first | exact trivial | apply And.intro)
    all_goals first | omega | exact bP_iff.2 hx | (simp; done)
  · repeat' (first | exact trivial | apply And.intro)
    all_goals omega
  · have hs := bP_iff.1 hs
    have h1 := hs.1
    have h2 := hs.2
    refine ⟨by omega, by omega, by rw [h1]; simp, bP_iff.2 (mk_first hs), fun i' m s' j0 j1 j2 hm => ⟨fun hj => ?_, fun hj => ?_⟩⟩
    · have hm := bP_iff.1 hm
      have hl := mk_len hm
      have hm1 := hm.1
      have hm2 := hm.2.1
      refine ⟨by omega, fun _ _ => ⟨by omega, by omega, by omega, fun hk => ?_, fun hk => ?_⟩⟩
      · have hx : MkP (actS s' ((Q2.getD i'.toNat []).getD 0 0) ((Q2.getD i'.toNat []).getD 1 0) ((Q2.getD i'.toNat []).getD 2 0)) s (m + 1) := by
          have := mk_more hm
          unfold actS
          rw [if_neg (by omega), if_neg (by omega), if_neg (by omega), if_pos hk]; exact this
        repeat' (first | exact trivial | apply And.intro)
        all_goals first | omega | exact bP_iff.2 hx
      · have hx := mk_act (a := (Q2.getD i'.toNat []).getD 1 0) (b := (Q2.getD i'.toNat []).getD 2 0) hk hm
        repeat' (first | exact trivial | apply And.intro)
        all_goals first | omega | exact bP_iff.2 hx
    · have hm := bP_iff.1 hm
      have hl := mk_len hm
      rw [h2]
      refine ⟨by omega, fun hg => ⟨mk_gone hm hg, trivial⟩, fun hg => ?_⟩
      obtain ⟨k1, k2⟩ := mk_back hm hg hs
      refine ⟨bP_iff.2 k2, fun x s1 s2 x0 x1 hb => ⟨fun hx => ⟨by omega, fun _ _ => ⟨fun hk => ?_, fun hk => ?_⟩⟩, fun hx => ?_⟩⟩
      · have hb := bP_iff.1 hb
        obtain ⟨z1, z2⟩ := bk_act (a := (Q3.getD x.toNat []).getD 1 0) (b := (Q3.getD x.toNat []).getD 2 0) hk hb
        have l1 := bk_len hb
        obtain ⟨_, _, y1, y2, y3, y4⟩ := hb
        refine ⟨by omega, by omega, by omega, by omega, by omega, by rw [y3]; simp, fun h => absurd z1 h, fun _ => ?_⟩
        repeat' (first | exact trivial | apply And.intro)
        all_goals first | omega | exact bP_iff.2 z2
      · repeat' (first | exact trivial | apply And.intro)
        all_goals omega
      · have hb := bP_iff.1 hb
        have l1 := bk_len hb
        have hbm := hb.2.1
        have hbe := hb.1
        intro t1 e1 t3 R1 t5 t6 t7 g0 g1 g2 g3 g4 ge t8 l2 t9 L2 m0 m1 m2 m3 v1 e2 v3 R2 v5 v6 v7 w0 w1 w2 w3 w4 we v8 l3 v9 L3 o0 o1 o2 o3 p1 l4 p3 L4 r0 r1 r2 r3 p4 l5 p6 L5 q0 q1 q2 q3
        have ee : R1.take e1.toNat = R2.take e2.toNat := by rw [← ge, ← we]; exact hbe
        have f1 : L2 = L3 := by rw [m3, o3]; unfold selB; rw [ee]
        have f2 : L4 = L5 := by rw [r3, q3]; unfold selB; rw [ee]
        have fl : backE ⟨R1.take e1.toNat, s1.m, s1.last⟩ 1 = 0 := back_m hbm
        refine ⟨by omega, by omega, by omega, by omega, fun x1 hx1 => ⟨by omega, by omega, by omega, by omega, fun x2 hx2 => ?_⟩⟩
        have y1 : x1 = true := by
          rw [hx1, List.take_of_length_le (by omega), List.take_of_length_le (by omega), f1]; exact beq_self_eq_true _
        have y2 : x2 = true := by
          rw [hx2, List.take_of_length_le (by omega), List.take_of_length_le (by omega), f2]; exact beq_self_eq_true _
        subst y1 y2
        refine ⟨by show (s1.m.length : Int) ≤ _; omega, fun _ => ⟨fun _ => ⟨fun _ => ⟨fl, trivial⟩, fun h => by cases h⟩, fun h => by cases h⟩, fun h => absurd k1 h⟩
theorem fmb_ok (S : Sig FL) (hA : FmAll S) : CtrOk S Try.prog 9 fmbCtr := by
  refine vcOf_sound S (C := fmbCx) (fuel := 10) (cx_of ⟨one_spec (by decide) (live_ok S), one_spec (by decide) (newB_ok S hA.free (sort_ok S hA.free)), trivial⟩ trivial trivial) fun ρ => ?_
  rw [fmb_vc]
  simp only [fmbVc, VC.den, implies_true]
theorem fmc_ok (S : Sig FL) (hA : FmAll S) : CtrOk S Try.prog 9 fmcCtr := by
  refine vcOf_sound S (C := fmcCx) (fuel := 10) (cx_of ⟨one_spec (by decide) (live_ok S), one_spec (by decide) (newC_ok S hA.free (sort_ok S hA.free)), trivial⟩ trivial trivial) fun ρ => ?_
  rw [fmc_vc]
  simp only [fmcVc, VC.den, implies_true]
end
end Go.Proofs.Ytmjonggabppgaaa
