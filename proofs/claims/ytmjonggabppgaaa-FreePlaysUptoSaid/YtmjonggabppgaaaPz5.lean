/- Lists that are kept: a law's calls. -/
import Derived.Test.YtmjonggabppgaaaPz4
set_option linter.unusedSimpArgs false
set_option linter.unusedVariables false
namespace Go.Proofs.Ytmjonggabppgaaa
noncomputable section
open Go.Eng
def ovrCtr : Ctr := ⟨[.int, .ints, .int, .int], [.one (sl1 (ai 0) (ai 2) (ai 3))], [iAr (ai 0) (iA 1) (ai 3)], [eLe (.int 0) (ai 2), eLe (ai 2) (.f1 30 (iA 1)), eLe (ai 2) (.int 65534)], [], .tup [], [], []⟩
def ovrInv : Inv := ⟨[.int, .ints], [(2, .one (.int .i64 (di 0)))], [iAr (ai 0) (iA 1000001) (ai 3)], [eLe (.int 0) (di 0), eLe (di 0) (ai 2), .f2 45 (.f1 30 (iA 1000001)) (.f1 30 (iA 1))], .f2 41 (ai 2) (di 0)⟩
def ovrCx : Cx := { specs := [], anns := [(53, [(1, .inv ovrInv)])] }
def tkkCtr : Ctr := ⟨[.int, .int, .int, .int, .int, .int, .ints, .int, .int, .int, .ints], [.one (.ptr (ai 0) 0), .one (sl1 (ai 3) (ai 4) (ai 5)), .one (sl1 (ai 7) (ai 8) (ai 9))], [keC (ai 0) (ai 1) (ai 2), iAr (ai 3) (iA 6) (ai 5), iAr (ai 7) (iA 10) (ai 9)],
  [eLe (ai 2) (.int 4000000), eLe (.int 0) (ai 4), eLe (ai 4) (.f1 30 (iA 6)), eLe (ai 4) (.int 65534), eLe (.int 0) (ai 8), eLe (ai 8) (.f1 30 (iA 10)), eLe (ai 8) (.int 65534), .f2 153 (tkI (iA 6) (ai 4)) (tkI (iA 10) (ai 8))], [], .tup [], [keC (ai 0) (ai 1) (SX.mk2 40 (ai 2) (.int 1))], []⟩
def tkkCx : Cx := { specs := [(53, [ovrCtr])], anns := [(25, [(0, .ghost unkC [.tmp 0]), (3, .ghost pukC [.tmp 1, .tmp 2]), (999999, .ghost fokC [.tmp 0])])] }
-- atoms of stands: 2 block, 3 number, 4 room, 5 rows; 6 block, 7 room, 8 rows; 9 first loop; 10 second loop, 11 a list
def stdCtr : Ctr := ⟨[.int, .int], [.one (.ptr (ai 0) 0)], [keC (ai 0) (.int 1) (ai 1)], [eLe (ai 1) (.int 4000000)], [], .one (.bool (.bool true)), [keC (ai 0) (.int 0) (ai 1)], []⟩
def stdI1 : Inv := ⟨[.int], [(3, .one (.int .i64 (di 0)))], [], [eLe (.int 0) (di 0), eLe (di 0) (ai 3)], .f2 41 (ai 3) (di 0)⟩
def stdI2 : Inv := ⟨[.int], [(5, .one (.int .i64 (di 0)))], [c24 (di 0) z0 (ai 3) (rA 5)], [eLe (.int 0) (di 0), eLe (di 0) (ai 3)], .f2 41 (ai 3) (di 0)⟩
def stdI3 : Inv := ⟨[.int, .ints], [(6, .one (.int .i64 (di 0)))], [iAr (nt (rA 5) (ai 10) 0) (iA 1000001) (nt (rA 5) (ai 10) 2)],
  [eLe (.int 0) (di 0), eLe (di 0) (nt (rA 5) (ai 10) 1), .f2 45 (.f1 30 (iA 1000001)) (.f1 30 (iA 11)), .f2 153 (tkI (iA 1000001) (di 0)) (repI (di 0) (.f2 41 (.int (-1000)) (ai 10)))], .f2 41 (nt (rA 5) (ai 10) 1) (di 0)⟩
def stdI4 : Inv := ⟨[.int, .int, .int, .int, .rows], [(8, .one (.int .i64 (di 0))), (7, .one (sl1 (di 1) (di 2) (di 3)))], [slA (di 1) (rA 1000004) (di 3), c26 (di 2) (rA 1000004), c24 (ai 3) (di 0) (ai 3) (rA 5)],
  [eLe (.int 0) (di 0), eLe (di 0) (ai 3), .f2 45 (di 2) (.f2 42 (.int 9) (di 0)), eLe (di 2) (lenR (rA 1000004))], .f2 41 (ai 3) (di 0)⟩
def stdI5 (j m0 : Nat) : Inv := ⟨[.int, .int, .int, .int, .int, .int, .int, .rows], [(10, .one (.int .i64 (di 0))), (9, .one (sl1 (di 1) (di 2) (di 3))), (7, .one (sl1 (di 4) (di 5) (di 6)))],
  [slA (di 4) (rA 1000007) (di 6), c27 (di 5) (di 1) (di 2) (vX (ai j)) (nt (rA 5) (ai j) 0) (nt (rA 5) (ai j) 1) (rA 1000007), iAr (di 1) (repI (di 2) (vX (ai j))) (di 3)],
  [eLe (.int 0) (di 0), eLe (di 0) (.int 8), .f2 45 (di 2) (.f2 40 (nt (rA 5) (ai j) 1) (di 0)), .f2 45 (di 5) (.f2 40 (ai m0) (di 0)), eLe (di 5) (lenR (rA 1000007)), eLe (di 2) (di 3)], .f2 41 (.int 8) (di 0)⟩
def stdI6 (m : Nat) : Inv := ⟨[.int], [(11, .one (.int .i64 (di 0)))], [], [eLe (.int 0) (di 0), eLe (di 0) (ai m)], .f2 41 (ai m) (di 0)⟩
def stdI7 (g i : Nat) : Inv := ⟨[.int], [(12, .one (.int .i64 (di 0)))], [], [eLe (.int 0) (di 0), eLe (di 0) (nt (rA g) (ai i) 1)], .f2 41 (nt (rA g) (ai i) 1) (di 0)⟩
def stdAsk : SX := eLe (SX.mk2 40 (ai 18) (.int 1)) (ai 19)
def stdCx : Cx := { specs := [(23, [sameCtr])], anns := [(26, [(1, .ghost unkC [.tmp 0]), (2, .inv stdI1), (4, .ghost toKC [.tmp 3]), (5, .ghost pbKC []), (7, .ghost cvKC []),
  (8, .inv stdI2), (10, .ghost toFC [.tmp 5]), (11, .inv stdI3), (9, .ghost pbFC []), (15, .ghost nwGC []), (16, .inv stdI4), (19, .ghost opGC [.tmp 8, .tmp 9]), (20, .inv (stdI5 11 13)), (22, .split stdAsk), (23, .iff stdAsk), (23, .ghost rmGC [.tmp 9]), (23, .iff (eNot stdAsk)), (23, .ghost grGC [.tmp 9]),
  (21, .ghost psGC [.tmp 9]), (17, .ghost ps0C [.tmp 107]), (17, .ghost enGC []), (26, .inv (stdI6 13)), (28, .ghost toGC [.tmp 11]), (29, .inv (stdI7 15 16)), (27, .ghost pbGC []), (999999, .ghost nuKC [.tmp 0])])] }
-- BEGIN VC ovr
def ovrVc : VC := (.imp (.f2 47 (.int 0) (.at .int 2)) (.imp (.f2 47 (.at .int 2) (.f1 30 (.at .ints 1))) (.imp (.f2 47 (.at .int 2) (.int 65534)) (.need (.f2 45 (.f1 30
    (.at .ints 1)) (.f1 30 (.at .ints 1))) (.all 4 .int (.all 5 .ints (.imp (.f2 47 (.int 0) (.at .int 4)) (.imp (.f2 47 (.at .int 4) (.at .int 2))
    (.imp (.f2 45 (.f1 30 (.at .ints 5)) (.f1 30 (.at .ints 1))) (.and (.imp (.f2 46 (.at .int 4) (.at .int 2)) (.need (.f2 46 (.at .int 4) (.f1 30
    (.at .ints 5))) (.need (.f1 23 (.f2 40 (.at .int 4) (.int 1))) (.need (.f2 47 (.int 0) (.f2 41 (.at .int 2) (.f2 40 (.at .int 4) (.int 1)))) (.need
    (.f2 46 (.f2 41 (.at .int 2) (.f2 40 (.at .int 4) (.int 1))) (.f2 41 (.at .int 2) (.at .int 4))) (.need (.f2 47 (.int 0) (.f2 40 (.at .int 4) (.int
    1))) (.need (.f2 47 (.f2 40 (.at .int 4) (.int 1)) (.at .int 2)) .tt))))))) (.imp (.f2 47 (.at .int 2) (.at .int 4)) (.all 6 .int (.imp (.f2 47
    (.int 0) (.at .int 6)) (.need (.f2 47 (.at .int 2) (.f1 30 (.at .ints 5))) (.need (.f2 47 (.f2 42 (.f2 40 (.at .int 2) (.int 3)) (.int 8)) (.int
    140737488355328)) (.all 7 .int (.all 8 .int (.imp (.f2 47 (.f2 40 (.at .int 2) (.int 3)) (.at .int 8)) (.imp (.f2 50 (.f2 47 (.int 0) (.at .int 7))
    (.f2 45 (.f2 40 (.at .int 2) (.int 3)) (.int 0))) .tt)))))))))))))))))))
theorem ovr_vc : vcOf Try.prog ovrCx 10 53 ovrCtr = ovrVc := by kernel_rfl
-- END VC ovr
-- BEGIN VC tkk
def tkkVc : VC := (.imp (.f2 47 (.at .int 2) (.int 4000000)) (.imp (.f2 47 (.int 0) (.at .int 4)) (.imp (.f2 47 (.at .int 4) (.f1 30 (.at .ints 6))) (.imp (.f2 47 (.at
    .int 4) (.int 65534)) (.imp (.f2 47 (.int 0) (.at .int 8)) (.imp (.f2 47 (.at .int 8) (.f1 30 (.at .ints 10))) (.imp (.f2 47 (.at .int 8) (.int
    65534)) (.imp (.f2 153 (.f2 113 (.at .ints 6) (.at .int 4)) (.f2 113 (.at .ints 10) (.at .int 8))) (.all 11 .int (.all 12 .int (.all 13 .int (.all
    14 .rows (.all 15 .int (.all 16 .int (.all 17 .rows (.imp (.f2 47 (.int 0) (.at .int 12)) (.imp (.f2 47 (.at .int 12) (.at .int 2)) (.imp (.f2 47
    (.at .int 12) (.f1 32 (.at .rows 14))) (.imp (.f2 47 (.at .int 12) (.f1 32 (.at .rows 17))) (.imp (.f2 47 (.at .int 12) (.at .int 13)) (.imp (.f2
    47 (.at .int 12) (.at .int 16)) (.need (.f1 23 (.f2 40 (.at .int 2) (.int 1))) (.and (.imp (.f2 45 (.f2 44 (.f2 40 (.at .int 2) (.int 1)) (.int 2))
    (.int 1)) (.need (.f2 47 (.at .int 12) (.f2 40 (.at .int 2) (.int 1))) (.need (.f2 45 (.at .int 12) (.at .int 12)) (.need (.f2 155 (.f2 115 (.at
    .rows 14) (.at .int 12)) (.f2 115 (.at .rows 14) (.at .int 12))) (.need (.f2 155 (.f2 115 (.at .rows 17) (.at .int 12)) (.f2 115 (.at .rows 17)
    (.at .int 12))) .tt))))) (.imp (.f1 2 (.f2 45 (.f2 44 (.f2 40 (.at .int 2) (.int 1)) (.int 2)) (.int 1))) (.all 18 .int (.imp (.f2 47 (.int 0) (.at
    .int 18)) (.need (.f2 47 (.f2 42 (.f2 40 (.at .int 12) (.int 1)) (.int 24)) (.int 140737488355328)) (.all 19 .int (.all 20 .int (.imp (.f2 47 (.f2
    40 (.at .int 12) (.int 1)) (.at .int 20)) (.imp (.f2 50 (.f2 47 (.int 0) (.at .int 19)) (.f2 45 (.f2 40 (.at .int 12) (.int 1)) (.int 0))) (.all 21
    .int (.imp (.f2 47 (.int 0) (.at .int 21)) (.all 22 .int (.all 23 .int (.imp (.f2 47 (.f2 40 (.at .int 12) (.int 1)) (.at .int 23)) (.imp (.f2 50
    (.f2 47 (.int 0) (.at .int 22)) (.f2 45 (.f2 40 (.at .int 12) (.int 1)) (.int 0))) (.need (.f2 47 (.int 0) (.f2 40 (.at .int 12) (.int 1))) (.need
    (.f2 47 (.f2 40 (.at .int 12) (.int 1)) (.f2 40 (.at .int 2) (.int 1))) (.need (.f2 45 (.f2 40 (.at .int 12) (.int 1)) (.f2 40 (.at .int 12) (.int
    1))) (.need (.f2 47 (.f2 40 (.at .int 12) (.int 1)) (.f2 40 (.f1 32 (.f2 115 (.at .rows 14) (.at .int 12))) (.int 1))) (.need (.f2 47 (.f2 40 (.at
    .int 12) (.int 1)) (.f2 40 (.f1 32 (.f2 115 (.at .rows 17) (.at .int 12))) (.int 1))) (.need (.f2 155 (.f2 115 (.f2 121 (.f2 115 (.at .rows 14)
    (.at .int 12)) (.f2 124 (.f2 122 (.at .int 3) (.f2 122 (.at .int 4) (.f2 122 (.at .int 5) (.f1 152 (.int 0))))) (.f1 154 (.int 0)))) (.f2 40 (.at
    .int 12) (.int 1))) (.f2 115 (.f2 121 (.f2 115 (.at .rows 14) (.at .int 12)) (.f2 124 (.f2 122 (.at .int 3) (.f2 122 (.at .int 4) (.f2 122 (.at
    .int 5) (.f1 152 (.int 0))))) (.f1 154 (.int 0)))) (.f2 40 (.at .int 12) (.int 1)))) (.need (.f2 155 (.f2 115 (.f2 121 (.f2 115 (.at .rows 17) (.at
    .int 12)) (.f2 124 (.f2 122 (.at .int 7) (.f2 122 (.at .int 8) (.f2 122 (.at .int 9) (.f1 152 (.int 0))))) (.f1 154 (.int 0)))) (.f2 40 (.at .int
    12) (.int 1))) (.f2 115 (.f2 121 (.f2 115 (.at .rows 17) (.at .int 12)) (.f2 124 (.f2 122 (.at .int 7) (.f2 122 (.at .int 8) (.f2 122 (.at .int 9)
    (.f1 152 (.int 0))))) (.f1 154 (.int 0)))) (.f2 40 (.at .int 12) (.int 1)))) .tt))))))))))))))))))))))))))))))))))))))))))))
theorem tkk_vc : vcOf Try.prog tkkCx 10 25 tkkCtr = tkkVc := by kernel_rfl
-- END VC tkk
-- BEGIN VC std
def stdVc : VC := (.imp (.f2 47 (.at .int 1) (.int 4000000)) (.all 2 .int (.all 3 .int (.all 4 .int (.all 5 .rows (.all 6 .int (.all 7 .int (.all 8 .rows (.imp (.f2 47
    (.int 0) (.at .int 3)) (.imp (.f2 47 (.at .int 3) (.at .int 1)) (.imp (.f2 47 (.at .int 3) (.f1 32 (.at .rows 5))) (.imp (.f2 47 (.at .int 3) (.f1
    32 (.at .rows 8))) (.imp (.f2 47 (.at .int 3) (.at .int 4)) (.imp (.f2 47 (.at .int 3) (.at .int 7)) (.all 9 .int (.imp (.f2 47 (.int 0) (.at .int
    9)) (.imp (.f2 47 (.at .int 9) (.at .int 3)) (.and (.imp (.f2 46 (.at .int 9) (.at .int 3)) (.all 10 .ints (.all 11 .ints (.imp (.f2 47 (.int 0)
    (.f3 112 (.at .rows 5) (.at .int 9) (.int 1))) (.imp (.f2 47 (.f3 112 (.at .rows 5) (.at .int 9) (.int 1)) (.f1 30 (.at .ints 10))) (.imp (.f2 47
    (.f3 112 (.at .rows 5) (.at .int 9) (.int 1)) (.int 65534)) (.imp (.f2 47 (.int 0) (.f3 112 (.at .rows 8) (.at .int 9) (.int 1))) (.imp (.f2 47
    (.f3 112 (.at .rows 8) (.at .int 9) (.int 1)) (.f1 30 (.at .ints 11))) (.imp (.f2 47 (.f3 112 (.at .rows 8) (.at .int 9) (.int 1)) (.int 65534))
    (.imp (.f2 153 (.f2 113 (.at .ints 10) (.f3 112 (.at .rows 5) (.at .int 9) (.int 1))) (.f2 113 (.at .ints 11) (.f3 112 (.at .rows 8) (.at .int 9)
    (.int 1)))) (.need (.f2 46 (.at .int 9) (.f1 32 (.at .rows 5))) (.need (.f2 46 (.at .int 9) (.f1 32 (.at .rows 8))) (.need (.f2 47 (.f3 112 (.at
    .rows 5) (.at .int 9) (.int 1)) (.int 140737488355328)) (.need (.f2 47 (.f3 112 (.at .rows 8) (.at .int 9) (.int 1)) (.int 140737488355328)) (.all
    12 .bool (.imp (.f2 48 (.at .bool 12) (.f2 153 (.f2 113 (.at .ints 10) (.f3 112 (.at .rows 5) (.at .int 9) (.int 1))) (.f2 113 (.at .ints 11) (.f3
    112 (.at .rows 8) (.at .int 9) (.int 1))))) (.and (.imp (.f1 2 (.at .bool 12)) (.need (.f2 45 (.at .int 3) (.at .int 3)) (.need (.f2 155 (.bool
    .true) (.bool .false)) .tt))) (.imp (.f1 2 (.f1 2 (.at .bool 12))) (.need (.f1 23 (.f2 40 (.at .int 9) (.int 1))) (.need (.f2 47 (.int 0) (.f2 41
    (.at .int 3) (.f2 40 (.at .int 9) (.int 1)))) (.need (.f2 46 (.f2 41 (.at .int 3) (.f2 40 (.at .int 9) (.int 1))) (.f2 41 (.at .int 3) (.at .int
    9))) (.need (.f2 47 (.int 0) (.f2 40 (.at .int 9) (.int 1))) (.need (.f2 47 (.f2 40 (.at .int 9) (.int 1)) (.at .int 3)) .tt)))))))))))))))))))))))
    (.imp (.f2 47 (.at .int 3) (.at .int 9)) (.all 10 .int (.imp (.f2 47 (.int 0) (.at .int 10)) (.imp (.f2 47 (.at .int 10) (.at .int 3)) (.and (.imp
    (.f2 46 (.at .int 10) (.at .int 3)) (.all 11 .ints (.imp (.f2 47 (.int 0) (.f3 112 (.at .rows 5) (.at .int 10) (.int 1))) (.imp (.f2 47 (.f3 112
    (.at .rows 5) (.at .int 10) (.int 1)) (.f1 30 (.at .ints 11))) (.imp (.f2 47 (.f3 112 (.at .rows 5) (.at .int 10) (.int 1)) (.int 65534)) (.imp
    (.f2 47 (.f3 112 (.at .rows 5) (.at .int 10) (.int 1)) (.f3 112 (.at .rows 5) (.at .int 10) (.int 2))) (.need (.f2 45 (.f1 30 (.at .ints 11)) (.f1
    30 (.at .ints 11))) (.need (.f2 153 (.f2 113 (.at .ints 11) (.int 0)) (.f2 125 (.int 0) (.f2 41 (.int (-(999 + 1))) (.at .int 10)))) (.all 12 .int
    (.all 13 .ints (.imp (.f2 47 (.int 0) (.at .int 12)) (.imp (.f2 47 (.at .int 12) (.f3 112 (.at .rows 5) (.at .int 10) (.int 1))) (.imp (.f2 45 (.f1
    30 (.at .ints 13)) (.f1 30 (.at .ints 11))) (.imp (.f2 153 (.f2 113 (.at .ints 13) (.at .int 12)) (.f2 125 (.at .int 12) (.f2 41 (.int (-(999 +
    1))) (.at .int 10)))) (.need (.f2 46 (.at .int 10) (.f1 32 (.at .rows 5))) (.and (.imp (.f2 46 (.at .int 12) (.f3 112 (.at .rows 5) (.at .int 10)
    (.int 1))) (.need (.f1 23 (.f2 41 (.int (-(999 + 1))) (.at .int 10))) (.need (.f2 46 (.at .int 12) (.f1 30 (.at .ints 13))) (.need (.f1 23 (.f2 40
    (.at .int 12) (.int 1))) (.need (.f2 47 (.int 0) (.f2 41 (.f3 112 (.at .rows 5) (.at .int 10) (.int 1)) (.f2 40 (.at .int 12) (.int 1)))) (.need
    (.f2 46 (.f2 41 (.f3 112 (.at .rows 5) (.at .int 10) (.int 1)) (.f2 40 (.at .int 12) (.int 1))) (.f2 41 (.f3 112 (.at .rows 5) (.at .int 10) (.int
    1)) (.at .int 12))) (.need (.f2 47 (.int 0) (.f2 40 (.at .int 12) (.int 1))) (.need (.f2 47 (.f2 40 (.at .int 12) (.int 1)) (.f3 112 (.at .rows 5)
    (.at .int 10) (.int 1))) (.need (.f2 153 (.f2 113 (.f3 130 (.at .ints 13) (.at .int 12) (.f2 41 (.int (-(999 + 1))) (.at .int 10))) (.f2 40 (.at
    .int 12) (.int 1))) (.f2 125 (.f2 40 (.at .int 12) (.int 1)) (.f2 41 (.int (-(999 + 1))) (.at .int 10)))) .tt))))))))) (.imp (.f2 47 (.f3 112 (.at
    .rows 5) (.at .int 10) (.int 1)) (.at .int 12)) (.need (.f2 47 (.f3 112 (.at .rows 5) (.at .int 10) (.int 1)) (.f1 30 (.at .ints 13))) (.need (.f2
    153 (.f2 113 (.at .ints 13) (.f3 112 (.at .rows 5) (.at .int 10) (.int 1))) (.f2 125 (.f3 112 (.at .rows 5) (.at .int 10) (.int 1)) (.f2 41 (.int
    (-(999 + 1))) (.at .int 10)))) (.need (.f1 23 (.f2 40 (.at .int 10) (.int 1))) (.need (.f2 47 (.int 0) (.f2 41 (.at .int 3) (.f2 40 (.at .int 10)
    (.int 1)))) (.need (.f2 46 (.f2 41 (.at .int 3) (.f2 40 (.at .int 10) (.int 1))) (.f2 41 (.at .int 3) (.at .int 10))) (.need (.f2 47 (.int 0) (.f2
    40 (.at .int 10) (.int 1))) (.need (.f2 47 (.f2 40 (.at .int 10) (.int 1)) (.at .int 3)) .tt)))))))))))))))))))))))) (.imp (.f2 47 (.at .int 3)
    (.at .int 10)) (.all 11 .int (.all 12 .int (.all 13 .int (.all 14 .int (.all 15 .rows (.imp (.f2 47 (.int 0) (.at .int 11)) (.imp (.f2 47 (.at .int
    11) (.at .int 3)) (.imp (.f2 45 (.at .int 13) (.f2 42 (.int 9) (.at .int 11))) (.imp (.f2 47 (.at .int 13) (.f1 32 (.at .rows 15))) (.and (.imp
    (.f2 46 (.at .int 11) (.at .int 3)) (.need (.f2 46 (.at .int 11) (.f1 32 (.at .rows 5))) (.need (.f2 45 (.f3 112 (.at .rows 5) (.at .int 11) (.int
    0)) (.f3 112 (.at .rows 5) (.at .int 11) (.int 0))) (.need (.f2 45 (.f3 112 (.at .rows 5) (.at .int 11) (.int 1)) (.f3 112 (.at .rows 5) (.at .int
    11) (.int 1))) (.need (.f2 45 (.f3 112 (.at .rows 5) (.at .int 11) (.int 2)) (.f3 112 (.at .rows 5) (.at .int 11) (.int 2))) (.imp (.f2 47 (.int 0)
    (.f3 112 (.at .rows 5) (.at .int 11) (.int 1))) (.imp (.f2 47 (.f3 112 (.at .rows 5) (.at .int 11) (.int 1)) (.int 65534)) (.imp (.f2 47 (.f3 112
    (.at .rows 5) (.at .int 11) (.int 1)) (.f3 112 (.at .rows 5) (.at .int 11) (.int 2))) (.need (.f2 45 (.at .int 13) (.at .int 13)) (.all 16 .int
    (.all 17 .int (.all 18 .int (.all 19 .int (.all 20 .int (.all 21 .int (.all 22 .int (.all 23 .rows (.imp (.f2 47 (.int 0) (.at .int 16)) (.imp (.f2
    47 (.at .int 16) (.int 8)) (.imp (.f2 45 (.at .int 18) (.f2 40 (.f3 112 (.at .rows 5) (.at .int 11) (.int 1)) (.at .int 16))) (.imp (.f2 45 (.at
    .int 21) (.f2 40 (.at .int 13) (.at .int 16))) (.imp (.f2 47 (.at .int 21) (.f1 32 (.at .rows 23))) (.imp (.f2 47 (.at .int 18) (.at .int 19))
    (.and (.imp (.f2 46 (.at .int 16) (.int 8)) (.and (.imp (.f2 47 (.f2 40 (.at .int 18) (.int 1)) (.at .int 19)) (.need (.f1 23 (.f2 41 (.int (-(999
    + 1))) (.at .int 11))) (.all 24 .int (.imp (.f2 47 (.int 0) (.at .int 24)) (.need (.f2 47 (.int 0) (.at .int 18)) (.need (.f2 47 (.at .int 18) (.f1
    30 (.f2 125 (.at .int 18) (.f2 41 (.int (-(999 + 1))) (.at .int 11))))) (.need (.f2 45 (.f2 40 (.at .int 18) (.int 1)) (.f2 40 (.at .int 18) (.int
    1))) (.need (.f2 153 (.f2 119 (.f2 113 (.f2 125 (.at .int 18) (.f2 41 (.int (-(999 + 1))) (.at .int 11))) (.at .int 18)) (.f2 122 (.f2 41 (.int
    (-(999 + 1))) (.at .int 11)) (.f2 116 (.f2 125 (.at .int 18) (.f2 41 (.int (-(999 + 1))) (.at .int 11))) (.f2 40 (.at .int 18) (.int 1))))) (.f2
    125 (.f2 40 (.at .int 18) (.int 1)) (.f2 41 (.int (-(999 + 1))) (.at .int 11)))) (.all 25 .int (.imp (.f2 47 (.int 0) (.at .int 25)) (.need (.f2 47
    (.int 0) (.at .int 21)) (.need (.f2 47 (.f2 42 (.f2 40 (.at .int 21) (.int 1)) (.int 24)) (.int 140737488355328)) (.all 26 .int (.all 27 .int (.imp
    (.f2 47 (.f2 40 (.at .int 21) (.int 1)) (.at .int 27)) (.imp (.f2 50 (.f2 47 (.int 0) (.at .int 26)) (.f2 45 (.f2 40 (.at .int 21) (.int 1)) (.int
    0))) (.need (.f2 47 (.int 0) (.f2 40 (.at .int 18) (.int 1))) (.need (.f2 47 (.f2 40 (.at .int 18) (.int 1)) (.int 70000)) (.need (.f2 45 (.f2 41
    (.int (-(999 + 1))) (.at .int 11)) (.f2 41 (.int (-(999 + 1))) (.f2 43 (.at .int 21) (.int 9)))) (.need (.f1 23 (.f2 40 (.at .int 16) (.int 1)))
    (.need (.f2 47 (.int 0) (.f2 41 (.int 8) (.f2 40 (.at .int 16) (.int 1)))) (.need (.f2 46 (.f2 41 (.int 8) (.f2 40 (.at .int 16) (.int 1))) (.f2 41
    (.int 8) (.at .int 16))) (.need (.f2 47 (.int 0) (.f2 40 (.at .int 16) (.int 1))) (.need (.f2 47 (.f2 40 (.at .int 16) (.int 1)) (.int 8)) (.need
    (.f2 45 (.f2 40 (.at .int 18) (.int 1)) (.f2 40 (.f3 112 (.at .rows 5) (.at .int 11) (.int 1)) (.f2 40 (.at .int 16) (.int 1)))) (.need (.f2 45
    (.f2 40 (.at .int 21) (.int 1)) (.f2 40 (.at .int 13) (.f2 40 (.at .int 16) (.int 1)))) (.need (.f2 47 (.f2 40 (.at .int 21) (.int 1)) (.f2 40 (.f1
    32 (.f2 115 (.at .rows 23) (.at .int 21))) (.int 1))) .tt))))))))))))))))))))))))))) (.imp (.f2 46 (.at .int 19) (.f2 40 (.at .int 18) (.int 1)))
    (.need (.f1 23 (.f2 41 (.int (-(999 + 1))) (.at .int 11))) (.all 24 .int (.imp (.f2 47 (.int 0) (.at .int 24)) (.need (.f2 47 (.f2 42 (.f2 40 (.at
    .int 18) (.int 1)) (.int 8)) (.int 140737488355328)) (.need (.f2 47 (.int 0) (.at .int 18)) (.need (.f2 47 (.at .int 18) (.f1 30 (.f2 125 (.at .int
    18) (.f2 41 (.int (-(999 + 1))) (.at .int 11))))) (.all 25 .int (.all 26 .int (.imp (.f2 47 (.f2 40 (.at .int 18) (.int 1)) (.at .int 26)) (.imp
    (.f2 47 (.int 0) (.at .int 25)) (.need (.f2 45 (.f2 40 (.at .int 18) (.int 1)) (.f2 40 (.at .int 18) (.int 1))) (.need (.f2 153 (.f2 125 (.at .int
    18) (.f2 41 (.int (-(999 + 1))) (.at .int 11))) (.f2 125 (.at .int 18) (.f2 41 (.int (-(999 + 1))) (.at .int 11)))) (.need (.f2 153 (.f2 119 (.f2
    113 (.f2 125 (.at .int 18) (.f2 41 (.int (-(999 + 1))) (.at .int 11))) (.at .int 18)) (.f2 122 (.f2 41 (.int (-(999 + 1))) (.at .int 11)) (.f1 152
    (.int 0)))) (.f2 125 (.f2 40 (.at .int 18) (.int 1)) (.f2 41 (.int (-(999 + 1))) (.at .int 11)))) (.all 27 .int (.imp (.f2 47 (.int 0) (.at .int
    27)) (.need (.f2 47 (.int 0) (.at .int 21)) (.need (.f2 47 (.f2 42 (.f2 40 (.at .int 21) (.int 1)) (.int 24)) (.int 140737488355328)) (.all 28 .int
    (.all 29 .int (.imp (.f2 47 (.f2 40 (.at .int 21) (.int 1)) (.at .int 29)) (.imp (.f2 50 (.f2 47 (.int 0) (.at .int 28)) (.f2 45 (.f2 40 (.at .int
    21) (.int 1)) (.int 0))) (.need (.f2 47 (.int 0) (.f2 40 (.at .int 18) (.int 1))) (.need (.f2 47 (.f2 40 (.at .int 18) (.int 1)) (.int 70000))
    (.need (.f2 45 (.f2 41 (.int (-(999 + 1))) (.at .int 11)) (.f2 41 (.int (-(999 + 1))) (.f2 43 (.at .int 21) (.int 9)))) (.need (.f1 23 (.f2 40 (.at
    .int 16) (.int 1))) (.need (.f2 47 (.int 0) (.f2 41 (.int 8) (.f2 40 (.at .int 16) (.int 1)))) (.need (.f2 46 (.f2 41 (.int 8) (.f2 40 (.at .int
    16) (.int 1))) (.f2 41 (.int 8) (.at .int 16))) (.need (.f2 47 (.int 0) (.f2 40 (.at .int 16) (.int 1))) (.need (.f2 47 (.f2 40 (.at .int 16) (.int
    1)) (.int 8)) (.need (.f2 45 (.f2 40 (.at .int 18) (.int 1)) (.f2 40 (.f3 112 (.at .rows 5) (.at .int 11) (.int 1)) (.f2 40 (.at .int 16) (.int
    1)))) (.need (.f2 45 (.f2 40 (.at .int 21) (.int 1)) (.f2 40 (.at .int 13) (.f2 40 (.at .int 16) (.int 1)))) (.need (.f2 47 (.f2 40 (.at .int 21)
    (.int 1)) (.f2 40 (.f1 32 (.f2 115 (.at .rows 23) (.at .int 21))) (.int 1))) .tt))))))))))))))))))))))))))))))))))) (.imp (.f2 47 (.int 8) (.at
    .int 16)) (.all 24 .int (.imp (.f2 47 (.int 0) (.at .int 24)) (.need (.f2 47 (.int 0) (.at .int 21)) (.need (.f2 47 (.f2 42 (.f2 40 (.at .int 21)
    (.int 1)) (.int 24)) (.int 140737488355328)) (.all 25 .int (.all 26 .int (.imp (.f2 47 (.f2 40 (.at .int 21) (.int 1)) (.at .int 26)) (.imp (.f2 50
    (.f2 47 (.int 0) (.at .int 25)) (.f2 45 (.f2 40 (.at .int 21) (.int 1)) (.int 0))) (.need (.f2 47 (.f3 112 (.at .rows 5) (.at .int 11) (.int 1))
    (.int 70000)) (.need (.f2 45 (.f2 41 (.int (-(999 + 1))) (.at .int 11)) (.f2 41 (.int (-(999 + 1))) (.f2 43 (.at .int 21) (.int 9)))) (.need (.f2
    153 (.f2 125 (.at .int 18) (.f2 41 (.int (-(999 + 1))) (.at .int 11))) (.f2 125 (.at .int 18) (.f2 41 (.int (-(999 + 1))) (.at .int 11)))) (.need
    (.f1 23 (.f2 40 (.at .int 11) (.int 1))) (.need (.f2 47 (.int 0) (.f2 41 (.at .int 3) (.f2 40 (.at .int 11) (.int 1)))) (.need (.f2 46 (.f2 41 (.at
    .int 3) (.f2 40 (.at .int 11) (.int 1))) (.f2 41 (.at .int 3) (.at .int 11))) (.need (.f2 47 (.int 0) (.f2 40 (.at .int 11) (.int 1))) (.need (.f2
    47 (.f2 40 (.at .int 11) (.int 1)) (.at .int 3)) (.need (.f2 45 (.f2 40 (.at .int 21) (.int 1)) (.f2 42 (.int 9) (.f2 40 (.at .int 11) (.int 1))))
    (.need (.f2 47 (.f2 40 (.at .int 21) (.int 1)) (.f2 40 (.f1 32 (.f2 115 (.at .rows 23) (.at .int 21))) (.int 1)))
    .tt))))))))))))))))))))))))))))))))))))))))))) (.imp (.f2 47 (.at .int 3) (.at .int 11)) (.need (.f2 47 (.int 0) (.at .int 13)) (.all 16 .int (.imp
    (.f2 47 (.int 0) (.at .int 16)) (.imp (.f2 47 (.at .int 16) (.at .int 13)) (.and (.imp (.f2 46 (.at .int 16) (.at .int 13)) (.all 17 .ints (.all 18
    .int (.imp (.f2 47 (.int 0) (.f3 112 (.at .rows 15) (.at .int 16) (.int 1))) (.imp (.f2 47 (.f3 112 (.at .rows 15) (.at .int 16) (.int 1)) (.f1 30
    (.at .ints 17))) (.imp (.f2 47 (.f3 112 (.at .rows 15) (.at .int 16) (.int 1)) (.int 70000)) (.imp (.f2 153 (.at .ints 17) (.f2 125 (.f1 30 (.at
    .ints 17)) (.f2 41 (.int (-(999 + 1))) (.f2 43 (.at .int 16) (.int 9))))) (.all 19 .int (.imp (.f2 47 (.int 0) (.at .int 19)) (.imp (.f2 47 (.at
    .int 19) (.f3 112 (.at .rows 15) (.at .int 16) (.int 1))) (.need (.f2 46 (.at .int 16) (.f1 32 (.at .rows 15))) (.and (.imp (.f2 46 (.at .int 19)
    (.f3 112 (.at .rows 15) (.at .int 16) (.int 1))) (.need (.f2 46 (.at .int 19) (.f1 30 (.at .ints 17))) (.need (.f1 23 (.f2 43 (.at .int 16) (.int
    9))) (.need (.f1 23 (.f2 41 (.int (-(999 + 1))) (.f2 43 (.at .int 16) (.int 9)))) (.and (.imp (.f1 2 (.f2 45 (.f2 110 (.at .ints 17) (.at .int 19))
    (.f2 41 (.int (-(999 + 1))) (.f2 43 (.at .int 16) (.int 9))))) (.need (.f2 45 (.at .int 3) (.at .int 3)) (.need (.f2 155 (.bool .true) (.bool
    .false)) .tt))) (.imp (.f2 45 (.f2 110 (.at .ints 17) (.at .int 19)) (.f2 41 (.int (-(999 + 1))) (.f2 43 (.at .int 16) (.int 9)))) (.need (.f1 23
    (.f2 40 (.at .int 19) (.int 1))) (.need (.f2 47 (.int 0) (.f2 41 (.f3 112 (.at .rows 15) (.at .int 16) (.int 1)) (.f2 40 (.at .int 19) (.int 1))))
    (.need (.f2 46 (.f2 41 (.f3 112 (.at .rows 15) (.at .int 16) (.int 1)) (.f2 40 (.at .int 19) (.int 1))) (.f2 41 (.f3 112 (.at .rows 15) (.at .int
    16) (.int 1)) (.at .int 19))) (.need (.f2 47 (.int 0) (.f2 40 (.at .int 19) (.int 1))) (.need (.f2 47 (.f2 40 (.at .int 19) (.int 1)) (.f3 112 (.at
    .rows 15) (.at .int 16) (.int 1))) .tt))))))))))) (.imp (.f2 47 (.f3 112 (.at .rows 15) (.at .int 16) (.int 1)) (.at .int 19)) (.need (.f1 23 (.f2
    40 (.at .int 16) (.int 1))) (.need (.f2 47 (.int 0) (.f2 41 (.at .int 13) (.f2 40 (.at .int 16) (.int 1)))) (.need (.f2 46 (.f2 41 (.at .int 13)
    (.f2 40 (.at .int 16) (.int 1))) (.f2 41 (.at .int 13) (.at .int 16))) (.need (.f2 47 (.int 0) (.f2 40 (.at .int 16) (.int 1))) (.need (.f2 47 (.f2
    40 (.at .int 16) (.int 1)) (.at .int 13)) .tt)))))))))))))))))) (.imp (.f2 47 (.at .int 13) (.at .int 16)) (.need (.f2 45 (.at .int 3) (.at .int
    3)) .tt))))))))))))))))))))))))))))))))))))))))))
theorem std_vc : vcOf Try.prog stdCx 14 26 stdCtr = stdVc := by kernel_rfl
-- END VC std
theorem ovr_ok (S : Sig FL) : CtrOk S Try.prog 53 ovrCtr := by
  refine vcOf_sound S (C := ovrCx) (fuel := 10) (cx_of trivial ⟨⟨trivial, trivial⟩, trivial⟩ trivial) fun ρ => ?_
  rw [ovr_vc]
  simp only [ovrVc, VC.den, SX.den, co_int, co_bool, co_ints, co_rows, Env.upd, p155, p153, p48_153, p23, p45, p46, p47, p50, b46, b47, t46, t47, p2_45, ap1_2, ap1_30, ap1_32, ap1_152, ap1_154, ap2_40, ap2_41, ap2_42, ap2_43, ap2_45, ap2_110, ap2_119, beq_iff_eq, Bool.not_eq_true', beq_eq_false_iff_ne, ne_eq, Bool.not_not, toNat1, ap2_113, ap2_115, ap2_116, ap2_121, ap2_122, ap2_124, ap2_125, ap3_112, ap3_130, U.toProp_bool, U.toBool_bool, i64lo, i64hi, U.toInt_int, U.toInts_ints, U.toRows_rows, Int.toNat_zero, Nat.reduceEqDiff, reduceIte, U.rows.injEq, U.ints.injEq, U.bool.injEq]
  repeat' (first | exact trivial | apply And.intro | intro _)
  all_goals first | omega | rfl
set_option maxRecDepth 20000 in
theorem tkk_ok (S : Sig FL) (hK : KpSig S) : CtrOk S Try.prog 25 tkkCtr := by
  refine vcOf_sound S (C := tkkCx) (fuel := 10) (cx_of ⟨one_spec (by decide) (ovr_ok S), trivial⟩ ⟨⟨⟨by decide, unk_gh S hK⟩, ⟨by decide, puk_gh S hK⟩, ⟨by decide, fok_gh S hK⟩, trivial⟩, trivial⟩ trivial) fun ρ => ?_
  rw [tkk_vc]
  simp only [tkkVc, VC.den, SX.den, co_int, co_bool, co_ints, co_rows, Env.upd, p155, p153, p48_153, p23, p45, p46, p47, p50, b46, b47, t46, t47, p2_45, ap1_2, ap1_30, ap1_32, ap1_152, ap1_154, ap2_40, ap2_41, ap2_42, ap2_43, ap2_45, ap2_110, ap2_119, beq_iff_eq, Bool.not_eq_true', beq_eq_false_iff_ne, ne_eq, Bool.not_not, toNat1, ap2_113, ap2_115, ap2_116, ap2_121, ap2_122, ap2_124, ap2_125, ap3_112, ap3_130, U.toProp_bool, U.toBool_bool, i64lo, i64hi, U.toInt_int, U.toInts_ints, U.toRows_rows, Int.toNat_zero, Nat.reduceEqDiff, reduceIte, U.rows.injEq, U.ints.injEq, U.bool.injEq]
  repeat' (first | exact trivial | apply And.intro | intro _)
  all_goals first | omega | rfl | (simp only [List.length_append, List.length_take, List.length_cons, List.length_nil] at *; omega)
theorem rep_at {x : List Int} {v i : Int} (h : x = List.replicate (x.length : Int).toNat v) (h0 : 0 ≤ i) (h1 : i < x.length) : x.getD i.toNat 0 = v := by
  generalize hn : (x.length : Int).toNat = n at h
  subst h
  rw [List.getD_eq_getElem?_getD, List.getElem?_replicate, if_pos (by omega)]; rfl
theorem rep_set {x : List Int} {v n : Int} (h : x.take n.toNat = List.replicate n.toNat v) (h0 : 0 ≤ n) (h1 : n < x.length) : (x.set n.toNat v).take (n + 1).toNat = List.replicate (n + 1).toNat v := by
  rw [show (n + 1).toNat = n.toNat + 1 by omega, List.replicate_succ', ← h, List.take_add_one, List.take_set_of_le (Nat.le_refl _), List.getElem?_set_self (by omega)]; rfl
theorem rep_take {x : List Int} {v n m : Int} (h : x.take n.toNat = List.replicate n.toNat v) (h1 : m ≤ n) (h2 : n ≤ m) : x.take m.toNat = List.replicate m.toNat v := by
  rw [show m = n by omega]; exact h
theorem rep_app {n : Int} (v : Int) (h0 : 0 ≤ n) : (List.replicate n.toNat v).take n.toNat ++ [v] = List.replicate (n + 1).toNat v := by
  rw [show (n + 1).toNat = n.toNat + 1 by omega, List.replicate_succ', List.take_of_length_le (by simp)]
theorem rep_in {n : Int} (v : Int) (h0 : 0 ≤ n) : (List.replicate n.toNat v).take n.toNat ++ v :: (List.replicate n.toNat v).drop (n + 1).toNat = List.replicate (n + 1).toNat v := by
  rw [List.drop_of_length_le (by rw [List.length_replicate]; omega)]; exact rep_app v h0
set_option maxRecDepth 20000 in
theorem std_ok (S : Sig FL) (hK : KpSig S) : CtrOk S Try.prog 26 stdCtr := by
  refine vcOf_sound S (C := stdCx) (fuel := 14) (cx_of ⟨one_spec (by decide) (same_ok S), trivial⟩ ⟨⟨⟨by decide, unk_gh S hK⟩, trivial, ⟨by decide, toK_gh S hK⟩, ⟨by decide, pbK_gh S hK⟩, ⟨by decide, cvK_gh S hK⟩, trivial, ⟨by decide, toF_gh S hK⟩, trivial, ⟨by decide, pbF_gh S hK⟩, ⟨by decide, nwG_gh S hK⟩, trivial, ⟨by decide, opG_gh S hK⟩, trivial, trivial, trivial, ⟨by decide, rmG_gh S hK⟩, trivial, ⟨by decide, grG_gh S hK⟩, ⟨by decide, psG_gh S hK⟩, ⟨by decide, ps0_gh S hK⟩, ⟨by decide, enG_gh S hK⟩, trivial, ⟨by decide, toG_gh S hK⟩, trivial, ⟨by decide, pbG_gh S hK⟩, ⟨by decide, nuK_gh S hK⟩, trivial⟩, trivial⟩ trivial) fun ρ => ?_
  rw [std_vc]
  simp only [stdVc, VC.den, SX.den, co_int, co_bool, co_ints, co_rows, Env.upd, p155, p153, p48_153, p23, p45, p46, p47, p50, b46, b47, t46, t47, p2_45, ap1_2, ap1_30, ap1_32, ap1_152, ap1_154, ap2_40, ap2_41, ap2_42, ap2_43, ap2_45, ap2_110, ap2_119, beq_iff_eq, Bool.not_eq_true', beq_eq_false_iff_ne, ne_eq, Bool.not_not, toNat1, ap2_113, ap2_115, ap2_116, ap2_121, ap2_122, ap2_124, ap2_125, ap3_112, ap3_130, U.toProp_bool, U.toBool_bool, i64lo, i64hi, U.toInt_int, U.toInts_ints, U.toRows_rows, Int.toNat_zero, Nat.reduceEqDiff, reduceIte, U.rows.injEq, U.ints.injEq, U.bool.injEq]
  repeat' (first | exact trivial | apply And.intro | intro _)
  all_goals first
    | omega
    | rfl
    | (simp only [List.length_append, List.length_take, List.length_cons, List.length_nil, List.length_replicate, List.length_set]; omega)
    | (rw [Int.tdiv_eq_ediv_of_nonneg (by omega)]; omega)
    | exact rep_app _ (by omega)
    | exact rep_in _ (by omega)
    | exact rep_set ‹_› (by omega) (by omega)
    | exact rep_take ‹_› (by omega) (by omega)
    | exact absurd (rep_at ‹_› (by omega) (by omega)) ‹_›
    | simp_all
end
end Go.Proofs.Ytmjonggabppgaaa
