/- CacheTells: the law's contract. -/
import Derived.Test.YtlcfjjjdhdfbdaaPt5
set_option linter.unusedSimpArgs false
set_option linter.unusedVariables false
set_option maxRecDepth 20000
namespace Go.Proofs.Ytlcfjjjdhdfbdaa
noncomputable section
open Go.Eng
def opE : En := .rows [.int .i64, .int .i64, .int .i64, .slo 1, .int .i64, .int .i64]
def ctS : List (Nat × List Ctr) := [(4, [liveCtr]), (5, [pnCtr]), (8, [fdCtr]), (9, [putCtr]), (7, [getCtr]), (12, [flCtr]), (13, [imgCtr]), (14, [stCtr]), (10, [pinCtr]), (11, [unpCtr])]
def ctCtr : Ctr := ⟨[.int, .int, .int, .int, .int, .rows], [.one (.int .i64 (ai 0)), .one (.slice (ai 1) (ai 2) z0 z0 (ai 3) (ai 4) 6)], [.ro opE (ai 1) (ai 2) (rA 5)], [eLe z0 (ai 3), eLe (ai 3) (lenR (rA 5)), eLe (ai 3) (ai 4), eLe (ai 3) (.int 1048576)], [], .one (.bool (.bool true)), [], []⟩
def ctP : Nat := 6
def ctC : Nat := 9
def ctA : Nat := 10
def ctB : Nat := 11
/-- A frame: junk but what is told. -/
def frOf (n : Nat) (l : List (Nat × SV)) : List SV := setSlots l 0 (List.replicate n .junk)
def ctF : List (Nat × SV) := [(0, .one (.int .i64 (ai 0))), (1, .one (.slice (ai 1) (ai 2) z0 z0 (ai 3) (ai 4) 6)), (6, .one (.ptr (ai ctP) 0)), (7, .one (.ptr (ai ctC) 0)), (8, .one (sl1 (ai ctA) (.int 8) (.int 8))), (9, .one (sl1 (ai ctB) (.int 8) (.int 8)))]
def ctRo : Ch := .ro opE (ai 1) (ai 2) (rA 5)
def ctH (g d i p : SX) : List Ch := [csC (ai ctC) (ai ctP) g, plC (ai ctP) d, iAr (ai ctA) i (.int 8), iAr (ai ctB) p (.int 8)]
def ctT (g d i p k : SX) : List SX := [Go.Eng.SX.us .bool 320 g d i p, usB 321 g d k, .f2 45 (usI 257 g z0 z0) (ai 0)]
def ctN : SX := nt (rA 5) (ai 16) 1
def ctI3 : List SX := [eLe (ai 3) (.int 1048576), eLe (ai 3) (lenR (rA 5)), eLe z0 (ai 3)]
/-- Ahead of the loop: the cache's state, the device's, what was put, the pins: 12 .. 15. -/
def ctO : Inv := ⟨[.g, .g, .ints, .ints], [], ctH (gA 1000000) (gA 1000001) (iA 1000002) (iA 1000003), ctI3 ++ ctT (gA 1000000) (gA 1000001) (iA 1000002) (iA 1000003) z0, z0⟩
/-- A step's start: 16 which one; 17 .. 20 as above. -/
def ctI : Inv := ⟨[.int, .g, .g, .ints, .ints], [(10, .one (.int .i64 (di 0)))], ctH (gA 1000001) (gA 1000002) (iA 1000003) (iA 1000004),
  [eLe z0 (di 0), eLe (di 0) (ai 3)] ++ ctT (gA 1000001) (gA 1000002) (iA 1000003) (iA 1000004) (di 0), .f2 41 (ai 3) (di 0)⟩
/-- Ahead of the switch: 22 inside. -/
def ctM : Inv := ⟨[.bool], [(13, .one (.bool (.at .bool 1000000)))], [], [eLe z0 (ai 16), eLt (ai 16) (ai 3)] ++ ctI3 ++ ctT (gA 17) (gA 18) (iA 19) (iA 20) (ai 16) ++ [.f2 48 (.at .bool 1000000) (.f2 49 (eLe z0 ctN) (eLt ctN (.int 8)))], z0⟩
def ctOp : List SC := [.int .i64 (nt (rA 5) (ai 16) 0), .int .i64 ctN, .int .i64 (nt (rA 5) (ai 16) 2), .opq (rA 5) (ai 16) 3, .int .i64 (nt (rA 5) (ai 16) 8), .int .i64 (nt (rA 5) (ai 16) 9)]
def ctMF : List SV := frOf 263 (ctF ++ [(10, .one (.int .i64 (ai 16))), (11, .one (.ptr (ai 21) 0)), (12, .one (.int .i64 ctN)), (14, .one (.int .i64 z0)), (65, .one (.int .i64 (nt (rA 5) (ai 16) 0)))])
def ctMB : List Ch := ctH (gA 17) (gA 18) (iA 19) (iA 20) ++ [.cel (ai 21) 0 ctOp, ctRo]
/-- Behind each step's own part: 0 the answer, 1 inside, 2 .. 5 as above. -/
def ctK : Inv := ⟨[.int, .bool, .g, .g, .ints, .ints], [(14, .one (.int .i64 (di 0))), (13, .one (.bool (.at .bool 1000001)))], ctH (gA 1000002) (gA 1000003) (iA 1000004) (iA 1000005),
  [eLe z0 (ai 16), eLt (ai 16) (ai 3)] ++ ctI3 ++ ctT (gA 1000002) (gA 1000003) (iA 1000004) (iA 1000005) (add1 (ai 16)) ++ [usB 323 (gA 1000002) (di 0) (.f1 3 (.at .bool 1000001))], z0⟩
def ctKF : List SV := frOf 263 (ctF ++ [(10, .one (.int .i64 (ai 16)))])
def ctG : SX := gA 1000004
/-- The pinned pages are counted: 0 the page that is looked at; 1 the answer; 2 the state's place; 3 inside; 4 .. as above. -/
def ctJ : Inv := ⟨[.int, .int, .int, .bool, .g, .g, .ints, .ints], [(24, .one (.int .i64 (di 0))), (14, .one (.int .i64 (di 1))), (22, .one (.ptr (di 2) 0)), (13, .one (.bool (.at .bool 1000003))), (23, .one (.int .i64 (usI 322 (iA 1000007) (di 0) z0)))],
  ctH ctG (gA 1000005) (iA 1000006) (iA 1000007) ++ [.cel (di 2) 0 [.int .i64 (usI 257 ctG z0 z0), .int .i64 (usI 256 ctG z0 z0), .int .i64 (usI 291 ctG nilM z0), .int .i64 (usI 292 ctG nilM z0), .int .i64 (usI 258 ctG z0 z0), .int .i64 (usI 259 ctG z0 z0), .int .i64 (usI 260 ctG z0 z0)]],
  [eLe z0 (di 0), eLe (di 0) (.int 8)] ++ ctT ctG (gA 1000005) (iA 1000006) (iA 1000007) (add1 (ai 16)) ++ [usB 323 ctG (di 1) (.f1 3 (.at .bool 1000003))], .f2 41 (.int 8) (di 0)⟩
/-- The image is looked through. -/
def ctL : Inv := ⟨[.int], [(21, .one (.int .i64 (di 0)))], [], [eLe z0 (di 0), eLe (di 0) (.int 8)], .f2 41 (.int 8) (di 0)⟩
def ctCx : Cx := { specs := ctS, anns := newA ++ [(3, [(10, .cut 12 (frOf 263 ctF) [ctRo] ctO), (11, .inv ctI), (18, .cut 22 ctMF ctMB ctM), (48, .inv ctL), (52, .cut 44 ctKF [ctRo] ctK), (55, .inv ctJ)])] }
-- BEGIN VC ct
def ctTail : VC := (.all 44 .int (.all 45 .bool (.all 46 .g (.all 47 .g (.all 48 .ints (.all 49 .ints (.imp (.f2 47 (.int 0) (.at .int 16)) (.imp (.f2 46 (.at .int 16) 
    (.at .int 3)) (.imp (.f2 47 (.at .int 3) (.int 1048576)) (.imp (.f2 47 (.at .int 3) (.f1 32 (.at .rows 5))) (.imp (.f2 47 (.int 0) (.at .int 3)) (.imp 
    (.us .bool 320 (.at .g 46) (.at .g 47) (.at .ints 48) (.at .ints 49)) (.imp (.us .bool 321 (.at .g 46) (.at .g 47) (.f2 40 (.at .int 16) (.int 1)) 
    (.int 0)) (.imp (.f2 45 (.us .int 257 (.at .g 46) (.int 0) (.int 0) (.int 0)) (.at .int 0)) (.imp (.us .bool 323 (.at .g 46) (.at .int 44) (.f1 3 (.at 
    .bool 45)) (.int 0)) (.all 50 .int (.imp (.f2 47 (.int 0) (.at .int 50)) (.need (.f2 45 (.us .int 322 (.at .ints 49) (.int 0) (.int 0) (.int 0)) (.int 
    0)) (.all 51 .int (.all 52 .int (.all 53 .int (.all 54 .bool (.all 55 .g (.all 56 .g (.all 57 .ints (.all 58 .ints (.imp (.f2 47 (.int 0) (.at .int 
    51)) (.imp (.f2 47 (.at .int 51) (.int 8)) (.imp (.us .bool 320 (.at .g 55) (.at .g 56) (.at .ints 57) (.at .ints 58)) (.imp (.us .bool 321 (.at .g 
    55) (.at .g 56) (.f2 40 (.at .int 16) (.int 1)) (.int 0)) (.imp (.f2 45 (.us .int 257 (.at .g 55) (.int 0) (.int 0) (.int 0)) (.at .int 0)) (.imp (.us 
    .bool 323 (.at .g 55) (.at .int 52) (.f1 3 (.at .bool 54)) (.int 0)) (.and (.imp (.f2 46 (.at .int 51) (.int 8)) (.need (.f2 46 (.at .int 51) (.f1 30 
    (.at .ints 58))) (.and (.imp (.f2 46 (.int 0) (.f2 110 (.at .ints 58) (.at .int 51))) (.need (.f1 23 (.f2 40 (.us .int 322 (.at .ints 58) (.at .int 
    51) (.int 0) (.int 0)) (.int 1))) (.need (.f1 23 (.f2 40 (.at .int 51) (.int 1))) (.need (.f2 47 (.int 0) (.f2 41 (.int 8) (.f2 40 (.at .int 51) (.int 
    1)))) (.need (.f2 46 (.f2 41 (.int 8) (.f2 40 (.at .int 51) (.int 1))) (.f2 41 (.int 8) (.at .int 51))) (.need (.f2 47 (.int 0) (.f2 40 (.at .int 51) 
    (.int 1))) (.need (.f2 47 (.f2 40 (.at .int 51) (.int 1)) (.int 8)) (.need (.f2 45 (.us .int 322 (.at .ints 58) (.f2 40 (.at .int 51) (.int 1)) (.int 
    0) (.int 0)) (.f2 40 (.us .int 322 (.at .ints 58) (.at .int 51) (.int 0) (.int 0)) (.int 1))) (.tt))))))))) (.imp (.f2 47 (.f2 110 (.at .ints 58) (.at 
    .int 51)) (.int 0)) (.need (.f1 23 (.f2 40 (.at .int 51) (.int 1))) (.need (.f2 47 (.int 0) (.f2 41 (.int 8) (.f2 40 (.at .int 51) (.int 1)))) (.need 
    (.f2 46 (.f2 41 (.int 8) (.f2 40 (.at .int 51) (.int 1))) (.f2 41 (.int 8) (.at .int 51))) (.need (.f2 47 (.int 0) (.f2 40 (.at .int 51) (.int 1))) 
    (.need (.f2 47 (.f2 40 (.at .int 51) (.int 1)) (.int 8)) (.need (.f2 45 (.us .int 322 (.at .ints 58) (.f2 40 (.at .int 51) (.int 1)) (.int 0) (.int 
    0)) (.us .int 322 (.at .ints 58) (.at .int 51) (.int 0) (.int 0))) (.tt))))))))))) (.imp (.f2 47 (.int 8) (.at .int 51)) (.and (.imp (.f2 47 (.us .int 
    256 (.at .g 55) (.int 0) (.int 0) (.int 0)) (.at .int 0)) (.and (.imp (.f2 45 (.us .int 292 (.at .g 55) (.f1 155 (.int 0)) (.int 0) (.int 0)) (.us 
    .int 322 (.at .ints 58) (.at .int 51) (.int 0) (.int 0))) (.and (.imp (.f2 47 (.us .int 292 (.at .g 55) (.f1 155 (.int 0)) (.int 0) (.int 0)) (.us 
    .int 256 (.at .g 55) (.int 0) (.int 0) (.int 0))) (.and (.imp (.f2 46 (.us .int 256 (.at .g 55) (.int 0) (.int 0) (.int 0)) (.us .int 291 (.at .g 55) 
    (.f1 155 (.int 0)) (.int 0) (.int 0))) (.need (.f2 155 (.bool true) (.bool false)) (.tt))) (.imp (.f2 47 (.us .int 291 (.at .g 55) (.f1 155 (.int 0)) 
    (.int 0) (.int 0)) (.us .int 256 (.at .g 55) (.int 0) (.int 0) (.int 0))) (.and (.imp (.f1 2 (.f2 45 (.at .int 52) (.int 0))) (.and (.imp (.at .bool 
    54) (.and (.imp (.f2 45 (.at .int 52) (.int 40)) (.and (.imp (.f2 45 (.at .int 52) (.int 40)) (.and (.imp (.f2 46 (.us .int 322 (.at .ints 58) (.at 
    .int 51) (.int 0) (.int 0)) (.at .int 0)) (.need (.f2 155 (.bool true) (.bool false)) (.tt))) (.imp (.f2 47 (.at .int 0) (.us .int 322 (.at .ints 58) 
    (.at .int 51) (.int 0) (.int 0))) (.need (.f1 23 (.f2 40 (.at .int 16) (.int 1))) (.need (.f2 47 (.int 0) (.f2 41 (.at .int 3) (.f2 40 (.at .int 16) 
    (.int 1)))) (.need (.f2 46 (.f2 41 (.at .int 3) (.f2 40 (.at .int 16) (.int 1))) (.f2 41 (.at .int 3) (.at .int 16))) (.need (.f2 47 (.int 0) (.f2 40 
    (.at .int 16) (.int 1))) (.need (.f2 47 (.f2 40 (.at .int 16) (.int 1)) (.at .int 3)) (.tt))))))))) (.tt))) (.imp (.f1 2 (.f2 45 (.at .int 52) (.int 
    40))) (.need (.f2 155 (.bool true) (.bool false)) (.tt))))) (.imp (.f1 2 (.at .bool 54)) (.and (.imp (.f2 45 (.at .int 52) (.int 40)) (.and (.imp (.f2 
    46 (.us .int 322 (.at .ints 58) (.at .int 51) (.int 0) (.int 0)) (.at .int 0)) (.need (.f2 155 (.bool true) (.bool false)) (.tt))) (.imp (.f2 47 (.at 
    .int 0) (.us .int 322 (.at .ints 58) (.at .int 51) (.int 0) (.int 0))) (.need (.f1 23 (.f2 40 (.at .int 16) (.int 1))) (.need (.f2 47 (.int 0) (.f2 41 
    (.at .int 3) (.f2 40 (.at .int 16) (.int 1)))) (.need (.f2 46 (.f2 41 (.at .int 3) (.f2 40 (.at .int 16) (.int 1))) (.f2 41 (.at .int 3) (.at .int 
    16))) (.need (.f2 47 (.int 0) (.f2 40 (.at .int 16) (.int 1))) (.need (.f2 47 (.f2 40 (.at .int 16) (.int 1)) (.at .int 3)) (.tt))))))))) (.imp (.f1 2 
    (.f2 45 (.at .int 52) (.int 40))) (.need (.f1 23 (.f2 40 (.at .int 16) (.int 1))) (.need (.f2 47 (.int 0) (.f2 41 (.at .int 3) (.f2 40 (.at .int 16) 
    (.int 1)))) (.need (.f2 46 (.f2 41 (.at .int 3) (.f2 40 (.at .int 16) (.int 1))) (.f2 41 (.at .int 3) (.at .int 16))) (.need (.f2 47 (.int 0) (.f2 40 
    (.at .int 16) (.int 1))) (.need (.f2 47 (.f2 40 (.at .int 16) (.int 1)) (.at .int 3)) (.tt))))))))))) (.imp (.f2 45 (.at .int 52) (.int 0)) (.need 
    (.f1 23 (.f2 40 (.at .int 16) (.int 1))) (.need (.f2 47 (.int 0) (.f2 41 (.at .int 3) (.f2 40 (.at .int 16) (.int 1)))) (.need (.f2 46 (.f2 41 (.at 
    .int 3) (.f2 40 (.at .int 16) (.int 1))) (.f2 41 (.at .int 3) (.at .int 16))) (.need (.f2 47 (.int 0) (.f2 40 (.at .int 16) (.int 1))) (.need (.f2 47 
    (.f2 40 (.at .int 16) (.int 1)) (.at .int 3)) (.tt))))))))))) (.imp (.f2 46 (.us .int 256 (.at .g 55) (.int 0) (.int 0) (.int 0)) (.us .int 292 (.at 
    .g 55) (.f1 155 (.int 0)) (.int 0) (.int 0))) (.need (.f2 155 (.bool true) (.bool false)) (.tt))))) (.imp (.f1 2 (.f2 45 (.us .int 292 (.at .g 55) 
    (.f1 155 (.int 0)) (.int 0) (.int 0)) (.us .int 322 (.at .ints 58) (.at .int 51) (.int 0) (.int 0)))) (.need (.f2 155 (.bool true) (.bool false)) 
    (.tt))))) (.imp (.f2 46 (.at .int 0) (.us .int 256 (.at .g 55) (.int 0) (.int 0) (.int 0))) (.need (.f2 155 (.bool true) (.bool false)) 
    (.tt))))))))))))))))))))))))))))))))))))))
def ctTail1 : VC := (.all 22 .bool (.imp (.f2 47 (.int 0) (.at .int 16)) (.imp (.f2 46 (.at .int 16) (.at .int 3)) (.imp (.f2 47 (.at .int 3) (.int 1048576)) (.imp (.f2 
    47 (.at .int 3) (.f1 32 (.at .rows 5))) (.imp (.f2 47 (.int 0) (.at .int 3)) (.imp (.us .bool 320 (.at .g 17) (.at .g 18) (.at .ints 19) (.at .ints 
    20)) (.imp (.us .bool 321 (.at .g 17) (.at .g 18) (.at .int 16) (.int 0)) (.imp (.f2 45 (.us .int 257 (.at .g 17) (.int 0) (.int 0) (.int 0)) (.at 
    .int 0)) (.imp (.f2 48 (.at .bool 22) (.f2 49 (.f2 47 (.int 0) (.f3 112 (.at .rows 5) (.at .int 16) (.int 1))) (.f2 46 (.f3 112 (.at .rows 5) (.at 
    .int 16) (.int 1)) (.int 8)))) (.and (.imp (.f2 45 (.f3 112 (.at .rows 5) (.at .int 16) (.int 0)) (.int 1)) (.need (.f2 47 (.us .int 206 (.at .g 18) 
    (.int 0) (.int 0) (.int 0)) (.int 4611686018427387904)) (.need (.f2 47 (.us .int 211 (.at .g 18) (.int 0) (.int 0) (.int 0)) (.int 1099511627776)) 
    (.need (.f2 47 (.f1 30 (.us .ints 209 (.at .g 18) (.int 0) (.int 0) (.int 0))) (.int 140737488355328)) (.need (.f2 47 (.us .int 205 (.at .g 18) (.int 
    0) (.int 0) (.int 0)) (.int 4611686018427387904)) (.need (.f2 47 (.us .int 258 (.at .g 17) (.int 0) (.int 0) (.int 0)) (.int 4611686018427387904)) 
    (.need (.f2 47 (.us .int 259 (.at .g 17) (.int 0) (.int 0) (.int 0)) (.int 4611686018427387904)) (.need (.f2 47 (.us .int 260 (.at .g 17) (.int 0) 
    (.int 0) (.int 0)) (.int 4611686018427387904)) (.all 23 .int (.all 24 .int (.all 25 .int (.all 26 .bytes (.imp (.f2 50 (.f1 2 (.f2 45 (.us .int 285 
    (.at .g 17) (.at .g 18) (.f3 112 (.at .rows 5) (.at .int 16) (.int 1)) (.int 0)) (.int 0))) (.f2 155 (.f2 114 (.at .bytes 26) (.at .int 24)) (.us 
    .bytes 253 (.us .g 283 (.at .g 17) (.at .g 18) (.f3 112 (.at .rows 5) (.at .int 16) (.int 1)) (.int 0)) (.f2 40 (.us .int 256 (.us .g 283 (.at .g 17) 
    (.at .g 18) (.f3 112 (.at .rows 5) (.at .int 16) (.int 1)) (.int 0)) (.int 0) (.int 0) (.int 0)) (.int (-1))) (.int 0) (.int 0)))) (.imp (.f2 50 (.f2 
    47 (.int 0) (.at .int 23)) (.f2 45 (.at .int 24) (.int 0))) (.imp (.f2 47 (.int 0) (.at .int 24)) (.imp (.f2 47 (.at .int 24) (.f1 31 (.at .bytes 
    26))) (.imp (.f2 47 (.at .int 24) (.at .int 25)) (.and (.imp (.f2 45 (.us .int 285 (.at .g 17) (.at .g 18) (.f3 112 (.at .rows 5) (.at .int 16) (.int 
    1)) (.int 0)) (.int 0)) (.and (.imp (.f1 2 (.f1 2 (.at .bool 22))) (.and (.imp (.f2 45 (.at .int 24) (.int 512)) (.need (.f2 46 (.int 0) (.at .int 
    24)) (.need (.f2 46 (.int 0) (.f1 31 (.at .bytes 26))) (.need (.f2 47 (.int 0) (.f3 112 (.at .rows 5) (.at .int 16) (.int 1))) (.need (.f2 46 (.f3 112 
    (.at .rows 5) (.at .int 16) (.int 1)) (.int 8)) (.need (.f2 46 (.f3 112 (.at .rows 5) (.at .int 16) (.int 1)) (.f1 30 (.at .ints 19))) (.and (.imp 
    (.f2 45 (.f2 111 (.at .bytes 26) (.int 0)) (.f2 110 (.at .ints 19) (.f3 112 (.at .rows 5) (.at .int 16) (.int 1)))) (.need (.f2 46 (.int 511) (.at 
    .int 24)) (.need (.f2 46 (.int 511) (.f1 31 (.at .bytes 26))) (.and (.imp (.f1 2 (.f2 45 (.f2 111 (.at .bytes 26) (.int 511)) (.f2 110 (.at .ints 19) 
    (.f3 112 (.at .rows 5) (.at .int 16) (.int 1))))) (.need (.f2 155 (.bool true) (.bool false)) (.tt))) (.imp (.f2 45 (.f2 111 (.at .bytes 26) (.int 
    511)) (.f2 110 (.at .ints 19) (.f3 112 (.at .rows 5) (.at .int 16) (.int 1)))) (.need (.us .bool 320 (.us .g 273 (.us .g 283 (.at .g 17) (.at .g 18) 
    (.f3 112 (.at .rows 5) (.at .int 16) (.int 1)) (.int 0)) (.int 0) (.int 0) (.int 0)) (.us .g 284 (.at .g 17) (.at .g 18) (.f3 112 (.at .rows 5) (.at 
    .int 16) (.int 1)) (.int 0)) (.at .ints 19) (.at .ints 20)) (.need (.us .bool 321 (.us .g 273 (.us .g 283 (.at .g 17) (.at .g 18) (.f3 112 (.at .rows 
    5) (.at .int 16) (.int 1)) (.int 0)) (.int 0) (.int 0) (.int 0)) (.us .g 284 (.at .g 17) (.at .g 18) (.f3 112 (.at .rows 5) (.at .int 16) (.int 1)) 
    (.int 0)) (.f2 40 (.at .int 16) (.int 1)) (.int 0)) (.need (.f2 45 (.us .int 257 (.us .g 273 (.us .g 283 (.at .g 17) (.at .g 18) (.f3 112 (.at .rows 
    5) (.at .int 16) (.int 1)) (.int 0)) (.int 0) (.int 0) (.int 0)) (.int 0) (.int 0) (.int 0)) (.at .int 0)) (.need (.us .bool 323 (.us .g 273 (.us .g 
    283 (.at .g 17) (.at .g 18) (.f3 112 (.at .rows 5) (.at .int 16) (.int 1)) (.int 0)) (.int 0) (.int 0) (.int 0)) (.us .int 285 (.at .g 17) (.at .g 18) 
    (.f3 112 (.at .rows 5) (.at .int 16) (.int 1)) (.int 0)) (.f1 3 (.at .bool 22)) (.int 0)) ctTail))))))))) (.imp (.f1 2 (.f2 45 (.f2 111 (.at .bytes 
    26) (.int 0)) (.f2 110 (.at .ints 19) (.f3 112 (.at .rows 5) (.at .int 16) (.int 1))))) (.need (.f2 155 (.bool true) (.bool false)) (.tt)))))))))) 
    (.imp (.f1 2 (.f2 45 (.at .int 24) (.int 512))) (.need (.f2 155 (.bool true) (.bool false)) (.tt))))) (.imp (.f1 2 (.at .bool 22)) (.need (.f2 155 
    (.bool true) (.bool false)) (.tt))))) (.imp (.f1 2 (.f2 45 (.us .int 285 (.at .g 17) (.at .g 18) (.f3 112 (.at .rows 5) (.at .int 16) (.int 1)) (.int 
    0)) (.int 0))) (.need (.us .bool 320 (.us .g 273 (.us .g 283 (.at .g 17) (.at .g 18) (.f3 112 (.at .rows 5) (.at .int 16) (.int 1)) (.int 0)) (.int 0) 
    (.int 0) (.int 0)) (.us .g 284 (.at .g 17) (.at .g 18) (.f3 112 (.at .rows 5) (.at .int 16) (.int 1)) (.int 0)) (.at .ints 19) (.at .ints 20)) (.need 
    (.us .bool 321 (.us .g 273 (.us .g 283 (.at .g 17) (.at .g 18) (.f3 112 (.at .rows 5) (.at .int 16) (.int 1)) (.int 0)) (.int 0) (.int 0) (.int 0)) 
    (.us .g 284 (.at .g 17) (.at .g 18) (.f3 112 (.at .rows 5) (.at .int 16) (.int 1)) (.int 0)) (.f2 40 (.at .int 16) (.int 1)) (.int 0)) (.need (.f2 45 
    (.us .int 257 (.us .g 273 (.us .g 283 (.at .g 17) (.at .g 18) (.f3 112 (.at .rows 5) (.at .int 16) (.int 1)) (.int 0)) (.int 0) (.int 0) (.int 0)) 
    (.int 0) (.int 0) (.int 0)) (.at .int 0)) (.need (.us .bool 323 (.us .g 273 (.us .g 283 (.at .g 17) (.at .g 18) (.f3 112 (.at .rows 5) (.at .int 16) 
    (.int 1)) (.int 0)) (.int 0) (.int 0) (.int 0)) (.us .int 285 (.at .g 17) (.at .g 18) (.f3 112 (.at .rows 5) (.at .int 16) (.int 1)) (.int 0)) (.f1 3 
    (.at .bool 22)) (.int 0)) ctTail))))))))))))))))))))))) (.imp (.f1 2 (.f2 45 (.f3 112 (.at .rows 5) (.at .int 16) (.int 0)) (.int 1))) (.and (.imp 
    (.f2 45 (.f3 112 (.at .rows 5) (.at .int 16) (.int 0)) (.int 2)) (.and (.imp (.f2 47 (.int 0) (.f3 112 (.at .rows 5) (.at .int 16) (.int 2))) (.and 
    (.imp (.f2 46 (.int 255) (.f3 112 (.at .rows 5) (.at .int 16) (.int 2))) (.need (.f1 23 (.f2 40 (.at .int 16) (.int 1))) (.need (.f2 47 (.int 0) (.f2 
    41 (.at .int 3) (.f2 40 (.at .int 16) (.int 1)))) (.need (.f2 46 (.f2 41 (.at .int 3) (.f2 40 (.at .int 16) (.int 1))) (.f2 41 (.at .int 3) (.at .int 
    16))) (.need (.f2 47 (.int 0) (.f2 40 (.at .int 16) (.int 1))) (.need (.f2 47 (.f2 40 (.at .int 16) (.int 1)) (.at .int 3)) (.need (.us .bool 321 (.at 
    .g 17) (.at .g 18) (.f2 40 (.at .int 16) (.int 1)) (.int 0)) (.tt)))))))) (.imp (.f2 47 (.f3 112 (.at .rows 5) (.at .int 16) (.int 2)) (.int 255)) 
    (.all 23 .int (.all 24 .bytes (.all 25 .int (.imp (.f2 155 (.at .bytes 24) (.us .bytes 308 (.f3 112 (.at .rows 5) (.at .int 16) (.int 2)) (.int 0) 
    (.int 0) (.int 0))) (.imp (.f2 47 (.int 0) (.at .int 23)) (.imp (.f2 47 (.f1 31 (.at .bytes 24)) (.at .int 25)) (.need (.f2 47 (.us .int 206 (.at .g 
    18) (.int 0) (.int 0) (.int 0)) (.int 4611686018427387904)) (.need (.f2 47 (.us .int 211 (.at .g 18) (.int 0) (.int 0) (.int 0)) (.int 1099511627776)) 
    (.need (.f2 47 (.f1 30 (.us .ints 209 (.at .g 18) (.int 0) (.int 0) (.int 0))) (.int 140737488355328)) (.need (.f2 47 (.us .int 260 (.at .g 17) (.int 
    0) (.int 0) (.int 0)) (.int 4611686018427387904)) (.need (.f2 47 (.f1 31 (.at .bytes 24)) (.f1 31 (.at .bytes 24))) (.need (.f2 50 (.f2 47 (.int 0) 
    (.at .int 23)) (.f2 45 (.f1 31 (.at .bytes 24)) (.int 0))) (.and (.imp (.f2 45 (.us .int 301 (.at .g 17) (.at .g 18) (.f3 112 (.at .rows 5) (.at .int 
    16) (.int 1)) (.f2 114 (.at .bytes 24) (.f1 31 (.at .bytes 24)))) (.int 0)) (.and (.imp (.at .bool 22) (.need (.f2 47 (.int 0) (.f3 112 (.at .rows 5) 
    (.at .int 16) (.int 1))) (.need (.f2 46 (.f3 112 (.at .rows 5) (.at .int 16) (.int 1)) (.int 8)) (.need (.f2 46 (.f3 112 (.at .rows 5) (.at .int 16) 
    (.int 1)) (.f1 30 (.at .ints 19))) (.need (.us .bool 320 (.us .g 299 (.at .g 17) (.at .g 18) (.f3 112 (.at .rows 5) (.at .int 16) (.int 1)) (.f2 114 
    (.at .bytes 24) (.f1 31 (.at .bytes 24)))) (.us .g 300 (.at .g 17) (.at .g 18) (.f3 112 (.at .rows 5) (.at .int 16) (.int 1)) (.f2 114 (.at .bytes 24) 
    (.f1 31 (.at .bytes 24)))) (.f3 130 (.at .ints 19) (.f3 112 (.at .rows 5) (.at .int 16) (.int 1)) (.f3 112 (.at .rows 5) (.at .int 16) (.int 2))) (.at 
    .ints 20)) (.need (.us .bool 321 (.us .g 299 (.at .g 17) (.at .g 18) (.f3 112 (.at .rows 5) (.at .int 16) (.int 1)) (.f2 114 (.at .bytes 24) (.f1 31 
    (.at .bytes 24)))) (.us .g 300 (.at .g 17) (.at .g 18) (.f3 112 (.at .rows 5) (.at .int 16) (.int 1)) (.f2 114 (.at .bytes 24) (.f1 31 (.at .bytes 
    24)))) (.f2 40 (.at .int 16) (.int 1)) (.int 0)) (.need (.f2 45 (.us .int 257 (.us .g 299 (.at .g 17) (.at .g 18) (.f3 112 (.at .rows 5) (.at .int 16) 
    (.int 1)) (.f2 114 (.at .bytes 24) (.f1 31 (.at .bytes 24)))) (.int 0) (.int 0) (.int 0)) (.at .int 0)) (.need (.us .bool 323 (.us .g 299 (.at .g 17) 
    (.at .g 18) (.f3 112 (.at .rows 5) (.at .int 16) (.int 1)) (.f2 114 (.at .bytes 24) (.f1 31 (.at .bytes 24)))) (.us .int 301 (.at .g 17) (.at .g 18) 
    (.f3 112 (.at .rows 5) (.at .int 16) (.int 1)) (.f2 114 (.at .bytes 24) (.f1 31 (.at .bytes 24)))) (.f1 3 (.at .bool 22)) (.int 0)) ctTail)))))))) 
    (.imp (.f1 2 (.at .bool 22)) (.need (.us .bool 320 (.us .g 299 (.at .g 17) (.at .g 18) (.f3 112 (.at .rows 5) (.at .int 16) (.int 1)) (.f2 114 (.at 
    .bytes 24) (.f1 31 (.at .bytes 24)))) (.us .g 300 (.at .g 17) (.at .g 18) (.f3 112 (.at .rows 5) (.at .int 16) (.int 1)) (.f2 114 (.at .bytes 24) (.f1 
    31 (.at .bytes 24)))) (.at .ints 19) (.at .ints 20)) (.need (.us .bool 321 (.us .g 299 (.at .g 17) (.at .g 18) (.f3 112 (.at .rows 5) (.at .int 16) 
    (.int 1)) (.f2 114 (.at .bytes 24) (.f1 31 (.at .bytes 24)))) (.us .g 300 (.at .g 17) (.at .g 18) (.f3 112 (.at .rows 5) (.at .int 16) (.int 1)) (.f2 
    114 (.at .bytes 24) (.f1 31 (.at .bytes 24)))) (.f2 40 (.at .int 16) (.int 1)) (.int 0)) (.need (.f2 45 (.us .int 257 (.us .g 299 (.at .g 17) (.at .g 
    18) (.f3 112 (.at .rows 5) (.at .int 16) (.int 1)) (.f2 114 (.at .bytes 24) (.f1 31 (.at .bytes 24)))) (.int 0) (.int 0) (.int 0)) (.at .int 0)) 
    (.need (.us .bool 323 (.us .g 299 (.at .g 17) (.at .g 18) (.f3 112 (.at .rows 5) (.at .int 16) (.int 1)) (.f2 114 (.at .bytes 24) (.f1 31 (.at .bytes 
    24)))) (.us .int 301 (.at .g 17) (.at .g 18) (.f3 112 (.at .rows 5) (.at .int 16) (.int 1)) (.f2 114 (.at .bytes 24) (.f1 31 (.at .bytes 24)))) (.f1 3 
    (.at .bool 22)) (.int 0)) ctTail))))))) (.imp (.f1 2 (.f2 45 (.us .int 301 (.at .g 17) (.at .g 18) (.f3 112 (.at .rows 5) (.at .int 16) (.int 1)) (.f2 
    114 (.at .bytes 24) (.f1 31 (.at .bytes 24)))) (.int 0))) (.need (.us .bool 320 (.us .g 299 (.at .g 17) (.at .g 18) (.f3 112 (.at .rows 5) (.at .int 
    16) (.int 1)) (.f2 114 (.at .bytes 24) (.f1 31 (.at .bytes 24)))) (.us .g 300 (.at .g 17) (.at .g 18) (.f3 112 (.at .rows 5) (.at .int 16) (.int 1)) 
    (.f2 114 (.at .bytes 24) (.f1 31 (.at .bytes 24)))) (.at .ints 19) (.at .ints 20)) (.need (.us .bool 321 (.us .g 299 (.at .g 17) (.at .g 18) (.f3 112 
    (.at .rows 5) (.at .int 16) (.int 1)) (.f2 114 (.at .bytes 24) (.f1 31 (.at .bytes 24)))) (.us .g 300 (.at .g 17) (.at .g 18) (.f3 112 (.at .rows 5) 
    (.at .int 16) (.int 1)) (.f2 114 (.at .bytes 24) (.f1 31 (.at .bytes 24)))) (.f2 40 (.at .int 16) (.int 1)) (.int 0)) (.need (.f2 45 (.us .int 257 
    (.us .g 299 (.at .g 17) (.at .g 18) (.f3 112 (.at .rows 5) (.at .int 16) (.int 1)) (.f2 114 (.at .bytes 24) (.f1 31 (.at .bytes 24)))) (.int 0) (.int 
    0) (.int 0)) (.at .int 0)) (.need (.us .bool 323 (.us .g 299 (.at .g 17) (.at .g 18) (.f3 112 (.at .rows 5) (.at .int 16) (.int 1)) (.f2 114 (.at 
    .bytes 24) (.f1 31 (.at .bytes 24)))) (.us .int 301 (.at .g 17) (.at .g 18) (.f3 112 (.at .rows 5) (.at .int 16) (.int 1)) (.f2 114 (.at .bytes 24) 
    (.f1 31 (.at .bytes 24)))) (.f1 3 (.at .bool 22)) (.int 0)) ctTail))))))))))))))))))))) (.imp (.f2 46 (.f3 112 (.at .rows 5) (.at .int 16) (.int 2)) 
    (.int 0)) (.need (.f1 23 (.f2 40 (.at .int 16) (.int 1))) (.need (.f2 47 (.int 0) (.f2 41 (.at .int 3) (.f2 40 (.at .int 16) (.int 1)))) (.need (.f2 
    46 (.f2 41 (.at .int 3) (.f2 40 (.at .int 16) (.int 1))) (.f2 41 (.at .int 3) (.at .int 16))) (.need (.f2 47 (.int 0) (.f2 40 (.at .int 16) (.int 1))) 
    (.need (.f2 47 (.f2 40 (.at .int 16) (.int 1)) (.at .int 3)) (.need (.us .bool 321 (.at .g 17) (.at .g 18) (.f2 40 (.at .int 16) (.int 1)) (.int 0)) 
    (.tt)))))))))) (.imp (.f1 2 (.f2 45 (.f3 112 (.at .rows 5) (.at .int 16) (.int 0)) (.int 2))) (.and (.imp (.f2 45 (.f3 112 (.at .rows 5) (.at .int 16) 
    (.int 0)) (.int 3)) (.need (.f2 47 (.us .int 206 (.at .g 18) (.int 0) (.int 0) (.int 0)) (.int 4611686018427387904)) (.need (.f2 47 (.us .int 211 (.at 
    .g 18) (.int 0) (.int 0) (.int 0)) (.int 1099511627776)) (.need (.f2 47 (.f1 30 (.us .ints 209 (.at .g 18) (.int 0) (.int 0) (.int 0))) (.int 
    140737488355328)) (.need (.f2 47 (.us .int 205 (.at .g 18) (.int 0) (.int 0) (.int 0)) (.int 4611686018427387904)) (.need (.f2 47 (.us .int 258 (.at 
    .g 17) (.int 0) (.int 0) (.int 0)) (.int 4611686018427387904)) (.need (.f2 47 (.us .int 259 (.at .g 17) (.int 0) (.int 0) (.int 0)) (.int 
    4611686018427387904)) (.need (.f2 47 (.us .int 260 (.at .g 17) (.int 0) (.int 0) (.int 0)) (.int 4611686018427387904)) (.need (.us .bool 288 (.at .g 
    17) (.int 0) (.int 0) (.int 0)) (.and (.imp (.f2 45 (.us .int 285 (.at .g 17) (.at .g 18) (.f3 112 (.at .rows 5) (.at .int 16) (.int 1)) (.int 0)) 
    (.int 0)) (.and (.imp (.at .bool 22) (.need (.f2 47 (.int 0) (.f3 112 (.at .rows 5) (.at .int 16) (.int 1))) (.need (.f2 46 (.f3 112 (.at .rows 5) 
    (.at .int 16) (.int 1)) (.int 8)) (.need (.f2 46 (.f3 112 (.at .rows 5) (.at .int 16) (.int 1)) (.f1 30 (.at .ints 20))) (.need (.f1 23 (.f2 40 (.f2 
    110 (.at .ints 20) (.f3 112 (.at .rows 5) (.at .int 16) (.int 1))) (.int 1))) (.need (.us .bool 320 (.us .g 287 (.at .g 17) (.at .g 18) (.f3 112 (.at 
    .rows 5) (.at .int 16) (.int 1)) (.int 0)) (.us .g 284 (.at .g 17) (.at .g 18) (.f3 112 (.at .rows 5) (.at .int 16) (.int 1)) (.int 0)) (.at .ints 19) 
    (.f3 130 (.at .ints 20) (.f3 112 (.at .rows 5) (.at .int 16) (.int 1)) (.f2 40 (.f2 110 (.at .ints 20) (.f3 112 (.at .rows 5) (.at .int 16) (.int 1))) 
    (.int 1)))) (.need (.us .bool 321 (.us .g 287 (.at .g 17) (.at .g 18) (.f3 112 (.at .rows 5) (.at .int 16) (.int 1)) (.int 0)) (.us .g 284 (.at .g 17) 
    (.at .g 18) (.f3 112 (.at .rows 5) (.at .int 16) (.int 1)) (.int 0)) (.f2 40 (.at .int 16) (.int 1)) (.int 0)) (.need (.f2 45 (.us .int 257 (.us .g 
    287 (.at .g 17) (.at .g 18) (.f3 112 (.at .rows 5) (.at .int 16) (.int 1)) (.int 0)) (.int 0) (.int 0) (.int 0)) (.at .int 0)) (.need (.us .bool 323 
    (.us .g 287 (.at .g 17) (.at .g 18) (.f3 112 (.at .rows 5) (.at .int 16) (.int 1)) (.int 0)) (.us .int 285 (.at .g 17) (.at .g 18) (.f3 112 (.at .rows 
    5) (.at .int 16) (.int 1)) (.int 0)) (.f1 3 (.at .bool 22)) (.int 0)) ctTail))))))))) (.imp (.f1 2 (.at .bool 22)) (.need (.us .bool 320 (.us .g 287 
    (.at .g 17) (.at .g 18) (.f3 112 (.at .rows 5) (.at .int 16) (.int 1)) (.int 0)) (.us .g 284 (.at .g 17) (.at .g 18) (.f3 112 (.at .rows 5) (.at .int 
    16) (.int 1)) (.int 0)) (.at .ints 19) (.at .ints 20)) (.need (.us .bool 321 (.us .g 287 (.at .g 17) (.at .g 18) (.f3 112 (.at .rows 5) (.at .int 16) 
    (.int 1)) (.int 0)) (.us .g 284 (.at .g 17) (.at .g 18) (.f3 112 (.at .rows 5) (.at .int 16) (.int 1)) (.int 0)) (.f2 40 (.at .int 16) (.int 1)) (.int 
    0)) (.need (.f2 45 (.us .int 257 (.us .g 287 (.at .g 17) (.at .g 18) (.f3 112 (.at .rows 5) (.at .int 16) (.int 1)) (.int 0)) (.int 0) (.int 0) (.int 
    0)) (.at .int 0)) (.need (.us .bool 323 (.us .g 287 (.at .g 17) (.at .g 18) (.f3 112 (.at .rows 5) (.at .int 16) (.int 1)) (.int 0)) (.us .int 285 
    (.at .g 17) (.at .g 18) (.f3 112 (.at .rows 5) (.at .int 16) (.int 1)) (.int 0)) (.f1 3 (.at .bool 22)) (.int 0)) ctTail))))))) (.imp (.f1 2 (.f2 45 
    (.us .int 285 (.at .g 17) (.at .g 18) (.f3 112 (.at .rows 5) (.at .int 16) (.int 1)) (.int 0)) (.int 0))) (.need (.us .bool 320 (.us .g 287 (.at .g 
    17) (.at .g 18) (.f3 112 (.at .rows 5) (.at .int 16) (.int 1)) (.int 0)) (.us .g 284 (.at .g 17) (.at .g 18) (.f3 112 (.at .rows 5) (.at .int 16) 
    (.int 1)) (.int 0)) (.at .ints 19) (.at .ints 20)) (.need (.us .bool 321 (.us .g 287 (.at .g 17) (.at .g 18) (.f3 112 (.at .rows 5) (.at .int 16) 
    (.int 1)) (.int 0)) (.us .g 284 (.at .g 17) (.at .g 18) (.f3 112 (.at .rows 5) (.at .int 16) (.int 1)) (.int 0)) (.f2 40 (.at .int 16) (.int 1)) (.int 
    0)) (.need (.f2 45 (.us .int 257 (.us .g 287 (.at .g 17) (.at .g 18) (.f3 112 (.at .rows 5) (.at .int 16) (.int 1)) (.int 0)) (.int 0) (.int 0) (.int 
    0)) (.at .int 0)) (.need (.us .bool 323 (.us .g 287 (.at .g 17) (.at .g 18) (.f3 112 (.at .rows 5) (.at .int 16) (.int 1)) (.int 0)) (.us .int 285 
    (.at .g 17) (.at .g 18) (.f3 112 (.at .rows 5) (.at .int 16) (.int 1)) (.int 0)) (.f1 3 (.at .bool 22)) (.int 0)) ctTail))))))))))))))) (.imp (.f1 2 
    (.f2 45 (.f3 112 (.at .rows 5) (.at .int 16) (.int 0)) (.int 3))) (.and (.imp (.f2 45 (.f3 112 (.at .rows 5) (.at .int 16) (.int 0)) (.int 4)) (.need 
    (.us .bool 288 (.at .g 17) (.int 0) (.int 0) (.int 0)) (.and (.imp (.f1 2 (.at .bool 22)) (.and (.imp (.f1 2 (.f2 45 (.us .int 290 (.at .g 17) (.f3 
    112 (.at .rows 5) (.at .int 16) (.int 1)) (.int 0) (.int 0)) (.int 41))) (.need (.f2 155 (.bool true) (.bool false)) (.tt))) (.imp (.f2 45 (.us .int 
    290 (.at .g 17) (.f3 112 (.at .rows 5) (.at .int 16) (.int 1)) (.int 0) (.int 0)) (.int 41)) (.need (.f1 23 (.f2 40 (.at .int 16) (.int 1))) (.need 
    (.f2 47 (.int 0) (.f2 41 (.at .int 3) (.f2 40 (.at .int 16) (.int 1)))) (.need (.f2 46 (.f2 41 (.at .int 3) (.f2 40 (.at .int 16) (.int 1))) (.f2 41 
    (.at .int 3) (.at .int 16))) (.need (.f2 47 (.int 0) (.f2 40 (.at .int 16) (.int 1))) (.need (.f2 47 (.f2 40 (.at .int 16) (.int 1)) (.at .int 3)) 
    (.need (.us .bool 320 (.us .g 289 (.at .g 17) (.f3 112 (.at .rows 5) (.at .int 16) (.int 1)) (.int 0) (.int 0)) (.at .g 18) (.at .ints 19) (.at .ints 
    20)) (.need (.us .bool 321 (.us .g 289 (.at .g 17) (.f3 112 (.at .rows 5) (.at .int 16) (.int 1)) (.int 0) (.int 0)) (.at .g 18) (.f2 40 (.at .int 16) 
    (.int 1)) (.int 0)) (.need (.f2 45 (.us .int 257 (.us .g 289 (.at .g 17) (.f3 112 (.at .rows 5) (.at .int 16) (.int 1)) (.int 0) (.int 0)) (.int 0) 
    (.int 0) (.int 0)) (.at .int 0)) (.tt)))))))))))) (.imp (.f1 2 (.f1 2 (.at .bool 22))) (.need (.f2 47 (.int 0) (.f3 112 (.at .rows 5) (.at .int 16) 
    (.int 1))) (.need (.f2 46 (.f3 112 (.at .rows 5) (.at .int 16) (.int 1)) (.int 8)) (.need (.f2 46 (.f3 112 (.at .rows 5) (.at .int 16) (.int 1)) (.f1 
    30 (.at .ints 20))) (.and (.imp (.f1 2 (.f2 48 (.f2 45 (.us .int 290 (.at .g 17) (.f3 112 (.at .rows 5) (.at .int 16) (.int 1)) (.int 0) (.int 0)) 
    (.int 0)) (.f2 46 (.int 0) (.f2 110 (.at .ints 20) (.f3 112 (.at .rows 5) (.at .int 16) (.int 1)))))) (.need (.f2 155 (.bool true) (.bool false)) 
    (.tt))) (.imp (.f1 2 (.f1 2 (.f2 48 (.f2 45 (.us .int 290 (.at .g 17) (.f3 112 (.at .rows 5) (.at .int 16) (.int 1)) (.int 0) (.int 0)) (.int 0)) (.f2 
    46 (.int 0) (.f2 110 (.at .ints 20) (.f3 112 (.at .rows 5) (.at .int 16) (.int 1))))))) (.and (.imp (.f2 45 (.us .int 290 (.at .g 17) (.f3 112 (.at 
    .rows 5) (.at .int 16) (.int 1)) (.int 0) (.int 0)) (.int 0)) (.need (.f1 23 (.f2 40 (.f2 110 (.at .ints 20) (.f3 112 (.at .rows 5) (.at .int 16) 
    (.int 1))) (.int (-1)))) (.need (.us .bool 320 (.us .g 289 (.at .g 17) (.f3 112 (.at .rows 5) (.at .int 16) (.int 1)) (.int 0) (.int 0)) (.at .g 18) 
    (.at .ints 19) (.f3 130 (.at .ints 20) (.f3 112 (.at .rows 5) (.at .int 16) (.int 1)) (.f2 40 (.f2 110 (.at .ints 20) (.f3 112 (.at .rows 5) (.at .int 
    16) (.int 1))) (.int (-1))))) (.need (.us .bool 321 (.us .g 289 (.at .g 17) (.f3 112 (.at .rows 5) (.at .int 16) (.int 1)) (.int 0) (.int 0)) (.at .g 
    18) (.f2 40 (.at .int 16) (.int 1)) (.int 0)) (.need (.f2 45 (.us .int 257 (.us .g 289 (.at .g 17) (.f3 112 (.at .rows 5) (.at .int 16) (.int 1)) 
    (.int 0) (.int 0)) (.int 0) (.int 0) (.int 0)) (.at .int 0)) (.need (.us .bool 323 (.us .g 289 (.at .g 17) (.f3 112 (.at .rows 5) (.at .int 16) (.int 
    1)) (.int 0) (.int 0)) (.int 0) (.f1 3 (.at .bool 22)) (.int 0)) ctTail)))))) (.imp (.f1 2 (.f2 45 (.us .int 290 (.at .g 17) (.f3 112 (.at .rows 5) 
    (.at .int 16) (.int 1)) (.int 0) (.int 0)) (.int 0))) (.need (.us .bool 320 (.us .g 289 (.at .g 17) (.f3 112 (.at .rows 5) (.at .int 16) (.int 1)) 
    (.int 0) (.int 0)) (.at .g 18) (.at .ints 19) (.at .ints 20)) (.need (.us .bool 321 (.us .g 289 (.at .g 17) (.f3 112 (.at .rows 5) (.at .int 16) (.int 
    1)) (.int 0) (.int 0)) (.at .g 18) (.f2 40 (.at .int 16) (.int 1)) (.int 0)) (.need (.f2 45 (.us .int 257 (.us .g 289 (.at .g 17) (.f3 112 (.at .rows 
    5) (.at .int 16) (.int 1)) (.int 0) (.int 0)) (.int 0) (.int 0) (.int 0)) (.at .int 0)) (.need (.us .bool 323 (.us .g 289 (.at .g 17) (.f3 112 (.at 
    .rows 5) (.at .int 16) (.int 1)) (.int 0) (.int 0)) (.int 0) (.f1 3 (.at .bool 22)) (.int 0)) ctTail))))))))))))))) (.imp (.f1 2 (.f2 45 (.f3 112 (.at 
    .rows 5) (.at .int 16) (.int 0)) (.int 4))) (.and (.imp (.f2 45 (.f3 112 (.at .rows 5) (.at .int 16) (.int 0)) (.int 5)) (.need (.f2 47 (.us .int 206 
    (.at .g 18) (.int 0) (.int 0) (.int 0)) (.int 2305843009213693952)) (.need (.f2 47 (.us .int 211 (.at .g 18) (.int 0) (.int 0) (.int 0)) (.int 
    549755813888)) (.need (.f2 47 (.f1 30 (.us .ints 209 (.at .g 18) (.int 0) (.int 0) (.int 0))) (.int 140737488355328)) (.need (.us .bool 305 (.at .g 
    17) (.int 0) (.int 0) (.int 0)) (.all 23 .int (.all 24 .bytes (.all 25 .int (.imp (.f2 155 (.at .bytes 24) (.us .bytes 229 (.us .g 295 (.at .g 17) 
    (.at .g 18) (.us .ints 297 (.at .g 17) (.int 0) (.int 0) (.int 0)) (.int 0)) (.int 0) (.int 0) (.int 0))) (.imp (.f2 47 (.f1 31 (.at .bytes 24)) (.at 
    .int 25)) (.and (.imp (.f2 45 (.us .int 296 (.at .g 17) (.at .g 18) (.us .ints 297 (.at .g 17) (.int 0) (.int 0) (.int 0)) (.int 0)) (.int 0)) (.and 
    (.imp (.f1 2 (.f2 45 (.f1 31 (.at .bytes 24)) (.int 4096))) (.need (.f2 155 (.bool true) (.bool false)) (.tt))) (.imp (.f2 45 (.f1 31 (.at .bytes 24)) 
    (.int 4096)) (.all 26 .int (.imp (.f2 47 (.int 0) (.at .int 26)) (.imp (.f2 47 (.at .int 26) (.int 8)) (.and (.imp (.f2 46 (.at .int 26) (.int 8)) 
    (.need (.f1 23 (.f2 42 (.at .int 26) (.int 512))) (.need (.f2 47 (.int 0) (.f2 42 (.at .int 26) (.int 512))) (.need (.f2 46 (.f2 42 (.at .int 26) 
    (.int 512)) (.f1 31 (.at .bytes 24))) (.need (.f2 46 (.at .int 26) (.f1 30 (.at .ints 19))) (.and (.imp (.f1 2 (.f2 45 (.f2 111 (.at .bytes 24) (.f2 
    42 (.at .int 26) (.int 512))) (.f2 110 (.at .ints 19) (.at .int 26)))) (.need (.f2 155 (.bool true) (.bool false)) (.tt))) (.imp (.f2 45 (.f2 111 (.at 
    .bytes 24) (.f2 42 (.at .int 26) (.int 512))) (.f2 110 (.at .ints 19) (.at .int 26))) (.need (.f1 23 (.f2 40 (.at .int 26) (.int 1))) (.need (.f2 47 
    (.int 0) (.f2 41 (.int 8) (.f2 40 (.at .int 26) (.int 1)))) (.need (.f2 46 (.f2 41 (.int 8) (.f2 40 (.at .int 26) (.int 1))) (.f2 41 (.int 8) (.at 
    .int 26))) (.need (.f2 47 (.int 0) (.f2 40 (.at .int 26) (.int 1))) (.need (.f2 47 (.f2 40 (.at .int 26) (.int 1)) (.int 8)) (.tt))))))))))))) (.imp 
    (.f2 47 (.int 8) (.at .int 26)) (.need (.us .bool 320 (.us .g 294 (.at .g 17) (.at .g 18) (.us .ints 297 (.at .g 17) (.int 0) (.int 0) (.int 0)) (.int 
    0)) (.us .g 295 (.at .g 17) (.at .g 18) (.us .ints 297 (.at .g 17) (.int 0) (.int 0) (.int 0)) (.int 0)) (.at .ints 19) (.at .ints 20)) (.need (.us 
    .bool 321 (.us .g 294 (.at .g 17) (.at .g 18) (.us .ints 297 (.at .g 17) (.int 0) (.int 0) (.int 0)) (.int 0)) (.us .g 295 (.at .g 17) (.at .g 18) 
    (.us .ints 297 (.at .g 17) (.int 0) (.int 0) (.int 0)) (.int 0)) (.f2 40 (.at .int 16) (.int 1)) (.int 0)) (.need (.f2 45 (.us .int 257 (.us .g 294 
    (.at .g 17) (.at .g 18) (.us .ints 297 (.at .g 17) (.int 0) (.int 0) (.int 0)) (.int 0)) (.int 0) (.int 0) (.int 0)) (.at .int 0)) (.need (.us .bool 
    323 (.us .g 294 (.at .g 17) (.at .g 18) (.us .ints 297 (.at .g 17) (.int 0) (.int 0) (.int 0)) (.int 0)) (.int 0) (.f1 3 (.at .bool 22)) (.int 0)) 
    ctTail)))))))))))) (.imp (.f1 2 (.f2 45 (.us .int 296 (.at .g 17) (.at .g 18) (.us .ints 297 (.at .g 17) (.int 0) (.int 0) (.int 0)) (.int 0)) (.int 
    0))) (.need (.f2 155 (.bool true) (.bool false)) (.tt)))))))))))))) (.imp (.f1 2 (.f2 45 (.f3 112 (.at .rows 5) (.at .int 16) (.int 0)) (.int 5))) 
    (.need (.us .bool 321 (.at .g 17) (.at .g 18) (.f2 40 (.at .int 16) (.int 1)) (.int 0)) (.need (.us .bool 323 (.at .g 17) (.int 0) (.f1 3 (.at .bool 
    22)) (.int 0)) ctTail))))))))))))))))))))))
def ctTail2 : VC := (.all 12 .g (.all 13 .g (.all 14 .ints (.all 15 .ints (.imp (.f2 47 (.at .int 3) (.int 1048576)) (.imp (.f2 47 (.at .int 3) (.f1 32 (.at .rows 5))) 
    (.imp (.f2 47 (.int 0) (.at .int 3)) (.imp (.us .bool 320 (.at .g 12) (.at .g 13) (.at .ints 14) (.at .ints 15)) (.imp (.us .bool 321 (.at .g 12) (.at 
    .g 13) (.int 0) (.int 0)) (.imp (.f2 45 (.us .int 257 (.at .g 12) (.int 0) (.int 0) (.int 0)) (.at .int 0)) (.all 16 .int (.all 17 .g (.all 18 .g 
    (.all 19 .ints (.all 20 .ints (.imp (.f2 47 (.int 0) (.at .int 16)) (.imp (.f2 47 (.at .int 16) (.at .int 3)) (.imp (.us .bool 320 (.at .g 17) (.at .g 
    18) (.at .ints 19) (.at .ints 20)) (.imp (.us .bool 321 (.at .g 17) (.at .g 18) (.at .int 16) (.int 0)) (.imp (.f2 45 (.us .int 257 (.at .g 17) (.int 
    0) (.int 0) (.int 0)) (.at .int 0)) (.and (.imp (.f2 46 (.at .int 16) (.at .int 3)) (.need (.f2 46 (.at .int 16) (.f1 32 (.at .rows 5))) (.all 21 .int 
    (.imp (.f2 47 (.int 0) (.at .int 21)) (.and (.imp (.f2 47 (.int 0) (.f3 112 (.at .rows 5) (.at .int 16) (.int 1))) (.need (.f2 48 (.f2 46 (.f3 112 
    (.at .rows 5) (.at .int 16) (.int 1)) (.int 8)) (.f2 49 (.f2 47 (.int 0) (.f3 112 (.at .rows 5) (.at .int 16) (.int 1))) (.f2 46 (.f3 112 (.at .rows 
    5) (.at .int 16) (.int 1)) (.int 8)))) ctTail1)) (.imp (.f2 46 (.f3 112 (.at .rows 5) (.at .int 16) (.int 1)) (.int 0)) (.need (.f2 48 (.bool false) 
    (.f2 49 (.f2 47 (.int 0) (.f3 112 (.at .rows 5) (.at .int 16) (.int 1))) (.f2 46 (.f3 112 (.at .rows 5) (.at .int 16) (.int 1)) (.int 8)))) 
    ctTail1))))))) (.imp (.f2 47 (.at .int 3) (.at .int 16)) (.tt)))))))))))))))))))))))
def ctVc : VC := .imp (.f2 47 (.int 0) (.at .int 3)) (.imp (.f2 47 (.at .int 3) (.f1 32 (.at .rows 5))) (.imp (.f2 47 (.at .int 3) (.at .int 4)) (.imp (.f2 47 (.at 
    .int 3) (.int 1048576)) (.all 6 .int (.imp (.f2 47 (.int 0) (.at .int 6)) (.and (.tt) (.imp (.f2 47 (.int 0) (.at .int 6)) (.and (.imp (.f2 47 (.int 
    0) (.at .int 6)) (.and (.imp (.f2 47 (.int 1) (.at .int 0)) (.and (.imp (.f2 46 (.int 4096) (.at .int 0)) (.and (.imp (.f2 47 (.int 1) (.at .int 0)) 
    (.need (.f2 155 (.bool true) (.f2 46 (.int 4096) (.at .int 0))) (.tt))) (.tt))) (.imp (.f2 47 (.at .int 0) (.int 4096)) (.all 7 .int (.imp (.f2 47 
    (.int 0) (.at .int 7)) (.all 8 .int (.imp (.f2 47 (.int 0) (.at .int 8)) (.all 9 .int (.imp (.f2 47 (.int 0) (.at .int 9)) (.need (.f2 155 (.f1 152 
    (.int 0)) (.us .ints 242 (.f1 154 (.int 0)) (.int 0) (.int 0) (.int 0))) (.need (.us .bool 251 (.f1 155 (.int 0)) (.f1 154 (.int 0)) (.us .g 304 (.at 
    .int 0) (.int 0) (.int 0) (.int 0)) (.int 0)) (.need (.us .bool 268 (.us .g 267 (.us .g 304 (.at .int 0) (.int 0) (.int 0) (.int 0)) (.int 0) (.int 0) 
    (.int 0)) (.int 0) (.int 0) (.int 0)) (.need (.f2 45 (.us .int 257 (.us .g 304 (.at .int 0) (.int 0) (.int 0) (.int 0)) (.int 0) (.int 0) (.int 0)) 
    (.at .int 0)) (.and (.tt) (.imp (.f2 47 (.int 0) (.at .int 9)) (.all 10 .int (.imp (.f2 47 (.int 0) (.at .int 10)) (.all 11 .int (.imp (.f2 47 (.int 
    0) (.at .int 11)) (.need (.us .bool 320 (.us .g 267 (.us .g 304 (.at .int 0) (.int 0) (.int 0) (.int 0)) (.int 0) (.int 0) (.int 0)) (.us .g 309 (.int 
    8) (.int 0) (.int 0) (.int 0)) (.f2 122 (.int 0) (.f2 122 (.int 0) (.f2 122 (.int 0) (.f2 122 (.int 0) (.f2 122 (.int 0) (.f2 122 (.int 0) (.f2 122 
    (.int 0) (.f2 122 (.int 0) (.f1 152 (.int 0)))))))))) (.f2 122 (.int 0) (.f2 122 (.int 0) (.f2 122 (.int 0) (.f2 122 (.int 0) (.f2 122 (.int 0) (.f2 
    122 (.int 0) (.f2 122 (.int 0) (.f2 122 (.int 0) (.f1 152 (.int 0))))))))))) (.need (.us .bool 321 (.us .g 267 (.us .g 304 (.at .int 0) (.int 0) (.int 
    0) (.int 0)) (.int 0) (.int 0) (.int 0)) (.us .g 309 (.int 8) (.int 0) (.int 0) (.int 0)) (.int 0) (.int 0)) (.need (.f2 45 (.us .int 257 (.us .g 267 
    (.us .g 304 (.at .int 0) (.int 0) (.int 0) (.int 0)) (.int 0) (.int 0) (.int 0)) (.int 0) (.int 0) (.int 0)) (.at .int 0)) 
    ctTail2)))))))))))))))))))))) (.imp (.f2 46 (.at .int 0) (.int 1)) (.and (.tt) (.imp (.f2 46 (.at .int 0) (.int 1)) (.tt)))))) (.tt)))))))))
theorem ct_vc : vcOf Try.prog ctCx 14 3 ctCtr = ctVc := by kernel_rfl
-- END VC ct
-- PROOFS
end
end Go.Proofs.Ytlcfjjjdhdfbdaa
