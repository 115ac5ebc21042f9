/- A page of the list: the program's way. -/
import Derived.Test.YtmjonggabppgaaaPd4
set_option linter.unusedSimpArgs false
set_option linter.unusedVariables false
namespace Go.Proofs.Ytmjonggabppgaaa
noncomputable section
open Go.Eng
/-- The program's ink.Sum takes a list of parts; here of one. -/
def penCtr : Ctr := renCtr
def penI : Inv := ⟨[.int, .int, .bytes], [(49, .one (.int .i64 (di 0))), (9, .one (.int .i64 (di 1)))], [bAr (ai 8) (bA 1000002) (ai 7)],
  [eLe (.int 0) (di 0), eLe (di 0) (ai 3), .f2 45 (.f1 31 (bA 1000002)) (ai 7), eqS (.f2 114 (bA 1000002) (at8 (di 0))) (usY4 104 (ai 0) (iA 5) (ai 3) (di 0)), eqS (.f2 117 (bA 1000002) (at8 (di 0))) (.f2 126 (.f2 41 (ai 7) (at8 (di 0))) z0), usB 103 (iA 5) (di 0) z0, .f2 45 (di 1) (usI 106 (iA 5) (di 0) z0)], .f2 41 (ai 3) (di 0)⟩
def penCx : Cx := { specs := [(40, [szCtr]), (18, [rooCtr]), (42, [fixCtr]), (43, [sumCtr])], anns := [(12, [(13, .inv penI), (999999, .ghost emB [])])] }
-- BEGIN VC pen
def penVc : VC := (.imp (.f2 47 (.int 0) (.at .int 3)) (.imp (.f2 47 (.at .int 3) (.f1 30 (.at .ints 5))) (.imp (.f2 47 (.at .int 3) (.int 140737488355328)) (.and (.imp
    (.f1 2 (.us .bool 97 (.at .int 7) (.int 0) (.int 0) (.int 0))) (.need (.f2 45 (.int 1) (.us .int 101 (.at .int 0) (.at .ints 5) (.at .int 3) (.at
    .int 7))) (.need (.f2 155 (.f1 153 (.int 0)) (.us .bytes 102 (.at .int 0) (.at .ints 5) (.at .int 3) (.at .int 7))) (.need (.f2 45 (.int 0) (.f1 31
    (.us .bytes 102 (.at .int 0) (.at .ints 5) (.at .int 3) (.at .int 7)))) .tt)))) (.imp (.f1 2 (.f1 2 (.us .bool 97 (.at .int 7) (.int 0) (.int 0)
    (.int 0)))) (.and (.imp (.f1 2 (.f2 45 (.at .int 0) (.int 0))) (.and (.imp (.f2 47 (.int 2) (.at .int 0)) (.and (.imp (.f2 47 (.int 65536) (.at
    .int 0)) (.need (.f2 45 (.int 30) (.us .int 101 (.at .int 0) (.at .ints 5) (.at .int 3) (.at .int 7))) (.need (.f2 155 (.f1 153 (.int 0)) (.us
    .bytes 102 (.at .int 0) (.at .ints 5) (.at .int 3) (.at .int 7))) (.need (.f2 45 (.int 0) (.f1 31 (.us .bytes 102 (.at .int 0) (.at .ints 5) (.at
    .int 3) (.at .int 7)))) .tt)))) (.imp (.f2 46 (.at .int 0) (.int 65536)) (.and (.imp (.f2 46 (.us .int 98 (.at .int 7) (.int 0) (.int 0) (.int 0))
    (.at .int 3)) (.need (.f2 45 (.int 2) (.us .int 101 (.at .int 0) (.at .ints 5) (.at .int 3) (.at .int 7))) (.need (.f2 155 (.f1 153 (.int 0)) (.us
    .bytes 102 (.at .int 0) (.at .ints 5) (.at .int 3) (.at .int 7))) (.need (.f2 45 (.int 0) (.f1 31 (.us .bytes 102 (.at .int 0) (.at .ints 5) (.at
    .int 3) (.at .int 7)))) .tt)))) (.imp (.f2 47 (.at .int 3) (.us .int 98 (.at .int 7) (.int 0) (.int 0) (.int 0))) (.need (.f2 47 (.int 0) (.at .int
    7)) (.need (.f2 47 (.at .int 7) (.at .int 7)) (.need (.f2 47 (.f2 42 (.at .int 7) (.int 1)) (.int 140737488355328)) (.all 8 .int (.imp (.f2 47
    (.int 0) (.at .int 8)) (.need (.f2 46 (.int 0) (.at .int 7)) (.need (.f2 46 (.int 0) (.f1 31 (.f2 126 (.at .int 7) (.int 0)))) (.need (.f2 47 (.int
    2) (.at .int 7)) (.need (.f2 47 (.int 0) (.f1 17 (.at .int 3))) (.need (.f2 46 (.f1 17 (.at .int 3)) (.int 18446744073709551616)) (.all 9 .int
    (.all 10 .int (.all 11 .bytes (.imp (.f2 155 (.f2 114 (.at .bytes 11) (.int 2)) (.us .bytes 93 (.f1 17 (.at .int 3)) (.int 2) (.int 0) (.int 0)))
    (.imp (.f2 47 (.int 2) (.f1 31 (.at .bytes 11))) (.imp (.f2 47 (.int 2) (.at .int 10)) (.need (.f2 47 (.int 0) (.f2 40 (.at .int 7) (.int (-(1 +
    1))))) (.need (.f2 47 (.f2 40 (.at .int 7) (.int (-(1 + 1)))) (.f2 40 (.at .int 7) (.int (-(1 + 1))))) (.need (.f2 47 (.int 2) (.f1 31 (.f2 126
    (.at .int 7) (.int 0)))) (.need (.f2 47 (.f2 40 (.f2 40 (.at .int 7) (.int (-(1 + 1)))) (.int 2)) (.at .int 7)) (.need (.f2 47 (.int 4) (.at .int
    7)) (.need (.f2 47 (.int 0) (.f1 17 (.at .int 0))) (.need (.f2 46 (.f1 17 (.at .int 0)) (.int 18446744073709551616)) (.all 12 .int (.all 13 .int
    (.all 14 .bytes (.imp (.f2 155 (.f2 114 (.at .bytes 14) (.int 4)) (.us .bytes 93 (.f1 17 (.at .int 0)) (.int 4) (.int 0) (.int 0))) (.imp (.f2 47
    (.int 4) (.f1 31 (.at .bytes 14))) (.imp (.f2 47 (.int 4) (.at .int 13)) (.need (.f2 47 (.int 0) (.f2 40 (.at .int 7) (.int (-(3 + 1))))) (.need
    (.f2 47 (.f2 40 (.at .int 7) (.int (-(3 + 1)))) (.f2 40 (.at .int 7) (.int (-(3 + 1))))) (.need (.f2 47 (.int 4) (.f2 40 (.f1 31 (.f2 114 (.f3 131
    (.f2 126 (.at .int 7) (.int 0)) (.int 0) (.int 5)) (.int 2))) (.f2 40 (.f1 31 (.f2 114 (.f2 114 (.at .bytes 11) (.int 2)) (.f2 51 (.int 2) (.f2 40
    (.at .int 7) (.int (-(1 + 1))))))) (.f1 31 (.f2 117 (.f3 131 (.f2 126 (.at .int 7) (.int 0)) (.int 0) (.int 5)) (.f2 40 (.f2 51 (.int 2) (.f2 40
    (.at .int 7) (.int (-(1 + 1))))) (.int 2))))))) (.need (.f2 47 (.f2 40 (.f2 40 (.at .int 7) (.int (-(3 + 1)))) (.int 4)) (.at .int 7)) (.need (.f2
    45 (.f2 40 (.f1 31 (.f2 114 (.f2 120 (.f2 114 (.f3 131 (.f2 126 (.at .int 7) (.int 0)) (.int 0) (.int 5)) (.int 2)) (.f2 120 (.f2 114 (.f2 114 (.at
    .bytes 11) (.int 2)) (.f2 51 (.int 2) (.f2 40 (.at .int 7) (.int (-(1 + 1)))))) (.f2 117 (.f3 131 (.f2 126 (.at .int 7) (.int 0)) (.int 0) (.int
    5)) (.f2 40 (.f2 51 (.int 2) (.f2 40 (.at .int 7) (.int (-(1 + 1))))) (.int 2))))) (.int 4))) (.f2 40 (.f1 31 (.f2 114 (.f2 114 (.at .bytes 14)
    (.int 4)) (.f2 51 (.int 4) (.f2 40 (.at .int 7) (.int (-(3 + 1))))))) (.f1 31 (.f2 117 (.f2 120 (.f2 114 (.f3 131 (.f2 126 (.at .int 7) (.int 0))
    (.int 0) (.int 5)) (.int 2)) (.f2 120 (.f2 114 (.f2 114 (.at .bytes 11) (.int 2)) (.f2 51 (.int 2) (.f2 40 (.at .int 7) (.int (-(1 + 1)))))) (.f2
    117 (.f3 131 (.f2 126 (.at .int 7) (.int 0)) (.int 0) (.int 5)) (.f2 40 (.f2 51 (.int 2) (.f2 40 (.at .int 7) (.int (-(1 + 1))))) (.int 2))))) (.f2
    40 (.f2 51 (.int 4) (.f2 40 (.at .int 7) (.int (-(3 + 1))))) (.int 4)))))) (.at .int 7)) (.need (.f2 155 (.f2 114 (.f2 120 (.f2 114 (.f2 120 (.f2
    114 (.f3 131 (.f2 126 (.at .int 7) (.int 0)) (.int 0) (.int 5)) (.int 2)) (.f2 120 (.f2 114 (.f2 114 (.at .bytes 11) (.int 2)) (.f2 51 (.int 2)
    (.f2 40 (.at .int 7) (.int (-(1 + 1)))))) (.f2 117 (.f3 131 (.f2 126 (.at .int 7) (.int 0)) (.int 0) (.int 5)) (.f2 40 (.f2 51 (.int 2) (.f2 40
    (.at .int 7) (.int (-(1 + 1))))) (.int 2))))) (.int 4)) (.f2 120 (.f2 114 (.f2 114 (.at .bytes 14) (.int 4)) (.f2 51 (.int 4) (.f2 40 (.at .int 7)
    (.int (-(3 + 1)))))) (.f2 117 (.f2 120 (.f2 114 (.f3 131 (.f2 126 (.at .int 7) (.int 0)) (.int 0) (.int 5)) (.int 2)) (.f2 120 (.f2 114 (.f2 114
    (.at .bytes 11) (.int 2)) (.f2 51 (.int 2) (.f2 40 (.at .int 7) (.int (-(1 + 1)))))) (.f2 117 (.f3 131 (.f2 126 (.at .int 7) (.int 0)) (.int 0)
    (.int 5)) (.f2 40 (.f2 51 (.int 2) (.f2 40 (.at .int 7) (.int (-(1 + 1))))) (.int 2))))) (.f2 40 (.f2 51 (.int 4) (.f2 40 (.at .int 7) (.int (-(3 +
    1))))) (.int 4))))) (.int 8)) (.us .bytes 104 (.at .int 0) (.at .ints 5) (.at .int 3) (.int 0))) (.need (.f2 155 (.f2 117 (.f2 120 (.f2 114 (.f2
    120 (.f2 114 (.f3 131 (.f2 126 (.at .int 7) (.int 0)) (.int 0) (.int 5)) (.int 2)) (.f2 120 (.f2 114 (.f2 114 (.at .bytes 11) (.int 2)) (.f2 51
    (.int 2) (.f2 40 (.at .int 7) (.int (-(1 + 1)))))) (.f2 117 (.f3 131 (.f2 126 (.at .int 7) (.int 0)) (.int 0) (.int 5)) (.f2 40 (.f2 51 (.int 2)
    (.f2 40 (.at .int 7) (.int (-(1 + 1))))) (.int 2))))) (.int 4)) (.f2 120 (.f2 114 (.f2 114 (.at .bytes 14) (.int 4)) (.f2 51 (.int 4) (.f2 40 (.at
    .int 7) (.int (-(3 + 1)))))) (.f2 117 (.f2 120 (.f2 114 (.f3 131 (.f2 126 (.at .int 7) (.int 0)) (.int 0) (.int 5)) (.int 2)) (.f2 120 (.f2 114
    (.f2 114 (.at .bytes 11) (.int 2)) (.f2 51 (.int 2) (.f2 40 (.at .int 7) (.int (-(1 + 1)))))) (.f2 117 (.f3 131 (.f2 126 (.at .int 7) (.int 0))
    (.int 0) (.int 5)) (.f2 40 (.f2 51 (.int 2) (.f2 40 (.at .int 7) (.int (-(1 + 1))))) (.int 2))))) (.f2 40 (.f2 51 (.int 4) (.f2 40 (.at .int 7)
    (.int (-(3 + 1))))) (.int 4))))) (.int 8)) (.f2 126 (.f2 40 (.at .int 7) (.int (-(7 + 1)))) (.int 0))) (.need (.us .bool 103 (.at .ints 5) (.int 0)
    (.int 0) (.int 0)) (.need (.f2 45 (.int 0) (.us .int 106 (.at .ints 5) (.int 0) (.int 0) (.int 0))) (.all 15 .int (.all 16 .int (.all 17 .bytes
    (.imp (.f2 47 (.int 0) (.at .int 15)) (.imp (.f2 47 (.at .int 15) (.at .int 3)) (.imp (.f2 45 (.f1 31 (.at .bytes 17)) (.at .int 7)) (.imp (.f2 155
    (.f2 114 (.at .bytes 17) (.f2 40 (.f2 42 (.int 4) (.at .int 15)) (.int 8))) (.us .bytes 104 (.at .int 0) (.at .ints 5) (.at .int 3) (.at .int 15)))
    (.imp (.f2 155 (.f2 117 (.at .bytes 17) (.f2 40 (.f2 42 (.int 4) (.at .int 15)) (.int 8))) (.f2 126 (.f2 41 (.at .int 7) (.f2 40 (.f2 42 (.int 4)
    (.at .int 15)) (.int 8))) (.int 0))) (.imp (.us .bool 103 (.at .ints 5) (.at .int 15) (.int 0) (.int 0)) (.imp (.f2 45 (.at .int 16) (.us .int 106
    (.at .ints 5) (.at .int 15) (.int 0) (.int 0))) (.and (.imp (.f2 46 (.at .int 15) (.at .int 3)) (.need (.f2 46 (.at .int 15) (.f1 30 (.at .ints
    5))) (.and (.imp (.f2 47 (.int 2) (.f2 110 (.at .ints 5) (.at .int 15))) (.and (.imp (.f2 47 (.int 65536) (.f2 110 (.at .ints 5) (.at .int 15)))
    (.need (.f2 45 (.int 30) (.us .int 101 (.at .int 0) (.at .ints 5) (.at .int 3) (.at .int 7))) (.need (.f2 155 (.f1 153 (.int 0)) (.us .bytes 102
    (.at .int 0) (.at .ints 5) (.at .int 3) (.at .int 7))) (.need (.f2 45 (.int 0) (.f1 31 (.us .bytes 102 (.at .int 0) (.at .ints 5) (.at .int 3) (.at
    .int 7)))) .tt)))) (.imp (.f2 46 (.f2 110 (.at .ints 5) (.at .int 15)) (.int 65536)) (.and (.imp (.f2 47 (.f2 110 (.at .ints 5) (.at .int 15)) (.at
    .int 16)) (.need (.f2 45 (.int 63) (.us .int 101 (.at .int 0) (.at .ints 5) (.at .int 3) (.at .int 7))) (.need (.f2 155 (.f1 153 (.int 0)) (.us
    .bytes 102 (.at .int 0) (.at .ints 5) (.at .int 3) (.at .int 7))) (.need (.f2 45 (.int 0) (.f1 31 (.us .bytes 102 (.at .int 0) (.at .ints 5) (.at
    .int 3) (.at .int 7)))) .tt)))) (.imp (.f2 46 (.at .int 16) (.f2 110 (.at .ints 5) (.at .int 15))) (.need (.f1 23 (.f2 42 (.int 4) (.at .int 15)))
    (.need (.f1 23 (.f2 40 (.f2 42 (.int 4) (.at .int 15)) (.int 8))) (.need (.f2 47 (.int 0) (.f2 40 (.f2 42 (.int 4) (.at .int 15)) (.int 8))) (.need
    (.f2 47 (.f2 40 (.f2 42 (.int 4) (.at .int 15)) (.int 8)) (.at .int 7)) (.need (.f2 47 (.int 0) (.f1 17 (.f2 110 (.at .ints 5) (.at .int 15))))
    (.need (.f2 46 (.f1 17 (.f2 110 (.at .ints 5) (.at .int 15))) (.int 18446744073709551616)) (.all 18 .int (.all 19 .int (.all 20 .bytes (.imp (.f2
    155 (.f2 114 (.at .bytes 20) (.int 4)) (.us .bytes 93 (.f1 17 (.f2 110 (.at .ints 5) (.at .int 15))) (.int 4) (.int 0) (.int 0))) (.imp (.f2 47
    (.int 4) (.f1 31 (.at .bytes 20))) (.imp (.f2 47 (.int 4) (.at .int 19)) (.need (.f2 47 (.int 0) (.f2 41 (.at .int 7) (.f2 40 (.f2 42 (.int 4) (.at
    .int 15)) (.int 8)))) (.need (.f2 47 (.f2 41 (.at .int 7) (.f2 40 (.f2 42 (.int 4) (.at .int 15)) (.int 8))) (.f2 41 (.at .int 7) (.f2 40 (.f2 42
    (.int 4) (.at .int 15)) (.int 8)))) (.need (.f2 47 (.f2 40 (.f2 42 (.int 4) (.at .int 15)) (.int 8)) (.f1 31 (.at .bytes 17))) (.need (.f2 47 (.f2
    40 (.f2 40 (.f2 42 (.int 4) (.at .int 15)) (.f2 41 (.at .int 7) (.f2 40 (.f2 42 (.int 4) (.at .int 15)) (.int 8)))) (.int 8)) (.at .int 7)) (.need
    (.f1 23 (.f2 40 (.at .int 15) (.int 1))) (.need (.f2 47 (.int 0) (.f2 41 (.at .int 3) (.f2 40 (.at .int 15) (.int 1)))) (.need (.f2 46 (.f2 41 (.at
    .int 3) (.f2 40 (.at .int 15) (.int 1))) (.f2 41 (.at .int 3) (.at .int 15))) (.need (.f2 47 (.int 0) (.f2 40 (.at .int 15) (.int 1))) (.need (.f2
    47 (.f2 40 (.at .int 15) (.int 1)) (.at .int 3)) (.need (.f2 45 (.f2 40 (.f1 31 (.f2 114 (.at .bytes 17) (.f2 40 (.f2 42 (.int 4) (.at .int 15))
    (.int 8)))) (.f2 40 (.f1 31 (.f2 114 (.f2 114 (.at .bytes 20) (.int 4)) (.f2 51 (.int 4) (.f2 41 (.at .int 7) (.f2 40 (.f2 42 (.int 4) (.at .int
    15)) (.int 8)))))) (.f1 31 (.f2 117 (.at .bytes 17) (.f2 40 (.f2 40 (.f2 42 (.int 4) (.at .int 15)) (.f2 51 (.int 4) (.f2 41 (.at .int 7) (.f2 40
    (.f2 42 (.int 4) (.at .int 15)) (.int 8))))) (.int 8)))))) (.at .int 7)) (.need (.f2 155 (.f2 114 (.f2 120 (.f2 114 (.at .bytes 17) (.f2 40 (.f2 42
    (.int 4) (.at .int 15)) (.int 8))) (.f2 120 (.f2 114 (.f2 114 (.at .bytes 20) (.int 4)) (.f2 51 (.int 4) (.f2 41 (.at .int 7) (.f2 40 (.f2 42 (.int
    4) (.at .int 15)) (.int 8))))) (.f2 117 (.at .bytes 17) (.f2 40 (.f2 40 (.f2 42 (.int 4) (.at .int 15)) (.f2 51 (.int 4) (.f2 41 (.at .int 7) (.f2
    40 (.f2 42 (.int 4) (.at .int 15)) (.int 8))))) (.int 8))))) (.f2 40 (.f2 42 (.int 4) (.f2 40 (.at .int 15) (.int 1))) (.int 8))) (.us .bytes 104
    (.at .int 0) (.at .ints 5) (.at .int 3) (.f2 40 (.at .int 15) (.int 1)))) (.need (.f2 155 (.f2 117 (.f2 120 (.f2 114 (.at .bytes 17) (.f2 40 (.f2
    42 (.int 4) (.at .int 15)) (.int 8))) (.f2 120 (.f2 114 (.f2 114 (.at .bytes 20) (.int 4)) (.f2 51 (.int 4) (.f2 41 (.at .int 7) (.f2 40 (.f2 42
    (.int 4) (.at .int 15)) (.int 8))))) (.f2 117 (.at .bytes 17) (.f2 40 (.f2 40 (.f2 42 (.int 4) (.at .int 15)) (.f2 51 (.int 4) (.f2 41 (.at .int 7)
    (.f2 40 (.f2 42 (.int 4) (.at .int 15)) (.int 8))))) (.int 8))))) (.f2 40 (.f2 42 (.int 4) (.f2 40 (.at .int 15) (.int 1))) (.int 8))) (.f2 126
    (.f2 41 (.at .int 7) (.f2 40 (.f2 42 (.int 4) (.f2 40 (.at .int 15) (.int 1))) (.int 8))) (.int 0))) (.need (.us .bool 103 (.at .ints 5) (.f2 40
    (.at .int 15) (.int 1)) (.int 0) (.int 0)) (.need (.f2 45 (.f2 110 (.at .ints 5) (.at .int 15)) (.us .int 106 (.at .ints 5) (.f2 40 (.at .int 15)
    (.int 1)) (.int 0) (.int 0))) .tt))))))))))))))))))))))))))))))) (.imp (.f2 46 (.f2 110 (.at .ints 5) (.at .int 15)) (.int 2)) (.need (.f2 45 (.int
    30) (.us .int 101 (.at .int 0) (.at .ints 5) (.at .int 3) (.at .int 7))) (.need (.f2 155 (.f1 153 (.int 0)) (.us .bytes 102 (.at .int 0) (.at .ints
    5) (.at .int 3) (.at .int 7))) (.need (.f2 45 (.int 0) (.f1 31 (.us .bytes 102 (.at .int 0) (.at .ints 5) (.at .int 3) (.at .int 7)))) .tt)))))))
    (.imp (.f2 47 (.at .int 3) (.at .int 15)) (.need (.f1 23 (.f2 40 (.at .int 7) (.int (-(3 + 1))))) (.need (.f2 47 (.f2 40 (.at .int 7) (.int (-(3 +
    1)))) (.at .int 7)) (.all 18 .int (.imp (.f2 47 (.int 0) (.at .int 18)) (.need (.f2 47 (.f2 40 (.at .int 7) (.int (-(3 + 1)))) (.f1 31 (.at .bytes
    17))) (.need (.f2 47 (.f2 40 (.at .int 7) (.int (-(3 + 1)))) (.int 140737488355328)) (.need (.f2 47 (.int 0) (.f1 17 (.f2 82 (.int 4294967295) (.f1
    160 (.f2 114 (.at .bytes 17) (.f2 40 (.at .int 7) (.int (-(3 + 1))))))))) (.need (.f2 46 (.f1 17 (.f2 82 (.int 4294967295) (.f1 160 (.f2 114 (.at
    .bytes 17) (.f2 40 (.at .int 7) (.int (-(3 + 1)))))))) (.int 18446744073709551616)) (.all 19 .int (.all 20 .int (.all 21 .bytes (.imp (.f2 155 (.f2
    114 (.at .bytes 21) (.int 4)) (.us .bytes 93 (.f1 17 (.f2 82 (.int 4294967295) (.f1 160 (.f2 114 (.at .bytes 17) (.f2 40 (.at .int 7) (.int (-(3 +
    1)))))))) (.int 4) (.int 0) (.int 0))) (.imp (.f2 47 (.int 4) (.f1 31 (.at .bytes 21))) (.imp (.f2 47 (.int 4) (.at .int 20)) (.need (.f2 47 (.int
    0) (.f2 41 (.at .int 7) (.f2 40 (.at .int 7) (.int (-(3 + 1)))))) (.need (.f2 47 (.f2 41 (.at .int 7) (.f2 40 (.at .int 7) (.int (-(3 + 1))))) (.f2
    41 (.at .int 7) (.f2 40 (.at .int 7) (.int (-(3 + 1)))))) (.need (.f2 47 (.f2 40 (.f2 40 (.at .int 7) (.f2 41 (.at .int 7) (.f2 40 (.at .int 7)
    (.int (-(3 + 1)))))) (.int (-(3 + 1)))) (.at .int 7)) (.need (.f2 45 (.int 0) (.us .int 101 (.at .int 0) (.at .ints 5) (.at .int 3) (.at .int 7)))
    (.need (.f2 155 (.f2 114 (.f2 120 (.f2 114 (.at .bytes 17) (.f2 40 (.at .int 7) (.int (-(3 + 1))))) (.f2 120 (.f2 114 (.f2 114 (.at .bytes 21)
    (.int 4)) (.f2 51 (.int 4) (.f2 41 (.at .int 7) (.f2 40 (.at .int 7) (.int (-(3 + 1))))))) (.f2 117 (.at .bytes 17) (.f2 40 (.f2 40 (.at .int 7)
    (.f2 51 (.int 4) (.f2 41 (.at .int 7) (.f2 40 (.at .int 7) (.int (-(3 + 1))))))) (.int (-(3 + 1))))))) (.at .int 7)) (.us .bytes 102 (.at .int 0)
    (.at .ints 5) (.at .int 3) (.at .int 7))) (.need (.f2 45 (.at .int 7) (.f1 31 (.us .bytes 102 (.at .int 0) (.at .ints 5) (.at .int 3) (.at .int
    7)))) (.need (.f2 47 (.at .int 7) (.f2 40 (.f1 31 (.f2 114 (.at .bytes 17) (.f2 40 (.at .int 7) (.int (-(3 + 1)))))) (.f2 40 (.f1 31 (.f2 114 (.f2
    114 (.at .bytes 21) (.int 4)) (.f2 51 (.int 4) (.f2 41 (.at .int 7) (.f2 40 (.at .int 7) (.int (-(3 + 1)))))))) (.f1 31 (.f2 117 (.at .bytes 17)
    (.f2 40 (.f2 40 (.at .int 7) (.f2 51 (.int 4) (.f2 41 (.at .int 7) (.f2 40 (.at .int 7) (.int (-(3 + 1))))))) (.int (-(3 + 1)))))))))
    .tt)))))))))))))))))))))))))))))))))))))))))))))))))))))))))))))))))))))))))))) (.imp (.f2 46 (.at .int 0) (.int 2)) (.need (.f2 45 (.int 30) (.us
    .int 101 (.at .int 0) (.at .ints 5) (.at .int 3) (.at .int 7))) (.need (.f2 155 (.f1 153 (.int 0)) (.us .bytes 102 (.at .int 0) (.at .ints 5) (.at
    .int 3) (.at .int 7))) (.need (.f2 45 (.int 0) (.f1 31 (.us .bytes 102 (.at .int 0) (.at .ints 5) (.at .int 3) (.at .int 7)))) .tt)))))) (.imp (.f2
    45 (.at .int 0) (.int 0)) (.and (.imp (.f2 46 (.us .int 98 (.at .int 7) (.int 0) (.int 0) (.int 0)) (.at .int 3)) (.need (.f2 45 (.int 2) (.us .int
    101 (.at .int 0) (.at .ints 5) (.at .int 3) (.at .int 7))) (.need (.f2 155 (.f1 153 (.int 0)) (.us .bytes 102 (.at .int 0) (.at .ints 5) (.at .int
    3) (.at .int 7))) (.need (.f2 45 (.int 0) (.f1 31 (.us .bytes 102 (.at .int 0) (.at .ints 5) (.at .int 3) (.at .int 7)))) .tt)))) (.imp (.f2 47
    (.at .int 3) (.us .int 98 (.at .int 7) (.int 0) (.int 0) (.int 0))) (.need (.f2 47 (.int 0) (.at .int 7)) (.need (.f2 47 (.at .int 7) (.at .int 7))
    (.need (.f2 47 (.f2 42 (.at .int 7) (.int 1)) (.int 140737488355328)) (.all 8 .int (.imp (.f2 47 (.int 0) (.at .int 8)) (.need (.f2 46 (.int 0)
    (.at .int 7)) (.need (.f2 46 (.int 0) (.f1 31 (.f2 126 (.at .int 7) (.int 0)))) (.need (.f2 47 (.int 2) (.at .int 7)) (.need (.f2 47 (.int 0) (.f1
    17 (.at .int 3))) (.need (.f2 46 (.f1 17 (.at .int 3)) (.int 18446744073709551616)) (.all 9 .int (.all 10 .int (.all 11 .bytes (.imp (.f2 155 (.f2
    114 (.at .bytes 11) (.int 2)) (.us .bytes 93 (.f1 17 (.at .int 3)) (.int 2) (.int 0) (.int 0))) (.imp (.f2 47 (.int 2) (.f1 31 (.at .bytes 11)))
    (.imp (.f2 47 (.int 2) (.at .int 10)) (.need (.f2 47 (.int 0) (.f2 40 (.at .int 7) (.int (-(1 + 1))))) (.need (.f2 47 (.f2 40 (.at .int 7) (.int
    (-(1 + 1)))) (.f2 40 (.at .int 7) (.int (-(1 + 1))))) (.need (.f2 47 (.int 2) (.f1 31 (.f2 126 (.at .int 7) (.int 0)))) (.need (.f2 47 (.f2 40 (.f2
    40 (.at .int 7) (.int (-(1 + 1)))) (.int 2)) (.at .int 7)) (.need (.f2 47 (.int 4) (.at .int 7)) (.need (.f2 47 (.int 0) (.f1 17 (.at .int 0)))
    (.need (.f2 46 (.f1 17 (.at .int 0)) (.int 18446744073709551616)) (.all 12 .int (.all 13 .int (.all 14 .bytes (.imp (.f2 155 (.f2 114 (.at .bytes
    14) (.int 4)) (.us .bytes 93 (.f1 17 (.at .int 0)) (.int 4) (.int 0) (.int 0))) (.imp (.f2 47 (.int 4) (.f1 31 (.at .bytes 14))) (.imp (.f2 47
    (.int 4) (.at .int 13)) (.need (.f2 47 (.int 0) (.f2 40 (.at .int 7) (.int (-(3 + 1))))) (.need (.f2 47 (.f2 40 (.at .int 7) (.int (-(3 + 1))))
    (.f2 40 (.at .int 7) (.int (-(3 + 1))))) (.need (.f2 47 (.int 4) (.f2 40 (.f1 31 (.f2 114 (.f3 131 (.f2 126 (.at .int 7) (.int 0)) (.int 0) (.int
    5)) (.int 2))) (.f2 40 (.f1 31 (.f2 114 (.f2 114 (.at .bytes 11) (.int 2)) (.f2 51 (.int 2) (.f2 40 (.at .int 7) (.int (-(1 + 1))))))) (.f1 31 (.f2
    117 (.f3 131 (.f2 126 (.at .int 7) (.int 0)) (.int 0) (.int 5)) (.f2 40 (.f2 51 (.int 2) (.f2 40 (.at .int 7) (.int (-(1 + 1))))) (.int 2)))))))
    (.need (.f2 47 (.f2 40 (.f2 40 (.at .int 7) (.int (-(3 + 1)))) (.int 4)) (.at .int 7)) (.need (.f2 45 (.f2 40 (.f1 31 (.f2 114 (.f2 120 (.f2 114
    (.f3 131 (.f2 126 (.at .int 7) (.int 0)) (.int 0) (.int 5)) (.int 2)) (.f2 120 (.f2 114 (.f2 114 (.at .bytes 11) (.int 2)) (.f2 51 (.int 2) (.f2 40
    (.at .int 7) (.int (-(1 + 1)))))) (.f2 117 (.f3 131 (.f2 126 (.at .int 7) (.int 0)) (.int 0) (.int 5)) (.f2 40 (.f2 51 (.int 2) (.f2 40 (.at .int
    7) (.int (-(1 + 1))))) (.int 2))))) (.int 4))) (.f2 40 (.f1 31 (.f2 114 (.f2 114 (.at .bytes 14) (.int 4)) (.f2 51 (.int 4) (.f2 40 (.at .int 7)
    (.int (-(3 + 1))))))) (.f1 31 (.f2 117 (.f2 120 (.f2 114 (.f3 131 (.f2 126 (.at .int 7) (.int 0)) (.int 0) (.int 5)) (.int 2)) (.f2 120 (.f2 114
    (.f2 114 (.at .bytes 11) (.int 2)) (.f2 51 (.int 2) (.f2 40 (.at .int 7) (.int (-(1 + 1)))))) (.f2 117 (.f3 131 (.f2 126 (.at .int 7) (.int 0))
    (.int 0) (.int 5)) (.f2 40 (.f2 51 (.int 2) (.f2 40 (.at .int 7) (.int (-(1 + 1))))) (.int 2))))) (.f2 40 (.f2 51 (.int 4) (.f2 40 (.at .int 7)
    (.int (-(3 + 1))))) (.int 4)))))) (.at .int 7)) (.need (.f2 155 (.f2 114 (.f2 120 (.f2 114 (.f2 120 (.f2 114 (.f3 131 (.f2 126 (.at .int 7) (.int
    0)) (.int 0) (.int 5)) (.int 2)) (.f2 120 (.f2 114 (.f2 114 (.at .bytes 11) (.int 2)) (.f2 51 (.int 2) (.f2 40 (.at .int 7) (.int (-(1 + 1))))))
    (.f2 117 (.f3 131 (.f2 126 (.at .int 7) (.int 0)) (.int 0) (.int 5)) (.f2 40 (.f2 51 (.int 2) (.f2 40 (.at .int 7) (.int (-(1 + 1))))) (.int 2)))))
    (.int 4)) (.f2 120 (.f2 114 (.f2 114 (.at .bytes 14) (.int 4)) (.f2 51 (.int 4) (.f2 40 (.at .int 7) (.int (-(3 + 1)))))) (.f2 117 (.f2 120 (.f2
    114 (.f3 131 (.f2 126 (.at .int 7) (.int 0)) (.int 0) (.int 5)) (.int 2)) (.f2 120 (.f2 114 (.f2 114 (.at .bytes 11) (.int 2)) (.f2 51 (.int 2)
    (.f2 40 (.at .int 7) (.int (-(1 + 1)))))) (.f2 117 (.f3 131 (.f2 126 (.at .int 7) (.int 0)) (.int 0) (.int 5)) (.f2 40 (.f2 51 (.int 2) (.f2 40
    (.at .int 7) (.int (-(1 + 1))))) (.int 2))))) (.f2 40 (.f2 51 (.int 4) (.f2 40 (.at .int 7) (.int (-(3 + 1))))) (.int 4))))) (.int 8)) (.us .bytes
    104 (.at .int 0) (.at .ints 5) (.at .int 3) (.int 0))) (.need (.f2 155 (.f2 117 (.f2 120 (.f2 114 (.f2 120 (.f2 114 (.f3 131 (.f2 126 (.at .int 7)
    (.int 0)) (.int 0) (.int 5)) (.int 2)) (.f2 120 (.f2 114 (.f2 114 (.at .bytes 11) (.int 2)) (.f2 51 (.int 2) (.f2 40 (.at .int 7) (.int (-(1 +
    1)))))) (.f2 117 (.f3 131 (.f2 126 (.at .int 7) (.int 0)) (.int 0) (.int 5)) (.f2 40 (.f2 51 (.int 2) (.f2 40 (.at .int 7) (.int (-(1 + 1)))))
    (.int 2))))) (.int 4)) (.f2 120 (.f2 114 (.f2 114 (.at .bytes 14) (.int 4)) (.f2 51 (.int 4) (.f2 40 (.at .int 7) (.int (-(3 + 1)))))) (.f2 117
    (.f2 120 (.f2 114 (.f3 131 (.f2 126 (.at .int 7) (.int 0)) (.int 0) (.int 5)) (.int 2)) (.f2 120 (.f2 114 (.f2 114 (.at .bytes 11) (.int 2)) (.f2
    51 (.int 2) (.f2 40 (.at .int 7) (.int (-(1 + 1)))))) (.f2 117 (.f3 131 (.f2 126 (.at .int 7) (.int 0)) (.int 0) (.int 5)) (.f2 40 (.f2 51 (.int 2)
    (.f2 40 (.at .int 7) (.int (-(1 + 1))))) (.int 2))))) (.f2 40 (.f2 51 (.int 4) (.f2 40 (.at .int 7) (.int (-(3 + 1))))) (.int 4))))) (.int 8)) (.f2
    126 (.f2 40 (.at .int 7) (.int (-(7 + 1)))) (.int 0))) (.need (.us .bool 103 (.at .ints 5) (.int 0) (.int 0) (.int 0)) (.need (.f2 45 (.int 0) (.us
    .int 106 (.at .ints 5) (.int 0) (.int 0) (.int 0))) (.all 15 .int (.all 16 .int (.all 17 .bytes (.imp (.f2 47 (.int 0) (.at .int 15)) (.imp (.f2 47
    (.at .int 15) (.at .int 3)) (.imp (.f2 45 (.f1 31 (.at .bytes 17)) (.at .int 7)) (.imp (.f2 155 (.f2 114 (.at .bytes 17) (.f2 40 (.f2 42 (.int 4)
    (.at .int 15)) (.int 8))) (.us .bytes 104 (.at .int 0) (.at .ints 5) (.at .int 3) (.at .int 15))) (.imp (.f2 155 (.f2 117 (.at .bytes 17) (.f2 40
    (.f2 42 (.int 4) (.at .int 15)) (.int 8))) (.f2 126 (.f2 41 (.at .int 7) (.f2 40 (.f2 42 (.int 4) (.at .int 15)) (.int 8))) (.int 0))) (.imp (.us
    .bool 103 (.at .ints 5) (.at .int 15) (.int 0) (.int 0)) (.imp (.f2 45 (.at .int 16) (.us .int 106 (.at .ints 5) (.at .int 15) (.int 0) (.int 0)))
    (.and (.imp (.f2 46 (.at .int 15) (.at .int 3)) (.need (.f2 46 (.at .int 15) (.f1 30 (.at .ints 5))) (.and (.imp (.f2 47 (.int 2) (.f2 110 (.at
    .ints 5) (.at .int 15))) (.and (.imp (.f2 47 (.int 65536) (.f2 110 (.at .ints 5) (.at .int 15))) (.need (.f2 45 (.int 30) (.us .int 101 (.at .int
    0) (.at .ints 5) (.at .int 3) (.at .int 7))) (.need (.f2 155 (.f1 153 (.int 0)) (.us .bytes 102 (.at .int 0) (.at .ints 5) (.at .int 3) (.at .int
    7))) (.need (.f2 45 (.int 0) (.f1 31 (.us .bytes 102 (.at .int 0) (.at .ints 5) (.at .int 3) (.at .int 7)))) .tt)))) (.imp (.f2 46 (.f2 110 (.at
    .ints 5) (.at .int 15)) (.int 65536)) (.and (.imp (.f2 47 (.f2 110 (.at .ints 5) (.at .int 15)) (.at .int 16)) (.need (.f2 45 (.int 63) (.us .int
    101 (.at .int 0) (.at .ints 5) (.at .int 3) (.at .int 7))) (.need (.f2 155 (.f1 153 (.int 0)) (.us .bytes 102 (.at .int 0) (.at .ints 5) (.at .int
    3) (.at .int 7))) (.need (.f2 45 (.int 0) (.f1 31 (.us .bytes 102 (.at .int 0) (.at .ints 5) (.at .int 3) (.at .int 7)))) .tt)))) (.imp (.f2 46
    (.at .int 16) (.f2 110 (.at .ints 5) (.at .int 15))) (.need (.f1 23 (.f2 42 (.int 4) (.at .int 15))) (.need (.f1 23 (.f2 40 (.f2 42 (.int 4) (.at
    .int 15)) (.int 8))) (.need (.f2 47 (.int 0) (.f2 40 (.f2 42 (.int 4) (.at .int 15)) (.int 8))) (.need (.f2 47 (.f2 40 (.f2 42 (.int 4) (.at .int
    15)) (.int 8)) (.at .int 7)) (.need (.f2 47 (.int 0) (.f1 17 (.f2 110 (.at .ints 5) (.at .int 15)))) (.need (.f2 46 (.f1 17 (.f2 110 (.at .ints 5)
    (.at .int 15))) (.int 18446744073709551616)) (.all 18 .int (.all 19 .int (.all 20 .bytes (.imp (.f2 155 (.f2 114 (.at .bytes 20) (.int 4)) (.us
    .bytes 93 (.f1 17 (.f2 110 (.at .ints 5) (.at .int 15))) (.int 4) (.int 0) (.int 0))) (.imp (.f2 47 (.int 4) (.f1 31 (.at .bytes 20))) (.imp (.f2
    47 (.int 4) (.at .int 19)) (.need (.f2 47 (.int 0) (.f2 41 (.at .int 7) (.f2 40 (.f2 42 (.int 4) (.at .int 15)) (.int 8)))) (.need (.f2 47 (.f2 41
    (.at .int 7) (.f2 40 (.f2 42 (.int 4) (.at .int 15)) (.int 8))) (.f2 41 (.at .int 7) (.f2 40 (.f2 42 (.int 4) (.at .int 15)) (.int 8)))) (.need
    (.f2 47 (.f2 40 (.f2 42 (.int 4) (.at .int 15)) (.int 8)) (.f1 31 (.at .bytes 17))) (.need (.f2 47 (.f2 40 (.f2 40 (.f2 42 (.int 4) (.at .int 15))
    (.f2 41 (.at .int 7) (.f2 40 (.f2 42 (.int 4) (.at .int 15)) (.int 8)))) (.int 8)) (.at .int 7)) (.need (.f1 23 (.f2 40 (.at .int 15) (.int 1)))
    (.need (.f2 47 (.int 0) (.f2 41 (.at .int 3) (.f2 40 (.at .int 15) (.int 1)))) (.need (.f2 46 (.f2 41 (.at .int 3) (.f2 40 (.at .int 15) (.int 1)))
    (.f2 41 (.at .int 3) (.at .int 15))) (.need (.f2 47 (.int 0) (.f2 40 (.at .int 15) (.int 1))) (.need (.f2 47 (.f2 40 (.at .int 15) (.int 1)) (.at
    .int 3)) (.need (.f2 45 (.f2 40 (.f1 31 (.f2 114 (.at .bytes 17) (.f2 40 (.f2 42 (.int 4) (.at .int 15)) (.int 8)))) (.f2 40 (.f1 31 (.f2 114 (.f2
    114 (.at .bytes 20) (.int 4)) (.f2 51 (.int 4) (.f2 41 (.at .int 7) (.f2 40 (.f2 42 (.int 4) (.at .int 15)) (.int 8)))))) (.f1 31 (.f2 117 (.at
    .bytes 17) (.f2 40 (.f2 40 (.f2 42 (.int 4) (.at .int 15)) (.f2 51 (.int 4) (.f2 41 (.at .int 7) (.f2 40 (.f2 42 (.int 4) (.at .int 15)) (.int
    8))))) (.int 8)))))) (.at .int 7)) (.need (.f2 155 (.f2 114 (.f2 120 (.f2 114 (.at .bytes 17) (.f2 40 (.f2 42 (.int 4) (.at .int 15)) (.int 8)))
    (.f2 120 (.f2 114 (.f2 114 (.at .bytes 20) (.int 4)) (.f2 51 (.int 4) (.f2 41 (.at .int 7) (.f2 40 (.f2 42 (.int 4) (.at .int 15)) (.int 8)))))
    (.f2 117 (.at .bytes 17) (.f2 40 (.f2 40 (.f2 42 (.int 4) (.at .int 15)) (.f2 51 (.int 4) (.f2 41 (.at .int 7) (.f2 40 (.f2 42 (.int 4) (.at .int
    15)) (.int 8))))) (.int 8))))) (.f2 40 (.f2 42 (.int 4) (.f2 40 (.at .int 15) (.int 1))) (.int 8))) (.us .bytes 104 (.at .int 0) (.at .ints 5) (.at
    .int 3) (.f2 40 (.at .int 15) (.int 1)))) (.need (.f2 155 (.f2 117 (.f2 120 (.f2 114 (.at .bytes 17) (.f2 40 (.f2 42 (.int 4) (.at .int 15)) (.int
    8))) (.f2 120 (.f2 114 (.f2 114 (.at .bytes 20) (.int 4)) (.f2 51 (.int 4) (.f2 41 (.at .int 7) (.f2 40 (.f2 42 (.int 4) (.at .int 15)) (.int
    8))))) (.f2 117 (.at .bytes 17) (.f2 40 (.f2 40 (.f2 42 (.int 4) (.at .int 15)) (.f2 51 (.int 4) (.f2 41 (.at .int 7) (.f2 40 (.f2 42 (.int 4) (.at
    .int 15)) (.int 8))))) (.int 8))))) (.f2 40 (.f2 42 (.int 4) (.f2 40 (.at .int 15) (.int 1))) (.int 8))) (.f2 126 (.f2 41 (.at .int 7) (.f2 40 (.f2
    42 (.int 4) (.f2 40 (.at .int 15) (.int 1))) (.int 8))) (.int 0))) (.need (.us .bool 103 (.at .ints 5) (.f2 40 (.at .int 15) (.int 1)) (.int 0)
    (.int 0)) (.need (.f2 45 (.f2 110 (.at .ints 5) (.at .int 15)) (.us .int 106 (.at .ints 5) (.f2 40 (.at .int 15) (.int 1)) (.int 0) (.int 0)))
    .tt))))))))))))))))))))))))))))))) (.imp (.f2 46 (.f2 110 (.at .ints 5) (.at .int 15)) (.int 2)) (.need (.f2 45 (.int 30) (.us .int 101 (.at .int
    0) (.at .ints 5) (.at .int 3) (.at .int 7))) (.need (.f2 155 (.f1 153 (.int 0)) (.us .bytes 102 (.at .int 0) (.at .ints 5) (.at .int 3) (.at .int
    7))) (.need (.f2 45 (.int 0) (.f1 31 (.us .bytes 102 (.at .int 0) (.at .ints 5) (.at .int 3) (.at .int 7)))) .tt))))))) (.imp (.f2 47 (.at .int 3)
    (.at .int 15)) (.need (.f1 23 (.f2 40 (.at .int 7) (.int (-(3 + 1))))) (.need (.f2 47 (.f2 40 (.at .int 7) (.int (-(3 + 1)))) (.at .int 7)) (.all
    18 .int (.imp (.f2 47 (.int 0) (.at .int 18)) (.need (.f2 47 (.f2 40 (.at .int 7) (.int (-(3 + 1)))) (.f1 31 (.at .bytes 17))) (.need (.f2 47 (.f2
    40 (.at .int 7) (.int (-(3 + 1)))) (.int 140737488355328)) (.need (.f2 47 (.int 0) (.f1 17 (.f2 82 (.int 4294967295) (.f1 160 (.f2 114 (.at .bytes
    17) (.f2 40 (.at .int 7) (.int (-(3 + 1))))))))) (.need (.f2 46 (.f1 17 (.f2 82 (.int 4294967295) (.f1 160 (.f2 114 (.at .bytes 17) (.f2 40 (.at
    .int 7) (.int (-(3 + 1)))))))) (.int 18446744073709551616)) (.all 19 .int (.all 20 .int (.all 21 .bytes (.imp (.f2 155 (.f2 114 (.at .bytes 21)
    (.int 4)) (.us .bytes 93 (.f1 17 (.f2 82 (.int 4294967295) (.f1 160 (.f2 114 (.at .bytes 17) (.f2 40 (.at .int 7) (.int (-(3 + 1)))))))) (.int 4)
    (.int 0) (.int 0))) (.imp (.f2 47 (.int 4) (.f1 31 (.at .bytes 21))) (.imp (.f2 47 (.int 4) (.at .int 20)) (.need (.f2 47 (.int 0) (.f2 41 (.at
    .int 7) (.f2 40 (.at .int 7) (.int (-(3 + 1)))))) (.need (.f2 47 (.f2 41 (.at .int 7) (.f2 40 (.at .int 7) (.int (-(3 + 1))))) (.f2 41 (.at .int 7)
    (.f2 40 (.at .int 7) (.int (-(3 + 1)))))) (.need (.f2 47 (.f2 40 (.f2 40 (.at .int 7) (.f2 41 (.at .int 7) (.f2 40 (.at .int 7) (.int (-(3 +
    1)))))) (.int (-(3 + 1)))) (.at .int 7)) (.need (.f2 45 (.int 0) (.us .int 101 (.at .int 0) (.at .ints 5) (.at .int 3) (.at .int 7))) (.need (.f2
    155 (.f2 114 (.f2 120 (.f2 114 (.at .bytes 17) (.f2 40 (.at .int 7) (.int (-(3 + 1))))) (.f2 120 (.f2 114 (.f2 114 (.at .bytes 21) (.int 4)) (.f2
    51 (.int 4) (.f2 41 (.at .int 7) (.f2 40 (.at .int 7) (.int (-(3 + 1))))))) (.f2 117 (.at .bytes 17) (.f2 40 (.f2 40 (.at .int 7) (.f2 51 (.int 4)
    (.f2 41 (.at .int 7) (.f2 40 (.at .int 7) (.int (-(3 + 1))))))) (.int (-(3 + 1))))))) (.at .int 7)) (.us .bytes 102 (.at .int 0) (.at .ints 5) (.at
    .int 3) (.at .int 7))) (.need (.f2 45 (.at .int 7) (.f1 31 (.us .bytes 102 (.at .int 0) (.at .ints 5) (.at .int 3) (.at .int 7)))) (.need (.f2 47
    (.at .int 7) (.f2 40 (.f1 31 (.f2 114 (.at .bytes 17) (.f2 40 (.at .int 7) (.int (-(3 + 1)))))) (.f2 40 (.f1 31 (.f2 114 (.f2 114 (.at .bytes 21)
    (.int 4)) (.f2 51 (.int 4) (.f2 41 (.at .int 7) (.f2 40 (.at .int 7) (.int (-(3 + 1)))))))) (.f1 31 (.f2 117 (.at .bytes 17) (.f2 40 (.f2 40 (.at
    .int 7) (.f2 51 (.int 4) (.f2 41 (.at .int 7) (.f2 40 (.at .int 7) (.int (-(3 + 1))))))) (.int (-(3 + 1)))))))))
    .tt))))))))))))))))))))))))))))))))))))))))))))))))))))))))))))))))))))))))))))))))
theorem pen_vc : vcOf Try.prog penCx 14 12 penCtr = penVc := by kernel_rfl
-- END VC pen
theorem fix_take (v : Int) : (fixB v (Int.toNat 4)).take (Int.toNat 4) = fixB v 4 := List.take_of_length_le (by rw [fix_len]; decide)
theorem pen_head {q : Nat} {n next : Int} {a b : List UInt8} (ha : a.take (Int.toNat 2) = fixB (IntKind.u64.wrap n) (Int.toNat 2)) (hb : b.take (Int.toNat 4) = fixB (IntKind.u64.wrap next) (Int.toNat 4)) (n0 : 0 ≤ n) (n1 : n < 18446744073709551616) (m0 : 0 ≤ next) (m1 : next < 18446744073709551616) :
    (((((List.replicate (q + 8) (UInt8.ofNat 0)).set 0 (UInt8.ofNat (Int.toNat 5))).take (Int.toNat 2) ++ ((a.take (Int.toNat 2)).take (Int.toNat 2) ++ ((List.replicate (q + 8) (UInt8.ofNat 0)).set 0 (UInt8.ofNat (Int.toNat 5))).drop (Int.toNat 4))).take (Int.toNat 4) ++
      ((b.take (Int.toNat 4)).take (Int.toNat 4) ++ (((List.replicate (q + 8) (UInt8.ofNat 0)).set 0 (UInt8.ofNat (Int.toNat 5))).take (Int.toNat 2) ++ ((a.take (Int.toNat 2)).take (Int.toNat 2) ++ ((List.replicate (q + 8) (UInt8.ofNat 0)).set 0 (UInt8.ofNat (Int.toNat 5))).drop (Int.toNat 4))).drop (Int.toNat 8)))) =
      headB next n ++ List.replicate q 0 := by
  rw [ha, hb, w64 n0 n1, w64 m0 m1]; rfl
theorem pen_row {x y : List UInt8} {next n i page : Int} {L : List Int} (hx : x.take (4 * i + 8).toNat = headB next n ++ bodyB (L.take i.toNat)) (hd : x.drop (4 * i + 8).toNat = List.replicate (page - (4 * i + 8)).toNat (UInt8.ofNat 0))
    (hy : y.take (Int.toNat 4) = fixB (IntKind.u64.wrap (L.getD i.toNat 0)) (Int.toNat 4)) (i0 : 0 ≤ i) (i1 : i < L.length) (g0 : 0 ≤ L.getD i.toNat 0) (g1 : L.getD i.toNat 0 < 65536) :
    x.take (4 * i + 8).toNat ++ ((y.take (Int.toNat 4)).take (Int.toNat 4) ++ x.drop (4 * i + 4 + 8).toNat) = (headB next n ++ bodyB (L.take (i + 1).toNat)) ++ List.replicate (page - (4 * (i + 1) + 8)).toNat (UInt8.ofNat 0) := by
  have e : x.drop (4 * i + 4 + 8).toNat = (x.drop (4 * i + 8).toNat).drop 4 := by rw [List.drop_drop]; congr 1; omega
  rw [e, hd, hx, hy, w64 g0 (by omega), take_snoc i0 i1, body_snoc, List.drop_replicate, fix_take, ← List.append_assoc, ← List.append_assoc, show (page - (4 * i + 8)).toNat - 4 = (page - (4 * (i + 1) + 8)).toNat by omega]
theorem row_len (next n i : Int) (L : List Int) (i0 : 0 ≤ i) (i1 : i ≤ L.length) : (headB next n ++ bodyB (L.take i.toNat)).length = (4 * i + 8).toNat := by
  rw [List.length_append, head_len, body_len, List.length_take]; omega
theorem pen_end {x y : List UInt8} {next n i page : Int} {L : List Int} (hx : x.take (4 * i + 8).toNat = headB next n ++ bodyB (L.take i.toNat)) (hd : x.drop (4 * i + 8).toNat = List.replicate (page - (4 * i + 8)).toNat (UInt8.ofNat 0))
    (hy : y.take (Int.toNat 4) = fixB (IntKind.u64.wrap (bitsV .xor .u32 4294967295 (crcRun 4294967295 (x.take (page + -(3 + 1)).toNat) : Nat))) (Int.toNat 4)) (i0 : i ≤ n) (i1 : n ≤ i) (hn : 0 ≤ n) (hl : n ≤ L.length) (hp : 4 * n + 12 ≤ page) (hlen : (x.length : Int) = page)
    (he : encE next (L.take n.toNat) page = 0) : x.take (page + -(3 + 1)).toNat ++ ((y.take (Int.toNat 4)).take (Int.toNat 4) ++ x.drop (page + 4 + -(3 + 1)).toNat) = encR next (L.take n.toNat) page ∧ page = ((encR next (L.take n.toNat) page).length : Nat) := by
  obtain rfl : i = n := by omega
  have hL : ((L.take i.toNat).length : Int) = i := by rw [List.length_take]; omega
  have hf : x.take (page + -(3 + 1)).toNat = fillB next i (L.take i.toNat) (page - 4) := by
    have e : x = (headB next i ++ bodyB (L.take i.toNat)) ++ List.replicate (page - (4 * i + 8)).toNat (UInt8.ofNat 0) := by rw [← hx, ← hd, List.take_append_drop]
    have hr := row_len next i i L hn hl
    conv => lhs; rw [e]
    rw [show (page + -(3 + 1)).toNat = (headB next i ++ bodyB (L.take i.toNat)).length + (page - 4 - 8 - 4 * i).toNat by rw [hr]; omega, List.take_length_add_append, List.take_replicate]
    unfold fillB
    rw [show min (page - 4 - 8 - 4 * i).toNat (page - (4 * i + 8)).toNat = (page - 4 - 8 - 4 * i).toNat by omega]; rfl
  have hs := sum_in (x.take (page + -(3 + 1)).toNat)
  have hw : IntKind.u64.wrap (bitsV .xor .u32 4294967295 (crcRun 4294967295 (x.take (page + -(3 + 1)).toNat) : Nat)) = sumB (x.take (page + -(3 + 1)).toNat) := w64 hs.1 (by have := hs.2; unfold sumB at this; omega)
  refine ⟨?_, ?_⟩
  · rw [hy, hw, List.drop_of_length_le (by omega), List.append_nil, fix_take, encR_ok he, hL, ← hf]
  · rw [encR_ok he, List.length_append, fix_len, fill_len (by omega)]; omega
set_option maxRecDepth 20000 in
theorem pen_ok (S : Sig FL) (hE : EnSig S) (hZ : SzSig S) (hU : SuSig S) (hC : EcSig S) : CtrOk S Try.prog 12 penCtr := by
  have hB := emB_gh S
  refine vcOf_sound S (C := penCx) (fuel := 14) (cx_of ⟨one_spec (by decide) (sz_ok S hZ), one_spec (by decide) (roo_ok S hZ), one_spec (by decide) (fix_ok S hE), one_spec (by decide) (sum_ok S), trivial⟩ ⟨⟨trivial, ⟨by decide, hB⟩, trivial⟩, trivial⟩ trivial) fun ρ => ?_
  rw [pen_vc]
  simp only [penVc, hE.u93, hZ.u97, hZ.u98, hC.u101, hC.u102, hC.u103, hC.u104, hC.u106, ap2_51i, ap2_117, ap2_126, ap3_131, VC.den, SX.den, co_int, co_bool, co_ints, co_bytes, Env.upd, p155, p23, p45, p46, p47, p50, b46, b47, p2_45, ap1_2, ap1_14, ap1_16, ap1_17, ap1_30, ap1_31, ap1_153, ap1_160, ap2_40, ap2_41, ap2_42, ap2_43, ap2_44, ap2_45, beq_iff_eq, Bool.not_eq_true', beq_eq_false_iff_ne, ne_eq, Bool.not_not, ap2_82, ap2_110, ap2_111, ap2_114, ap2_120, ap2_123, U.toProp_bool, U.toBool_bool, i64lo, i64hi, U.toInt_int, U.toInts_ints, U.toBytes_bytes, Int.toNat_zero, List.take_zero, Nat.reduceEqDiff, reduceIte, U.int.injEq, U.bool.injEq, U.bytes.injEq]
  generalize (ρ 0).toInt = next
  generalize (ρ 3).toInt = n
  generalize (ρ 5).toInts = L
  generalize (ρ 7).toInt = page
  intro h1 h2 h3
  cases hz : sizeB page
  · have t := told_1 (next := next) (n := n) (L := L) hz
    exact ⟨fun _ => ⟨t.1, t.2.1, t.2.2, trivial⟩, fun h => by simp at h⟩
  refine ⟨fun h => absurd h (by decide), fun _ => ?_⟩
  have hp := room_le hz
  obtain ⟨q, hq⟩ : ∃ q, page.toNat = q + 8 := ⟨page.toNat - 8, by omega⟩
  repeat' (first | exact trivial | apply And.intro | intro _)
  all_goals try omega
  all_goals try rfl
  all_goals try (simp only [w_u64]; omega)
  all_goals try (simp only [List.length_take]; omega)
  all_goals try first
    | exact (told_30 hz (by omega) (by omega)).1
    | exact (told_30 hz (by omega) (by omega)).2.1
    | exact (told_30 hz (by omega) (by omega)).2.2
    | exact (told_2 hz (by omega) (by omega) (by omega) (by omega)).1
    | exact (told_2 hz (by omega) (by omega) (by omega) (by omega)).2.1
    | exact (told_2 hz (by omega) (by omega) (by omega) (by omega)).2.2
    | exact (told_n (by assumption) hz (by omega) (by omega) (by omega) (by omega) (by omega) (by omega) (by omega)).1
    | exact (told_n (by assumption) hz (by omega) (by omega) (by omega) (by omega) (by omega) (by omega) (by omega)).2.1
    | exact (told_n (by assumption) hz (by omega) (by omega) (by omega) (by omega) (by omega) (by omega) (by omega)).2.2
    | exact (told_63 (by assumption) hz (by omega) (by omega) (by omega) (by omega) (by omega) (by omega) (by omega) (by omega)).1
    | exact (told_63 (by assumption) hz (by omega) (by omega) (by omega) (by omega) (by omega) (by omega) (by omega) (by omega)).2.1
    | exact (told_63 (by assumption) hz (by omega) (by omega) (by omega) (by omega) (by omega) (by omega) (by omega) (by omega)).2.2
    | exact scan_good (by assumption) (by omega) (by omega) (by omega) (by omega)
    | exact scan_good (by assumption) (by omega) (by omega) (by omega) (by rw [last_zero (by omega)]; omega)
    | exact leaf_head (by assumption) (by assumption) (by assumption) (by assumption) (by omega) (by omega) (by omega) (by omega)
    | exact leaf_row (by assumption) (by assumption) (by assumption) (by omega) (by omega) (by omega) (by omega)
    | exact leaf_zero (by assumption) (by omega) (by omega) (by omega)
    | exact leaf_fill (by assumption) (by omega) (by omega)
    | exact (code_0 (by assumption) hz (by omega) (by omega) (by omega) (by omega) (by omega) (by omega))
    | exact (leaf_end (by assumption) (by assumption) (by assumption) (by omega) (by omega) (by omega) (by omega) (by omega) (code_0 (by assumption) hz (by omega) (by omega) (by omega) (by omega) (by omega) (by omega)).symm).1
    | exact (leaf_end (by assumption) (by assumption) (by assumption) (by omega) (by omega) (by omega) (by omega) (by omega) (code_0 (by assumption) hz (by omega) (by omega) (by omega) (by omega) (by omega) (by omega)).symm).2
  all_goals try exact (pen_end (by assumption) (by assumption) (by assumption) (by omega) (by omega) (by omega) (by omega) (by omega) (by omega) (code_0 (by assumption) hz (by omega) (by omega) (by omega) (by omega) (by omega) (by omega)).symm).2
  all_goals try simp (disch := omega) only [imin_left, hq]
  all_goals try (simp only [List.length_take, List.length_drop, List.length_append, List.length_set, List.length_replicate]; omega)
  all_goals try first
    | (rw [take_snoc (by omega) (by omega), last_snoc])
    | exact (congrArg (List.take (Int.toNat 8)) (pen_head (by assumption) (by assumption) (by omega) (by omega) (by omega) (by omega))).trans rfl
    | exact (congrArg (List.drop (Int.toNat 8)) (pen_head (by assumption) (by assumption) (by omega) (by omega) (by omega) (by omega))).trans (by rw [show (page + -(7 + 1)).toNat = q by omega]; rfl)
    | exact (congrArg (List.take (q + 8)) (pen_end (by assumption) (by assumption) (by assumption) (by omega) (by omega) (by omega) (by omega) (by omega) (by omega) (code_0 (by assumption) hz (by omega) (by omega) (by omega) (by omega) (by omega) (by omega)).symm).1).trans (List.take_of_length_le (by have := (pen_end (by assumption) (by assumption) (by assumption) (by omega) (by omega) (by omega) (by omega) (by omega) (by omega) (code_0 (by assumption) hz (by omega) (by omega) (by omega) (by omega) (by omega) (by omega)).symm).2; omega))
    | (rw [pen_row (by assumption) (by assumption) (by assumption) (by omega) (by omega) (by omega) (by omega)]; rw [List.take_append_of_le_length (by rw [row_len _ _ _ _ (by omega) (by omega)]; omega), List.take_of_length_le (by rw [row_len _ _ _ _ (by omega) (by omega)]; omega)])
    | (rw [pen_row (by assumption) (by assumption) (by assumption) (by omega) (by omega) (by omega) (by omega)]; rw [List.drop_append_of_le_length (by rw [row_len _ _ _ _ (by omega) (by omega)]; omega), List.drop_of_length_le (by rw [row_len _ _ _ _ (by omega) (by omega)]; omega), List.nil_append])
end
end Go.Proofs.Ytmjonggabppgaaa

/- The same bytes? -/
set_option linter.unusedSimpArgs false
set_option linter.unusedVariables false
namespace Go.Proofs.Ytmjonggabppgaaa
noncomputable section
open Go.Eng
def sabCtr : Ctr := ⟨[.int, .bytes, .int, .int, .int, .int, .bytes, .int, .int, .int], [.one (slC (ai 0) (ai 2) (ai 3) 1), .one (slC (ai 5) (ai 7) (ai 8) 1)], [bAr (ai 0) (bA 1) (ai 4), bAr (ai 5) (bA 6) (ai 9)],
  [eLe (.int 0) (ai 2), eLe (ai 2) (.f1 31 (bA 1)), eLe (ai 2) (.int 1099511627776), eLe (.int 0) (ai 7), eLe (ai 7) (.f1 31 (bA 6)), eLe (ai 7) (.int 1099511627776), eLe (ai 2) (ai 3), eLe (ai 7) (ai 8)], [.bool], .one (.bool (.at .bool 10)), [bAr (ai 0) (bA 1) (ai 4), bAr (ai 5) (bA 6) (ai 9)],
  [.f2 48 (.at .bool 10) (eqS (.f2 114 (bA 1) (ai 2)) (.f2 114 (bA 6) (ai 7)))]⟩
def sabCx : Cx := { specs := [], anns := [] }
-- BEGIN VC sab
def sabVc : VC := (.imp (.f2 47 (.int 0) (.at .int 2)) (.imp (.f2 47 (.at .int 2) (.f1 31 (.at .bytes 1))) (.imp (.f2 47 (.at .int 2) (.int 1099511627776)) (.imp (.f2 47
    (.int 0) (.at .int 7)) (.imp (.f2 47 (.at .int 7) (.f1 31 (.at .bytes 6))) (.imp (.f2 47 (.at .int 7) (.int 1099511627776)) (.imp (.f2 47 (.at .int
    2) (.at .int 3)) (.imp (.f2 47 (.at .int 7) (.at .int 8)) (.need (.f2 48 (.f2 150 (.f2 114 (.at .bytes 1) (.at .int 2)) (.f2 114 (.at .bytes 6)
    (.at .int 7))) (.f2 155 (.f2 114 (.at .bytes 1) (.at .int 2)) (.f2 114 (.at .bytes 6) (.at .int 7)))) .tt)))))))))
theorem sab_vc : vcOf Try.prog sabCx 10 14 sabCtr = sabVc := by kernel_rfl
-- END VC sab
theorem sab_ok (S : Sig FL) : CtrOk S Try.prog 14 sabCtr := by
  refine vcOf_sound S (C := sabCx) (fuel := 10) (cx_of trivial trivial trivial) fun ρ => ?_
  rw [sab_vc]
  simp only [sabVc, VC.den, SX.den, co_int, co_bytes, p47, ap1_31, ap2_114, U.toInt_int, U.toBytes_bytes]
  intro a1 a2 a3 a4 a5 a6 a7 a8
  refine ⟨?_, trivial⟩
  simp [ap2]
  rw [Bool.eq_iff_iff, beq_iff_eq, decide_eq_true_iff]
end
end Go.Proofs.Ytmjonggabppgaaa

/- A page of the list read: the program's way. -/
set_option linter.unusedSimpArgs false
set_option linter.unusedVariables false
set_option linter.unusedSectionVars false
namespace Go.Proofs.Ytmjonggabppgaaa
noncomputable section
open Go.Eng
def usI4 (k : Nat) (a b c d : SX) : SX := .us .int k a b c d
def usX (k : Nat) (a b c : SX) : SX := .us .ints k a b c (.int 0)
def tkX (x n : SX) : SX := .f2 113 x n
-- atoms: 0 block, 1 content, 2 length, 3 slice's room, 4 room; told: 5 next, 6 block, 7 length, 8 room, 9 content, 10 code
def pdcCtr : Ctr := ⟨[.int, .bytes, .int, .int, .int], [.one (slC (ai 0) (ai 2) (ai 3) 1)], [bAr (ai 0) (bA 1) (ai 4)], [eLe (.int 0) (ai 2), eLe (ai 2) (.f1 31 (bA 1)), eLe (ai 2) (ai 3), eLe (ai 2) (.int 1099511627776)],
  [.int, .int, .int, .int, .ints, .int], .tup [(false, [.int .i64 (ai 5)]), (false, [slC (ai 6) (ai 7) (ai 8) 1]), (false, [.int .i64 (ai 10)])], [bAr (ai 0) (bA 1) (ai 4), iAr (ai 6) (iA 9) (ai 8)],
  [.f2 45 (ai 5) (usI 112 (bA 1) (ai 2) z0), .f2 45 (ai 10) (usI 111 (bA 1) (ai 2) z0), .f2 153 (tkX (iA 9) (ai 7)) (usX 113 (bA 1) (ai 2) z0), .f2 45 (ai 7) (.f1 30 (usX 113 (bA 1) (ai 2) z0)), eLe (ai 7) (.f1 30 (iA 9)), eLe (ai 7) (ai 8)]⟩
def nX : SX := .f1 13 (usI 110 (bA 1) (.int 2) (.int 2))
def pdcI1 : Inv := ⟨[.int, .int, .int, .int, .ints], [(66, .one (.int .i64 (di 0))), (9, .one (slC (di 1) (di 0) (di 2) 1)), (10, .one (.int .i64 (di 3)))], [iAr (di 1) (iA 1000004) (di 2)],
  [eLe (.int 0) (di 0), eLe (di 0) nX, .f2 153 (tkX (iA 1000004) (di 0)) (usX 114 (bA 1) (di 0) z0), eLe (di 0) (.f1 30 (iA 1000004)), eLe (di 0) (di 2), usB 103 (usX 114 (bA 1) (di 0) z0) (di 0) z0, .f2 45 (di 3) (usI 106 (usX 114 (bA 1) (di 0) z0) (di 0) z0)], .f2 41 nX (di 0)⟩
def restX : SX := .f2 41 (SX.mk2 41 (ai 2) (.int 4)) (at8 nX)
def pdcI2 : Inv := ⟨[.int], [(95, .one (.int .i64 (di 0)))], [], [eLe (.int 0) (di 0), eLe (di 0) restX, usB 115 (bA 1) (at8 nX) (di 0)], .f2 41 restX (di 0)⟩
def pdcCx : Cx := { specs := [(40, [szCtr]), (18, [rooCtr]), (51, [prdCtr]), (43, [sumCtr])], anns := [(21, [(8, .ghost emI []), (10, .inv pdcI1), (19, .inv pdcI2), (999999, .ghost emI [])])] }
-- BEGIN VC pdc
def pdcVc : VC := (.imp (.f2 47 (.int 0) (.at .int 2)) (.imp (.f2 47 (.at .int 2) (.f1 31 (.at .bytes 1))) (.imp (.f2 47 (.at .int 2) (.at .int 3)) (.imp (.f2 47 (.at
    .int 2) (.int 1099511627776)) (.all 5 .int (.imp (.f2 47 (.int 0) (.at .int 5)) (.and (.imp (.f1 2 (.f1 2 (.us .bool 97 (.at .int 2) (.int 0) (.int
    0) (.int 0)))) (.need (.f2 46 (.int 0) (.at .int 2)) (.need (.f2 46 (.int 0) (.f1 31 (.at .bytes 1))) (.and (.imp (.f2 45 (.f2 111 (.at .bytes 1)
    (.int 0)) (.int 5)) (.need (.f2 46 (.int 1) (.at .int 2)) (.need (.f2 46 (.int 1) (.f1 31 (.at .bytes 1))) (.and (.imp (.f1 2 (.f2 45 (.f2 111 (.at
    .bytes 1) (.int 1)) (.int 0))) (.need (.f2 45 (.int 0) (.us .int 112 (.at .bytes 1) (.at .int 2) (.int 0) (.int 0))) (.need (.f2 45 (.int 60) (.us
    .int 111 (.at .bytes 1) (.at .int 2) (.int 0) (.int 0))) (.need (.f2 153 (.f1 152 (.int 0)) (.us .ints 113 (.at .bytes 1) (.at .int 2) (.int 0)
    (.int 0))) (.need (.f2 45 (.int 0) (.f1 30 (.us .ints 113 (.at .bytes 1) (.at .int 2) (.int 0) (.int 0)))) .tt))))) (.imp (.f2 45 (.f2 111 (.at
    .bytes 1) (.int 1)) (.int 0)) (.need (.f1 23 (.f2 40 (.at .int 2) (.int (-(3 + 1))))) (.need (.f2 47 (.int 4) (.at .int 2)) (.need (.f1 23 (.us
    .int 110 (.at .bytes 1) (.int 2) (.int 2) (.int 0))) (.need (.f2 47 (.int 8) (.at .int 2)) (.need (.f1 23 (.us .int 110 (.at .bytes 1) (.int 4)
    (.int 4) (.int 0))) (.need (.f2 47 (.int 0) (.at .int 3)) (.need (.f2 47 (.int 0) (.f2 40 (.at .int 2) (.int (-(3 + 1))))) (.need (.f2 47 (.f2 40
    (.at .int 2) (.int (-(3 + 1)))) (.at .int 3)) (.and (.need (.f2 47 (.at .int 2) (.at .int 2)) (.need (.f1 23 (.us .int 110 (.at .bytes 1) (.f2 40
    (.at .int 2) (.int (-(3 + 1)))) (.int 4) (.int 0))) (.all 6 .int (.imp (.f2 47 (.int 0) (.at .int 6)) (.need (.f2 47 (.f2 40 (.at .int 2) (.int
    (-(3 + 1)))) (.f1 31 (.at .bytes 1))) (.need (.f2 47 (.f2 40 (.at .int 2) (.int (-(3 + 1)))) (.int 140737488355328)) (.need (.f1 23 (.f2 82 (.int
    4294967295) (.f1 160 (.f2 114 (.at .bytes 1) (.f2 40 (.at .int 2) (.int (-(3 + 1)))))))) (.and (.imp (.f2 45 (.us .int 110 (.at .bytes 1) (.f2 40
    (.at .int 2) (.int (-(3 + 1)))) (.int 4) (.int 0)) (.f2 82 (.int 4294967295) (.f1 160 (.f2 114 (.at .bytes 1) (.f2 40 (.at .int 2) (.int (-(3 +
    1)))))))) (.and (.imp (.f2 47 (.us .int 110 (.at .bytes 1) (.int 2) (.int 2) (.int 0)) (.us .int 98 (.at .int 2) (.int 0) (.int 0) (.int 0))) (.and
    (.imp (.f1 2 (.f2 45 (.us .int 110 (.at .bytes 1) (.int 4) (.int 4) (.int 0)) (.int 0))) (.and (.imp (.f2 47 (.int 2) (.us .int 110 (.at .bytes 1)
    (.int 4) (.int 4) (.int 0))) (.and (.imp (.f2 47 (.int 65536) (.us .int 110 (.at .bytes 1) (.int 4) (.int 4) (.int 0))) (.need (.f2 45 (.int 0)
    (.us .int 112 (.at .bytes 1) (.at .int 2) (.int 0) (.int 0))) (.need (.f2 45 (.int 60) (.us .int 111 (.at .bytes 1) (.at .int 2) (.int 0) (.int
    0))) (.need (.f2 153 (.f1 152 (.int 0)) (.us .ints 113 (.at .bytes 1) (.at .int 2) (.int 0) (.int 0))) (.need (.f2 45 (.int 0) (.f1 30 (.us .ints
    113 (.at .bytes 1) (.at .int 2) (.int 0) (.int 0)))) .tt))))) (.imp (.f2 46 (.us .int 110 (.at .bytes 1) (.int 4) (.int 4) (.int 0)) (.int 65536))
    (.need (.f2 47 (.int 0) (.f1 13 (.us .int 110 (.at .bytes 1) (.int 2) (.int 2) (.int 0)))) (.need (.f2 153 (.f1 152 (.int 0)) (.us .ints 114 (.at
    .bytes 1) (.int 0) (.int 0) (.int 0))) (.need (.us .bool 103 (.us .ints 114 (.at .bytes 1) (.int 0) (.int 0) (.int 0)) (.int 0) (.int 0) (.int 0))
    (.need (.f2 45 (.int 0) (.us .int 106 (.us .ints 114 (.at .bytes 1) (.int 0) (.int 0) (.int 0)) (.int 0) (.int 0) (.int 0))) (.all 7 .int (.all 8
    .int (.all 9 .int (.all 10 .int (.all 11 .ints (.imp (.f2 47 (.int 0) (.at .int 7)) (.imp (.f2 47 (.at .int 7) (.f1 13 (.us .int 110 (.at .bytes 1)
    (.int 2) (.int 2) (.int 0)))) (.imp (.f2 153 (.f2 113 (.at .ints 11) (.at .int 7)) (.us .ints 114 (.at .bytes 1) (.at .int 7) (.int 0) (.int 0)))
    (.imp (.f2 47 (.at .int 7) (.f1 30 (.at .ints 11))) (.imp (.f2 47 (.at .int 7) (.at .int 9)) (.imp (.us .bool 103 (.us .ints 114 (.at .bytes 1)
    (.at .int 7) (.int 0) (.int 0)) (.at .int 7) (.int 0) (.int 0)) (.imp (.f2 45 (.at .int 10) (.us .int 106 (.us .ints 114 (.at .bytes 1) (.at .int
    7) (.int 0) (.int 0)) (.at .int 7) (.int 0) (.int 0))) (.and (.imp (.f2 46 (.at .int 7) (.us .int 110 (.at .bytes 1) (.int 2) (.int 2) (.int 0)))
    (.need (.f1 23 (.f2 42 (.int 4) (.at .int 7))) (.need (.f1 23 (.f2 40 (.f2 42 (.int 4) (.at .int 7)) (.int 8))) (.need (.f2 47 (.int 0) (.f2 40
    (.f2 42 (.int 4) (.at .int 7)) (.int 8))) (.need (.f2 47 (.f2 40 (.f2 42 (.int 4) (.at .int 7)) (.int 12)) (.at .int 2)) (.need (.f1 23 (.us .int
    110 (.at .bytes 1) (.f2 40 (.f2 42 (.int 4) (.at .int 7)) (.int 8)) (.int 4) (.int 0))) (.and (.imp (.f2 47 (.int 2) (.us .int 110 (.at .bytes 1)
    (.f2 40 (.f2 42 (.int 4) (.at .int 7)) (.int 8)) (.int 4) (.int 0))) (.and (.imp (.f2 46 (.us .int 110 (.at .bytes 1) (.f2 40 (.f2 42 (.int 4) (.at
    .int 7)) (.int 8)) (.int 4) (.int 0)) (.int 65536)) (.and (.imp (.f2 47 (.us .int 110 (.at .bytes 1) (.f2 40 (.f2 42 (.int 4) (.at .int 7)) (.int
    8)) (.int 4) (.int 0)) (.at .int 10)) (.need (.f2 45 (.int 0) (.us .int 112 (.at .bytes 1) (.at .int 2) (.int 0) (.int 0))) (.need (.f2 45 (.int
    60) (.us .int 111 (.at .bytes 1) (.at .int 2) (.int 0) (.int 0))) (.need (.f2 153 (.f1 152 (.int 0)) (.us .ints 113 (.at .bytes 1) (.at .int 2)
    (.int 0) (.int 0))) (.need (.f2 45 (.int 0) (.f1 30 (.us .ints 113 (.at .bytes 1) (.at .int 2) (.int 0) (.int 0)))) .tt))))) (.imp (.f2 46 (.at
    .int 10) (.us .int 110 (.at .bytes 1) (.f2 40 (.f2 42 (.int 4) (.at .int 7)) (.int 8)) (.int 4) (.int 0))) (.all 12 .int (.imp (.f2 47 (.int 0)
    (.at .int 12)) (.need (.f2 47 (.f2 42 (.f2 40 (.at .int 7) (.int 1)) (.int 8)) (.int 140737488355328)) (.all 13 .int (.all 14 .int (.imp (.f2 47
    (.f2 40 (.at .int 7) (.int 1)) (.at .int 14)) (.imp (.f2 50 (.f2 47 (.int 0) (.at .int 13)) (.f2 45 (.f2 40 (.at .int 7) (.int 1)) (.int 0)))
    (.need (.f1 23 (.f2 40 (.at .int 7) (.int 1))) (.need (.f2 47 (.int 0) (.f2 41 (.f1 13 (.us .int 110 (.at .bytes 1) (.int 2) (.int 2) (.int 0)))
    (.f2 40 (.at .int 7) (.int 1)))) (.need (.f2 46 (.f2 41 (.f1 13 (.us .int 110 (.at .bytes 1) (.int 2) (.int 2) (.int 0))) (.f2 40 (.at .int 7)
    (.int 1))) (.f2 41 (.f1 13 (.us .int 110 (.at .bytes 1) (.int 2) (.int 2) (.int 0))) (.at .int 7))) (.need (.f2 47 (.int 0) (.f2 40 (.at .int 7)
    (.int 1))) (.need (.f2 47 (.f2 40 (.at .int 7) (.int 1)) (.f1 13 (.us .int 110 (.at .bytes 1) (.int 2) (.int 2) (.int 0)))) (.need (.f2 153 (.f2
    113 (.f2 119 (.f2 113 (.at .ints 11) (.at .int 7)) (.f2 122 (.us .int 110 (.at .bytes 1) (.f2 40 (.f2 42 (.int 4) (.at .int 7)) (.int 8)) (.int 4)
    (.int 0)) (.f1 152 (.int 0)))) (.f2 40 (.at .int 7) (.int 1))) (.us .ints 114 (.at .bytes 1) (.f2 40 (.at .int 7) (.int 1)) (.int 0) (.int 0)))
    (.need (.f2 47 (.f2 40 (.at .int 7) (.int 1)) (.f2 40 (.f1 30 (.f2 113 (.at .ints 11) (.at .int 7))) (.int 1))) (.need (.us .bool 103 (.us .ints
    114 (.at .bytes 1) (.f2 40 (.at .int 7) (.int 1)) (.int 0) (.int 0)) (.f2 40 (.at .int 7) (.int 1)) (.int 0) (.int 0)) (.need (.f2 45 (.us .int 110
    (.at .bytes 1) (.f2 40 (.f2 42 (.int 4) (.at .int 7)) (.int 8)) (.int 4) (.int 0)) (.us .int 106 (.us .ints 114 (.at .bytes 1) (.f2 40 (.at .int 7)
    (.int 1)) (.int 0) (.int 0)) (.f2 40 (.at .int 7) (.int 1)) (.int 0) (.int 0))) .tt))))))))))))))))))) (.imp (.f2 47 (.int 65536) (.us .int 110
    (.at .bytes 1) (.f2 40 (.f2 42 (.int 4) (.at .int 7)) (.int 8)) (.int 4) (.int 0))) (.need (.f2 45 (.int 0) (.us .int 112 (.at .bytes 1) (.at .int
    2) (.int 0) (.int 0))) (.need (.f2 45 (.int 60) (.us .int 111 (.at .bytes 1) (.at .int 2) (.int 0) (.int 0))) (.need (.f2 153 (.f1 152 (.int 0))
    (.us .ints 113 (.at .bytes 1) (.at .int 2) (.int 0) (.int 0))) (.need (.f2 45 (.int 0) (.f1 30 (.us .ints 113 (.at .bytes 1) (.at .int 2) (.int 0)
    (.int 0)))) .tt))))))) (.imp (.f2 46 (.us .int 110 (.at .bytes 1) (.f2 40 (.f2 42 (.int 4) (.at .int 7)) (.int 8)) (.int 4) (.int 0)) (.int 2))
    (.need (.f2 45 (.int 0) (.us .int 112 (.at .bytes 1) (.at .int 2) (.int 0) (.int 0))) (.need (.f2 45 (.int 60) (.us .int 111 (.at .bytes 1) (.at
    .int 2) (.int 0) (.int 0))) (.need (.f2 153 (.f1 152 (.int 0)) (.us .ints 113 (.at .bytes 1) (.at .int 2) (.int 0) (.int 0))) (.need (.f2 45 (.int
    0) (.f1 30 (.us .ints 113 (.at .bytes 1) (.at .int 2) (.int 0) (.int 0)))) .tt)))))))))))) (.imp (.f2 47 (.us .int 110 (.at .bytes 1) (.int 2)
    (.int 2) (.int 0)) (.at .int 7)) (.need (.f1 23 (.f2 42 (.int 4) (.us .int 110 (.at .bytes 1) (.int 2) (.int 2) (.int 0)))) (.need (.f1 23 (.f2 40
    (.f2 42 (.int 4) (.us .int 110 (.at .bytes 1) (.int 2) (.int 2) (.int 0))) (.int 8))) (.need (.f2 47 (.int 0) (.f2 40 (.f2 42 (.int 4) (.us .int
    110 (.at .bytes 1) (.int 2) (.int 2) (.int 0))) (.int 8))) (.need (.f2 47 (.f2 40 (.f2 42 (.int 4) (.us .int 110 (.at .bytes 1) (.int 2) (.int 2)
    (.int 0))) (.int 8)) (.f2 40 (.at .int 2) (.int (-(3 + 1))))) (.need (.f2 47 (.int 0) (.f2 41 (.f2 40 (.at .int 2) (.int (-(3 + 1)))) (.f2 40 (.f2
    42 (.int 4) (.us .int 110 (.at .bytes 1) (.int 2) (.int 2) (.int 0))) (.int 8)))) (.need (.f2 47 (.int 0) (.f2 41 (.f2 40 (.at .int 2) (.int (-(3 +
    1)))) (.f2 40 (.f2 42 (.int 4) (.f1 13 (.us .int 110 (.at .bytes 1) (.int 2) (.int 2) (.int 0)))) (.int 8)))) (.need (.us .bool 115 (.at .bytes 1)
    (.f2 40 (.f2 42 (.int 4) (.f1 13 (.us .int 110 (.at .bytes 1) (.int 2) (.int 2) (.int 0)))) (.int 8)) (.int 0) (.int 0)) (.all 12 .int (.imp (.f2
    47 (.int 0) (.at .int 12)) (.imp (.f2 47 (.at .int 12) (.f2 41 (.f2 40 (.at .int 2) (.int (-(3 + 1)))) (.f2 40 (.f2 42 (.int 4) (.f1 13 (.us .int
    110 (.at .bytes 1) (.int 2) (.int 2) (.int 0)))) (.int 8)))) (.imp (.us .bool 115 (.at .bytes 1) (.f2 40 (.f2 42 (.int 4) (.f1 13 (.us .int 110
    (.at .bytes 1) (.int 2) (.int 2) (.int 0)))) (.int 8)) (.at .int 12) (.int 0)) (.and (.imp (.f2 46 (.at .int 12) (.f2 41 (.f2 40 (.at .int 2) (.int
    (-(3 + 1)))) (.f2 40 (.f2 42 (.int 4) (.us .int 110 (.at .bytes 1) (.int 2) (.int 2) (.int 0))) (.int 8)))) (.need (.f2 46 (.f2 40 (.f2 40 (.f2 42
    (.int 4) (.us .int 110 (.at .bytes 1) (.int 2) (.int 2) (.int 0))) (.at .int 12)) (.int 8)) (.f1 31 (.at .bytes 1))) (.need (.f2 46 (.int 0) (.f2
    41 (.at .int 3) (.f2 40 (.f2 42 (.int 4) (.us .int 110 (.at .bytes 1) (.int 2) (.int 2) (.int 0))) (.int 8)))) (.need (.f2 47 (.int 0) (.f2 40 (.f2
    40 (.f2 42 (.int 4) (.us .int 110 (.at .bytes 1) (.int 2) (.int 2) (.int 0))) (.at .int 12)) (.int 8))) (.and (.imp (.f1 2 (.f2 45 (.f2 111 (.at
    .bytes 1) (.f2 40 (.f2 40 (.f2 42 (.int 4) (.us .int 110 (.at .bytes 1) (.int 2) (.int 2) (.int 0))) (.at .int 12)) (.int 8))) (.int 0))) (.need
    (.f2 45 (.int 0) (.us .int 112 (.at .bytes 1) (.at .int 2) (.int 0) (.int 0))) (.need (.f2 45 (.int 60) (.us .int 111 (.at .bytes 1) (.at .int 2)
    (.int 0) (.int 0))) (.need (.f2 153 (.f1 152 (.int 0)) (.us .ints 113 (.at .bytes 1) (.at .int 2) (.int 0) (.int 0))) (.need (.f2 45 (.int 0) (.f1
    30 (.us .ints 113 (.at .bytes 1) (.at .int 2) (.int 0) (.int 0)))) .tt))))) (.imp (.f2 45 (.f2 111 (.at .bytes 1) (.f2 40 (.f2 40 (.f2 42 (.int 4)
    (.us .int 110 (.at .bytes 1) (.int 2) (.int 2) (.int 0))) (.at .int 12)) (.int 8))) (.int 0)) (.need (.f1 23 (.f2 40 (.at .int 12) (.int 1)))
    (.need (.f2 47 (.int 0) (.f2 41 (.f2 41 (.f2 40 (.at .int 2) (.int (-(3 + 1)))) (.f2 40 (.f2 42 (.int 4) (.f1 13 (.us .int 110 (.at .bytes 1) (.int
    2) (.int 2) (.int 0)))) (.int 8))) (.f2 40 (.at .int 12) (.int 1)))) (.need (.f2 46 (.f2 41 (.f2 41 (.f2 40 (.at .int 2) (.int (-(3 + 1)))) (.f2 40
    (.f2 42 (.int 4) (.f1 13 (.us .int 110 (.at .bytes 1) (.int 2) (.int 2) (.int 0)))) (.int 8))) (.f2 40 (.at .int 12) (.int 1))) (.f2 41 (.f2 41
    (.f2 40 (.at .int 2) (.int (-(3 + 1)))) (.f2 40 (.f2 42 (.int 4) (.f1 13 (.us .int 110 (.at .bytes 1) (.int 2) (.int 2) (.int 0)))) (.int 8))) (.at
    .int 12))) (.need (.f2 47 (.int 0) (.f2 40 (.at .int 12) (.int 1))) (.need (.f2 47 (.f2 40 (.at .int 12) (.int 1)) (.f2 41 (.f2 40 (.at .int 2)
    (.int (-(3 + 1)))) (.f2 40 (.f2 42 (.int 4) (.f1 13 (.us .int 110 (.at .bytes 1) (.int 2) (.int 2) (.int 0)))) (.int 8)))) (.need (.us .bool 115
    (.at .bytes 1) (.f2 40 (.f2 42 (.int 4) (.f1 13 (.us .int 110 (.at .bytes 1) (.int 2) (.int 2) (.int 0)))) (.int 8)) (.f2 40 (.at .int 12) (.int
    1)) (.int 0)) .tt)))))))))))) (.imp (.f2 47 (.f2 41 (.f2 40 (.at .int 2) (.int (-(3 + 1)))) (.f2 40 (.f2 42 (.int 4) (.us .int 110 (.at .bytes 1)
    (.int 2) (.int 2) (.int 0))) (.int 8))) (.at .int 12)) (.need (.f2 45 (.us .int 110 (.at .bytes 1) (.int 4) (.int 4) (.int 0)) (.us .int 112 (.at
    .bytes 1) (.at .int 2) (.int 0) (.int 0))) (.need (.f2 45 (.int 0) (.us .int 111 (.at .bytes 1) (.at .int 2) (.int 0) (.int 0))) (.need (.f2 153
    (.f2 113 (.at .ints 11) (.at .int 7)) (.us .ints 113 (.at .bytes 1) (.at .int 2) (.int 0) (.int 0))) (.need (.f2 45 (.at .int 7) (.f1 30 (.us .ints
    113 (.at .bytes 1) (.at .int 2) (.int 0) (.int 0)))) .tt)))))))))))))))))))))))))))))))))))))) (.imp (.f2 46 (.us .int 110 (.at .bytes 1) (.int 4)
    (.int 4) (.int 0)) (.int 2)) (.need (.f2 45 (.int 0) (.us .int 112 (.at .bytes 1) (.at .int 2) (.int 0) (.int 0))) (.need (.f2 45 (.int 60) (.us
    .int 111 (.at .bytes 1) (.at .int 2) (.int 0) (.int 0))) (.need (.f2 153 (.f1 152 (.int 0)) (.us .ints 113 (.at .bytes 1) (.at .int 2) (.int 0)
    (.int 0))) (.need (.f2 45 (.int 0) (.f1 30 (.us .ints 113 (.at .bytes 1) (.at .int 2) (.int 0) (.int 0)))) .tt))))))) (.imp (.f2 45 (.us .int 110
    (.at .bytes 1) (.int 4) (.int 4) (.int 0)) (.int 0)) (.need (.f2 47 (.int 0) (.f1 13 (.us .int 110 (.at .bytes 1) (.int 2) (.int 2) (.int 0))))
    (.need (.f2 153 (.f1 152 (.int 0)) (.us .ints 114 (.at .bytes 1) (.int 0) (.int 0) (.int 0))) (.need (.us .bool 103 (.us .ints 114 (.at .bytes 1)
    (.int 0) (.int 0) (.int 0)) (.int 0) (.int 0) (.int 0)) (.need (.f2 45 (.int 0) (.us .int 106 (.us .ints 114 (.at .bytes 1) (.int 0) (.int 0) (.int
    0)) (.int 0) (.int 0) (.int 0))) (.all 7 .int (.all 8 .int (.all 9 .int (.all 10 .int (.all 11 .ints (.imp (.f2 47 (.int 0) (.at .int 7)) (.imp
    (.f2 47 (.at .int 7) (.f1 13 (.us .int 110 (.at .bytes 1) (.int 2) (.int 2) (.int 0)))) (.imp (.f2 153 (.f2 113 (.at .ints 11) (.at .int 7)) (.us
    .ints 114 (.at .bytes 1) (.at .int 7) (.int 0) (.int 0))) (.imp (.f2 47 (.at .int 7) (.f1 30 (.at .ints 11))) (.imp (.f2 47 (.at .int 7) (.at .int
    9)) (.imp (.us .bool 103 (.us .ints 114 (.at .bytes 1) (.at .int 7) (.int 0) (.int 0)) (.at .int 7) (.int 0) (.int 0)) (.imp (.f2 45 (.at .int 10)
    (.us .int 106 (.us .ints 114 (.at .bytes 1) (.at .int 7) (.int 0) (.int 0)) (.at .int 7) (.int 0) (.int 0))) (.and (.imp (.f2 46 (.at .int 7) (.us
    .int 110 (.at .bytes 1) (.int 2) (.int 2) (.int 0))) (.need (.f1 23 (.f2 42 (.int 4) (.at .int 7))) (.need (.f1 23 (.f2 40 (.f2 42 (.int 4) (.at
    .int 7)) (.int 8))) (.need (.f2 47 (.int 0) (.f2 40 (.f2 42 (.int 4) (.at .int 7)) (.int 8))) (.need (.f2 47 (.f2 40 (.f2 42 (.int 4) (.at .int 7))
    (.int 12)) (.at .int 2)) (.need (.f1 23 (.us .int 110 (.at .bytes 1) (.f2 40 (.f2 42 (.int 4) (.at .int 7)) (.int 8)) (.int 4) (.int 0))) (.and
    (.imp (.f2 47 (.int 2) (.us .int 110 (.at .bytes 1) (.f2 40 (.f2 42 (.int 4) (.at .int 7)) (.int 8)) (.int 4) (.int 0))) (.and (.imp (.f2 46 (.us
    .int 110 (.at .bytes 1) (.f2 40 (.f2 42 (.int 4) (.at .int 7)) (.int 8)) (.int 4) (.int 0)) (.int 65536)) (.and (.imp (.f2 47 (.us .int 110 (.at
    .bytes 1) (.f2 40 (.f2 42 (.int 4) (.at .int 7)) (.int 8)) (.int 4) (.int 0)) (.at .int 10)) (.need (.f2 45 (.int 0) (.us .int 112 (.at .bytes 1)
    (.at .int 2) (.int 0) (.int 0))) (.need (.f2 45 (.int 60) (.us .int 111 (.at .bytes 1) (.at .int 2) (.int 0) (.int 0))) (.need (.f2 153 (.f1 152
    (.int 0)) (.us .ints 113 (.at .bytes 1) (.at .int 2) (.int 0) (.int 0))) (.need (.f2 45 (.int 0) (.f1 30 (.us .ints 113 (.at .bytes 1) (.at .int 2)
    (.int 0) (.int 0)))) .tt))))) (.imp (.f2 46 (.at .int 10) (.us .int 110 (.at .bytes 1) (.f2 40 (.f2 42 (.int 4) (.at .int 7)) (.int 8)) (.int 4)
    (.int 0))) (.all 12 .int (.imp (.f2 47 (.int 0) (.at .int 12)) (.need (.f2 47 (.f2 42 (.f2 40 (.at .int 7) (.int 1)) (.int 8)) (.int
    140737488355328)) (.all 13 .int (.all 14 .int (.imp (.f2 47 (.f2 40 (.at .int 7) (.int 1)) (.at .int 14)) (.imp (.f2 50 (.f2 47 (.int 0) (.at .int
    13)) (.f2 45 (.f2 40 (.at .int 7) (.int 1)) (.int 0))) (.need (.f1 23 (.f2 40 (.at .int 7) (.int 1))) (.need (.f2 47 (.int 0) (.f2 41 (.f1 13 (.us
    .int 110 (.at .bytes 1) (.int 2) (.int 2) (.int 0))) (.f2 40 (.at .int 7) (.int 1)))) (.need (.f2 46 (.f2 41 (.f1 13 (.us .int 110 (.at .bytes 1)
    (.int 2) (.int 2) (.int 0))) (.f2 40 (.at .int 7) (.int 1))) (.f2 41 (.f1 13 (.us .int 110 (.at .bytes 1) (.int 2) (.int 2) (.int 0))) (.at .int
    7))) (.need (.f2 47 (.int 0) (.f2 40 (.at .int 7) (.int 1))) (.need (.f2 47 (.f2 40 (.at .int 7) (.int 1)) (.f1 13 (.us .int 110 (.at .bytes 1)
    (.int 2) (.int 2) (.int 0)))) (.need (.f2 153 (.f2 113 (.f2 119 (.f2 113 (.at .ints 11) (.at .int 7)) (.f2 122 (.us .int 110 (.at .bytes 1) (.f2 40
    (.f2 42 (.int 4) (.at .int 7)) (.int 8)) (.int 4) (.int 0)) (.f1 152 (.int 0)))) (.f2 40 (.at .int 7) (.int 1))) (.us .ints 114 (.at .bytes 1) (.f2
    40 (.at .int 7) (.int 1)) (.int 0) (.int 0))) (.need (.f2 47 (.f2 40 (.at .int 7) (.int 1)) (.f2 40 (.f1 30 (.f2 113 (.at .ints 11) (.at .int 7)))
    (.int 1))) (.need (.us .bool 103 (.us .ints 114 (.at .bytes 1) (.f2 40 (.at .int 7) (.int 1)) (.int 0) (.int 0)) (.f2 40 (.at .int 7) (.int 1))
    (.int 0) (.int 0)) (.need (.f2 45 (.us .int 110 (.at .bytes 1) (.f2 40 (.f2 42 (.int 4) (.at .int 7)) (.int 8)) (.int 4) (.int 0)) (.us .int 106
    (.us .ints 114 (.at .bytes 1) (.f2 40 (.at .int 7) (.int 1)) (.int 0) (.int 0)) (.f2 40 (.at .int 7) (.int 1)) (.int 0) (.int 0)))
    .tt))))))))))))))))))) (.imp (.f2 47 (.int 65536) (.us .int 110 (.at .bytes 1) (.f2 40 (.f2 42 (.int 4) (.at .int 7)) (.int 8)) (.int 4) (.int 0)))
    (.need (.f2 45 (.int 0) (.us .int 112 (.at .bytes 1) (.at .int 2) (.int 0) (.int 0))) (.need (.f2 45 (.int 60) (.us .int 111 (.at .bytes 1) (.at
    .int 2) (.int 0) (.int 0))) (.need (.f2 153 (.f1 152 (.int 0)) (.us .ints 113 (.at .bytes 1) (.at .int 2) (.int 0) (.int 0))) (.need (.f2 45 (.int
    0) (.f1 30 (.us .ints 113 (.at .bytes 1) (.at .int 2) (.int 0) (.int 0)))) .tt))))))) (.imp (.f2 46 (.us .int 110 (.at .bytes 1) (.f2 40 (.f2 42
    (.int 4) (.at .int 7)) (.int 8)) (.int 4) (.int 0)) (.int 2)) (.need (.f2 45 (.int 0) (.us .int 112 (.at .bytes 1) (.at .int 2) (.int 0) (.int 0)))
    (.need (.f2 45 (.int 60) (.us .int 111 (.at .bytes 1) (.at .int 2) (.int 0) (.int 0))) (.need (.f2 153 (.f1 152 (.int 0)) (.us .ints 113 (.at
    .bytes 1) (.at .int 2) (.int 0) (.int 0))) (.need (.f2 45 (.int 0) (.f1 30 (.us .ints 113 (.at .bytes 1) (.at .int 2) (.int 0) (.int 0))))
    .tt)))))))))))) (.imp (.f2 47 (.us .int 110 (.at .bytes 1) (.int 2) (.int 2) (.int 0)) (.at .int 7)) (.need (.f1 23 (.f2 42 (.int 4) (.us .int 110
    (.at .bytes 1) (.int 2) (.int 2) (.int 0)))) (.need (.f1 23 (.f2 40 (.f2 42 (.int 4) (.us .int 110 (.at .bytes 1) (.int 2) (.int 2) (.int 0)))
    (.int 8))) (.need (.f2 47 (.int 0) (.f2 40 (.f2 42 (.int 4) (.us .int 110 (.at .bytes 1) (.int 2) (.int 2) (.int 0))) (.int 8))) (.need (.f2 47
    (.f2 40 (.f2 42 (.int 4) (.us .int 110 (.at .bytes 1) (.int 2) (.int 2) (.int 0))) (.int 8)) (.f2 40 (.at .int 2) (.int (-(3 + 1))))) (.need (.f2
    47 (.int 0) (.f2 41 (.f2 40 (.at .int 2) (.int (-(3 + 1)))) (.f2 40 (.f2 42 (.int 4) (.us .int 110 (.at .bytes 1) (.int 2) (.int 2) (.int 0)))
    (.int 8)))) (.need (.f2 47 (.int 0) (.f2 41 (.f2 40 (.at .int 2) (.int (-(3 + 1)))) (.f2 40 (.f2 42 (.int 4) (.f1 13 (.us .int 110 (.at .bytes 1)
    (.int 2) (.int 2) (.int 0)))) (.int 8)))) (.need (.us .bool 115 (.at .bytes 1) (.f2 40 (.f2 42 (.int 4) (.f1 13 (.us .int 110 (.at .bytes 1) (.int
    2) (.int 2) (.int 0)))) (.int 8)) (.int 0) (.int 0)) (.all 12 .int (.imp (.f2 47 (.int 0) (.at .int 12)) (.imp (.f2 47 (.at .int 12) (.f2 41 (.f2
    40 (.at .int 2) (.int (-(3 + 1)))) (.f2 40 (.f2 42 (.int 4) (.f1 13 (.us .int 110 (.at .bytes 1) (.int 2) (.int 2) (.int 0)))) (.int 8)))) (.imp
    (.us .bool 115 (.at .bytes 1) (.f2 40 (.f2 42 (.int 4) (.f1 13 (.us .int 110 (.at .bytes 1) (.int 2) (.int 2) (.int 0)))) (.int 8)) (.at .int 12)
    (.int 0)) (.and (.imp (.f2 46 (.at .int 12) (.f2 41 (.f2 40 (.at .int 2) (.int (-(3 + 1)))) (.f2 40 (.f2 42 (.int 4) (.us .int 110 (.at .bytes 1)
    (.int 2) (.int 2) (.int 0))) (.int 8)))) (.need (.f2 46 (.f2 40 (.f2 40 (.f2 42 (.int 4) (.us .int 110 (.at .bytes 1) (.int 2) (.int 2) (.int 0)))
    (.at .int 12)) (.int 8)) (.f1 31 (.at .bytes 1))) (.need (.f2 46 (.int 0) (.f2 41 (.at .int 3) (.f2 40 (.f2 42 (.int 4) (.us .int 110 (.at .bytes
    1) (.int 2) (.int 2) (.int 0))) (.int 8)))) (.need (.f2 47 (.int 0) (.f2 40 (.f2 40 (.f2 42 (.int 4) (.us .int 110 (.at .bytes 1) (.int 2) (.int 2)
    (.int 0))) (.at .int 12)) (.int 8))) (.and (.imp (.f1 2 (.f2 45 (.f2 111 (.at .bytes 1) (.f2 40 (.f2 40 (.f2 42 (.int 4) (.us .int 110 (.at .bytes
    1) (.int 2) (.int 2) (.int 0))) (.at .int 12)) (.int 8))) (.int 0))) (.need (.f2 45 (.int 0) (.us .int 112 (.at .bytes 1) (.at .int 2) (.int 0)
    (.int 0))) (.need (.f2 45 (.int 60) (.us .int 111 (.at .bytes 1) (.at .int 2) (.int 0) (.int 0))) (.need (.f2 153 (.f1 152 (.int 0)) (.us .ints 113
    (.at .bytes 1) (.at .int 2) (.int 0) (.int 0))) (.need (.f2 45 (.int 0) (.f1 30 (.us .ints 113 (.at .bytes 1) (.at .int 2) (.int 0) (.int 0))))
    .tt))))) (.imp (.f2 45 (.f2 111 (.at .bytes 1) (.f2 40 (.f2 40 (.f2 42 (.int 4) (.us .int 110 (.at .bytes 1) (.int 2) (.int 2) (.int 0))) (.at .int
    12)) (.int 8))) (.int 0)) (.need (.f1 23 (.f2 40 (.at .int 12) (.int 1))) (.need (.f2 47 (.int 0) (.f2 41 (.f2 41 (.f2 40 (.at .int 2) (.int (-(3 +
    1)))) (.f2 40 (.f2 42 (.int 4) (.f1 13 (.us .int 110 (.at .bytes 1) (.int 2) (.int 2) (.int 0)))) (.int 8))) (.f2 40 (.at .int 12) (.int 1))))
    (.need (.f2 46 (.f2 41 (.f2 41 (.f2 40 (.at .int 2) (.int (-(3 + 1)))) (.f2 40 (.f2 42 (.int 4) (.f1 13 (.us .int 110 (.at .bytes 1) (.int 2) (.int
    2) (.int 0)))) (.int 8))) (.f2 40 (.at .int 12) (.int 1))) (.f2 41 (.f2 41 (.f2 40 (.at .int 2) (.int (-(3 + 1)))) (.f2 40 (.f2 42 (.int 4) (.f1 13
    (.us .int 110 (.at .bytes 1) (.int 2) (.int 2) (.int 0)))) (.int 8))) (.at .int 12))) (.need (.f2 47 (.int 0) (.f2 40 (.at .int 12) (.int 1)))
    (.need (.f2 47 (.f2 40 (.at .int 12) (.int 1)) (.f2 41 (.f2 40 (.at .int 2) (.int (-(3 + 1)))) (.f2 40 (.f2 42 (.int 4) (.f1 13 (.us .int 110 (.at
    .bytes 1) (.int 2) (.int 2) (.int 0)))) (.int 8)))) (.need (.us .bool 115 (.at .bytes 1) (.f2 40 (.f2 42 (.int 4) (.f1 13 (.us .int 110 (.at .bytes
    1) (.int 2) (.int 2) (.int 0)))) (.int 8)) (.f2 40 (.at .int 12) (.int 1)) (.int 0)) .tt)))))))))))) (.imp (.f2 47 (.f2 41 (.f2 40 (.at .int 2)
    (.int (-(3 + 1)))) (.f2 40 (.f2 42 (.int 4) (.us .int 110 (.at .bytes 1) (.int 2) (.int 2) (.int 0))) (.int 8))) (.at .int 12)) (.need (.f2 45 (.us
    .int 110 (.at .bytes 1) (.int 4) (.int 4) (.int 0)) (.us .int 112 (.at .bytes 1) (.at .int 2) (.int 0) (.int 0))) (.need (.f2 45 (.int 0) (.us .int
    111 (.at .bytes 1) (.at .int 2) (.int 0) (.int 0))) (.need (.f2 153 (.f2 113 (.at .ints 11) (.at .int 7)) (.us .ints 113 (.at .bytes 1) (.at .int
    2) (.int 0) (.int 0))) (.need (.f2 45 (.at .int 7) (.f1 30 (.us .ints 113 (.at .bytes 1) (.at .int 2) (.int 0) (.int 0))))
    .tt)))))))))))))))))))))))))))))))))))))) (.imp (.f2 46 (.us .int 98 (.at .int 2) (.int 0) (.int 0) (.int 0)) (.us .int 110 (.at .bytes 1) (.int 2)
    (.int 2) (.int 0))) (.need (.f2 45 (.int 0) (.us .int 112 (.at .bytes 1) (.at .int 2) (.int 0) (.int 0))) (.need (.f2 45 (.int 60) (.us .int 111
    (.at .bytes 1) (.at .int 2) (.int 0) (.int 0))) (.need (.f2 153 (.f1 152 (.int 0)) (.us .ints 113 (.at .bytes 1) (.at .int 2) (.int 0) (.int 0)))
    (.need (.f2 45 (.int 0) (.f1 30 (.us .ints 113 (.at .bytes 1) (.at .int 2) (.int 0) (.int 0)))) .tt))))))) (.imp (.f1 2 (.f2 45 (.us .int 110 (.at
    .bytes 1) (.f2 40 (.at .int 2) (.int (-(3 + 1)))) (.int 4) (.int 0)) (.f2 82 (.int 4294967295) (.f1 160 (.f2 114 (.at .bytes 1) (.f2 40 (.at .int
    2) (.int (-(3 + 1))))))))) (.need (.f2 45 (.int 0) (.us .int 112 (.at .bytes 1) (.at .int 2) (.int 0) (.int 0))) (.need (.f2 45 (.int 60) (.us .int
    111 (.at .bytes 1) (.at .int 2) (.int 0) (.int 0))) (.need (.f2 153 (.f1 152 (.int 0)) (.us .ints 113 (.at .bytes 1) (.at .int 2) (.int 0) (.int
    0))) (.need (.f2 45 (.int 0) (.f1 30 (.us .ints 113 (.at .bytes 1) (.at .int 2) (.int 0) (.int 0)))) .tt))))))))))))) (.all 6 .int (.imp (.f2 47
    (.int 0) (.at .int 6)) (.need (.f2 47 (.at .int 2) (.at .int 2)) (.need (.f1 23 (.us .int 110 (.at .bytes 1) (.f2 40 (.at .int 2) (.int (-(3 +
    1)))) (.int 4) (.int 0))) (.need (.f2 47 (.f2 40 (.at .int 2) (.int (-(3 + 1)))) (.f1 31 (.at .bytes 1))) (.need (.f2 47 (.f2 40 (.at .int 2) (.int
    (-(3 + 1)))) (.int 140737488355328)) (.need (.f1 23 (.f2 82 (.int 4294967295) (.f1 160 (.f2 114 (.at .bytes 1) (.f2 40 (.at .int 2) (.int (-(3 +
    1)))))))) (.and (.imp (.f2 45 (.us .int 110 (.at .bytes 1) (.f2 40 (.at .int 2) (.int (-(3 + 1)))) (.int 4) (.int 0)) (.f2 82 (.int 4294967295)
    (.f1 160 (.f2 114 (.at .bytes 1) (.f2 40 (.at .int 2) (.int (-(3 + 1)))))))) (.and (.imp (.f2 47 (.us .int 110 (.at .bytes 1) (.int 2) (.int 2)
    (.int 0)) (.us .int 98 (.at .int 2) (.int 0) (.int 0) (.int 0))) (.and (.imp (.f1 2 (.f2 45 (.us .int 110 (.at .bytes 1) (.int 4) (.int 4) (.int
    0)) (.int 0))) (.and (.imp (.f2 47 (.int 2) (.us .int 110 (.at .bytes 1) (.int 4) (.int 4) (.int 0))) (.and (.imp (.f2 47 (.int 65536) (.us .int
    110 (.at .bytes 1) (.int 4) (.int 4) (.int 0))) (.need (.f2 45 (.int 0) (.us .int 112 (.at .bytes 1) (.at .int 2) (.int 0) (.int 0))) (.need (.f2
    45 (.int 60) (.us .int 111 (.at .bytes 1) (.at .int 2) (.int 0) (.int 0))) (.need (.f2 153 (.f1 152 (.int 0)) (.us .ints 113 (.at .bytes 1) (.at
    .int 2) (.int 0) (.int 0))) (.need (.f2 45 (.int 0) (.f1 30 (.us .ints 113 (.at .bytes 1) (.at .int 2) (.int 0) (.int 0)))) .tt))))) (.imp (.f2 46
    (.us .int 110 (.at .bytes 1) (.int 4) (.int 4) (.int 0)) (.int 65536)) (.need (.f2 47 (.int 0) (.f1 13 (.us .int 110 (.at .bytes 1) (.int 2) (.int
    2) (.int 0)))) (.need (.f2 153 (.f1 152 (.int 0)) (.us .ints 114 (.at .bytes 1) (.int 0) (.int 0) (.int 0))) (.need (.us .bool 103 (.us .ints 114
    (.at .bytes 1) (.int 0) (.int 0) (.int 0)) (.int 0) (.int 0) (.int 0)) (.need (.f2 45 (.int 0) (.us .int 106 (.us .ints 114 (.at .bytes 1) (.int 0)
    (.int 0) (.int 0)) (.int 0) (.int 0) (.int 0))) (.all 7 .int (.all 8 .int (.all 9 .int (.all 10 .int (.all 11 .ints (.imp (.f2 47 (.int 0) (.at
    .int 7)) (.imp (.f2 47 (.at .int 7) (.f1 13 (.us .int 110 (.at .bytes 1) (.int 2) (.int 2) (.int 0)))) (.imp (.f2 153 (.f2 113 (.at .ints 11) (.at
    .int 7)) (.us .ints 114 (.at .bytes 1) (.at .int 7) (.int 0) (.int 0))) (.imp (.f2 47 (.at .int 7) (.f1 30 (.at .ints 11))) (.imp (.f2 47 (.at .int
    7) (.at .int 9)) (.imp (.us .bool 103 (.us .ints 114 (.at .bytes 1) (.at .int 7) (.int 0) (.int 0)) (.at .int 7) (.int 0) (.int 0)) (.imp (.f2 45
    (.at .int 10) (.us .int 106 (.us .ints 114 (.at .bytes 1) (.at .int 7) (.int 0) (.int 0)) (.at .int 7) (.int 0) (.int 0))) (.and (.imp (.f2 46 (.at
    .int 7) (.us .int 110 (.at .bytes 1) (.int 2) (.int 2) (.int 0))) (.need (.f1 23 (.f2 42 (.int 4) (.at .int 7))) (.need (.f1 23 (.f2 40 (.f2 42
    (.int 4) (.at .int 7)) (.int 8))) (.need (.f2 47 (.int 0) (.f2 40 (.f2 42 (.int 4) (.at .int 7)) (.int 8))) (.need (.f2 47 (.f2 40 (.f2 42 (.int 4)
    (.at .int 7)) (.int 12)) (.at .int 2)) (.need (.f1 23 (.us .int 110 (.at .bytes 1) (.f2 40 (.f2 42 (.int 4) (.at .int 7)) (.int 8)) (.int 4) (.int
    0))) (.and (.imp (.f2 47 (.int 2) (.us .int 110 (.at .bytes 1) (.f2 40 (.f2 42 (.int 4) (.at .int 7)) (.int 8)) (.int 4) (.int 0))) (.and (.imp
    (.f2 46 (.us .int 110 (.at .bytes 1) (.f2 40 (.f2 42 (.int 4) (.at .int 7)) (.int 8)) (.int 4) (.int 0)) (.int 65536)) (.and (.imp (.f2 47 (.us
    .int 110 (.at .bytes 1) (.f2 40 (.f2 42 (.int 4) (.at .int 7)) (.int 8)) (.int 4) (.int 0)) (.at .int 10)) (.need (.f2 45 (.int 0) (.us .int 112
    (.at .bytes 1) (.at .int 2) (.int 0) (.int 0))) (.need (.f2 45 (.int 60) (.us .int 111 (.at .bytes 1) (.at .int 2) (.int 0) (.int 0))) (.need (.f2
    153 (.f1 152 (.int 0)) (.us .ints 113 (.at .bytes 1) (.at .int 2) (.int 0) (.int 0))) (.need (.f2 45 (.int 0) (.f1 30 (.us .ints 113 (.at .bytes 1)
    (.at .int 2) (.int 0) (.int 0)))) .tt))))) (.imp (.f2 46 (.at .int 10) (.us .int 110 (.at .bytes 1) (.f2 40 (.f2 42 (.int 4) (.at .int 7)) (.int
    8)) (.int 4) (.int 0))) (.all 12 .int (.imp (.f2 47 (.int 0) (.at .int 12)) (.need (.f2 47 (.f2 42 (.f2 40 (.at .int 7) (.int 1)) (.int 8)) (.int
    140737488355328)) (.all 13 .int (.all 14 .int (.imp (.f2 47 (.f2 40 (.at .int 7) (.int 1)) (.at .int 14)) (.imp (.f2 50 (.f2 47 (.int 0) (.at .int
    13)) (.f2 45 (.f2 40 (.at .int 7) (.int 1)) (.int 0))) (.need (.f1 23 (.f2 40 (.at .int 7) (.int 1))) (.need (.f2 47 (.int 0) (.f2 41 (.f1 13 (.us
    .int 110 (.at .bytes 1) (.int 2) (.int 2) (.int 0))) (.f2 40 (.at .int 7) (.int 1)))) (.need (.f2 46 (.f2 41 (.f1 13 (.us .int 110 (.at .bytes 1)
    (.int 2) (.int 2) (.int 0))) (.f2 40 (.at .int 7) (.int 1))) (.f2 41 (.f1 13 (.us .int 110 (.at .bytes 1) (.int 2) (.int 2) (.int 0))) (.at .int
    7))) (.need (.f2 47 (.int 0) (.f2 40 (.at .int 7) (.int 1))) (.need (.f2 47 (.f2 40 (.at .int 7) (.int 1)) (.f1 13 (.us .int 110 (.at .bytes 1)
    (.int 2) (.int 2) (.int 0)))) (.need (.f2 153 (.f2 113 (.f2 119 (.f2 113 (.at .ints 11) (.at .int 7)) (.f2 122 (.us .int 110 (.at .bytes 1) (.f2 40
    (.f2 42 (.int 4) (.at .int 7)) (.int 8)) (.int 4) (.int 0)) (.f1 152 (.int 0)))) (.f2 40 (.at .int 7) (.int 1))) (.us .ints 114 (.at .bytes 1) (.f2
    40 (.at .int 7) (.int 1)) (.int 0) (.int 0))) (.need (.f2 47 (.f2 40 (.at .int 7) (.int 1)) (.f2 40 (.f1 30 (.f2 113 (.at .ints 11) (.at .int 7)))
    (.int 1))) (.need (.us .bool 103 (.us .ints 114 (.at .bytes 1) (.f2 40 (.at .int 7) (.int 1)) (.int 0) (.int 0)) (.f2 40 (.at .int 7) (.int 1))
    (.int 0) (.int 0)) (.need (.f2 45 (.us .int 110 (.at .bytes 1) (.f2 40 (.f2 42 (.int 4) (.at .int 7)) (.int 8)) (.int 4) (.int 0)) (.us .int 106
    (.us .ints 114 (.at .bytes 1) (.f2 40 (.at .int 7) (.int 1)) (.int 0) (.int 0)) (.f2 40 (.at .int 7) (.int 1)) (.int 0) (.int 0)))
    .tt))))))))))))))))))) (.imp (.f2 47 (.int 65536) (.us .int 110 (.at .bytes 1) (.f2 40 (.f2 42 (.int 4) (.at .int 7)) (.int 8)) (.int 4) (.int 0)))
    (.need (.f2 45 (.int 0) (.us .int 112 (.at .bytes 1) (.at .int 2) (.int 0) (.int 0))) (.need (.f2 45 (.int 60) (.us .int 111 (.at .bytes 1) (.at
    .int 2) (.int 0) (.int 0))) (.need (.f2 153 (.f1 152 (.int 0)) (.us .ints 113 (.at .bytes 1) (.at .int 2) (.int 0) (.int 0))) (.need (.f2 45 (.int
    0) (.f1 30 (.us .ints 113 (.at .bytes 1) (.at .int 2) (.int 0) (.int 0)))) .tt))))))) (.imp (.f2 46 (.us .int 110 (.at .bytes 1) (.f2 40 (.f2 42
    (.int 4) (.at .int 7)) (.int 8)) (.int 4) (.int 0)) (.int 2)) (.need (.f2 45 (.int 0) (.us .int 112 (.at .bytes 1) (.at .int 2) (.int 0) (.int 0)))
    (.need (.f2 45 (.int 60) (.us .int 111 (.at .bytes 1) (.at .int 2) (.int 0) (.int 0))) (.need (.f2 153 (.f1 152 (.int 0)) (.us .ints 113 (.at
    .bytes 1) (.at .int 2) (.int 0) (.int 0))) (.need (.f2 45 (.int 0) (.f1 30 (.us .ints 113 (.at .bytes 1) (.at .int 2) (.int 0) (.int 0))))
    .tt)))))))))))) (.imp (.f2 47 (.us .int 110 (.at .bytes 1) (.int 2) (.int 2) (.int 0)) (.at .int 7)) (.need (.f1 23 (.f2 42 (.int 4) (.us .int 110
    (.at .bytes 1) (.int 2) (.int 2) (.int 0)))) (.need (.f1 23 (.f2 40 (.f2 42 (.int 4) (.us .int 110 (.at .bytes 1) (.int 2) (.int 2) (.int 0)))
    (.int 8))) (.need (.f2 47 (.int 0) (.f2 40 (.f2 42 (.int 4) (.us .int 110 (.at .bytes 1) (.int 2) (.int 2) (.int 0))) (.int 8))) (.need (.f2 47
    (.f2 40 (.f2 42 (.int 4) (.us .int 110 (.at .bytes 1) (.int 2) (.int 2) (.int 0))) (.int 8)) (.f2 40 (.at .int 2) (.int (-(3 + 1))))) (.need (.f2
    47 (.int 0) (.f2 41 (.f2 40 (.at .int 2) (.int (-(3 + 1)))) (.f2 40 (.f2 42 (.int 4) (.us .int 110 (.at .bytes 1) (.int 2) (.int 2) (.int 0)))
    (.int 8)))) (.need (.f2 47 (.int 0) (.f2 41 (.f2 40 (.at .int 2) (.int (-(3 + 1)))) (.f2 40 (.f2 42 (.int 4) (.f1 13 (.us .int 110 (.at .bytes 1)
    (.int 2) (.int 2) (.int 0)))) (.int 8)))) (.need (.us .bool 115 (.at .bytes 1) (.f2 40 (.f2 42 (.int 4) (.f1 13 (.us .int 110 (.at .bytes 1) (.int
    2) (.int 2) (.int 0)))) (.int 8)) (.int 0) (.int 0)) (.all 12 .int (.imp (.f2 47 (.int 0) (.at .int 12)) (.imp (.f2 47 (.at .int 12) (.f2 41 (.f2
    40 (.at .int 2) (.int (-(3 + 1)))) (.f2 40 (.f2 42 (.int 4) (.f1 13 (.us .int 110 (.at .bytes 1) (.int 2) (.int 2) (.int 0)))) (.int 8)))) (.imp
    (.us .bool 115 (.at .bytes 1) (.f2 40 (.f2 42 (.int 4) (.f1 13 (.us .int 110 (.at .bytes 1) (.int 2) (.int 2) (.int 0)))) (.int 8)) (.at .int 12)
    (.int 0)) (.and (.imp (.f2 46 (.at .int 12) (.f2 41 (.f2 40 (.at .int 2) (.int (-(3 + 1)))) (.f2 40 (.f2 42 (.int 4) (.us .int 110 (.at .bytes 1)
    (.int 2) (.int 2) (.int 0))) (.int 8)))) (.need (.f2 46 (.f2 40 (.f2 40 (.f2 42 (.int 4) (.us .int 110 (.at .bytes 1) (.int 2) (.int 2) (.int 0)))
    (.at .int 12)) (.int 8)) (.f1 31 (.at .bytes 1))) (.need (.f2 46 (.int 0) (.f2 41 (.at .int 3) (.f2 40 (.f2 42 (.int 4) (.us .int 110 (.at .bytes
    1) (.int 2) (.int 2) (.int 0))) (.int 8)))) (.need (.f2 47 (.int 0) (.f2 40 (.f2 40 (.f2 42 (.int 4) (.us .int 110 (.at .bytes 1) (.int 2) (.int 2)
    (.int 0))) (.at .int 12)) (.int 8))) (.and (.imp (.f1 2 (.f2 45 (.f2 111 (.at .bytes 1) (.f2 40 (.f2 40 (.f2 42 (.int 4) (.us .int 110 (.at .bytes
    1) (.int 2) (.int 2) (.int 0))) (.at .int 12)) (.int 8))) (.int 0))) (.need (.f2 45 (.int 0) (.us .int 112 (.at .bytes 1) (.at .int 2) (.int 0)
    (.int 0))) (.need (.f2 45 (.int 60) (.us .int 111 (.at .bytes 1) (.at .int 2) (.int 0) (.int 0))) (.need (.f2 153 (.f1 152 (.int 0)) (.us .ints 113
    (.at .bytes 1) (.at .int 2) (.int 0) (.int 0))) (.need (.f2 45 (.int 0) (.f1 30 (.us .ints 113 (.at .bytes 1) (.at .int 2) (.int 0) (.int 0))))
    .tt))))) (.imp (.f2 45 (.f2 111 (.at .bytes 1) (.f2 40 (.f2 40 (.f2 42 (.int 4) (.us .int 110 (.at .bytes 1) (.int 2) (.int 2) (.int 0))) (.at .int
    12)) (.int 8))) (.int 0)) (.need (.f1 23 (.f2 40 (.at .int 12) (.int 1))) (.need (.f2 47 (.int 0) (.f2 41 (.f2 41 (.f2 40 (.at .int 2) (.int (-(3 +
    1)))) (.f2 40 (.f2 42 (.int 4) (.f1 13 (.us .int 110 (.at .bytes 1) (.int 2) (.int 2) (.int 0)))) (.int 8))) (.f2 40 (.at .int 12) (.int 1))))
    (.need (.f2 46 (.f2 41 (.f2 41 (.f2 40 (.at .int 2) (.int (-(3 + 1)))) (.f2 40 (.f2 42 (.int 4) (.f1 13 (.us .int 110 (.at .bytes 1) (.int 2) (.int
    2) (.int 0)))) (.int 8))) (.f2 40 (.at .int 12) (.int 1))) (.f2 41 (.f2 41 (.f2 40 (.at .int 2) (.int (-(3 + 1)))) (.f2 40 (.f2 42 (.int 4) (.f1 13
    (.us .int 110 (.at .bytes 1) (.int 2) (.int 2) (.int 0)))) (.int 8))) (.at .int 12))) (.need (.f2 47 (.int 0) (.f2 40 (.at .int 12) (.int 1)))
    (.need (.f2 47 (.f2 40 (.at .int 12) (.int 1)) (.f2 41 (.f2 40 (.at .int 2) (.int (-(3 + 1)))) (.f2 40 (.f2 42 (.int 4) (.f1 13 (.us .int 110 (.at
    .bytes 1) (.int 2) (.int 2) (.int 0)))) (.int 8)))) (.need (.us .bool 115 (.at .bytes 1) (.f2 40 (.f2 42 (.int 4) (.f1 13 (.us .int 110 (.at .bytes
    1) (.int 2) (.int 2) (.int 0)))) (.int 8)) (.f2 40 (.at .int 12) (.int 1)) (.int 0)) .tt)))))))))))) (.imp (.f2 47 (.f2 41 (.f2 40 (.at .int 2)
    (.int (-(3 + 1)))) (.f2 40 (.f2 42 (.int 4) (.us .int 110 (.at .bytes 1) (.int 2) (.int 2) (.int 0))) (.int 8))) (.at .int 12)) (.need (.f2 45 (.us
    .int 110 (.at .bytes 1) (.int 4) (.int 4) (.int 0)) (.us .int 112 (.at .bytes 1) (.at .int 2) (.int 0) (.int 0))) (.need (.f2 45 (.int 0) (.us .int
    111 (.at .bytes 1) (.at .int 2) (.int 0) (.int 0))) (.need (.f2 153 (.f2 113 (.at .ints 11) (.at .int 7)) (.us .ints 113 (.at .bytes 1) (.at .int
    2) (.int 0) (.int 0))) (.need (.f2 45 (.at .int 7) (.f1 30 (.us .ints 113 (.at .bytes 1) (.at .int 2) (.int 0) (.int 0))))
    .tt)))))))))))))))))))))))))))))))))))))) (.imp (.f2 46 (.us .int 110 (.at .bytes 1) (.int 4) (.int 4) (.int 0)) (.int 2)) (.need (.f2 45 (.int 0)
    (.us .int 112 (.at .bytes 1) (.at .int 2) (.int 0) (.int 0))) (.need (.f2 45 (.int 60) (.us .int 111 (.at .bytes 1) (.at .int 2) (.int 0) (.int
    0))) (.need (.f2 153 (.f1 152 (.int 0)) (.us .ints 113 (.at .bytes 1) (.at .int 2) (.int 0) (.int 0))) (.need (.f2 45 (.int 0) (.f1 30 (.us .ints
    113 (.at .bytes 1) (.at .int 2) (.int 0) (.int 0)))) .tt))))))) (.imp (.f2 45 (.us .int 110 (.at .bytes 1) (.int 4) (.int 4) (.int 0)) (.int 0))
    (.need (.f2 47 (.int 0) (.f1 13 (.us .int 110 (.at .bytes 1) (.int 2) (.int 2) (.int 0)))) (.need (.f2 153 (.f1 152 (.int 0)) (.us .ints 114 (.at
    .bytes 1) (.int 0) (.int 0) (.int 0))) (.need (.us .bool 103 (.us .ints 114 (.at .bytes 1) (.int 0) (.int 0) (.int 0)) (.int 0) (.int 0) (.int 0))
    (.need (.f2 45 (.int 0) (.us .int 106 (.us .ints 114 (.at .bytes 1) (.int 0) (.int 0) (.int 0)) (.int 0) (.int 0) (.int 0))) (.all 7 .int (.all 8
    .int (.all 9 .int (.all 10 .int (.all 11 .ints (.imp (.f2 47 (.int 0) (.at .int 7)) (.imp (.f2 47 (.at .int 7) (.f1 13 (.us .int 110 (.at .bytes 1)
    (.int 2) (.int 2) (.int 0)))) (.imp (.f2 153 (.f2 113 (.at .ints 11) (.at .int 7)) (.us .ints 114 (.at .bytes 1) (.at .int 7) (.int 0) (.int 0)))
    (.imp (.f2 47 (.at .int 7) (.f1 30 (.at .ints 11))) (.imp (.f2 47 (.at .int 7) (.at .int 9)) (.imp (.us .bool 103 (.us .ints 114 (.at .bytes 1)
    (.at .int 7) (.int 0) (.int 0)) (.at .int 7) (.int 0) (.int 0)) (.imp (.f2 45 (.at .int 10) (.us .int 106 (.us .ints 114 (.at .bytes 1) (.at .int
    7) (.int 0) (.int 0)) (.at .int 7) (.int 0) (.int 0))) (.and (.imp (.f2 46 (.at .int 7) (.us .int 110 (.at .bytes 1) (.int 2) (.int 2) (.int 0)))
    (.need (.f1 23 (.f2 42 (.int 4) (.at .int 7))) (.need (.f1 23 (.f2 40 (.f2 42 (.int 4) (.at .int 7)) (.int 8))) (.need (.f2 47 (.int 0) (.f2 40
    (.f2 42 (.int 4) (.at .int 7)) (.int 8))) (.need (.f2 47 (.f2 40 (.f2 42 (.int 4) (.at .int 7)) (.int 12)) (.at .int 2)) (.need (.f1 23 (.us .int
    110 (.at .bytes 1) (.f2 40 (.f2 42 (.int 4) (.at .int 7)) (.int 8)) (.int 4) (.int 0))) (.and (.imp (.f2 47 (.int 2) (.us .int 110 (.at .bytes 1)
    (.f2 40 (.f2 42 (.int 4) (.at .int 7)) (.int 8)) (.int 4) (.int 0))) (.and (.imp (.f2 46 (.us .int 110 (.at .bytes 1) (.f2 40 (.f2 42 (.int 4) (.at
    .int 7)) (.int 8)) (.int 4) (.int 0)) (.int 65536)) (.and (.imp (.f2 47 (.us .int 110 (.at .bytes 1) (.f2 40 (.f2 42 (.int 4) (.at .int 7)) (.int
    8)) (.int 4) (.int 0)) (.at .int 10)) (.need (.f2 45 (.int 0) (.us .int 112 (.at .bytes 1) (.at .int 2) (.int 0) (.int 0))) (.need (.f2 45 (.int
    60) (.us .int 111 (.at .bytes 1) (.at .int 2) (.int 0) (.int 0))) (.need (.f2 153 (.f1 152 (.int 0)) (.us .ints 113 (.at .bytes 1) (.at .int 2)
    (.int 0) (.int 0))) (.need (.f2 45 (.int 0) (.f1 30 (.us .ints 113 (.at .bytes 1) (.at .int 2) (.int 0) (.int 0)))) .tt))))) (.imp (.f2 46 (.at
    .int 10) (.us .int 110 (.at .bytes 1) (.f2 40 (.f2 42 (.int 4) (.at .int 7)) (.int 8)) (.int 4) (.int 0))) (.all 12 .int (.imp (.f2 47 (.int 0)
    (.at .int 12)) (.need (.f2 47 (.f2 42 (.f2 40 (.at .int 7) (.int 1)) (.int 8)) (.int 140737488355328)) (.all 13 .int (.all 14 .int (.imp (.f2 47
    (.f2 40 (.at .int 7) (.int 1)) (.at .int 14)) (.imp (.f2 50 (.f2 47 (.int 0) (.at .int 13)) (.f2 45 (.f2 40 (.at .int 7) (.int 1)) (.int 0)))
    (.need (.f1 23 (.f2 40 (.at .int 7) (.int 1))) (.need (.f2 47 (.int 0) (.f2 41 (.f1 13 (.us .int 110 (.at .bytes 1) (.int 2) (.int 2) (.int 0)))
    (.f2 40 (.at .int 7) (.int 1)))) (.need (.f2 46 (.f2 41 (.f1 13 (.us .int 110 (.at .bytes 1) (.int 2) (.int 2) (.int 0))) (.f2 40 (.at .int 7)
    (.int 1))) (.f2 41 (.f1 13 (.us .int 110 (.at .bytes 1) (.int 2) (.int 2) (.int 0))) (.at .int 7))) (.need (.f2 47 (.int 0) (.f2 40 (.at .int 7)
    (.int 1))) (.need (.f2 47 (.f2 40 (.at .int 7) (.int 1)) (.f1 13 (.us .int 110 (.at .bytes 1) (.int 2) (.int 2) (.int 0)))) (.need (.f2 153 (.f2
    113 (.f2 119 (.f2 113 (.at .ints 11) (.at .int 7)) (.f2 122 (.us .int 110 (.at .bytes 1) (.f2 40 (.f2 42 (.int 4) (.at .int 7)) (.int 8)) (.int 4)
    (.int 0)) (.f1 152 (.int 0)))) (.f2 40 (.at .int 7) (.int 1))) (.us .ints 114 (.at .bytes 1) (.f2 40 (.at .int 7) (.int 1)) (.int 0) (.int 0)))
    (.need (.f2 47 (.f2 40 (.at .int 7) (.int 1)) (.f2 40 (.f1 30 (.f2 113 (.at .ints 11) (.at .int 7))) (.int 1))) (.need (.us .bool 103 (.us .ints
    114 (.at .bytes 1) (.f2 40 (.at .int 7) (.int 1)) (.int 0) (.int 0)) (.f2 40 (.at .int 7) (.int 1)) (.int 0) (.int 0)) (.need (.f2 45 (.us .int 110
    (.at .bytes 1) (.f2 40 (.f2 42 (.int 4) (.at .int 7)) (.int 8)) (.int 4) (.int 0)) (.us .int 106 (.us .ints 114 (.at .bytes 1) (.f2 40 (.at .int 7)
    (.int 1)) (.int 0) (.int 0)) (.f2 40 (.at .int 7) (.int 1)) (.int 0) (.int 0))) .tt))))))))))))))))))) (.imp (.f2 47 (.int 65536) (.us .int 110
    (.at .bytes 1) (.f2 40 (.f2 42 (.int 4) (.at .int 7)) (.int 8)) (.int 4) (.int 0))) (.need (.f2 45 (.int 0) (.us .int 112 (.at .bytes 1) (.at .int
    2) (.int 0) (.int 0))) (.need (.f2 45 (.int 60) (.us .int 111 (.at .bytes 1) (.at .int 2) (.int 0) (.int 0))) (.need (.f2 153 (.f1 152 (.int 0))
    (.us .ints 113 (.at .bytes 1) (.at .int 2) (.int 0) (.int 0))) (.need (.f2 45 (.int 0) (.f1 30 (.us .ints 113 (.at .bytes 1) (.at .int 2) (.int 0)
    (.int 0)))) .tt))))))) (.imp (.f2 46 (.us .int 110 (.at .bytes 1) (.f2 40 (.f2 42 (.int 4) (.at .int 7)) (.int 8)) (.int 4) (.int 0)) (.int 2))
    (.need (.f2 45 (.int 0) (.us .int 112 (.at .bytes 1) (.at .int 2) (.int 0) (.int 0))) (.need (.f2 45 (.int 60) (.us .int 111 (.at .bytes 1) (.at
    .int 2) (.int 0) (.int 0))) (.need (.f2 153 (.f1 152 (.int 0)) (.us .ints 113 (.at .bytes 1) (.at .int 2) (.int 0) (.int 0))) (.need (.f2 45 (.int
    0) (.f1 30 (.us .ints 113 (.at .bytes 1) (.at .int 2) (.int 0) (.int 0)))) .tt)))))))))))) (.imp (.f2 47 (.us .int 110 (.at .bytes 1) (.int 2)
    (.int 2) (.int 0)) (.at .int 7)) (.need (.f1 23 (.f2 42 (.int 4) (.us .int 110 (.at .bytes 1) (.int 2) (.int 2) (.int 0)))) (.need (.f1 23 (.f2 40
    (.f2 42 (.int 4) (.us .int 110 (.at .bytes 1) (.int 2) (.int 2) (.int 0))) (.int 8))) (.need (.f2 47 (.int 0) (.f2 40 (.f2 42 (.int 4) (.us .int
    110 (.at .bytes 1) (.int 2) (.int 2) (.int 0))) (.int 8))) (.need (.f2 47 (.f2 40 (.f2 42 (.int 4) (.us .int 110 (.at .bytes 1) (.int 2) (.int 2)
    (.int 0))) (.int 8)) (.f2 40 (.at .int 2) (.int (-(3 + 1))))) (.need (.f2 47 (.int 0) (.f2 41 (.f2 40 (.at .int 2) (.int (-(3 + 1)))) (.f2 40 (.f2
    42 (.int 4) (.us .int 110 (.at .bytes 1) (.int 2) (.int 2) (.int 0))) (.int 8)))) (.need (.f2 47 (.int 0) (.f2 41 (.f2 40 (.at .int 2) (.int (-(3 +
    1)))) (.f2 40 (.f2 42 (.int 4) (.f1 13 (.us .int 110 (.at .bytes 1) (.int 2) (.int 2) (.int 0)))) (.int 8)))) (.need (.us .bool 115 (.at .bytes 1)
    (.f2 40 (.f2 42 (.int 4) (.f1 13 (.us .int 110 (.at .bytes 1) (.int 2) (.int 2) (.int 0)))) (.int 8)) (.int 0) (.int 0)) (.all 12 .int (.imp (.f2
    47 (.int 0) (.at .int 12)) (.imp (.f2 47 (.at .int 12) (.f2 41 (.f2 40 (.at .int 2) (.int (-(3 + 1)))) (.f2 40 (.f2 42 (.int 4) (.f1 13 (.us .int
    110 (.at .bytes 1) (.int 2) (.int 2) (.int 0)))) (.int 8)))) (.imp (.us .bool 115 (.at .bytes 1) (.f2 40 (.f2 42 (.int 4) (.f1 13 (.us .int 110
    (.at .bytes 1) (.int 2) (.int 2) (.int 0)))) (.int 8)) (.at .int 12) (.int 0)) (.and (.imp (.f2 46 (.at .int 12) (.f2 41 (.f2 40 (.at .int 2) (.int
    (-(3 + 1)))) (.f2 40 (.f2 42 (.int 4) (.us .int 110 (.at .bytes 1) (.int 2) (.int 2) (.int 0))) (.int 8)))) (.need (.f2 46 (.f2 40 (.f2 40 (.f2 42
    (.int 4) (.us .int 110 (.at .bytes 1) (.int 2) (.int 2) (.int 0))) (.at .int 12)) (.int 8)) (.f1 31 (.at .bytes 1))) (.need (.f2 46 (.int 0) (.f2
    41 (.at .int 3) (.f2 40 (.f2 42 (.int 4) (.us .int 110 (.at .bytes 1) (.int 2) (.int 2) (.int 0))) (.int 8)))) (.need (.f2 47 (.int 0) (.f2 40 (.f2
    40 (.f2 42 (.int 4) (.us .int 110 (.at .bytes 1) (.int 2) (.int 2) (.int 0))) (.at .int 12)) (.int 8))) (.and (.imp (.f1 2 (.f2 45 (.f2 111 (.at
    .bytes 1) (.f2 40 (.f2 40 (.f2 42 (.int 4) (.us .int 110 (.at .bytes 1) (.int 2) (.int 2) (.int 0))) (.at .int 12)) (.int 8))) (.int 0))) (.need
    (.f2 45 (.int 0) (.us .int 112 (.at .bytes 1) (.at .int 2) (.int 0) (.int 0))) (.need (.f2 45 (.int 60) (.us .int 111 (.at .bytes 1) (.at .int 2)
    (.int 0) (.int 0))) (.need (.f2 153 (.f1 152 (.int 0)) (.us .ints 113 (.at .bytes 1) (.at .int 2) (.int 0) (.int 0))) (.need (.f2 45 (.int 0) (.f1
    30 (.us .ints 113 (.at .bytes 1) (.at .int 2) (.int 0) (.int 0)))) .tt))))) (.imp (.f2 45 (.f2 111 (.at .bytes 1) (.f2 40 (.f2 40 (.f2 42 (.int 4)
    (.us .int 110 (.at .bytes 1) (.int 2) (.int 2) (.int 0))) (.at .int 12)) (.int 8))) (.int 0)) (.need (.f1 23 (.f2 40 (.at .int 12) (.int 1)))
    (.need (.f2 47 (.int 0) (.f2 41 (.f2 41 (.f2 40 (.at .int 2) (.int (-(3 + 1)))) (.f2 40 (.f2 42 (.int 4) (.f1 13 (.us .int 110 (.at .bytes 1) (.int
    2) (.int 2) (.int 0)))) (.int 8))) (.f2 40 (.at .int 12) (.int 1)))) (.need (.f2 46 (.f2 41 (.f2 41 (.f2 40 (.at .int 2) (.int (-(3 + 1)))) (.f2 40
    (.f2 42 (.int 4) (.f1 13 (.us .int 110 (.at .bytes 1) (.int 2) (.int 2) (.int 0)))) (.int 8))) (.f2 40 (.at .int 12) (.int 1))) (.f2 41 (.f2 41
    (.f2 40 (.at .int 2) (.int (-(3 + 1)))) (.f2 40 (.f2 42 (.int 4) (.f1 13 (.us .int 110 (.at .bytes 1) (.int 2) (.int 2) (.int 0)))) (.int 8))) (.at
    .int 12))) (.need (.f2 47 (.int 0) (.f2 40 (.at .int 12) (.int 1))) (.need (.f2 47 (.f2 40 (.at .int 12) (.int 1)) (.f2 41 (.f2 40 (.at .int 2)
    (.int (-(3 + 1)))) (.f2 40 (.f2 42 (.int 4) (.f1 13 (.us .int 110 (.at .bytes 1) (.int 2) (.int 2) (.int 0)))) (.int 8)))) (.need (.us .bool 115
    (.at .bytes 1) (.f2 40 (.f2 42 (.int 4) (.f1 13 (.us .int 110 (.at .bytes 1) (.int 2) (.int 2) (.int 0)))) (.int 8)) (.f2 40 (.at .int 12) (.int
    1)) (.int 0)) .tt)))))))))))) (.imp (.f2 47 (.f2 41 (.f2 40 (.at .int 2) (.int (-(3 + 1)))) (.f2 40 (.f2 42 (.int 4) (.us .int 110 (.at .bytes 1)
    (.int 2) (.int 2) (.int 0))) (.int 8))) (.at .int 12)) (.need (.f2 45 (.us .int 110 (.at .bytes 1) (.int 4) (.int 4) (.int 0)) (.us .int 112 (.at
    .bytes 1) (.at .int 2) (.int 0) (.int 0))) (.need (.f2 45 (.int 0) (.us .int 111 (.at .bytes 1) (.at .int 2) (.int 0) (.int 0))) (.need (.f2 153
    (.f2 113 (.at .ints 11) (.at .int 7)) (.us .ints 113 (.at .bytes 1) (.at .int 2) (.int 0) (.int 0))) (.need (.f2 45 (.at .int 7) (.f1 30 (.us .ints
    113 (.at .bytes 1) (.at .int 2) (.int 0) (.int 0)))) .tt)))))))))))))))))))))))))))))))))))))) (.imp (.f2 46 (.us .int 98 (.at .int 2) (.int 0)
    (.int 0) (.int 0)) (.us .int 110 (.at .bytes 1) (.int 2) (.int 2) (.int 0))) (.need (.f2 45 (.int 0) (.us .int 112 (.at .bytes 1) (.at .int 2)
    (.int 0) (.int 0))) (.need (.f2 45 (.int 60) (.us .int 111 (.at .bytes 1) (.at .int 2) (.int 0) (.int 0))) (.need (.f2 153 (.f1 152 (.int 0)) (.us
    .ints 113 (.at .bytes 1) (.at .int 2) (.int 0) (.int 0))) (.need (.f2 45 (.int 0) (.f1 30 (.us .ints 113 (.at .bytes 1) (.at .int 2) (.int 0) (.int
    0)))) .tt))))))) (.imp (.f1 2 (.f2 45 (.us .int 110 (.at .bytes 1) (.f2 40 (.at .int 2) (.int (-(3 + 1)))) (.int 4) (.int 0)) (.f2 82 (.int
    4294967295) (.f1 160 (.f2 114 (.at .bytes 1) (.f2 40 (.at .int 2) (.int (-(3 + 1))))))))) (.need (.f2 45 (.int 0) (.us .int 112 (.at .bytes 1) (.at
    .int 2) (.int 0) (.int 0))) (.need (.f2 45 (.int 60) (.us .int 111 (.at .bytes 1) (.at .int 2) (.int 0) (.int 0))) (.need (.f2 153 (.f1 152 (.int
    0)) (.us .ints 113 (.at .bytes 1) (.at .int 2) (.int 0) (.int 0))) (.need (.f2 45 (.int 0) (.f1 30 (.us .ints 113 (.at .bytes 1) (.at .int 2) (.int
    0) (.int 0)))) .tt))))))))))))))))))))))))))) (.imp (.f1 2 (.f2 45 (.f2 111 (.at .bytes 1) (.int 0)) (.int 5))) (.need (.f2 45 (.int 0) (.us .int
    112 (.at .bytes 1) (.at .int 2) (.int 0) (.int 0))) (.need (.f2 45 (.int 60) (.us .int 111 (.at .bytes 1) (.at .int 2) (.int 0) (.int 0))) (.need
    (.f2 153 (.f1 152 (.int 0)) (.us .ints 113 (.at .bytes 1) (.at .int 2) (.int 0) (.int 0))) (.need (.f2 45 (.int 0) (.f1 30 (.us .ints 113 (.at
    .bytes 1) (.at .int 2) (.int 0) (.int 0)))) .tt))))))))) (.imp (.f1 2 (.us .bool 97 (.at .int 2) (.int 0) (.int 0) (.int 0))) (.need (.f2 45 (.int
    0) (.us .int 112 (.at .bytes 1) (.at .int 2) (.int 0) (.int 0))) (.need (.f2 45 (.int 60) (.us .int 111 (.at .bytes 1) (.at .int 2) (.int 0) (.int
    0))) (.need (.f2 153 (.f1 152 (.int 0)) (.us .ints 113 (.at .bytes 1) (.at .int 2) (.int 0) (.int 0))) (.need (.f2 45 (.int 0) (.f1 30 (.us .ints
    113 (.at .bytes 1) (.at .int 2) (.int 0) (.int 0)))) .tt))))))))))))
theorem pdc_vc : vcOf Try.prog pdcCx 12 21 pdcCtr = pdcVc := by kernel_rfl
-- END VC pdc
theorem w13 {G : Type} (C : List UInt8) : (ap1 13 (.int (rdN C 2 2)) : U G) = .int (rdN C 2 2) := by
  show U.int (IntKind.i64.wrap (rdN C 2 2)) = _
  have h1 := rd_nn C 2 2
  have h2 := rd_lt C 2 2
  have e : ((256 ^ (2 : Int).toNat : Nat) : Int) = 65536 := rfl
  rw [w_i64 h1 (by omega)]
theorem sum_fold {G : Type} (x : List UInt8) : (ap2 82 (.int 4294967295) (ap1 160 (.bytes x)) : U G) = .int (sumB x) := rfl
theorem take_self (C : List UInt8) (n : Nat) : (pagesN C n).take n = pagesN C n := pages_take C (Nat.le_refl n)
theorem rd2 (C : List UInt8) (a : Int) : rdN C a 2 < 65536 := by have := rd_lt C a 2; simpa using this
theorem rd4 (C : List UInt8) (a : Int) : rdN C a 4 < 4294967296 := by have := rd_lt C a 4; simpa using this
theorem lo_rd (C : List UInt8) (a w : Int) : -9223372036854775808 ≤ rdN C a w := by have := rd_nn C a w; omega
theorem hi_rd2 (C : List UInt8) (a : Int) : rdN C a 2 ≤ 9223372036854775807 := by have := rd2 C a; omega
theorem hi_rd4 (C : List UInt8) (a : Int) : rdN C a 4 ≤ 9223372036854775807 := by have := rd4 C a; omega
theorem lo_sum (x : List UInt8) : -9223372036854775808 ≤ sumB x := by have := sum_in x; omega
theorem hi_sum (x : List UInt8) : sumB x ≤ 9223372036854775807 := by have := sum_in x; omega
abbrev NoD (C : List UInt8) (l : Int) : Prop := 0 = decN (C.take l.toNat) ∧ 60 = decE (C.take l.toNat) ∧ [] = decP (C.take l.toNat) ∧ (0 : Int) = ((decP (C.take l.toNat)).length : Nat) ∧ True
section
variable {C : List UInt8} {l : Int} (h1 : 0 ≤ l) (h2 : l ≤ C.length)
include h1 h2
theorem no_of (h : decG (C.take l.toNat) = true → False) : NoD C l := by
  have : decG (C.take l.toNat) = false := by cases hh : decG (C.take l.toNat); rfl; exact (h hh).elim
  unfold NoD decN decE decP; rw [this]; exact ⟨rfl, rfl, rfl, rfl, trivial⟩
theorem dec_all' (h : decG (C.take l.toNat) = true) : sizeB l = true ∧ C.getD 0 0 = 5 ∧ C.getD 1 0 = 0 ∧ rdN C 2 2 ≤ roomI l ∧ rdN C (l - 4) 4 = sumB (C.take (l - 4).toNat) ∧
    (rdN C 4 4 = 0 ∨ numP (rdN C 4 4) = true) ∧ scanE 0 (pagesN C (rdN C 2 2).toNat) = 0 ∧ ((C.drop (4 * rdN C 2 2 + 8).toNat).take (l + -(3 + 1) - (4 * rdN C 2 2 + 8)).toNat).all (· == 0) = true := by
  have hl : (C.take l.toNat).length = l.toNat := by rw [List.length_take]; omega
  obtain ⟨a1, a2, a3, a4, a5, a6, a7, a8, _⟩ := dec_all h
  rw [hl, show ((l.toNat : Nat) : Int) = l by omega] at a1 a4 a5
  rw [hl] at a8
  have hp := room_le a1
  have c2 : rdN (C.take l.toNat) 2 2 = rdN C 2 2 := rd_cut (by omega) (by omega) (by omega)
  have c4 : rdN (C.take l.toNat) 4 4 = rdN C 4 4 := rd_cut (by omega) (by omega) (by omega)
  have cs : rdN (C.take l.toNat) (l - 4) 4 = rdN C (l - 4) 4 := rd_cut (by omega) (by omega) (by omega)
  have hn := rd_nn C 2 2
  rw [c2] at a4 a7 a8
  rw [c4] at a6
  rw [cs, List.take_take, Nat.min_eq_left (by omega), show l.toNat - 4 = (l - 4).toNat by omega] at a5
  rw [pages_cut (by omega)] at a7
  have g : ∀ i, i < l.toNat → (C.take l.toNat).getD i 0 = C.getD i 0 := fun i hi => by rw [List.getD_eq_getElem?_getD, List.getD_eq_getElem?_getD, List.getElem?_take_of_lt hi]
  rw [g 0 (by omega)] at a2
  rw [g 1 (by omega)] at a3
  rw [List.drop_take, List.take_take, Nat.min_eq_left (by omega), show 8 + 4 * (rdN C 2 2).toNat = (4 * rdN C 2 2 + 8).toNat by omega, show l.toNat - 4 - (4 * rdN C 2 2 + 8).toNat = (l + -(3 + 1) - (4 * rdN C 2 2 + 8)).toNat by omega] at a8
  exact ⟨a1, a2, a3, a4, a5, a6, a7, a8⟩
theorem f_size (h : sizeB l = false) : NoD C l := no_of h1 h2 fun hd => by have := (dec_all' h1 h2 hd).1; rw [h] at this; cases this
theorem f_0 (h : ¬ (((C.getD 0 0).toNat : Nat) : Int) = 5) : NoD C l := no_of h1 h2 fun hd => h (by rw [(dec_all' h1 h2 hd).2.1]; rfl)
theorem f_1 (h : ¬ (((C.getD (Int.toNat 1) 0).toNat : Nat) : Int) = 0) : NoD C l := no_of h1 h2 fun hd => h (by rw [show Int.toNat 1 = 1 from rfl, (dec_all' h1 h2 hd).2.2.1]; rfl)
theorem f_room (h : roomI l < rdN C 2 2) : NoD C l := no_of h1 h2 fun hd => by have := (dec_all' h1 h2 hd).2.2.2.1; omega
theorem f_sum (h : ¬ rdN C (l + -(3 + 1)) 4 = sumB (C.take (l + -(3 + 1)).toNat)) : NoD C l := no_of h1 h2 fun hd => h ((dec_all' h1 h2 hd).2.2.2.2.1)
theorem f_lo (h : ¬ rdN C 4 4 = 0) (h' : rdN C 4 4 < 2) : NoD C l := no_of h1 h2 fun hd => by
  rcases (dec_all' h1 h2 hd).2.2.2.2.2.1 with h0 | h0
  · exact h h0
  · have := numP_iff.1 h0; omega
theorem f_hi (h : ¬ rdN C 4 4 = 0) (h' : 65536 ≤ rdN C 4 4) : NoD C l := no_of h1 h2 fun hd => by
  rcases (dec_all' h1 h2 hd).2.2.2.2.2.1 with h0 | h0
  · exact h h0
  · have := numP_iff.1 h0; omega
theorem scan_next {i : Int} (h0 : 0 ≤ i) (hs : scanE 0 (pagesN C i.toNat) = 0) : scanE 0 (pagesN C (i + 1).toNat) = bif numP (rdN C (4 * i + 8) 4) then (bif decide (rdN C (4 * i + 8) 4 ≤ lastF 0 (pagesN C i.toNat)) then 63 else 0) else 30 := by
  rw [show (i + 1).toNat = i.toNat + 1 by omega, pages_succ, scan_app, if_pos hs, scan_one, show 8 + 4 * ((i.toNat : Nat) : Int) = 4 * i + 8 by omega]
theorem scan_stop {i n : Int} (h0 : 0 ≤ i) (hi : i < n) (h : scanE 0 (pagesN C (i + 1).toNat) ≠ 0) : scanE 0 (pagesN C n.toNat) ≠ 0 := by
  have e := pages_take C (show (i + 1).toNat ≤ n.toNat by omega)
  rw [← e] at h
  have := scan_more (L := pagesN C n.toNat) (i := (i + 1).toNat) (n := n.toNat) (by omega) h
  rw [List.take_of_length_le (by rw [pages_len]; omega)] at this
  rw [this]; exact h
theorem f_plo {i : Int} (h0 : 0 ≤ i) (hi : i < rdN C 2 2) (hs : scanE 0 (pagesN C i.toNat) = 0) (hp : rdN C (4 * i + 8) 4 < 2) : NoD C l := no_of h1 h2 fun hd => by
  refine scan_stop h1 h2 h0 hi ?_ (dec_all' h1 h2 hd).2.2.2.2.2.2.1
  rw [scan_next h1 h2 h0 hs, show numP (rdN C (4 * i + 8) 4) = false by cases hn : numP (rdN C (4 * i + 8) 4); rfl; have := numP_iff.1 hn; omega]; exact show (30 : Int) ≠ 0 by decide
theorem f_phi {i : Int} (h0 : 0 ≤ i) (hi : i < rdN C 2 2) (hs : scanE 0 (pagesN C i.toNat) = 0) (hp : 65536 ≤ rdN C (4 * i + 8) 4) : NoD C l := no_of h1 h2 fun hd => by
  refine scan_stop h1 h2 h0 hi ?_ (dec_all' h1 h2 hd).2.2.2.2.2.2.1
  rw [scan_next h1 h2 h0 hs, show numP (rdN C (4 * i + 8) 4) = false by cases hn : numP (rdN C (4 * i + 8) 4); rfl; have := numP_iff.1 hn; omega]; exact show (30 : Int) ≠ 0 by decide
theorem f_plast {i x : Int} (h0 : 0 ≤ i) (hi : i < rdN C 2 2) (hs : scanE 0 (pagesN C i.toNat) = 0) (hx : x = lastF 0 (pagesN C i.toNat)) (hp : rdN C (4 * i + 8) 4 ≤ x) : NoD C l := no_of h1 h2 fun hd => by
  refine scan_stop h1 h2 h0 hi ?_ (dec_all' h1 h2 hd).2.2.2.2.2.2.1
  rw [scan_next h1 h2 h0 hs, ← hx, decide_eq_true hp]
  cases numP (rdN C (4 * i + 8) 4) <;> decide
theorem pg_scan {i x : Int} (h0 : 0 ≤ i) (hs : scanE 0 (pagesN C i.toNat) = 0) (hx : x = lastF 0 (pagesN C i.toNat)) (hp : x < rdN C (4 * i + 8) 4) (ha : 2 ≤ rdN C (4 * i + 8) 4) (hb : rdN C (4 * i + 8) 4 < 65536) : scanE 0 (pagesN C (i + 1).toNat) = 0 := by
  rw [scan_next h1 h2 h0 hs, ← hx, decide_eq_false (by omega), numP_iff.2 ⟨ha, hb⟩]; rfl
omit h1 h2 in
theorem pg_last {i : Int} (h0 : 0 ≤ i) : rdN C (4 * i + 8) 4 = lastF 0 (pagesN C (i + 1).toNat) := by
  rw [show (i + 1).toNat = i.toNat + 1 by omega, pages_succ, last_snoc, show 8 + 4 * ((i.toNat : Nat) : Int) = 4 * i + 8 by omega]
omit h1 h2 in
theorem pg_step {i : Int} {X : List Int} (h0 : 0 ≤ i) (hX : X.take i.toNat = pagesN C i.toNat) : (X.take i.toNat ++ [rdN C (4 * i + 8) 4]).take (i + 1).toNat = pagesN C (i + 1).toNat := by
  rw [hX, List.take_of_length_le (by rw [List.length_append, pages_len]; simp; omega), show (i + 1).toNat = i.toNat + 1 by omega, pages_succ, show 8 + 4 * ((i.toNat : Nat) : Int) = 4 * i + 8 by omega]
theorem f_zero {i : Int} (h0 : 0 ≤ i) (hi : i < l + -(3 + 1) - (4 * rdN C 2 2 + 8)) (hz : ¬ (((C.getD (4 * rdN C 2 2 + i + 8).toNat 0).toNat : Nat) : Int) = 0) : NoD C l := no_of h1 h2 fun hd => hz (by
  have h := (dec_all' h1 h2 hd).2.2.2.2.2.2.2
  have hn := rd_nn C 2 2
  have hm : C.getD (4 * rdN C 2 2 + i + 8).toNat 0 ∈ (C.drop (4 * rdN C 2 2 + 8).toNat).take (l + -(3 + 1) - (4 * rdN C 2 2 + 8)).toNat := by
    rw [List.mem_iff_getElem?]
    refine ⟨i.toNat, ?_⟩
    rw [List.getElem?_take_of_lt (by omega), List.getElem?_drop, show (4 * rdN C 2 2 + 8).toNat + i.toNat = (4 * rdN C 2 2 + i + 8).toNat by omega, List.getD_eq_getElem?_getD, List.getElem?_eq_getElem (by omega)]; rfl
  have := List.all_eq_true.1 h _ hm
  rw [beq_iff_eq.1 this]; rfl)
omit h1 in
theorem pg_zero {i : Int} (h0 : 0 ≤ i) (hi : i < l + -(3 + 1) - (4 * rdN C 2 2 + 8)) (hz : (((C.getD (4 * rdN C 2 2 + i + 8).toNat 0).toNat : Nat) : Int) = 0) (h : ((C.drop (4 * rdN C 2 2 + 8).toNat).take i.toNat).all (· == 0) = true) :
    ((C.drop (4 * rdN C 2 2 + 8).toNat).take (i + 1).toNat).all (· == 0) = true := by
  have hn := rd_nn C 2 2
  rw [show (i + 1).toNat = i.toNat + 1 by omega, List.take_add_one, List.all_append, h, List.getElem?_drop, show (4 * rdN C 2 2 + 8).toNat + i.toNat = (4 * rdN C 2 2 + i + 8).toNat by omega, List.getElem?_eq_getElem (by omega)]
  rw [List.getD_eq_getElem?_getD, List.getElem?_eq_getElem (by omega)] at hz
  have hz : (C[(4 * rdN C 2 2 + i + 8).toNat]'(by omega)).toNat = 0 := by simpa using hz
  have : (C[(4 * rdN C 2 2 + i + 8).toNat]'(by omega)) = 0 := UInt8.toNat_inj.1 (by rw [hz]; rfl)
  simp [this]
theorem f_ok {i k : Int} {X : List Int} (hs : sizeB l = true) (q0 : (((C.getD 0 0).toNat : Nat) : Int) = 5) (q1 : (((C.getD (Int.toNat 1) 0).toNat : Nat) : Int) = 0) (hsum : rdN C (l + -(3 + 1)) 4 = sumB (C.take (l + -(3 + 1)).toNat)) (hr : rdN C 2 2 ≤ roomI l)
    (hnx : rdN C 4 4 = 0 ∨ (2 ≤ rdN C 4 4 ∧ rdN C 4 4 < 65536)) (hk : k ≤ rdN C 2 2) (hk' : rdN C 2 2 ≤ k) (hX : X.take k.toNat = pagesN C k.toNat) (hsc : scanE 0 (pagesN C k.toNat) = 0)
    (hi : l + -(3 + 1) - (4 * rdN C 2 2 + 8) ≤ i) (hi' : i ≤ l + -(3 + 1) - (4 * rdN C 2 2 + 8)) (hz : ((C.drop (4 * rdN C 2 2 + 8).toNat).take i.toNat).all (· == 0) = true) :
    rdN C 4 4 = decN (C.take l.toNat) ∧ 0 = decE (C.take l.toNat) ∧ X.take k.toNat = decP (C.take l.toNat) ∧ k = ((decP (C.take l.toNat)).length : Nat) ∧ True := by
  have hp := room_le hs
  have hn := rd_nn C 2 2
  have hl : (C.take l.toNat).length = l.toNat := by rw [List.length_take]; omega
  have c2 : rdN (C.take l.toNat) 2 2 = rdN C 2 2 := rd_cut (by omega) (by omega) (by omega)
  have c4 : rdN (C.take l.toNat) 4 4 = rdN C 4 4 := rd_cut (by omega) (by omega) (by omega)
  have cs : rdN (C.take l.toNat) (l - 4) 4 = rdN C (l - 4) 4 := rd_cut (by omega) (by omega) (by omega)
  have g : ∀ i, i < l.toNat → (C.take l.toNat).getD i 0 = C.getD i 0 := fun i hi => by rw [List.getD_eq_getElem?_getD, List.getD_eq_getElem?_getD, List.getElem?_take_of_lt hi]
  obtain rfl : k = rdN C 2 2 := by omega
  obtain rfl : i = l + -(3 + 1) - (4 * rdN C 2 2 + 8) := by omega
  have hl' : (((C.take l.toNat).length : Nat) : Int) = l := by omega
  have e5 : C.getD 0 0 = 5 := UInt8.toNat_inj.1 (show (C.getD 0 0).toNat = 5 by omega)
  have e0 : C.getD 1 0 = 0 := UInt8.toNat_inj.1 (show (C.getD 1 0).toNat = 0 by rw [show Int.toNat 1 = 1 from rfl] at q1; omega)
  have hG : decG (C.take l.toNat) = true := by
    refine dec_yes (n := rdN C 2 2) (next := rdN C 4 4) (by rw [hl']; exact hs) (by rw [g 0 (by omega)]; exact e5) (by rw [g 1 (by omega)]; exact e0) c2.symm c4.symm (by rw [hl']; exact hr) ?_ ?_ (by rw [pages_cut (by omega)]; exact hsc) ?_
    · rw [hl', cs, hl, List.take_take, Nat.min_eq_left (by omega), show l.toNat - 4 = (l + -(3 + 1)).toNat by omega]; exact hsum
    · rcases hnx with h | h
      · exact .inl h
      · exact .inr (numP_iff.2 h)
    · rw [hl, List.drop_take, List.take_take, Nat.min_eq_left (by omega), show 8 + 4 * (rdN C 2 2).toNat = (4 * rdN C 2 2 + 8).toNat by omega, show l.toNat - 4 - (4 * rdN C 2 2 + 8).toNat = (l + -(3 + 1) - (4 * rdN C 2 2 + 8)).toNat by omega]; exact hz
  unfold decN decE decP
  rw [hG, c2, c4, hX, pages_cut (by omega)]
  refine ⟨rfl, rfl, rfl, ?_, trivial⟩
  show rdN C 2 2 = ((pagesN C (rdN C 2 2).toNat).length : Nat)
  rw [pages_len]; omega
end
set_option maxHeartbeats 2000000 in
theorem pdc_ok (S : Sig FL) (hZ : SzSig S) (hC : EcSig S) (hD : DcSig S) : CtrOk S Try.prog 21 pdcCtr := by
  refine vcOf_sound S (C := pdcCx) (fuel := 12) (cx_of ⟨one_spec (by decide) (sz_ok S hZ), one_spec (by decide) (roo_ok S hZ), one_spec (by decide) (prd_ok S ⟨hD.u110⟩), one_spec (by decide) (sum_ok S), trivial⟩ ⟨⟨⟨by decide, emI_gh S⟩, trivial, trivial, ⟨by decide, emI_gh S⟩, trivial⟩, trivial⟩ trivial) fun ρ => ?_
  rw [pdc_vc]
  simp only [pdcVc, w13, sum_fold, take_self, hZ.u97, hZ.u98, hC.u103, hC.u106, hD.u110, hD.u111, hD.u112, hD.u113, hD.u114, hD.u115, VC.den, SX.den, co_int, co_bool, co_bytes, co_ints, Env.upd, p155, p153, p23, p45, p46, p47, p50, b46, b47, t46, t47, p2_45, ap1_2, ap1_30, ap1_31, ap1_152, ap2_40, ap2_41, ap2_42, ap2_45, ap2_111, ap2_113, ap2_114, ap2_119, ap2_122, beq_iff_eq, Bool.not_eq_true', beq_eq_false_iff_ne, ne_eq, Bool.not_not, U.toProp_bool, U.toBool_bool, i64lo, i64hi, U.toInt_int, U.toInts_ints, U.toBytes_bytes, Int.toNat_zero, Nat.reduceEqDiff, reduceIte, U.int.injEq, U.bool.injEq, U.bytes.injEq, U.ints.injEq]
  generalize (ρ 1).toBytes = C
  generalize (ρ 2).toInt = l
  generalize (ρ 3).toInt = c
  intro h1 h2 h3 h4 _ _
  have hn := rd_nn C 2 2
  have hn2 := rd2 C 2
  have hrs : sizeB l = true → 512 ≤ l ∧ l ≤ 65536 ∧ 4 * roomI l + 12 ≤ l := room_le
  repeat' (first
    | exact trivial
    | with_reducible exact f_size h1 h2 (by assumption)
    | with_reducible exact f_0 h1 h2 (by assumption)
    | with_reducible exact f_1 h1 h2 (by assumption)
    | with_reducible exact f_sum h1 h2 (by assumption)
    | with_reducible exact f_room h1 h2 (by assumption)
    | with_reducible exact f_lo h1 h2 (by assumption) (by assumption)
    | with_reducible exact f_hi h1 h2 (by assumption) (by assumption)
    | with_reducible exact f_plo h1 h2 (by assumption) (by assumption) (by assumption) (by assumption)
    | with_reducible exact f_phi h1 h2 (by assumption) (by assumption) (by assumption) (by assumption)
    | with_reducible exact f_plast h1 h2 (by assumption) (by assumption) (by assumption) (by assumption) (by assumption)
    | with_reducible exact f_zero h1 h2 (by assumption) (by assumption) (by assumption)
    | with_reducible exact f_ok h1 h2 (by assumption) (by assumption) (by assumption) (by assumption) (by assumption) (.inl (by assumption)) (by assumption) (by assumption) (by assumption) (by assumption) (by assumption) (by assumption) (by assumption)
    | with_reducible exact f_ok h1 h2 (by assumption) (by assumption) (by assumption) (by assumption) (by assumption) (.inr ⟨by assumption, by assumption⟩) (by assumption) (by assumption) (by assumption) (by assumption) (by assumption) (by assumption) (by assumption)
    | apply And.intro | intro _)
  all_goals first
    | with_reducible exact lo_rd _ _ _
    | with_reducible exact hi_rd2 _ _
    | with_reducible exact hi_rd4 _ _
    | with_reducible exact lo_sum _
    | with_reducible exact hi_sum _
    | with_reducible exact pg_step (by assumption) (by assumption)
    | with_reducible exact pg_scan h1 h2 (by assumption) (by assumption) (by assumption) (by assumption) (by assumption) (by assumption)
    | with_reducible exact pg_last (by assumption)
    | with_reducible exact pg_zero h2 (by assumption) (by assumption) (by assumption) (by assumption)
    | (have := hrs (by assumption); omega)
    | (simp only [List.length_take]; omega)
    | rfl
end
end Go.Proofs.Ytmjonggabppgaaa

/- A page of the list read: the reference's way; bytes as they are handed in. -/
set_option linter.unusedSimpArgs false
set_option linter.unusedVariables false
set_option linter.unusedSectionVars false
namespace Go.Proofs.Ytmjonggabppgaaa
noncomputable section
open Go.Eng
-- atoms: 0 block, 1 offset, 2 length, 3 slice's room, 4 content, 5 room; told: 6 next, 7 block, 8 length, 9 room, 10 content, 11 code
def rdcCtr : Ctr := ⟨[.int, .int, .int, .int, .bytes, .int], [.one (slR 0)], [rdBy 0 0], [eLe (.int 0) (ai 2), eLe (ai 2) (.f1 31 (bA 4)), eLe (ai 2) (ai 3), eLe (ai 2) (.int 1099511627776)],
  [.int, .int, .int, .int, .ints, .int], .tup [(false, [.int .i64 (ai 6)]), (false, [slC (ai 7) (ai 8) (ai 9) 1]), (false, [.int .i64 (ai 11)])], [rdBy 0 0, iAr (ai 7) (iA 10) (ai 9)],
  [.f2 45 (ai 6) (usI 112 (bA 4) (ai 2) z0), .f2 45 (ai 11) (usI 111 (bA 4) (ai 2) z0), .f2 153 (tkX (iA 10) (ai 8)) (usX 113 (bA 4) (ai 2) z0), .f2 45 (ai 8) (.f1 30 (usX 113 (bA 4) (ai 2) z0)), eLe (ai 8) (.f1 30 (iA 10)), eLe (ai 8) (ai 9)]⟩
def rnX : SX := .f1 13 (usI 110 (bA 4) (.int 2) (.int 2))
def rdcI1 : Inv := ⟨[.int, .int, .int, .ints], [(11, .one (.int .i64 (di 0))), (10, .one (slC (di 1) (di 0) (di 2) 1))], [iAr (di 1) (iA 1000003) (di 2)],
  [eLe (.int 0) (di 0), eLe (di 0) rnX, .f2 153 (tkX (iA 1000003) (di 0)) (usX 114 (bA 4) (di 0) z0), eLe (di 0) (.f1 30 (iA 1000003)), eLe (di 0) (di 2)], .f2 41 rnX (di 0)⟩
def rdcCx : Cx := { specs := [(19, [rroCtr]), (52, [rrdCtr]), (13, [renCtr])], anns := [(22, [(9, .ghost emI []), (10, .inv rdcI1), (999999, .ghost emI [])])] }
/-- Bytes lent: 6 block, 7 content, 8 room. -/
def lnbCtr : Ctr := ⟨[.int, .int, .int, .int, .bytes, .int], [.one (slR 0)], [rdBy 0 0], [eLe (.int 0) (ai 2), eLe (ai 2) (.f1 31 (bA 4)), eLe (ai 2) (ai 3), eLe (ai 2) (.int 1099511627776)], [.int, .bytes, .int],
  .one (slC (ai 6) (ai 2) (ai 8) 1), [rdBy 0 0, bAr (ai 6) (bA 7) (ai 8)], [.f2 45 (ai 8) (SX.mk2 40 (ai 2) (.int 3)), eLe (.int 0) (ai 6), eqS (bA 7) (.f2 120 (.f2 114 (bA 4) (ai 2)) (.f2 123 (.int 71) (.f2 123 (.int 72) (.f2 123 (.int 73) (.f1 153 z0)))))]⟩
def lnbCx : Cx := { specs := [], anns := [] }
/-- .. are they as they were? 0 block, 1 content, 2 length, 3 slice's room, 4 room; 5.. as it was. -/
def albCtr : Ctr := ⟨[.int, .bytes, .int, .int, .int, .int, .int, .int, .int, .bytes, .int], [.one (slC (ai 0) (ai 2) (ai 3) 1), .one (slR 5)], [bAr (ai 0) (bA 1) (ai 4), rdBy 0 5],
  [eLe (.int 0) (ai 2), .f2 45 (ai 2) (ai 7), .f2 45 (ai 3) (SX.mk2 40 (ai 2) (.int 3)), eLe (ai 7) (.f1 31 (bA 9)), eLe (ai 7) (ai 8), eLe (ai 2) (.int 1099511627776), eqS (bA 1) (.f2 120 (.f2 114 (bA 9) (ai 7)) (.f2 123 (.int 71) (.f2 123 (.int 72) (.f2 123 (.int 73) (.f1 153 z0)))))], [.bool, .bytes],
  .one (.bool (.at .bool 11)), [bAr (ai 0) (bA 12) (ai 4), rdBy 0 5], [.at .bool 11]⟩
def albInv : Inv := ⟨[.int, .bytes], [(8, .one (.int .i64 (di 0)))], [bAr (ai 0) (bA 1000001) (ai 4)], [eLe (.int 0) (di 0), eLe (di 0) (SX.mk2 40 (ai 2) (.int 3)), .f2 45 (.f1 31 (bA 1000001)) (SX.mk2 40 (ai 2) (.int 3))], .f2 41 (SX.mk2 40 (ai 2) (.int 3)) (di 0)⟩
def albCx : Cx := { specs := [], anns := [(24, [(7, .inv albInv)])] }
/-- The same bytes, of which the second are handed in. -/
def sbrCtr : Ctr := ⟨[.int, .bytes, .int, .int, .int, .int, .int, .int, .int, .bytes, .int], [.one (slC (ai 0) (ai 2) (ai 3) 1), .one (slR 5)], [bAr (ai 0) (bA 1) (ai 4), rdBy 0 5],
  [eLe (.int 0) (ai 2), eLe (ai 2) (.f1 31 (bA 1)), eLe (ai 2) (.int 1099511627776), eLe (.int 0) (ai 7), eLe (ai 7) (.f1 31 (bA 9)), eLe (ai 7) (.int 1099511627776), eLe (ai 2) (ai 3), eLe (ai 7) (ai 8)], [.bool], .one (.bool (.at .bool 11)), [bAr (ai 0) (bA 1) (ai 4), rdBy 0 5],
  [.f2 48 (.at .bool 11) (eqS (.f2 114 (bA 1) (ai 2)) (.f2 114 (bA 9) (ai 7)))]⟩
def sbrCx : Cx := { specs := [], anns := [] }
-- BEGIN VC rdc
def rdcVc : VC := (.imp (.f2 47 (.int 0) (.at .int 2)) (.imp (.f2 47 (.at .int 2) (.f1 31 (.at .bytes 4))) (.imp (.f2 47 (.at .int 2) (.at .int 3)) (.imp (.f2 47 (.at
    .int 2) (.int 1099511627776)) (.and (.imp (.f2 45 (.us .int 98 (.at .int 2) (.int 0) (.int 0) (.int 0)) (.int 0)) (.need (.f2 45 (.int 0) (.us .int
    112 (.at .bytes 4) (.at .int 2) (.int 0) (.int 0))) (.need (.f2 45 (.int 60) (.us .int 111 (.at .bytes 4) (.at .int 2) (.int 0) (.int 0))) (.need
    (.f2 153 (.f1 152 (.int 0)) (.us .ints 113 (.at .bytes 4) (.at .int 2) (.int 0) (.int 0))) (.need (.f2 45 (.int 0) (.f1 30 (.us .ints 113 (.at
    .bytes 4) (.at .int 2) (.int 0) (.int 0)))) .tt))))) (.imp (.f1 2 (.f2 45 (.us .int 98 (.at .int 2) (.int 0) (.int 0) (.int 0)) (.int 0))) (.need
    (.f2 47 (.int 4) (.at .int 2)) (.need (.f2 47 (.int 8) (.at .int 2)) (.need (.f1 23 (.us .int 110 (.at .bytes 4) (.int 2) (.int 2) (.int 0))) (.and
    (.imp (.f2 46 (.us .int 98 (.at .int 2) (.int 0) (.int 0) (.int 0)) (.us .int 110 (.at .bytes 4) (.int 2) (.int 2) (.int 0))) (.need (.f2 45 (.int
    0) (.us .int 112 (.at .bytes 4) (.at .int 2) (.int 0) (.int 0))) (.need (.f2 45 (.int 60) (.us .int 111 (.at .bytes 4) (.at .int 2) (.int 0) (.int
    0))) (.need (.f2 153 (.f1 152 (.int 0)) (.us .ints 113 (.at .bytes 4) (.at .int 2) (.int 0) (.int 0))) (.need (.f2 45 (.int 0) (.f1 30 (.us .ints
    113 (.at .bytes 4) (.at .int 2) (.int 0) (.int 0)))) .tt))))) (.imp (.f2 47 (.us .int 110 (.at .bytes 4) (.int 2) (.int 2) (.int 0)) (.us .int 98
    (.at .int 2) (.int 0) (.int 0) (.int 0))) (.need (.f2 47 (.int 0) (.f1 13 (.us .int 110 (.at .bytes 4) (.int 2) (.int 2) (.int 0)))) (.need (.f2
    153 (.f1 152 (.int 0)) (.us .ints 114 (.at .bytes 4) (.int 0) (.int 0) (.int 0))) (.all 6 .int (.all 7 .int (.all 8 .int (.all 9 .ints (.imp (.f2
    47 (.int 0) (.at .int 6)) (.imp (.f2 47 (.at .int 6) (.f1 13 (.us .int 110 (.at .bytes 4) (.int 2) (.int 2) (.int 0)))) (.imp (.f2 153 (.f2 113
    (.at .ints 9) (.at .int 6)) (.us .ints 114 (.at .bytes 4) (.at .int 6) (.int 0) (.int 0))) (.imp (.f2 47 (.at .int 6) (.f1 30 (.at .ints 9))) (.imp
    (.f2 47 (.at .int 6) (.at .int 8)) (.and (.imp (.f2 46 (.at .int 6) (.us .int 110 (.at .bytes 4) (.int 2) (.int 2) (.int 0))) (.need (.f1 23 (.f2
    42 (.int 4) (.at .int 6))) (.need (.f1 23 (.f2 40 (.f2 42 (.int 4) (.at .int 6)) (.int 8))) (.need (.f2 47 (.int 0) (.f2 40 (.f2 42 (.int 4) (.at
    .int 6)) (.int 8))) (.need (.f2 47 (.f2 40 (.f2 42 (.int 4) (.at .int 6)) (.int 12)) (.at .int 2)) (.need (.f1 23 (.us .int 110 (.at .bytes 4) (.f2
    40 (.f2 42 (.int 4) (.at .int 6)) (.int 8)) (.int 4) (.int 0))) (.all 10 .int (.imp (.f2 47 (.int 0) (.at .int 10)) (.need (.f2 47 (.f2 42 (.f2 40
    (.at .int 6) (.int 1)) (.int 8)) (.int 140737488355328)) (.all 11 .int (.all 12 .int (.imp (.f2 47 (.f2 40 (.at .int 6) (.int 1)) (.at .int 12))
    (.imp (.f2 50 (.f2 47 (.int 0) (.at .int 11)) (.f2 45 (.f2 40 (.at .int 6) (.int 1)) (.int 0))) (.need (.f1 23 (.f2 40 (.at .int 6) (.int 1)))
    (.need (.f2 47 (.int 0) (.f2 41 (.f1 13 (.us .int 110 (.at .bytes 4) (.int 2) (.int 2) (.int 0))) (.f2 40 (.at .int 6) (.int 1)))) (.need (.f2 46
    (.f2 41 (.f1 13 (.us .int 110 (.at .bytes 4) (.int 2) (.int 2) (.int 0))) (.f2 40 (.at .int 6) (.int 1))) (.f2 41 (.f1 13 (.us .int 110 (.at .bytes
    4) (.int 2) (.int 2) (.int 0))) (.at .int 6))) (.need (.f2 47 (.int 0) (.f2 40 (.at .int 6) (.int 1))) (.need (.f2 47 (.f2 40 (.at .int 6) (.int
    1)) (.f1 13 (.us .int 110 (.at .bytes 4) (.int 2) (.int 2) (.int 0)))) (.need (.f2 153 (.f2 113 (.f2 119 (.f2 113 (.at .ints 9) (.at .int 6)) (.f2
    122 (.us .int 110 (.at .bytes 4) (.f2 40 (.f2 42 (.int 4) (.at .int 6)) (.int 8)) (.int 4) (.int 0)) (.f1 152 (.int 0)))) (.f2 40 (.at .int 6)
    (.int 1))) (.us .ints 114 (.at .bytes 4) (.f2 40 (.at .int 6) (.int 1)) (.int 0) (.int 0))) (.need (.f2 47 (.f2 40 (.at .int 6) (.int 1)) (.f2 40
    (.f1 30 (.f2 113 (.at .ints 9) (.at .int 6))) (.int 1))) .tt)))))))))))))))))))) (.imp (.f2 47 (.us .int 110 (.at .bytes 4) (.int 2) (.int 2) (.int
    0)) (.at .int 6)) (.need (.f1 23 (.us .int 110 (.at .bytes 4) (.int 4) (.int 4) (.int 0))) (.need (.f2 47 (.at .int 6) (.int 140737488355328))
    (.all 10 .int (.all 11 .int (.all 12 .int (.all 13 .bytes (.all 14 .int (.imp (.f2 45 (.at .int 14) (.us .int 101 (.us .int 110 (.at .bytes 4)
    (.int 4) (.int 4) (.int 0)) (.at .ints 9) (.at .int 6) (.at .int 2))) (.imp (.f2 155 (.f2 114 (.at .bytes 13) (.at .int 11)) (.us .bytes 102 (.us
    .int 110 (.at .bytes 4) (.int 4) (.int 4) (.int 0)) (.at .ints 9) (.at .int 6) (.at .int 2))) (.imp (.f2 45 (.at .int 11) (.f1 31 (.us .bytes 102
    (.us .int 110 (.at .bytes 4) (.int 4) (.int 4) (.int 0)) (.at .ints 9) (.at .int 6) (.at .int 2)))) (.imp (.f2 47 (.at .int 11) (.f1 31 (.at .bytes
    13))) (.imp (.f2 47 (.at .int 11) (.at .int 12)) (.and (.imp (.f2 45 (.at .int 14) (.int 0)) (.need (.f2 47 (.int 0) (.at .int 11)) (.and (.imp
    (.f1 2 (.f2 150 (.f2 114 (.at .bytes 13) (.at .int 11)) (.f2 114 (.at .bytes 4) (.at .int 2)))) (.need (.f2 45 (.int 0) (.us .int 112 (.at .bytes
    4) (.at .int 2) (.int 0) (.int 0))) (.need (.f2 45 (.int 60) (.us .int 111 (.at .bytes 4) (.at .int 2) (.int 0) (.int 0))) (.need (.f2 153 (.f1 152
    (.int 0)) (.us .ints 113 (.at .bytes 4) (.at .int 2) (.int 0) (.int 0))) (.need (.f2 45 (.int 0) (.f1 30 (.us .ints 113 (.at .bytes 4) (.at .int 2)
    (.int 0) (.int 0)))) .tt))))) (.imp (.f1 2 (.f1 2 (.f2 150 (.f2 114 (.at .bytes 13) (.at .int 11)) (.f2 114 (.at .bytes 4) (.at .int 2))))) (.need
    (.f2 45 (.us .int 110 (.at .bytes 4) (.int 4) (.int 4) (.int 0)) (.us .int 112 (.at .bytes 4) (.at .int 2) (.int 0) (.int 0))) (.need (.f2 45 (.int
    0) (.us .int 111 (.at .bytes 4) (.at .int 2) (.int 0) (.int 0))) (.need (.f2 153 (.f2 113 (.at .ints 9) (.at .int 6)) (.us .ints 113 (.at .bytes 4)
    (.at .int 2) (.int 0) (.int 0))) (.need (.f2 45 (.at .int 6) (.f1 30 (.us .ints 113 (.at .bytes 4) (.at .int 2) (.int 0) (.int 0)))) .tt))))))))
    (.imp (.f1 2 (.f2 45 (.at .int 14) (.int 0))) (.need (.f2 45 (.int 0) (.us .int 112 (.at .bytes 4) (.at .int 2) (.int 0) (.int 0))) (.need (.f2 45
    (.int 60) (.us .int 111 (.at .bytes 4) (.at .int 2) (.int 0) (.int 0))) (.need (.f2 153 (.f1 152 (.int 0)) (.us .ints 113 (.at .bytes 4) (.at .int
    2) (.int 0) (.int 0))) (.need (.f2 45 (.int 0) (.f1 30 (.us .ints 113 (.at .bytes 4) (.at .int 2) (.int 0) (.int 0))))
    .tt))))))))))))))))))))))))))))))))))))))))))
theorem rdc_vc : vcOf Try.prog rdcCx 12 22 rdcCtr = rdcVc := by kernel_rfl
-- END VC rdc
-- BEGIN VC lnb
def lnbVc : VC := (.imp (.f2 47 (.int 0) (.at .int 2)) (.imp (.f2 47 (.at .int 2) (.f1 31 (.at .bytes 4))) (.imp (.f2 47 (.at .int 2) (.at .int 3)) (.imp (.f2 47 (.at
    .int 2) (.int 1099511627776)) (.need (.f1 23 (.f2 40 (.at .int 2) (.int 3))) (.need (.f2 47 (.int 0) (.f2 40 (.at .int 2) (.int 3))) (.need (.f2 47
    (.f2 40 (.at .int 2) (.int 3)) (.f2 40 (.at .int 2) (.int 3))) (.need (.f2 47 (.f2 42 (.f2 40 (.at .int 2) (.int 3)) (.int 1)) (.int
    140737488355328)) (.all 6 .int (.imp (.f2 47 (.int 0) (.at .int 6)) (.need (.f2 46 (.at .int 2) (.f2 40 (.at .int 2) (.int 3))) (.need (.f2 46 (.at
    .int 2) (.f2 40 (.f1 31 (.f2 114 (.f2 126 (.f2 40 (.at .int 2) (.int 3)) (.int 0)) (.int 0))) (.f2 40 (.f1 31 (.f2 114 (.f2 114 (.at .bytes 4) (.at
    .int 2)) (.f2 51 (.at .int 2) (.f2 40 (.at .int 2) (.int 3))))) (.f1 31 (.f2 117 (.f2 126 (.f2 40 (.at .int 2) (.int 3)) (.int 0)) (.f2 51 (.at
    .int 2) (.f2 40 (.at .int 2) (.int 3)))))))) (.need (.f1 23 (.f2 40 (.at .int 2) (.int 1))) (.need (.f2 47 (.int 0) (.f2 40 (.at .int 2) (.int 1)))
    (.need (.f2 46 (.f2 40 (.at .int 2) (.int 1)) (.f2 40 (.at .int 2) (.int 3))) (.need (.f2 46 (.f2 40 (.at .int 2) (.int 1)) (.f2 40 (.f1 31 (.f2
    114 (.f2 126 (.f2 40 (.at .int 2) (.int 3)) (.int 0)) (.int 0))) (.f2 40 (.f1 31 (.f2 114 (.f2 114 (.at .bytes 4) (.at .int 2)) (.f2 51 (.at .int
    2) (.f2 40 (.at .int 2) (.int 3))))) (.f1 31 (.f2 117 (.f2 126 (.f2 40 (.at .int 2) (.int 3)) (.int 0)) (.f2 51 (.at .int 2) (.f2 40 (.at .int 2)
    (.int 3)))))))) (.need (.f1 23 (.f2 40 (.at .int 2) (.int 2))) (.need (.f2 47 (.int 0) (.f2 40 (.at .int 2) (.int 2))) (.need (.f2 46 (.f2 40 (.at
    .int 2) (.int 2)) (.f2 40 (.at .int 2) (.int 3))) (.need (.f2 46 (.f2 40 (.at .int 2) (.int 2)) (.f2 40 (.f1 31 (.f2 114 (.f2 126 (.f2 40 (.at .int
    2) (.int 3)) (.int 0)) (.int 0))) (.f2 40 (.f1 31 (.f2 114 (.f2 114 (.at .bytes 4) (.at .int 2)) (.f2 51 (.at .int 2) (.f2 40 (.at .int 2) (.int
    3))))) (.f1 31 (.f2 117 (.f2 126 (.f2 40 (.at .int 2) (.int 3)) (.int 0)) (.f2 51 (.at .int 2) (.f2 40 (.at .int 2) (.int 3)))))))) (.need (.f2 47
    (.at .int 2) (.f2 40 (.at .int 2) (.int 3))) (.need (.f2 45 (.f2 40 (.at .int 2) (.int 3)) (.f2 40 (.at .int 2) (.int 3))) (.need (.f2 155 (.f3 131
    (.f3 131 (.f3 131 (.f2 120 (.f2 114 (.f2 126 (.f2 40 (.at .int 2) (.int 3)) (.int 0)) (.int 0)) (.f2 120 (.f2 114 (.f2 114 (.at .bytes 4) (.at .int
    2)) (.f2 51 (.at .int 2) (.f2 40 (.at .int 2) (.int 3)))) (.f2 117 (.f2 126 (.f2 40 (.at .int 2) (.int 3)) (.int 0)) (.f2 51 (.at .int 2) (.f2 40
    (.at .int 2) (.int 3)))))) (.at .int 2) (.int 71)) (.f2 40 (.at .int 2) (.int 1)) (.int 72)) (.f2 40 (.at .int 2) (.int 2)) (.int 73)) (.f2 120
    (.f2 114 (.at .bytes 4) (.at .int 2)) (.f2 123 (.int 71) (.f2 123 (.int 72) (.f2 123 (.int 73) (.f1 153 (.int 0))))))) .tt)))))))))))))))))))))))
theorem lnb_vc : vcOf Try.prog lnbCx 12 20 lnbCtr = lnbVc := by kernel_rfl
-- END VC lnb
-- BEGIN VC alb
def albVc : VC := (.imp (.f2 47 (.int 0) (.at .int 2)) (.imp (.f2 45 (.at .int 2) (.at .int 7)) (.imp (.f2 45 (.at .int 3) (.f2 40 (.at .int 2) (.int 3))) (.imp (.f2 47
    (.at .int 7) (.f1 31 (.at .bytes 9))) (.imp (.f2 47 (.at .int 7) (.at .int 8)) (.imp (.f2 47 (.at .int 2) (.int 1099511627776)) (.imp (.f2 155 (.at
    .bytes 1) (.f2 120 (.f2 114 (.at .bytes 9) (.at .int 7)) (.f2 123 (.int 71) (.f2 123 (.int 72) (.f2 123 (.int 73) (.f1 153 (.int 0))))))) (.need
    (.f2 47 (.int 0) (.at .int 7)) (.and .tt (.imp (.f2 45 (.at .int 2) (.at .int 7)) (.need (.f1 23 (.f2 40 (.at .int 7) (.int 3))) (.need (.f2 47
    (.int 0) (.at .int 3)) (.need (.f2 47 (.int 0) (.f2 40 (.at .int 7) (.int 3))) (.need (.f2 47 (.f2 40 (.at .int 7) (.int 3)) (.at .int 3)) (.need
    (.f2 47 (.at .int 7) (.at .int 3)) (.need (.f2 47 (.at .int 7) (.f1 31 (.at .bytes 1))) (.and (.imp (.f2 150 (.f2 114 (.at .bytes 1) (.at .int 7))
    (.f2 114 (.at .bytes 9) (.at .int 7))) (.need (.f2 46 (.at .int 7) (.f2 40 (.at .int 7) (.int 3))) (.need (.f2 46 (.at .int 7) (.f1 31 (.at .bytes
    1))) (.and (.imp (.f2 45 (.f2 111 (.at .bytes 1) (.at .int 7)) (.int 71)) (.need (.f1 23 (.f2 40 (.at .int 7) (.int 1))) (.need (.f2 47 (.int 0)
    (.f2 40 (.at .int 7) (.int 1))) (.need (.f2 46 (.f2 40 (.at .int 7) (.int 1)) (.f2 40 (.at .int 7) (.int 3))) (.need (.f2 46 (.f2 40 (.at .int 7)
    (.int 1)) (.f1 31 (.at .bytes 1))) (.and (.imp (.f2 45 (.f2 111 (.at .bytes 1) (.f2 40 (.at .int 7) (.int 1))) (.int 72)) (.need (.f1 23 (.f2 40
    (.at .int 7) (.int 2))) (.need (.f2 47 (.int 0) (.f2 40 (.at .int 7) (.int 2))) (.need (.f2 46 (.f2 40 (.at .int 7) (.int 2)) (.f2 40 (.at .int 7)
    (.int 3))) (.need (.f2 46 (.f2 40 (.at .int 7) (.int 2)) (.f1 31 (.at .bytes 1))) (.need (.f2 47 (.int 0) (.f2 40 (.at .int 2) (.int 3))) (.need
    (.f2 45 (.f1 31 (.at .bytes 1)) (.f2 40 (.at .int 2) (.int 3))) (.all 11 .int (.all 12 .bytes (.imp (.f2 47 (.int 0) (.at .int 11)) (.imp (.f2 47
    (.at .int 11) (.f2 40 (.at .int 2) (.int 3))) (.imp (.f2 45 (.f1 31 (.at .bytes 12)) (.f2 40 (.at .int 2) (.int 3))) (.and (.imp (.f2 46 (.at .int
    11) (.f2 40 (.at .int 7) (.int 3))) (.need (.f2 46 (.at .int 11) (.f1 31 (.at .bytes 12))) (.need (.f1 23 (.f2 40 (.at .int 11) (.int 1))) (.need
    (.f2 47 (.int 0) (.f2 41 (.f2 40 (.at .int 2) (.int 3)) (.f2 40 (.at .int 11) (.int 1)))) (.need (.f2 46 (.f2 41 (.f2 40 (.at .int 2) (.int 3))
    (.f2 40 (.at .int 11) (.int 1))) (.f2 41 (.f2 40 (.at .int 2) (.int 3)) (.at .int 11))) (.need (.f2 47 (.int 0) (.f2 40 (.at .int 11) (.int 1)))
    (.need (.f2 47 (.f2 40 (.at .int 11) (.int 1)) (.f2 40 (.at .int 2) (.int 3))) .tt))))))) (.imp (.f2 47 (.f2 40 (.at .int 7) (.int 3)) (.at .int
    11)) (.need (.f2 45 (.f2 111 (.at .bytes 1) (.f2 40 (.at .int 7) (.int 2))) (.int 73)) .tt))))))))))))))) (.imp (.f1 2 (.f2 45 (.f2 111 (.at .bytes
    1) (.f2 40 (.at .int 7) (.int 1))) (.int 72))) (.need (.f2 47 (.int 0) (.f2 40 (.at .int 2) (.int 3))) (.need (.f2 45 (.f1 31 (.at .bytes 1)) (.f2
    40 (.at .int 2) (.int 3))) (.all 11 .int (.all 12 .bytes (.imp (.f2 47 (.int 0) (.at .int 11)) (.imp (.f2 47 (.at .int 11) (.f2 40 (.at .int 2)
    (.int 3))) (.imp (.f2 45 (.f1 31 (.at .bytes 12)) (.f2 40 (.at .int 2) (.int 3))) (.and (.imp (.f2 46 (.at .int 11) (.f2 40 (.at .int 7) (.int 3)))
    (.need (.f2 46 (.at .int 11) (.f1 31 (.at .bytes 12))) (.need (.f1 23 (.f2 40 (.at .int 11) (.int 1))) (.need (.f2 47 (.int 0) (.f2 41 (.f2 40 (.at
    .int 2) (.int 3)) (.f2 40 (.at .int 11) (.int 1)))) (.need (.f2 46 (.f2 41 (.f2 40 (.at .int 2) (.int 3)) (.f2 40 (.at .int 11) (.int 1))) (.f2 41
    (.f2 40 (.at .int 2) (.int 3)) (.at .int 11))) (.need (.f2 47 (.int 0) (.f2 40 (.at .int 11) (.int 1))) (.need (.f2 47 (.f2 40 (.at .int 11) (.int
    1)) (.f2 40 (.at .int 2) (.int 3))) .tt))))))) (.imp (.f2 47 (.f2 40 (.at .int 7) (.int 3)) (.at .int 11)) (.need (.bool .false)
    .tt))))))))))))))))) (.imp (.f1 2 (.f2 45 (.f2 111 (.at .bytes 1) (.at .int 7)) (.int 71))) (.need (.f2 47 (.int 0) (.f2 40 (.at .int 2) (.int 3)))
    (.need (.f2 45 (.f1 31 (.at .bytes 1)) (.f2 40 (.at .int 2) (.int 3))) (.all 11 .int (.all 12 .bytes (.imp (.f2 47 (.int 0) (.at .int 11)) (.imp
    (.f2 47 (.at .int 11) (.f2 40 (.at .int 2) (.int 3))) (.imp (.f2 45 (.f1 31 (.at .bytes 12)) (.f2 40 (.at .int 2) (.int 3))) (.and (.imp (.f2 46
    (.at .int 11) (.f2 40 (.at .int 7) (.int 3))) (.need (.f2 46 (.at .int 11) (.f1 31 (.at .bytes 12))) (.need (.f1 23 (.f2 40 (.at .int 11) (.int
    1))) (.need (.f2 47 (.int 0) (.f2 41 (.f2 40 (.at .int 2) (.int 3)) (.f2 40 (.at .int 11) (.int 1)))) (.need (.f2 46 (.f2 41 (.f2 40 (.at .int 2)
    (.int 3)) (.f2 40 (.at .int 11) (.int 1))) (.f2 41 (.f2 40 (.at .int 2) (.int 3)) (.at .int 11))) (.need (.f2 47 (.int 0) (.f2 40 (.at .int 11)
    (.int 1))) (.need (.f2 47 (.f2 40 (.at .int 11) (.int 1)) (.f2 40 (.at .int 2) (.int 3))) .tt))))))) (.imp (.f2 47 (.f2 40 (.at .int 7) (.int 3))
    (.at .int 11)) (.need (.bool .false) .tt))))))))))))))) (.imp (.f1 2 (.f2 150 (.f2 114 (.at .bytes 1) (.at .int 7)) (.f2 114 (.at .bytes 9) (.at
    .int 7)))) (.need (.f2 47 (.int 0) (.f2 40 (.at .int 2) (.int 3))) (.need (.f2 45 (.f1 31 (.at .bytes 1)) (.f2 40 (.at .int 2) (.int 3))) (.all 11
    .int (.all 12 .bytes (.imp (.f2 47 (.int 0) (.at .int 11)) (.imp (.f2 47 (.at .int 11) (.f2 40 (.at .int 2) (.int 3))) (.imp (.f2 45 (.f1 31 (.at
    .bytes 12)) (.f2 40 (.at .int 2) (.int 3))) (.and (.imp (.f2 46 (.at .int 11) (.f2 40 (.at .int 7) (.int 3))) (.need (.f2 46 (.at .int 11) (.f1 31
    (.at .bytes 12))) (.need (.f1 23 (.f2 40 (.at .int 11) (.int 1))) (.need (.f2 47 (.int 0) (.f2 41 (.f2 40 (.at .int 2) (.int 3)) (.f2 40 (.at .int
    11) (.int 1)))) (.need (.f2 46 (.f2 41 (.f2 40 (.at .int 2) (.int 3)) (.f2 40 (.at .int 11) (.int 1))) (.f2 41 (.f2 40 (.at .int 2) (.int 3)) (.at
    .int 11))) (.need (.f2 47 (.int 0) (.f2 40 (.at .int 11) (.int 1))) (.need (.f2 47 (.f2 40 (.at .int 11) (.int 1)) (.f2 40 (.at .int 2) (.int 3)))
    .tt))))))) (.imp (.f2 47 (.f2 40 (.at .int 7) (.int 3)) (.at .int 11)) (.need (.bool .false) .tt))))))))))))))))))))))))))))
theorem alb_vc : vcOf Try.prog albCx 12 24 albCtr = albVc := by kernel_rfl
-- END VC alb
-- BEGIN VC sbr
def sbrVc : VC := (.imp (.f2 47 (.int 0) (.at .int 2)) (.imp (.f2 47 (.at .int 2) (.f1 31 (.at .bytes 1))) (.imp (.f2 47 (.at .int 2) (.int 1099511627776)) (.imp (.f2 47
    (.int 0) (.at .int 7)) (.imp (.f2 47 (.at .int 7) (.f1 31 (.at .bytes 9))) (.imp (.f2 47 (.at .int 7) (.int 1099511627776)) (.imp (.f2 47 (.at .int
    2) (.at .int 3)) (.imp (.f2 47 (.at .int 7) (.at .int 8)) (.need (.f2 48 (.f2 150 (.f2 114 (.at .bytes 1) (.at .int 2)) (.f2 114 (.at .bytes 9)
    (.at .int 7))) (.f2 155 (.f2 114 (.at .bytes 1) (.at .int 2)) (.f2 114 (.at .bytes 9) (.at .int 7)))) .tt)))))))))
theorem sbr_vc : vcOf Try.prog sbrCx 12 14 sbrCtr = sbrVc := by kernel_rfl
-- END VC sbr
theorem room_pos {l : Int} (h : sizeB l = true) : ¬ roomI l = 0 := by
  have hs : 512 ≤ l ∧ l ≤ 65536 := by simp only [sizeB, Bool.or_eq_true, beq_iff_eq] at h; omega
  unfold roomI
  rw [h]
  show ¬ (l - 12).tdiv 4 = 0
  rw [Int.tdiv_eq_ediv_of_nonneg (by omega)]; omega
theorem room_size {l : Int} (h : ¬ roomI l = 0) : sizeB l = true := by
  cases hs : sizeB l
  · exact absurd (show roomI l = 0 by unfold roomI; rw [hs]; rfl) h
  · rfl
section
variable {C : List UInt8} {l : Int} (h1 : 0 ≤ l) (h2 : l ≤ C.length)
include h1 h2
theorem f_noroom (h : roomI l = 0) : NoD C l := no_of h1 h2 fun hd => room_pos (dec_all' h1 h2 hd).1 h
theorem f_code {k x : Int} {X : List Int} (hk : k ≤ rdN C 2 2) (hk' : rdN C 2 2 ≤ k) (hX : X.take k.toNat = pagesN C k.toNat) (hx : x = encE (rdN C 4 4) (X.take k.toNat) l) (h : ¬ x = 0) : NoD C l := no_of h1 h2 fun hd => by
  obtain rfl : k = rdN C 2 2 := by omega
  obtain ⟨a1, _, _, a4, _, a6, a7, _⟩ := dec_all' h1 h2 hd
  rw [hX, enc_scan a1 a6 (by rw [pages_len]; have := rd_nn C 2 2; omega)] at hx
  exact h (hx.trans a7)
theorem c_cut (h : sizeB l = true) (hr : rdN C 2 2 ≤ roomI l) : (C.take l.toNat).length = l.toNat ∧ rdN (C.take l.toNat) 2 2 = rdN C 2 2 ∧ rdN (C.take l.toNat) 4 4 = rdN C 4 4 ∧ pagesN (C.take l.toNat) (rdN C 2 2).toNat = pagesN C (rdN C 2 2).toNat := by
  have hp := room_le h
  have hn := rd_nn C 2 2
  exact ⟨by rw [List.length_take]; omega, rd_cut (by omega) (by omega) (by omega), rd_cut (by omega) (by omega) (by omega), pages_cut (by omega)⟩
theorem f_other {k m : Int} {X : List Int} {B : List UInt8} (hk : k ≤ rdN C 2 2) (hk' : rdN C 2 2 ≤ k) (hX : X.take k.toNat = pagesN C k.toNat) (hB : B.take m.toNat = encR (rdN C 4 4) (X.take k.toNat) l) (h : ¬ B.take m.toNat = C.take l.toNat) : NoD C l := no_of h1 h2 fun hd => by
  obtain rfl : k = rdN C 2 2 := by omega
  obtain ⟨a1, _, _, a4, _⟩ := dec_all' h1 h2 hd
  have hall := (dec_all hd).2.2.2.2.2.2.2.2.2
  obtain ⟨c0, c2, c4, cp⟩ := c_cut h1 h2 a1 a4
  rw [c2, c4, cp, c0, show ((l.toNat : Nat) : Int) = l by omega] at hall
  rw [hX, hall] at hB
  exact h hB
theorem f_done {k m x : Int} {X : List Int} {B : List UInt8} (hr0 : ¬ roomI l = 0) (hr : rdN C 2 2 ≤ roomI l) (hk : k ≤ rdN C 2 2) (hk' : rdN C 2 2 ≤ k) (hX : X.take k.toNat = pagesN C k.toNat) (hx : x = encE (rdN C 4 4) (X.take k.toNat) l) (hx0 : x = 0)
    (hB : B.take m.toNat = encR (rdN C 4 4) (X.take k.toNat) l) (h : B.take m.toNat = C.take l.toNat) :
    rdN C 4 4 = decN (C.take l.toNat) ∧ 0 = decE (C.take l.toNat) ∧ X.take k.toNat = decP (C.take l.toNat) ∧ k = ((decP (C.take l.toNat)).length : Nat) ∧ True := by
  obtain rfl : k = rdN C 2 2 := by omega
  have hs := room_size hr0
  obtain ⟨c0, c2, c4, cp⟩ := c_cut h1 h2 hs hr
  have hn := rd_nn C 2 2
  have hG : decG (C.take l.toNat) = true := by
    unfold decG
    rw [c2, c4, cp, c0, show ((l.toNat : Nat) : Int) = l by omega, hs, decide_eq_true hr, ← hX, ← hx, hx0, ← hB, h]; simp
  unfold decN decE decP
  rw [hG, c2, c4, hX, cp]
  refine ⟨rfl, rfl, rfl, ?_, trivial⟩
  show rdN C 2 2 = ((pagesN C (rdN C 2 2).toNat).length : Nat)
  rw [pages_len]; omega
end
set_option maxHeartbeats 2000000 in
theorem rdc_ok (S : Sig FL) (hE : EnSig S) (hZ : SzSig S) (hU : SuSig S) (hC : EcSig S) (hD : DcSig S) : CtrOk S Try.prog 22 rdcCtr := by
  refine vcOf_sound S (C := rdcCx) (fuel := 12) (cx_of ⟨one_spec (by decide) (rro_ok S hZ), one_spec (by decide) (rrd_ok S ⟨hD.u110⟩), one_spec (by decide) (ren_ok S hE hZ hU hC), trivial⟩ ⟨⟨⟨by decide, emI_gh S⟩, trivial, ⟨by decide, emI_gh S⟩, trivial⟩, trivial⟩ trivial) fun ρ => ?_
  rw [rdc_vc]
  simp only [rdcVc, w13, take_self, hZ.u98, hC.u101, hC.u102, hD.u110, hD.u111, hD.u112, hD.u113, hD.u114, VC.den, SX.den, co_int, co_bool, co_bytes, co_ints, Env.upd, p155, p153, p23, p45, p46, p47, p50, b46, b47, t46, t47, p2_45, ap1_2, ap1_30, ap1_31, ap1_152, ap1_153, ap2_40, ap2_41, ap2_42, ap2_45, ap2_51i, ap2_111, ap2_113, ap2_114, ap2_117, ap2_119, ap2_120, ap2_122, ap2_123, ap2_126, ap2_150, ap3_131, beq_iff_eq, Bool.not_eq_true', beq_eq_false_iff_ne, ne_eq, Bool.not_not, U.toProp_bool, U.toBool_bool, i64lo, i64hi, U.toInt_int, U.toInts_ints, U.toBytes_bytes, Int.toNat_zero, Nat.reduceEqDiff, reduceIte, U.int.injEq, U.bool.injEq, U.bytes.injEq, U.ints.injEq]
  generalize (ρ 4).toBytes = C
  generalize (ρ 2).toInt = l
  generalize (ρ 3).toInt = c
  intro h1 h2 h3 h4
  have hn := rd_nn C 2 2
  have hn2 := rd2 C 2
  have hrs : ¬ roomI l = 0 → 512 ≤ l ∧ l ≤ 65536 ∧ 4 * roomI l + 12 ≤ l := fun h => room_le (room_size h)
  repeat' (first
    | exact trivial
    | with_reducible exact f_noroom h1 h2 (by assumption)
    | with_reducible exact f_room h1 h2 (by assumption)
    | with_reducible exact f_code h1 h2 (by assumption) (by assumption) (by assumption) (by assumption) (by assumption)
    | with_reducible exact f_other h1 h2 (by assumption) (by assumption) (by assumption) (by assumption) (by assumption)
    | with_reducible exact f_done h1 h2 (by assumption) (by assumption) (by assumption) (by assumption) (by assumption) (by assumption) (by assumption) (by assumption) (by assumption)
    | apply And.intro | intro _)
  all_goals first
    | with_reducible exact lo_rd _ _ _
    | with_reducible exact hi_rd2 _ _
    | with_reducible exact hi_rd4 _ _
    | with_reducible exact pg_step (by assumption) (by assumption)
    | (have := hrs (by assumption); omega)
    | (simp only [List.length_take]; omega)
    | rfl
theorem lnb_list (L : List UInt8) (n : Nat) (h : n ≤ L.length) :
    ((((List.replicate (n + 3) (0 : UInt8)).take 0 ++ ((L.take n).take n ++ (List.replicate (n + 3) (0 : UInt8)).drop n)).set n 71).set (n + 1) 72).set (n + 2) 73 = L.take n ++ [71, 72, 73] := by
  have hl : (L.take n).length = n := by rw [List.length_take]; omega
  have hd : (List.replicate (n + 3) (0 : UInt8)).drop n = [0, 0, 0] := by rw [List.drop_replicate]; simp [show n + 3 - n = 3 by omega]
  rw [List.take_zero, List.nil_append, List.take_of_length_le (by omega), hd, List.set_append_right _ _ (by omega), List.set_append_right _ _ (by omega), List.set_append_right _ _ (by omega), hl]
  simp [show n + 1 - n = 1 by omega, show n + 2 - n = 2 by omega]
theorem lnb_ok (S : Sig FL) : CtrOk S Try.prog 20 lnbCtr := by
  refine vcOf_sound S (C := lnbCx) (fuel := 12) (cx_of trivial trivial trivial) fun ρ => ?_
  rw [lnb_vc]
  simp only [lnbVc, VC.den, SX.den, co_int, co_bool, co_bytes, co_ints, Env.upd, p155, p153, p23, p45, p46, p47, p50, b46, b47, t46, t47, p2_45, ap1_2, ap1_30, ap1_31, ap1_152, ap1_153, ap2_40, ap2_41, ap2_42, ap2_45, ap2_51i, ap2_111, ap2_113, ap2_114, ap2_117, ap2_119, ap2_120, ap2_122, ap2_123, ap2_126, ap2_150, ap3_131, beq_iff_eq, Bool.not_eq_true', beq_eq_false_iff_ne, ne_eq, Bool.not_not, U.toProp_bool, U.toBool_bool, i64lo, i64hi, U.toInt_int, U.toInts_ints, U.toBytes_bytes, Int.toNat_zero, Nat.reduceEqDiff, reduceIte, U.int.injEq, U.bool.injEq, U.bytes.injEq, U.ints.injEq]
  generalize (ρ 4).toBytes = A
  generalize (ρ 2).toInt = m
  generalize (ρ 3).toInt = c
  intro h1 h2 h3 h4
  have hmin : imin m (m + 3) = m := imin_left (by omega)
  have e3 : (m + 3).toNat = m.toNat + 3 := by omega
  have e2 : (m + 2).toNat = m.toNat + 2 := by omega
  have e1 : (m + 1).toNat = m.toNat + 1 := by omega
  simp only [hmin]
  rw [e3, e2, e1]
  have hA : (A.take m.toNat).length = m.toNat := by rw [List.length_take]; omega
  repeat' (first | exact trivial | apply And.intro | intro _)
  all_goals first
    | omega
    | (simp only [List.length_take, List.length_drop, List.length_replicate]; omega)
    | exact lnb_list A m.toNat (by omega)
theorem as_len {A B : List UInt8} {m : Int} (h0 : 0 ≤ m) (hm : m ≤ A.length) (h : B = A.take m.toNat ++ [UInt8.ofNat (Int.toNat 71), UInt8.ofNat (Int.toNat 72), UInt8.ofNat (Int.toNat 73)]) :
    (B.length : Int) = m + 3 ∧ B.take m.toNat = A.take m.toNat ∧ (((B.getD m.toNat 0).toNat : Nat) : Int) = 71 ∧ (((B.getD (m + 1).toNat 0).toNat : Nat) : Int) = 72 ∧ (((B.getD (m + 2).toNat 0).toNat : Nat) : Int) = 73 := by
  have hl : (A.take m.toNat).length = m.toNat := by rw [List.length_take]; omega
  have g : ∀ k : Nat, (B.getD (m.toNat + k) 0) = [UInt8.ofNat (Int.toNat 71), UInt8.ofNat (Int.toNat 72), UInt8.ofNat (Int.toNat 73)].getD k 0 := fun k => by
    rw [h, List.getD_eq_getElem?_getD, List.getElem?_append_right (by omega), hl, Nat.add_sub_cancel_left, List.getD_eq_getElem?_getD]
  refine ⟨by rw [h, List.length_append, hl]; simp; omega, by rw [h, List.take_append_of_le_length (by omega), List.take_take, Nat.min_self], ?_, ?_, ?_⟩
  · have := g 0; rw [Nat.add_zero] at this; rw [this]; rfl
  · rw [show (m + 1).toNat = m.toNat + 1 by omega, g 1]; rfl
  · rw [show (m + 2).toNat = m.toNat + 2 by omega, g 2]; rfl
theorem alb_ok (S : Sig FL) : CtrOk S Try.prog 24 albCtr := by
  refine vcOf_sound S (C := albCx) (fuel := 12) (cx_of trivial ⟨⟨trivial, trivial⟩, trivial⟩ trivial) fun ρ => ?_
  rw [alb_vc]
  simp only [albVc, VC.den, SX.den, co_int, co_bool, co_bytes, co_ints, Env.upd, p155, p153, p23, p45, p46, p47, p50, b46, b47, t46, t47, p2_45, ap1_2, ap1_30, ap1_31, ap1_152, ap1_153, ap2_40, ap2_41, ap2_42, ap2_45, ap2_51i, ap2_111, ap2_113, ap2_114, ap2_117, ap2_119, ap2_120, ap2_122, ap2_123, ap2_126, ap2_150, ap3_131, beq_iff_eq, Bool.not_eq_true', beq_eq_false_iff_ne, ne_eq, Bool.not_not, U.toProp_bool, U.toBool_bool, i64lo, i64hi, U.toInt_int, U.toInts_ints, U.toBytes_bytes, Int.toNat_zero, Nat.reduceEqDiff, reduceIte, U.int.injEq, U.bool.injEq, U.bytes.injEq, U.ints.injEq]
  generalize (ρ 9).toBytes = A
  generalize (ρ 1).toBytes = B
  generalize (ρ 2).toInt = m
  generalize (ρ 3).toInt = c
  generalize (ρ 7).toInt = n
  generalize (ρ 8).toInt = d
  intro h1 h2 h3 h4 h5 h6 h7
  subst h2
  obtain ⟨k1, k2, k3, k4, k5⟩ := as_len h1 h4 h7
  clear h7
  simp only [k1, k2, k3, k4, k5, beq_self_eq_true, true_imp_iff, not_true_eq_false, false_imp_iff, Bool.true_eq_false, and_true]
  repeat' (first | exact trivial | apply And.intro | intro _)
  all_goals first
    | omega
    | (exfalso; simp_all; done)
    | simp_all
theorem sbr_ok (S : Sig FL) : CtrOk S Try.prog 14 sbrCtr := by
  refine vcOf_sound S (C := sbrCx) (fuel := 12) (cx_of trivial trivial trivial) fun ρ => ?_
  rw [sbr_vc]
  simp only [sbrVc, VC.den, SX.den, co_int, co_bytes, p47, ap1_31, ap2_114, U.toInt_int, U.toBytes_bytes]
  intro a1 a2 a3 a4 a5 a6 a7 a8
  refine ⟨?_, trivial⟩
  simp [ap2]
  rw [Bool.eq_iff_iff, beq_iff_eq, decide_eq_true_iff]
end
end Go.Proofs.Ytmjonggabppgaaa

/- Lists that are kept beside one and the same list that they must be: memory. -/
set_option linter.unusedSimpArgs false
set_option linter.unusedVariables false
namespace Go.Proofs.Ytmjonggabppgaaa
noncomputable section
open Go.Eng
def itemS (wl : Int) (Z r : List Int) : HProp := fun h => ∃ x : List Int, (0 ≤ g1 r ∧ g1 r ≤ x.length ∧ g1 r ≤ 65534 ∧ x.take (g1 r).toNat = Z.take wl.toNat) ∧ iArr (g0 r) x (g2 r) h
def ksH (wl : Int) (Z : List Int) : List (List Int) → HProp
  | [] => emp
  | r :: rs => star (itemS wl Z r) (ksH wl Z rs)
/-- Key: [how many, length, block], what they must be, rows. -/
def kp22 (k : List (List Int)) : HProp := ksH (g1 (k.getD 0 [])) (k.getD 1 []) ((k.drop 2).take (g0 (k.getD 0 [])).toNat)
/-- .. one of them out. Key: [place, how many, length, block, block], what they must be, rows. -/
def kp29 (k : List (List Int)) : HProp := fun h => (k.getD 0 []).getD 3 0 = (k.getD 0 []).getD 4 0 ∧
  star (ksH (g2 (k.getD 0 [])) (k.getD 1 []) (((k.drop 2).take (g1 (k.getD 0 [])).toNat).take (g0 (k.getD 0 [])).toNat)) (ksH (g2 (k.getD 0 [])) (k.getD 1 []) (((k.drop 2).take (g1 (k.getD 0 [])).toNat).drop ((g0 (k.getD 0 [])).toNat + 1))) h
structure KsSig (S : Sig FL) : Prop where
  p22 : ∀ w0 k x, S.prd 22 w0 k x = kp22 k.toRows
  p29 : ∀ w0 k x, S.prd 29 w0 k x = kp29 k.toRows
  u116 : ∀ a b c d, S.usr 116 a b c d = .bool ((a.toRows.take b.toInt.toNat).all fun r => g0 r == c.toInt && g1 r == d.toInt)
theorem kp22_mk (n wl wb : Int) (Z : List Int) (P : List (List Int)) : kp22 ([n, wl, wb] :: Z :: P) = ksH wl Z (P.take n.toNat) := rfl
theorem kp29_mk (i n wl qb wb : Int) (Z : List Int) (P : List (List Int)) : kp29 ([i, n, wl, qb, wb] :: Z :: P) = fun h => qb = wb ∧ star (ksH wl Z ((P.take n.toNat).take i.toNat)) (ksH wl Z ((P.take n.toNat).drop (i.toNat + 1))) h := rfl
def c22 (n wl wb Z P : SX) : Ch := .prd 22 (cons1 (ints3 n wl wb) (cons1 Z P)) z0
def c29 (i n wl qb wb Z P : SX) : Ch := .prd 29 (cons1 (ints5 i n wl qb wb) (cons1 Z P)) z0
def usW (Q n b l : SX) : SX := .us .bool 116 Q n b l
def emSC : Ctr := ⟨[], [], [], [], [], .tup [], [slA (.int (-1)) nilR z0], []⟩
/-- Two lists and what they must be. -/
def mk2C : Ctr := ⟨[.int, .int, .int, .ints, .int, .int, .int, .ints, .int, .int, .int, .ints], [.one (sl1 (ai 0) (ai 1) (ai 2)), .one (sl1 (ai 4) (ai 5) (ai 6)), .one (sl1 (ai 8) (ai 9) (ai 10))], [iAr (ai 0) (iA 3) (ai 2), iAr (ai 4) (iA 7) (ai 6), iAr (ai 8) (iA 11) (ai 10)],
  [eLe (.int 0) (ai 1), eLe (ai 1) (.f1 30 (iA 3)), eLe (ai 1) (.int 65534), .f2 153 (tkI (iA 3) (ai 1)) (tkI (iA 11) (ai 9)), eLe (.int 0) (ai 5), eLe (ai 5) (.f1 30 (iA 7)), eLe (ai 5) (.int 65534), .f2 153 (tkI (iA 7) (ai 5)) (tkI (iA 11) (ai 9))], [], .tup [],
  [c22 (.int 2) (ai 9) (ai 8) (iA 11) (cons1 (row3 (ai 0) (ai 1) (ai 2)) (cons1 (row3 (ai 4) (ai 5) (ai 6)) nilR)), iAr (ai 8) (iA 11) (ai 10)], []⟩
def celK : Ch := .cel (ai 0) 0 [.int .i64 (ai 1), sl1 (ai 2) (ai 3) (ai 4), sl1 (ai 6) (ai 3) (ai 7)]
/-- Told by the rows in memory. -/
def rnSC : Ctr := ⟨[.int, .int, .int, .int, .int, .rows, .int, .int, .int, .ints, .rows, .int], [.one (.ptr (ai 0) 0)], [celK, slA (ai 2) (rA 5) (ai 4), c22 (ai 3) (ai 8) (ai 11) (iA 9) (rA 10)], [eqS (tk (rA 5) (ai 3)) (tk (rA 10) (ai 3))], [], .tup [], [celK, slA (ai 2) (rA 5) (ai 4), c22 (ai 3) (ai 8) (ai 11) (iA 9) (rA 5)], []⟩
/-- One out: 9 block, 10 length, 11 room, 12 what they must be, 13 place; 14 its content. -/
def toSC : Ctr := ⟨[.int, .int, .int, .int, .int, .rows, .int, .int, .rows, .int, .int, .int, .ints, .int], [.one (.ptr (ai 0) 0), .one (.int .i64 (ai 13))], [celK, slA (ai 2) (rA 5) (ai 4), slA (ai 6) (rA 8) (ai 7), c22 (ai 3) (ai 10) (ai 9) (iA 12) (rA 5), iAr (ai 9) (iA 12) (ai 11)],
  [eLe (.int 0) (ai 13), eLt (ai 13) (ai 3), eLe (ai 3) (lenR (rA 5)), eLe (ai 3) (lenR (rA 8)), usW (rA 8) (ai 3) (ai 9) (ai 10)], [.ints], .tup [],
  [celK, slA (ai 2) (rA 5) (ai 4), slA (ai 6) (rA 8) (ai 7), c29 (ai 13) (ai 3) (ai 10) (nt (rA 8) (ai 13) 0) (ai 9) (iA 12) (rA 5), iAr (nt (rA 5) (ai 13) 0) (iA 14) (nt (rA 5) (ai 13) 2), iAr (nt (rA 8) (ai 13) 0) (iA 12) (ai 11)],
  [eLe (.int 0) (nt (rA 5) (ai 13) 1), eLe (nt (rA 5) (ai 13) 1) (.f1 30 (iA 14)), eLe (nt (rA 5) (ai 13) 1) (.int 65534), .f2 45 (nt (rA 8) (ai 13) 1) (ai 10), .f2 153 (tkI (iA 14) (nt (rA 5) (ai 13) 1)) (tkI (iA 12) (ai 10))]⟩
/-- .. put back. -/
def pbSC : Ctr := ⟨[.int, .int, .int, .int, .int, .ints, .rows, .ints, .int], [], [c29 (ai 0) (ai 1) (ai 2) (ai 3) (ai 4) (iA 5) (rA 6), iAr (nt (rA 6) (ai 0) 0) (iA 7) (nt (rA 6) (ai 0) 2), iAr (ai 3) (iA 5) (ai 8)],
  [eLe (.int 0) (ai 0), eLt (ai 0) (ai 1), eLe (ai 1) (lenR (rA 6)), eLe (.int 0) (nt (rA 6) (ai 0) 1), eLe (nt (rA 6) (ai 0) 1) (.f1 30 (iA 7)), eLe (nt (rA 6) (ai 0) 1) (.int 65534), .f2 153 (tkI (iA 7) (nt (rA 6) (ai 0) 1)) (tkI (iA 5) (ai 2))], [], .tup [],
  [c22 (ai 1) (ai 2) (ai 4) (iA 5) (rA 6), iAr (ai 4) (iA 5) (ai 8)], []⟩
def cvSC : Ctr := ⟨[.int, .int, .ints, .rows, .int], [], [c22 (ai 0) (ai 1) (ai 4) (iA 2) (rA 3)], [], [], .tup [], [c24 z0 z0 (ai 0) (rA 3)], []⟩
-- atoms of stands: 0, 1 number; 2 block, 3 number, 4 room, 5 rows; 6 block, 7 room, 8 rows; 9 block, 10 length, 11 room, 12 content, 13 rows
def stsCtr : Ctr := ⟨[.int, .int, .int, .int, .int, .rows, .int, .int, .rows, .int, .int, .int, .ints, .rows], [.one (.ptr (ai 0) 0)], [celK, slA (ai 2) (rA 5) (ai 4), slA (ai 6) (rA 8) (ai 7), c22 (ai 3) (ai 10) (ai 9) (iA 12) (rA 13), iAr (ai 9) (iA 12) (ai 11)],
  [eLe (.int 0) (ai 3), eLe (ai 3) (.int 4000000), eLe (ai 3) (lenR (rA 5)), eLe (ai 3) (lenR (rA 8)), eLe (.int 0) (ai 10), eLe (ai 10) (.f1 30 (iA 12)), eLe (ai 10) (.int 65534), usW (rA 8) (ai 3) (ai 9) (ai 10), eqS (tk (rA 5) (ai 3)) (tk (rA 13) (ai 3))], [], .one (.bool (.bool true)), [], []⟩
def stsI3 : Inv := ⟨[.int, .ints], [(6, .one (.int .i64 (di 0)))], [iAr (nt (rA 5) (ai 15) 0) (iA 1000001) (nt (rA 5) (ai 15) 2)],
  [eLe (.int 0) (di 0), eLe (di 0) (nt (rA 5) (ai 15) 1), .f2 45 (.f1 30 (iA 1000001)) (.f1 30 (iA 16)), .f2 153 (tkI (iA 1000001) (di 0)) (repI (di 0) (.f2 41 (.int (-1000)) (ai 15)))], .f2 41 (nt (rA 5) (ai 15) 1) (di 0)⟩
def stsAsk : SX := eLe (SX.mk2 40 (ai 23) (.int 1)) (ai 24)
def stsCx : Cx := { specs := [(23, [sameCtr])], anns := [(26, [(1, .ghost rnSC [.tmp 0]), (2, .inv stdI1), (4, .ghost toSC [.tmp 0, .tmp 3]), (5, .ghost pbSC []), (7, .ghost cvSC []),
  (8, .inv stdI2), (10, .ghost toFC [.tmp 5]), (11, .inv stsI3), (9, .ghost pbFC []), (15, .ghost nwGC []), (16, .inv stdI4), (19, .ghost opGC [.tmp 8, .tmp 9]), (20, .inv (stdI5 16 18)), (22, .split stsAsk), (23, .iff stsAsk), (23, .ghost rmGC [.tmp 9]), (23, .iff (eNot stsAsk)), (23, .ghost grGC [.tmp 9]),
  (21, .ghost psGC [.tmp 9]), (17, .ghost ps0C [.tmp 107]), (17, .ghost enGC []), (26, .inv (stdI6 18)), (28, .ghost toGC [.tmp 11]), (29, .inv (stdI7 20 21)), (27, .ghost pbGC [])])] }
theorem emS_gh (S : Sig FL) : GhOk S emSC := by
  refine gh_mk S fun T w0 ρ h hu hp hd hr hpre => ⟨ρ, Ext.refl _ _, ?_, by intro x hx; exact nomatch hx⟩
  have e1 : hpDen T ρ w0 emSC.pre = emp := rfl
  have e2 : hpDen T ρ w0 emSC.post = star (arrDen T slT ((SX.int (-1)).den T ρ) (nilR.den T ρ) (z0.den T ρ)) emp := rfl
  rw [e1] at hpre
  rw [e2, star_emp]
  simp only [nilR, z0, SX.den, ap1_154]
  have e3 : arrDen T slT (.int (-1)) (.rows []) (.int 0) = emp := by
    funext h
    refine propext ⟨fun hx => ?_, fun hx => ⟨[], rfl, Int.le_refl 0, .inr rfl, by rw [show slT.vals (.rows [] : U FL) ++ [] = [] from rfl, row_nil]; exact hx⟩⟩
    obtain ⟨sp, l1, _, _, l4⟩ := hx
    have : sp = [] := List.eq_nil_of_length_eq_zero (by have : (slT.vals (.rows [] : U FL)).length = 0 := rfl; rw [this] at l1; simpa using l1)
    subst this
    rw [show slT.vals (.rows [] : U FL) ++ [] = [] from rfl, row_nil] at l4
    exact l4
  rw [e3]; exact hpre
theorem ksH_app {wl : Int} {Z : List Int} : ∀ (a b : List (List Int)), ksH wl Z (a ++ b) = star (ksH wl Z a) (ksH wl Z b)
  | [], b => by rw [List.nil_append]; show _ = star emp _; rw [emp_star]
  | r :: a, b => by
    rw [List.cons_append]
    show star _ (ksH wl Z (a ++ b)) = star (star _ (ksH wl Z a)) _
    rw [ksH_app a b, star_assoc]
theorem ksH_pick {wl : Int} {Z : List Int} {k : List (List Int)} {i : Nat} (hi : i < k.length) : ksH wl Z k = star (star (ksH wl Z (k.take i)) (ksH wl Z (k.drop (i + 1)))) (itemS wl Z (k.getD i [])) := by
  conv => lhs; rw [split_at (d := []) hi]
  rw [ksH_app, List.singleton_append]
  show star _ (star _ (ksH wl Z _)) = _
  rw [star_comm (itemS _ _ _), star_assoc]
theorem ksH_fill {wl : Int} {Z : List Int} : ∀ {l : List (List Int)} {j : Int} {h : Hl}, 0 ≤ j → ksH wl Z l h → fillH 0 j l h
  | [], _, _, _, hx => hx
  | r :: l, j, h, hj, hx => by
    obtain ⟨a, b, d, rfl, ⟨x, ⟨q1, q2, q3, _⟩, ha⟩, hb⟩ := hx
    exact ⟨a, b, d, rfl, ⟨x, ⟨q1, q2, q3, fun h => by omega⟩, ha⟩, ksH_fill (by omega) hb⟩
theorem mk2_gh (S : Sig FL) (hK : KsSig S) : GhOk S mk2C := by
  refine gh_mk S fun T w0 ρ h hu hp hd hr hpre => ⟨ρ, Ext.refl _ _, ?_, by intro x hx; exact nomatch hx⟩
  have e1 : hpDen T ρ w0 mk2C.pre = star (arrDen T iE ((ai 0).den T ρ) ((iA 3).den T ρ) ((ai 2).den T ρ)) (star (arrDen T iE ((ai 4).den T ρ) ((iA 7).den T ρ) ((ai 6).den T ρ)) (star (arrDen T iE ((ai 8).den T ρ) ((iA 11).den T ρ) ((ai 10).den T ρ)) emp)) := rfl
  have e2 : hpDen T ρ w0 mk2C.post = star (T.prd 22 w0 ((cons1 (ints3 (.int 2) (ai 9) (ai 8)) (cons1 (iA 11) (cons1 (row3 (ai 0) (ai 1) (ai 2)) (cons1 (row3 (ai 4) (ai 5) (ai 6)) nilR)))).den T ρ) (z0.den T ρ)) (star (arrDen T iE ((ai 8).den T ρ) ((iA 11).den T ρ) ((ai 10).den T ρ)) emp) := rfl
  rw [e1] at hpre
  rw [e2, hp, hK.p22]
  have r0 := hr (eLe (.int 0) (ai 1)) (by simp [mk2C])
  have r1 := hr (eLe (ai 1) (.f1 30 (iA 3))) (by simp [mk2C])
  have r2 := hr (eLe (ai 1) (.int 65534)) (by simp [mk2C])
  have r3 := hr (.f2 153 (tkI (iA 3) (ai 1)) (tkI (iA 11) (ai 9))) (by simp [mk2C])
  have s0 := hr (eLe (.int 0) (ai 5)) (by simp [mk2C])
  have s1 := hr (eLe (ai 5) (.f1 30 (iA 7))) (by simp [mk2C])
  have s2 := hr (eLe (ai 5) (.int 65534)) (by simp [mk2C])
  have s3 := hr (.f2 153 (tkI (iA 7) (ai 5)) (tkI (iA 11) (ai 9))) (by simp [mk2C])
  simp only [eLe, SX.mk2, tkI, SX.den, ai, iA, co_int, co_ints, U.toInt_int, U.toInts_ints, p47, p153, ap1_30, ap2_113] at r0 r1 r2 r3 s0 s1 s2 s3
  simp only [cons1, ints3, ints2, row3, nilI, nilR, SX.den, ai, iA, co_int, co_ints, U.toInt_int, U.toInts_ints, U.toRows_rows, ap2_122, ap2_124, ap1_152, ap1_154, kp22_mk] at hpre ⊢
  rw [← star_assoc] at hpre
  refine star_mono (fun h hh => ?_) (fun _ x => x) h hpre
  show star (itemS _ _ _) (star (itemS _ _ _) emp) h
  rw [star_emp]
  exact star_mono (fun h hh => ⟨(ρ 3).toInts, ⟨r0, r1, r2, r3⟩, hh⟩) (fun h hh => ⟨(ρ 7).toInts, ⟨s0, s1, s2, s3⟩, hh⟩) h hh
theorem rnS_gh (S : Sig FL) (hK : KsSig S) : GhOk S rnSC := by
  refine gh_mk S fun T w0 ρ h hu hp hd hr hpre => ⟨ρ, Ext.refl _ _, ?_, by intro x hx; exact nomatch hx⟩
  have e1 : hpDen T ρ w0 rnSC.pre = star (celK.den T ρ w0) (star (arrDen T slT ((ai 2).den T ρ) ((rA 5).den T ρ) ((ai 4).den T ρ)) (star (T.prd 22 w0 ((cons1 (ints3 (ai 3) (ai 8) (ai 11)) (cons1 (iA 9) (rA 10))).den T ρ) (z0.den T ρ)) emp)) := rfl
  have e2 : hpDen T ρ w0 rnSC.post = star (celK.den T ρ w0) (star (arrDen T slT ((ai 2).den T ρ) ((rA 5).den T ρ) ((ai 4).den T ρ)) (star (T.prd 22 w0 ((cons1 (ints3 (ai 3) (ai 8) (ai 11)) (cons1 (iA 9) (rA 5))).den T ρ) (z0.den T ρ)) emp)) := rfl
  rw [e1, hp, hK.p22] at hpre
  rw [e2, hp, hK.p22]
  have r0 := hr (eqS (tk (rA 5) (ai 3)) (tk (rA 10) (ai 3))) (by simp [rnSC])
  simp only [eqS, tk, SX.den, ai, rA, co_int, co_rows, U.toInt_int, U.toRows_rows, p155, ap2_115, U.rows.injEq] at r0
  have k1 : ((cons1 (ints3 (ai 3) (ai 8) (ai 11)) (cons1 (iA 9) (rA 10))).den T ρ).toRows = [(ρ 3).toInt, (ρ 8).toInt, (ρ 11).toInt] :: (ρ 9).toInts :: (ρ 10).toRows := rfl
  have k2 : ((cons1 (ints3 (ai 3) (ai 8) (ai 11)) (cons1 (iA 9) (rA 5))).den T ρ).toRows = [(ρ 3).toInt, (ρ 8).toInt, (ρ 11).toInt] :: (ρ 9).toInts :: (ρ 5).toRows := rfl
  rw [k1, kp22_mk, ← r0] at hpre
  rw [k2, kp22_mk]
  exact hpre
theorem toS_gh (S : Sig FL) (hK : KsSig S) : GhOk S toSC := by
  refine gh_mk S fun T w0 ρ h hu hp hd hr hpre => ?_
  have e1 : hpDen T ρ w0 toSC.pre = star (celK.den T ρ w0) (star (arrDen T slT ((ai 2).den T ρ) ((rA 5).den T ρ) ((ai 4).den T ρ)) (star (arrDen T slT ((ai 6).den T ρ) ((rA 8).den T ρ) ((ai 7).den T ρ)) (star (T.prd 22 w0 ((cons1 (ints3 (ai 3) (ai 10) (ai 9)) (cons1 (iA 12) (rA 5))).den T ρ) (z0.den T ρ)) (star (arrDen T iE ((ai 9).den T ρ) ((iA 12).den T ρ) ((ai 11).den T ρ)) emp)))) := rfl
  have e2 : ∀ ρ', hpDen T ρ' w0 toSC.post = star (celK.den T ρ' w0) (star (arrDen T slT ((ai 2).den T ρ') ((rA 5).den T ρ') ((ai 4).den T ρ')) (star (arrDen T slT ((ai 6).den T ρ') ((rA 8).den T ρ') ((ai 7).den T ρ')) (star (T.prd 29 w0 ((cons1 (ints5 (ai 13) (ai 3) (ai 10) (nt (rA 8) (ai 13) 0) (ai 9)) (cons1 (iA 12) (rA 5))).den T ρ') (z0.den T ρ')) (star (arrDen T iE ((nt (rA 5) (ai 13) 0).den T ρ') ((iA 14).den T ρ') ((nt (rA 5) (ai 13) 2).den T ρ')) (star (arrDen T iE ((nt (rA 8) (ai 13) 0).den T ρ') ((iA 12).den T ρ') ((ai 11).den T ρ')) emp))))) := fun _ => rfl
  rw [e1, hp, hK.p22] at hpre
  have r0 := hr (eLe (.int 0) (ai 13)) (by simp [toSC])
  have r1 := hr (eLt (ai 13) (ai 3)) (by simp [toSC])
  have r2 := hr (eLe (ai 3) (lenR (rA 5))) (by simp [toSC])
  have r3 := hr (eLe (ai 3) (lenR (rA 8))) (by simp [toSC])
  have r4 := hr (usW (rA 8) (ai 3) (ai 9) (ai 10)) (by simp [toSC])
  simp only [eLe, eLt, SX.mk2, lenR, usW, hu, hK.u116, SX.den, ai, rA, co_int, co_bool, co_rows, U.toInt_int, U.toRows_rows, U.toBool_bool, U.toProp_bool, p46, p47, ap1_32] at r0 r1 r2 r3 r4
  have k1 : ((cons1 (ints3 (ai 3) (ai 10) (ai 9)) (cons1 (iA 12) (rA 5))).den T ρ).toRows = [(ρ 3).toInt, (ρ 10).toInt, (ρ 9).toInt] :: (ρ 12).toInts :: (ρ 5).toRows := rfl
  rw [k1, kp22_mk] at hpre
  have hi : (ρ 13).toInt.toNat < ((ρ 5).toRows.take (ρ 3).toInt.toNat).length := by rw [List.length_take]; omega
  have hq : g0 ((ρ 8).toRows.getD (ρ 13).toInt.toNat []) = (ρ 9).toInt ∧ g1 ((ρ 8).toRows.getD (ρ 13).toInt.toNat []) = (ρ 10).toInt := by
    have hm : (ρ 8).toRows.getD (ρ 13).toInt.toNat [] ∈ (ρ 8).toRows.take (ρ 3).toInt.toNat := by
      rw [List.mem_iff_getElem?]
      exact ⟨(ρ 13).toInt.toNat, by rw [List.getElem?_take_of_lt (by omega), List.getD_eq_getElem?_getD, List.getElem?_eq_getElem (by omega)]; rfl⟩
    have := List.all_eq_true.1 r4 _ hm
    simpa using this
  rw [ksH_pick hi] at hpre
  obtain ⟨hc, h', d1, rfl, ha, hpre⟩ := hpre
  obtain ⟨hs1, h'', d2, rfl, hb, hpre⟩ := hpre
  obtain ⟨hs2, h3, d3, rfl, hcc, hpre⟩ := hpre
  rw [star_assoc] at hpre
  obtain ⟨hk, h4, d4, rfl, hd4, hpre⟩ := hpre
  obtain ⟨hi1, hi2, d5, rfl, ⟨x, ⟨q1, q2, q3, q4⟩, hit⟩, hw⟩ := hpre
  rw [nth_take (by omega)] at q1 q2 q3 q4 hit
  refine ⟨ρ.upd 14 (.ints x), Ext.upd _ _, ?_, ?_⟩
  · rw [e2, hp, hK.p29]
    have hcel : ∀ ρ', (∀ i, i < 14 → ρ' i = ρ i) → celK.den T ρ' w0 = celK.den T ρ w0 := fun ρ' he => Ch.den_ext T (n := 14) (fun i hi => he i hi) w0 (by decide)
    rw [hcel _ (fun i hi => by simp only [Env.upd]; rw [if_neg (by omega)])]
    refine ⟨hc, _, d1, rfl, ha, hs1, _, d2, rfl, hb, hs2, _, d3, rfl, hcc, hk, _, d4, rfl, ?_, hi1, hi2, d5, rfl, ?_, ?_⟩
    · have k2 : ((cons1 (ints5 (ai 13) (ai 3) (ai 10) (nt (rA 8) (ai 13) 0) (ai 9)) (cons1 (iA 12) (rA 5))).den T (ρ.upd 14 (.ints x))).toRows = [(ρ 13).toInt, (ρ 3).toInt, (ρ 10).toInt, ((ρ 8).toRows.getD (ρ 13).toInt.toNat []).getD 0 0, (ρ 9).toInt] :: (ρ 12).toInts :: (ρ 5).toRows := rfl
      rw [k2, kp29_mk]
      exact ⟨hq.1, hd4⟩
    · exact hit
    · have e : (nt (rA 8) (ai 13) 0).den T (ρ.upd 14 (.ints x)) = .int (ρ 9).toInt := congrArg U.int hq.1
      rw [e]; exact hw
  · intro q hq'
    simp only [toSC, List.mem_cons, List.not_mem_nil, or_false] at hq'
    rcases hq' with rfl | rfl | rfl | rfl | rfl
    all_goals simp only [eLe, SX.mk2, nt, tkI, SX.den, ai, rA, iA, co_int, co_ints, co_rows, Env.upd, Nat.reduceEqDiff, reduceIte, U.toInt_int, U.toInts_ints, U.toRows_rows, p45, p47, p153, ap1_30, ap2_113, ap3_112]
    · exact q1
    · exact q2
    · exact q3
    · exact hq.2
    · exact q4
theorem pbS_gh (S : Sig FL) (hK : KsSig S) : GhOk S pbSC := by
  refine gh_mk S fun T w0 ρ h hu hp hd hr hpre => ⟨ρ, Ext.refl _ _, ?_, by intro x hx; exact nomatch hx⟩
  have e1 : hpDen T ρ w0 pbSC.pre = star (T.prd 29 w0 ((cons1 (ints5 (ai 0) (ai 1) (ai 2) (ai 3) (ai 4)) (cons1 (iA 5) (rA 6))).den T ρ) (z0.den T ρ)) (star (arrDen T iE ((nt (rA 6) (ai 0) 0).den T ρ) ((iA 7).den T ρ) ((nt (rA 6) (ai 0) 2).den T ρ)) (star (arrDen T iE ((ai 3).den T ρ) ((iA 5).den T ρ) ((ai 8).den T ρ)) emp)) := rfl
  have e2 : hpDen T ρ w0 pbSC.post = star (T.prd 22 w0 ((cons1 (ints3 (ai 1) (ai 2) (ai 4)) (cons1 (iA 5) (rA 6))).den T ρ) (z0.den T ρ)) (star (arrDen T iE ((ai 4).den T ρ) ((iA 5).den T ρ) ((ai 8).den T ρ)) emp) := rfl
  rw [e1, hp, hK.p29] at hpre
  rw [e2, hp, hK.p22]
  have r0 := hr (eLe (.int 0) (ai 0)) (by simp [pbSC])
  have r1 := hr (eLt (ai 0) (ai 1)) (by simp [pbSC])
  have r2 := hr (eLe (ai 1) (lenR (rA 6))) (by simp [pbSC])
  have s1 := hr (eLe (.int 0) (nt (rA 6) (ai 0) 1)) (by simp [pbSC])
  have s2 := hr (eLe (nt (rA 6) (ai 0) 1) (.f1 30 (iA 7))) (by simp [pbSC])
  have s3 := hr (eLe (nt (rA 6) (ai 0) 1) (.int 65534)) (by simp [pbSC])
  have s4 := hr (.f2 153 (tkI (iA 7) (nt (rA 6) (ai 0) 1)) (tkI (iA 5) (ai 2))) (by simp [pbSC])
  simp only [eLe, eLt, SX.mk2, lenR, nt, tkI, SX.den, ai, rA, iA, co_int, co_ints, co_rows, U.toInt_int, U.toInts_ints, U.toRows_rows, p46, p47, p153, ap1_30, ap1_32, ap2_113, ap3_112] at r0 r1 r2 s1 s2 s3 s4
  have k1 : ((cons1 (ints5 (ai 0) (ai 1) (ai 2) (ai 3) (ai 4)) (cons1 (iA 5) (rA 6))).den T ρ).toRows = [(ρ 0).toInt, (ρ 1).toInt, (ρ 2).toInt, (ρ 3).toInt, (ρ 4).toInt] :: (ρ 5).toInts :: (ρ 6).toRows := rfl
  have k2 : ((cons1 (ints3 (ai 1) (ai 2) (ai 4)) (cons1 (iA 5) (rA 6))).den T ρ).toRows = [(ρ 1).toInt, (ρ 2).toInt, (ρ 4).toInt] :: (ρ 5).toInts :: (ρ 6).toRows := rfl
  rw [k1, kp29_mk] at hpre
  rw [k2, kp22_mk]
  have hi : (ρ 0).toInt.toNat < ((ρ 6).toRows.take (ρ 1).toInt.toNat).length := by rw [List.length_take]; omega
  rw [ksH_pick hi, star_assoc, nth_take (by omega)]
  obtain ⟨a, b, d, rfl, ⟨hq, ha⟩, b1, b2, d2, rfl, hb1, hb2⟩ := hpre
  refine ⟨a, _, d, rfl, ha, b1, b2, d2, rfl, ⟨(ρ 7).toInts, ⟨s1, s2, s3, s4⟩, hb1⟩, ?_⟩
  have e : (ai 4).den T ρ = (ai 3).den T ρ := congrArg U.int hq.symm
  rw [e]; exact hb2
theorem cvS_gh (S : Sig FL) (hK : KsSig S) (hP : KpSig S) : GhOk S cvSC := by
  refine gh_mk S fun T w0 ρ h hu hp hd hr hpre => ⟨ρ, Ext.refl _ _, ?_, by intro x hx; exact nomatch hx⟩
  have e1 : hpDen T ρ w0 cvSC.pre = star (T.prd 22 w0 ((cons1 (ints3 (ai 0) (ai 1) (ai 4)) (cons1 (iA 2) (rA 3))).den T ρ) (z0.den T ρ)) emp := rfl
  have e2 : hpDen T ρ w0 cvSC.post = star (T.prd 24 w0 ((cons1 (ints3 z0 z0 (ai 0)) (rA 3)).den T ρ) (z0.den T ρ)) emp := rfl
  rw [e1, star_emp, hp, hK.p22] at hpre
  rw [e2, star_emp, hp, hP.p24]
  have k1 : ((cons1 (ints3 (ai 0) (ai 1) (ai 4)) (cons1 (iA 2) (rA 3))).den T ρ).toRows = [(ρ 0).toInt, (ρ 1).toInt, (ρ 4).toInt] :: (ρ 2).toInts :: (ρ 3).toRows := rfl
  have k2 : ((cons1 (ints3 z0 z0 (ai 0)) (rA 3)).den T ρ).toRows = [0, 0, (ρ 0).toInt] :: (ρ 3).toRows := rfl
  rw [k1, kp22_mk] at hpre
  rw [k2, kp24_mk]
  exact ksH_fill (Int.le_refl 0) hpre
end
end Go.Proofs.Ytmjonggabppgaaa

/- Lists that are kept beside one list: do they stand? -/
set_option linter.unusedSimpArgs false
set_option linter.unusedVariables false
namespace Go.Proofs.Ytmjonggabppgaaa
noncomputable section
open Go.Eng
-- BEGIN VC sts
def stsVc : VC := (.imp (.f2 47 (.int 0) (.at .int 3)) (.imp (.f2 47 (.at .int 3) (.int 4000000)) (.imp (.f2 47 (.at .int 3) (.f1 32 (.at .rows 5))) (.imp (.f2 47 (.at
    .int 3) (.f1 32 (.at .rows 8))) (.imp (.f2 47 (.int 0) (.at .int 10)) (.imp (.f2 47 (.at .int 10) (.f1 30 (.at .ints 12))) (.imp (.f2 47 (.at .int
    10) (.int 65534)) (.imp (.us .bool 116 (.at .rows 8) (.at .int 3) (.at .int 9) (.at .int 10)) (.imp (.f2 155 (.f2 115 (.at .rows 5) (.at .int 3))
    (.f2 115 (.at .rows 13) (.at .int 3))) (.all 14 .int (.imp (.f2 47 (.int 0) (.at .int 14)) (.imp (.f2 47 (.at .int 14) (.at .int 3)) (.and (.imp
    (.f2 46 (.at .int 14) (.at .int 3)) (.all 15 .ints (.imp (.f2 47 (.int 0) (.f3 112 (.at .rows 5) (.at .int 14) (.int 1))) (.imp (.f2 47 (.f3 112
    (.at .rows 5) (.at .int 14) (.int 1)) (.f1 30 (.at .ints 15))) (.imp (.f2 47 (.f3 112 (.at .rows 5) (.at .int 14) (.int 1)) (.int 65534)) (.imp
    (.f2 45 (.f3 112 (.at .rows 8) (.at .int 14) (.int 1)) (.at .int 10)) (.imp (.f2 153 (.f2 113 (.at .ints 15) (.f3 112 (.at .rows 5) (.at .int 14)
    (.int 1))) (.f2 113 (.at .ints 12) (.at .int 10))) (.need (.f2 46 (.at .int 14) (.f1 32 (.at .rows 5))) (.need (.f2 46 (.at .int 14) (.f1 32 (.at
    .rows 8))) (.need (.f2 47 (.f3 112 (.at .rows 5) (.at .int 14) (.int 1)) (.int 140737488355328)) (.need (.f2 47 (.int 0) (.f3 112 (.at .rows 8)
    (.at .int 14) (.int 1))) (.need (.f2 47 (.f3 112 (.at .rows 8) (.at .int 14) (.int 1)) (.f1 30 (.at .ints 12))) (.need (.f2 47 (.f3 112 (.at .rows
    8) (.at .int 14) (.int 1)) (.int 140737488355328)) (.all 16 .bool (.imp (.f2 48 (.at .bool 16) (.f2 153 (.f2 113 (.at .ints 15) (.f3 112 (.at .rows
    5) (.at .int 14) (.int 1))) (.f2 113 (.at .ints 12) (.f3 112 (.at .rows 8) (.at .int 14) (.int 1))))) (.and (.imp (.f1 2 (.at .bool 16)) (.need
    (.f2 155 (.bool .true) (.bool .false)) .tt)) (.imp (.f1 2 (.f1 2 (.at .bool 16))) (.need (.f1 23 (.f2 40 (.at .int 14) (.int 1))) (.need (.f2 47
    (.int 0) (.f2 41 (.at .int 3) (.f2 40 (.at .int 14) (.int 1)))) (.need (.f2 46 (.f2 41 (.at .int 3) (.f2 40 (.at .int 14) (.int 1))) (.f2 41 (.at
    .int 3) (.at .int 14))) (.need (.f2 47 (.int 0) (.f2 40 (.at .int 14) (.int 1))) (.need (.f2 47 (.f2 40 (.at .int 14) (.int 1)) (.at .int 3))
    .tt)))))))))))))))))))))) (.imp (.f2 47 (.at .int 3) (.at .int 14)) (.all 15 .int (.imp (.f2 47 (.int 0) (.at .int 15)) (.imp (.f2 47 (.at .int 15)
    (.at .int 3)) (.and (.imp (.f2 46 (.at .int 15) (.at .int 3)) (.all 16 .ints (.imp (.f2 47 (.int 0) (.f3 112 (.at .rows 5) (.at .int 15) (.int 1)))
    (.imp (.f2 47 (.f3 112 (.at .rows 5) (.at .int 15) (.int 1)) (.f1 30 (.at .ints 16))) (.imp (.f2 47 (.f3 112 (.at .rows 5) (.at .int 15) (.int 1))
    (.int 65534)) (.imp (.f2 47 (.f3 112 (.at .rows 5) (.at .int 15) (.int 1)) (.f3 112 (.at .rows 5) (.at .int 15) (.int 2))) (.need (.f2 45 (.f1 30
    (.at .ints 16)) (.f1 30 (.at .ints 16))) (.need (.f2 153 (.f2 113 (.at .ints 16) (.int 0)) (.f2 125 (.int 0) (.f2 41 (.int (-(999 + 1))) (.at .int
    15)))) (.all 17 .int (.all 18 .ints (.imp (.f2 47 (.int 0) (.at .int 17)) (.imp (.f2 47 (.at .int 17) (.f3 112 (.at .rows 5) (.at .int 15) (.int
    1))) (.imp (.f2 45 (.f1 30 (.at .ints 18)) (.f1 30 (.at .ints 16))) (.imp (.f2 153 (.f2 113 (.at .ints 18) (.at .int 17)) (.f2 125 (.at .int 17)
    (.f2 41 (.int (-(999 + 1))) (.at .int 15)))) (.need (.f2 46 (.at .int 15) (.f1 32 (.at .rows 5))) (.and (.imp (.f2 46 (.at .int 17) (.f3 112 (.at
    .rows 5) (.at .int 15) (.int 1))) (.need (.f1 23 (.f2 41 (.int (-(999 + 1))) (.at .int 15))) (.need (.f2 46 (.at .int 17) (.f1 30 (.at .ints 18)))
    (.need (.f1 23 (.f2 40 (.at .int 17) (.int 1))) (.need (.f2 47 (.int 0) (.f2 41 (.f3 112 (.at .rows 5) (.at .int 15) (.int 1)) (.f2 40 (.at .int
    17) (.int 1)))) (.need (.f2 46 (.f2 41 (.f3 112 (.at .rows 5) (.at .int 15) (.int 1)) (.f2 40 (.at .int 17) (.int 1))) (.f2 41 (.f3 112 (.at .rows
    5) (.at .int 15) (.int 1)) (.at .int 17))) (.need (.f2 47 (.int 0) (.f2 40 (.at .int 17) (.int 1))) (.need (.f2 47 (.f2 40 (.at .int 17) (.int 1))
    (.f3 112 (.at .rows 5) (.at .int 15) (.int 1))) (.need (.f2 153 (.f2 113 (.f3 130 (.at .ints 18) (.at .int 17) (.f2 41 (.int (-(999 + 1))) (.at
    .int 15))) (.f2 40 (.at .int 17) (.int 1))) (.f2 125 (.f2 40 (.at .int 17) (.int 1)) (.f2 41 (.int (-(999 + 1))) (.at .int 15)))) .tt)))))))))
    (.imp (.f2 47 (.f3 112 (.at .rows 5) (.at .int 15) (.int 1)) (.at .int 17)) (.need (.f2 47 (.f3 112 (.at .rows 5) (.at .int 15) (.int 1)) (.f1 30
    (.at .ints 18))) (.need (.f2 153 (.f2 113 (.at .ints 18) (.f3 112 (.at .rows 5) (.at .int 15) (.int 1))) (.f2 125 (.f3 112 (.at .rows 5) (.at .int
    15) (.int 1)) (.f2 41 (.int (-(999 + 1))) (.at .int 15)))) (.need (.f1 23 (.f2 40 (.at .int 15) (.int 1))) (.need (.f2 47 (.int 0) (.f2 41 (.at
    .int 3) (.f2 40 (.at .int 15) (.int 1)))) (.need (.f2 46 (.f2 41 (.at .int 3) (.f2 40 (.at .int 15) (.int 1))) (.f2 41 (.at .int 3) (.at .int 15)))
    (.need (.f2 47 (.int 0) (.f2 40 (.at .int 15) (.int 1))) (.need (.f2 47 (.f2 40 (.at .int 15) (.int 1)) (.at .int 3)) .tt))))))))))))))))))))))))
    (.imp (.f2 47 (.at .int 3) (.at .int 15)) (.all 16 .int (.all 17 .int (.all 18 .int (.all 19 .int (.all 20 .rows (.imp (.f2 47 (.int 0) (.at .int
    16)) (.imp (.f2 47 (.at .int 16) (.at .int 3)) (.imp (.f2 45 (.at .int 18) (.f2 42 (.int 9) (.at .int 16))) (.imp (.f2 47 (.at .int 18) (.f1 32
    (.at .rows 20))) (.and (.imp (.f2 46 (.at .int 16) (.at .int 3)) (.need (.f2 46 (.at .int 16) (.f1 32 (.at .rows 5))) (.need (.f2 45 (.f3 112 (.at
    .rows 5) (.at .int 16) (.int 0)) (.f3 112 (.at .rows 5) (.at .int 16) (.int 0))) (.need (.f2 45 (.f3 112 (.at .rows 5) (.at .int 16) (.int 1)) (.f3
    112 (.at .rows 5) (.at .int 16) (.int 1))) (.need (.f2 45 (.f3 112 (.at .rows 5) (.at .int 16) (.int 2)) (.f3 112 (.at .rows 5) (.at .int 16) (.int
    2))) (.imp (.f2 47 (.int 0) (.f3 112 (.at .rows 5) (.at .int 16) (.int 1))) (.imp (.f2 47 (.f3 112 (.at .rows 5) (.at .int 16) (.int 1)) (.int
    65534)) (.imp (.f2 47 (.f3 112 (.at .rows 5) (.at .int 16) (.int 1)) (.f3 112 (.at .rows 5) (.at .int 16) (.int 2))) (.need (.f2 45 (.at .int 18)
    (.at .int 18)) (.all 21 .int (.all 22 .int (.all 23 .int (.all 24 .int (.all 25 .int (.all 26 .int (.all 27 .int (.all 28 .rows (.imp (.f2 47 (.int
    0) (.at .int 21)) (.imp (.f2 47 (.at .int 21) (.int 8)) (.imp (.f2 45 (.at .int 23) (.f2 40 (.f3 112 (.at .rows 5) (.at .int 16) (.int 1)) (.at
    .int 21))) (.imp (.f2 45 (.at .int 26) (.f2 40 (.at .int 18) (.at .int 21))) (.imp (.f2 47 (.at .int 26) (.f1 32 (.at .rows 28))) (.imp (.f2 47
    (.at .int 23) (.at .int 24)) (.and (.imp (.f2 46 (.at .int 21) (.int 8)) (.and (.imp (.f2 47 (.f2 40 (.at .int 23) (.int 1)) (.at .int 24)) (.need
    (.f1 23 (.f2 41 (.int (-(999 + 1))) (.at .int 16))) (.all 29 .int (.imp (.f2 47 (.int 0) (.at .int 29)) (.need (.f2 47 (.int 0) (.at .int 23))
    (.need (.f2 47 (.at .int 23) (.f1 30 (.f2 125 (.at .int 23) (.f2 41 (.int (-(999 + 1))) (.at .int 16))))) (.need (.f2 45 (.f2 40 (.at .int 23)
    (.int 1)) (.f2 40 (.at .int 23) (.int 1))) (.need (.f2 153 (.f2 119 (.f2 113 (.f2 125 (.at .int 23) (.f2 41 (.int (-(999 + 1))) (.at .int 16)))
    (.at .int 23)) (.f2 122 (.f2 41 (.int (-(999 + 1))) (.at .int 16)) (.f2 116 (.f2 125 (.at .int 23) (.f2 41 (.int (-(999 + 1))) (.at .int 16))) (.f2
    40 (.at .int 23) (.int 1))))) (.f2 125 (.f2 40 (.at .int 23) (.int 1)) (.f2 41 (.int (-(999 + 1))) (.at .int 16)))) (.all 30 .int (.imp (.f2 47
    (.int 0) (.at .int 30)) (.need (.f2 47 (.int 0) (.at .int 26)) (.need (.f2 47 (.f2 42 (.f2 40 (.at .int 26) (.int 1)) (.int 24)) (.int
    140737488355328)) (.all 31 .int (.all 32 .int (.imp (.f2 47 (.f2 40 (.at .int 26) (.int 1)) (.at .int 32)) (.imp (.f2 50 (.f2 47 (.int 0) (.at .int
    31)) (.f2 45 (.f2 40 (.at .int 26) (.int 1)) (.int 0))) (.need (.f2 47 (.int 0) (.f2 40 (.at .int 23) (.int 1))) (.need (.f2 47 (.f2 40 (.at .int
    23) (.int 1)) (.int 70000)) (.need (.f2 45 (.f2 41 (.int (-(999 + 1))) (.at .int 16)) (.f2 41 (.int (-(999 + 1))) (.f2 43 (.at .int 26) (.int 9))))
    (.need (.f1 23 (.f2 40 (.at .int 21) (.int 1))) (.need (.f2 47 (.int 0) (.f2 41 (.int 8) (.f2 40 (.at .int 21) (.int 1)))) (.need (.f2 46 (.f2 41
    (.int 8) (.f2 40 (.at .int 21) (.int 1))) (.f2 41 (.int 8) (.at .int 21))) (.need (.f2 47 (.int 0) (.f2 40 (.at .int 21) (.int 1))) (.need (.f2 47
    (.f2 40 (.at .int 21) (.int 1)) (.int 8)) (.need (.f2 45 (.f2 40 (.at .int 23) (.int 1)) (.f2 40 (.f3 112 (.at .rows 5) (.at .int 16) (.int 1))
    (.f2 40 (.at .int 21) (.int 1)))) (.need (.f2 45 (.f2 40 (.at .int 26) (.int 1)) (.f2 40 (.at .int 18) (.f2 40 (.at .int 21) (.int 1)))) (.need
    (.f2 47 (.f2 40 (.at .int 26) (.int 1)) (.f2 40 (.f1 32 (.f2 115 (.at .rows 28) (.at .int 26))) (.int 1))) .tt))))))))))))))))))))))))))) (.imp
    (.f2 46 (.at .int 24) (.f2 40 (.at .int 23) (.int 1))) (.need (.f1 23 (.f2 41 (.int (-(999 + 1))) (.at .int 16))) (.all 29 .int (.imp (.f2 47 (.int
    0) (.at .int 29)) (.need (.f2 47 (.f2 42 (.f2 40 (.at .int 23) (.int 1)) (.int 8)) (.int 140737488355328)) (.need (.f2 47 (.int 0) (.at .int 23))
    (.need (.f2 47 (.at .int 23) (.f1 30 (.f2 125 (.at .int 23) (.f2 41 (.int (-(999 + 1))) (.at .int 16))))) (.all 30 .int (.all 31 .int (.imp (.f2 47
    (.f2 40 (.at .int 23) (.int 1)) (.at .int 31)) (.imp (.f2 47 (.int 0) (.at .int 30)) (.need (.f2 45 (.f2 40 (.at .int 23) (.int 1)) (.f2 40 (.at
    .int 23) (.int 1))) (.need (.f2 153 (.f2 125 (.at .int 23) (.f2 41 (.int (-(999 + 1))) (.at .int 16))) (.f2 125 (.at .int 23) (.f2 41 (.int (-(999
    + 1))) (.at .int 16)))) (.need (.f2 153 (.f2 119 (.f2 113 (.f2 125 (.at .int 23) (.f2 41 (.int (-(999 + 1))) (.at .int 16))) (.at .int 23)) (.f2
    122 (.f2 41 (.int (-(999 + 1))) (.at .int 16)) (.f1 152 (.int 0)))) (.f2 125 (.f2 40 (.at .int 23) (.int 1)) (.f2 41 (.int (-(999 + 1))) (.at .int
    16)))) (.all 32 .int (.imp (.f2 47 (.int 0) (.at .int 32)) (.need (.f2 47 (.int 0) (.at .int 26)) (.need (.f2 47 (.f2 42 (.f2 40 (.at .int 26)
    (.int 1)) (.int 24)) (.int 140737488355328)) (.all 33 .int (.all 34 .int (.imp (.f2 47 (.f2 40 (.at .int 26) (.int 1)) (.at .int 34)) (.imp (.f2 50
    (.f2 47 (.int 0) (.at .int 33)) (.f2 45 (.f2 40 (.at .int 26) (.int 1)) (.int 0))) (.need (.f2 47 (.int 0) (.f2 40 (.at .int 23) (.int 1))) (.need
    (.f2 47 (.f2 40 (.at .int 23) (.int 1)) (.int 70000)) (.need (.f2 45 (.f2 41 (.int (-(999 + 1))) (.at .int 16)) (.f2 41 (.int (-(999 + 1))) (.f2 43
    (.at .int 26) (.int 9)))) (.need (.f1 23 (.f2 40 (.at .int 21) (.int 1))) (.need (.f2 47 (.int 0) (.f2 41 (.int 8) (.f2 40 (.at .int 21) (.int
    1)))) (.need (.f2 46 (.f2 41 (.int 8) (.f2 40 (.at .int 21) (.int 1))) (.f2 41 (.int 8) (.at .int 21))) (.need (.f2 47 (.int 0) (.f2 40 (.at .int
    21) (.int 1))) (.need (.f2 47 (.f2 40 (.at .int 21) (.int 1)) (.int 8)) (.need (.f2 45 (.f2 40 (.at .int 23) (.int 1)) (.f2 40 (.f3 112 (.at .rows
    5) (.at .int 16) (.int 1)) (.f2 40 (.at .int 21) (.int 1)))) (.need (.f2 45 (.f2 40 (.at .int 26) (.int 1)) (.f2 40 (.at .int 18) (.f2 40 (.at .int
    21) (.int 1)))) (.need (.f2 47 (.f2 40 (.at .int 26) (.int 1)) (.f2 40 (.f1 32 (.f2 115 (.at .rows 28) (.at .int 26))) (.int 1)))
    .tt))))))))))))))))))))))))))))))))))) (.imp (.f2 47 (.int 8) (.at .int 21)) (.all 29 .int (.imp (.f2 47 (.int 0) (.at .int 29)) (.need (.f2 47
    (.int 0) (.at .int 26)) (.need (.f2 47 (.f2 42 (.f2 40 (.at .int 26) (.int 1)) (.int 24)) (.int 140737488355328)) (.all 30 .int (.all 31 .int (.imp
    (.f2 47 (.f2 40 (.at .int 26) (.int 1)) (.at .int 31)) (.imp (.f2 50 (.f2 47 (.int 0) (.at .int 30)) (.f2 45 (.f2 40 (.at .int 26) (.int 1)) (.int
    0))) (.need (.f2 47 (.f3 112 (.at .rows 5) (.at .int 16) (.int 1)) (.int 70000)) (.need (.f2 45 (.f2 41 (.int (-(999 + 1))) (.at .int 16)) (.f2 41
    (.int (-(999 + 1))) (.f2 43 (.at .int 26) (.int 9)))) (.need (.f2 153 (.f2 125 (.at .int 23) (.f2 41 (.int (-(999 + 1))) (.at .int 16))) (.f2 125
    (.at .int 23) (.f2 41 (.int (-(999 + 1))) (.at .int 16)))) (.need (.f1 23 (.f2 40 (.at .int 16) (.int 1))) (.need (.f2 47 (.int 0) (.f2 41 (.at
    .int 3) (.f2 40 (.at .int 16) (.int 1)))) (.need (.f2 46 (.f2 41 (.at .int 3) (.f2 40 (.at .int 16) (.int 1))) (.f2 41 (.at .int 3) (.at .int 16)))
    (.need (.f2 47 (.int 0) (.f2 40 (.at .int 16) (.int 1))) (.need (.f2 47 (.f2 40 (.at .int 16) (.int 1)) (.at .int 3)) (.need (.f2 45 (.f2 40 (.at
    .int 26) (.int 1)) (.f2 42 (.int 9) (.f2 40 (.at .int 16) (.int 1)))) (.need (.f2 47 (.f2 40 (.at .int 26) (.int 1)) (.f2 40 (.f1 32 (.f2 115 (.at
    .rows 28) (.at .int 26))) (.int 1))) .tt))))))))))))))))))))))))))))))))))))))))))) (.imp (.f2 47 (.at .int 3) (.at .int 16)) (.need (.f2 47 (.int
    0) (.at .int 18)) (.all 21 .int (.imp (.f2 47 (.int 0) (.at .int 21)) (.imp (.f2 47 (.at .int 21) (.at .int 18)) (.and (.imp (.f2 46 (.at .int 21)
    (.at .int 18)) (.all 22 .ints (.all 23 .int (.imp (.f2 47 (.int 0) (.f3 112 (.at .rows 20) (.at .int 21) (.int 1))) (.imp (.f2 47 (.f3 112 (.at
    .rows 20) (.at .int 21) (.int 1)) (.f1 30 (.at .ints 22))) (.imp (.f2 47 (.f3 112 (.at .rows 20) (.at .int 21) (.int 1)) (.int 70000)) (.imp (.f2
    153 (.at .ints 22) (.f2 125 (.f1 30 (.at .ints 22)) (.f2 41 (.int (-(999 + 1))) (.f2 43 (.at .int 21) (.int 9))))) (.all 24 .int (.imp (.f2 47
    (.int 0) (.at .int 24)) (.imp (.f2 47 (.at .int 24) (.f3 112 (.at .rows 20) (.at .int 21) (.int 1))) (.need (.f2 46 (.at .int 21) (.f1 32 (.at
    .rows 20))) (.and (.imp (.f2 46 (.at .int 24) (.f3 112 (.at .rows 20) (.at .int 21) (.int 1))) (.need (.f2 46 (.at .int 24) (.f1 30 (.at .ints
    22))) (.need (.f1 23 (.f2 43 (.at .int 21) (.int 9))) (.need (.f1 23 (.f2 41 (.int (-(999 + 1))) (.f2 43 (.at .int 21) (.int 9)))) (.and (.imp (.f1
    2 (.f2 45 (.f2 110 (.at .ints 22) (.at .int 24)) (.f2 41 (.int (-(999 + 1))) (.f2 43 (.at .int 21) (.int 9))))) (.need (.f2 155 (.bool .true)
    (.bool .false)) .tt)) (.imp (.f2 45 (.f2 110 (.at .ints 22) (.at .int 24)) (.f2 41 (.int (-(999 + 1))) (.f2 43 (.at .int 21) (.int 9)))) (.need
    (.f1 23 (.f2 40 (.at .int 24) (.int 1))) (.need (.f2 47 (.int 0) (.f2 41 (.f3 112 (.at .rows 20) (.at .int 21) (.int 1)) (.f2 40 (.at .int 24)
    (.int 1)))) (.need (.f2 46 (.f2 41 (.f3 112 (.at .rows 20) (.at .int 21) (.int 1)) (.f2 40 (.at .int 24) (.int 1))) (.f2 41 (.f3 112 (.at .rows 20)
    (.at .int 21) (.int 1)) (.at .int 24))) (.need (.f2 47 (.int 0) (.f2 40 (.at .int 24) (.int 1))) (.need (.f2 47 (.f2 40 (.at .int 24) (.int 1))
    (.f3 112 (.at .rows 20) (.at .int 21) (.int 1))) .tt))))))))))) (.imp (.f2 47 (.f3 112 (.at .rows 20) (.at .int 21) (.int 1)) (.at .int 24)) (.need
    (.f1 23 (.f2 40 (.at .int 21) (.int 1))) (.need (.f2 47 (.int 0) (.f2 41 (.at .int 18) (.f2 40 (.at .int 21) (.int 1)))) (.need (.f2 46 (.f2 41
    (.at .int 18) (.f2 40 (.at .int 21) (.int 1))) (.f2 41 (.at .int 18) (.at .int 21))) (.need (.f2 47 (.int 0) (.f2 40 (.at .int 21) (.int 1)))
    (.need (.f2 47 (.f2 40 (.at .int 21) (.int 1)) (.at .int 18)) .tt)))))))))))))))))) (.imp (.f2 47 (.at .int 18) (.at .int 21))
    .tt))))))))))))))))))))))))))))))))))))
theorem sts_vc : vcOf Try.prog stsCx 14 26 stsCtr = stsVc := by kernel_rfl
-- END VC sts
set_option maxRecDepth 20000 in
theorem sts_ok (S : Sig FL) (hK : KpSig S) (hQ : KsSig S) : CtrOk S Try.prog 26 stsCtr := by
  refine vcOf_sound S (C := stsCx) (fuel := 14) (cx_of ⟨one_spec (by decide) (same_ok S), trivial⟩ ⟨⟨⟨by decide, rnS_gh S hQ⟩, trivial, ⟨by decide, toS_gh S hQ⟩, ⟨by decide, pbS_gh S hQ⟩, ⟨by decide, cvS_gh S hQ hK⟩, trivial, ⟨by decide, toF_gh S hK⟩, trivial, ⟨by decide, pbF_gh S hK⟩, ⟨by decide, nwG_gh S hK⟩, trivial, ⟨by decide, opG_gh S hK⟩, trivial, trivial, trivial, ⟨by decide, rmG_gh S hK⟩, trivial, ⟨by decide, grG_gh S hK⟩, ⟨by decide, psG_gh S hK⟩, ⟨by decide, ps0_gh S hK⟩, ⟨by decide, enG_gh S hK⟩, trivial, ⟨by decide, toG_gh S hK⟩, trivial, ⟨by decide, pbG_gh S hK⟩, trivial⟩, trivial⟩ trivial) fun ρ => ?_
  rw [sts_vc]
  simp only [stsVc, VC.den, SX.den, co_int, co_bool, co_ints, co_rows, Env.upd, p155, p153, p48_153, p23, p45, p46, p47, p50, b46, b47, t46, t47, p2_45, ap1_2, ap1_30, ap1_32, ap1_152, ap1_154, ap2_40, ap2_41, ap2_42, ap2_43, ap2_45, ap2_110, ap2_119, beq_iff_eq, Bool.not_eq_true', beq_eq_false_iff_ne, ne_eq, Bool.not_not, toNat1, ap2_113, ap2_115, ap2_116, ap2_121, ap2_122, ap2_124, ap2_125, ap3_112, ap3_130, U.toProp_bool, U.toBool_bool, i64lo, i64hi, U.toInt_int, U.toInts_ints, U.toRows_rows, Int.toNat_zero, Nat.reduceEqDiff, reduceIte, U.rows.injEq, U.ints.injEq, U.bool.injEq]
  repeat' (first | exact trivial | apply And.intro | intro _)
  all_goals first
    | omega
    | rfl
    | (simp only [List.length_append, List.length_take, List.length_cons, List.length_nil, List.length_replicate, List.length_set]; omega)
    | (rw [Int.tdiv_eq_ediv_of_nonneg (by omega)]; omega)
    | exact rep_app _ (by omega)
    | exact rep_in _ (by omega)
    | exact rep_set ‹_› (by omega) (by omega)
    | exact rep_take ‹_› (by omega) (by omega)
    | exact absurd (rep_at ‹_› (by omega) (by omega)) ‹_›
    | simp_all
end
end Go.Proofs.Ytmjonggabppgaaa
