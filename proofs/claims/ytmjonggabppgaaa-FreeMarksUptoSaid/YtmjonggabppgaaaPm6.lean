/- FreeOnce: the walk. -/
import Derived.Test.YtmjonggabppgaaaPm5
import Derived.Test.YtmjonggabppgaaaPm3
set_option linter.unusedSimpArgs false
set_option linter.unusedVariables false
namespace Go.Proofs.Ytmjonggabppgaaa
noncomputable section
open Go.Eng
def opT : En := .rows [.int .i64, .int .i64, .int .i64]
structure OnceSig (S : Sig FL) : Prop where
  u50 : ∀ a b c d, S.usr 50 a b c d = .bool (onceB a.toInts (gOf b).e)
  u51 : ∀ a b c d, S.usr 51 a b c d = .int (lstF a.toInts 2 (b.toInt.toNat - 2))
  u52 : ∀ a b c d, S.usr 52 a b c d = .ints (relA a.toInts b.toInt.toNat c.toInt)
  u53 : ∀ a b c d, S.usr 53 a b c d = .int (cntF a.toInts c.toInt 2 (b.toInt.toNat - 2))
  u54 : ∀ a b c d, S.usr 54 a b c d = .ints (selF (fun x => x == 0) a.toInts b.toInt.toNat (10 - b.toInt.toNat))
  u55 : ∀ a b c d, S.usr 55 a b c d = .ints (selF (fun x => decide (0 < x)) a.toInts b.toInt.toNat (10 - b.toInt.toNat))
def onceCtr : Ctr := ⟨[.int, .int, .int, .int, .rows], [.one (.slice (ai 0) (ai 1) z0 z0 (ai 2) (ai 3) 3)], [.ro opT (ai 0) (ai 1) (rA 4)],
  [eLe (.int 0) (ai 2), eLe (ai 2) (.f1 32 (rA 4)), eLe (ai 2) (ai 3), eLe (ai 2) (.int 9223372036854775807)], [.bool], .one (.bool (.at .bool 5)), [], [.at .bool 5]⟩
def onceI1 : Inv := ⟨[.int, .ints, .g], [(8, .one (.int .i64 (di 0)))], [.arr (.ints .i64) (ai 10) (iA 1000001) (.int 10), freeC (ai 6) (gA 1000002)],
  [eLe (.int 0) (di 0), eLe (di 0) (ai 2), usB 50 (iA 1000001) (gA 1000002) z0, eEq (.f1 30 (iA 1000001)) (.int 10)], .f2 41 (ai 2) (di 0)⟩
def onceI2 : Inv := ⟨[.int, .int], [(13, .one (.int .i64 (di 0))), (12, .one (.int .i64 (di 1)))], [], [eLe (.int 2) (di 0), eLe (di 0) (.int 10), eEq (di 1) (usI 51 (iA 12) (di 0) z0)], .f2 41 (.int 10) (di 0)⟩
def olA : SX := .f3 112 (rA 4) (ai 11) (.int 1)
def onceI3 : Inv := ⟨[.int, .int, .ints], [(16, .one (.int .i64 (di 0))), (15, .one (.int .i64 (di 1)))], [.arr (.ints .i64) (ai 10) (iA 1000002) (.int 10)],
  [eLe (.int 2) (di 0), eLe (di 0) (.int 10), eqS (iA 1000002) (usN 52 (iA 12) (di 0) olA), eEq (di 1) (.f2 41 (usI 28 (gA 13) olA z0) (usI 53 (iA 12) (di 0) olA))], .f2 41 (.int 10) (di 0)⟩
def onceI4 : Inv := ⟨[.int, .int, .int, .int, .int, .int, .int, .int, .int], [(19, .one (.int .i64 (di 0))), (17, .one (.slice (ai 21) z0 (di 1) (di 2) (di 3) (di 4) 1)), (18, .one (.slice (ai 25) z0 (di 5) (di 6) (di 7) (di 8) 1))], [],
  [eLe (.int 2) (di 0), eLe (di 0) (.int 10), eLe (.int 0) (di 1), eLe (.int 0) (di 3), eEq (.f2 40 (di 1) (di 3)) (.f1 30 (iA 24)), eLe (di 3) (di 4), eqS (.f2 116 (iA 24) (di 1)) (usN 54 (iA 12) (di 0) z0),
    eLe (.int 0) (di 5), eLe (.int 0) (di 7), eEq (.f2 40 (di 5) (di 7)) (.f1 30 (iA 28)), eLe (di 7) (di 8), eqS (.f2 116 (iA 28) (di 5)) (usN 55 (iA 12) (di 0) z0)], .f2 41 (.int 10) (di 0)⟩
/-- No more stands in a row than it has room. -/
def capI : Ctr := ⟨[.int, .int, .int, .ints], [.one (slC (ai 0) (ai 1) (ai 2) 1)], [.arr (.ints .i64) (ai 0) (iA 3) (ai 2)], [], [], .tup [], [.arr (.ints .i64) (ai 0) (iA 3) (ai 2)], [eLe (.f1 30 (iA 3)) (ai 2)]⟩
theorem cap_gh (S : Sig FL) : GhOk S capI := by
  refine gh_mk S fun T w0 ρ h hu hp hd hr hpre => ⟨ρ, Ext.refl _ _, hpre, ?_⟩
  have e1 : hpDen T ρ w0 capI.pre = star (arrDen T (.ints .i64) ((ai 0).den T ρ) ((iA 3).den T ρ) ((ai 2).den T ρ)) emp := rfl
  rw [e1, star_emp] at hpre
  have hc := arrDen_cap hpre
  intro q hq
  simp only [capI, List.mem_cons, List.not_mem_nil, or_false] at hq
  subst hq
  simp only [eLe, SX.mk2, SX.den, ai, iA, U.co, p47, ap1_30, U.toInt_int, U.toInts_ints, En.vals, En.stride, List.length_map] at hc ⊢
  omega
def onceCx : Cx := { specs := [(10, [Go.Eng.yes]), (27, [newACtr]), (33, [takeCtr]), (34, [giveCtr]), (35, [relCtr]), (29, [frCtr]), (31, [waCtr])], anns := [(8, [(5, .ghost newC []), (5, .ghost fldC [.tmp 4]), (11, .inv onceI1), (18, .inv onceI2), (35, .inv onceI3), (42, .ghost unfC [.tmp 4]), (44, .ghost capI [.tmp 17]), (44, .ghost capI [.tmp 18]), (45, .inv onceI4)])] }
-- BEGIN VC once
def onceVc : VC := (.imp (.f2 47 (.int 0) (.at .int 2)) (.imp (.f2 47 (.at .int 2) (.f1 32 (.at .rows 4))) (.imp (.f2 47 (.at .int 2) (.at .int 3)) (.imp (.f2 47 (.at
    .int 2) (.int 9223372036854775807)) (.all 5 .int (.imp (.f2 47 (.int 0) (.at .int 5)) (.need (.us .bool 2 (.f2 122 (.int 2) (.f2 122 (.int 3) (.f2
    122 (.int 4) (.f2 122 (.int 5) (.f2 122 (.int 6) (.f2 122 (.int 7) (.f2 122 (.int 8) (.f2 122 (.int 9) (.f1 152 (.int 0)))))))))) (.int 8) (.int 0)
    (.int 0)) (.need (.us .bool 4 (.f2 122 (.int 2) (.f2 122 (.int 3) (.f2 122 (.int 4) (.f2 122 (.int 5) (.f2 122 (.int 6) (.f2 122 (.int 7) (.f2 122
    (.int 8) (.f2 122 (.int 9) (.f1 152 (.int 0)))))))))) (.int 8) (.int 0) (.int 0)) (.all 6 .int (.all 7 .int (.all 8 .int (.all 9 .rows (.imp (.us
    .bool 1 (.us .rows 3 (.f2 122 (.int 2) (.f2 122 (.int 3) (.f2 122 (.int 4) (.f2 122 (.int 5) (.f2 122 (.int 6) (.f2 122 (.int 7) (.f2 122 (.int 8)
    (.f2 122 (.int 9) (.f1 152 (.int 0)))))))))) (.int 8) (.int 0) (.int 0)) (.at .rows 9) (.int 0) (.int 0)) (.imp (.f2 47 (.int 0) (.at .int 6))
    (.and (.imp (.f2 47 (.int 0) (.at .int 6)) (.need (.f2 47 (.int 8) (.f1 32 (.at .rows 9))) (.need (.us .bool 41 (.at .rows 9) (.int 8) (.int 0)
    (.int 0)) (.need (.f2 45 (.us .int 20 (.us .g 40 (.int 0) (.int 0) (.int 0) (.int 0)) (.int 0) (.int 0) (.int 0)) (.int 0)) (.all 10 .int (.imp
    (.f2 47 (.int 0) (.at .int 10)) (.need (.us .bool 50 (.f2 122 (.int 0) (.f2 122 (.int 0) (.f2 122 (.int 0) (.f2 122 (.int 0) (.f2 122 (.int 0) (.f2
    122 (.int 0) (.f2 122 (.int 0) (.f2 122 (.int 0) (.f2 122 (.int 0) (.f2 122 (.int 0) (.f1 152 (.int 0)))))))))))) (.us .g 22 (.us .g 40 (.int 0)
    (.int 0) (.int 0) (.int 0)) (.at .rows 9) (.int 8) (.int 0)) (.int 0) (.int 0)) (.all 11 .int (.all 12 .ints (.all 13 .g (.imp (.f2 47 (.int 0)
    (.at .int 11)) (.imp (.f2 47 (.at .int 11) (.at .int 2)) (.imp (.us .bool 50 (.at .ints 12) (.at .g 13) (.int 0) (.int 0)) (.imp (.f2 45 (.f1 30
    (.at .ints 12)) (.int 10)) (.and (.imp (.f2 46 (.at .int 11) (.at .int 2)) (.need (.f2 46 (.at .int 11) (.f1 32 (.at .rows 4))) (.all 14 .int (.imp
    (.f2 47 (.int 0) (.at .int 14)) (.and (.imp (.f2 45 (.f3 112 (.at .rows 4) (.at .int 11) (.int 0)) (.int 1)) (.need (.f2 45 (.int 0) (.us .int 51
    (.at .ints 12) (.int 2) (.int 0) (.int 0))) (.all 15 .int (.all 16 .int (.imp (.f2 47 (.int 2) (.at .int 15)) (.imp (.f2 47 (.at .int 15) (.int
    10)) (.imp (.f2 45 (.at .int 16) (.us .int 51 (.at .ints 12) (.at .int 15) (.int 0) (.int 0))) (.and (.imp (.f2 46 (.at .int 15) (.int 10)) (.and
    (.imp (.f2 45 (.at .int 16) (.int 0)) (.need (.f2 47 (.int 0) (.at .int 15)) (.need (.f2 46 (.at .int 15) (.f1 30 (.at .ints 12))) (.and (.imp (.f2
    45 (.f2 110 (.at .ints 12) (.at .int 15)) (.int 0)) (.need (.f1 23 (.f2 40 (.at .int 15) (.int 1))) (.need (.f2 47 (.int 0) (.f2 41 (.int 10) (.f2
    40 (.at .int 15) (.int 1)))) (.need (.f2 46 (.f2 41 (.int 10) (.f2 40 (.at .int 15) (.int 1))) (.f2 41 (.int 10) (.at .int 15))) (.need (.f2 47
    (.int 2) (.f2 40 (.at .int 15) (.int 1))) (.need (.f2 47 (.f2 40 (.at .int 15) (.int 1)) (.int 10)) (.need (.f2 45 (.at .int 15) (.us .int 51 (.at
    .ints 12) (.f2 40 (.at .int 15) (.int 1)) (.int 0) (.int 0))) .tt))))))) (.imp (.f1 2 (.f2 45 (.f2 110 (.at .ints 12) (.at .int 15)) (.int 0)))
    (.need (.f1 23 (.f2 40 (.at .int 15) (.int 1))) (.need (.f2 47 (.int 0) (.f2 41 (.int 10) (.f2 40 (.at .int 15) (.int 1)))) (.need (.f2 46 (.f2 41
    (.int 10) (.f2 40 (.at .int 15) (.int 1))) (.f2 41 (.int 10) (.at .int 15))) (.need (.f2 47 (.int 2) (.f2 40 (.at .int 15) (.int 1))) (.need (.f2
    47 (.f2 40 (.at .int 15) (.int 1)) (.int 10)) (.need (.f2 45 (.at .int 16) (.us .int 51 (.at .ints 12) (.f2 40 (.at .int 15) (.int 1)) (.int 0)
    (.int 0))) .tt))))))))))) (.imp (.f1 2 (.f2 45 (.at .int 16) (.int 0))) (.and (.imp (.f1 2 (.f1 2 (.f2 48 (.us .bool 24 (.at .g 13) (.int 0) (.int
    0) (.int 0)) (.f2 46 (.int 0) (.at .int 16))))) (.and (.imp (.us .bool 24 (.at .g 13) (.int 0) (.int 0) (.int 0)) (.and (.imp (.f1 2 (.f2 45 (.us
    .int 23 (.at .g 13) (.int 0) (.int 0) (.int 0)) (.at .int 16))) (.need (.bool .false) .tt)) (.imp (.f2 45 (.us .int 23 (.at .g 13) (.int 0) (.int
    0) (.int 0)) (.at .int 16)) (.and (.imp (.us .bool 24 (.at .g 13) (.int 0) (.int 0) (.int 0)) (.need (.f2 47 (.int 0) (.us .int 23 (.at .g 13)
    (.int 0) (.int 0) (.int 0))) (.need (.f2 46 (.us .int 23 (.at .g 13) (.int 0) (.int 0) (.int 0)) (.int 10)) (.need (.f2 46 (.us .int 23 (.at .g 13)
    (.int 0) (.int 0) (.int 0)) (.f1 30 (.at .ints 12))) (.and .tt (.imp (.f1 2 (.f2 45 (.f3 112 (.at .rows 4) (.at .int 11) (.int 0)) (.int 2))) (.and
    .tt (.imp (.f1 2 (.f2 45 (.f3 112 (.at .rows 4) (.at .int 11) (.int 0)) (.int 3))) (.need (.f1 23 (.f2 40 (.at .int 11) (.int 1))) (.need (.f2 47
    (.int 0) (.f2 41 (.at .int 2) (.f2 40 (.at .int 11) (.int 1)))) (.need (.f2 46 (.f2 41 (.at .int 2) (.f2 40 (.at .int 11) (.int 1))) (.f2 41 (.at
    .int 2) (.at .int 11))) (.need (.f2 47 (.int 0) (.f2 40 (.at .int 11) (.int 1))) (.need (.f2 47 (.f2 40 (.at .int 11) (.int 1)) (.at .int 2))
    (.need (.us .bool 50 (.f3 130 (.at .ints 12) (.us .int 23 (.at .g 13) (.int 0) (.int 0) (.int 0)) (.int (-(0 + 1)))) (.us .g 25 (.at .g 13) (.int
    0) (.int 0) (.int 0)) (.int 0) (.int 0)) .tt)))))))))))))) .tt)))) (.imp (.f1 2 (.us .bool 24 (.at .g 13) (.int 0) (.int 0) (.int 0))) (.and .tt
    (.imp (.f1 2 (.us .bool 24 (.at .g 13) (.int 0) (.int 0) (.int 0))) (.and .tt (.imp (.f1 2 (.f2 45 (.f3 112 (.at .rows 4) (.at .int 11) (.int 0))
    (.int 2))) (.and .tt (.imp (.f1 2 (.f2 45 (.f3 112 (.at .rows 4) (.at .int 11) (.int 0)) (.int 3))) (.need (.f1 23 (.f2 40 (.at .int 11) (.int 1)))
    (.need (.f2 47 (.int 0) (.f2 41 (.at .int 2) (.f2 40 (.at .int 11) (.int 1)))) (.need (.f2 46 (.f2 41 (.at .int 2) (.f2 40 (.at .int 11) (.int 1)))
    (.f2 41 (.at .int 2) (.at .int 11))) (.need (.f2 47 (.int 0) (.f2 40 (.at .int 11) (.int 1))) (.need (.f2 47 (.f2 40 (.at .int 11) (.int 1)) (.at
    .int 2)) (.need (.us .bool 50 (.at .ints 12) (.us .g 25 (.at .g 13) (.int 0) (.int 0) (.int 0)) (.int 0) (.int 0)) .tt))))))))))))))) (.imp (.f1 2
    (.f2 48 (.us .bool 24 (.at .g 13) (.int 0) (.int 0) (.int 0)) (.f2 46 (.int 0) (.at .int 16)))) (.need (.bool .false) .tt)))))) (.imp (.f2 47 (.int
    10) (.at .int 15)) (.and (.imp (.f1 2 (.f1 2 (.f2 48 (.us .bool 24 (.at .g 13) (.int 0) (.int 0) (.int 0)) (.f2 46 (.int 0) (.at .int 16))))) (.and
    (.imp (.us .bool 24 (.at .g 13) (.int 0) (.int 0) (.int 0)) (.and (.imp (.f1 2 (.f2 45 (.us .int 23 (.at .g 13) (.int 0) (.int 0) (.int 0)) (.at
    .int 16))) (.need (.bool .false) .tt)) (.imp (.f2 45 (.us .int 23 (.at .g 13) (.int 0) (.int 0) (.int 0)) (.at .int 16)) (.and (.imp (.us .bool 24
    (.at .g 13) (.int 0) (.int 0) (.int 0)) (.need (.f2 47 (.int 0) (.us .int 23 (.at .g 13) (.int 0) (.int 0) (.int 0))) (.need (.f2 46 (.us .int 23
    (.at .g 13) (.int 0) (.int 0) (.int 0)) (.int 10)) (.need (.f2 46 (.us .int 23 (.at .g 13) (.int 0) (.int 0) (.int 0)) (.f1 30 (.at .ints 12)))
    (.and .tt (.imp (.f1 2 (.f2 45 (.f3 112 (.at .rows 4) (.at .int 11) (.int 0)) (.int 2))) (.and .tt (.imp (.f1 2 (.f2 45 (.f3 112 (.at .rows 4) (.at
    .int 11) (.int 0)) (.int 3))) (.need (.f1 23 (.f2 40 (.at .int 11) (.int 1))) (.need (.f2 47 (.int 0) (.f2 41 (.at .int 2) (.f2 40 (.at .int 11)
    (.int 1)))) (.need (.f2 46 (.f2 41 (.at .int 2) (.f2 40 (.at .int 11) (.int 1))) (.f2 41 (.at .int 2) (.at .int 11))) (.need (.f2 47 (.int 0) (.f2
    40 (.at .int 11) (.int 1))) (.need (.f2 47 (.f2 40 (.at .int 11) (.int 1)) (.at .int 2)) (.need (.us .bool 50 (.f3 130 (.at .ints 12) (.us .int 23
    (.at .g 13) (.int 0) (.int 0) (.int 0)) (.int (-(0 + 1)))) (.us .g 25 (.at .g 13) (.int 0) (.int 0) (.int 0)) (.int 0) (.int 0)) .tt))))))))))))))
    .tt)))) (.imp (.f1 2 (.us .bool 24 (.at .g 13) (.int 0) (.int 0) (.int 0))) (.and .tt (.imp (.f1 2 (.us .bool 24 (.at .g 13) (.int 0) (.int 0)
    (.int 0))) (.and .tt (.imp (.f1 2 (.f2 45 (.f3 112 (.at .rows 4) (.at .int 11) (.int 0)) (.int 2))) (.and .tt (.imp (.f1 2 (.f2 45 (.f3 112 (.at
    .rows 4) (.at .int 11) (.int 0)) (.int 3))) (.need (.f1 23 (.f2 40 (.at .int 11) (.int 1))) (.need (.f2 47 (.int 0) (.f2 41 (.at .int 2) (.f2 40
    (.at .int 11) (.int 1)))) (.need (.f2 46 (.f2 41 (.at .int 2) (.f2 40 (.at .int 11) (.int 1))) (.f2 41 (.at .int 2) (.at .int 11))) (.need (.f2 47
    (.int 0) (.f2 40 (.at .int 11) (.int 1))) (.need (.f2 47 (.f2 40 (.at .int 11) (.int 1)) (.at .int 2)) (.need (.us .bool 50 (.at .ints 12) (.us .g
    25 (.at .g 13) (.int 0) (.int 0) (.int 0)) (.int 0) (.int 0)) .tt))))))))))))))) (.imp (.f1 2 (.f2 48 (.us .bool 24 (.at .g 13) (.int 0) (.int 0)
    (.int 0)) (.f2 46 (.int 0) (.at .int 16)))) (.need (.bool .false) .tt)))))))))))) (.imp (.f1 2 (.f2 45 (.f3 112 (.at .rows 4) (.at .int 11) (.int
    0)) (.int 1))) (.and (.imp (.f2 45 (.f3 112 (.at .rows 4) (.at .int 11) (.int 0)) (.int 2)) (.and (.imp (.f2 47 (.int 2) (.f3 112 (.at .rows 4)
    (.at .int 11) (.int 1))) (.and (.imp (.f2 46 (.f3 112 (.at .rows 4) (.at .int 11) (.int 1)) (.int 10)) (.and (.imp (.f2 47 (.int 0) (.f3 112 (.at
    .rows 4) (.at .int 11) (.int 2))) (.and (.imp (.f2 47 (.f3 112 (.at .rows 4) (.at .int 11) (.int 2)) (.int 100)) (.need (.f2 47 (.int 0) (.f3 112
    (.at .rows 4) (.at .int 11) (.int 1))) (.need (.f2 46 (.f3 112 (.at .rows 4) (.at .int 11) (.int 1)) (.f1 30 (.at .ints 12))) (.and (.imp (.f1 2
    (.f1 2 (.f2 48 (.f2 45 (.us .int 39 (.at .g 13) (.f3 112 (.at .rows 4) (.at .int 11) (.int 1)) (.f3 112 (.at .rows 4) (.at .int 11) (.int 2)) (.int
    0)) (.int 0)) (.f2 45 (.f2 110 (.at .ints 12) (.f3 112 (.at .rows 4) (.at .int 11) (.int 1))) (.int (-(0 + 1))))))) (.and (.imp (.f1 2 (.f2 45 (.us
    .int 39 (.at .g 13) (.f3 112 (.at .rows 4) (.at .int 11) (.int 1)) (.f3 112 (.at .rows 4) (.at .int 11) (.int 2)) (.int 0)) (.int 0))) (.and (.imp
    (.f1 2 (.f2 45 (.us .int 39 (.at .g 13) (.f3 112 (.at .rows 4) (.at .int 11) (.int 1)) (.f3 112 (.at .rows 4) (.at .int 11) (.int 2)) (.int 0))
    (.int 100))) (.need (.bool .false) .tt)) (.imp (.f2 45 (.us .int 39 (.at .g 13) (.f3 112 (.at .rows 4) (.at .int 11) (.int 1)) (.f3 112 (.at .rows
    4) (.at .int 11) (.int 2)) (.int 0)) (.int 100)) (.and .tt (.imp (.f1 2 (.f2 45 (.us .int 39 (.at .g 13) (.f3 112 (.at .rows 4) (.at .int 11) (.int
    1)) (.f3 112 (.at .rows 4) (.at .int 11) (.int 2)) (.int 0)) (.int 0))) (.and .tt (.imp (.f1 2 (.f2 45 (.f3 112 (.at .rows 4) (.at .int 11) (.int
    0)) (.int 3))) (.need (.f1 23 (.f2 40 (.at .int 11) (.int 1))) (.need (.f2 47 (.int 0) (.f2 41 (.at .int 2) (.f2 40 (.at .int 11) (.int 1))))
    (.need (.f2 46 (.f2 41 (.at .int 2) (.f2 40 (.at .int 11) (.int 1))) (.f2 41 (.at .int 2) (.at .int 11))) (.need (.f2 47 (.int 0) (.f2 40 (.at .int
    11) (.int 1))) (.need (.f2 47 (.f2 40 (.at .int 11) (.int 1)) (.at .int 2)) (.need (.us .bool 50 (.at .ints 12) (.us .g 42 (.at .g 13) (.f3 112
    (.at .rows 4) (.at .int 11) (.int 1)) (.f3 112 (.at .rows 4) (.at .int 11) (.int 2)) (.int 0)) (.int 0) (.int 0)) .tt))))))))))))) (.imp (.f2 45
    (.us .int 39 (.at .g 13) (.f3 112 (.at .rows 4) (.at .int 11) (.int 1)) (.f3 112 (.at .rows 4) (.at .int 11) (.int 2)) (.int 0)) (.int 0)) (.and
    (.imp (.f2 45 (.us .int 39 (.at .g 13) (.f3 112 (.at .rows 4) (.at .int 11) (.int 1)) (.f3 112 (.at .rows 4) (.at .int 11) (.int 2)) (.int 0))
    (.int 0)) (.and .tt (.imp (.f1 2 (.f2 45 (.f3 112 (.at .rows 4) (.at .int 11) (.int 0)) (.int 3))) (.need (.f1 23 (.f2 40 (.at .int 11) (.int 1)))
    (.need (.f2 47 (.int 0) (.f2 41 (.at .int 2) (.f2 40 (.at .int 11) (.int 1)))) (.need (.f2 46 (.f2 41 (.at .int 2) (.f2 40 (.at .int 11) (.int 1)))
    (.f2 41 (.at .int 2) (.at .int 11))) (.need (.f2 47 (.int 0) (.f2 40 (.at .int 11) (.int 1))) (.need (.f2 47 (.f2 40 (.at .int 11) (.int 1)) (.at
    .int 2)) (.need (.us .bool 50 (.f3 130 (.at .ints 12) (.f3 112 (.at .rows 4) (.at .int 11) (.int 1)) (.f3 112 (.at .rows 4) (.at .int 11) (.int
    2))) (.us .g 42 (.at .g 13) (.f3 112 (.at .rows 4) (.at .int 11) (.int 1)) (.f3 112 (.at .rows 4) (.at .int 11) (.int 2)) (.int 0)) (.int 0) (.int
    0)) .tt))))))))) .tt)))) (.imp (.f1 2 (.f2 48 (.f2 45 (.us .int 39 (.at .g 13) (.f3 112 (.at .rows 4) (.at .int 11) (.int 1)) (.f3 112 (.at .rows
    4) (.at .int 11) (.int 2)) (.int 0)) (.int 0)) (.f2 45 (.f2 110 (.at .ints 12) (.f3 112 (.at .rows 4) (.at .int 11) (.int 1))) (.int (-(0 + 1))))))
    (.need (.bool .false) .tt)))))) (.imp (.f2 46 (.int 100) (.f3 112 (.at .rows 4) (.at .int 11) (.int 2))) (.and .tt (.imp (.f1 2 (.f2 45 (.f3 112
    (.at .rows 4) (.at .int 11) (.int 0)) (.int 3))) (.need (.f1 23 (.f2 40 (.at .int 11) (.int 1))) (.need (.f2 47 (.int 0) (.f2 41 (.at .int 2) (.f2
    40 (.at .int 11) (.int 1)))) (.need (.f2 46 (.f2 41 (.at .int 2) (.f2 40 (.at .int 11) (.int 1))) (.f2 41 (.at .int 2) (.at .int 11))) (.need (.f2
    47 (.int 0) (.f2 40 (.at .int 11) (.int 1))) (.need (.f2 47 (.f2 40 (.at .int 11) (.int 1)) (.at .int 2)) .tt)))))))))) (.imp (.f2 46 (.f3 112 (.at
    .rows 4) (.at .int 11) (.int 2)) (.int 0)) (.and .tt (.imp (.f1 2 (.f2 45 (.f3 112 (.at .rows 4) (.at .int 11) (.int 0)) (.int 3))) (.need (.f1 23
    (.f2 40 (.at .int 11) (.int 1))) (.need (.f2 47 (.int 0) (.f2 41 (.at .int 2) (.f2 40 (.at .int 11) (.int 1)))) (.need (.f2 46 (.f2 41 (.at .int 2)
    (.f2 40 (.at .int 11) (.int 1))) (.f2 41 (.at .int 2) (.at .int 11))) (.need (.f2 47 (.int 0) (.f2 40 (.at .int 11) (.int 1))) (.need (.f2 47 (.f2
    40 (.at .int 11) (.int 1)) (.at .int 2)) .tt)))))))))) (.imp (.f2 47 (.int 10) (.f3 112 (.at .rows 4) (.at .int 11) (.int 1))) (.and .tt (.imp (.f1
    2 (.f2 45 (.f3 112 (.at .rows 4) (.at .int 11) (.int 0)) (.int 3))) (.need (.f1 23 (.f2 40 (.at .int 11) (.int 1))) (.need (.f2 47 (.int 0) (.f2 41
    (.at .int 2) (.f2 40 (.at .int 11) (.int 1)))) (.need (.f2 46 (.f2 41 (.at .int 2) (.f2 40 (.at .int 11) (.int 1))) (.f2 41 (.at .int 2) (.at .int
    11))) (.need (.f2 47 (.int 0) (.f2 40 (.at .int 11) (.int 1))) (.need (.f2 47 (.f2 40 (.at .int 11) (.int 1)) (.at .int 2)) .tt)))))))))) (.imp
    (.f2 46 (.f3 112 (.at .rows 4) (.at .int 11) (.int 1)) (.int 2)) (.and .tt (.imp (.f1 2 (.f2 45 (.f3 112 (.at .rows 4) (.at .int 11) (.int 0))
    (.int 3))) (.need (.f1 23 (.f2 40 (.at .int 11) (.int 1))) (.need (.f2 47 (.int 0) (.f2 41 (.at .int 2) (.f2 40 (.at .int 11) (.int 1)))) (.need
    (.f2 46 (.f2 41 (.at .int 2) (.f2 40 (.at .int 11) (.int 1))) (.f2 41 (.at .int 2) (.at .int 11))) (.need (.f2 47 (.int 0) (.f2 40 (.at .int 11)
    (.int 1))) (.need (.f2 47 (.f2 40 (.at .int 11) (.int 1)) (.at .int 2)) .tt)))))))))) (.imp (.f1 2 (.f2 45 (.f3 112 (.at .rows 4) (.at .int 11)
    (.int 0)) (.int 2))) (.and (.imp (.f2 45 (.f3 112 (.at .rows 4) (.at .int 11) (.int 0)) (.int 3)) (.need (.f2 155 (.at .ints 12) (.us .ints 52 (.at
    .ints 12) (.int 2) (.f3 112 (.at .rows 4) (.at .int 11) (.int 1)) (.int 0))) (.need (.f2 45 (.us .int 28 (.at .g 13) (.f3 112 (.at .rows 4) (.at
    .int 11) (.int 1)) (.int 0) (.int 0)) (.f2 41 (.us .int 28 (.at .g 13) (.f3 112 (.at .rows 4) (.at .int 11) (.int 1)) (.int 0) (.int 0)) (.us .int
    53 (.at .ints 12) (.int 2) (.f3 112 (.at .rows 4) (.at .int 11) (.int 1)) (.int 0)))) (.all 15 .int (.all 16 .int (.all 17 .ints (.imp (.f2 47
    (.int 2) (.at .int 15)) (.imp (.f2 47 (.at .int 15) (.int 10)) (.imp (.f2 155 (.at .ints 17) (.us .ints 52 (.at .ints 12) (.at .int 15) (.f3 112
    (.at .rows 4) (.at .int 11) (.int 1)) (.int 0))) (.imp (.f2 45 (.at .int 16) (.f2 41 (.us .int 28 (.at .g 13) (.f3 112 (.at .rows 4) (.at .int 11)
    (.int 1)) (.int 0) (.int 0)) (.us .int 53 (.at .ints 12) (.at .int 15) (.f3 112 (.at .rows 4) (.at .int 11) (.int 1)) (.int 0)))) (.and (.imp (.f2
    46 (.at .int 15) (.int 10)) (.need (.f2 47 (.int 0) (.at .int 15)) (.need (.f2 46 (.at .int 15) (.f1 30 (.at .ints 17))) (.and (.imp (.f2 46 (.int
    0) (.f2 110 (.at .ints 17) (.at .int 15))) (.and (.imp (.f2 47 (.f2 110 (.at .ints 17) (.at .int 15)) (.f3 112 (.at .rows 4) (.at .int 11) (.int
    1))) (.need (.f1 23 (.f2 40 (.at .int 16) (.int (-(0 + 1))))) (.need (.f1 23 (.f2 40 (.at .int 15) (.int 1))) (.need (.f2 47 (.int 0) (.f2 41 (.int
    10) (.f2 40 (.at .int 15) (.int 1)))) (.need (.f2 46 (.f2 41 (.int 10) (.f2 40 (.at .int 15) (.int 1))) (.f2 41 (.int 10) (.at .int 15))) (.need
    (.f2 47 (.int 2) (.f2 40 (.at .int 15) (.int 1))) (.need (.f2 47 (.f2 40 (.at .int 15) (.int 1)) (.int 10)) (.need (.f2 155 (.f3 130 (.at .ints 17)
    (.at .int 15) (.int 0)) (.us .ints 52 (.at .ints 12) (.f2 40 (.at .int 15) (.int 1)) (.f3 112 (.at .rows 4) (.at .int 11) (.int 1)) (.int 0)))
    (.need (.f2 45 (.f2 40 (.at .int 16) (.int (-(0 + 1)))) (.f2 41 (.us .int 28 (.at .g 13) (.f3 112 (.at .rows 4) (.at .int 11) (.int 1)) (.int 0)
    (.int 0)) (.us .int 53 (.at .ints 12) (.f2 40 (.at .int 15) (.int 1)) (.f3 112 (.at .rows 4) (.at .int 11) (.int 1)) (.int 0)))) .tt))))))))) (.imp
    (.f2 46 (.f3 112 (.at .rows 4) (.at .int 11) (.int 1)) (.f2 110 (.at .ints 17) (.at .int 15))) (.need (.f1 23 (.f2 40 (.at .int 15) (.int 1)))
    (.need (.f2 47 (.int 0) (.f2 41 (.int 10) (.f2 40 (.at .int 15) (.int 1)))) (.need (.f2 46 (.f2 41 (.int 10) (.f2 40 (.at .int 15) (.int 1))) (.f2
    41 (.int 10) (.at .int 15))) (.need (.f2 47 (.int 2) (.f2 40 (.at .int 15) (.int 1))) (.need (.f2 47 (.f2 40 (.at .int 15) (.int 1)) (.int 10))
    (.need (.f2 155 (.at .ints 17) (.us .ints 52 (.at .ints 12) (.f2 40 (.at .int 15) (.int 1)) (.f3 112 (.at .rows 4) (.at .int 11) (.int 1)) (.int
    0))) (.need (.f2 45 (.at .int 16) (.f2 41 (.us .int 28 (.at .g 13) (.f3 112 (.at .rows 4) (.at .int 11) (.int 1)) (.int 0) (.int 0)) (.us .int 53
    (.at .ints 12) (.f2 40 (.at .int 15) (.int 1)) (.f3 112 (.at .rows 4) (.at .int 11) (.int 1)) (.int 0)))) .tt)))))))))) (.imp (.f2 47 (.f2 110 (.at
    .ints 17) (.at .int 15)) (.int 0)) (.need (.f1 23 (.f2 40 (.at .int 15) (.int 1))) (.need (.f2 47 (.int 0) (.f2 41 (.int 10) (.f2 40 (.at .int 15)
    (.int 1)))) (.need (.f2 46 (.f2 41 (.int 10) (.f2 40 (.at .int 15) (.int 1))) (.f2 41 (.int 10) (.at .int 15))) (.need (.f2 47 (.int 2) (.f2 40
    (.at .int 15) (.int 1))) (.need (.f2 47 (.f2 40 (.at .int 15) (.int 1)) (.int 10)) (.need (.f2 155 (.at .ints 17) (.us .ints 52 (.at .ints 12) (.f2
    40 (.at .int 15) (.int 1)) (.f3 112 (.at .rows 4) (.at .int 11) (.int 1)) (.int 0))) (.need (.f2 45 (.at .int 16) (.f2 41 (.us .int 28 (.at .g 13)
    (.f3 112 (.at .rows 4) (.at .int 11) (.int 1)) (.int 0) (.int 0)) (.us .int 53 (.at .ints 12) (.f2 40 (.at .int 15) (.int 1)) (.f3 112 (.at .rows
    4) (.at .int 11) (.int 1)) (.int 0)))) .tt)))))))))))) (.imp (.f2 47 (.int 10) (.at .int 15)) (.and (.imp (.f1 2 (.f2 45 (.at .int 16) (.int 0)))
    (.need (.bool .false) .tt)) (.imp (.f2 45 (.at .int 16) (.int 0)) (.need (.f1 23 (.f2 40 (.at .int 11) (.int 1))) (.need (.f2 47 (.int 0) (.f2 41
    (.at .int 2) (.f2 40 (.at .int 11) (.int 1)))) (.need (.f2 46 (.f2 41 (.at .int 2) (.f2 40 (.at .int 11) (.int 1))) (.f2 41 (.at .int 2) (.at .int
    11))) (.need (.f2 47 (.int 0) (.f2 40 (.at .int 11) (.int 1))) (.need (.f2 47 (.f2 40 (.at .int 11) (.int 1)) (.at .int 2)) (.need (.us .bool 50
    (.at .ints 17) (.us .g 29 (.at .g 13) (.f3 112 (.at .rows 4) (.at .int 11) (.int 1)) (.int 0) (.int 0)) (.int 0) (.int 0)) (.need (.f2 45 (.f1 30
    (.at .ints 17)) (.int 10)) .tt))))))))))))))))))))) (.imp (.f1 2 (.f2 45 (.f3 112 (.at .rows 4) (.at .int 11) (.int 0)) (.int 3))) (.need (.f1 23
    (.f2 40 (.at .int 11) (.int 1))) (.need (.f2 47 (.int 0) (.f2 41 (.at .int 2) (.f2 40 (.at .int 11) (.int 1)))) (.need (.f2 46 (.f2 41 (.at .int 2)
    (.f2 40 (.at .int 11) (.int 1))) (.f2 41 (.at .int 2) (.at .int 11))) (.need (.f2 47 (.int 0) (.f2 40 (.at .int 11) (.int 1))) (.need (.f2 47 (.f2
    40 (.at .int 11) (.int 1)) (.at .int 2)) .tt))))))))))))))) (.imp (.f2 47 (.at .int 2) (.at .int 11)) (.all 14 .int (.all 15 .int (.all 16 .int
    (.all 17 .rows (.all 18 .int (.all 19 .int (.all 20 .int (.imp (.f2 47 (.int 0) (.at .int 15)) (.imp (.f2 47 (.at .int 15) (.f1 32 (.at .rows 17)))
    (.imp (.f2 47 (.at .int 15) (.int 65534)) (.imp (.f2 47 (.at .int 15) (.at .int 16)) (.imp (.us .bool 41 (.at .rows 17) (.at .int 15) (.int 0)
    (.int 0)) (.imp (.f2 155 (.us .rows 21 (.at .g 13) (.int 0) (.int 0) (.int 0)) (.f2 115 (.at .rows 17) (.at .int 15))) (.all 21 .int (.all 22 .int
    (.all 23 .int (.all 24 .ints (.imp (.f2 45 (.f1 30 (.at .ints 24)) (.at .int 22)) (.imp (.f2 47 (.int 0) (.at .int 22)) (.imp (.f2 47 (.at .int 22)
    (.at .int 15)) (.imp (.f2 153 (.at .ints 24) (.us .ints 10 (.at .rows 17) (.at .int 15) (.int 0) (.int 0))) (.all 25 .int (.all 26 .int (.all 27
    .int (.all 28 .ints (.imp (.f2 45 (.f1 30 (.at .ints 28)) (.at .int 26)) (.imp (.f2 47 (.int 0) (.at .int 26)) (.imp (.f2 47 (.at .int 26) (.at
    .int 15)) (.imp (.f2 153 (.at .ints 28) (.us .ints 11 (.at .rows 17) (.at .int 15) (.int 0) (.int 0))) (.imp (.f2 47 (.f1 30 (.at .ints 24)) (.at
    .int 23)) (.imp (.f2 47 (.f1 30 (.at .ints 28)) (.at .int 27)) (.need (.f2 45 (.at .int 22) (.f1 30 (.at .ints 24))) (.need (.f2 47 (.at .int 22)
    (.at .int 23)) (.need (.f2 155 (.f2 116 (.at .ints 24) (.int 0)) (.us .ints 54 (.at .ints 12) (.int 2) (.int 0) (.int 0))) (.need (.f2 45 (.at .int
    26) (.f1 30 (.at .ints 28))) (.need (.f2 47 (.at .int 26) (.at .int 27)) (.need (.f2 155 (.f2 116 (.at .ints 28) (.int 0)) (.us .ints 55 (.at .ints
    12) (.int 2) (.int 0) (.int 0))) (.all 29 .int (.all 30 .int (.all 31 .int (.all 32 .int (.all 33 .int (.all 34 .int (.all 35 .int (.all 36 .int
    (.all 37 .int (.imp (.f2 47 (.int 2) (.at .int 29)) (.imp (.f2 47 (.at .int 29) (.int 10)) (.imp (.f2 47 (.int 0) (.at .int 30)) (.imp (.f2 47
    (.int 0) (.at .int 32)) (.imp (.f2 45 (.f2 40 (.at .int 30) (.at .int 32)) (.f1 30 (.at .ints 24))) (.imp (.f2 47 (.at .int 32) (.at .int 33))
    (.imp (.f2 155 (.f2 116 (.at .ints 24) (.at .int 30)) (.us .ints 54 (.at .ints 12) (.at .int 29) (.int 0) (.int 0))) (.imp (.f2 47 (.int 0) (.at
    .int 34)) (.imp (.f2 47 (.int 0) (.at .int 36)) (.imp (.f2 45 (.f2 40 (.at .int 34) (.at .int 36)) (.f1 30 (.at .ints 28))) (.imp (.f2 47 (.at .int
    36) (.at .int 37)) (.imp (.f2 155 (.f2 116 (.at .ints 28) (.at .int 34)) (.us .ints 55 (.at .ints 12) (.at .int 29) (.int 0) (.int 0))) (.and (.imp
    (.f2 46 (.at .int 29) (.int 10)) (.need (.f2 47 (.int 0) (.at .int 29)) (.need (.f2 46 (.at .int 29) (.f1 30 (.at .ints 12))) (.and (.imp (.f2 45
    (.f2 110 (.at .ints 12) (.at .int 29)) (.int 0)) (.and (.imp (.f1 2 (.f2 45 (.at .int 32) (.int 0))) (.need (.f2 46 (.int 0) (.at .int 32)) (.need
    (.f2 46 (.at .int 30) (.f1 30 (.at .ints 24))) (.need (.f2 46 (.int 0) (.at .int 33)) (.and (.imp (.f1 2 (.f2 45 (.f2 110 (.at .ints 24) (.at .int
    30)) (.at .int 29))) (.need (.bool .false) .tt)) (.imp (.f2 45 (.f2 110 (.at .ints 24) (.at .int 30)) (.at .int 29)) (.need (.f2 47 (.int 0) (.at
    .int 33)) (.need (.f2 47 (.int 1) (.at .int 32)) (.and (.imp (.f2 46 (.int 0) (.f2 110 (.at .ints 12) (.at .int 29))) (.and (.imp (.f1 2 (.f2 45
    (.at .int 36) (.int 0))) (.need (.f2 46 (.int 0) (.at .int 36)) (.need (.f2 46 (.at .int 34) (.f1 30 (.at .ints 28))) (.need (.f2 46 (.int 0) (.at
    .int 37)) (.and (.imp (.f1 2 (.f2 45 (.f2 110 (.at .ints 28) (.at .int 34)) (.at .int 29))) (.need (.bool .false) .tt)) (.imp (.f2 45 (.f2 110 (.at
    .ints 28) (.at .int 34)) (.at .int 29)) (.need (.f2 47 (.int 0) (.at .int 37)) (.need (.f2 47 (.int 1) (.at .int 36)) (.need (.f1 23 (.f2 40 (.at
    .int 29) (.int 1))) (.need (.f2 47 (.int 0) (.f2 41 (.int 10) (.f2 40 (.at .int 29) (.int 1)))) (.need (.f2 46 (.f2 41 (.int 10) (.f2 40 (.at .int
    29) (.int 1))) (.f2 41 (.int 10) (.at .int 29))) (.need (.f2 47 (.int 2) (.f2 40 (.at .int 29) (.int 1))) (.need (.f2 47 (.f2 40 (.at .int 29)
    (.int 1)) (.int 10)) (.need (.f2 47 (.int 0) (.f2 40 (.at .int 30) (.int 1))) (.need (.f2 47 (.int 0) (.f2 40 (.at .int 32) (.int (-(0 + 1)))))
    (.need (.f2 45 (.f2 40 (.f2 40 (.at .int 30) (.f2 40 (.at .int 32) (.int (-(0 + 1))))) (.int 1)) (.f1 30 (.at .ints 24))) (.need (.f2 47 (.f2 40
    (.at .int 32) (.int (-(0 + 1)))) (.f2 40 (.at .int 33) (.int (-(0 + 1))))) (.need (.f2 155 (.f2 116 (.at .ints 24) (.f2 40 (.at .int 30) (.int 1)))
    (.us .ints 54 (.at .ints 12) (.f2 40 (.at .int 29) (.int 1)) (.int 0) (.int 0))) (.need (.f2 47 (.int 0) (.f2 40 (.at .int 34) (.int 1))) (.need
    (.f2 47 (.int 0) (.f2 40 (.at .int 36) (.int (-(0 + 1))))) (.need (.f2 45 (.f2 40 (.f2 40 (.at .int 34) (.f2 40 (.at .int 36) (.int (-(0 + 1)))))
    (.int 1)) (.f1 30 (.at .ints 28))) (.need (.f2 47 (.f2 40 (.at .int 36) (.int (-(0 + 1)))) (.f2 40 (.at .int 37) (.int (-(0 + 1))))) (.need (.f2
    155 (.f2 116 (.at .ints 28) (.f2 40 (.at .int 34) (.int 1))) (.us .ints 55 (.at .ints 12) (.f2 40 (.at .int 29) (.int 1)) (.int 0) (.int 0)))
    .tt))))))))))))))))))))))) (.imp (.f2 45 (.at .int 36) (.int 0)) (.need (.bool .false) .tt)))) (.imp (.f2 47 (.f2 110 (.at .ints 12) (.at .int 29))
    (.int 0)) (.need (.f1 23 (.f2 40 (.at .int 29) (.int 1))) (.need (.f2 47 (.int 0) (.f2 41 (.int 10) (.f2 40 (.at .int 29) (.int 1)))) (.need (.f2
    46 (.f2 41 (.int 10) (.f2 40 (.at .int 29) (.int 1))) (.f2 41 (.int 10) (.at .int 29))) (.need (.f2 47 (.int 2) (.f2 40 (.at .int 29) (.int 1)))
    (.need (.f2 47 (.f2 40 (.at .int 29) (.int 1)) (.int 10)) (.need (.f2 47 (.int 0) (.f2 40 (.at .int 30) (.int 1))) (.need (.f2 47 (.int 0) (.f2 40
    (.at .int 32) (.int (-(0 + 1))))) (.need (.f2 45 (.f2 40 (.f2 40 (.at .int 30) (.f2 40 (.at .int 32) (.int (-(0 + 1))))) (.int 1)) (.f1 30 (.at
    .ints 24))) (.need (.f2 47 (.f2 40 (.at .int 32) (.int (-(0 + 1)))) (.f2 40 (.at .int 33) (.int (-(0 + 1))))) (.need (.f2 155 (.f2 116 (.at .ints
    24) (.f2 40 (.at .int 30) (.int 1))) (.us .ints 54 (.at .ints 12) (.f2 40 (.at .int 29) (.int 1)) (.int 0) (.int 0))) (.need (.f2 155 (.f2 116 (.at
    .ints 28) (.at .int 34)) (.us .ints 55 (.at .ints 12) (.f2 40 (.at .int 29) (.int 1)) (.int 0) (.int 0))) .tt))))))))))))))))))))) (.imp (.f2 45
    (.at .int 32) (.int 0)) (.need (.bool .false) .tt)))) (.imp (.f1 2 (.f2 45 (.f2 110 (.at .ints 12) (.at .int 29)) (.int 0))) (.and (.imp (.f2 46
    (.int 0) (.f2 110 (.at .ints 12) (.at .int 29))) (.and (.imp (.f1 2 (.f2 45 (.at .int 36) (.int 0))) (.need (.f2 46 (.int 0) (.at .int 36)) (.need
    (.f2 46 (.at .int 34) (.f1 30 (.at .ints 28))) (.need (.f2 46 (.int 0) (.at .int 37)) (.and (.imp (.f1 2 (.f2 45 (.f2 110 (.at .ints 28) (.at .int
    34)) (.at .int 29))) (.need (.bool .false) .tt)) (.imp (.f2 45 (.f2 110 (.at .ints 28) (.at .int 34)) (.at .int 29)) (.need (.f2 47 (.int 0) (.at
    .int 37)) (.need (.f2 47 (.int 1) (.at .int 36)) (.need (.f1 23 (.f2 40 (.at .int 29) (.int 1))) (.need (.f2 47 (.int 0) (.f2 41 (.int 10) (.f2 40
    (.at .int 29) (.int 1)))) (.need (.f2 46 (.f2 41 (.int 10) (.f2 40 (.at .int 29) (.int 1))) (.f2 41 (.int 10) (.at .int 29))) (.need (.f2 47 (.int
    2) (.f2 40 (.at .int 29) (.int 1))) (.need (.f2 47 (.f2 40 (.at .int 29) (.int 1)) (.int 10)) (.need (.f2 155 (.f2 116 (.at .ints 24) (.at .int
    30)) (.us .ints 54 (.at .ints 12) (.f2 40 (.at .int 29) (.int 1)) (.int 0) (.int 0))) (.need (.f2 47 (.int 0) (.f2 40 (.at .int 34) (.int 1)))
    (.need (.f2 47 (.int 0) (.f2 40 (.at .int 36) (.int (-(0 + 1))))) (.need (.f2 45 (.f2 40 (.f2 40 (.at .int 34) (.f2 40 (.at .int 36) (.int (-(0 +
    1))))) (.int 1)) (.f1 30 (.at .ints 28))) (.need (.f2 47 (.f2 40 (.at .int 36) (.int (-(0 + 1)))) (.f2 40 (.at .int 37) (.int (-(0 + 1))))) (.need
    (.f2 155 (.f2 116 (.at .ints 28) (.f2 40 (.at .int 34) (.int 1))) (.us .ints 55 (.at .ints 12) (.f2 40 (.at .int 29) (.int 1)) (.int 0) (.int 0)))
    .tt))))))))))))))))))) (.imp (.f2 45 (.at .int 36) (.int 0)) (.need (.bool .false) .tt)))) (.imp (.f2 47 (.f2 110 (.at .ints 12) (.at .int 29))
    (.int 0)) (.need (.f1 23 (.f2 40 (.at .int 29) (.int 1))) (.need (.f2 47 (.int 0) (.f2 41 (.int 10) (.f2 40 (.at .int 29) (.int 1)))) (.need (.f2
    46 (.f2 41 (.int 10) (.f2 40 (.at .int 29) (.int 1))) (.f2 41 (.int 10) (.at .int 29))) (.need (.f2 47 (.int 2) (.f2 40 (.at .int 29) (.int 1)))
    (.need (.f2 47 (.f2 40 (.at .int 29) (.int 1)) (.int 10)) (.need (.f2 155 (.f2 116 (.at .ints 24) (.at .int 30)) (.us .ints 54 (.at .ints 12) (.f2
    40 (.at .int 29) (.int 1)) (.int 0) (.int 0))) (.need (.f2 155 (.f2 116 (.at .ints 28) (.at .int 34)) (.us .ints 55 (.at .ints 12) (.f2 40 (.at
    .int 29) (.int 1)) (.int 0) (.int 0))) .tt)))))))))))))) (.imp (.f2 47 (.int 10) (.at .int 29)) (.and (.imp (.f2 45 (.at .int 32) (.int 0)) (.need
    (.f2 45 (.at .int 36) (.int 0)) .tt)) (.imp (.f1 2 (.f2 45 (.at .int 32) (.int 0))) (.need (.bool .false)
    .tt))))))))))))))))))))))))))))))))))))))))))))))))))))))))))))))))))))))))))))))) .tt)))))))))))))))
theorem once_vc : vcOf Try.prog onceCx 10 8 onceCtr = onceVc := by kernel_rfl
-- END VC once
-- PROOFS
structure AllSig (S : Sig FL) : Prop where
  free : FreeSig S
  pick : PickSig S
  fl : FlSig S
  once : OnceSig S
theorem once_ok (S : Sig FL) (hA : AllSig S) : CtrOk S Try.prog 8 onceCtr := by
  obtain ⟨hF, hP, hS, hO⟩ := hA
  have hu := unf_gh S hS
  have hf := fld_gh S hS
  refine vcOf_sound S (C := onceCx) (fuel := 10) (cx_of ⟨one_spec (by decide) (live_ok S), one_spec (by decide) (newA_ok S hF (sort_ok S hF)), one_spec (by decide) (take_ok S hS hu hf), one_spec (by decide) (give_ok S hS hu hf), one_spec (by decide) (rel_ok S hS hu hf), one_spec (by decide) (fr_ok S hP), one_spec (by decide) (wa_ok S hP), trivial⟩
    ⟨⟨⟨by decide, new_gh S hS⟩, ⟨by decide, hf⟩, trivial, trivial, trivial, ⟨by decide, hu⟩, ⟨by decide, cap_gh S⟩, ⟨by decide, cap_gh S⟩, trivial, trivial⟩, trivial⟩ trivial) fun ρ => ?_
  rw [once_vc]
  obtain ⟨_, f1, f2, f3, f4, _⟩ := hF
  obtain ⟨q10, q11, _⟩ := hP
  obtain ⟨u50, u51, u52, u53, u54, u55⟩ := hO
  simp only [onceVc, VC.den, SX.den, co_int, co_bool, co_ints, co_rows, co_g, gOf_g, Env.upd, f1, f2, f3, f4, q10, q11, hS.u20, hS.u21, hS.u22, hS.u23, hS.u24, hS.u25, hS.u28, hS.u29, hS.u39, hS.u40, hS.u41, hS.u42, u50, u51, u52, u53, u54, u55, p155, p153, p23, p45, p46, p47, b45, b46, b47, ap1_2, ap1_30, ap1_32, ap1_152, ap1_154, ap2_40, ap2_41, ap2_45, ap2_48, ap2_110, ap2_115, ap2_116, ap2_122, ap2_125, ap3_112, ap3_130, t46, t47,
    U.toProp_bool, U.toBool_bool, i64lo, i64hi, U.toInt_int, U.toInts_ints, U.toRows_rows, Int.toNat_zero, toNat1, Nat.reduceEqDiff, reduceIte, Bool.not_eq_true', Bool.not_not, beq_eq_false_iff_ne, beq_iff_eq, ne_eq, U.rows.injEq, U.ints.injEq, U.bool.injEq]
  generalize (ρ 4).toRows = Q
  generalize (ρ 2).toInt = m
  generalize (ρ 3).toInt = c0
  clear f1 f2 f3 f4 q10 q11 u50 u51 u52 u53 u54 u55 hu hf hS
  intro a1 a2 a3 a4 b5 _
  have hall : allNB [2, 3, 4, 5, 6, 7, 8, 9] 8 = true := by decide
  have hdist : distB [2, 3, 4, 5, 6, 7, 8, 9] 8 = true := by decide
  refine ⟨hall, hdist, fun B b c R hs hB => ⟨fun _ => ?_, trivial⟩⟩
  have hlen := sort_size (by decide) (by decide) hs
  have hgood := sort_good (by decide) (by decide) hall hdist hs
  have htk : R.take (Int.toNat 8) = R := List.take_of_length_le (by have : Int.toNat 8 = 8 := rfl; omega)
  have hcan : R = [[2, 0], [3, 0], [4, 0], [5, 0], [6, 0], [7, 0], [8, 0], [9, 0]] := sort_one hs (sortB_iff.2 ⟨by
    show List.Perm _ _
    exact List.Perm.refl _, by decide⟩)
  refine ⟨by omega, goodB_iff.2 (by rw [htk]; exact hgood), trivial, fun st _ => ⟨?_, fun i A s i0 i1 hinv hA => ⟨fun hi => ⟨by omega, fun _ _ => ⟨fun hK => ?_, fun hK => ⟨fun hK2 => ?_, fun hK2 => ⟨fun hK3 => ?_, fun hK3 => ?_⟩⟩⟩⟩, fun hi => ?_⟩⟩⟩
  · rw [htk, hcan, onceB_iff]
    refine ⟨rfl, rfl, fun j j1 j2 => ?_⟩
    have : ([0, 0, 0, 0, 0, 0, 0, 0, 0, 0] : List Int).getD j 0 = 0 := by
      rw [show ([0, 0, 0, 0, 0, 0, 0, 0, 0, 0] : List Int) = List.replicate 10 0 from rfl, List.getD_eq_getElem?_getD, List.getElem?_replicate]
      split <;> rfl
    omega
  · -- a page is taken
    have hO := onceB_iff.1 hinv
    refine ⟨rfl, fun k l k0 k1 hl => ?_⟩
    have hfin := lst_fin k0 k1 hl
    have hst := lst_step (A := A) k0
    refine ⟨fun hk => ⟨fun hl0 => ⟨by omega, by omega, fun hz => ?_, fun hz => ?_⟩, fun hl0 => ?_⟩, fun hk => ?_⟩
    · rw [← hl, if_pos hl0, if_pos hz] at hst
      repeat' (first | exact trivial | apply And.intro)
      all_goals omega
    · rw [← hl, if_pos hl0, if_neg hz] at hst
      repeat' (first | exact trivial | apply And.intro)
      all_goals omega
    all_goals
      have hl := hfin (by omega)
      rcases once_take hO with ⟨t1, t2, t3⟩ | ⟨j, j1, j2, t1, t2, t3, t4⟩
      · rw [t1] at hl
        subst hl
        rw [t2, t3]
        repeat' (first | exact trivial | apply And.intro | intro _)
        all_goals first
          | omega
          | exact hinv
          | (rename_i h; exact absurd (by decide) h)
          | (rename_i h _; exact absurd h (by decide))
          | (exfalso; simp_all; done)
      · rw [t1] at hl
        subst hl
        have e1 : ltB 0 (j : Int) = true := ltB_iff.2 (by omega)
        have e2 : onceB (A.set (takeN s.e).toNat (-(0 + 1))) (takeE s.e) = true := onceB_iff.2 (by rw [t3]; exact t4)
        rw [t2, e1]
        repeat' (first | exact trivial | apply And.intro | intro _)
        all_goals first
          | omega
          | exact e2
          | (exfalso; omega)
          | (rename_i h; exact absurd rfl h)
          | (exfalso; simp_all; done)
  · -- a page is given back
    have hO := onceB_iff.1 hinv
    generalize hoA : (Q.getD i.toNat []).getD 1 0 = oA
    generalize hoB : (Q.getD i.toNat []).getD (Int.toNat 2) 0 = oB
    refine ⟨fun h1 => ⟨fun h2 => ⟨fun h3 => ⟨fun h4 => ⟨by omega, by omega, ?_⟩, fun h4 => ?_⟩, fun h3 => ?_⟩, fun h2 => ?_⟩, fun h1 => ?_⟩
    · rcases once_give (p := oA) (t := oB) hO h1 h2 h3 h4 with ⟨g1, g2, g3⟩ | ⟨g1, g2, g3⟩
      · have e := onceB_iff.2 g3
        rw [g2, g1]
        repeat' (first | exact trivial | apply And.intro | intro _)
        all_goals first
          | omega
          | exact e
          | (exfalso; omega)
          | (rename_i h; exact absurd (by decide) h)
          | (exfalso; simp_all; done)
      · have g1' : (A.getD oA.toNat 0 == -(0 + 1)) = false := beq_eq_false_iff_ne.2 g1
        rw [g2, g3, g1']
        repeat' (first | exact trivial | apply And.intro | intro _)
        all_goals first
          | omega
          | exact hinv
          | (exfalso; omega)
          | (rename_i h; exact absurd (by decide) h)
          | (exfalso; simp_all; done)
    all_goals
      repeat' (first | exact trivial | apply And.intro | intro _)
      all_goals omega
  · -- what older views do not need is free
    have hO := onceB_iff.1 hinv
    generalize hoA : (Q.getD i.toNat []).getD 1 0 = oA
    obtain ⟨r1, r2⟩ := once_rel oA hO
    refine ⟨(relA_zero A oA (by decide)).symm, by show _ = _ - (0 : Int); omega, fun k n L k0 k1 hL hn => ⟨fun hk => ?_, fun hk => ⟨fun hn0 => ?_, fun hn0 => ?_⟩⟩⟩
    · subst hL
      rw [relA_len, relA_get (by omega), if_neg (by omega)]
      have hst := cnt_step (A := A) (old := oA) k0
      have hb : 0 ≤ relN oA s.e ∧ relN oA s.e ≤ 65534 := by
        have := relN_le oA s.e
        have hl := hO.2.1
        have : s.e.length ≤ 8 := by
          rw [hl]
          have : ∀ n k, (entF A k n).length ≤ n := fun n => by
            induction n with
            | zero => intro k; exact Nat.le_refl _
            | succ n ih => intro k; rw [entF]; have := ih (k + 1); split <;> (try rw [List.length_cons]) <;> omega
          exact this 8 2
        omega
      have hc : ∀ n k, 0 ≤ cntF A oA k n ∧ cntF A oA k n ≤ n := fun n => by
        induction n with
        | zero => intro k; exact ⟨Int.le_refl _, Int.le_refl _⟩
        | succ n ih => intro k; have := ih (k + 1); rw [cntF]; split <;> omega
      have hck := hc (k.toNat - 2) 2
      have e1 : (k + 1).toNat = k.toNat + 1 := by omega
      rw [hst, e1]
      refine ⟨by omega, by omega, fun c1 => ⟨fun c2 => ?_, fun c2 => ?_⟩, fun c1 => ?_⟩
      · rw [if_pos ⟨c1, c2⟩, relA_yes (by omega) (by omega) ⟨c1, c2⟩]
        repeat' (first | exact trivial | exact rfl | apply And.intro)
        all_goals omega
      · rw [if_neg (by omega), ← relA_no (by omega)]
        repeat' (first | exact trivial | exact rfl | apply And.intro)
        all_goals omega
      · rw [if_neg (by omega), ← relA_no (by omega)]
        repeat' (first | exact trivial | exact rfl | apply And.intro)
        all_goals omega
    · have : k.toNat - 2 = 8 := by omega
      rw [this, ← r2] at hn
      omega
    · have e1 : k.toNat = 10 := by omega
      subst hL
      rw [relA_len]
      have e2 : onceB (relA A k.toNat oA) (s.e.map (relE oA)) = true := onceB_iff.2 (by rw [e1]; exact r1)
      repeat' (first | exact trivial | apply And.intro)
      all_goals first | omega | exact e2
  · repeat' (first | exact trivial | apply And.intro)
    all_goals omega
  · -- the end
    have hO := onceB_iff.1 hinv
    intro b1 n1 c1 R1 bm nm cm k0 k1 k2 k3 hg he b2 l2 c2 L2 p0 p1 p2 p3 b3 l3 c3 L3 r0 r1 r2 r3 w1 w2
    obtain ⟨v1, v2⟩ := once_free hO
    have e2 : L2 = selF (fun x => x == 0) A 2 8 := by rw [p3, ← v1, he]; rfl
    have e3 : L3 = selF (fun x => decide (0 < x)) A 2 8 := by rw [r3, ← v2, he]; rfl
    refine ⟨by omega, by omega, by rw [List.drop_zero, e2]; rfl, by omega, by omega, by rw [List.drop_zero, e3]; rfl, ?_⟩
    intro k x1 y1 z1 o1 x2 y2 z2 o2 g0 g1 g2 g3 g4 g5 g6 g7 g8 g9 g10 g11
    have s1 := fun h => sel_yes (A := A) (p := fun x => x == 0) (k := k) (by omega) h
    have s2 := fun h => sel_no (A := A) (p := fun x => x == 0) (k := k) (by omega) h
    have s3 := fun h => sel_yes (A := A) (p := fun x => decide (0 < x)) (k := k) (by omega) h
    have s4 := fun h => sel_no (A := A) (p := fun x => decide (0 < x)) (k := k) (by omega) h
    refine ⟨fun hk => ⟨by omega, by omega, fun hz => ?_, fun hz => ?_⟩, fun hk => ?_⟩
    · rw [s1 hk (beq_iff_eq.2 hz)] at g6
      rw [s4 hk (decide_eq_false (by omega))] at g11
      obtain ⟨d1, d2, d3⟩ := drop_cons g2 g6
      repeat' (first | exact trivial | apply And.intro | intro _)
      all_goals first | omega | exact d3 | exact g11 | (exfalso; omega) | (rename_i h; exact absurd d2 h)
    · rw [s2 hk (beq_eq_false_iff_ne.2 hz)] at g6
      by_cases hw : 0 < A.getD k.toNat 0
      · rw [s3 hk (decide_eq_true hw)] at g11
        obtain ⟨d1, d2, d3⟩ := drop_cons g7 g11
        repeat' (first | exact trivial | apply And.intro | intro _)
        all_goals first | omega | exact d3 | exact g6 | (exfalso; omega) | (rename_i h; exact absurd d2 h)
      · rw [s4 hk (decide_eq_false hw)] at g11
        repeat' (first | exact trivial | apply And.intro | intro _)
        all_goals first | omega | exact g6 | exact g11 | (exfalso; omega)
    · have e : ∀ p, selF p A k.toNat (10 - k.toNat) = [] := fun p => by rw [show 10 - k.toNat = 0 by omega]; rfl
      rw [e] at g6 g11
      have := drop_nil g2 g3 g4 g6
      have := drop_nil g7 g8 g9 g11
      repeat' (first | exact trivial | apply And.intro | intro _)
      all_goals first | omega | (exfalso; omega)
end
end Go.Proofs.Ytmjonggabppgaaa
