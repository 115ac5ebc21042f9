/- CacheMakes answers true for every number of frames. No condition. -/
import Derived.Test.YtenddihggaehfaaYes
import Derived.Test.YtenddihggaehfaaRunCacheMakes
import Derived.Test.YtenddihggaehfaaChecked
import Derived.Test.YtenddihggaehfaaRows
import Derived.WalkKit
import Derived.ProofKit
import Derived.OpenShut
namespace Go.Proofs.Ytenddihggaehfaa.cacheMakes
open Go.ChangeShapes Go.WideShapes Go.ChangeAt Go.RowKit
open Go.Eng (Sig Ctr Cx VC CtrOk emp vcOf vcOf_sound yesC yesC_ok lawI assoc)
open Go.Cx (yes_sound post_below)
set_option linter.unusedVariables false
set_option linter.unusedSimpArgs false

theorem own : ownKnob Try.prog.godebug = none := by kernel_rfl
theorem live_calls (w : World) : Calls Try.prog 6 #[] w fun e w' => e = .returned (.bool true) ∧ Below w.heap.size w w' := yes_sound tab_ok dtab_ok run w
def sig : Sig Unit := { dg := (), ch := fun _ => true, usr := fun _ _ _ _ _ => .int 0, prd := fun _ _ _ _ => emp }
noncomputable def needCx : Cx := { specs := [(6, [yesC])], anns := [] }
noncomputable def needCtr : Ctr := lawI (-9223372036854775808) 9223372036854775807
/-- Nothing is asked. -/
def triv : VC → Bool
  | .tt => true
  | .ff _ => false
  | .and a b => bif triv a then triv b else false
  | .imp _ a => triv a
  | .need _ _ => false
  | .all _ _ a => triv a
theorem triv_den : ∀ {v : VC}, triv v = true → ∀ ρ : Go.Eng.Env Unit, v.den sig ρ
  | .tt, _, _ => trivial
  | .ff _, h, _ => by cases h
  | .and a b, h, ρ => by
    unfold triv at h
    cases ha : triv a
    · rw [ha] at h; cases h
    · rw [ha] at h; exact ⟨triv_den ha ρ, triv_den h ρ⟩
  | .imp e a, h, ρ => fun _ => triv_den (v := a) h ρ
  | .need _ _, h, _ => by cases h
  | .all n s a, h, ρ => by cases s <;> exact fun x => triv_den (v := a) h _
theorem need_vc : triv (vcOf Try.prog needCx 100 4 needCtr) = true := by kernel_rfl
theorem vc_ok (ρ : Go.Eng.Env Unit) : (vcOf Try.prog needCx 100 4 needCtr).den sig ρ := @triv_den (vcOf Try.prog needCx 100 4 needCtr) (@need_vc) ρ
theorem need_ok : CtrOk sig Try.prog 4 needCtr := by
  refine vcOf_sound sig (C := needCx) (fuel := 100) ⟨fun f sps h sp hm => ?_, fun f l h i sp args hm => ?_, fun f sps h => by simp [needCx, assoc] at h⟩ @vc_ok
  · simp only [needCx, assoc] at h
    cases hb : Nat.beq 6 f
    · rw [hb] at h; cases h
    · rw [hb] at h; cases h
      rw [List.mem_singleton] at hm
      rw [← Nat.eq_of_beq_eq_true hb, hm]
      exact ⟨by decide, yesC_ok sig live_calls⟩
  · simp [needCx, assoc] at h
theorem walk (a0 : Int) (w0 : (Lit.int .i64 a0).wf = true) (w : World) :
    Calls Try.prog 4 #[.int .i64 a0] w fun e w' => e = .returned (.bool true) ∧ Below w.heap.size w w' := by
  have hb : -9223372036854775808 ≤ a0 ∧ a0 ≤ 9223372036854775807 := by simpa [Lit.wf, IntKind.min, IntKind.max, IntKind.signed, IntKind.bits] using w0
  let ρ : Go.Eng.Env Unit := fun i => match i with | 0 => .int a0 | _ => .int 0
  refine (need_ok (fun _ => true) w emp ρ w [.int .i64 a0] ⟨.inr rfl, trivial⟩ (fun e he => ?_) ⟨Go.Eng.Hl.none, ?_, ⟨fun _ _ _ _ h => (by cases h), fun _ _ _ h => (by cases h), Below.refl _ _⟩⟩).mono ?_
  · have r1 : Go.Eng.eLe (.int (-9223372036854775808)) (.at .int 0) = .f2 47 (.int (-9223372036854775808)) (.at .int 0) := by kernel_rfl
    have r2 : Go.Eng.eLe (.at .int 0) (.int 9223372036854775807) = .f2 47 (.at .int 0) (.int 9223372036854775807) := by kernel_rfl
    simp only [needCtr, lawI, r1, r2, List.mem_cons, List.not_mem_nil, or_false] at he
    rcases he with rfl | rfl
    · show (Go.Eng.ap2 47 (.int (-9223372036854775808)) (.int a0)).toProp
      rw [Go.Eng.p47]; exact hb.1
    · show (Go.Eng.ap2 47 (.int a0) (.int 9223372036854775807)).toProp
      rw [Go.Eng.p47]; exact hb.2
  · show Go.Eng.star emp emp Go.Eng.Hl.none
    rw [Go.Eng.star_emp]; rfl
  · rintro e w' ⟨ρ', v, _, rfl, hv, ⟨y, _, hi⟩, hf⟩
    have hv := Go.Eng.R_one sig ρ' hv
    have hf := hf (.at .bool 1) (by simp [needCtr, lawI])
    subst hv
    refine ⟨?_, hi.below⟩
    have : (ρ' 1).toBool = true := by simpa [Go.Eng.SX.den, Go.Eng.U.co, Go.Eng.U.toProp] using hf
    simp [Go.Eng.SC.den, Go.Eng.SX.den, Go.Eng.U.co, this]

set_option maxRecDepth 100000 in
theorem lifted (os : Os) (started : os.Started) (H : Type) (enc : TypeId × Value → H) :
    ReturnsInHanded {} Try.checked os 4 .any (Rows.cacheMakesSpec.pre6 enc Try.prog Try.f4 Rows.cacheMakesRow.domain false) (Rows.cacheMakesSpec.post enc Try.prog Try.f4 false true false false) := by
  refine returnsInHanded_of_change (C := Try.checked) own started (by kernel_rfl) Try.func4
    (ChangeSpec.witness6 (enc := enc) (C := Try.checked) false ⟨#[], #[.int .i64 0], []⟩ 8 (by kernel_rfl) (by kernel_rfl) (by kernel_rfl) (by kernel_rfl)) ?_
  intro W base args ds gs before hval0 hW hcnd _
  have hval : ∀ (j : Nat) t v, Try.f4.params[j]? = some t → args[j]? = some v → Value.okWide Try.prog W .any base t v := hval0
  have hW' := hW
  obtain ⟨p, q, hA0, hV, rfl, hfz, hnd⟩ := hW
  have hA : DataW.TrodAll enc Try.prog W 0 (fun _ => true) true Try.f4.params.toList args.toList ds p := hA0
  rw [Try.params4] at hA hval
  obtain ⟨v0, vs0, d0, ds0, p0, q0, hargs, rfl, rfl, h0, r0⟩ := trodAll_cons hA
  obtain ⟨rfl, rfl, rfl⟩ := trodAll_nil r0
  obtain rfl : args = #[v0] := by cases args; simp_all
  obtain ⟨rfl, rfl⟩ := trodVars_none hV
  obtain ⟨a0, rfl, rfl, rfl, w0⟩ := open_int Try.underlying3 (hval 0 3 v0 rfl rfl) h0
  clear hA0 hval0
  simp only [List.append_nil] at hW'
  refine (walk a0 w0 W).mono fun e W' ⟨he, hg⟩ => ?_
  subst he
  exact ⟨_, rfl, post_below (pa := []) (pv := []) hW' (fun _ _ _ => (trodAll_cons_mk (shut_bool Try.underlying4 _) trodAll_mk0)) (fun sp _ => (trodAll_cons_mk (shut_int Try.underlying3 w0) trodAll_mk0)) (fun _ _ => rfl) rfl
    hg (ok_one (by kernel_rfl) rfl (okWide_bool_mk Try.underlying4 _))⟩

theorem over : Rows.cacheMakesRow.holds Try.pinned (OpenSpec.ofChange Rows.cacheMakesSpec) :=
  OpenClaim.holds_of_wide 4 Try.f4 rfl rfl rfl rfl rfl rfl rfl ⟨rfl, rfl, rfl, rfl, rfl⟩ rfl rfl rfl rfl rfl (by kernel_rfl) Try.func4 (by kernel_rfl)
    (of_decide_eq_true (by kernel_rfl)) (by unfold Func.isWrapper; first | (rw [if_pos (by decide +kernel)]; kernel_rfl) | (rw [if_neg (by decide +kernel)]; exact ⟨rfl, rfl⟩))
    (fun os started H enc _ => lifted os started H enc)

/-- The statement. -/
theorem proved : Rows.CacheMakesSaid :=
  over
#print axioms proved
end Go.Proofs.Ytenddihggaehfaa.cacheMakes
