/- TreeNeeds answers true for every height. No condition. -/
import Derived.Test.YtenddihggaehfaaGreatYes
import Derived.Test.YtenddihggaehfaaGreatRunTreeNeeds
import Derived.Test.YtenddihggaehfaaGreatChecked
import Derived.Test.YtenddihggaehfaaGreatRows
import Derived.WalkKit
import Derived.ProofKit
import Derived.OpenShut
namespace Go.Proofs.YtenddihggaehfaaGreat.treeNeeds
open Go.ChangeShapes Go.WideShapes Go.ChangeAt Go.RowKit
open Go.Eng (Sig Ctr Cx VC CtrOk emp vcOf vcOf_sound yesC yesC_ok lawI assoc)
open Go.Cx (yes_sound post_below)
set_option linter.unusedVariables false
set_option linter.unusedSimpArgs false

theorem own : ownKnob Tryz.prog.godebug = none := by kernel_rfl
theorem awake_calls (w : World) : Calls Tryz.prog 13 #[] w fun e w' => e = .returned (.bool true) ∧ Below w.heap.size w w' := yes_sound tab_ok dtab_ok run w
def sig : Sig Unit := { dg := (), ch := fun _ => true, usr := fun _ _ _ _ _ => .int 0, prd := fun _ _ _ _ => emp }
noncomputable def needCx : Cx := { specs := [(13, [yesC])], anns := [] }
noncomputable def needCtr : Ctr := lawI (-9223372036854775808) 9223372036854775807
def needVc : VC := .imp (.f2 47 (.int (-(9223372036854775807 + 1))) (.at .int 0)) (.imp (.f2 47 (.at .int 0) (.int 9223372036854775807)) (.need (.f1 23 (.f2 42 (.int 3) (.f2 51 (.f2 52 (.at .int 0) (.int 0)) (.int 65536)))) (.need (.f1 23 (.f2 40 (.f2 42 (.int 3) (.f2 51 (.f2 52 (.at .int 0) (.int 0)) (.int 65536))) (.int 4))) (.and (.imp (.f2 46 (.at .int 0) (.int 0)) (.need (.f2 45 (.f2 40 (.f2 42 (.int 3) (.f2 51 (.f2 52 (.at .int 0) (.int 0)) (.int 65536))) (.int 4)) (.int 4)) .tt)) (.imp (.f2 47 (.int 0) (.at .int 0)) (.and (.imp (.f2 46 (.int 65536) (.at .int 0)) (.need (.f2 45 (.f2 40 (.f2 42 (.int 3) (.f2 51 (.f2 52 (.at .int 0) (.int 0)) (.int 65536))) (.int 4)) (.int 196612)) .tt)) (.imp (.f2 47 (.at .int 0) (.int 65536)) (.need (.f1 23 (.f2 42 (.int 3) (.at .int 0))) (.need (.f1 23 (.f2 40 (.f2 42 (.int 3) (.at .int 0)) (.int 4))) (.need (.f2 45 (.f2 40 (.f2 42 (.int 3) (.f2 51 (.f2 52 (.at .int 0) (.int 0)) (.int 65536))) (.int 4)) (.f2 40 (.f2 42 (.int 3) (.at .int 0)) (.int 4))) .tt))))))))))
theorem need_vc : vcOf Tryz.prog needCx 100 7 needCtr = needVc := by kernel_rfl
theorem need_ok : CtrOk sig Tryz.prog 7 needCtr := by
  refine vcOf_sound sig (C := needCx) (fuel := 100) ⟨fun f sps h sp hm => ?_, fun f l h i sp args hm => ?_, fun f sps h => by simp [needCx, assoc] at h⟩ fun ρ => ?_
  · simp only [needCx, assoc] at h
    cases hb : Nat.beq 13 f
    · rw [hb] at h; cases h
    · rw [hb] at h; cases h
      rw [List.mem_singleton] at hm
      rw [← Nat.eq_of_beq_eq_true hb, hm]
      exact ⟨by decide, yesC_ok sig awake_calls⟩
  · simp [needCx, assoc] at h
  · rw [need_vc]
    simp only [needVc, VC.den, Go.Eng.SX.den, Go.Eng.U.co, Go.Eng.p23, Go.Eng.p45, Go.Eng.p46, Go.Eng.p47, Go.Eng.ap2_40, Go.Eng.ap2_42, Go.Eng.ap2_51, Go.Eng.ap2_52, Go.Eng.U.toInt_int]
    intro h1 h2
    have e1 : IntKind.min .i64 = -9223372036854775808 := by decide
    have e2 : IntKind.max .i64 = 9223372036854775807 := by decide
    simp only [e1, e2]
    generalize (ρ 0).toInt = z at *
    refine ⟨?_, ?_, fun h3 => ⟨?_, trivial⟩, fun h3 => ⟨fun h4 => ⟨?_, trivial⟩, fun h4 => ⟨?_, ?_, ?_, trivial⟩⟩⟩
    all_goals repeat' split
    all_goals omega
theorem walk (a0 : Int) (w0 : (Lit.int .i64 a0).wf = true) (w : World) :
    Calls Tryz.prog 7 #[.int .i64 a0] w fun e w' => e = .returned (.bool true) ∧ Below w.heap.size w w' := by
  have hb : -9223372036854775808 ≤ a0 ∧ a0 ≤ 9223372036854775807 := by simpa [Lit.wf, IntKind.min, IntKind.max, IntKind.signed, IntKind.bits] using w0
  let ρ : Go.Eng.Env Unit := fun i => match i with | 0 => .int a0 | _ => .int 0
  refine (need_ok (fun _ => true) w emp ρ w [.int .i64 a0] ⟨.inr rfl, trivial⟩ (fun e he => ?_) ⟨Go.Eng.Hl.none, ?_, ⟨fun _ _ _ _ h => (by cases h), fun _ _ _ h => (by cases h), Below.refl _ _⟩⟩).mono ?_
  · have r1 : Go.Eng.eLe (.int (-9223372036854775808)) (.at .int 0) = .f2 47 (.int (-9223372036854775808)) (.at .int 0) := by kernel_rfl
    have r2 : Go.Eng.eLe (.at .int 0) (.int 9223372036854775807) = .f2 47 (.at .int 0) (.int 9223372036854775807) := by kernel_rfl
    simp only [needCtr, lawI, r1, r2, List.mem_cons, List.not_mem_nil, or_false] at he
    rcases he with rfl | rfl
    · show (Go.Eng.ap2 47 (.int (-9223372036854775808)) (.int a0)).toProp
      rw [Go.Eng.p47]; exact hb.1
    · show (Go.Eng.ap2 47 (.int a0) (.int 9223372036854775807)).toProp
      rw [Go.Eng.p47]; exact hb.2
  · show Go.Eng.star emp emp Go.Eng.Hl.none
    rw [Go.Eng.star_emp]; rfl
  · rintro e w' ⟨ρ', v, _, rfl, hv, ⟨y, _, hi⟩, hf⟩
    have hv := Go.Eng.R_one sig ρ' hv
    have hf := hf (.at .bool 1) (by simp [needCtr, lawI])
    subst hv
    refine ⟨?_, hi.below⟩
    have : (ρ' 1).toBool = true := by simpa [Go.Eng.SX.den, Go.Eng.U.co, Go.Eng.U.toProp] using hf
    simp [Go.Eng.SC.den, Go.Eng.SX.den, Go.Eng.U.co, this]

set_option maxRecDepth 100000 in
theorem lifted (os : Os) (started : os.Started) (H : Type) (enc : TypeId × Value → H) :
    ReturnsInHanded {} Tryz.checked os 7 .any (Rows.treeNeedsSpec.pre6 enc Tryz.prog Tryz.f7 Rows.treeNeedsRow.domain false) (Rows.treeNeedsSpec.post enc Tryz.prog Tryz.f7 false true false false) := by
  refine returnsInHanded_of_change (C := Tryz.checked) own started (by kernel_rfl) Tryz.func7
    (ChangeSpec.witness6 (enc := enc) (C := Tryz.checked) false ⟨#[], #[.int .i64 0], []⟩ 8 (by kernel_rfl) (by kernel_rfl) (by kernel_rfl) (by kernel_rfl)) ?_
  intro W base args ds gs before hval0 hW hcnd _
  have hval : ∀ (j : Nat) t v, Tryz.f7.params[j]? = some t → args[j]? = some v → Value.okWide Tryz.prog W .any base t v := hval0
  have hW' := hW
  obtain ⟨p, q, hA0, hV, rfl, hfz, hnd⟩ := hW
  have hA : DataW.TrodAll enc Tryz.prog W 0 (fun _ => true) true Tryz.f7.params.toList args.toList ds p := hA0
  rw [Tryz.params7] at hA hval
  obtain ⟨v0, vs0, d0, ds0, p0, q0, hargs, rfl, rfl, h0, r0⟩ := trodAll_cons hA
  obtain ⟨rfl, rfl, rfl⟩ := trodAll_nil r0
  obtain rfl : args = #[v0] := by cases args; simp_all
  obtain ⟨rfl, rfl⟩ := trodVars_none hV
  obtain ⟨a0, rfl, rfl, rfl, w0⟩ := open_int Tryz.underlying3 (hval 0 3 v0 rfl rfl) h0
  clear hA0 hval0
  simp only [List.append_nil] at hW'
  refine (walk a0 w0 W).mono fun e W' ⟨he, hg⟩ => ?_
  subst he
  exact ⟨_, rfl, post_below (pa := []) (pv := []) hW' (fun _ _ _ => (trodAll_cons_mk (shut_bool Tryz.underlying4 _) trodAll_mk0)) (fun sp _ => (trodAll_cons_mk (shut_int Tryz.underlying3 w0) trodAll_mk0)) (fun _ _ => rfl) rfl
    hg (ok_one (by kernel_rfl) rfl (okWide_bool_mk Tryz.underlying4 _))⟩

theorem over : Rows.treeNeedsRow.holds Tryz.pinned (OpenSpec.ofChange Rows.treeNeedsSpec) :=
  OpenClaim.holds_of_wide 7 Tryz.f7 rfl rfl rfl rfl rfl rfl rfl ⟨rfl, rfl, rfl, rfl, rfl⟩ rfl rfl rfl rfl rfl (by kernel_rfl) Tryz.func7 (by kernel_rfl)
    (of_decide_eq_true (by kernel_rfl)) (by unfold Func.isWrapper; first | (rw [if_pos (by decide +kernel)]; kernel_rfl) | (rw [if_neg (by decide +kernel)]; exact ⟨rfl, rfl⟩))
    (fun os started H enc _ => lifted os started H enc)

/-- The statement. -/
theorem proved : Rows.TreeNeedsSaid :=
  over
#print axioms proved
end Go.Proofs.YtenddihggaehfaaGreat.treeNeeds
