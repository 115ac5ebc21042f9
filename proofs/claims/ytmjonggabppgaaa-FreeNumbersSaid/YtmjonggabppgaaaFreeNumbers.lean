/- FreeNumbers answers true, whatever the world. No condition. -/
import Derived.Test.YtmjonggabppgaaaNums
import Derived.Test.YtmjonggabppgaaaGlue
import Derived.Test.YtmjonggabppgaaaRows
import Derived.WalkKit
import Derived.ProofKit
import Derived.OpenShut
namespace Go.Proofs.Ytmjonggabppgaaa.freeNumbers
open Go.ChangeShapes Go.WideShapes Go.ChangeAt Go.RowKit
open Go.Eng (Sig ExtOk CxOk CtrOk emp vcOf_sound vc_chk post_below yes_law ext_overlaps ovCtr assoc)
set_option linter.unusedVariables false
set_option linter.unusedSimpArgs false

theorem own : ownKnob Try.prog.godebug = none := by kernel_rfl
def sig : Sig Unit := { dg := (), ch := fun _ => true, usr := fun _ _ _ _ _ => .int 0, prd := fun _ _ _ _ => emp }
theorem ov_ok : ExtOk sig Try.prog 88 (ovCtr (.rows [.int .i64, .int .i64])) :=
  ext_overlaps sig (fn := Try.f88) (tS := 80) (tR := 4) (et := 85) Try.func88 (by kernel_rfl) (by kernel_rfl) (by kernel_rfl) (by kernel_rfl) (by kernel_rfl) (by kernel_rfl) (by kernel_rfl) (by kernel_rfl) (by decide)
theorem cx_ok : CxOk sig Try.prog numCx := by
  refine ⟨fun f sps h sp hm => ?_, fun f l h i sp args hm => ?_, fun f sps h sp hm => ?_⟩
  · simp only [numCx, assoc] at h
    cases hb : Nat.beq 43 f
    · rw [hb] at h; cases h
    · rw [hb] at h; cases h
      rw [List.mem_singleton] at hm
      rw [← Nat.eq_of_beq_eq_true hb, hm]
      exact ⟨by decide, sum_ok sig⟩
  · simp only [numCx, assoc] at h
    cases hb : Nat.beq 21 f
    · rw [hb] at h; cases h
    · rw [hb] at h; cases h
      simp at hm
  · simp only [numCx, assoc] at h
    cases hb : Nat.beq 88 f
    · rw [hb] at h; cases h
    · rw [hb] at h; cases h
      rw [List.mem_singleton] at hm
      rw [← Nat.eq_of_beq_eq_true hb, hm]
      exact ⟨by decide, ov_ok⟩
theorem vc (ρ : Go.Eng.Env Unit) : (Go.Eng.vcOf Try.prog numCx 1200 3 Go.Eng.yes).den sig ρ := by
  have h := num_chk
  revert h
  generalize Go.Eng.vcOf Try.prog numCx 1200 3 Go.Eng.yes = v
  intro h
  exact vc_chk sig h ρ
theorem ctr : CtrOk sig Try.prog 3 Go.Eng.yes :=
  @vcOf_sound Unit sig Try.prog numCx cx_ok 1200 3 Go.Eng.yes @vc
theorem walk (w : World) :
    Calls Try.prog 3 #[] w fun e w' => e = .returned (.bool true) ∧ Below w.heap.size w w' := yes_law sig ctr w

set_option maxRecDepth 100000 in
theorem lifted (os : Os) (started : os.Started) (H : Type) (enc : TypeId × Value → H) :
    ReturnsInHanded {} Try.checked os 3 .any (Rows.freeNumbersSpec.pre6 enc Try.prog Try.f3 Rows.freeNumbersRow.domain false) (Rows.freeNumbersSpec.post enc Try.prog Try.f3 false true false false) := by
  refine returnsInHanded_of_change (C := Try.checked) own started (by kernel_rfl) Try.func3
    (ChangeSpec.witness6 (enc := enc) (C := Try.checked) false ⟨#[], #[], []⟩ 8 (by kernel_rfl) (by kernel_rfl) (by kernel_rfl) (by kernel_rfl)) ?_
  intro W base args ds gs before hval0 hW hcnd _
  have hval : ∀ (j : Nat) t v, Try.f3.params[j]? = some t → args[j]? = some v → Value.okWide Try.prog W .any base t v := hval0
  have hW' := hW
  obtain ⟨p, q, hA0, hV, rfl, hfz, hnd⟩ := hW
  have hA : DataW.TrodAll enc Try.prog W 0 (fun _ => true) true Try.f3.params.toList args.toList ds p := hA0
  rw [Try.params3] at hA hval
  obtain ⟨rfl, rfl, rfl⟩ := trodAll_none hA
  obtain ⟨rfl, rfl⟩ := trodVars_none hV
  clear hA0 hval0
  simp only [List.append_nil] at hW'
  refine (walk W).mono fun e W' ⟨he, hg⟩ => ?_
  subst he
  exact ⟨_, rfl, post_below (pa := []) (pv := []) hW' (fun _ _ _ => (trodAll_cons_mk (shut_bool Try.underlying4 _) trodAll_mk0)) (fun sp _ => rfl) (fun _ _ => rfl) rfl
    hg (ok_one (by kernel_rfl) rfl (okWide_bool_mk Try.underlying4 _))⟩

theorem over : Rows.freeNumbersRow.holds Try.pinned (OpenSpec.ofChange Rows.freeNumbersSpec) :=
  OpenClaim.holds_of_wide 3 Try.f3 rfl rfl rfl rfl rfl rfl rfl ⟨rfl, rfl, rfl, rfl, rfl⟩ rfl rfl rfl rfl rfl (by kernel_rfl) Try.func3 (by kernel_rfl)
    (of_decide_eq_true (by kernel_rfl)) (by unfold Func.isWrapper; first | (rw [if_pos (by decide +kernel)]; kernel_rfl) | (rw [if_neg (by decide +kernel)]; exact ⟨rfl, rfl⟩))
    (fun os started H enc _ => lifted os started H enc)

/-- The statement. -/
theorem proved : Rows.FreeNumbersSaid :=
  over
#print axioms proved
end Go.Proofs.Ytmjonggabppgaaa.freeNumbers
