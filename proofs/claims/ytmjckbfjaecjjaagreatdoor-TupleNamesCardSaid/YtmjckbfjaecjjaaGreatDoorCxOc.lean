/- A run with written-out values: results. -/
import Derived.Test.YtmjckbfjaecjjaaGreatDoorCxOb
set_option linter.unusedVariables false
set_option linter.unusedSimpArgs false
set_option linter.unnecessarySimpa false
namespace Go.Cx
open Go.RowKit (Below)
section
variable {P : Program} {w0 : World} {φ : Out → Prop} {ctrs : List (Nat × Option Cn)} {bd rd : Nat → Cn} {σ : Sg} {hp : H} {n : Nat} {w : World} {fr : F} {a : Act}
def resF (tmps : Array Value) : ResultVar → Sem Value
  | .tmp t => pure (tmps.getD t undef)
  | .cell a t => do loadVar t (← asAddr (tmps.getD a undef))
theorem resV_sound (hR : Rel w0 σ hp n w) (hF : FrR σ fr a) : ∀ (l : List ResultVar) {r : List CV}, resV P fr hp l = some r → ∃ vs, (l.mapM (resF a.tmps)).run P w = .ok vs w ∧ VRs σ r vs
  | [], r, h => by cases h; exact ⟨[], by simp [List.mapM_nil], rfl⟩
  | .tmp t :: l, r, h => by
    simp only [resV] at h
    split at h
    · cases h
    · rename_i hj
      split at h
      · rename_i r' hr'
        cases h
        obtain ⟨vs, h1, h2⟩ := resV_sound hR hF l hr'
        refine ⟨a.tmps.getD t undef :: vs, ?_, ?_⟩
        · rw [List.mapM_cons]; simp [resF, h1]
        · simp only [VRs]; exact ⟨_, _, rfl, fg_R hF t, h2⟩
      · cases h
  | .cell b t :: l, r, h => by
    simp only [resV] at h
    have hb := fg_R hF b
    split at h
    · rename_i bb o he
      rw [he] at hb; simp only [VR] at hb
      obtain ⟨p, u, hs, hv⟩ := hb
      split at h
      · rename_i m hA
        obtain ⟨d, d1, d2, d3⟩ := tyA_spec hA
        split at h
        · rename_i cs hc
          split at h
          · rename_i r' hr'
            cases h
            obtain ⟨vs, h1, h2⟩ := resV_sound hR hF l hr'
            obtain ⟨us, g1, g2, g3⟩ := rdN_sound hR hc hs
            refine ⟨.agg us.toArray :: vs, ?_, ?_⟩
            · rw [List.mapM_cons]; simp only [resF, hv]; simp [asAddr, run_loadAgg d1 d2 d3 g1 g3, h1]
            · simp only [VRs, VR]; exact ⟨_, _, rfl, ⟨us, g2, rfl⟩, h2⟩
          · cases h
        · cases h
      · rename_i m hA
        obtain ⟨d, d1, d2, d3⟩ := tyA_spec hA
        split at h
        · rename_i c hc
          split at h
          · rename_i r' hr'
            cases h
            obtain ⟨vs, h1, h2⟩ := resV_sound hR hF l hr'
            obtain ⟨v, g1, g2⟩ := rd1_sound hR hc hs
            refine ⟨v :: vs, ?_, ?_⟩
            · rw [List.mapM_cons]; simp only [resF, hv]; simp [asAddr, run_loadOne d1 d2 g1, h1]
            · simp only [VRs]; exact ⟨_, _, rfl, g2, h2⟩
          · cases h
        · cases h
      · cases h
    · cases h
theorem results_run {fn : Func} {vs : List Value} (h : (fn.results.toList.mapM (resF a.tmps)).run P w = .ok vs w) : (results fn a.tmps).run P w = .ok (if h : vs.toArray.size = 1 then vs.toArray[0] else .tuple vs.toArray) w := by
  have e : results fn a.tmps = (do let vs ← fn.results.mapM (resF a.tmps); pure (if h : vs.size = 1 then vs[0] else .tuple vs)) := by
    unfold results; congr
  rw [e, Array.mapM_eq_mapM_toList]
  simp [h]
end
end Go.Cx
