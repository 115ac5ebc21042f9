/- A run with written-out values: code. -/
import Derived.Test.YtmjckbfjaecjjaaGreatDoorCxNc
set_option linter.unusedVariables false
set_option linter.unusedSimpArgs false
set_option linter.unnecessarySimpa false
namespace Go.Cx
open Go.RowKit (Below)
section
variable {P : Program} {w0 : World} {φ : Out → Prop} {ctrs : List (Nat × Option Cn)} {bd rd : Nat → Cn} {ro : Option Nat}
/-! ### Loops -/
def WpL (F : Fence) (P : Program) (c : Code) (Q : Exit → Act → World → Prop) (a : Act) (w : World) : Prop :=
  ∀ (b : Frame) (k : List Item) (cs : List Frame), b.roundOf = F.round → F.fn b.fn → F.room (cs.length + 1 + 0) → ∃ e a' w', Q e a' w' ∧ ArrivesIn (Machine.fenced P F) P (lone (b.atR a (.code c :: .inLoop c :: k)) cs w) b k cs e a' w'
theorem wpL_loop {F : Fence} {c : Code} {Q : Exit → Act → World → Prop} {a : Act} {w : World} (h : WpL F P c Q a w) : (Code.loop c).wpIn F 0 P Q a w := by
  intro b k cs hro hb hr
  obtain ⟨e, a', w', hq, harr⟩ := h b k cs hro hb hr
  exact ⟨e, a', w', hq, .of_steps (.one (fenced_calm hb hr rfl) stepR_loop) harr⟩
theorem wpL_step {F : Fence} {c : Code} {Q : Exit → Act → World → Prop} {a : Act} {w : World} (h : c.wpIn F 0 P (Exit.then (WpL F P c Q) Q) a w) : WpL F P c Q a w := by
  intro b k cs hro hb hr
  obtain ⟨e, a₁, w₁, hq, harr⟩ := h b (.inLoop c :: k) cs hro hb hr
  cases e with
  | normal =>
    obtain ⟨e₂, a₂, w₂, hq₂, harr₂⟩ := hq b k cs hro hb hr
    exact ⟨e₂, a₂, w₂, hq₂, .of_steps (StepsIn.trans harr (.one (fenced_calm hb hr rfl) stepR_inLoop)) harr₂⟩
  | exit id => exact ⟨_, a₁, w₁, hq, .pass (x := .inLoop c) rfl (fun _ _ => .inl (by simp)) harr⟩
  | goto l => exact ⟨_, a₁, w₁, hq, .pass (x := .inLoop c) rfl (fun _ _ => .inl (by simp)) harr⟩
  | ret => exact ⟨_, a₁, w₁, hq, .pass (x := .inLoop c) rfl (fun _ _ => .inl (by simp)) harr⟩
  | panic ch => exact ⟨_, a₁, w₁, hq, .pass (x := .inLoop c) rfl (fun _ _ => .inl (by simp)) harr⟩
  | outgrown => exact ⟨_, a₁, w₁, hq, .pass (x := .inLoop c) rfl (fun _ _ => .inl (by simp)) harr⟩
/-- A loop's round, or the code itself. -/
def CxW (F : Fence) (P : Program) : Code → (Exit → Act → World → Prop) → Act → World → Prop
  | .loop b, Q, a, w => WpL F P b Q a w
  | c, Q, a, w => c.wpIn F 0 P Q a w
theorem CxW.wp {F : Fence} {c : Code} {Q : Exit → Act → World → Prop} {a : Act} {w : World} (h : CxW F P c Q a w) : c.wpIn F 0 P Q a w := by
  unfold CxW at h
  split at h
  · exact wpL_loop h
  · exact h
theorem noDefer_spec {ops : Array Oper} (h : noDefer ops.toList = true) : ∀ (j : Nat) (o : Oper) c, ops[j]? = some o → o.op ≠ .defer c := by
  intro j o c hj
  rw [← Array.getElem?_toList] at hj
  revert h hj
  generalize ops.toList = l
  intro h hj
  induction l generalizing j with
  | nil => cases hj
  | cons x l ih =>
    unfold noDefer at h
    cases hx : isDefer x.op
    · rw [hx] at h
      cases j with
      | zero => simp at hj; subst hj; intro e; rw [e] at hx; cases hx
      | succ j => exact ih j h (by simpa using hj)
    · rw [hx] at h; cases h
end
end Go.Cx
