/- A run with written-out values: one operation, whichever. -/
import Derived.Test.YtmjckbfjaecjjaaGreatDoorCxL
set_option linter.unusedVariables false
set_option linter.unusedSimpArgs false
set_option linter.unnecessarySimpa false
namespace Go.Cx
open Go.RowKit (Below)
section
variable {P : Program} {w0 : World} {σ : Sg} {hp : H} {n : Nat} {w : World} {fr : F} {ev : Operand → Value} {k : KS} {φ : Out → Prop} {ctrs : List (Nat × Option Cn)} {bd rd : Nat → Cn}
theorem l_callB (hR : Rel w0 σ hp n w) (hL : ∀ x, VR σ (lk fr x) (ev x)) {c : Call} {b : Builtin} {ty : Nat} {consts : Array Bool} (h : Good (lCallB P fr hp n b c.args.toList c.argTypes.toList k) φ) :
    LR P w0 σ n w (builtin b c.argTypes ty consts (c.args.map ev)) k φ := by
  unfold lCallB at h
  split at h
  · rename_i d s t t2 ha ht
    have h0 : c.argTypes[0]? = some t := by rw [← Array.getElem?_toList, ht]; rfl
    have h1 : c.argTypes[1]? = some t2 := by rw [← Array.getElem?_toList, ht]; rfl
    rw [args_of ha]
    exact l_append hR (hL d) (hL s) h0 h1 h
  · rename_i d s t ts ha ht
    have h0 : c.argTypes[0]? = some t := by rw [← Array.getElem?_toList, ht]; rfl
    rw [args_of ha]
    exact l_copy hR (hL d) (hL s) h0 h
  · rename_i x t ts ha ht
    have h0 : c.argTypes[0]? = some t := by rw [← Array.getElem?_toList, ht]; rfl
    rw [args_of ha]
    exact l_clear hR (hL x) h0 h
  · rename_i m x t ts ha ht
    have h0 : c.argTypes[0]? = some t := by rw [← Array.getElem?_toList, ht]; rfl
    rw [args_of ha]
    exact l_delete hR hL h0 h
  · obtain ⟨cv, v, g1, g2, g3⟩ := q_callB (k := fun v => k v hp n) (ty := ty) hR hL h (consts := consts)
    exact ⟨w, cv, hp, n, σ, .inl ⟨v, g1, g2⟩, hR, Ex.refl _ _, Nle.refl _, g3⟩
theorem callV_sound (hC : CsOk P w0 ctrs bd rd) (hR : Rel w0 σ hp n w) {g : CV} {vg : Value} (hg : VR σ g vg) {args : List CV} {xs : List Value} (hx : VRs σ args xs) (h : Good (callV P ctrs bd rd g args hp n k) φ) :
    ∃ d, (Deferred.ofValue vg xs.toArray).run P w = .ok d w ∧ Leads P w0 σ n k φ w ((invoke d.target d.args).run P w) := by
  unfold callV at h
  split at h
  · rename_i f first caps
    simp only [VR] at hg; obtain ⟨us, vs, h1, h2, rfl⟩ := hg
    refine ⟨_, rfl, ?_⟩
    have := callF_sound hC hR ((h1.app hx).app h2) h
    have e : (us ++ xs ++ vs).toArray = us.toArray ++ xs.toArray ++ vs.toArray := by apply Array.ext'; simp
    rw [e] at this; exact this
  · rename_i l
    simp only [VR] at hg; obtain ⟨p, t, hs, rfl⟩ := hg
    refine ⟨_, rfl, ?_⟩
    obtain ⟨os, hl, hgo⟩ := after_sound h
    obtain ⟨f, tm, as, bo, h1, h2⟩ := hC.rd l args hp n σ w xs os p t hR hx hs hl
    refine .inr (.inr (.inr ⟨p, f, tm, as, bo, ?_, RoundIn.mono h2 fun e w' he => ?_⟩))
    · have e : (#[] ++ xs.toArray : Array Value) = xs.toArray := by apply Array.ext'; simp
      show (Instr.yield p (#[] ++ xs.toArray)).run P w = _
      rw [e]; exact h1
    · obtain ⟨v, rfl, hr⟩ := he
      exact ⟨v, rfl, hgo _ _ hr⟩
  · rename_i name t v
    simp only [VR] at hg; obtain ⟨x, ⟨y, hy, rfl⟩, rfl⟩ := hg
    refine ⟨_, rfl, ?_⟩
    split at h
    · rename_i f hf
      have := callF_sound hC hR (xs := y :: xs) (by simp only [VRs]; exact ⟨y, xs, rfl, hy, hx⟩) h
      have hm := fun w => methodAt_run hf y w
      have e0 : (#[Value.iface t y] ++ xs.toArray)[0]? = some (Value.iface t y) := by simp
      have e1 : (#[Value.iface t y] ++ xs.toArray).extract 1 (#[Value.iface t y] ++ xs.toArray).size = xs.toArray := by apply Array.ext'; simp
      have e2 : (#[y] ++ xs.toArray : Array Value) = (y :: xs).toArray := by apply Array.ext'; simp
      simp only [invoke, e0, callMethod, Sem.run_bind, run_program, hm, Result.andThen_ok, e1, e2]
      exact this
    · exact h.no.elim
  · exact h.no.elim
theorem l_call (hC : CsOk P w0 ctrs bd rd) (hR : Rel w0 σ hp n w) (hL : ∀ x, VR σ (lk fr x) (ev x)) {c : Call} {o : Oper} (ho : o.op = .call c) (h : Good (lCall P ctrs bd rd c fr hp n k) φ) :
    Leads P w0 σ n k φ w ((execOp ev o).run P w) := by
  have hex : (execOp ev o).run P w = (do let d ← resolve ev c o.type; invoke d.target d.args : Sem Next).run P w := by unfold execOp; rw [ho]
  rw [hex]
  unfold lCall at h
  split at h
  · rename_i f hf
    obtain ⟨d, h1, h2⟩ := callV_sound hC hR (hL f) (lks_R hL c.args.toList) h
    have ea : c.args.map ev = (c.args.toList.map ev).toArray := amap _
    simp only [resolve, hf, Sem.run_bind, ea, h1, Result.andThen_ok]
    exact h2
  · rename_i b hb
    have := l_callB (ty := o.type) (consts := c.args.map fun | .const _ => true | _ => false) hR hL h
    simp only [resolve, hb, Sem.run_bind, Sem.run_pure, Result.andThen_ok]
    exact Leads.of_LR this
  · rename_i r name hr
    have hx := hL r
    split at h
    · rename_i t v e
      rw [e] at hx; simp only [VR] at hx; obtain ⟨y, hy, hv⟩ := hx
      split at h
      · rename_i f hf
        have := callF_sound hC hR (xs := y :: c.args.toList.map ev) (by simp only [VRs]; exact ⟨y, _, rfl, hy, lks_R hL _⟩) h
        have hm := fun w => methodAt_run hf y w
        have ea : c.args.map ev = (c.args.toList.map ev).toArray := amap _
        generalize hxs : c.args.toList.map ev = xs at this ea
        have e0 : (#[Value.iface t y] ++ xs.toArray)[0]? = some (Value.iface t y) := by simp
        have e1 : (#[Value.iface t y] ++ xs.toArray).extract 1 (#[Value.iface t y] ++ xs.toArray).size = xs.toArray := by apply Array.ext'; simp
        have e2 : (#[y] ++ xs.toArray : Array Value) = (y :: xs).toArray := by apply Array.ext'; simp
        simp only [resolve, hr, hv, ea, Sem.run_bind, Sem.run_pure, Result.andThen_ok, invoke, e0, callMethod, run_program, hm, e1, e2]
        exact this
      · exact h.no.elim
    · exact h.no.elim
theorem lev_sound (hC : CsOk P w0 ctrs bd rd) (hR : Rel w0 σ hp n w) (hL : ∀ x, VR σ (lk fr x) (ev x)) {o : Oper} (h : Good (lev P ctrs bd rd o.op fr hp n k) φ) :
    Leads P w0 σ n k φ w ((execOp ev o).run P w) := by
  cases hop : o.op with
  | call c => rw [hop] at h; exact l_call hC hR hL hop h
  | alloc t => rw [hop] at h; have := l_alloc (P := P) hR h; unfold execOp; rw [hop]; exact Leads.of_LR this
  | box t x => rw [hop] at h; have := l_box (P := P) (t := t) hR hL h; unfold execOp; rw [hop]; exact Leads.of_LR this
  | store t a v => rw [hop] at h; have := l_store (P := P) hR hL h; unfold execOp; rw [hop]; exact Leads.of_LR this
  | makeSlice t l c => rw [hop] at h; have := l_makeS (P := P) hR hL h; unfold execOp; rw [hop]; exact Leads.of_LR this
  | makeMap t r => rw [hop] at h; have := l_makeM (P := P) hR hL h; unfold execOp; rw [hop]; exact Leads.of_LR this
  | buildSlice t len parts => rw [hop] at h; have := l_buildS (P := P) hR hL h; unfold execOp; rw [hop]; exact Leads.of_LR this
  | mapUpdate t m x v => rw [hop] at h; have := l_mapUp (P := P) hR hL h; unfold execOp; rw [hop]; exact Leads.of_LR this
  | insert t m x v => rw [hop] at h; have := l_mapUp (P := P) hR hL h; unfold execOp; rw [hop]; exact Leads.of_LR this
  | mapEntry t m x => rw [hop] at h; have := l_mapEntry (P := P) hR hL h; unfold execOp; rw [hop]; exact Leads.of_LR this
  | entryStore t m s v => rw [hop] at h; have := l_entryStore (P := P) (t := t) hR hL h; unfold execOp; rw [hop]; exact Leads.of_LR this
  | range t x => rw [hop] at h; have := l_range (P := P) hR hL h; unfold execOp; rw [hop]; exact Leads.of_LR this
  | next x str => rw [hop] at h; have := l_next (P := P) (ty := o.type) hR hL h; unfold execOp; rw [hop]; exact Leads.of_LR this
  | entry x => rw [hop] at h; have := l_entry (P := P) hR hL h; unfold execOp; rw [hop]; exact Leads.of_LR this
  | convert s d x => rw [hop] at h; have := l_conv (P := P) hR hL h; unfold execOp; rw [hop]; exact Leads.of_LR this
  | _ =>
    have h' : Good (qev P fr hp o.op (fun v => k v hp n)) φ := by rw [hop] at h ⊢; exact h
    obtain ⟨c, v, g1, g2, g3⟩ := qev_sound (k := fun v => k v hp n) hR hL h'
    exact .inl ⟨v, w, g1, c, hp, n, σ, g2, hR, Ex.refl _ _, Nle.refl _, g3⟩
end
end Go.Cx
