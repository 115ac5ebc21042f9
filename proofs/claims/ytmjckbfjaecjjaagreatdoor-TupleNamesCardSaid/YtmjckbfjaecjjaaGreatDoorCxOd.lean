/- A run with written-out values: leaving a body. -/
import Derived.Test.YtmjckbfjaecjjaaGreatDoorCxOc
set_option linter.unusedVariables false
set_option linter.unusedSimpArgs false
set_option linter.unnecessarySimpa false
namespace Go.Cx
open Go.RowKit (Below)
section
variable {P : Program} {w0 : World} {φ : Out → Prop}
def DctrOk (P : Program) (w0 : World) (f : Nat) (c : Cn) : Prop := ∀ args hp n σ w xs l, Rel w0 σ hp n w → VRs σ args xs → c args hp n = some l →
  (callFunc f xs.toArray).run P w = .ok (.enter f xs.toArray) w ∧ CallsDIn (FF none) 0 P f xs.toArray .returning w (fun e u' w' => u' = .returning ∧ ∃ v, e = .returned v ∧ Ret w0 σ n l v w')
structure DsOk (P : Program) (w0 : World) (dctrs : List (Nat × Cn)) (db : Nat → Cn) : Prop where
  ctr : ∀ f c, assoc dctrs f = some c → DctrOk P w0 f c
  db : ∀ f, DctrOk P w0 f (db f)
theorem runDs_sound {dctrs : List (Nat × Cn)} {db : Nat → Cn} (hD : DsOk P w0 dctrs db) {fn : Func} {tmps : Array Value} {R : Ending → World → Prop} {k : H → Nat → Res} :
    ∀ (l : List CV) (ds : List Deferred) {σ : Sg} {hp : H} {n : Nat} {w : World}, DfR σ l ds → Rel w0 σ hp n w → Good (runDs dctrs db l hp n k) φ →
      (∀ σ' hp' n' w', Rel w0 σ' hp' n' w' → Ex n σ σ' → Nle n n' → Good (k hp' n') φ → LeavesIn (FF none) 0 P fn tmps R [] .returning w') → LeavesInM (FF none) 0 P fn tmps R ds .returning w
  | [], ds, σ, hp, n, w, hd, hR, h, hk => by
    unfold DfR at hd; subst hd
    exact hk _ _ _ _ hR (Ex.refl _ _) (Nle.refl _) h
  | c :: l, ds, σ, hp, n, w, hd, hR, h, hk => by
    unfold DfR at hd
    split at hd
    · rename_i hx; cases hx
    · rename_i ds' r cs hx
      cases hx
      obtain ⟨p, t, ds', hs, rfl, hd'⟩ := hd
      simp only [runDs] at h
      split at h
      · rename_i hdf
        have hw : w.heap[p]? = some (.deferred (some [])) := hR.at hs hdf (by simp)
        refine ⟨by simp, .inl ⟨p, _, rfl, run_takeDeferred hw, ?_⟩⟩
        have hlive : hget hp r ≠ .no := by rw [hdf]; simp
        obtain ⟨hb1, hb2, hb3⟩ := hR.old _ _ _ hs
        have hR' : Rel w0 σ (hset hp r .no) n (w.putObj p (.deferred none)) := by
          refine (hR.kill hb1).chg (p := p) (by simp [World.putObj]) (fun k hk => World.putObj_heap_other hk) rfl rfl rfl hb2 (fun j q u hj hjc hq => ?_)
          rw [hget_hset _ _ _ _ hb1 hj] at hjc
          by_cases e : j = r
          · rw [if_pos e] at hjc; exact absurd rfl hjc
          · rw [if_neg e] at hjc; exact hR.apart j r q u p t hj hb1 hjc hlive e hq hs
        exact runDs_sound hD l ds' hd' hR' h hk
      · exact h.no.elim
    · rename_i f first caps args cs hx
      cases hx
      obtain ⟨us, vs, ws, ds', h1, h2, h3, rfl, hd'⟩ := hd
      simp only [runDs] at h
      have core : ∀ ct, DctrOk P w0 f ct → Good (after true n (ct ((first ++ args) ++ caps) hp n) (fun _ hp n => runDs dctrs db l hp n k)) φ → LeavesInM (FF none) 0 P fn tmps R ({ target := .fn (.func f) vs.toArray, args := us.toArray ++ ws.toArray } :: ds') .returning w := by
        intro ct hct h
        obtain ⟨os, ho, hgo⟩ := after_sound h
        have hx := (h1.app h3).app h2
        obtain ⟨q1, q2⟩ := hct _ hp n σ w _ os hR hx ho
        have e : (us ++ ws ++ vs).toArray = us.toArray ++ ws.toArray ++ vs.toArray := by apply Array.ext'; simp
        rw [e] at q1 q2
        refine ⟨by simp, .inr ⟨fun h => (by cases h), _, _, f, _, rfl, q1, fun g _ => trivial, CallsDIn.mono q2 fun e u' w' he => ?_⟩⟩
        obtain ⟨rfl, v, rfl, hr⟩ := he
        obtain ⟨c', hp', n', σ', g1, g2, g3, g4, g5⟩ := hgo _ _ hr
        exact runDs_sound hD l ds' (hd'.mono g3.1) g2 g5 (fun σ2 hp2 n2 w2 r1 r2 r3 r4 => hk _ _ _ _ r1 (g3.trans g4 r2) (g4.trans r3) r4)
      split at h
      · rename_i ct hct
        exact core ct (hD.ctr _ _ hct) h
      · exact core _ (hD.db f) h
    · exact hd.elim
end
end Go.Cx
