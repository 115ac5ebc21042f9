/- Code, bodies, contracts: that the symbolic run is the model's. -/
import Derived.Test.YtmjonggabppgaaaEngR
set_option linter.unusedSimpArgs false
set_option linter.unusedVariables false
namespace Go.Eng
open Go.RowKit (Below)

section
variable {G : Type} (S : Sig G) (w0 : World) (F : HProp) {P : Program} {C : Cx}

/-! ### Loops -/
def WpIn (P : Program) (c : Code) (Q : Exit → Act → World → Prop) (a : Act) (w : World) : Prop :=
  ∀ (b : Frame) (k : List Item) (cs : List Frame), ∃ e a' w', Q e a' w' ∧ Arrives P (lone (b.at a (.code c :: .inLoop c :: k)) cs w) b k cs e a' w'
theorem wpIn_loop {c : Code} {Q : Exit → Act → World → Prop} {a : Act} {w : World} (h : WpIn P c Q a w) : (Code.loop c).wp P Q a w := by
  intro b k cs
  obtain ⟨e, a', w', hq, harr⟩ := h b k cs
  exact ⟨e, a', w', hq, .of_steps (.one step_loop) harr⟩
theorem wpIn_step {c : Code} {Q : Exit → Act → World → Prop} {a : Act} {w : World} (h : c.wp P (Exit.then (WpIn P c Q) Q) a w) : WpIn P c Q a w := by
  intro b k cs
  obtain ⟨e, a₁, w₁, hq, harr⟩ := h b (.inLoop c :: k) cs
  cases e with
  | normal =>
    obtain ⟨e₂, a₂, w₂, hq₂, harr₂⟩ := hq b k cs
    exact ⟨e₂, a₂, w₂, hq₂, .of_steps (Steps.trans harr (.one step_inLoop)) harr₂⟩
  | exit id => exact ⟨_, a₁, w₁, hq, .pass (x := .inLoop c) rfl (fun _ _ => .inl (by simp)) harr⟩
  | goto l => exact ⟨_, a₁, w₁, hq, .pass (x := .inLoop c) rfl (fun _ _ => .inl (by simp)) harr⟩
  | ret => exact ⟨_, a₁, w₁, hq, .pass (x := .inLoop c) rfl (fun _ _ => .inl (by simp)) harr⟩
  | panic ch => exact ⟨_, a₁, w₁, hq, .pass (x := .inLoop c) rfl (fun _ _ => .inl (by simp)) harr⟩
  | outgrown => exact ⟨_, a₁, w₁, hq, .pass (x := .inLoop c) rfl (fun _ _ => .inl (by simp)) harr⟩
theorem wpIn_inv {c : Code} {Q : Exit → Act → World → Prop} (I : Nat → Act → World → Prop) (round : ∀ n a w, I n a w → c.wp P (Exit.then (fun a' w' => ∃ m, m < n ∧ I m a' w') Q) a w) :
    ∀ n a w, I n a w → WpIn P c Q a w := by
  intro n
  induction n using Nat.strongRecOn with
  | _ n ih =>
    intro a w hI
    refine wpIn_step (wp_mono (round n a w hI) ?_)
    intro e a' w' h
    cases e with
    | normal => obtain ⟨m, hm, hI'⟩ := h; exact ih m hm a' w' hI'
    | _ => exact h

/-! ### Annotations -/
theorem annsOf_mem {f id : Nat} {a : Ann} (h : a ∈ annsOf C f id) : ∃ l i, assoc C.anns f = some l ∧ (i, a) ∈ l := by
  unfold annsOf at h
  split at h
  · rename_i l hl
    obtain ⟨⟨i, b⟩, hm, hb⟩ := List.mem_filterMap.1 h
    simp only [Bool.cond_eq_ite] at hb
    split at hb
    · cases hb; exact ⟨l, i, hl, hm⟩
    · cases hb
  · cases h

theorem ghosts_sound (K : St → VC) : ∀ (l : List Ann), (∀ sp args, Ann.ghost sp args ∈ l → sp.wf = true ∧ GhOk S sp) → ∀ (st : St) (ρ : Env G) (a : Act) (w : World), Den S ρ w0 F st a w → (ghosts st K l).den S ρ →
    ∃ ρ' st', After S w0 F st ρ ρ' st' a w ∧ (K st').den S ρ'
  | [], _, st, ρ, a, w, hd, h => ⟨ρ, st, ⟨Ext.refl _ _, Nat.le_refl _, hd⟩, h⟩
  | .inv i :: l, hl, st, ρ, a, w, hd, h => ghosts_sound K l (fun sp args hm => hl sp args (List.mem_cons_of_mem _ hm)) st ρ a w hd h
  | .ghost sp args :: l, hl, st, ρ, a, w, hd, h => by
    simp only [ghosts] at h
    split at h
    · rename_i v hv
      obtain ⟨hwf, hg⟩ := hl sp args List.mem_cons_self
      obtain ⟨ch, ρc, F', h1, h2, h3, h4⟩ := callSpec_core S ρ w0 hwf (den_hst S w0 F hd) (argsR_map S (fun x => lk_eval S hd.fr x) args) hv h
      obtain ⟨ρc', he, hs, hf⟩ := hg ch w0 F' ρc w h2 h3
      obtain ⟨ρ', sv, st', hn, _, hk⟩ := h4 ρc' w he hs hf
      have hd' : Den S ρ' w0 F st' a w := ⟨by rw [hn.fr]; exact hn.frR _ hd.fr, hd.df, hn.hs.hp, hn.hs.asm⟩
      obtain ⟨ρ2, st2, haf, hk2⟩ := ghosts_sound K l (fun sp args hm => hl sp args (List.mem_cons_of_mem _ hm)) st' ρ' a w hd' hk
      exact ⟨ρ2, st2, After.step S w0 F hn.ext hn.le haf, hk2⟩
    · exact h.elim

/-! ### Invariants -/
theorem Ch.bq_eq {a b : Ch} (h : Ch.bq a b = true) : a = b := by
  cases a <;> cases b <;> simp only [Ch.bq, Bool.cond_eq_ite] at h <;> first | (cases h; done) | skip
  · split at h
    · rename_i h1; split at h
      · rename_i h2; rw [Nat.eq_of_beq_eq_true h1, SX.bq_eq h2, SCs.bq_eq h]
      · cases h
    · cases h
  · split at h
    · rename_i h1; split at h
      · rename_i h2; split at h
        · rename_i h3; rw [of_decide_eq_true h1, SX.bq_eq h2, SX.bq_eq h3, SX.bq_eq h]
        · cases h
      · cases h
    · cases h
  · split at h
    · rename_i h1; split at h
      · rename_i h2; split at h
        · rename_i h3; rw [of_decide_eq_true h1, SX.bq_eq h2, SX.bq_eq h3, SX.bq_eq h]
        · cases h
      · cases h
    · cases h
  · split at h
    · rename_i h0; split at h
      · rename_i h1; split at h
        · rename_i h2; split at h
          · rename_i h3; split at h
            · rename_i h4; rw [Nat.eq_of_beq_eq_true h0, of_decide_eq_true h1, SX.bq_eq h2, SX.bq_eq h3, SX.bq_eq h4, SX.bq_eq h]
            · cases h
          · cases h
        · cases h
      · cases h
    · cases h
  · split at h
    · rename_i h0; split at h
      · rename_i h1; split at h
        · rename_i h2; rw [kn_inj (Nat.eq_of_beq_eq_true h0), of_decide_eq_true h1, SX.bq_eq h2, SX.bq_eq h]
        · cases h
      · cases h
    · cases h
  · split at h
    · rename_i h1; split at h
      · rename_i h2; rw [Nat.eq_of_beq_eq_true h1, SX.bq_eq h2, SX.bq_eq h]
      · cases h
    · cases h
theorem dropCh_sound {ρ : Env G} {c : Ch} : ∀ {l r : List Ch}, dropCh c l = some r → hpDen S ρ w0 l = star (c.den S ρ w0) (hpDen S ρ w0 r)
  | [], r, h => nomatch h
  | d :: l, r, h => by
    simp only [dropCh, Bool.cond_eq_ite] at h
    split at h
    · rename_i hq; cases h; rw [Ch.bq_eq hq]; rfl
    · obtain ⟨r', h1, h⟩ := ob_some h
      cases h
      rw [hpDen_cons, dropCh_sound h1, hpDen_cons, star_left_comm]
theorem holdAll_sound {ρ : Env G} : ∀ {l hp r : List Ch}, holdAll l hp = some r → hpDen S ρ w0 hp = star (hpDen S ρ w0 l) (hpDen S ρ w0 r)
  | [], hp, r, h => by
    cases h
    have : hpDen S ρ w0 [] = emp := rfl
    rw [this, star_comm, star_emp]
  | c :: l, hp, r, h => by
    obtain ⟨hp', h1, h⟩ := ob_some h
    rw [dropCh_sound S w0 h1, holdAll_sound h, hpDen_cons, star_assoc]

theorem frOk_sound {d : Nat} {th : List SX} {ss : List Srt} {slots : List (Nat × SV)} {ρ ρI : Env G} {asm : List SX} (ha : ∀ x ∈ asm, (x.den S ρ).toProp) (hT : ThR S d th ss ρ ρI)
    (hsl : slots.all (fun p => p.2.wf d ss) = true) (hE : ∀ e : SV, e.lt d = true → e.den S ρI = e.den S ρ) :
    ∀ {head fr : List SV} {i : Nat} {ns ns' : List SX} {tm : List Value}, frOk asm d th slots ns i head fr = some ns' → (∀ x ∈ ns', (x.den S ρ).toProp) → head.all (SV.lt d) = true → FrR S ρ fr tm →
      FrR S ρI (setSlots slots i head) tm ∧ ∀ x ∈ ns, (x.den S ρ).toProp
  | [], [], i, ns, ns', tm, h, hn, hh, hf => by
    cases h
    cases tm with
    | nil => exact ⟨trivial, hn⟩
    | cons => exact hf.elim
  | [], _ :: _, i, ns, ns', tm, h, hn, hh, hf => nomatch h
  | _ :: _, [], i, ns, ns', tm, h, hn, hh, hf => nomatch h
  | g :: hs, v :: vs, i, ns, ns', tm, h, hn, hh, hf => by
    cases tm with
    | nil => exact hf.elim
    | cons x tm =>
      simp only [List.all_cons, Bool.and_eq_true] at hh
      simp only [frOk] at h
      split at h
      · rename_i p hp
        obtain ⟨n1, e1, h⟩ := ob_some h
        obtain ⟨h2, hn1⟩ := frOk_sound ha hT hsl hE h hn hh.2 hf.2
        obtain ⟨h1, hn0⟩ := eqV_sound S ρ ha e1 hn1
        refine ⟨?_, hn0⟩
        simp only [setSlots, hp]
        have hw : p.wf d ss = true := List.all_eq_true.1 hsl _ (assoc_mem hp)
        exact ⟨(SV.sub_R S ρ hT hw).1 (h1 x hf.1), h2⟩
      · rename_i hp
        obtain ⟨n1, e1, h⟩ := ob_some h
        obtain ⟨h2, hn1⟩ := frOk_sound ha hT hsl hE h hn hh.2 hf.2
        obtain ⟨h1, hn0⟩ := eqV_sound S ρ ha e1 hn1
        refine ⟨?_, hn0⟩
        simp only [setSlots, hp]
        refine ⟨?_, h2⟩
        rcases h1 x hf.1 with hj | he
        · exact .inl hj
        · exact .inr (by rw [hE g hh.1]; exact he)

theorem inv_wf {iv : Inv} {n : Nat} (h : iv.wf n = true) : iv.meas.wf n iv.ss = true ∧ iv.facts.all (SX.wf n iv.ss) = true ∧ iv.hp.all (Ch.wf n iv.ss) = true ∧ iv.slots.all (fun p => p.2.wf n iv.ss) = true ∧ iv.meas.lt (n + iv.ss.length) = true := by
  unfold Inv.wf at h
  simp only [Bool.cond_eq_ite] at h
  split at h
  · rename_i h1; split at h
    · rename_i h2; split at h
      · rename_i h3; split at h
        · rename_i h4; exact ⟨h1, h2, h3, h4, h⟩
        · cases h
      · cases h
    · cases h
  · cases h

/-- An invariant that is met stands, at some of its atoms. -/
theorem meet_sound {n : Nat} {ρ ρ' : Env G} {st : St} {iv : Inv} {head : List SV} {th ns : List SX} {rest base : List Ch} {left : List Ch} {asm0 : List SX} {a : Act} {w : World} (hE : Ext n ρ ρ') (hd : Den S ρ' w0 F st a w)
    (hw : iv.wf n = true) (hh : head.all (SV.lt n) = true) (hb : base.all (Ch.lt n) = true) (h : meet n st iv head = some (th, ns, rest)) (hn : ∀ x ∈ ns, (x.den S ρ').toProp) (hold : hpDen S ρ' w0 rest = star (hpDen S ρ' w0 base) (hpDen S ρ' w0 left))
    (has : asm0.all (SX.lt n) = true) (ha0 : ∀ x ∈ asm0, (x.den S ρ).toProp) :
    ∃ us : List (U G), us.length = iv.ss.length ∧ Den S (updL S ρ n iv.ss us) w0 F { fr := setSlots iv.slots 0 head, hp := iv.hp ++ base, n := n + iv.ss.length, asm := iv.facts ++ asm0 } a w ∧
      (∀ x ∈ iv.facts, (x.den S (updL S ρ n iv.ss us)).toProp) ∧ (iv.meas.sub n th).den S ρ' = iv.meas.den S (updL S ρ n iv.ss us) := by
  obtain ⟨w1, w2, w3, w4, w5⟩ := inv_wf hw
  unfold meet at h
  simp only at h
  obtain ⟨th', hth, h⟩ := ob_some h
  simp only [Bool.cond_eq_ite] at h
  split at h
  · rename_i hok
    obtain ⟨ns1, hfr, h⟩ := ob_some h
    obtain ⟨⟨ns2, rest', ks⟩, htk, h⟩ := ob_some h
    simp only at h
    split at h
    · cases h
      let us : List (U G) := (List.range iv.ss.length).map fun j => (getTh th j).den S ρ'
      have hus : us.length = iv.ss.length := by simp [us]
      have husj : ∀ j s, iv.ss[j]? = some s → us[j]? = some ((getTh th j).den S ρ') := fun j s hs => by
        have := (List.getElem?_eq_some_iff.1 hs).1
        simp [us, this]
      have hEI : Ext n ρ (updL S ρ n iv.ss us) := updL_ext S ρ n iv.ss us
      have hT : ThR S n th iv.ss ρ' (updL S ρ n iv.ss us) := ⟨fun i hi => by rw [hEI i hi, hE i hi], fun i s hs => by
        rw [updL_high S (n := n) (ρ := ρ) hs (husj _ _ hs), U.co_co]
        have h1 := thOk_get hok i s hs
        have h2 := SX.srt_co S ρ' (getTh th i)
        rw [h1] at h2
        exact h2⟩
      obtain ⟨hfa, hn2⟩ := foldr_need S ρ' hd.asm hn
      have hfacts := (mem_sub S ρ' hT w2).1 hfa
      obtain ⟨hn1, htake⟩ := takeChs_sound S ρ' w0 hd.asm S.ch htk hn2 (fun i K hm => nomatch hm)
      have hEE : ∀ e : SV, e.lt n = true → e.den S (updL S ρ n iv.ss us) = e.den S ρ' := fun e he => by rw [SV.den_ext S hEI he, SV.den_ext S hE he]
      obtain ⟨hfrR, _⟩ := frOk_sound S hd.asm hT w4 hEE hfr hn1 hh hd.fr
      refine ⟨us, hus, ⟨hfrR, hd.df, ?_, ?_⟩, hfacts, SX.sub_den S ρ' hT w1⟩
      · have key : ∀ y, star (hpDen S ρ' w0 st.hp) F y → star (hpDen S ρ' w0 left) (star (hpDen S (updL S ρ n iv.ss us) w0 (iv.hp ++ base)) F) y := by
          intro y hy
          have := htake _ _ hy
          rw [hp_sub_den S ρ' w0 hT S.ch w3, hold] at this
          have hbase : hpDen S ρ' w0 base = hpDen S (updL S ρ n iv.ss us) w0 base := by rw [hpDen_ext S hE w0 hb, hpDen_ext S hEI w0 hb]
          rw [hbase] at this
          rw [hpDen_append]
          rw [star_assoc, star_left_comm (hpDen S ρ' w0 left), star_left_comm (hpDen S ρ' w0 left), ← star_assoc (hpDen S (updL S ρ n iv.ss us) w0 base)]
          exact this
        exact Sat.drop (hd.hp.mono key)
      · intro e he
        rcases List.mem_append.1 he with he | he
        · exact hfacts e he
        · rw [SX.den_ext S hEI (List.all_eq_true.1 has e he)]; exact ha0 e he
    · cases h
  · cases h
end
end Go.Eng
