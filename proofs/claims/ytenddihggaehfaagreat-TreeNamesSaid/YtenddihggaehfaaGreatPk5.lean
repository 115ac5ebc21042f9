/- A run with written-out values: all parts, and the contracts for ink.Sum and tree.catch. -/
import Derived.Test.YtenddihggaehfaaGreatPk4
import Derived.Lib.Overlaps
import Derived.Test.YtenddihggaehfaaGreatProg
import Derived.KernelRfl
import Derived.Test.YtenddihggaehfaaGreatPk2
import Derived.RecoverIn
set_option linter.unusedSimpArgs false
set_option linter.unusedVariables false
namespace Go.Eng
noncomputable section
open Go.RowKit (Below)

section
variable {G : Type} (S : Sig G) (w0 : World) (F : HProp) {P : Program} {C : Cx}

/-! ### Loops -/
def WpIn (P : Program) (c : Code) (Q : Exit → Act → World → Prop) (a : Act) (w : World) : Prop :=
  ∀ (b : Frame) (k : List Item) (cs : List Frame), ∃ e a' w', Q e a' w' ∧ Arrives P (lone (b.at a (.code c :: .inLoop c :: k)) cs w) b k cs e a' w'
theorem wpIn_loop {c : Code} {Q : Exit → Act → World → Prop} {a : Act} {w : World} (h : WpIn P c Q a w) : (Code.loop c).wp P Q a w := by
  intro b k cs
  obtain ⟨e, a', w', hq, harr⟩ := h b k cs
  exact ⟨e, a', w', hq, .of_steps (.one step_loop) harr⟩
theorem wpIn_step {c : Code} {Q : Exit → Act → World → Prop} {a : Act} {w : World} (h : c.wp P (Exit.then (WpIn P c Q) Q) a w) : WpIn P c Q a w := by
  intro b k cs
  obtain ⟨e, a₁, w₁, hq, harr⟩ := h b (.inLoop c :: k) cs
  cases e with
  | normal =>
    obtain ⟨e₂, a₂, w₂, hq₂, harr₂⟩ := hq b k cs
    exact ⟨e₂, a₂, w₂, hq₂, .of_steps (Steps.trans harr (.one step_inLoop)) harr₂⟩
  | exit id => exact ⟨_, a₁, w₁, hq, .pass (x := .inLoop c) rfl (fun _ _ => .inl (by simp)) harr⟩
  | goto l => exact ⟨_, a₁, w₁, hq, .pass (x := .inLoop c) rfl (fun _ _ => .inl (by simp)) harr⟩
  | ret => exact ⟨_, a₁, w₁, hq, .pass (x := .inLoop c) rfl (fun _ _ => .inl (by simp)) harr⟩
  | panic ch => exact ⟨_, a₁, w₁, hq, .pass (x := .inLoop c) rfl (fun _ _ => .inl (by simp)) harr⟩
  | outgrown => exact ⟨_, a₁, w₁, hq, .pass (x := .inLoop c) rfl (fun _ _ => .inl (by simp)) harr⟩
theorem wpIn_inv {c : Code} {Q : Exit → Act → World → Prop} (I : Nat → Act → World → Prop) (round : ∀ n a w, I n a w → c.wp P (Exit.then (fun a' w' => ∃ m, m < n ∧ I m a' w') Q) a w) :
    ∀ n a w, I n a w → WpIn P c Q a w := by
  intro n
  induction n using Nat.strongRecOn with
  | _ n ih =>
    intro a w hI
    refine wpIn_step (wp_mono (round n a w hI) ?_)
    intro e a' w' h
    cases e with
    | normal => obtain ⟨m, hm, hI'⟩ := h; exact ih m hm a' w' hI'
    | _ => exact h

/-! ### Annotations -/
theorem annsOf_mem {f id : Nat} {a : Ann} (h : a ∈ annsOf C f id) : ∃ l i, assoc C.anns f = some l ∧ (i, a) ∈ l := by
  unfold annsOf at h
  split at h
  · rename_i l hl
    obtain ⟨⟨i, b⟩, hm, hb⟩ := List.mem_filterMap.1 h
    simp only [Bool.cond_eq_ite] at hb
    split at hb
    · cases hb; exact ⟨l, i, hl, hm⟩
    · cases hb
  · cases h

theorem ghosts_sound (K : St → VC) : ∀ (l : List Ann), (∀ sp args, Ann.ghost sp args ∈ l → sp.wf = true ∧ GhOk S sp) → ∀ (st : St) (ρ : Env G) (a : Act) (w : World), Den S ρ w0 F st a w → (ghosts st K l).den S ρ →
    ∃ ρ' st', After S w0 F st ρ ρ' st' a w ∧ (K st').den S ρ'
  | [], _, st, ρ, a, w, hd, h => ⟨ρ, st, ⟨Ext.refl _ _, Nat.le_refl _, hd⟩, h⟩
  | .inv i :: l, hl, st, ρ, a, w, hd, h => ghosts_sound K l (fun sp args hm => hl sp args (List.mem_cons_of_mem _ hm)) st ρ a w hd h
  | .ghost sp args :: l, hl, st, ρ, a, w, hd, h => by
    simp only [ghosts] at h
    split at h
    · rename_i v hv
      obtain ⟨hwf, hg⟩ := hl sp args List.mem_cons_self
      obtain ⟨ch, ρc, F', h1, h2, h3, h4⟩ := callSpec_core S ρ w0 hwf (den_hst S w0 F hd) (argsR_map S (fun x => lk_eval S hd.fr x) args) hv h
      obtain ⟨ρc', he, hs, hf⟩ := hg ch w0 F' ρc w h2 h3
      obtain ⟨ρ', sv, st', hn, _, hk⟩ := h4 ρc' w he hs hf
      have hd' : Den S ρ' w0 F st' a w := ⟨by rw [hn.fr]; exact hn.frR _ hd.fr, hd.df, hn.hs.hp, hn.hs.asm⟩
      obtain ⟨ρ2, st2, haf, hk2⟩ := ghosts_sound K l (fun sp args hm => hl sp args (List.mem_cons_of_mem _ hm)) st' ρ' a w hd' hk
      exact ⟨ρ2, st2, After.step S w0 F hn.ext hn.le haf, hk2⟩
    · exact h.elim

/-! ### Invariants -/
theorem Ch.bq_eq {a b : Ch} (h : Ch.bq a b = true) : a = b := by
  cases a <;> cases b <;> simp only [Ch.bq, Bool.cond_eq_ite] at h <;> first | (cases h; done) | skip
  · split at h
    · rename_i h1; split at h
      · rename_i h2; rw [Nat.eq_of_beq_eq_true h1, SX.bq_eq h2, SCs.bq_eq h]
      · cases h
    · cases h
  · split at h
    · rename_i h1; split at h
      · rename_i h2; split at h
        · rename_i h3; rw [of_decide_eq_true h1, SX.bq_eq h2, SX.bq_eq h3, SX.bq_eq h]
        · cases h
      · cases h
    · cases h
  · split at h
    · rename_i h1; split at h
      · rename_i h2; split at h
        · rename_i h3; rw [of_decide_eq_true h1, SX.bq_eq h2, SX.bq_eq h3, SX.bq_eq h]
        · cases h
      · cases h
    · cases h
  · split at h
    · rename_i h0; split at h
      · rename_i h1; split at h
        · rename_i h2; split at h
          · rename_i h3; split at h
            · rename_i h4; rw [Nat.eq_of_beq_eq_true h0, of_decide_eq_true h1, SX.bq_eq h2, SX.bq_eq h3, SX.bq_eq h4, SX.bq_eq h]
            · cases h
          · cases h
        · cases h
      · cases h
    · cases h
  · split at h
    · rename_i h0; split at h
      · rename_i h1; split at h
        · rename_i h2; rw [kn_inj (Nat.eq_of_beq_eq_true h0), of_decide_eq_true h1, SX.bq_eq h2, SX.bq_eq h]
        · cases h
      · cases h
    · cases h
  · split at h
    · rename_i h1; split at h
      · rename_i h2; rw [Nat.eq_of_beq_eq_true h1, SX.bq_eq h2, SX.bq_eq h]
      · cases h
    · cases h
theorem dropCh_sound {ρ : Env G} {c : Ch} : ∀ {l r : List Ch}, dropCh c l = some r → hpDen S ρ w0 l = star (c.den S ρ w0) (hpDen S ρ w0 r)
  | [], r, h => nomatch h
  | d :: l, r, h => by
    simp only [dropCh, Bool.cond_eq_ite] at h
    split at h
    · rename_i hq; cases h; rw [Ch.bq_eq hq]; rfl
    · obtain ⟨r', h1, h⟩ := ob_some h
      cases h
      rw [hpDen_cons, dropCh_sound h1, hpDen_cons, star_left_comm]
theorem holdAll_sound {ρ : Env G} : ∀ {l hp r : List Ch}, holdAll l hp = some r → hpDen S ρ w0 hp = star (hpDen S ρ w0 l) (hpDen S ρ w0 r)
  | [], hp, r, h => by
    cases h
    have : hpDen S ρ w0 [] = emp := rfl
    rw [this, star_comm, star_emp]
  | c :: l, hp, r, h => by
    obtain ⟨hp', h1, h⟩ := ob_some h
    rw [dropCh_sound S w0 h1, holdAll_sound h, hpDen_cons, star_assoc]

theorem frOk_sound {d : Nat} {th : List SX} {ss : List Srt} {slots : List (Nat × SV)} {ρ ρI : Env G} {asm : List SX} (ha : ∀ x ∈ asm, (x.den S ρ).toProp) (hT : ThR S d th ss ρ ρI)
    (hsl : slots.all (fun p => p.2.wf d ss) = true) (hE : ∀ e : SV, e.lt d = true → e.den S ρI = e.den S ρ) :
    ∀ {head fr : List SV} {i : Nat} {ns ns' : List SX} {tm : List Value}, frOk asm d th slots ns i head fr = some ns' → (∀ x ∈ ns', (x.den S ρ).toProp) → head.all (SV.lt d) = true → FrR S ρ fr tm →
      FrR S ρI (setSlots slots i head) tm ∧ ∀ x ∈ ns, (x.den S ρ).toProp
  | [], [], i, ns, ns', tm, h, hn, hh, hf => by
    cases h
    cases tm with
    | nil => exact ⟨trivial, hn⟩
    | cons => exact hf.elim
  | [], _ :: _, i, ns, ns', tm, h, hn, hh, hf => nomatch h
  | _ :: _, [], i, ns, ns', tm, h, hn, hh, hf => nomatch h
  | g :: hs, v :: vs, i, ns, ns', tm, h, hn, hh, hf => by
    cases tm with
    | nil => exact hf.elim
    | cons x tm =>
      simp only [List.all_cons, Bool.and_eq_true] at hh
      simp only [frOk] at h
      split at h
      · rename_i p hp
        obtain ⟨n1, e1, h⟩ := ob_some h
        obtain ⟨h2, hn1⟩ := frOk_sound ha hT hsl hE h hn hh.2 hf.2
        obtain ⟨h1, hn0⟩ := eqV_sound S ρ ha e1 hn1
        refine ⟨?_, hn0⟩
        simp only [setSlots, hp]
        have hw : p.wf d ss = true := List.all_eq_true.1 hsl _ (assoc_mem hp)
        exact ⟨(SV.sub_R S ρ hT hw).1 (h1 x hf.1), h2⟩
      · rename_i hp
        obtain ⟨n1, e1, h⟩ := ob_some h
        obtain ⟨h2, hn1⟩ := frOk_sound ha hT hsl hE h hn hh.2 hf.2
        obtain ⟨h1, hn0⟩ := eqV_sound S ρ ha e1 hn1
        refine ⟨?_, hn0⟩
        simp only [setSlots, hp]
        refine ⟨?_, h2⟩
        rcases h1 x hf.1 with hj | he
        · exact .inl hj
        · exact .inr (by rw [hE g hh.1]; exact he)

theorem inv_wf {iv : Inv} {n : Nat} (h : iv.wf n = true) : iv.meas.wf n iv.ss = true ∧ iv.facts.all (SX.wf n iv.ss) = true ∧ iv.hp.all (Ch.wf n iv.ss) = true ∧ iv.slots.all (fun p => p.2.wf n iv.ss) = true ∧ iv.meas.lt (n + iv.ss.length) = true := by
  unfold Inv.wf at h
  simp only [Bool.cond_eq_ite] at h
  split at h
  · rename_i h1; split at h
    · rename_i h2; split at h
      · rename_i h3; split at h
        · rename_i h4; exact ⟨h1, h2, h3, h4, h⟩
        · cases h
      · cases h
    · cases h
  · cases h

/-- An invariant that is met stands, at some of its atoms. -/
theorem meet_sound {n : Nat} {ρ ρ' : Env G} {st : St} {iv : Inv} {head : List SV} {th ns : List SX} {rest base : List Ch} {left : List Ch} {asm0 : List SX} {a : Act} {w : World} (hE : Ext n ρ ρ') (hd : Den S ρ' w0 F st a w)
    (hw : iv.wf n = true) (hh : head.all (SV.lt n) = true) (hb : base.all (Ch.lt n) = true) (h : meet n st iv head = some (th, ns, rest)) (hn : ∀ x ∈ ns, (x.den S ρ').toProp) (hold : hpDen S ρ' w0 rest = star (hpDen S ρ' w0 base) (hpDen S ρ' w0 left))
    (has : asm0.all (SX.lt n) = true) (ha0 : ∀ x ∈ asm0, (x.den S ρ).toProp) :
    ∃ us : List (U G), us.length = iv.ss.length ∧ Den S (updL S ρ n iv.ss us) w0 F { fr := setSlots iv.slots 0 head, hp := iv.hp ++ base, n := n + iv.ss.length, asm := iv.facts ++ asm0 } a w ∧
      (∀ x ∈ iv.facts, (x.den S (updL S ρ n iv.ss us)).toProp) ∧ (iv.meas.sub n th).den S ρ' = iv.meas.den S (updL S ρ n iv.ss us) := by
  obtain ⟨w1, w2, w3, w4, w5⟩ := inv_wf hw
  unfold meet at h
  simp only at h
  obtain ⟨th', hth, h⟩ := ob_some h
  simp only [Bool.cond_eq_ite] at h
  split at h
  · rename_i hok
    obtain ⟨ns1, hfr, h⟩ := ob_some h
    obtain ⟨⟨ns2, rest', ks⟩, htk, h⟩ := ob_some h
    simp only at h
    split at h
    · cases h
      let us : List (U G) := (List.range iv.ss.length).map fun j => (getTh th j).den S ρ'
      have hus : us.length = iv.ss.length := by simp [us]
      have husj : ∀ j s, iv.ss[j]? = some s → us[j]? = some ((getTh th j).den S ρ') := fun j s hs => by
        have := (List.getElem?_eq_some_iff.1 hs).1
        simp [us, this]
      have hEI : Ext n ρ (updL S ρ n iv.ss us) := updL_ext S ρ n iv.ss us
      have hT : ThR S n th iv.ss ρ' (updL S ρ n iv.ss us) := ⟨fun i hi => by rw [hEI i hi, hE i hi], fun i s hs => by
        rw [updL_high S (n := n) (ρ := ρ) hs (husj _ _ hs), U.co_co]
        have h1 := thOk_get hok i s hs
        have h2 := SX.srt_co S ρ' (getTh th i)
        rw [h1] at h2
        exact h2⟩
      obtain ⟨hfa, hn2⟩ := foldr_need S ρ' hd.asm hn
      have hfacts := (mem_sub S ρ' hT w2).1 hfa
      obtain ⟨hn1, htake⟩ := takeChs_sound S ρ' w0 hd.asm S.ch htk hn2 (fun i K hm => nomatch hm)
      have hEE : ∀ e : SV, e.lt n = true → e.den S (updL S ρ n iv.ss us) = e.den S ρ' := fun e he => by rw [SV.den_ext S hEI he, SV.den_ext S hE he]
      obtain ⟨hfrR, _⟩ := frOk_sound S hd.asm hT w4 hEE hfr hn1 hh hd.fr
      refine ⟨us, hus, ⟨hfrR, hd.df, ?_, ?_⟩, hfacts, SX.sub_den S ρ' hT w1⟩
      · have key : ∀ y, star (hpDen S ρ' w0 st.hp) F y → star (hpDen S ρ' w0 left) (star (hpDen S (updL S ρ n iv.ss us) w0 (iv.hp ++ base)) F) y := by
          intro y hy
          have := htake _ _ hy
          rw [hp_sub_den S ρ' w0 hT S.ch w3, hold] at this
          have hbase : hpDen S ρ' w0 base = hpDen S (updL S ρ n iv.ss us) w0 base := by rw [hpDen_ext S hE w0 hb, hpDen_ext S hEI w0 hb]
          rw [hbase] at this
          rw [hpDen_append]
          rw [star_assoc, star_left_comm (hpDen S ρ' w0 left), star_left_comm (hpDen S ρ' w0 left), ← star_assoc (hpDen S (updL S ρ n iv.ss us) w0 base)]
          exact this
        exact Sat.drop (hd.hp.mono key)
      · intro e he
        rcases List.mem_append.1 he with he | he
        · exact hfacts e he
        · rw [SX.den_ext S hEI (List.all_eq_true.1 has e he)]; exact ha0 e he
    · cases h
  · cases h
end
end
end Go.Eng

/- Code, bodies, contracts: that the symbolic run is the model's. -/
set_option linter.unusedSimpArgs false
set_option linter.unusedVariables false
namespace Go.Eng
noncomputable section
open Go.RowKit (Below)

section
variable {G : Type} (S : Sig G) (w0 : World) (F : HProp) {P : Program} {C : Cx}

def Wp (P : Program) (c : Code) (Q : Exit → Act → World → Prop) (a : Act) (w : World) : Prop := (∀ b, c = .loop b → WpIn P b Q a w) ∧ c.wp P Q a w
theorem Wp.of {c : Code} {Q : Exit → Act → World → Prop} {a : Act} {w : World} (hc : ∀ b, c ≠ .loop b) (h : c.wp P Q a w) : Wp P c Q a w := ⟨fun b hb => absurd hb (hc b), h⟩
theorem Wp.loop {b : Code} {Q : Exit → Act → World → Prop} {a : Act} {w : World} (h : WpIn P b Q a w) : Wp P (.loop b) Q a w := ⟨fun b' hb => by cases hb; exact h, wpIn_loop h⟩

/-- What a continuation promises, from a state on. -/
structure KtR (K : Kt) (st : St) (ρ : Env G) (Q : Exit → Act → World → Prop) : Prop where
  nrm : ∀ ρ' st' a' w', After S w0 F st ρ ρ' st' a' w' → (K.nrm st').den S ρ' → Q .normal a' w'
  ret : ∀ ρ' st' a' w', After S w0 F st ρ ρ' st' a' w' → (K.ret st').den S ρ' → Q .ret a' w'
  ext : ∀ i ρ' st' a' w', After S w0 F st ρ ρ' st' a' w' → (K.ext i st').den S ρ' → Q (.exit i) a' w'
  pan : ∀ c a w, ¬ Q (.panic c) a w
theorem KtR.step {K : Kt} {st st1 : St} {ρ ρ1 : Env G} {Q : Exit → Act → World → Prop} (hE : Ext st.n ρ ρ1) (hn : st.n ≤ st1.n) (h : KtR S w0 F K st ρ Q) : KtR S w0 F K st1 ρ1 Q :=
  ⟨fun _ _ _ _ ha hk => h.nrm _ _ _ _ (After.step S w0 F hE hn ha) hk, fun _ _ _ _ ha hk => h.ret _ _ _ _ (After.step S w0 F hE hn ha) hk, fun i _ _ _ _ ha hk => h.ext i _ _ _ _ (After.step S w0 F hE hn ha) hk, h.pan⟩
theorem KtR.asm {K : Kt} {st st1 : St} {ρ : Env G} {Q : Exit → Act → World → Prop} (hn : st.n = st1.n) (h : KtR S w0 F K st ρ Q) : KtR S w0 F K st1 ρ Q := h.step S w0 F (Ext.refl _ _) (Nat.le_of_eq hn)

theorem asm_cons {ρ : Env G} {e : SX} {l : List SX} (h : (e.den S ρ).toProp) (h' : ∀ x ∈ l, (x.den S ρ).toProp) : ∀ x ∈ e :: l, (x.den S ρ).toProp := fun x hx => by
  rcases List.mem_cons.1 hx with rfl | hx
  · exact h
  · exact h' x hx

theorem sx_sound {body : Nat → List SV → St → (SV → St → VC) → VC} (hb : BodyOk S w0 F P body) (hC : CxOk S P C) (f : Nat) :
    ∀ (fuel : Nat) (c : Code) (st : St) (ρ : Env G) (a : Act) (w : World) (K : Kt) (Q : Exit → Act → World → Prop), Den S ρ w0 F st a w → (sx P C body f fuel c st K).den S ρ → KtR S w0 F K st ρ Q → Wp P c Q a w := by
  intro fuel
  induction fuel with
  | zero => intro c st ρ a w K Q hd h hK; exact h.elim
  | succ fuel ih =>
    intro c st ρ a w K Q hd h hK
    have refl : After S w0 F st ρ ρ st a w := ⟨Ext.refl _ _, Nat.le_refl _, hd⟩
    unfold sx at h
    split at h
    · exact Wp.of (by intros; simp) (wp_skip (hK.nrm _ _ _ _ refl h))
    · exact Wp.of (by intros; simp) (wp_label (hK.nrm _ _ _ _ refl h))
    · -- region
      rename_i id ops draw
      refine Wp.of (by intros; simp) ?_
      obtain ⟨ρ1, st1, haf, hk⟩ := ghosts_sound S w0 F _ (annsOf C f id) (fun sp args hm => by obtain ⟨l, i, hl, hm⟩ := annsOf_mem hm; exact hC.2.1 f l hl i sp args hm) st ρ a w hd h
      have hn : ∀ ρ' st' a' w', After S w0 F st1 ρ1 ρ' st' a' w' → (K.nrm st').den S ρ' → Q .normal a' w' := fun ρ' st' a' w' h1 h2 => hK.nrm _ _ _ _ (After.step S w0 F haf.1 haf.2.1 h1) h2
      cases draw
      · simp only [cond_false] at hk
        exact wp_region_list (seqR_sound S w0 F hb hC ops.toList st1 ρ1 a w haf.2.2 hk hn)
      · simp only [cond_true] at hk
        cases hm : P.follows .mixedOrders
        · rw [hm] at hk; exact hk.elim
        cases hns : Region.noSelect ops
        · rw [hm, hns] at hk; exact hk.elim
        rw [hm, hns] at hk
        exact region_draw_sound S w0 F hb hC hm hns hK.pan haf.2.2 hk hn
    · -- seq
      rename_i x y
      refine Wp.of (by intros; simp) (wp_seq (ih x st ρ a w _ _ hd h ⟨?_, ?_, ?_, ?_⟩).2)
      · intro ρ' st' a' w' haf hk
        exact (ih y st' ρ' a' w' K Q haf.2.2 hk (hK.step S w0 F haf.1 haf.2.1)).2
      · intro ρ' st' a' w' haf hk; exact hK.ret _ _ _ _ haf hk
      · intro i ρ' st' a' w' haf hk; exact hK.ext i _ _ _ _ haf hk
      · intro c a w h; exact hK.pan c a w h
    · -- cond
      rename_i x c1 c2
      refine Wp.of (by intros; simp) ?_
      have hx := lk_eval S hd.fr x
      split at h
      · rename_i he; rw [he] at hx
        exact wp_cond_true (by rw [R_one S ρ hx]; rfl) (ih c1 st ρ a w K Q hd h hK).2
      · rename_i he; rw [he] at hx
        exact wp_cond_false (by rw [R_one S ρ hx]; rfl) (ih c2 st ρ a w K Q hd h hK).2
      · rename_i e _ _ he; rw [he] at hx
        cases hq : sq e.srt .bool
        · rw [hq] at h; exact h.elim
        rw [hq] at h
        simp only [cond_true] at h
        obtain ⟨ht, hf⟩ := h
        have hev := R_one S ρ hx
        simp only [SC.den] at hev
        cases hv : (e.den S ρ).toBool
        · rw [hv] at hev
          have hp : ¬ (e.den S ρ).toProp := by rw [srt_bool S hq, hv]; simp
          have hp' : ((eNot e).den S ρ).toProp := by rw [eNot_den, srt_bool S hq, hv]; rfl
          refine wp_cond_false hev ?_
          cases hin : inAsm e st.asm
          · rw [hin] at hf
            exact (ih c2 { st with asm := eNot e :: st.asm } ρ a w K Q ⟨hd.fr, hd.df, hd.hp, asm_cons S hp' hd.asm⟩ (hf hp') (KtR.asm S w0 F (st := st) rfl hK)).2
          · exact absurd (hd.asm _ (inAsm_mem hin)) hp
        · rw [hv] at hev
          have hp : (e.den S ρ).toProp := by rw [srt_bool S hq, hv]; rfl
          have hp' : ¬ ((eNot e).den S ρ).toProp := by rw [eNot_den, srt_bool S hq, hv]; simp
          refine wp_cond_true hev ?_
          cases hin : inAsm (eNot e) st.asm
          · rw [hin] at ht
            exact (ih c1 { st with asm := e :: st.asm } ρ a w K Q ⟨hd.fr, hd.df, hd.hp, asm_cons S hp hd.asm⟩ (ht hp) (KtR.asm S w0 F (st := st) rfl hK)).2
          · exact absurd (hd.asm _ (inAsm_mem hin)) hp'
      · exact h.elim
    · -- block
      rename_i id b
      refine Wp.of (by intros; simp) (wp_block (ih b st ρ a w _ _ hd h ⟨?_, ?_, ?_, ?_⟩).2)
      · intro ρ' st' a' w' haf hk; exact hK.nrm _ _ _ _ haf hk
      · intro ρ' st' a' w' haf hk; exact hK.ret _ _ _ _ haf hk
      · intro i ρ' st' a' w' haf hk
        simp only [Exit.inBlock]
        simp only [Bool.cond_eq_ite] at hk
        split at hk
        · rename_i hi; rw [if_pos (Nat.eq_of_beq_eq_true hi)]; exact hK.nrm _ _ _ _ haf hk
        · rename_i hi
          rw [if_neg (fun h => hi (by subst h; simp))]
          exact hK.ext i _ _ _ _ haf hk
      · intro c a w h; exact hK.pan c a w h
    · exact Wp.of (by intros; simp) (wp_exit (hK.ext _ _ _ _ _ refl h))
    · exact Wp.of (by intros; simp) (wp_ret (hK.ret _ _ _ _ refl h))
    · -- loop
      rename_i b
      split at h
      · exact h.elim
      · rename_i key hkey
        split at h
        · -- a round by itself
          refine Wp.loop (wpIn_step (ih b st ρ a w _ _ hd h ⟨?_, ?_, ?_, ?_⟩).2)
          · intro ρ' st' a' w' haf hk
            exact (ih (.loop b) st' ρ' a' w' K Q haf.2.2 hk (hK.step S w0 F haf.1 haf.2.1)).1 b rfl
          · intro ρ' st' a' w' haf hk; exact hK.ret _ _ _ _ haf hk
          · intro i ρ' st' a' w' haf hk; exact hK.ext i _ _ _ _ haf hk
          · intro c a w h; exact hK.pan c a w h
        · rename_i iv0 hiv
          simp only at h
          generalize hIV : iv0.at st.n = iv at h
          generalize junks st.fr (Code.writes b) = head at h
          split at h
          · exact h.elim
          · rename_i th0 ns rest hmeet
            cases h1 : iv.wf st.n
            · rw [h1] at h; exact h.elim
            cases h2 : head.all (SV.lt st.n)
            · rw [h1, h2] at h; exact h.elim
            cases h3 : rest.all (Ch.lt st.n)
            · rw [h1, h2, h3] at h; exact h.elim
            rw [h1, h2, h3] at h
            simp only [cond_true] at h
            obtain ⟨hn, hfr⟩ := needs_den S ρ h
            obtain ⟨hok, hcont⟩ := fresh_den S ρ hfr
            have has : (ns ++ st.asm).all (SX.lt st.n) = true := by
              unfold St.ok at hok
              simp only [Bool.cond_eq_ite] at hok
              split at hok
              · split at hok
                · exact hok
                · cases hok
              · cases hok
            have ha0 : ∀ x ∈ ns ++ st.asm, (x.den S ρ).toProp := fun x hx => (List.mem_append.1 hx).elim (hn x) (hd.asm x)
            let stI : St := { fr := setSlots iv.slots 0 head, hp := iv.hp ++ rest, n := st.n + iv.ss.length, asm := iv.facts ++ (ns ++ st.asm) }
            let I : Nat → Act → World → Prop := fun m a w => ∃ us : List (U G), us.length = iv.ss.length ∧ Den S (updL S ρ st.n iv.ss us) w0 F stI a w ∧ (∀ x ∈ iv.facts, (x.den S (updL S ρ st.n iv.ss us)).toProp) ∧ (iv.meas.den S (updL S ρ st.n iv.ss us)).toInt.toNat = m
            obtain ⟨us, hus, hdI, hf, hm⟩ := meet_sound S w0 F (Ext.refl st.n ρ) hd h1 h2 h3 hmeet hn (left := []) (by have : hpDen S ρ w0 [] = emp := rfl; rw [this, star_emp]) has ha0
            refine Wp.loop (wpIn_inv I ?_ _ a w ⟨us, hus, hdI, hf, rfl⟩)
            rintro m a1 w1 ⟨us, hus, hdI, hf, hm⟩
            have hEI : Ext st.n ρ (updL S ρ st.n iv.ss us) := updL_ext S ρ st.n iv.ss us
            refine (ih b stI _ a1 w1 _ _ hdI (hcont us hus hf) ⟨?_, ?_, ?_, ?_⟩).2
            · intro ρ' st' a' w' haf hk
              simp only at hk
              split at hk
              · exact hk.elim
              · rename_i th1 ns1 rest1 hmeet1
                split at hk
                · exact hk.elim
                · rename_i lft hhold
                  obtain ⟨hk1, _⟩ := needs_den S ρ' hk
                  obtain ⟨hpos, hk2⟩ := need_sound S ρ' haf.2.2.asm hk1
                  obtain ⟨hlt, hk3⟩ := need_sound S ρ' haf.2.2.asm hk2
                  rw [eLe_den] at hpos
                  rw [eLt_den] at hlt
                  obtain ⟨us', hus', hdI', hf', hm'⟩ := meet_sound S w0 F (hEI.trans haf.1 (Nat.le_add_right _ _)) haf.2.2 h1 h2 h3 hmeet1 hk3 (holdAll_sound S w0 hhold) has ha0
                  have hml := (inv_wf h1).2.2.2.2
                  have hm0 : iv.meas.den S ρ' = iv.meas.den S (updL S ρ st.n iv.ss us) := SX.den_ext S haf.1 hml
                  refine ⟨_, ?_, us', hus', hdI', hf', rfl⟩
                  rw [← hm', ← hm]
                  rw [hm0] at hlt
                  simp only [SX.den, U.toInt_int] at hpos
                  omega
            · intro ρ' st' a' w' haf hk; exact hK.ret _ _ _ _ (After.step S w0 F hEI (Nat.le_add_right _ _) haf) hk
            · intro i ρ' st' a' w' haf hk; exact hK.ext i _ _ _ _ (After.step S w0 F hEI (Nat.le_add_right _ _) haf) hk
            · intro c a w h; exact hK.pan c a w h
    · exact h.elim
end
end
end Go.Eng

/- Bodies and contracts: that the symbolic run is the model's. -/
set_option linter.unusedSimpArgs false
set_option linter.unusedVariables false
namespace Go.Eng
noncomputable section
open Go.RowKit (Below)

section
variable {P : Program}
def oneRun (tmps : Array Value) : ResultVar → Sem Value
  | .tmp t => pure (tmps.getD t undef)
  | .cell a t => do loadVar t (← asAddr (tmps.getD a undef))
theorem results_eq (fn : Func) (tmps : Array Value) : results fn tmps = (do
    let vs ← fn.results.mapM (oneRun tmps)
    pure (if h : vs.size = 1 then vs[0] else .tuple vs)) := by
  unfold results
  congr 2
theorem results_1 {fn : Func} {tmps : Array Value} {r : ResultVar} {x : Value} {w : World} (h : fn.results = #[r]) (h1 : (oneRun tmps r).run P w = .ok x w) : (results fn tmps).run P w = .ok x w := by
  rw [results_eq, h]; simp [h1]
theorem results_2 {fn : Func} {tmps : Array Value} {r r2 : ResultVar} {x x2 : Value} {w : World} (h : fn.results = #[r, r2]) (h1 : (oneRun tmps r).run P w = .ok x w) (h2 : (oneRun tmps r2).run P w = .ok x2 w) : (results fn tmps).run P w = .ok (.tuple #[x, x2]) w := by
  rw [results_eq, h]; simp [h1, h2]
theorem results_3 {fn : Func} {tmps : Array Value} {r r2 r3 : ResultVar} {x x2 x3 : Value} {w : World} (h : fn.results = #[r, r2, r3]) (h1 : (oneRun tmps r).run P w = .ok x w) (h2 : (oneRun tmps r2).run P w = .ok x2 w) (h3 : (oneRun tmps r3).run P w = .ok x3 w) : (results fn tmps).run P w = .ok (.tuple #[x, x2, x3]) w := by
  rw [results_eq, h]; simp [h1, h2, h3]
theorem results_4 {fn : Func} {tmps : Array Value} {r r2 r3 r4 : ResultVar} {x x2 x3 x4 : Value} {w : World} (h : fn.results = #[r, r2, r3, r4]) (h1 : (oneRun tmps r).run P w = .ok x w) (h2 : (oneRun tmps r2).run P w = .ok x2 w) (h3 : (oneRun tmps r3).run P w = .ok x3 w) (h4 : (oneRun tmps r4).run P w = .ok x4 w) : (results fn tmps).run P w = .ok (.tuple #[x, x2, x3, x4]) w := by
  rw [results_eq, h]; simp [h1, h2, h3, h4]
end

section
variable {G : Type} (S : Sig G) (w0 : World) (F : HProp) {P : Program} {C : Cx}
theorem oneRes_sound {st : St} {ρ : Env G} {a : Act} {w : World} (hd : Den S ρ w0 F st a w) {r : ResultVar} {p : Bool × List SC} (h : oneRes P st r = some p) : (oneRun a.tmps r).run P w = .ok (tupV S ρ p) w := by
  cases r with
  | tmp t =>
    simp only [oneRes] at h
    have hr := lk_R S hd.fr t
    rw [List.getD_eq_getElem?_getD, Array.getElem?_toList] at hr
    simp only [oneRun]
    rw [Array.getD_eq_getD_getElem?]
    split at h
    · rename_i c hc
      cases h
      rw [hc] at hr
      rw [R_one S ρ hr]; rfl
    · rename_i cs hc
      cases h
      rw [hc] at hr
      have := hr.resolve_left (by simp [SV.isJunk])
      rw [this]; rfl
    · cases h
  | cell x t =>
    simp only [oneRes] at h
    split at h
    · rename_i b o d n hs hd' hn
      have hr := lk_R S hd.fr x
      rw [List.getD_eq_getElem?_getD, Array.getElem?_toList, hs] at hr
      have hv := R_one S ρ hr
      have main : ∀ sv, loadAt st.hp st.asm (tyAgg d) (bif tyAgg d then n else 1) (.ptr b o) = some ([], sv) → held b st.hp = true → (oneRun a.tmps (.cell x t)).run P w = .ok (sv.den S ρ) w := by
        intro sv hl hh
        have hb := held_sound S ρ w0 hh hd.hp
        have := loadAt_sound S ρ w0 hd.asm hd.hp hd' hn hl (fun e he => nomatch he)
        simp only [SC.den] at this hv
        rw [if_neg (by omega)] at this hv
        simp only [oneRun]
        rw [Array.getD_eq_getD_getElem?, hv]
        exact this
      split at h
      · rename_i c hl
        simp only [Bool.cond_eq_ite] at h
        split at h
        · rename_i hh; cases h; exact main _ hl hh
        · cases h
      · rename_i cs hl
        simp only [Bool.cond_eq_ite] at h
        split at h
        · rename_i hh; cases h; exact main _ hl hh
        · cases h
      · cases h
    · cases h
theorem resOf_sound {st : St} {ρ : Env G} {a : Act} {w : World} (hd : Den S ρ w0 F st a w) {fn : Func} {sv : SV} (h : resOf P fn st = some sv) : ∃ v, (results fn a.tmps).run P w = .ok v w ∧ sv.R S ρ v := by
  unfold resOf at h
  split at h
  · rename_i hr
    cases h
    have : fn.results = #[] := by rw [← Array.toList_inj]; exact hr
    exact ⟨.tuple #[], results_none this _ _ _, .inr rfl⟩
  · rename_i r hr
    have : fn.results = #[r] := by rw [← Array.toList_inj]; exact hr
    split at h
    · rename_i c h1; cases h; exact ⟨_, results_1 this (oneRes_sound S w0 F hd h1), .inr rfl⟩
    · rename_i cs h1; cases h; exact ⟨_, results_1 this (oneRes_sound S w0 F hd h1), .inr rfl⟩
    · cases h
  · rename_i r1 r2 hr
    have : fn.results = #[r1, r2] := by rw [← Array.toList_inj]; exact hr
    obtain ⟨a1, h1, h⟩ := ob_some h
    obtain ⟨a2, h2, h⟩ := ob_some h
    cases h
    exact ⟨_, results_2 this (oneRes_sound S w0 F hd h1) (oneRes_sound S w0 F hd h2), .inr rfl⟩
  · rename_i r1 r2 r3 hr
    have : fn.results = #[r1, r2, r3] := by rw [← Array.toList_inj]; exact hr
    obtain ⟨a1, h1, h⟩ := ob_some h
    obtain ⟨a2, h2, h⟩ := ob_some h
    obtain ⟨a3, h3, h⟩ := ob_some h
    cases h
    exact ⟨_, results_3 this (oneRes_sound S w0 F hd h1) (oneRes_sound S w0 F hd h2) (oneRes_sound S w0 F hd h3), .inr rfl⟩
  · rename_i r1 r2 r3 r4 hr
    have : fn.results = #[r1, r2, r3, r4] := by rw [← Array.toList_inj]; exact hr
    obtain ⟨a1, h1, h⟩ := ob_some h
    obtain ⟨a2, h2, h⟩ := ob_some h
    obtain ⟨a3, h3, h⟩ := ob_some h
    obtain ⟨a4, h4, h⟩ := ob_some h
    cases h
    exact ⟨_, results_4 this (oneRes_sound S w0 F hd h1) (oneRes_sound S w0 F hd h2) (oneRes_sound S w0 F hd h3) (oneRes_sound S w0 F hd h4), .inr rfl⟩
  · cases h

theorem FrR_args {ρ : Env G} : ∀ {l : List SV} {xs : List Value} (n : Nat), argsR S ρ l xs → FrR S ρ (l ++ List.replicate n .junk) (xs ++ List.replicate n undef)
  | [], [], n, _ => by
    simp only [List.nil_append]
    induction n with
    | zero => trivial
    | succ n ih => exact ⟨.inl rfl, ih⟩
  | s :: l, v :: xs, n, h => ⟨h.1, FrR_args n h.2⟩
  | [], _ :: _, _, h => h.elim
  | _ :: _, [], _, h => h.elim
theorem argsR_len {ρ : Env G} : ∀ {l : List SV} {xs : List Value}, argsR S ρ l xs → l.length = xs.length
  | [], [], _ => rfl
  | s :: l, v :: xs, h => by simp [argsR_len h.2]
  | [], _ :: _, h => h.elim
  | _ :: _, [], h => h.elim
theorem FrR_ok {ρ ρ' : Env G} {st : St} (hok : st.ok = true) (hE : Ext st.n ρ ρ') {l : List Value} (h : FrR S ρ st.fr l) : FrR S ρ' st.fr l := by
  unfold St.ok at hok
  simp only [Bool.cond_eq_ite] at hok
  split at hok
  · rename_i hf; exact FrR_ext S hE hf h
  · cases hok

/-- Any run of a body is the model's. -/
theorem runBody_sound (hC : CxOk S P C) : ∀ (fuel : Nat), BodyOk S w0 F P (runBody P C fuel)
  | 0, f, args, st, K, ρ, w, xs, R, hst, hok, hx, h, hK => by simp only [runBody] at h; exact h.elim
  | fuel + 1, f, args, st, K, ρ, w, xs, R, hst, hok, hx, h, hK => by
    simp only [runBody] at h
    split at h
    · exact h.elim
    · rename_i fn hfn
      split at h
      · exact h.elim
      · rename_i c hc
        refine calls_of_wp hfn hc ?_
        have hd : Den S ρ w0 F { st with fr := args ++ List.replicate (fn.ntmps - args.length) .junk } { tmps := xs.toArray ++ Array.replicate (fn.ntmps - xs.toArray.size) undef, defers := [] } w := by
          refine ⟨?_, rfl, hst.hp, hst.asm⟩
          have := FrR_args S (fn.ntmps - args.length) hx
          simpa [argsR_len S hx] using this
        let Q : Exit → Act → World → Prop := fun e a w' => match e with | .panic _ => False | e => bodyPost P fn R e a w'
        have fin : ∀ ρ' st' a' w', After S w0 F { st with fr := args ++ List.replicate (fn.ntmps - args.length) .junk } ρ ρ' st' a' w' →
            (match resOf P fn st' with | some v => K v { st' with fr := st.fr } | none => VC.ff 54).den S ρ' → a'.defers = [] ∧ ∃ v, (results fn a'.tmps).run P w' = .ok v w' ∧ R (.returned v) w' := by
          intro ρ' st' a' w' haf hk
          split at hk
          · rename_i sv hsv
            obtain ⟨v, hr, hv⟩ := resOf_sound S w0 F haf.2.2 hsv
            refine ⟨haf.2.2.df, v, hr, hK ρ' sv { st' with fr := st.fr } w' v ⟨haf.1, haf.2.1, rfl, fun l hl => FrR_ok S hok haf.1 hl, ⟨haf.2.2.hp, haf.2.2.asm⟩⟩ hv hk⟩
          · exact hk.elim
        refine wp_mono (Q := Q) (sx_sound S w0 F (runBody_sound hC fuel) hC f 100000 c _ ρ _ w _ Q hd h ⟨?_, ?_, ?_, ?_⟩).2 ?_
        · intro ρ' st' a' w' haf hk; exact fin ρ' st' a' w' haf hk
        · intro ρ' st' a' w' haf hk; exact fin ρ' st' a' w' haf hk
        · intro i ρ' st' a' w' haf hk; exact hk.elim
        · intro c a w h; exact h
        · intro e a w h; cases e <;> first | exact h | exact h.elim

/-! ### A function keeps its contract -/
theorem VC.den_wc (ch : Nat → Bool) : ∀ (v : VC) (ρ : Env G), v.den (S.wc ch) ρ ↔ v.den S ρ
  | .tt, _ => Iff.rfl
  | .ff _, _ => Iff.rfl
  | .and a b, ρ => and_congr (VC.den_wc ch a ρ) (VC.den_wc ch b ρ)
  | .imp e a, ρ => by simp only [VC.den, SX.den_wc]; exact imp_congr Iff.rfl (VC.den_wc ch a ρ)
  | .need e a, ρ => by simp only [VC.den, SX.den_wc]; exact and_congr Iff.rfl (VC.den_wc ch a ρ)
  | .all n .int a, ρ => forall_congr' fun _ => VC.den_wc ch a _
  | .all n .bool a, ρ => forall_congr' fun _ => VC.den_wc ch a _
  | .all n .ints a, ρ => forall_congr' fun _ => VC.den_wc ch a _
  | .all n .bytes a, ρ => forall_congr' fun _ => VC.den_wc ch a _
  | .all n .rows a, ρ => forall_congr' fun _ => VC.den_wc ch a _
  | .all n .amap a, ρ => forall_congr' fun _ => VC.den_wc ch a _
  | .all n .g a, ρ => forall_congr' fun _ => VC.den_wc ch a _
theorem argsR_wc (ch : Nat → Bool) {ρ : Env G} : ∀ {l : List SV} {xs : List Value}, argsR (S.wc ch) ρ l xs ↔ argsR S ρ l xs
  | [], [] => Iff.rfl
  | s :: l, v :: xs => and_congr (SV.R_wc S ρ ch s v) (argsR_wc ch)
  | [], _ :: _ => Iff.rfl
  | _ :: _, [] => Iff.rfl
theorem CtrOk.wc (ch : Nat → Bool) {f : Nat} {sp : Ctr} (h : CtrOk S P f sp) : CtrOk (S.wc ch) P f sp := by
  intro ch' w0 F ρ w xs hx hr hs
  refine (h ch' w0 F ρ w xs ((argsR_wc S ch).1 hx) (fun e he => by have := hr e he; rwa [SX.den_wc] at this) hs).mono ?_
  rintro e w' ⟨ρ', v, hE, he, hv, hs', hf⟩
  exact ⟨ρ', v, hE, he, (SV.R_wc S ρ' ch _ _).2 hv, hs', fun x hx => by rw [SX.den_wc]; exact hf x hx⟩
theorem GhOk.wc (ch : Nat → Bool) {sp : Ctr} (h : GhOk S sp) : GhOk (S.wc ch) sp := by
  intro ch' w0 F ρ w hr hs
  obtain ⟨ρ', hE, hs', hf⟩ := h ch' w0 F ρ w (fun e he => by have := hr e he; rwa [SX.den_wc] at this) hs
  exact ⟨ρ', hE, hs', fun x hx => by rw [SX.den_wc]; exact hf x hx⟩
theorem ExtOk.wc (ch : Nat → Bool) {f : Nat} {sp : Ctr} (h : ExtOk S P f sp) : ExtOk (S.wc ch) P f sp := by
  intro ch' w0 F ρ w xs hx hr hs
  obtain ⟨v, w', hrun, ρ', hE, hv, hs', hf⟩ := h ch' w0 F ρ w xs ((argsR_wc S ch).1 hx) (fun e he => by have := hr e he; rwa [SX.den_wc] at this) hs
  exact ⟨v, w', hrun, ρ', hE, (SV.R_wc S ρ' ch _ _).2 hv, hs', fun x hx => by rw [SX.den_wc]; exact hf x hx⟩
theorem CxOk.wc (ch : Nat → Bool) (h : CxOk S P C) : CxOk (S.wc ch) P C :=
  ⟨fun f sps hf sp hm => ⟨(h.1 f sps hf sp hm).1, (h.1 f sps hf sp hm).2.wc S ch⟩, fun f l hf i sp args hm => ⟨(h.2.1 f l hf i sp args hm).1, (h.2.1 f l hf i sp args hm).2.wc S ch⟩,
    fun f sps hf sp hm => ⟨(h.2.2 f sps hf sp hm).1, (h.2.2 f sps hf sp hm).2.wc S ch⟩⟩

theorem ctr_wf {sp : Ctr} (hwf : sp.wf = true) : sp.args.all (SV.wf 0 sp.ss) = true ∧ sp.pre.all (Ch.wf 0 sp.ss) = true ∧ sp.reqs.all (SX.wf 0 sp.ss) = true ∧ sp.res.wf 0 (sp.ss ++ sp.ps) = true ∧
      sp.post.all (Ch.wf 0 (sp.ss ++ sp.ps)) = true ∧ sp.facts.all (SX.wf 0 (sp.ss ++ sp.ps)) = true := by
  unfold Ctr.wf at hwf
  simp only [Bool.cond_eq_ite] at hwf
  split at hwf
  · rename_i a1
    split at hwf
    · rename_i a2
      split at hwf
      · rename_i a3
        split at hwf
        · rename_i a4
          split at hwf
          · rename_i a5; exact ⟨a1, a2, a3, a4, a5, hwf⟩
          · cases hwf
        · cases hwf
      · cases hwf
    · cases hwf
  · cases hwf

theorem preX_get : ∀ {ss : List Srt} {th : List SX} {k i : Nat} {s : Srt}, preX (ats k ss) th = true → ss[i]? = some s → getTh th i = .at s (k + i)
  | [], th, k, i, s, h, hs => by simp at hs
  | t :: ss, [], k, i, s, h, hs => by cases h
  | t :: ss, e :: th, k, i, s, h, hs => by
    simp only [ats, preX, Bool.cond_eq_ite] at h
    split at h
    · rename_i hq
      cases i with
      | zero => simp at hs; subst hs; simp only [getTh]; rw [← SX.bq_eq hq]; rfl
      | succ i =>
        simp only [getTh]
        rw [preX_get h (by simpa using hs), show k + 1 + i = k + (i + 1) by omega]
    · cases h

/-- **What the symbolic run asks for is enough.** -/
theorem vcOf_sound (hC : CxOk S P C) {fuel f : Nat} {sp : Ctr} (h : ∀ ρ : Env G, (vcOf P C fuel f sp).den S ρ) : CtrOk S P f sp := by
  intro ch w0 F ρ w xs hx hreq hs
  have h := h ρ
  rw [← VC.den_wc S ch] at h
  unfold vcOf at h
  cases hwf : sp.wf
  · rw [hwf] at h; exact h.elim
  cases hok : St.ok { fr := [], hp := sp.pre, n := sp.ss.length, asm := sp.reqs }
  · rw [hwf, hok] at h; exact h.elim
  rw [hwf, hok] at h
  simp only [cond_true] at h
  have h := imps_den (S.wc ch) ρ h (fun e he => by rw [SX.den_wc]; exact hreq e he)
  obtain ⟨w1, w2, w3, w4, w5, w6⟩ := ctr_wf hwf
  refine runBody_sound (S.wc ch) w0 F (hC.wc S ch) fuel f sp.args _ _ ρ w xs _ ⟨hs, fun e he => by rw [SX.den_wc]; exact hreq e he⟩ hok ((argsR_wc S ch).2 hx) h ?_
  intro ρ' sv st' w' v hn hsv hk
  split at hk
  · exact hk.elim
  · rename_i th hth
    cases h1 : thOk th (sp.ss ++ sp.ps)
    · rw [h1] at hk; exact hk.elim
    cases h2 : preX (ats 0 sp.ss) th
    · rw [h1, h2] at hk; exact hk.elim
    rw [h1, h2] at hk
    simp only [cond_true] at hk
    split at hk
    · exact hk.elim
    · rename_i ns1 he
      split at hk
      · exact hk.elim
      · rename_i ns2 rest ks htk
        cases h3 : ks.all backOk
        · rw [h3] at hk; exact hk.elim
        rw [h3] at hk
        simp only [cond_true] at hk
        obtain ⟨hn3, _⟩ := needs_den (S.wc ch) ρ' hk
        obtain ⟨hf, hn2⟩ := foldr_need (S.wc ch) ρ' hn.hs.asm hn3
        have hch : ∀ i K, (i, K) ∈ ks → ch i = chOf (S.wc ch) K := fun i K hm => by
          have := List.all_eq_true.1 h3 _ hm
          cases K with
          | rd j => simp only [backOk] at this; rw [Nat.eq_of_beq_eq_true this]; rfl
          | _ => cases this
        obtain ⟨hn1, htake⟩ := takeChs_sound (S.wc ch) ρ' w0 hn.hs.asm ch htk hn2 hch
        obtain ⟨hv, _⟩ := eqV_sound (S.wc ch) ρ' hn.hs.asm he hn1
        let ρc : Env G := fun i => if i < sp.ss.length then ρ i else (getTh th i).den S ρ'
        have hT : ThR S 0 th (sp.ss ++ sp.ps) ρ' ρc := ⟨fun i hi => absurd hi (Nat.not_lt_zero _), fun i s hs => by
          rw [Nat.zero_add]
          by_cases hi : i < sp.ss.length
          · simp only [ρc, if_pos hi]
            rw [List.getElem?_append_left hi] at hs
            rw [preX_get h2 hs, Nat.zero_add]
            simp only [SX.den]
            rw [hn.ext i hi]
          · simp only [ρc, if_neg hi]
            have e1 := thOk_get h1 i s hs
            have e2 := SX.srt_co S ρ' (getTh th i)
            rw [e1] at e2
            exact e2⟩
        have hT' : ThR (S.wc ch) 0 th (sp.ss ++ sp.ps) ρ' ρc := ⟨hT.low, fun i s hs => by rw [SX.den_wc, co_wc]; exact hT.high i s hs⟩
        refine ⟨ρc, v, fun i hi => by simp only [ρc, if_pos hi], rfl, ?_, ?_, ?_⟩
        · have := (SV.sub_R (S.wc ch) ρ' hT' w4).1 (hv v hsv)
          exact (SV.R_wc S ρc ch _ _).1 this
        · have := hn.hs.hp.mono (htake _)
          rw [hp_sub_den (S.wc ch) ρ' w0 hT' ch w5] at this
          rw [star_left_comm] at this
          exact this.drop
        · have := (mem_sub (S.wc ch) ρ' hT' w6).1 hf
          intro x hx
          have := this x hx
          rwa [SX.den_wc] at this
end
end
end Go.Eng

/- The model's own entry for slices.overlaps keeps a contract: two arrays do not overlap. -/
set_option linter.unusedSimpArgs false
set_option linter.unusedVariables false
namespace Go.Eng
noncomputable section
open Go.RowKit (Below)
def En.srt : En → Srt | .ints _ => .ints | .bytes => .bytes | .rows _ => .rows
def ovCtr (e : En) : Ctr :=
  let i (n : Nat) : SX := .at .int n
  { ss := [.int, .int, .int, .int, .int, e.srt, .int, .int, .int, .int, .int, .int, e.srt, .int]
    args := [.one (.slice (i 0) (.int 0) (i 1) (i 2) (i 3) (i 4) e.stride), .one (.slice (i 7) (.int 0) (i 8) (i 9) (i 10) (i 11) e.stride)]
    pre := [.arr e (i 0) (.at e.srt 5) (i 6), .arr e (i 7) (.at e.srt 12) (i 13)]
    reqs := [eLe (i 3) (i 6), eLe (i 10) (i 13)]
    ps := []
    res := .one (.bool (.bool false))
    post := [.arr e (i 0) (.at e.srt 5) (i 6), .arr e (i 7) (.at e.srt 12) (i 13)]
    facts := [] }
theorem rows_apart {w0 w : World} {b c : Nat} {u v : List Value} {y z : Bool} {H : HProp} (h : Sat w0 (star (row b 0 u y) (star (row c 0 v z) H)) w) (hu : u ≠ []) (hv : v ≠ []) : b ≠ c := by
  obtain ⟨x, ⟨a, r, d, rfl, rfl, a2, r2, d2, rfl, rfl, h3⟩, hi⟩ := h
  intro e
  subst e
  have e1 : rowH b 0 u y b 0 ≠ none := by
    cases u with
    | nil => exact absurd rfl hu
    | cons q l => simp [rowH]
  have e2 : rowH b 0 v z b 0 ≠ none := by
    cases v with
    | nil => exact absurd rfl hv
    | cons q l => simp [rowH]
  rcases d b 0 with e | e
  · exact e1 e
  · unfold Hl.un at e
    cases hq : rowH b 0 v z b 0 with
    | none => exact e2 hq
    | some q => rw [hq] at e; cases e
section
variable {G : Type} (S : Sig G) {P : Program}
theorem ext_overlaps {f : FuncId} {fn : Func} {e : En} {tS tR et : TypeId} (hf : P.funcs[f]? = some fn) (hname : (fn.name == "runtime.NumGoroutine") = false) (hb : fn.body.isNone = true)
    (hn : Extern.findNext fn = none) (he : Extern.find fn = some (Extern.SlicesOverlaps.overlaps fn.params fn.resultTypes)) (hp : fn.params = #[tS, tS]) (hr : fn.resultTypes = #[tR])
    (ht : P.underlying tS = some (.slice et)) (hs : szOf P et = some e.stride) (h1 : 1 ≤ e.stride) : ExtOk S P f (ovCtr e) := by
  intro ch w0 F ρ w xs hx hq hsat
  obtain ⟨v1, v2, rfl, hv1, hv2⟩ : ∃ v1 v2, xs = [v1, v2] ∧ SV.R S ρ (.one (.slice (.at .int 0) (.int 0) (.at .int 1) (.at .int 2) (.at .int 3) (.at .int 4) e.stride)) v1 ∧
      SV.R S ρ (.one (.slice (.at .int 7) (.int 0) (.at .int 8) (.at .int 9) (.at .int 10) (.at .int 11) e.stride)) v2 := by
    match xs, hx with
    | [v1, v2], hx => exact ⟨v1, v2, rfl, hx.1, hx.2.1⟩
  have hv1 := R_one S ρ hv1
  have hv2 := R_one S ρ hv2
  have q1 := hq _ (by simp [ovCtr]; exact .inl rfl)
  have q2 := hq (eLe (.at .int 10) (.at .int 13)) (by simp [ovCtr])
  refine ⟨.bool false, w, ?_, ρ, Ext.refl _ _, .inr rfl, hsat, by simp [ovCtr]⟩
  rw [run_callFunc_extern hf hname hb hn he]
  have main : (Extern.SlicesOverlaps.overlaps fn.params fn.resultTypes #[v1, v2]).run P w = .ok (.bool false) w := by
    rw [hp, hr]
    have hz : ∀ w, (sizeOf et).run P w = .ok e.stride w := fun w => run_sizeOfE hs w
    subst hv1; subst hv2
    have triv : ∀ (a b : Option Addr) (la lb ca cb : Nat), (la = 0 ∨ lb = 0 ∨ a = none ∨ b = none) → (Extern.SlicesOverlaps.overlaps #[tS, tS] #[tR] #[.slice a la ca, .slice b lb cb]).run P w = .ok (.bool false) w := by
      intro a b la lb ca cb hor
      change Sem.run P (α := Value) (do
        let some t := (#[tS, tS] : Array TypeId)[0]? | stuck "slices.overlaps: no parameter types"
        let .slice elem ← underlying t | stuck "slices.overlaps: slice type expected"
        let size ← sizeOf elem
        match (a : Option Addr), (b : Option Addr) with
        | some a, some b =>
          if la = 0 ∨ lb = 0 ∨ size = 0 then pure (Value.bool false)
          else if a.block != b.block && (← frozen a) && (← frozen b) then unsupported .addressObserved
          else do
            if a.block != b.block then do
              noView a; noView b
              if ← mayBeOne a b then return Value.bool ((← choose (.extern "sameAddr.stringBytes" 2)) == 1)
            pure (Value.bool (a.block == b.block && a.off < b.off + lb * size && b.off < a.off + la * size))
        | _, _ => pure (Value.bool false)) w = _
      cases a <;> cases b <;> simp [run_underlying ht, hz]
      rcases hor with h | h | h | h
      · simp [h]
      · simp [h]
      · cases h
      · cases h
    simp only [SC.den]
    rw [eLe_den] at q1 q2
    generalize hb1 : ((SX.at .int 0).den S ρ).toInt = b1 at *
    generalize hb2 : ((SX.at .int 7).den S ρ).toInt = b2 at *
    by_cases n1 : b1 < 0
    · exact triv _ _ _ _ _ _ (.inr (.inr (.inl (by simp [n1]))))
    by_cases n2 : b2 < 0
    · exact triv _ _ _ _ _ _ (.inr (.inr (.inr (by simp [n2]))))
    by_cases n3 : ((SX.at .int 3).den S ρ).toInt.toNat = 0
    · exact triv _ _ _ _ _ _ (.inl n3)
    by_cases n4 : ((SX.at .int 10).den S ρ).toInt.toNat = 0
    · exact triv _ _ _ _ _ _ (.inr (.inl n4))
    rw [if_neg n1, if_neg n2]
    simp only [ovCtr, hpDen_cons, star_assoc, Ch.den] at hsat
    rw [SX.den_wc, SX.den_wc, SX.den_wc, SX.den_wc, SX.den_wc, SX.den_wc] at hsat
    obtain ⟨spare1, hsat⟩ := sat_ex hsat
    obtain ⟨g1, hsat⟩ := sat_and hsat
    obtain ⟨g2, hsat⟩ := sat_and hsat
    obtain ⟨g3, hsat⟩ := sat_and hsat
    rw [← star_assoc, star_comm (row _ _ _ _), star_assoc] at hsat
    obtain ⟨spare2, hsat⟩ := sat_ex hsat
    obtain ⟨k1, hsat⟩ := sat_and hsat
    obtain ⟨k2, hsat⟩ := sat_and hsat
    obtain ⟨k3, hsat⟩ := sat_and hsat
    rw [hb1] at g3 hsat
    rw [hb2] at k3 hsat
    generalize hA : e.vals ((SX.at e.srt 5).den S ρ) ++ spare1 = A at *
    generalize hB : e.vals ((SX.at e.srt 12).den S ρ) ++ spare2 = B at *
    have lA : A.length = ((SX.at .int 6).den S ρ).toInt.toNat * e.stride := by rw [← hA, List.length_append]; exact g1
    have lB : B.length = ((SX.at .int 13).den S ρ).toInt.toNat * e.stride := by rw [← hB, List.length_append]; exact k1
    have pA : 0 < A.length := by rw [lA]; exact Nat.mul_pos (by omega) h1
    have pB : 0 < B.length := by rw [lB]; exact Nat.mul_pos (by omega) h1
    have nA : A ≠ [] := List.length_pos_iff.1 pA
    have nB : B ≠ [] := List.length_pos_iff.1 pB
    have hne := rows_apart hsat nB nA
    obtain ⟨cB, eB, hB'⟩ := Sat.load_strict hsat nB
    obtain ⟨cellB, _⟩ := hsat.load (i := 0) pB
    rw [star_left_comm] at hsat
    obtain ⟨cA, eA, hA'⟩ := Sat.load_strict hsat nA
    refine Lib.run_overlaps_apart w tS tR et ht e.stride hz ⟨b1.toNat, _, none⟩ ⟨b2.toNat, _, none⟩ _ _ _ _ (fun h => hne h.symm) eA eB cA.size cB.size ?_ ?_ ?_ ?_ ?_
    · simp [World.shape?, hA']
    · simp [World.shape?, hB']
    · intro h0
      simp only [World.cell?, hB'] at cellB
      have : cB = #[] := Array.eq_empty_of_size_eq_zero h0
      rw [this] at cellB
      simp at cellB
    · simp [World.frozen?, hA']
    · simp [World.frozen?, hA']
  rw [show ([v1, v2] : List Value).toArray = #[v1, v2] from rfl, main]
  rfl
end
end
end Go.Eng

/- A small judge of formulas: it knows lower bounds. -/
set_option linter.unusedSimpArgs false
set_option linter.unusedVariables false
namespace Go.Eng
noncomputable section
abbrev LB := List (Nat × Int)
def LB.get : LB → Nat → Option Int
  | [], _ => none
  | (j, l) :: r, i => bif Nat.beq j i then some l else LB.get r i
mutual
def lbOf (lo hi : LB) : SX → Option Int
  | .int n => some n
  | .at s i => (match s with | .int => LB.get lo i | _ => none)
  | .f1 f _ => (match f with | 30 | 31 | 32 | 33 => some 0 | _ => none)
  | .f2 f a b => (match f with
    | 40 => (match lbOf lo hi a, lbOf lo hi b with | some x, some y => some (x + y) | _, _ => none)
    | 41 => (match lbOf lo hi a, ubOf lo hi b with | some x, some y => some (x - y) | _, _ => none)
    | 111 => some 0
    | _ => none)
  | _ => none
def ubOf (lo hi : LB) : SX → Option Int
  | .int n => some n
  | .at s i => (match s with | .int => (match LB.get hi i with | some x => some (-x) | none => none) | _ => none)
  | .f2 f a b => (match f with
    | 40 => (match ubOf lo hi a, ubOf lo hi b with | some x, some y => some (x + y) | _, _ => none)
    | 41 => (match ubOf lo hi a, lbOf lo hi b with | some x, some y => some (x - y) | _, _ => none)
    | 111 => some 255
    | _ => none)
  | _ => none
end
def LB.put (i : Nat) (c : Int) : LB → LB
  | [] => [(i, c)]
  | (j, l) :: r => bif Nat.beq j i then (j, max l c) :: r else bif Nat.blt j i then (i, c) :: (j, l) :: r else (j, l) :: LB.put i c r
def learnLo (lo : LB) (e : SX) : LB :=
  match e with
  | .f2 f (.int c) (.at .int i) => (match f with | 47 => LB.put i c lo | 46 => LB.put i (c + 1) lo | _ => lo)
  | _ => lo
def learnHi (hi : LB) (e : SX) : LB :=
  match e with
  | .f2 f (.at .int i) (.int c) => (match f with | 47 => LB.put i (-c) hi | 46 => LB.put i (-(c - 1)) hi | _ => hi)
  | _ => hi
/-- A measure that falls by a written number. -/
def fallsBy : SX → SX → Bool
  | .f2 f x (.f2 g y (.int (.ofNat (_ + 1)))), .f2 f' x' y' => bif (bif Nat.beq f 41 then (bif Nat.beq g 40 then Nat.beq f' 41 else false) else false) then (bif SX.bq x x' then SX.bq y y' else false) else false
  | _, _ => false
def proves (lo hi : LB) : SX → Bool
  | .bool b => b
  | .f1 f x => (match f with
    | 23 => (match lbOf lo hi x, ubOf lo hi x with | some l, some u => bif decide (-9223372036854775808 ≤ l) then decide (u ≤ 9223372036854775807) else false | _, _ => false)
    | _ => false)
  | .f2 f a b => (match f with
    | 47 => (match ubOf lo hi a, lbOf lo hi b with | some u, some l => decide (u ≤ l) | _, _ => false)
    | 46 => bif fallsBy a b then true else (match ubOf lo hi a, lbOf lo hi b with | some u, some l => decide (u < l) | _, _ => false)
    | _ => false)
  | _ => false
def allB (c : Int) : List UInt8 → Bool
  | [] => true
  | x :: l => bif ibq (.ofNat x.toNat) c then allB c l else false
def absurdE (lo hi : LB) : SX → Bool
  | .bool b => !b
  | .f1 f x => (match f, x with
    | 2, .f2 45 (.f2 111 (.byt l) i) (.int c) => (match lbOf lo hi i, ubOf lo hi i with
      | some (.ofNat a), some (.ofNat b) => bif Nat.blt b l.length then allB c ((l.drop a).take (b + 1 - a)) else false
      | _, _ => false)
    | _, _ => false)
  | .f2 f a b => (match f with
    | 47 => (match lbOf lo hi a, ubOf lo hi b with | some l, some u => decide (u < l) | _, _ => false)
    | 46 => (match lbOf lo hi a, ubOf lo hi b with | some l, some u => decide (u ≤ l) | _, _ => false)
    | _ => false)
  | _ => false
def LB.below (n : Nat) : LB → LB
  | [] => []
  | (j, l) :: r => bif Nat.blt j n then (j, l) :: r else LB.below n r
def VC.chk : LB → LB → VC → Bool
  | _, _, .tt => true
  | _, _, .ff _ => false
  | lo, hi, .and a b => bif VC.chk lo hi a then VC.chk lo hi b else false
  | lo, hi, .imp e a => bif absurdE lo hi e then true else VC.chk (learnLo lo e) (learnHi hi e) a
  | lo, hi, .need e a => bif proves lo hi e then VC.chk (learnLo lo e) (learnHi hi e) a else false
  | lo, hi, .all n _ a => VC.chk (LB.below n lo) (LB.below n hi) a

section
variable {G : Type} (S : Sig G)
def LBOk (v : Nat → Int) (env : LB) : Prop := env.Pairwise (fun a b => b.1 < a.1) ∧ ∀ p ∈ env, p.2 ≤ v p.1
theorem LB.get_ok {v : Nat → Int} : ∀ {env : LB}, (∀ p ∈ env, p.2 ≤ v p.1) → ∀ {i : Nat} {l : Int}, LB.get env i = some l → l ≤ v i
  | [], _, _, _, h => nomatch h
  | (j, l') :: r, ho, i, l, h => by
    simp only [LB.get] at h
    cases hb : Nat.beq j i
    · rw [hb] at h; exact LB.get_ok (fun p hp => ho p (List.mem_cons_of_mem _ hp)) h
    · rw [hb] at h; cases h
      have := ho _ List.mem_cons_self
      rw [Nat.eq_of_beq_eq_true hb] at this; exact this
theorem bnd_ok {ρ : Env G} {lo hi : LB} (ho : ∀ p ∈ lo, p.2 ≤ (ρ p.1).toInt) (hh : ∀ p ∈ hi, p.2 ≤ -(ρ p.1).toInt) : ∀ {e : SX},
    (∀ {l : Int}, lbOf lo hi e = some l → l ≤ (e.den S ρ).toInt) ∧ (∀ {l : Int}, ubOf lo hi e = some l → (e.den S ρ).toInt ≤ l) := by
  intro e
  induction e with
  | int n => exact ⟨fun h => (by simp only [lbOf] at h; cases h; exact Int.le_refl _), fun h => (by simp only [ubOf] at h; cases h; exact Int.le_refl _)⟩
  | «at» s i =>
    refine ⟨fun h => ?_, fun h => ?_⟩
    · simp only [lbOf] at h
      cases s <;> simp only [reduceCtorEq] at h
      exact LB.get_ok (v := fun i => (ρ i).toInt) ho h
    · simp only [ubOf] at h
      cases s <;> simp only [reduceCtorEq] at h
      split at h
      · rename_i x hx
        cases h
        have := LB.get_ok (v := fun i => -(ρ i).toInt) hh hx
        simp only [SX.den, U.co, U.toInt_int]
        omega
      · cases h
  | f1 f a _ =>
    refine ⟨fun h => ?_, fun h => ?_⟩
    · simp only [lbOf] at h
      split at h <;> cases h
      all_goals simp only [SX.den, ap1, U.toInt_int]; omega
    · simp only [ubOf] at h; cases h
  | f2 f a b iha ihb =>
    refine ⟨fun h => ?_, fun h => ?_⟩
    · simp only [lbOf] at h
      split at h
      · split at h
        · rename_i x y hx hy
          cases h
          have := iha.1 hx
          have := ihb.1 hy
          simp only [SX.den, ap2, U.toInt_int]; omega
        · cases h
      · split at h
        · rename_i x y hx hy
          cases h
          have := iha.1 hx
          have := ihb.2 hy
          simp only [SX.den, ap2, U.toInt_int]; omega
        · cases h
      · cases h
        simp only [SX.den, ap2, U.toInt_int]; omega
      · cases h
    · simp only [ubOf] at h
      split at h
      · split at h
        · rename_i x y hx hy
          cases h
          have := iha.2 hx
          have := ihb.2 hy
          simp only [SX.den, ap2, U.toInt_int]; omega
        · cases h
      · split at h
        · rename_i x y hx hy
          cases h
          have := iha.2 hx
          have := ihb.1 hy
          simp only [SX.den, ap2, U.toInt_int]; omega
        · cases h
      · cases h
        simp only [SX.den, ap2, U.toInt_int]
        have := (((a.den S ρ).toBytes.getD (b.den S ρ).toInt.toNat 0)).toNat_lt
        omega
      · cases h
  | _ => exact ⟨fun h => (by simp only [lbOf] at h; cases h), fun h => (by simp only [ubOf] at h; cases h)⟩
theorem LB.put_ok {ρ : Nat → Int} {i : Nat} {c : Int} (hc : c ≤ ρ i) : ∀ {env : LB}, LBOk ρ env → LBOk ρ (LB.put i c env) ∧ ∀ p ∈ LB.put i c env, p.1 = i ∨ ∃ q ∈ env, q.1 = p.1
  | [], _ => ⟨⟨List.pairwise_singleton _ _, fun p hp => by rw [LB.put, List.mem_singleton] at hp; subst hp; exact hc⟩, fun p hp => by rw [LB.put, List.mem_singleton] at hp; subst hp; exact .inl rfl⟩
  | (j, l) :: r, h => by
    obtain ⟨hp, ho⟩ := h
    rw [List.pairwise_cons] at hp
    simp only [LB.put]
    cases h1 : Nat.beq j i
    · cases h2 : Nat.blt j i
      · have ih := LB.put_ok hc (env := r) ⟨hp.2, fun p hq => ho p (List.mem_cons_of_mem _ hq)⟩
        have hij : i < j := by
          have e1 : ¬ j < i := fun hh => by rw [← Nat.blt_eq] at hh; rw [h2] at hh; cases hh
          have e2 : j ≠ i := fun hh => by rw [hh, Nat.beq_refl] at h1; cases h1
          omega
        simp only [cond_false]
        refine ⟨⟨List.pairwise_cons.2 ⟨fun p hq => ?_, ih.1.1⟩, fun p hq => ?_⟩, fun p hq => ?_⟩
        · rcases ih.2 p hq with e | ⟨q, hq', e⟩
          · rw [e]; exact hij
          · rw [← e]; exact hp.1 q hq'
        · rcases List.mem_cons.1 hq with rfl | hq
          · exact ho _ List.mem_cons_self
          · exact ih.1.2 p hq
        · rcases List.mem_cons.1 hq with rfl | hq
          · exact .inr ⟨_, List.mem_cons_self, rfl⟩
          · rcases ih.2 p hq with e | ⟨q, hq', e⟩
            · exact .inl e
            · exact .inr ⟨q, List.mem_cons_of_mem _ hq', e⟩
      · rw [Nat.blt_eq] at h2
        simp only [cond_true, cond_false]
        refine ⟨⟨List.pairwise_cons.2 ⟨fun p hq => ?_, List.pairwise_cons.2 hp⟩, fun p hq => ?_⟩, fun p hq => ?_⟩
        · rcases List.mem_cons.1 hq with rfl | hq
          · exact h2
          · have := hp.1 p hq; omega
        · rcases List.mem_cons.1 hq with rfl | hq
          · exact hc
          · exact ho p hq
        · rcases List.mem_cons.1 hq with rfl | hq
          · exact .inl rfl
          · exact .inr ⟨p, hq, rfl⟩
    · have e := Nat.eq_of_beq_eq_true h1
      subst e
      simp only [cond_true]
      refine ⟨⟨List.pairwise_cons.2 ⟨fun p hq => hp.1 p hq, hp.2⟩, fun p hq => ?_⟩, fun p hq => ?_⟩
      · rcases List.mem_cons.1 hq with rfl | hq
        · have := ho (j, l) List.mem_cons_self
          simp only at this ⊢; omega
        · exact ho p (List.mem_cons_of_mem _ hq)
      · rcases List.mem_cons.1 hq with rfl | hq
        · exact .inl rfl
        · exact .inr ⟨p, List.mem_cons_of_mem _ hq, rfl⟩
abbrev loV (ρ : Env G) : Nat → Int := fun i => (ρ i).toInt
abbrev hiV (ρ : Env G) : Nat → Int := fun i => -(ρ i).toInt
theorem learnLo_ok {ρ : Env G} {env : LB} (h : LBOk (loV ρ) env) {e : SX} (he : (e.den S ρ).toProp) : LBOk (loV ρ) (learnLo env e) := by
  unfold learnLo
  split
  · rename_i f c i
    split
    · have he : decide (c ≤ (ρ i).toInt) = true := he
      exact (LB.put_ok (of_decide_eq_true he) h).1
    · have he : decide (c < (ρ i).toInt) = true := he
      have := of_decide_eq_true he
      exact (LB.put_ok (by simp only [loV]; omega) h).1
    · exact h
  · exact h
theorem learnHi_ok {ρ : Env G} {env : LB} (h : LBOk (hiV ρ) env) {e : SX} (he : (e.den S ρ).toProp) : LBOk (hiV ρ) (learnHi env e) := by
  unfold learnHi
  split
  · rename_i f i c
    split
    · have he : decide ((ρ i).toInt ≤ c) = true := he
      have := of_decide_eq_true he
      exact (LB.put_ok (by simp only [hiV]; omega) h).1
    · have he : decide ((ρ i).toInt < c) = true := he
      have := of_decide_eq_true he
      exact (LB.put_ok (by simp only [hiV]; omega) h).1
    · exact h
  · exact h
theorem fallsBy_ok {ρ : Env G} {a b : SX} (h : fallsBy a b = true) : (a.den S ρ).toInt < (b.den S ρ).toInt := by
  unfold fallsBy at h
  split at h
  · rename_i f x g y n f' x' y'
    cases h1 : Nat.beq f 41
    · rw [h1] at h; cases h
    cases h2 : Nat.beq g 40
    · rw [h1, h2] at h; cases h
    cases h3 : Nat.beq f' 41
    · rw [h1, h2, h3] at h; cases h
    cases h4 : SX.bq x x'
    · rw [h1, h2, h3, h4] at h; cases h
    rw [h1, h2, h3, h4] at h
    have e1 := Nat.eq_of_beq_eq_true h1
    have e2 := Nat.eq_of_beq_eq_true h2
    have e3 := Nat.eq_of_beq_eq_true h3
    have e4 := SX.bq_eq h4
    have e5 := SX.bq_eq h
    subst e1; subst e2; subst e3; subst e4; subst e5
    simp only [SX.den, ap2, U.toInt_int]
    have e6 : (Int.ofNat n.succ : Int) = (n : Int) + 1 := rfl
    rw [e6]
    omega
  · cases h
theorem proves_ok {ρ : Env G} {lo hi : LB} (ho : LBOk (loV ρ) lo) (hh : LBOk (hiV ρ) hi) {e : SX} (he : proves lo hi e = true) : (e.den S ρ).toProp := by
  have B := @bnd_ok G S ρ lo hi ho.2 hh.2
  unfold proves at he
  split at he
  · simp [SX.den, he]
  · rename_i f x
    split at he
    · split at he
      · rename_i l u hl hu
        have b1 := (B).1 hl
        have b2 := (B).2 hu
        cases h1 : decide (-9223372036854775808 ≤ l)
        · rw [h1] at he; cases he
        rw [h1] at he
        have q1 := of_decide_eq_true h1
        have q2 := of_decide_eq_true he
        show (decide (IntKind.i64.min ≤ (x.den S ρ).toInt) && decide ((x.den S ρ).toInt ≤ IntKind.i64.max)) = true
        rw [Bool.and_eq_true]
        refine ⟨decide_eq_true ?_, decide_eq_true ?_⟩
        · show (-(2 ^ 63) : Int) ≤ _; omega
        · show _ ≤ (2 ^ 63 - 1 : Int); omega
      · cases he
    · cases he
  · rename_i f a b
    split at he
    · split at he
      · rename_i u l hu hl
        have b1 := (B).2 hu
        have b2 := (B).1 hl
        have := of_decide_eq_true he
        show decide ((a.den S ρ).toInt ≤ (b.den S ρ).toInt) = true
        exact decide_eq_true (by omega)
      · cases he
    · cases hf : fallsBy a b
      · rw [hf] at he
        simp only [cond_false] at he
        split at he
        · rename_i u l hu hl
          have b1 := (B).2 hu
          have b2 := (B).1 hl
          have := of_decide_eq_true he
          show decide ((a.den S ρ).toInt < (b.den S ρ).toInt) = true
          exact decide_eq_true (by omega)
        · cases he
      · show decide ((a.den S ρ).toInt < (b.den S ρ).toInt) = true
        exact decide_eq_true (fallsBy_ok S hf)
    · cases he
  · cases he
theorem allB_ok {c : Int} : ∀ {l : List UInt8}, allB c l = true → ∀ x ∈ l, ((x.toNat : Nat) : Int) = c
  | [], _, x, hx => nomatch hx
  | y :: l, h, x, hx => by
    simp only [allB] at h
    cases h1 : ibq (.ofNat y.toNat) c
    · rw [h1] at h; cases h
    · rw [h1] at h
      rcases List.mem_cons.1 hx with rfl | hx
      · exact ibq_eq h1
      · exact allB_ok h x hx
theorem absurdE_ok {ρ : Env G} {lo hi : LB} (ho : LBOk (loV ρ) lo) (hh : LBOk (hiV ρ) hi) {e : SX} (he : absurdE lo hi e = true) : ¬ (e.den S ρ).toProp := by
  have B := @bnd_ok G S ρ lo hi ho.2 hh.2
  unfold absurdE at he
  split at he
  · rename_i b; cases b <;> simp [SX.den] at he ⊢
  · rename_i f x
    split at he
    · rename_i l i c
      split at he
      · rename_i a b hl hu
        have b1 := (B).1 hl
        have b2 := (B).2 hu
        cases h1 : Nat.blt b l.length
        · rw [h1] at he; cases he
        rw [h1] at he
        simp only [cond_true] at he
        rw [Nat.blt_eq] at h1
        have c1 : (Int.ofNat a : Int) = (a : Int) := rfl
        have c2 : (Int.ofNat b : Int) = (b : Int) := rfl
        have hlt : (i.den S ρ).toInt.toNat < l.length := by omega
        have hval : ((((l.getD (i.den S ρ).toInt.toNat 0).toNat : Nat) : Int)) = c := by
          apply allB_ok he
          rw [List.getD_eq_getElem?_getD, List.getElem?_eq_getElem hlt]
          apply List.mem_iff_getElem?.2
          refine ⟨(i.den S ρ).toInt.toNat - a, ?_⟩
          rw [List.getElem?_take_of_lt (by omega), List.getElem?_drop, show a + ((i.den S ρ).toInt.toNat - a) = (i.den S ρ).toInt.toNat by omega, List.getElem?_eq_getElem hlt]
          rfl
        intro hq
        have hq : (!((((l.getD (i.den S ρ).toInt.toNat 0).toNat : Nat) : Int) == c)) = true := hq
        rw [hval] at hq
        simp at hq
      · cases he
    · cases he
  · rename_i f a b
    split at he
    · split at he
      · rename_i l u hl hu
        have b1 := (B).1 hl
        have b2 := (B).2 hu
        have := of_decide_eq_true he
        intro hq
        have hq : decide ((a.den S ρ).toInt ≤ (b.den S ρ).toInt) = true := hq
        have := of_decide_eq_true hq
        omega
      · cases he
    · split at he
      · rename_i l u hl hu
        have b1 := (B).1 hl
        have b2 := (B).2 hu
        have := of_decide_eq_true he
        intro hq
        have hq : decide ((a.den S ρ).toInt < (b.den S ρ).toInt) = true := hq
        have := of_decide_eq_true hq
        omega
      · cases he
    · cases he
  · cases he
theorem below_ok {v v' : Nat → Int} {n : Nat} (hv : ∀ i, i < n → v' i = v i) : ∀ {env : LB}, LBOk v env → LBOk v' (LB.below n env)
  | [], _ => ⟨List.Pairwise.nil, fun _ h => nomatch h⟩
  | (j, l) :: r, h => by
    simp only [LB.below]
    obtain ⟨hp, ho⟩ := h
    have hp' := List.pairwise_cons.1 hp
    cases h1 : Nat.blt j n
    · exact below_ok hv ⟨hp'.2, fun p hq => ho p (List.mem_cons_of_mem _ hq)⟩
    · rw [Nat.blt_eq] at h1
      refine ⟨hp, fun p hq => ?_⟩
      have hlt : p.1 < n := by
        rcases List.mem_cons.1 hq with rfl | hq
        · exact h1
        · have := hp'.1 p hq; simp only at this; omega
      rw [hv _ hlt]; exact ho p hq
theorem upd_low (ρ : Env G) (n : Nat) (u : U G) (i : Nat) (h : i < n) : ρ.upd n u i = ρ i := by unfold Env.upd; rw [if_neg (by omega)]
theorem VC.chk_ok : ∀ (v : VC) (lo hi : LB) (ρ : Env G), LBOk (loV ρ) lo → LBOk (hiV ρ) hi → VC.chk lo hi v = true → v.den S ρ := by
  intro v
  induction v with
  | tt => intro _ _ _ _ _ _; trivial
  | ff n => intro _ _ _ _ _ h; cases h
  | and a b iha ihb =>
    intro lo hi ρ ho hh h
    simp only [VC.chk] at h
    cases h1 : VC.chk lo hi a
    · rw [h1] at h; cases h
    · rw [h1] at h; exact ⟨iha lo hi ρ ho hh h1, ihb lo hi ρ ho hh h⟩
  | imp e a ih =>
    intro lo hi ρ ho hh h he
    simp only [VC.chk] at h
    cases h1 : absurdE lo hi e
    · rw [h1] at h; exact ih _ _ ρ (learnLo_ok S ho he) (learnHi_ok S hh he) h
    · exact absurd he (absurdE_ok S ho hh h1)
  | need e a ih =>
    intro lo hi ρ ho hh h
    simp only [VC.chk] at h
    cases h1 : proves lo hi e
    · rw [h1] at h; cases h
    · rw [h1] at h
      have he := proves_ok S ho hh h1
      exact ⟨he, ih _ _ ρ (learnLo_ok S ho he) (learnHi_ok S hh he) h⟩
  | all n s a ih =>
    intro lo hi ρ ho hh h
    have key : ∀ u : U G, a.den S (ρ.upd n u) := fun u => ih _ _ _ (below_ok (fun i hi => by simp only [loV, upd_low ρ n u i hi]) ho) (below_ok (fun i hi => by simp only [hiV, upd_low ρ n u i hi]) hh) h
    cases s <;> exact fun x => key _
theorem vc_chk {v : VC} (h : VC.chk [] [] v = true) (ρ : Env G) : v.den S ρ := VC.chk_ok S v [] [] ρ ⟨List.Pairwise.nil, fun _ h => nomatch h⟩ ⟨List.Pairwise.nil, fun _ h => nomatch h⟩ h
end
end
end Go.Eng

/- What each of the library's functions means, one equation each. -/
set_option linter.unusedSimpArgs false
set_option linter.unusedVariables false
namespace Go.Eng
noncomputable section
section
variable {G : Type}
theorem ap1_1 (a : U G) : ap1 1 a = .int (-a.toInt) := rfl
theorem ap1_2 (a : U G) : ap1 2 a = .bool (!a.toBool) := rfl
theorem ap1_3 (a : U G) : ap1 3 a = .int (if a.toBool then 1 else 0) := rfl
theorem ap1_4 (a : U G) : ap1 4 a = .int a.toInt := rfl
theorem ap1_10 (a : U G) : ap1 10 a = .int (IntKind.wrap .i8 a.toInt) := rfl
theorem ap1_11 (a : U G) : ap1 11 a = .int (IntKind.wrap .i16 a.toInt) := rfl
theorem ap1_12 (a : U G) : ap1 12 a = .int (IntKind.wrap .i32 a.toInt) := rfl
theorem ap1_13 (a : U G) : ap1 13 a = .int (IntKind.wrap .i64 a.toInt) := rfl
theorem ap1_14 (a : U G) : ap1 14 a = .int (IntKind.wrap .u8 a.toInt) := rfl
theorem ap1_15 (a : U G) : ap1 15 a = .int (IntKind.wrap .u16 a.toInt) := rfl
theorem ap1_16 (a : U G) : ap1 16 a = .int (IntKind.wrap .u32 a.toInt) := rfl
theorem ap1_17 (a : U G) : ap1 17 a = .int (IntKind.wrap .u64 a.toInt) := rfl
theorem ap1_20 (a : U G) : ap1 20 a = .bool (decide (IntKind.min .i8 ≤ a.toInt) && decide (a.toInt ≤ IntKind.max .i8)) := rfl
theorem ap1_21 (a : U G) : ap1 21 a = .bool (decide (IntKind.min .i16 ≤ a.toInt) && decide (a.toInt ≤ IntKind.max .i16)) := rfl
theorem ap1_22 (a : U G) : ap1 22 a = .bool (decide (IntKind.min .i32 ≤ a.toInt) && decide (a.toInt ≤ IntKind.max .i32)) := rfl
theorem ap1_23 (a : U G) : ap1 23 a = .bool (decide (IntKind.min .i64 ≤ a.toInt) && decide (a.toInt ≤ IntKind.max .i64)) := rfl
theorem ap1_24 (a : U G) : ap1 24 a = .bool (decide (IntKind.min .u8 ≤ a.toInt) && decide (a.toInt ≤ IntKind.max .u8)) := rfl
theorem ap1_25 (a : U G) : ap1 25 a = .bool (decide (IntKind.min .u16 ≤ a.toInt) && decide (a.toInt ≤ IntKind.max .u16)) := rfl
theorem ap1_26 (a : U G) : ap1 26 a = .bool (decide (IntKind.min .u32 ≤ a.toInt) && decide (a.toInt ≤ IntKind.max .u32)) := rfl
theorem ap1_27 (a : U G) : ap1 27 a = .bool (decide (IntKind.min .u64 ≤ a.toInt) && decide (a.toInt ≤ IntKind.max .u64)) := rfl
theorem ap1_30 (a : U G) : ap1 30 a = .int a.toInts.length := rfl
theorem ap1_31 (a : U G) : ap1 31 a = .int a.toBytes.length := rfl
theorem ap1_32 (a : U G) : ap1 32 a = .int a.toRows.length := rfl
theorem ap1_33 (a : U G) : ap1 33 a = .int a.toMap.length := rfl
theorem ap1_152 (a : U G) : ap1 152 a = .ints [] := rfl
theorem ap1_153 (a : U G) : ap1 153 a = .bytes [] := rfl
theorem ap1_154 (a : U G) : ap1 154 a = .rows [] := rfl
theorem ap1_155 (a : U G) : ap1 155 a = .amap [] := rfl
theorem ap1_160 (a : U G) : ap1 160 a = .int (crcRun 4294967295 a.toBytes : Nat) := rfl
theorem ap2_40 (a b : U G) : ap2 40 a b = .int (a.toInt + b.toInt) := rfl
theorem ap2_41 (a b : U G) : ap2 41 a b = .int (a.toInt - b.toInt) := rfl
theorem ap2_42 (a b : U G) : ap2 42 a b = .int (a.toInt * b.toInt) := rfl
theorem ap2_43 (a b : U G) : ap2 43 a b = .int (a.toInt.tdiv b.toInt) := rfl
theorem ap2_44 (a b : U G) : ap2 44 a b = .int (a.toInt.tmod b.toInt) := rfl
theorem ap2_45 (a b : U G) : ap2 45 a b = .bool (a.toInt == b.toInt) := rfl
theorem ap2_46 (a b : U G) : ap2 46 a b = .bool (decide (a.toInt < b.toInt)) := rfl
theorem ap2_47 (a b : U G) : ap2 47 a b = .bool (decide (a.toInt ≤ b.toInt)) := rfl
theorem ap2_48 (a b : U G) : ap2 48 a b = .bool (a.toBool == b.toBool) := rfl
theorem ap2_49 (a b : U G) : ap2 49 a b = .bool (a.toBool && b.toBool) := rfl
theorem ap2_50 (a b : U G) : ap2 50 a b = .bool (a.toBool || b.toBool) := rfl
theorem ap2_51 (a b : U G) : ap2 51 a b = .int (if b.toInt < a.toInt then b.toInt else a.toInt) := rfl
theorem ap2_52 (a b : U G) : ap2 52 a b = .int (if b.toInt > a.toInt then b.toInt else a.toInt) := rfl
theorem ap2_60 (a b : U G) : ap2 60 a b = .int (bitsV .and .i8 a.toInt b.toInt) := rfl
theorem ap2_61 (a b : U G) : ap2 61 a b = .int (bitsV .and .i16 a.toInt b.toInt) := rfl
theorem ap2_62 (a b : U G) : ap2 62 a b = .int (bitsV .and .i32 a.toInt b.toInt) := rfl
theorem ap2_63 (a b : U G) : ap2 63 a b = .int (bitsV .and .i64 a.toInt b.toInt) := rfl
theorem ap2_64 (a b : U G) : ap2 64 a b = .int (bitsV .and .u8 a.toInt b.toInt) := rfl
theorem ap2_65 (a b : U G) : ap2 65 a b = .int (bitsV .and .u16 a.toInt b.toInt) := rfl
theorem ap2_66 (a b : U G) : ap2 66 a b = .int (bitsV .and .u32 a.toInt b.toInt) := rfl
theorem ap2_67 (a b : U G) : ap2 67 a b = .int (bitsV .and .u64 a.toInt b.toInt) := rfl
theorem ap2_68 (a b : U G) : ap2 68 a b = .int (bitsV .or .i8 a.toInt b.toInt) := rfl
theorem ap2_69 (a b : U G) : ap2 69 a b = .int (bitsV .or .i16 a.toInt b.toInt) := rfl
theorem ap2_70 (a b : U G) : ap2 70 a b = .int (bitsV .or .i32 a.toInt b.toInt) := rfl
theorem ap2_71 (a b : U G) : ap2 71 a b = .int (bitsV .or .i64 a.toInt b.toInt) := rfl
theorem ap2_72 (a b : U G) : ap2 72 a b = .int (bitsV .or .u8 a.toInt b.toInt) := rfl
theorem ap2_73 (a b : U G) : ap2 73 a b = .int (bitsV .or .u16 a.toInt b.toInt) := rfl
theorem ap2_74 (a b : U G) : ap2 74 a b = .int (bitsV .or .u32 a.toInt b.toInt) := rfl
theorem ap2_75 (a b : U G) : ap2 75 a b = .int (bitsV .or .u64 a.toInt b.toInt) := rfl
theorem ap2_76 (a b : U G) : ap2 76 a b = .int (bitsV .xor .i8 a.toInt b.toInt) := rfl
theorem ap2_77 (a b : U G) : ap2 77 a b = .int (bitsV .xor .i16 a.toInt b.toInt) := rfl
theorem ap2_78 (a b : U G) : ap2 78 a b = .int (bitsV .xor .i32 a.toInt b.toInt) := rfl
theorem ap2_79 (a b : U G) : ap2 79 a b = .int (bitsV .xor .i64 a.toInt b.toInt) := rfl
theorem ap2_80 (a b : U G) : ap2 80 a b = .int (bitsV .xor .u8 a.toInt b.toInt) := rfl
theorem ap2_81 (a b : U G) : ap2 81 a b = .int (bitsV .xor .u16 a.toInt b.toInt) := rfl
theorem ap2_82 (a b : U G) : ap2 82 a b = .int (bitsV .xor .u32 a.toInt b.toInt) := rfl
theorem ap2_83 (a b : U G) : ap2 83 a b = .int (bitsV .xor .u64 a.toInt b.toInt) := rfl
theorem ap2_84 (a b : U G) : ap2 84 a b = .int (bitsV .andNot .i8 a.toInt b.toInt) := rfl
theorem ap2_85 (a b : U G) : ap2 85 a b = .int (bitsV .andNot .i16 a.toInt b.toInt) := rfl
theorem ap2_86 (a b : U G) : ap2 86 a b = .int (bitsV .andNot .i32 a.toInt b.toInt) := rfl
theorem ap2_87 (a b : U G) : ap2 87 a b = .int (bitsV .andNot .i64 a.toInt b.toInt) := rfl
theorem ap2_88 (a b : U G) : ap2 88 a b = .int (bitsV .andNot .u8 a.toInt b.toInt) := rfl
theorem ap2_89 (a b : U G) : ap2 89 a b = .int (bitsV .andNot .u16 a.toInt b.toInt) := rfl
theorem ap2_90 (a b : U G) : ap2 90 a b = .int (bitsV .andNot .u32 a.toInt b.toInt) := rfl
theorem ap2_91 (a b : U G) : ap2 91 a b = .int (bitsV .andNot .u64 a.toInt b.toInt) := rfl
theorem ap2_92 (a b : U G) : ap2 92 a b = .int (IntKind.wrap .i8 (a.toInt * 2 ^ (min b.toInt.toNat (IntKind.bits .i8)))) := rfl
theorem ap2_93 (a b : U G) : ap2 93 a b = .int (IntKind.wrap .i16 (a.toInt * 2 ^ (min b.toInt.toNat (IntKind.bits .i16)))) := rfl
theorem ap2_94 (a b : U G) : ap2 94 a b = .int (IntKind.wrap .i32 (a.toInt * 2 ^ (min b.toInt.toNat (IntKind.bits .i32)))) := rfl
theorem ap2_95 (a b : U G) : ap2 95 a b = .int (IntKind.wrap .i64 (a.toInt * 2 ^ (min b.toInt.toNat (IntKind.bits .i64)))) := rfl
theorem ap2_96 (a b : U G) : ap2 96 a b = .int (IntKind.wrap .u8 (a.toInt * 2 ^ (min b.toInt.toNat (IntKind.bits .u8)))) := rfl
theorem ap2_97 (a b : U G) : ap2 97 a b = .int (IntKind.wrap .u16 (a.toInt * 2 ^ (min b.toInt.toNat (IntKind.bits .u16)))) := rfl
theorem ap2_98 (a b : U G) : ap2 98 a b = .int (IntKind.wrap .u32 (a.toInt * 2 ^ (min b.toInt.toNat (IntKind.bits .u32)))) := rfl
theorem ap2_99 (a b : U G) : ap2 99 a b = .int (IntKind.wrap .u64 (a.toInt * 2 ^ (min b.toInt.toNat (IntKind.bits .u64)))) := rfl
theorem ap2_100 (a b : U G) : ap2 100 a b = .int (a.toInt.fdiv (2 ^ (min b.toInt.toNat (IntKind.bits .i8)))) := rfl
theorem ap2_101 (a b : U G) : ap2 101 a b = .int (a.toInt.fdiv (2 ^ (min b.toInt.toNat (IntKind.bits .i16)))) := rfl
theorem ap2_102 (a b : U G) : ap2 102 a b = .int (a.toInt.fdiv (2 ^ (min b.toInt.toNat (IntKind.bits .i32)))) := rfl
theorem ap2_103 (a b : U G) : ap2 103 a b = .int (a.toInt.fdiv (2 ^ (min b.toInt.toNat (IntKind.bits .i64)))) := rfl
theorem ap2_104 (a b : U G) : ap2 104 a b = .int (a.toInt.fdiv (2 ^ (min b.toInt.toNat (IntKind.bits .u8)))) := rfl
theorem ap2_105 (a b : U G) : ap2 105 a b = .int (a.toInt.fdiv (2 ^ (min b.toInt.toNat (IntKind.bits .u16)))) := rfl
theorem ap2_106 (a b : U G) : ap2 106 a b = .int (a.toInt.fdiv (2 ^ (min b.toInt.toNat (IntKind.bits .u32)))) := rfl
theorem ap2_107 (a b : U G) : ap2 107 a b = .int (a.toInt.fdiv (2 ^ (min b.toInt.toNat (IntKind.bits .u64)))) := rfl
theorem ap2_110 (a b : U G) : ap2 110 a b = .int (a.toInts.getD b.toInt.toNat 0) := rfl
theorem ap2_111 (a b : U G) : ap2 111 a b = .int ((a.toBytes.getD b.toInt.toNat 0).toNat : Nat) := rfl
theorem ap2_113 (a b : U G) : ap2 113 a b = .ints (a.toInts.take b.toInt.toNat) := rfl
theorem ap2_114 (a b : U G) : ap2 114 a b = .bytes (a.toBytes.take b.toInt.toNat) := rfl
theorem ap2_115 (a b : U G) : ap2 115 a b = .rows (a.toRows.take b.toInt.toNat) := rfl
theorem ap2_116 (a b : U G) : ap2 116 a b = .ints (a.toInts.drop b.toInt.toNat) := rfl
theorem ap2_117 (a b : U G) : ap2 117 a b = .bytes (a.toBytes.drop b.toInt.toNat) := rfl
theorem ap2_118 (a b : U G) : ap2 118 a b = .rows (a.toRows.drop b.toInt.toNat) := rfl
theorem ap2_119 (a b : U G) : ap2 119 a b = .ints (a.toInts ++ b.toInts) := rfl
theorem ap2_120 (a b : U G) : ap2 120 a b = .bytes (a.toBytes ++ b.toBytes) := rfl
theorem ap2_121 (a b : U G) : ap2 121 a b = .rows (a.toRows ++ b.toRows) := rfl
theorem ap2_122 (a b : U G) : ap2 122 a b = .ints (a.toInt :: b.toInts) := rfl
theorem ap2_123 (a b : U G) : ap2 123 a b = .bytes (UInt8.ofNat a.toInt.toNat :: b.toBytes) := rfl
theorem ap2_124 (a b : U G) : ap2 124 a b = .rows (a.toInts :: b.toRows) := rfl
theorem ap2_125 (a b : U G) : ap2 125 a b = .ints (List.replicate a.toInt.toNat b.toInt) := rfl
theorem ap2_126 (a b : U G) : ap2 126 a b = .bytes (List.replicate a.toInt.toNat (UInt8.ofNat b.toInt.toNat)) := rfl
theorem ap2_127 (a b : U G) : ap2 127 a b = .rows (List.replicate a.toInt.toNat b.toInts) := rfl
theorem ap2_141 (a b : U G) : ap2 141 a b = .bool (mhas a.toMap b.toInt) := rfl
theorem ap2_143 (a b : U G) : ap2 143 a b = .amap (mdel a.toMap b.toInt) := rfl
theorem ap2_150 (a b : U G) : ap2 150 a b = .bool (a.toBytes == b.toBytes) := rfl
theorem ap2_151 (a b : U G) : ap2 151 a b = .bool (Op.bytesLess a.toBytes b.toBytes) := rfl
theorem ap2_153 (a b : U G) : ap2 153 a b = .bool (a.toInts == b.toInts) := rfl
theorem ap3_112 (a b c : U G) : ap3 112 a b c = .int ((a.toRows.getD b.toInt.toNat []).getD c.toInt.toNat 0) := rfl
theorem ap3_130 (a b c : U G) : ap3 130 a b c = .ints (a.toInts.set b.toInt.toNat c.toInt) := rfl
theorem ap3_131 (a b c : U G) : ap3 131 a b c = .bytes (a.toBytes.set b.toInt.toNat (UInt8.ofNat c.toInt.toNat)) := rfl
theorem ap3_132 (a b c : U G) : ap3 132 a b c = .rows (a.toRows.set b.toInt.toNat c.toInts) := rfl
theorem ap3_133 (a b c : U G) : ap3 133 a b c = .int (if a.toBool then b.toInt else c.toInt) := rfl
theorem ap3_134 (a b c : U G) : ap3 134 a b c = .bool (if a.toBool then b.toBool else c.toBool) := rfl
theorem ap3_140 (a b c : U G) : ap3 140 a b c = .int (mget a.toInt b.toMap c.toInt) := rfl
theorem ap3_142 (a b c : U G) : ap3 142 a b c = .amap (mset a.toMap b.toInt c.toInt) := rfl

def imin (x y : Int) : Int := if y < x then y else x
def imax (x y : Int) : Int := if y > x then y else x
theorem ap2_51i {G : Type} (a b : U G) : ap2 51 a b = .int (imin a.toInt b.toInt) := rfl
theorem ap2_52i {G : Type} (a b : U G) : ap2 52 a b = .int (imax a.toInt b.toInt) := rfl
theorem imin_left {x y : Int} (h : x ≤ y) : imin x y = x := by unfold imin; rw [if_neg (by omega)]
theorem imin_right {x y : Int} (h : y ≤ x) : imin x y = y := by unfold imin; split <;> omega
def leB (x y : Int) : Bool := decide (x ≤ y)
def ltB (x y : Int) : Bool := decide (x < y)
theorem t47 {G : Type} (a b : U G) : (ap2 47 a b).toBool = leB a.toInt b.toInt := rfl
theorem t46 {G : Type} (a b : U G) : (ap2 46 a b).toBool = ltB a.toInt b.toInt := rfl
theorem leB_iff {x y : Int} : leB x y = true ↔ x ≤ y := by unfold leB; simp
theorem ltB_iff {x y : Int} : ltB x y = true ↔ x < y := by unfold ltB; simp
theorem dec_true {p : Prop} {i : Decidable p} : (@decide p i = true) = p := propext ⟨fun h => of_decide_eq_true h, fun h => decide_eq_true h⟩
theorem p45 {G : Type} (a b : U G) : (ap2 45 a b).toProp = (a.toInt = b.toInt) := by simp [ap2_45]
theorem p153 {G : Type} (a b : U G) : (ap2 153 a b).toProp = (a.toInts = b.toInts) := by simp [ap2_153]
theorem p46 {G : Type} (a b : U G) : (ap2 46 a b).toProp = (a.toInt < b.toInt) := dec_true
theorem p47 {G : Type} (a b : U G) : (ap2 47 a b).toProp = (a.toInt ≤ b.toInt) := dec_true
theorem p2_45 {G : Type} (a b : U G) : (ap1 2 (ap2 45 a b)).toProp = ¬ (a.toInt = b.toInt) := by simp [ap1_2, ap2_45]
theorem p2_46 {G : Type} (a b : U G) : (ap1 2 (ap2 46 a b)).toProp = ¬ (a.toInt < b.toInt) := by
  rw [ap1_2, ap2_46]; simp only [U.toProp_bool, U.toBool_bool]; by_cases h : a.toInt < b.toInt <;> simp [h]
theorem p2_47 {G : Type} (a b : U G) : (ap1 2 (ap2 47 a b)).toProp = ¬ (a.toInt ≤ b.toInt) := by
  rw [ap1_2, ap2_47]; simp only [U.toProp_bool, U.toBool_bool]; by_cases h : a.toInt ≤ b.toInt <;> simp [h]
theorem p49 {G : Type} (a b : U G) : (ap2 49 a b).toProp = (a.toBool = true ∧ b.toBool = true) := by simp [ap2_49]
theorem p50 {G : Type} (a b : U G) : (ap2 50 a b).toProp = (a.toBool = true ∨ b.toBool = true) := by simp [ap2_50]
theorem b45 {G : Type} (a b : U G) : ((ap2 45 a b).toBool = true) = (a.toInt = b.toInt) := p45 a b
theorem b46 {G : Type} (a b : U G) : ((ap2 46 a b).toBool = true) = (a.toInt < b.toInt) := p46 a b
theorem b47 {G : Type} (a b : U G) : ((ap2 47 a b).toBool = true) = (a.toInt ≤ b.toInt) := p47 a b
theorem p20 {G : Type} (a : U G) : (ap1 20 a).toProp = (IntKind.min .i8 ≤ a.toInt ∧ a.toInt ≤ IntKind.max .i8) := by
  rw [ap1_20, U.toProp_bool, Bool.and_eq_true, dec_true, dec_true]
theorem p21 {G : Type} (a : U G) : (ap1 21 a).toProp = (IntKind.min .i16 ≤ a.toInt ∧ a.toInt ≤ IntKind.max .i16) := by
  rw [ap1_21, U.toProp_bool, Bool.and_eq_true, dec_true, dec_true]
theorem p22 {G : Type} (a : U G) : (ap1 22 a).toProp = (IntKind.min .i32 ≤ a.toInt ∧ a.toInt ≤ IntKind.max .i32) := by
  rw [ap1_22, U.toProp_bool, Bool.and_eq_true, dec_true, dec_true]
theorem p23 {G : Type} (a : U G) : (ap1 23 a).toProp = (IntKind.min .i64 ≤ a.toInt ∧ a.toInt ≤ IntKind.max .i64) := by
  rw [ap1_23, U.toProp_bool, Bool.and_eq_true, dec_true, dec_true]
theorem p24 {G : Type} (a : U G) : (ap1 24 a).toProp = (IntKind.min .u8 ≤ a.toInt ∧ a.toInt ≤ IntKind.max .u8) := by
  rw [ap1_24, U.toProp_bool, Bool.and_eq_true, dec_true, dec_true]
theorem p25 {G : Type} (a : U G) : (ap1 25 a).toProp = (IntKind.min .u16 ≤ a.toInt ∧ a.toInt ≤ IntKind.max .u16) := by
  rw [ap1_25, U.toProp_bool, Bool.and_eq_true, dec_true, dec_true]
theorem p26 {G : Type} (a : U G) : (ap1 26 a).toProp = (IntKind.min .u32 ≤ a.toInt ∧ a.toInt ≤ IntKind.max .u32) := by
  rw [ap1_26, U.toProp_bool, Bool.and_eq_true, dec_true, dec_true]
theorem p27 {G : Type} (a : U G) : (ap1 27 a).toProp = (IntKind.min .u64 ≤ a.toInt ∧ a.toInt ≤ IntKind.max .u64) := by
  rw [ap1_27, U.toProp_bool, Bool.and_eq_true, dec_true, dec_true]
theorem upd_self (ρ : Env G) (n : Nat) (u : U G) : ρ.upd n u n = u := by simp [Env.upd]
theorem upd_ne (ρ : Env G) {n m : Nat} (u : U G) (h : m ≠ n) : ρ.upd n u m = ρ m := by simp [Env.upd, h]
end

/-! ### Bits of words without sign, and the check sum -/
theorem ofInt_nat (n m : Nat) : BitVec.ofInt n (m : Int) = BitVec.ofNat n m := by
  rw [BitVec.ofInt_natCast]
theorem bitsV_u32_xor (a b : Nat) (ha : a < 4294967296) (hb : b < 4294967296) : bitsV .xor .u32 a b = ((a ^^^ b : Nat) : Int) := by
  have e0 : bitsV .xor .u32 a b = IntKind.u32.wrap ((BitVec.ofInt 32 (a : Int) ^^^ BitVec.ofInt 32 (b : Int)).toNat : Nat) := rfl
  rw [e0, ofInt_nat, ofInt_nat]
  have h1 : (BitVec.ofNat 32 a ^^^ BitVec.ofNat 32 b).toNat = a ^^^ b := by
    rw [BitVec.toNat_xor, BitVec.toNat_ofNat, BitVec.toNat_ofNat, Nat.mod_eq_of_lt ha, Nat.mod_eq_of_lt hb]
  rw [h1]
  have h2 : a ^^^ b < 2 ^ 32 := Nat.xor_lt_two_pow ha hb
  unfold IntKind.wrap
  simp only [IntKind.signed, IntKind.bits]
  simp
  omega
theorem bitsV_u32_and15 (a : Nat) (ha : a < 4294967296) : bitsV .and .u32 a 15 = ((a &&& 15 : Nat) : Int) := by
  have e0 : bitsV .and .u32 a 15 = IntKind.u32.wrap ((BitVec.ofInt 32 (a : Int) &&& BitVec.ofInt 32 ((15 : Nat) : Int)).toNat : Nat) := rfl
  rw [e0, ofInt_nat, ofInt_nat]
  have h1 : (BitVec.ofNat 32 a &&& BitVec.ofNat 32 15).toNat = a &&& 15 := by
    rw [BitVec.toNat_and, BitVec.toNat_ofNat, BitVec.toNat_ofNat, Nat.mod_eq_of_lt ha, Nat.mod_eq_of_lt (by omega)]
  rw [h1]
  have h2 : a &&& 15 ≤ 15 := Nat.and_le_right
  unfold IntKind.wrap
  simp only [IntKind.signed, IntKind.bits]
  simp
  omega
theorem crcTab_lt (n : Nat) : crcTab.getD n 0 < 4294967296 := by
  match n with
  | 0 | 1 | 2 | 3 | 4 | 5 | 6 | 7 | 8 | 9 | 10 | 11 | 12 | 13 | 14 | 15 => decide
  | n + 16 => simp [crcTab]
theorem crcHalf_lt {r : Nat} (h : r < 4294967296) : crcHalf r < 4294967296 := Nat.xor_lt_two_pow (n := 32) (crcTab_lt _) (by omega)
theorem crcByte_lt {r x : Nat} (h : r < 4294967296) (hx : x < 256) : crcByte r x < 4294967296 :=
  crcHalf_lt (crcHalf_lt (Nat.xor_lt_two_pow (n := 32) h (by omega)))
theorem crcRun_lt : ∀ (l : List UInt8) {r : Nat}, r < 4294967296 → crcRun r l < 4294967296
  | [], _, h => h
  | x :: l, _, h => crcRun_lt l (crcByte_lt h (by have := x.toNat_lt; omega))
theorem crcRun_append : ∀ (l m : List UInt8) (r : Nat), crcRun r (l ++ m) = crcRun (crcRun r l) m
  | [], _, _ => rfl
  | x :: l, m, r => by simp only [List.cons_append, crcRun]; exact crcRun_append l m _
theorem crcRun_take (l : List UInt8) (i : Nat) (h : i < l.length) (r : Nat) : crcRun r (l.take (i + 1)) = crcByte (crcRun r (l.take i)) (l.getD i 0).toNat := by
  rw [List.take_add_one, crcRun_append, List.getD_eq_getElem?_getD, List.getElem?_eq_getElem h]
  rfl
def tabI : List Int := [0, 274646895, 549293790, 820201905, 1098587580, 1361435347, 1640403810, 1905808397, 2197175160, 2460548119, 2722870694, 2987750089, 3280807620, 3553878443, 3811616794, 4084100981]
theorem tabI_get (n : Nat) : tabI.getD n 0 = ((crcTab.getD n 0 : Nat) : Int) := by
  match n with
  | 0 | 1 | 2 | 3 | 4 | 5 | 6 | 7 | 8 | 9 | 10 | 11 | 12 | 13 | 14 | 15 => rfl
  | n + 16 => simp [tabI, crcTab]
/-- The half step as the code takes it. -/
theorem half_step (r : Nat) (h : r < 4294967296) : bitsV .xor .u32 (tabI.getD (bitsV .and .u32 r 15).toNat 0) ((r : Int).fdiv (2 ^ (min (Int.toNat 4) (IntKind.bits .u32)))) = (crcHalf r : Nat) := by
  rw [bitsV_u32_and15 r h, tabI_get]
  have e : ((r : Int).fdiv (2 ^ (min (Int.toNat 4) (IntKind.bits .u32)))) = ((r / 16 : Nat) : Int) := by
    have : (2 : Int) ^ (min (Int.toNat 4) (IntKind.bits .u32)) = 16 := by decide
    rw [this, Int.fdiv_eq_ediv_of_nonneg _ (by omega)]
    omega
  rw [e, bitsV_u32_xor _ _ (crcTab_lt _) (by omega)]
  rfl
end
end Go.Eng

/- ink.Sum of one part is the check sum of its bytes, which are looked at alone. -/
set_option linter.unusedSimpArgs false
set_option linter.unusedVariables false
namespace Go.Proofs.YtenddihggaehfaaGreat
open Go.Eng
def ai (n : Nat) : SX := .at .int n
def di (n : Nat) : SX := .at .int (1000000 + n)
def sumParts : Ch := .ro (.rows [.slice 1]) (ai 0) (.int 0) (.f2 124 (.f2 122 (ai 1) (.f2 122 (ai 2) (.f2 122 (ai 5) (.f1 152 (.int 0))))) (.f1 154 (.int 0)))
def sumBs : Ch := .ro .bytes (ai 1) (.int 0) (.at .bytes 3)
def sumCtr : Ctr := ⟨[.int, .int, .int, .bytes, .int, .int], [.one (.slice (ai 0) (.int 0) (.int 0) (.int 0) (.int 1) (.int 1) 1)], [sumParts, sumBs], [eLe (.int 0) (ai 2), eLe (ai 2) (.f1 31 (.at .bytes 3)), eLe (ai 2) (ai 5), eLe (ai 2) (.int 140737488355328)], [],
  .one (.int .u32 (.f2 82 (.int 4294967295) (.f1 160 (.f2 114 (.at .bytes 3) (ai 2))))), [sumParts, sumBs], []⟩
def sumInv : Inv := ⟨[.int, .int], [(3, .one (.int .u32 (di 0))), (16, .one (.int .i64 (di 1)))], [], [eLe (.int 0) (di 1), eLe (di 1) (ai 2), eEq (di 0) (.f1 160 (.f2 114 (.at .bytes 3) (di 1)))], .f2 41 (ai 2) (di 1)⟩
def sumCx : Cx := { specs := [], anns := [(193, [(6, .inv sumInv)])] }
def sumVc : VC := .imp (.f2 47 (.int 0) (.at .int 2)) (.imp (.f2 47 (.at .int 2) (.f1 31 (.at .bytes 3))) (.imp (.f2 47 (.at .int 2) (.at .int 5)) (.imp (.f2 47 (.at 
    .int 2) (.int 140737488355328)) (.need (.f2 45 (.int 4294967295) (.f1 160 (.f2 114 (.at .bytes 3) (.int 0)))) (.all 6 .int (.all 7 .int (.imp (.f2 47 
    (.int 0) (.at .int 7)) (.imp (.f2 47 (.at .int 7) (.at .int 2)) (.imp (.f2 45 (.at .int 6) (.f1 160 (.f2 114 (.at .bytes 3) (.at .int 7)))) (.and 
    (.imp (.f2 46 (.at .int 7) (.at .int 2)) (.need (.f2 46 (.at .int 7) (.f1 31 (.at .bytes 3))) (.all 8 .int (.imp (.f2 47 (.int 0) (.at .int 8)) (.need 
    (.f2 47 (.int 0) (.f2 66 (.f2 82 (.at .int 6) (.f2 111 (.at .bytes 3) (.at .int 7))) (.int 15))) (.need (.f2 46 (.f2 66 (.f2 82 (.at .int 6) (.f2 111 
    (.at .bytes 3) (.at .int 7))) (.int 15)) (.int 16)) (.all 9 .int (.imp (.f2 47 (.int 0) (.at .int 9)) (.need (.f2 47 (.int 0) (.f2 66 (.f2 82 (.f2 110 
    (.f2 122 (.int 0) (.f2 122 (.int 274646895) (.f2 122 (.int 549293790) (.f2 122 (.int 820201905) (.f2 122 (.int 1098587580) (.f2 122 (.int 1361435347) 
    (.f2 122 (.int 1640403810) (.f2 122 (.int 1905808397) (.f2 122 (.int 2197175160) (.f2 122 (.int 2460548119) (.f2 122 (.int 2722870694) (.f2 122 (.int 
    2987750089) (.f2 122 (.int 3280807620) (.f2 122 (.int 3553878443) (.f2 122 (.int 3811616794) (.f2 122 (.int 4084100981) (.f1 152 (.int 
    0)))))))))))))))))) (.f2 66 (.f2 82 (.at .int 6) (.f2 111 (.at .bytes 3) (.at .int 7))) (.int 15))) (.f2 106 (.f2 82 (.at .int 6) (.f2 111 (.at .bytes 
    3) (.at .int 7))) (.int 4))) (.int 15))) (.need (.f2 46 (.f2 66 (.f2 82 (.f2 110 (.f2 122 (.int 0) (.f2 122 (.int 274646895) (.f2 122 (.int 549293790) 
    (.f2 122 (.int 820201905) (.f2 122 (.int 1098587580) (.f2 122 (.int 1361435347) (.f2 122 (.int 1640403810) (.f2 122 (.int 1905808397) (.f2 122 (.int 
    2197175160) (.f2 122 (.int 2460548119) (.f2 122 (.int 2722870694) (.f2 122 (.int 2987750089) (.f2 122 (.int 3280807620) (.f2 122 (.int 3553878443) 
    (.f2 122 (.int 3811616794) (.f2 122 (.int 4084100981) (.f1 152 (.int 0)))))))))))))))))) (.f2 66 (.f2 82 (.at .int 6) (.f2 111 (.at .bytes 3) (.at 
    .int 7))) (.int 15))) (.f2 106 (.f2 82 (.at .int 6) (.f2 111 (.at .bytes 3) (.at .int 7))) (.int 4))) (.int 15)) (.int 16)) (.need (.f1 23 (.f2 40 
    (.at .int 7) (.int 1))) (.need (.f2 47 (.int 0) (.f2 41 (.at .int 2) (.f2 40 (.at .int 7) (.int 1)))) (.need (.f2 46 (.f2 41 (.at .int 2) (.f2 40 (.at 
    .int 7) (.int 1))) (.f2 41 (.at .int 2) (.at .int 7))) (.need (.f2 47 (.int 0) (.f2 40 (.at .int 7) (.int 1))) (.need (.f2 47 (.f2 40 (.at .int 7) 
    (.int 1)) (.at .int 2)) (.need (.f2 45 (.f2 82 (.f2 110 (.f2 122 (.int 0) (.f2 122 (.int 274646895) (.f2 122 (.int 549293790) (.f2 122 (.int 
    820201905) (.f2 122 (.int 1098587580) (.f2 122 (.int 1361435347) (.f2 122 (.int 1640403810) (.f2 122 (.int 1905808397) (.f2 122 (.int 2197175160) (.f2 
    122 (.int 2460548119) (.f2 122 (.int 2722870694) (.f2 122 (.int 2987750089) (.f2 122 (.int 3280807620) (.f2 122 (.int 3553878443) (.f2 122 (.int 
    3811616794) (.f2 122 (.int 4084100981) (.f1 152 (.int 0)))))))))))))))))) (.f2 66 (.f2 82 (.f2 110 (.f2 122 (.int 0) (.f2 122 (.int 274646895) (.f2 
    122 (.int 549293790) (.f2 122 (.int 820201905) (.f2 122 (.int 1098587580) (.f2 122 (.int 1361435347) (.f2 122 (.int 1640403810) (.f2 122 (.int 
    1905808397) (.f2 122 (.int 2197175160) (.f2 122 (.int 2460548119) (.f2 122 (.int 2722870694) (.f2 122 (.int 2987750089) (.f2 122 (.int 3280807620) 
    (.f2 122 (.int 3553878443) (.f2 122 (.int 3811616794) (.f2 122 (.int 4084100981) (.f1 152 (.int 0)))))))))))))))))) (.f2 66 (.f2 82 (.at .int 6) (.f2 
    111 (.at .bytes 3) (.at .int 7))) (.int 15))) (.f2 106 (.f2 82 (.at .int 6) (.f2 111 (.at .bytes 3) (.at .int 7))) (.int 4))) (.int 15))) (.f2 106 
    (.f2 82 (.f2 110 (.f2 122 (.int 0) (.f2 122 (.int 274646895) (.f2 122 (.int 549293790) (.f2 122 (.int 820201905) (.f2 122 (.int 1098587580) (.f2 122 
    (.int 1361435347) (.f2 122 (.int 1640403810) (.f2 122 (.int 1905808397) (.f2 122 (.int 2197175160) (.f2 122 (.int 2460548119) (.f2 122 (.int 
    2722870694) (.f2 122 (.int 2987750089) (.f2 122 (.int 3280807620) (.f2 122 (.int 3553878443) (.f2 122 (.int 3811616794) (.f2 122 (.int 4084100981) 
    (.f1 152 (.int 0)))))))))))))))))) (.f2 66 (.f2 82 (.at .int 6) (.f2 111 (.at .bytes 3) (.at .int 7))) (.int 15))) (.f2 106 (.f2 82 (.at .int 6) (.f2 
    111 (.at .bytes 3) (.at .int 7))) (.int 4))) (.int 4))) (.f1 160 (.f2 114 (.at .bytes 3) (.f2 40 (.at .int 7) (.int 1))))) (.tt))))))))))))))))) (.imp 
    (.f2 47 (.at .int 2) (.at .int 7)) (.need (.f2 45 (.f2 82 (.int 4294967295) (.f1 160 (.f2 114 (.at .bytes 3) (.at .int 2)))) (.f2 82 (.int 4294967295) 
    (.at .int 6))) (.tt)))))))))))))
theorem sum_vc : vcOf Tryz.prog sumCx 10 193 sumCtr = sumVc := by kernel_rfl
theorem bits_loop (r x : Nat) (h : r < 4294967296) (hx : x < 256) :
    bitsV .xor .u32 (tabI.getD (bitsV .and .u32 (bitsV .xor .u32 (tabI.getD (bitsV .and .u32 (bitsV .xor .u32 r x) 15).toNat 0) ((bitsV .xor .u32 r x).fdiv (2 ^ (min (Int.toNat 4) (IntKind.bits .u32))))) 15).toNat 0)
      ((bitsV .xor .u32 (tabI.getD (bitsV .and .u32 (bitsV .xor .u32 r x) 15).toNat 0) ((bitsV .xor .u32 r x).fdiv (2 ^ (min (Int.toNat 4) (IntKind.bits .u32))))).fdiv (2 ^ (min (Int.toNat 4) (IntKind.bits .u32)))) = (crcByte r x : Nat) := by
  have h1 : r ^^^ x < 4294967296 := Nat.xor_lt_two_pow (n := 32) h (by omega)
  rw [bitsV_u32_xor r x h (by omega), half_step _ h1, half_step _ (crcHalf_lt h1)]
  rfl
theorem and15_range (a : Int) : 0 ≤ bitsV .and .u32 a 15 ∧ bitsV .and .u32 a 15 < 16 := by
  have e0 : bitsV .and .u32 a 15 = IntKind.u32.wrap ((BitVec.ofInt 32 a &&& BitVec.ofInt 32 ((15 : Nat) : Int)).toNat : Nat) := rfl
  rw [e0, ofInt_nat, BitVec.toNat_and]
  have h2 : (BitVec.ofInt 32 a).toNat &&& (BitVec.ofNat 32 15).toNat ≤ 15 := by
    have := Nat.and_le_right (n := (BitVec.ofInt 32 a).toNat) (m := (BitVec.ofNat 32 15).toNat)
    have e : (BitVec.ofNat 32 15).toNat = 15 := by decide
    omega
  generalize (BitVec.ofInt 32 a).toNat &&& (BitVec.ofNat 32 15).toNat = q at *
  unfold IntKind.wrap
  simp only [IntKind.signed, IntKind.bits]
  simp
  omega
theorem sum_ok {G : Type} (S : Sig G) : CtrOk S Tryz.prog 193 sumCtr := by
  refine vcOf_sound S (C := sumCx) (fuel := 10) ⟨fun f sps h => by simp [sumCx, assoc] at h, fun f l h i sp args hm => ?_, fun f sps h => by simp [sumCx, assoc] at h⟩ fun ρ => ?_
  · simp only [sumCx, assoc] at h
    cases hb : Nat.beq 193 f
    · rw [hb] at h; cases h
    · rw [hb] at h; cases h
      simp at hm
  · rw [sum_vc]
    simp only [sumVc, VC.den, SX.den, U.co, Env.upd, ap1_160, p23, p45, p46, p47, ap1_31, ap2_40, ap2_41, ap2_66, ap2_82, ap2_106, ap2_110, ap2_111, ap2_114, ap2_122, ap1_152, U.toInt_int, U.toBytes_bytes, U.toInts_ints, 
      if_true, if_false, Nat.reduceEqDiff, reduceIte]
    have key : ∀ (i : Int) (r : Int), 0 ≤ i → i ≤ (ρ 2).toInt → r = ↑(crcRun 4294967295 (List.take i.toNat (ρ 3).toBytes)) → ∃ q : Nat, r = q ∧ q < 4294967296 := fun i r _ _ h => ⟨_, h, crcRun_lt _ (by decide)⟩
    intro a1 a2 a3 a4
    refine ⟨by simp [crcRun], fun r i h1 h2 h3 => ⟨fun h4 => ?_, fun h4 => ?_⟩⟩
    · have hlt : i.toNat < (ρ 3).toBytes.length := by omega
      have hx := ((ρ 3).toBytes.getD i.toNat 0).toNat_lt
      have hstep : bitsV .xor .u32 (tabI.getD (bitsV .and .u32 (bitsV .xor .u32 (tabI.getD (bitsV .and .u32 (bitsV .xor .u32 r ((ρ 3).toBytes.getD i.toNat 0).toNat) 15).toNat 0) ((bitsV .xor .u32 r ((ρ 3).toBytes.getD i.toNat 0).toNat).fdiv (2 ^ (min (Int.toNat 4) (IntKind.bits .u32))))) 15).toNat 0)
          ((bitsV .xor .u32 (tabI.getD (bitsV .and .u32 (bitsV .xor .u32 r ((ρ 3).toBytes.getD i.toNat 0).toNat) 15).toNat 0) ((bitsV .xor .u32 r ((ρ 3).toBytes.getD i.toNat 0).toNat).fdiv (2 ^ (min (Int.toNat 4) (IntKind.bits .u32))))).fdiv (2 ^ (min (Int.toNat 4) (IntKind.bits .u32)))) =
            ↑(crcRun 4294967295 (List.take (i + 1).toNat (ρ 3).toBytes)) := by
        have e : (i + 1).toNat = i.toNat + 1 := by omega
        rw [e, crcRun_take _ _ hlt, h3]
        exact bits_loop _ _ (crcRun_lt _ (by decide)) (by omega)
      refine ⟨by omega, fun _ _ => ⟨(and15_range _).1, (and15_range _).2, fun _ _ => ⟨(and15_range _).1, (and15_range _).2, ⟨?_, ?_⟩, by omega, by omega, by omega, by omega, hstep, trivial⟩⟩⟩
      · show (-(2 ^ 63) : Int) ≤ _; omega
      · show _ ≤ (2 ^ 63 - 1 : Int); omega
    · have : i = (ρ 2).toInt := by omega
      refine ⟨?_, trivial⟩
      rw [h3, this]
end Go.Proofs.YtenddihggaehfaaGreat

/- A contract for ink.Sum in a run with written-out values. -/
set_option linter.unusedVariables false
set_option linter.unusedSimpArgs false
namespace Go.Proofs.YtenddihggaehfaaGreat
open Go.Cx
open Go.RowKit (Below)
def cHalf (r : Nat) : Nat := Nat.xor (Nat.mod (Nat.shiftRight 12749536319551302420830055290731983042906869231766370170184255228463894984119587222357463453493748006886229547019502462691509165827871124329361635492757504 (Nat.mul 32 (Nat.land r 15))) 4294967296) (Nat.div r 16)
def cByte (r x : Nat) : Nat := cHalf (cHalf (Nat.xor r x))
noncomputable def crcN (l : Nat) : Nat → Nat → Nat :=
  @Nat.rec (fun _ => Nat → Nat → Nat) (fun r _ => r) (fun _ ih r x => @Bool.rec (fun _ => Nat) (ih (cByte r (Nat.mod x 256)) (Nat.div x 256)) (ih (cByte r (Nat.mod x 256)) (Nat.div x 256)) (Nat.ble (cByte r (Nat.mod x 256)) 0)) l
noncomputable def sumC : Cn := fun args hp n => match args with
  | [.slice b o s l k ex] => bif (bif Nat.beq o 0 then (bif Nat.beq s 1 then (bif Nat.beq l 1 then (bif Nat.beq k 1 then ex else false) else false) else false) else false) then
      (match hget hp b with
      | .cells (.slice c o' s' l' k' ex' :: _) => bif (bif Nat.beq o' 0 then (bif Nat.beq s' 1 then (bif Nat.ble l' 140737488355328 then (bif Nat.ble 1 k' then true else ex') else false) else false) else false) then
          (match hget hp c with
          | .bytes m x => bif Nat.ble l' m then some [⟨.int 6 (.ofNat (Nat.xor 4294967295 (crcN l' 4294967295 x))), hp, n⟩] else none
          | _ => none) else none
      | _ => none) else none
  | _ => none
theorem cHalf_eq (r : Nat) : cHalf r = Go.Eng.crcHalf r := by
  unfold cHalf Go.Eng.crcHalf
  have key : ∀ i, i < 16 → Nat.mod (Nat.shiftRight 12749536319551302420830055290731983042906869231766370170184255228463894984119587222357463453493748006886229547019502462691509165827871124329361635492757504 (Nat.mul 32 i)) 4294967296 = Go.Eng.crcTab.getD i 0 := by decide
  rw [key _ (by have := Nat.and_le_right (n := r) (m := 15); exact Nat.lt_succ_of_le this)]
  rfl
theorem crcN_eq : ∀ (l r x : Nat), crcN l r x = Go.Eng.crcRun r (bys l x)
  | 0, r, x => rfl
  | l + 1, r, x => by
    have h0 : crcN (l + 1) r x = crcN l (cByte r (Nat.mod x 256)) (Nat.div x 256) := by
      show (@Bool.rec (fun _ => Nat) (crcN l (cByte r (Nat.mod x 256)) (Nat.div x 256)) (crcN l (cByte r (Nat.mod x 256)) (Nat.div x 256)) (Nat.ble (cByte r (Nat.mod x 256)) 0)) = _
      cases Nat.ble (cByte r (Nat.mod x 256)) 0 <;> rfl
    rw [h0, crcN_eq l]
    show _ = Go.Eng.crcRun (Go.Eng.crcByte r (UInt8.ofNat (x % 256)).toNat) (bys l (x / 256))
    rw [u8_nat _ (Nat.mod_lt _ (by decide))]
    unfold cByte Go.Eng.crcByte
    rw [cHalf_eq, cHalf_eq]
    rfl
def sumSig : Go.Eng.Sig Unit := { dg := (), ch := fun _ => true, usr := fun _ _ _ _ _ => .int 0, prd := fun _ _ _ _ => Go.Eng.emp }
theorem Rel.belowed {w0 : World} {σ : Sg} {hp : H} {n : Nat} {w w' : World} (h : Rel w0 σ hp n w) (hb : Below w.heap.size w w') : Rel w0 σ hp n w' :=
  h.world hb.size (fun k hk => hb.block k hk) hb.os hb.tape hb.output
theorem sum_call (w0 : World) {fn : Func} {c : Code} (hf : Tryz.prog.funcs[193]? = some fn) (hb : fn.body = some c) (hn : (!(fn.name == "runtime.NumGoroutine")) = true) : CallOk Tryz.prog w0 193 sumC := by
  intro args hp n σ w xs l hR hx h
  refine .inr ⟨run_callFunc_enter hf hb hn, ?_⟩
  unfold sumC at h
  split at h
  · rename_i b o s l1 k ex
    obtain ⟨h1, hA⟩ := cbif h
    clear h
    obtain ⟨a1, h1⟩ := bif_t h1
    obtain ⟨a2, h1⟩ := bif_t h1
    obtain ⟨a3, h1⟩ := bif_t h1
    obtain ⟨a4, a5⟩ := bif_t h1
    have a1 := nbq a1; have a2 := nbq a2; have a3 := nbq a3; have a4 := nbq a4
    subst a1; subst a2; subst a3; subst a4; subst a5
    split at hA
    · rename_i c o' s' l' k' ex' rest hc
      obtain ⟨h2, hB⟩ := cbif hA
      clear hA
      obtain ⟨b1, h2⟩ := bif_t h2
      obtain ⟨b2, h2⟩ := bif_t h2
      obtain ⟨b3, b4⟩ := bif_t h2
      have b1 := nbq b1; have b2 := nbq b2; have b3 := Nat.le_of_ble_eq_true b3
      subst b1; subst b2
      split at hB
      · rename_i m x hm
        obtain ⟨b5, hC⟩ := cbif hB
        have b5 := Nat.le_of_ble_eq_true b5
        cases hC
        simp only [VRs, VR] at hx
        obtain ⟨v, ws, rfl, ⟨p, t, o1, c1, hs, rfl, _, _, hex, ho, _, _⟩, rfl⟩ := hx
        have hc1 : c1 = 1 := hex trivial
        have ho1 : o1 = 0 := ho (.inr trivial)
        subst hc1; subst ho1
        obtain ⟨vs, hvs, hrow⟩ := hR.at hs hc (by simp)
        simp only [VRs, VR] at hvs
        obtain ⟨v2, vs2, rfl, ⟨p2, t2, o2, c2, hs2, rfl, hlk, hkc, hex2, ho2, _, _⟩, _⟩ := hvs
        have ho2 : o2 = 0 := ho2 (by
          cases hq : Nat.ble 1 k'
          · rw [hq] at b4; exact .inr b4
          · exact .inl (Nat.le_of_ble_eq_true hq))
        subst ho2
        have hbytes : Row w p2 t2 ((bys m x).map bval) true := hR.at hs2 hm (by simp)
        have hp1 := (hR.old _ _ _ hs).2.2
        have hp2 := (hR.old _ _ _ hs2).2.2
        let ρ : Go.Eng.Env Unit := fun i => match i with | 0 => .int p | 1 => .int p2 | 2 => .int l' | 3 => .bytes (bys l' x) | 5 => .int c2 | _ => .int 0
        have hcell : ∀ i b, (bys l' x)[i]? = some b → w.cell? ⟨p2, 0 + i, none⟩ = some (bval b) := fun i b hb => by
          refine (hbytes.cell (i := 0 + i) ?_).1
          rw [← bys_take m x l' b5, List.getElem?_take] at hb
          split at hb
          · rw [Nat.zero_add]; simp [hb]
          · cases hb
        have call := sum_ok sumSig (fun _ => true) w Go.Eng.emp ρ w [.slice (some ⟨p, 0, none⟩) 1 1] ?_ ?_ ?_
        · refine (callsIn_wide (n := 0)).2 (Calls.mono call ?_)
          rintro e w' ⟨ρ', v, hext, rfl, hv, hsat, _⟩
          refine ⟨v, rfl, _, σ, List.mem_singleton.2 rfl, ?_, Rel.belowed hR ?_, Ex.refl _ _, Nle.refl _⟩
          · have := Go.Eng.R_one sumSig ρ' hv
            subst this
            have e2 : ρ' 2 = .int l' := hext 2 (by decide)
            have e3 : ρ' 3 = .bytes (bys l' x) := hext 3 (by decide)
            simp only [VR, Go.Eng.SC.den, Go.Eng.SX.den, Go.Eng.U.co, Go.Eng.ap2_82, Go.Eng.ap1_160, Go.Eng.ap2_114, e2, e3, ai, crcN_eq, Go.Eng.U.toInt_int, Go.Eng.U.toBytes_bytes]
            have e4 : (Go.Eng.bitsV .xor .u32 4294967295 ((Go.Eng.crcRun 4294967295 (List.take (Int.toNat (l' : Int)) (bys l' x)) : Nat) : Int)) = ((4294967295 ^^^ Go.Eng.crcRun 4294967295 (bys l' x) : Nat) : Int) := by
              rw [Int.toNat_natCast, List.take_of_length_le (by rw [bys_len]; omega)]
              exact Go.Eng.bitsV_u32_xor 4294967295 _ (by decide) (Go.Eng.crcRun_lt _ (by decide))
            rw [e4]
            rfl
          · obtain ⟨y, _, hi⟩ := hsat
            exact hi.below
        · refine ⟨.inr ?_, trivial⟩
          simp [Go.Eng.SV.den, Go.Eng.SC.den, Go.Eng.SX.den, ρ, ai, Go.Eng.U.co]
        · intro e he
          have r1 : Go.Eng.eLe (.int 0) (ai 2) = .f2 47 (.int 0) (.at .int 2) := by kernel_rfl
          have r2 : Go.Eng.eLe (ai 2) (.f1 31 (.at .bytes 3)) = .f2 47 (.at .int 2) (.f1 31 (.at .bytes 3)) := by kernel_rfl
          have r3 : Go.Eng.eLe (ai 2) (ai 5) = .f2 47 (.at .int 2) (.at .int 5) := by kernel_rfl
          have r4 : Go.Eng.eLe (ai 2) (.int 140737488355328) = .f2 47 (.at .int 2) (.int 140737488355328) := by kernel_rfl
          simp only [sumCtr, r1, r2, r3, r4, List.mem_cons, List.not_mem_nil, or_false] at he
          rcases he with rfl | rfl | rfl | rfl
          · show (Go.Eng.ap2 47 (.int 0) (.int (l' : Int))).toProp
            rw [Go.Eng.p47]; show (0 : Int) ≤ (l' : Int); omega
          · show (Go.Eng.ap2 47 (.int (l' : Int)) (Go.Eng.ap1 31 (.bytes (bys l' x)))).toProp
            rw [Go.Eng.p47, Go.Eng.ap1_31]
            show (l' : Int) ≤ ((bys l' x).length : Int)
            rw [bys_len]; omega
          · show (Go.Eng.ap2 47 (.int (l' : Int)) (.int (c2 : Int))).toProp
            rw [Go.Eng.p47]; show (l' : Int) ≤ (c2 : Int); omega
          · show (Go.Eng.ap2 47 (.int (l' : Int)) (.int 140737488355328)).toProp
            rw [Go.Eng.p47]; show (l' : Int) ≤ 140737488355328; omega
        · refine ⟨Go.Eng.Hl.none, ?_, ⟨fun _ _ _ _ h => (by cases h), fun _ _ _ h => (by cases h), Below.refl _ _⟩⟩
          show Go.Eng.star (Go.Eng.star _ (Go.Eng.star _ Go.Eng.emp)) Go.Eng.emp Go.Eng.Hl.none
          rw [Go.Eng.star_emp, Go.Eng.star_emp]
          refine (Go.Eng.star_pure _ _ _).2 ⟨⟨?_, fun i v hi => ?_⟩, ⟨?_, fun i v hi => ?_⟩, rfl⟩
          · exact .inl (show (0 : Int) ≤ (p : Int) by omega)
          · have hi : ([.slice (if (p2 : Int) < 0 then none else some ⟨((p2 : Int)).toNat, 0, none⟩) ((l' : Int)).toNat ((c2 : Int)).toNat] : List Value)[i]? = some v := hi
            rw [if_neg (by omega)] at hi
            simp only [Int.toNat_natCast] at hi
            cases i with
            | zero =>
              simp at hi
              refine ⟨by show ((p : Int)).toNat < _; omega, ?_⟩
              rw [← hi]
              exact (hrow.cell (i := 0) rfl).1
            | succ i => simp at hi
          · exact .inl (show (0 : Int) ≤ (p2 : Int) by omega)
          · have hi : ((bys l' x).map (fun b => Value.int .u8 (b.toNat : Nat)))[i]? = some v := hi
            rw [List.getElem?_map] at hi
            cases hb2 : (bys l' x)[i]? with
            | none => rw [hb2] at hi; cases hi
            | some b =>
              rw [hb2] at hi; cases hi
              refine ⟨by show ((p2 : Int)).toNat < _; omega, ?_⟩
              exact hcell i b hb2
      · cases hB
    · cases hA
  · cases h
end Go.Proofs.YtenddihggaehfaaGreat

/- A contract for the deferred tree.catch where nothing was thrown. -/
set_option linter.unusedVariables false
set_option linter.unusedSimpArgs false
namespace Go.Proofs.YtenddihggaehfaaGreat
open Go.Cx
open Go.RowKit (Below)
theorem wpS_value {P : Program} {ops : Array Oper} {Q : Exit → Act → List Frame → World → Prop} {i : Nat} {rest : List Nat} {a : Act} {cs : List Frame} {w w' : World} {o : Oper} {v : Value} (hi : ops[i]? = some o) (hg : o.guard = none)
    (hr : (execOp a.eval o).run P w = .ok (.value v) w') (h : wpOpsSIn (FF none) 0 P ops Q rest (a.put o.dst v) cs w') : wpOpsSIn (FF none) 0 P ops Q (i :: rest) a cs w := by
  simp only [wpOpsSIn, hi]
  refine ⟨fun _ _ => trivial, ?_⟩
  rw [if_pos (by unfold Region.wanted; rw [hg]), hr]
  exact h
theorem wpS_recover {P : Program} {ops : Array Oper} {Q : Exit → Act → List Frame → World → Prop} {i : Nat} {rest : List Nat} {a : Act} {cs : List Frame} {w w' : World} {o : Oper} (hi : ops[i]? = some o) (hg : o.guard = none)
    (hr : (execOp a.eval o).run P w = .ok .recover w') (hc : recoverD cs = none) (h : wpOpsSIn (FF none) 0 P ops Q rest (a.put o.dst .nilIface) cs w') : wpOpsSIn (FF none) 0 P ops Q (i :: rest) a cs w := by
  simp only [wpOpsSIn, hi]
  refine ⟨fun _ _ => trivial, ?_⟩
  rw [if_pos (by unfold Region.wanted; rw [hg]), hr]
  simp only [hc]
  exact h
noncomputable def catchC : Cn := fun args hp n => match args with | [_] => some [⟨.tup [], hp, n⟩] | _ => none
theorem catch_call (w0 : World) : DctrOk Tryz.prog w0 104 catchC := by
  intro args hp n σ w xs l hR hx h
  unfold catchC at h
  split at h
  · rename_i c
    cases h
    simp only [VRs] at hx
    obtain ⟨v, ws, rfl, hv, rfl⟩ := hx
    refine ⟨run_callFunc_enter Tryz.func104 rfl (by kernel_rfl), ?_⟩
    refine callsDIn_of_wpSIn Tryz.func104 rfl trivial fun c₀ cs hu => ?_
    have hrec : recoverD (c₀ :: cs) = none := by simp [recoverD, hu]
    have hc0 : ({ c₀ with mode := .returning } : Frame) = c₀ := by cases c₀; simp only at hu; subst hu; rfl
    refine wpSIn_seq (wpSIn_region (wpS_recover (w' := w) rfl rfl (by kernel_rfl) hrec (wpS_value (w' := w) (v := .nilIface) rfl rfl (by kernel_rfl) ?_)))
    refine wpSIn_seq (wpSIn_region (wpS_value (w' := w) (v := .nilIface) rfl rfl (by kernel_rfl) (wpS_value (w' := w) (v := .bool false) rfl rfl (by kernel_rfl) ?_)))
    refine wpSIn_cond (t := false) (by kernel_rfl) ?_
    refine wpSIn_of_wpIn rfl (wpIn_skip ?_)
    refine ⟨rfl, .returning, by rw [hc0], .tuple #[], by kernel_rfl, rfl, _, rfl, _, σ, List.mem_singleton.2 rfl, ?_, hR, Ex.refl _ _, Nle.refl _⟩
    simp only [VR, VRs]
    exact ⟨[], rfl, rfl⟩
  · cases h
end Go.Proofs.YtenddihggaehfaaGreat

/- A run with written-out values: all parts, and the contracts for ink.Sum and tree.catch. -/
