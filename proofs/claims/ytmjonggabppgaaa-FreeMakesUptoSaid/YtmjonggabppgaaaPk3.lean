/- Code, bodies, contracts: that the symbolic run is the model's. -/
import Derived.Test.YtmjonggabppgaaaPk2
import Derived.Lib.Overlaps
import Derived.Test.YtmjonggabppgaaaProg
import Derived.KernelRfl
import Derived.Shelf.SlLaysF0
import Derived.Shelf.SlLaysC2
import Derived.Ground.SlsfProg
import Derived.Ground.SlgcProg
import Derived.Shelf.GgSortFunc.RowK
import Derived.Shelf.SlSortCmp.Insertion
import Derived.Shelf.GgSortFunc.InsertionK
import Derived.Shelf.SlSortCmp.NoneTotal
import Derived.Shelf.SlicesG.Cmp
set_option linter.unusedSimpArgs false
set_option linter.unusedVariables false
namespace Go.Eng
noncomputable section
open Go.RowKit (Below)

section
variable {G : Type} (S : Sig G) (w0 : World) (F : HProp) {P : Program} {C : Cx}

/-! ### Loops -/
def WpIn (P : Program) (c : Code) (Q : Exit → Act → World → Prop) (a : Act) (w : World) : Prop :=
  ∀ (b : Frame) (k : List Item) (cs : List Frame), ∃ e a' w', Q e a' w' ∧ Arrives P (lone (b.at a (.code c :: .inLoop c :: k)) cs w) b k cs e a' w'
theorem wpIn_loop {c : Code} {Q : Exit → Act → World → Prop} {a : Act} {w : World} (h : WpIn P c Q a w) : (Code.loop c).wp P Q a w := by
  intro b k cs
  obtain ⟨e, a', w', hq, harr⟩ := h b k cs
  exact ⟨e, a', w', hq, .of_steps (.one step_loop) harr⟩
theorem wpIn_step {c : Code} {Q : Exit → Act → World → Prop} {a : Act} {w : World} (h : c.wp P (Exit.then (WpIn P c Q) Q) a w) : WpIn P c Q a w := by
  intro b k cs
  obtain ⟨e, a₁, w₁, hq, harr⟩ := h b (.inLoop c :: k) cs
  cases e with
  | normal =>
    obtain ⟨e₂, a₂, w₂, hq₂, harr₂⟩ := hq b k cs
    exact ⟨e₂, a₂, w₂, hq₂, .of_steps (Steps.trans harr (.one step_inLoop)) harr₂⟩
  | exit id => exact ⟨_, a₁, w₁, hq, .pass (x := .inLoop c) rfl (fun _ _ => .inl (by simp)) harr⟩
  | goto l => exact ⟨_, a₁, w₁, hq, .pass (x := .inLoop c) rfl (fun _ _ => .inl (by simp)) harr⟩
  | ret => exact ⟨_, a₁, w₁, hq, .pass (x := .inLoop c) rfl (fun _ _ => .inl (by simp)) harr⟩
  | panic ch => exact ⟨_, a₁, w₁, hq, .pass (x := .inLoop c) rfl (fun _ _ => .inl (by simp)) harr⟩
  | outgrown => exact ⟨_, a₁, w₁, hq, .pass (x := .inLoop c) rfl (fun _ _ => .inl (by simp)) harr⟩
theorem wpIn_inv {c : Code} {Q : Exit → Act → World → Prop} (I : Nat → Act → World → Prop) (round : ∀ n a w, I n a w → c.wp P (Exit.then (fun a' w' => ∃ m, m < n ∧ I m a' w') Q) a w) :
    ∀ n a w, I n a w → WpIn P c Q a w := by
  intro n
  induction n using Nat.strongRecOn with
  | _ n ih =>
    intro a w hI
    refine wpIn_step (wp_mono (round n a w hI) ?_)
    intro e a' w' h
    cases e with
    | normal => obtain ⟨m, hm, hI'⟩ := h; exact ih m hm a' w' hI'
    | _ => exact h

/-! ### Annotations -/
theorem annsOf_mem {f id : Nat} {a : Ann} (h : a ∈ annsOf C f id) : ∃ l i, assoc C.anns f = some l ∧ (i, a) ∈ l := by
  unfold annsOf at h
  split at h
  · rename_i l hl
    obtain ⟨⟨i, b⟩, hm, hb⟩ := List.mem_filterMap.1 h
    simp only [Bool.cond_eq_ite] at hb
    split at hb
    · cases hb; exact ⟨l, i, hl, hm⟩
    · cases hb
  · cases h

theorem ghosts_sound (K : St → VC) : ∀ (l : List Ann), (∀ sp args, Ann.ghost sp args ∈ l → sp.wf = true ∧ GhOk S sp) → ∀ (st : St) (ρ : Env G) (a : Act) (w : World), Den S ρ w0 F st a w → (ghosts st K l).den S ρ →
    ∃ ρ' st', After S w0 F st ρ ρ' st' a w ∧ (K st').den S ρ'
  | [], _, st, ρ, a, w, hd, h => ⟨ρ, st, ⟨Ext.refl _ _, Nat.le_refl _, hd⟩, h⟩
  | .inv i :: l, hl, st, ρ, a, w, hd, h => ghosts_sound K l (fun sp args hm => hl sp args (List.mem_cons_of_mem _ hm)) st ρ a w hd h
  | .ghost sp args :: l, hl, st, ρ, a, w, hd, h => by
    simp only [ghosts] at h
    split at h
    · rename_i v hv
      obtain ⟨hwf, hg⟩ := hl sp args List.mem_cons_self
      obtain ⟨ch, ρc, F', h1, h2, h3, h4⟩ := callSpec_core S ρ w0 hwf (den_hst S w0 F hd) (argsR_map S (fun x => lk_eval S hd.fr x) args) hv h
      obtain ⟨ρc', he, hs, hf⟩ := hg ch w0 F' ρc w h2 h3
      obtain ⟨ρ', sv, st', hn, _, hk⟩ := h4 ρc' w he hs hf
      have hd' : Den S ρ' w0 F st' a w := ⟨by rw [hn.fr]; exact hn.frR _ hd.fr, hd.df, hn.hs.hp, hn.hs.asm⟩
      obtain ⟨ρ2, st2, haf, hk2⟩ := ghosts_sound K l (fun sp args hm => hl sp args (List.mem_cons_of_mem _ hm)) st' ρ' a w hd' hk
      exact ⟨ρ2, st2, After.step S w0 F hn.ext hn.le haf, hk2⟩
    · exact h.elim

/-! ### Invariants -/
theorem Ch.bq_eq {a b : Ch} (h : Ch.bq a b = true) : a = b := by
  cases a <;> cases b <;> simp only [Ch.bq, Bool.cond_eq_ite] at h <;> first | (cases h; done) | skip
  · split at h
    · rename_i h1; split at h
      · rename_i h2; rw [Nat.eq_of_beq_eq_true h1, SX.bq_eq h2, SCs.bq_eq h]
      · cases h
    · cases h
  · split at h
    · rename_i h1; split at h
      · rename_i h2; split at h
        · rename_i h3; rw [of_decide_eq_true h1, SX.bq_eq h2, SX.bq_eq h3, SX.bq_eq h]
        · cases h
      · cases h
    · cases h
  · split at h
    · rename_i h1; split at h
      · rename_i h2; split at h
        · rename_i h3; rw [of_decide_eq_true h1, SX.bq_eq h2, SX.bq_eq h3, SX.bq_eq h]
        · cases h
      · cases h
    · cases h
  · split at h
    · rename_i h0; split at h
      · rename_i h1; split at h
        · rename_i h2; split at h
          · rename_i h3; split at h
            · rename_i h4; rw [Nat.eq_of_beq_eq_true h0, of_decide_eq_true h1, SX.bq_eq h2, SX.bq_eq h3, SX.bq_eq h4, SX.bq_eq h]
            · cases h
          · cases h
        · cases h
      · cases h
    · cases h
  · split at h
    · rename_i h0; split at h
      · rename_i h1; split at h
        · rename_i h2; rw [kn_inj (Nat.eq_of_beq_eq_true h0), of_decide_eq_true h1, SX.bq_eq h2, SX.bq_eq h]
        · cases h
      · cases h
    · cases h
  · split at h
    · rename_i h1; split at h
      · rename_i h2; rw [Nat.eq_of_beq_eq_true h1, SX.bq_eq h2, SX.bq_eq h]
      · cases h
    · cases h
theorem dropCh_sound {ρ : Env G} {c : Ch} : ∀ {l r : List Ch}, dropCh c l = some r → hpDen S ρ w0 l = star (c.den S ρ w0) (hpDen S ρ w0 r)
  | [], r, h => nomatch h
  | d :: l, r, h => by
    simp only [dropCh, Bool.cond_eq_ite] at h
    split at h
    · rename_i hq; cases h; rw [Ch.bq_eq hq]; rfl
    · obtain ⟨r', h1, h⟩ := ob_some h
      cases h
      rw [hpDen_cons, dropCh_sound h1, hpDen_cons, star_left_comm]
theorem holdAll_sound {ρ : Env G} : ∀ {l hp r : List Ch}, holdAll l hp = some r → hpDen S ρ w0 hp = star (hpDen S ρ w0 l) (hpDen S ρ w0 r)
  | [], hp, r, h => by
    cases h
    have : hpDen S ρ w0 [] = emp := rfl
    rw [this, star_comm, star_emp]
  | c :: l, hp, r, h => by
    obtain ⟨hp', h1, h⟩ := ob_some h
    rw [dropCh_sound S w0 h1, holdAll_sound h, hpDen_cons, star_assoc]

theorem frOk_sound {d : Nat} {th : List SX} {ss : List Srt} {slots : List (Nat × SV)} {ρ ρI : Env G} {asm : List SX} (ha : ∀ x ∈ asm, (x.den S ρ).toProp) (hT : ThR S d th ss ρ ρI)
    (hsl : slots.all (fun p => p.2.wf d ss) = true) (hE : ∀ e : SV, e.lt d = true → e.den S ρI = e.den S ρ) :
    ∀ {head fr : List SV} {i : Nat} {ns ns' : List SX} {tm : List Value}, frOk asm d th slots ns i head fr = some ns' → (∀ x ∈ ns', (x.den S ρ).toProp) → head.all (SV.lt d) = true → FrR S ρ fr tm →
      FrR S ρI (setSlots slots i head) tm ∧ ∀ x ∈ ns, (x.den S ρ).toProp
  | [], [], i, ns, ns', tm, h, hn, hh, hf => by
    cases h
    cases tm with
    | nil => exact ⟨trivial, hn⟩
    | cons => exact hf.elim
  | [], _ :: _, i, ns, ns', tm, h, hn, hh, hf => nomatch h
  | _ :: _, [], i, ns, ns', tm, h, hn, hh, hf => nomatch h
  | g :: hs, v :: vs, i, ns, ns', tm, h, hn, hh, hf => by
    cases tm with
    | nil => exact hf.elim
    | cons x tm =>
      simp only [List.all_cons, Bool.and_eq_true] at hh
      simp only [frOk] at h
      split at h
      · rename_i p hp
        obtain ⟨n1, e1, h⟩ := ob_some h
        obtain ⟨h2, hn1⟩ := frOk_sound ha hT hsl hE h hn hh.2 hf.2
        obtain ⟨h1, hn0⟩ := eqV_sound S ρ ha e1 hn1
        refine ⟨?_, hn0⟩
        simp only [setSlots, hp]
        have hw : p.wf d ss = true := List.all_eq_true.1 hsl _ (assoc_mem hp)
        exact ⟨(SV.sub_R S ρ hT hw).1 (h1 x hf.1), h2⟩
      · rename_i hp
        obtain ⟨n1, e1, h⟩ := ob_some h
        obtain ⟨h2, hn1⟩ := frOk_sound ha hT hsl hE h hn hh.2 hf.2
        obtain ⟨h1, hn0⟩ := eqV_sound S ρ ha e1 hn1
        refine ⟨?_, hn0⟩
        simp only [setSlots, hp]
        refine ⟨?_, h2⟩
        rcases h1 x hf.1 with hj | he
        · exact .inl hj
        · exact .inr (by rw [hE g hh.1]; exact he)

theorem inv_wf {iv : Inv} {n : Nat} (h : iv.wf n = true) : iv.meas.wf n iv.ss = true ∧ iv.facts.all (SX.wf n iv.ss) = true ∧ iv.hp.all (Ch.wf n iv.ss) = true ∧ iv.slots.all (fun p => p.2.wf n iv.ss) = true ∧ iv.meas.lt (n + iv.ss.length) = true := by
  unfold Inv.wf at h
  simp only [Bool.cond_eq_ite] at h
  split at h
  · rename_i h1; split at h
    · rename_i h2; split at h
      · rename_i h3; split at h
        · rename_i h4; exact ⟨h1, h2, h3, h4, h⟩
        · cases h
      · cases h
    · cases h
  · cases h

/-- An invariant that is met stands, at some of its atoms. -/
theorem meet_sound {n : Nat} {ρ ρ' : Env G} {st : St} {iv : Inv} {head : List SV} {th ns : List SX} {rest base : List Ch} {left : List Ch} {asm0 : List SX} {a : Act} {w : World} (hE : Ext n ρ ρ') (hd : Den S ρ' w0 F st a w)
    (hw : iv.wf n = true) (hh : head.all (SV.lt n) = true) (hb : base.all (Ch.lt n) = true) (h : meet n st iv head = some (th, ns, rest)) (hn : ∀ x ∈ ns, (x.den S ρ').toProp) (hold : hpDen S ρ' w0 rest = star (hpDen S ρ' w0 base) (hpDen S ρ' w0 left))
    (has : asm0.all (SX.lt n) = true) (ha0 : ∀ x ∈ asm0, (x.den S ρ).toProp) :
    ∃ us : List (U G), us.length = iv.ss.length ∧ Den S (updL S ρ n iv.ss us) w0 F { fr := setSlots iv.slots 0 head, hp := iv.hp ++ base, n := n + iv.ss.length, asm := iv.facts ++ asm0 } a w ∧
      (∀ x ∈ iv.facts, (x.den S (updL S ρ n iv.ss us)).toProp) ∧ (iv.meas.sub n th).den S ρ' = iv.meas.den S (updL S ρ n iv.ss us) := by
  obtain ⟨w1, w2, w3, w4, w5⟩ := inv_wf hw
  unfold meet at h
  simp only at h
  obtain ⟨th', hth, h⟩ := ob_some h
  simp only [Bool.cond_eq_ite] at h
  split at h
  · rename_i hok
    obtain ⟨ns1, hfr, h⟩ := ob_some h
    obtain ⟨⟨ns2, rest', ks⟩, htk, h⟩ := ob_some h
    simp only at h
    split at h
    · cases h
      let us : List (U G) := (List.range iv.ss.length).map fun j => (getTh th j).den S ρ'
      have hus : us.length = iv.ss.length := by simp [us]
      have husj : ∀ j s, iv.ss[j]? = some s → us[j]? = some ((getTh th j).den S ρ') := fun j s hs => by
        have := (List.getElem?_eq_some_iff.1 hs).1
        simp [us, this]
      have hEI : Ext n ρ (updL S ρ n iv.ss us) := updL_ext S ρ n iv.ss us
      have hT : ThR S n th iv.ss ρ' (updL S ρ n iv.ss us) := ⟨fun i hi => by rw [hEI i hi, hE i hi], fun i s hs => by
        rw [updL_high S (n := n) (ρ := ρ) hs (husj _ _ hs), U.co_co]
        have h1 := thOk_get hok i s hs
        have h2 := SX.srt_co S ρ' (getTh th i)
        rw [h1] at h2
        exact h2⟩
      obtain ⟨hfa, hn2⟩ := foldr_need S ρ' hd.asm hn
      have hfacts := (mem_sub S ρ' hT w2).1 hfa
      obtain ⟨hn1, htake⟩ := takeChs_sound S ρ' w0 hd.asm S.ch htk hn2 (fun i K hm => nomatch hm)
      have hEE : ∀ e : SV, e.lt n = true → e.den S (updL S ρ n iv.ss us) = e.den S ρ' := fun e he => by rw [SV.den_ext S hEI he, SV.den_ext S hE he]
      obtain ⟨hfrR, _⟩ := frOk_sound S hd.asm hT w4 hEE hfr hn1 hh hd.fr
      refine ⟨us, hus, ⟨hfrR, hd.df, ?_, ?_⟩, hfacts, SX.sub_den S ρ' hT w1⟩
      · have key : ∀ y, star (hpDen S ρ' w0 st.hp) F y → star (hpDen S ρ' w0 left) (star (hpDen S (updL S ρ n iv.ss us) w0 (iv.hp ++ base)) F) y := by
          intro y hy
          have := htake _ _ hy
          rw [hp_sub_den S ρ' w0 hT S.ch w3, hold] at this
          have hbase : hpDen S ρ' w0 base = hpDen S (updL S ρ n iv.ss us) w0 base := by rw [hpDen_ext S hE w0 hb, hpDen_ext S hEI w0 hb]
          rw [hbase] at this
          rw [hpDen_append]
          rw [star_assoc, star_left_comm (hpDen S ρ' w0 left), star_left_comm (hpDen S ρ' w0 left), ← star_assoc (hpDen S (updL S ρ n iv.ss us) w0 base)]
          exact this
        exact Sat.drop (hd.hp.mono key)
      · intro e he
        rcases List.mem_append.1 he with he | he
        · exact hfacts e he
        · rw [SX.den_ext S hEI (List.all_eq_true.1 has e he)]; exact ha0 e he
    · cases h
  · cases h
end
end
end Go.Eng

/- Code, bodies, contracts: that the symbolic run is the model's. -/
set_option linter.unusedSimpArgs false
set_option linter.unusedVariables false
namespace Go.Eng
noncomputable section
open Go.RowKit (Below)

section
variable {G : Type} (S : Sig G) (w0 : World) (F : HProp) {P : Program} {C : Cx}

def Wp (P : Program) (c : Code) (Q : Exit → Act → World → Prop) (a : Act) (w : World) : Prop := (∀ b, c = .loop b → WpIn P b Q a w) ∧ c.wp P Q a w
theorem Wp.of {c : Code} {Q : Exit → Act → World → Prop} {a : Act} {w : World} (hc : ∀ b, c ≠ .loop b) (h : c.wp P Q a w) : Wp P c Q a w := ⟨fun b hb => absurd hb (hc b), h⟩
theorem Wp.loop {b : Code} {Q : Exit → Act → World → Prop} {a : Act} {w : World} (h : WpIn P b Q a w) : Wp P (.loop b) Q a w := ⟨fun b' hb => by cases hb; exact h, wpIn_loop h⟩

/-- What a continuation promises, from a state on. -/
structure KtR (K : Kt) (st : St) (ρ : Env G) (Q : Exit → Act → World → Prop) : Prop where
  nrm : ∀ ρ' st' a' w', After S w0 F st ρ ρ' st' a' w' → (K.nrm st').den S ρ' → Q .normal a' w'
  ret : ∀ ρ' st' a' w', After S w0 F st ρ ρ' st' a' w' → (K.ret st').den S ρ' → Q .ret a' w'
  ext : ∀ i ρ' st' a' w', After S w0 F st ρ ρ' st' a' w' → (K.ext i st').den S ρ' → Q (.exit i) a' w'
  pan : ∀ c a w, ¬ Q (.panic c) a w
theorem KtR.step {K : Kt} {st st1 : St} {ρ ρ1 : Env G} {Q : Exit → Act → World → Prop} (hE : Ext st.n ρ ρ1) (hn : st.n ≤ st1.n) (h : KtR S w0 F K st ρ Q) : KtR S w0 F K st1 ρ1 Q :=
  ⟨fun _ _ _ _ ha hk => h.nrm _ _ _ _ (After.step S w0 F hE hn ha) hk, fun _ _ _ _ ha hk => h.ret _ _ _ _ (After.step S w0 F hE hn ha) hk, fun i _ _ _ _ ha hk => h.ext i _ _ _ _ (After.step S w0 F hE hn ha) hk, h.pan⟩
theorem KtR.asm {K : Kt} {st st1 : St} {ρ : Env G} {Q : Exit → Act → World → Prop} (hn : st.n = st1.n) (h : KtR S w0 F K st ρ Q) : KtR S w0 F K st1 ρ Q := h.step S w0 F (Ext.refl _ _) (Nat.le_of_eq hn)

theorem asm_cons {ρ : Env G} {e : SX} {l : List SX} (h : (e.den S ρ).toProp) (h' : ∀ x ∈ l, (x.den S ρ).toProp) : ∀ x ∈ e :: l, (x.den S ρ).toProp := fun x hx => by
  rcases List.mem_cons.1 hx with rfl | hx
  · exact h
  · exact h' x hx

theorem sx_sound {body : Nat → List SV → St → (SV → St → VC) → VC} (hb : BodyOk S w0 F P body) (hC : CxOk S P C) (f : Nat) :
    ∀ (fuel : Nat) (c : Code) (st : St) (ρ : Env G) (a : Act) (w : World) (K : Kt) (Q : Exit → Act → World → Prop), Den S ρ w0 F st a w → (sx P C body f fuel c st K).den S ρ → KtR S w0 F K st ρ Q → Wp P c Q a w := by
  intro fuel
  induction fuel with
  | zero => intro c st ρ a w K Q hd h hK; exact h.elim
  | succ fuel ih =>
    intro c st ρ a w K Q hd h hK
    have refl : After S w0 F st ρ ρ st a w := ⟨Ext.refl _ _, Nat.le_refl _, hd⟩
    unfold sx at h
    split at h
    · exact Wp.of (by intros; simp) (wp_skip (hK.nrm _ _ _ _ refl h))
    · exact Wp.of (by intros; simp) (wp_label (hK.nrm _ _ _ _ refl h))
    · -- region
      rename_i id ops draw
      refine Wp.of (by intros; simp) ?_
      obtain ⟨ρ1, st1, haf, hk⟩ := ghosts_sound S w0 F _ (annsOf C f id) (fun sp args hm => by obtain ⟨l, i, hl, hm⟩ := annsOf_mem hm; exact hC.2.1 f l hl i sp args hm) st ρ a w hd h
      have hn : ∀ ρ' st' a' w', After S w0 F st1 ρ1 ρ' st' a' w' → (K.nrm st').den S ρ' → Q .normal a' w' := fun ρ' st' a' w' h1 h2 => hK.nrm _ _ _ _ (After.step S w0 F haf.1 haf.2.1 h1) h2
      cases draw
      · simp only [cond_false] at hk
        exact wp_region_list (seqR_sound S w0 F hb hC ops.toList st1 ρ1 a w haf.2.2 hk hn)
      · simp only [cond_true] at hk
        cases hm : P.follows .mixedOrders
        · rw [hm] at hk; exact hk.elim
        cases hns : Region.noSelect ops
        · rw [hm, hns] at hk; exact hk.elim
        rw [hm, hns] at hk
        exact region_draw_sound S w0 F hb hC hm hns hK.pan haf.2.2 hk hn
    · -- seq
      rename_i x y
      refine Wp.of (by intros; simp) (wp_seq (ih x st ρ a w _ _ hd h ⟨?_, ?_, ?_, ?_⟩).2)
      · intro ρ' st' a' w' haf hk
        exact (ih y st' ρ' a' w' K Q haf.2.2 hk (hK.step S w0 F haf.1 haf.2.1)).2
      · intro ρ' st' a' w' haf hk; exact hK.ret _ _ _ _ haf hk
      · intro i ρ' st' a' w' haf hk; exact hK.ext i _ _ _ _ haf hk
      · intro c a w h; exact hK.pan c a w h
    · -- cond
      rename_i x c1 c2
      refine Wp.of (by intros; simp) ?_
      have hx := lk_eval S hd.fr x
      split at h
      · rename_i he; rw [he] at hx
        exact wp_cond_true (by rw [R_one S ρ hx]; rfl) (ih c1 st ρ a w K Q hd h hK).2
      · rename_i he; rw [he] at hx
        exact wp_cond_false (by rw [R_one S ρ hx]; rfl) (ih c2 st ρ a w K Q hd h hK).2
      · rename_i e _ _ he; rw [he] at hx
        cases hq : sq e.srt .bool
        · rw [hq] at h; exact h.elim
        rw [hq] at h
        simp only [cond_true] at h
        obtain ⟨ht, hf⟩ := h
        have hev := R_one S ρ hx
        simp only [SC.den] at hev
        cases hv : (e.den S ρ).toBool
        · rw [hv] at hev
          have hp : ¬ (e.den S ρ).toProp := by rw [srt_bool S hq, hv]; simp
          have hp' : ((eNot e).den S ρ).toProp := by rw [eNot_den, srt_bool S hq, hv]; rfl
          refine wp_cond_false hev ?_
          cases hin : inAsm e st.asm
          · rw [hin] at hf
            exact (ih c2 { st with asm := eNot e :: st.asm } ρ a w K Q ⟨hd.fr, hd.df, hd.hp, asm_cons S hp' hd.asm⟩ (hf hp') (KtR.asm S w0 F (st := st) rfl hK)).2
          · exact absurd (hd.asm _ (inAsm_mem hin)) hp
        · rw [hv] at hev
          have hp : (e.den S ρ).toProp := by rw [srt_bool S hq, hv]; rfl
          have hp' : ¬ ((eNot e).den S ρ).toProp := by rw [eNot_den, srt_bool S hq, hv]; simp
          refine wp_cond_true hev ?_
          cases hin : inAsm (eNot e) st.asm
          · rw [hin] at ht
            exact (ih c1 { st with asm := e :: st.asm } ρ a w K Q ⟨hd.fr, hd.df, hd.hp, asm_cons S hp hd.asm⟩ (ht hp) (KtR.asm S w0 F (st := st) rfl hK)).2
          · exact absurd (hd.asm _ (inAsm_mem hin)) hp'
      · exact h.elim
    · -- block
      rename_i id b
      refine Wp.of (by intros; simp) (wp_block (ih b st ρ a w _ _ hd h ⟨?_, ?_, ?_, ?_⟩).2)
      · intro ρ' st' a' w' haf hk; exact hK.nrm _ _ _ _ haf hk
      · intro ρ' st' a' w' haf hk; exact hK.ret _ _ _ _ haf hk
      · intro i ρ' st' a' w' haf hk
        simp only [Exit.inBlock]
        simp only [Bool.cond_eq_ite] at hk
        split at hk
        · rename_i hi; rw [if_pos (Nat.eq_of_beq_eq_true hi)]; exact hK.nrm _ _ _ _ haf hk
        · rename_i hi
          rw [if_neg (fun h => hi (by subst h; simp))]
          exact hK.ext i _ _ _ _ haf hk
      · intro c a w h; exact hK.pan c a w h
    · exact Wp.of (by intros; simp) (wp_exit (hK.ext _ _ _ _ _ refl h))
    · exact Wp.of (by intros; simp) (wp_ret (hK.ret _ _ _ _ refl h))
    · -- loop
      rename_i b
      split at h
      · exact h.elim
      · rename_i key hkey
        split at h
        · -- a round by itself
          refine Wp.loop (wpIn_step (ih b st ρ a w _ _ hd h ⟨?_, ?_, ?_, ?_⟩).2)
          · intro ρ' st' a' w' haf hk
            exact (ih (.loop b) st' ρ' a' w' K Q haf.2.2 hk (hK.step S w0 F haf.1 haf.2.1)).1 b rfl
          · intro ρ' st' a' w' haf hk; exact hK.ret _ _ _ _ haf hk
          · intro i ρ' st' a' w' haf hk; exact hK.ext i _ _ _ _ haf hk
          · intro c a w h; exact hK.pan c a w h
        · rename_i iv0 hiv
          simp only at h
          generalize hIV : iv0.at st.n = iv at h
          generalize junks st.fr (Code.writes b) = head at h
          split at h
          · exact h.elim
          · rename_i th0 ns rest hmeet
            cases h1 : iv.wf st.n
            · rw [h1] at h; exact h.elim
            cases h2 : head.all (SV.lt st.n)
            · rw [h1, h2] at h; exact h.elim
            cases h3 : rest.all (Ch.lt st.n)
            · rw [h1, h2, h3] at h; exact h.elim
            rw [h1, h2, h3] at h
            simp only [cond_true] at h
            obtain ⟨hn, hfr⟩ := needs_den S ρ h
            obtain ⟨hok, hcont⟩ := fresh_den S ρ hfr
            have has : (ns ++ st.asm).all (SX.lt st.n) = true := by
              unfold St.ok at hok
              simp only [Bool.cond_eq_ite] at hok
              split at hok
              · split at hok
                · exact hok
                · cases hok
              · cases hok
            have ha0 : ∀ x ∈ ns ++ st.asm, (x.den S ρ).toProp := fun x hx => (List.mem_append.1 hx).elim (hn x) (hd.asm x)
            let stI : St := { fr := setSlots iv.slots 0 head, hp := iv.hp ++ rest, n := st.n + iv.ss.length, asm := iv.facts ++ (ns ++ st.asm) }
            let I : Nat → Act → World → Prop := fun m a w => ∃ us : List (U G), us.length = iv.ss.length ∧ Den S (updL S ρ st.n iv.ss us) w0 F stI a w ∧ (∀ x ∈ iv.facts, (x.den S (updL S ρ st.n iv.ss us)).toProp) ∧ (iv.meas.den S (updL S ρ st.n iv.ss us)).toInt.toNat = m
            obtain ⟨us, hus, hdI, hf, hm⟩ := meet_sound S w0 F (Ext.refl st.n ρ) hd h1 h2 h3 hmeet hn (left := []) (by have : hpDen S ρ w0 [] = emp := rfl; rw [this, star_emp]) has ha0
            refine Wp.loop (wpIn_inv I ?_ _ a w ⟨us, hus, hdI, hf, rfl⟩)
            rintro m a1 w1 ⟨us, hus, hdI, hf, hm⟩
            have hEI : Ext st.n ρ (updL S ρ st.n iv.ss us) := updL_ext S ρ st.n iv.ss us
            refine (ih b stI _ a1 w1 _ _ hdI (hcont us hus hf) ⟨?_, ?_, ?_, ?_⟩).2
            · intro ρ' st' a' w' haf hk
              simp only at hk
              split at hk
              · exact hk.elim
              · rename_i th1 ns1 rest1 hmeet1
                split at hk
                · exact hk.elim
                · rename_i lft hhold
                  obtain ⟨hk1, _⟩ := needs_den S ρ' hk
                  obtain ⟨hpos, hk2⟩ := need_sound S ρ' haf.2.2.asm hk1
                  obtain ⟨hlt, hk3⟩ := need_sound S ρ' haf.2.2.asm hk2
                  rw [eLe_den] at hpos
                  rw [eLt_den] at hlt
                  obtain ⟨us', hus', hdI', hf', hm'⟩ := meet_sound S w0 F (hEI.trans haf.1 (Nat.le_add_right _ _)) haf.2.2 h1 h2 h3 hmeet1 hk3 (holdAll_sound S w0 hhold) has ha0
                  have hml := (inv_wf h1).2.2.2.2
                  have hm0 : iv.meas.den S ρ' = iv.meas.den S (updL S ρ st.n iv.ss us) := SX.den_ext S haf.1 hml
                  refine ⟨_, ?_, us', hus', hdI', hf', rfl⟩
                  rw [← hm', ← hm]
                  rw [hm0] at hlt
                  simp only [SX.den, U.toInt_int] at hpos
                  omega
            · intro ρ' st' a' w' haf hk; exact hK.ret _ _ _ _ (After.step S w0 F hEI (Nat.le_add_right _ _) haf) hk
            · intro i ρ' st' a' w' haf hk; exact hK.ext i _ _ _ _ (After.step S w0 F hEI (Nat.le_add_right _ _) haf) hk
            · intro c a w h; exact hK.pan c a w h
    · exact h.elim
end
end
end Go.Eng

/- Bodies and contracts: that the symbolic run is the model's. -/
set_option linter.unusedSimpArgs false
set_option linter.unusedVariables false
namespace Go.Eng
noncomputable section
open Go.RowKit (Below)

section
variable {P : Program}
def oneRun (tmps : Array Value) : ResultVar → Sem Value
  | .tmp t => pure (tmps.getD t undef)
  | .cell a t => do loadVar t (← asAddr (tmps.getD a undef))
theorem results_eq (fn : Func) (tmps : Array Value) : results fn tmps = (do
    let vs ← fn.results.mapM (oneRun tmps)
    pure (if h : vs.size = 1 then vs[0] else .tuple vs)) := by
  unfold results
  congr 2
theorem results_1 {fn : Func} {tmps : Array Value} {r : ResultVar} {x : Value} {w : World} (h : fn.results = #[r]) (h1 : (oneRun tmps r).run P w = .ok x w) : (results fn tmps).run P w = .ok x w := by
  rw [results_eq, h]; simp [h1]
theorem results_2 {fn : Func} {tmps : Array Value} {r r2 : ResultVar} {x x2 : Value} {w : World} (h : fn.results = #[r, r2]) (h1 : (oneRun tmps r).run P w = .ok x w) (h2 : (oneRun tmps r2).run P w = .ok x2 w) : (results fn tmps).run P w = .ok (.tuple #[x, x2]) w := by
  rw [results_eq, h]; simp [h1, h2]
theorem results_3 {fn : Func} {tmps : Array Value} {r r2 r3 : ResultVar} {x x2 x3 : Value} {w : World} (h : fn.results = #[r, r2, r3]) (h1 : (oneRun tmps r).run P w = .ok x w) (h2 : (oneRun tmps r2).run P w = .ok x2 w) (h3 : (oneRun tmps r3).run P w = .ok x3 w) : (results fn tmps).run P w = .ok (.tuple #[x, x2, x3]) w := by
  rw [results_eq, h]; simp [h1, h2, h3]
theorem results_4 {fn : Func} {tmps : Array Value} {r r2 r3 r4 : ResultVar} {x x2 x3 x4 : Value} {w : World} (h : fn.results = #[r, r2, r3, r4]) (h1 : (oneRun tmps r).run P w = .ok x w) (h2 : (oneRun tmps r2).run P w = .ok x2 w) (h3 : (oneRun tmps r3).run P w = .ok x3 w) (h4 : (oneRun tmps r4).run P w = .ok x4 w) : (results fn tmps).run P w = .ok (.tuple #[x, x2, x3, x4]) w := by
  rw [results_eq, h]; simp [h1, h2, h3, h4]
end

section
variable {G : Type} (S : Sig G) (w0 : World) (F : HProp) {P : Program} {C : Cx}
theorem oneRes_sound {st : St} {ρ : Env G} {a : Act} {w : World} (hd : Den S ρ w0 F st a w) {r : ResultVar} {p : Bool × List SC} (h : oneRes P st r = some p) : (oneRun a.tmps r).run P w = .ok (tupV S ρ p) w := by
  cases r with
  | tmp t =>
    simp only [oneRes] at h
    have hr := lk_R S hd.fr t
    rw [List.getD_eq_getElem?_getD, Array.getElem?_toList] at hr
    simp only [oneRun]
    rw [Array.getD_eq_getD_getElem?]
    split at h
    · rename_i c hc
      cases h
      rw [hc] at hr
      rw [R_one S ρ hr]; rfl
    · rename_i cs hc
      cases h
      rw [hc] at hr
      have := hr.resolve_left (by simp [SV.isJunk])
      rw [this]; rfl
    · cases h
  | cell x t =>
    simp only [oneRes] at h
    split at h
    · rename_i b o d n hs hd' hn
      have hr := lk_R S hd.fr x
      rw [List.getD_eq_getElem?_getD, Array.getElem?_toList, hs] at hr
      have hv := R_one S ρ hr
      have main : ∀ sv, loadAt st.hp st.asm (tyAgg d) (bif tyAgg d then n else 1) (.ptr b o) = some ([], sv) → held b st.hp = true → (oneRun a.tmps (.cell x t)).run P w = .ok (sv.den S ρ) w := by
        intro sv hl hh
        have hb := held_sound S ρ w0 hh hd.hp
        have := loadAt_sound S ρ w0 hd.asm hd.hp hd' hn hl (fun e he => nomatch he)
        simp only [SC.den] at this hv
        rw [if_neg (by omega)] at this hv
        simp only [oneRun]
        rw [Array.getD_eq_getD_getElem?, hv]
        exact this
      split at h
      · rename_i c hl
        simp only [Bool.cond_eq_ite] at h
        split at h
        · rename_i hh; cases h; exact main _ hl hh
        · cases h
      · rename_i cs hl
        simp only [Bool.cond_eq_ite] at h
        split at h
        · rename_i hh; cases h; exact main _ hl hh
        · cases h
      · cases h
    · cases h
theorem resOf_sound {st : St} {ρ : Env G} {a : Act} {w : World} (hd : Den S ρ w0 F st a w) {fn : Func} {sv : SV} (h : resOf P fn st = some sv) : ∃ v, (results fn a.tmps).run P w = .ok v w ∧ sv.R S ρ v := by
  unfold resOf at h
  split at h
  · rename_i hr
    cases h
    have : fn.results = #[] := by rw [← Array.toList_inj]; exact hr
    exact ⟨.tuple #[], results_none this _ _ _, .inr rfl⟩
  · rename_i r hr
    have : fn.results = #[r] := by rw [← Array.toList_inj]; exact hr
    split at h
    · rename_i c h1; cases h; exact ⟨_, results_1 this (oneRes_sound S w0 F hd h1), .inr rfl⟩
    · rename_i cs h1; cases h; exact ⟨_, results_1 this (oneRes_sound S w0 F hd h1), .inr rfl⟩
    · cases h
  · rename_i r1 r2 hr
    have : fn.results = #[r1, r2] := by rw [← Array.toList_inj]; exact hr
    obtain ⟨a1, h1, h⟩ := ob_some h
    obtain ⟨a2, h2, h⟩ := ob_some h
    cases h
    exact ⟨_, results_2 this (oneRes_sound S w0 F hd h1) (oneRes_sound S w0 F hd h2), .inr rfl⟩
  · rename_i r1 r2 r3 hr
    have : fn.results = #[r1, r2, r3] := by rw [← Array.toList_inj]; exact hr
    obtain ⟨a1, h1, h⟩ := ob_some h
    obtain ⟨a2, h2, h⟩ := ob_some h
    obtain ⟨a3, h3, h⟩ := ob_some h
    cases h
    exact ⟨_, results_3 this (oneRes_sound S w0 F hd h1) (oneRes_sound S w0 F hd h2) (oneRes_sound S w0 F hd h3), .inr rfl⟩
  · rename_i r1 r2 r3 r4 hr
    have : fn.results = #[r1, r2, r3, r4] := by rw [← Array.toList_inj]; exact hr
    obtain ⟨a1, h1, h⟩ := ob_some h
    obtain ⟨a2, h2, h⟩ := ob_some h
    obtain ⟨a3, h3, h⟩ := ob_some h
    obtain ⟨a4, h4, h⟩ := ob_some h
    cases h
    exact ⟨_, results_4 this (oneRes_sound S w0 F hd h1) (oneRes_sound S w0 F hd h2) (oneRes_sound S w0 F hd h3) (oneRes_sound S w0 F hd h4), .inr rfl⟩
  · cases h

theorem FrR_args {ρ : Env G} : ∀ {l : List SV} {xs : List Value} (n : Nat), argsR S ρ l xs → FrR S ρ (l ++ List.replicate n .junk) (xs ++ List.replicate n undef)
  | [], [], n, _ => by
    simp only [List.nil_append]
    induction n with
    | zero => trivial
    | succ n ih => exact ⟨.inl rfl, ih⟩
  | s :: l, v :: xs, n, h => ⟨h.1, FrR_args n h.2⟩
  | [], _ :: _, _, h => h.elim
  | _ :: _, [], _, h => h.elim
theorem argsR_len {ρ : Env G} : ∀ {l : List SV} {xs : List Value}, argsR S ρ l xs → l.length = xs.length
  | [], [], _ => rfl
  | s :: l, v :: xs, h => by simp [argsR_len h.2]
  | [], _ :: _, h => h.elim
  | _ :: _, [], h => h.elim
theorem FrR_ok {ρ ρ' : Env G} {st : St} (hok : st.ok = true) (hE : Ext st.n ρ ρ') {l : List Value} (h : FrR S ρ st.fr l) : FrR S ρ' st.fr l := by
  unfold St.ok at hok
  simp only [Bool.cond_eq_ite] at hok
  split at hok
  · rename_i hf; exact FrR_ext S hE hf h
  · cases hok

/-- Any run of a body is the model's. -/
theorem runBody_sound (hC : CxOk S P C) : ∀ (fuel : Nat), BodyOk S w0 F P (runBody P C fuel)
  | 0, f, args, st, K, ρ, w, xs, R, hst, hok, hx, h, hK => by simp only [runBody] at h; exact h.elim
  | fuel + 1, f, args, st, K, ρ, w, xs, R, hst, hok, hx, h, hK => by
    simp only [runBody] at h
    split at h
    · exact h.elim
    · rename_i fn hfn
      split at h
      · exact h.elim
      · rename_i c hc
        refine calls_of_wp hfn hc ?_
        have hd : Den S ρ w0 F { st with fr := args ++ List.replicate (fn.ntmps - args.length) .junk } { tmps := xs.toArray ++ Array.replicate (fn.ntmps - xs.toArray.size) undef, defers := [] } w := by
          refine ⟨?_, rfl, hst.hp, hst.asm⟩
          have := FrR_args S (fn.ntmps - args.length) hx
          simpa [argsR_len S hx] using this
        let Q : Exit → Act → World → Prop := fun e a w' => match e with | .panic _ => False | e => bodyPost P fn R e a w'
        have fin : ∀ ρ' st' a' w', After S w0 F { st with fr := args ++ List.replicate (fn.ntmps - args.length) .junk } ρ ρ' st' a' w' →
            (match resOf P fn st' with | some v => K v { st' with fr := st.fr } | none => VC.ff 54).den S ρ' → a'.defers = [] ∧ ∃ v, (results fn a'.tmps).run P w' = .ok v w' ∧ R (.returned v) w' := by
          intro ρ' st' a' w' haf hk
          split at hk
          · rename_i sv hsv
            obtain ⟨v, hr, hv⟩ := resOf_sound S w0 F haf.2.2 hsv
            refine ⟨haf.2.2.df, v, hr, hK ρ' sv { st' with fr := st.fr } w' v ⟨haf.1, haf.2.1, rfl, fun l hl => FrR_ok S hok haf.1 hl, ⟨haf.2.2.hp, haf.2.2.asm⟩⟩ hv hk⟩
          · exact hk.elim
        refine wp_mono (Q := Q) (sx_sound S w0 F (runBody_sound hC fuel) hC f 100000 c _ ρ _ w _ Q hd h ⟨?_, ?_, ?_, ?_⟩).2 ?_
        · intro ρ' st' a' w' haf hk; exact fin ρ' st' a' w' haf hk
        · intro ρ' st' a' w' haf hk; exact fin ρ' st' a' w' haf hk
        · intro i ρ' st' a' w' haf hk; exact hk.elim
        · intro c a w h; exact h
        · intro e a w h; cases e <;> first | exact h | exact h.elim

/-! ### A function keeps its contract -/
theorem VC.den_wc (ch : Nat → Bool) : ∀ (v : VC) (ρ : Env G), v.den (S.wc ch) ρ ↔ v.den S ρ
  | .tt, _ => Iff.rfl
  | .ff _, _ => Iff.rfl
  | .and a b, ρ => and_congr (VC.den_wc ch a ρ) (VC.den_wc ch b ρ)
  | .imp e a, ρ => by simp only [VC.den, SX.den_wc]; exact imp_congr Iff.rfl (VC.den_wc ch a ρ)
  | .need e a, ρ => by simp only [VC.den, SX.den_wc]; exact and_congr Iff.rfl (VC.den_wc ch a ρ)
  | .all n .int a, ρ => forall_congr' fun _ => VC.den_wc ch a _
  | .all n .bool a, ρ => forall_congr' fun _ => VC.den_wc ch a _
  | .all n .ints a, ρ => forall_congr' fun _ => VC.den_wc ch a _
  | .all n .bytes a, ρ => forall_congr' fun _ => VC.den_wc ch a _
  | .all n .rows a, ρ => forall_congr' fun _ => VC.den_wc ch a _
  | .all n .amap a, ρ => forall_congr' fun _ => VC.den_wc ch a _
  | .all n .g a, ρ => forall_congr' fun _ => VC.den_wc ch a _
theorem argsR_wc (ch : Nat → Bool) {ρ : Env G} : ∀ {l : List SV} {xs : List Value}, argsR (S.wc ch) ρ l xs ↔ argsR S ρ l xs
  | [], [] => Iff.rfl
  | s :: l, v :: xs => and_congr (SV.R_wc S ρ ch s v) (argsR_wc ch)
  | [], _ :: _ => Iff.rfl
  | _ :: _, [] => Iff.rfl
theorem CtrOk.wc (ch : Nat → Bool) {f : Nat} {sp : Ctr} (h : CtrOk S P f sp) : CtrOk (S.wc ch) P f sp := by
  intro ch' w0 F ρ w xs hx hr hs
  refine (h ch' w0 F ρ w xs ((argsR_wc S ch).1 hx) (fun e he => by have := hr e he; rwa [SX.den_wc] at this) hs).mono ?_
  rintro e w' ⟨ρ', v, hE, he, hv, hs', hf⟩
  exact ⟨ρ', v, hE, he, (SV.R_wc S ρ' ch _ _).2 hv, hs', fun x hx => by rw [SX.den_wc]; exact hf x hx⟩
theorem GhOk.wc (ch : Nat → Bool) {sp : Ctr} (h : GhOk S sp) : GhOk (S.wc ch) sp := by
  intro ch' w0 F ρ w hr hs
  obtain ⟨ρ', hE, hs', hf⟩ := h ch' w0 F ρ w (fun e he => by have := hr e he; rwa [SX.den_wc] at this) hs
  exact ⟨ρ', hE, hs', fun x hx => by rw [SX.den_wc]; exact hf x hx⟩
theorem ExtOk.wc (ch : Nat → Bool) {f : Nat} {sp : Ctr} (h : ExtOk S P f sp) : ExtOk (S.wc ch) P f sp := by
  intro ch' w0 F ρ w xs hx hr hs
  obtain ⟨v, w', hrun, ρ', hE, hv, hs', hf⟩ := h ch' w0 F ρ w xs ((argsR_wc S ch).1 hx) (fun e he => by have := hr e he; rwa [SX.den_wc] at this) hs
  exact ⟨v, w', hrun, ρ', hE, (SV.R_wc S ρ' ch _ _).2 hv, hs', fun x hx => by rw [SX.den_wc]; exact hf x hx⟩
theorem CxOk.wc (ch : Nat → Bool) (h : CxOk S P C) : CxOk (S.wc ch) P C :=
  ⟨fun f sps hf sp hm => ⟨(h.1 f sps hf sp hm).1, (h.1 f sps hf sp hm).2.wc S ch⟩, fun f l hf i sp args hm => ⟨(h.2.1 f l hf i sp args hm).1, (h.2.1 f l hf i sp args hm).2.wc S ch⟩,
    fun f sps hf sp hm => ⟨(h.2.2 f sps hf sp hm).1, (h.2.2 f sps hf sp hm).2.wc S ch⟩⟩

theorem ctr_wf {sp : Ctr} (hwf : sp.wf = true) : sp.args.all (SV.wf 0 sp.ss) = true ∧ sp.pre.all (Ch.wf 0 sp.ss) = true ∧ sp.reqs.all (SX.wf 0 sp.ss) = true ∧ sp.res.wf 0 (sp.ss ++ sp.ps) = true ∧
      sp.post.all (Ch.wf 0 (sp.ss ++ sp.ps)) = true ∧ sp.facts.all (SX.wf 0 (sp.ss ++ sp.ps)) = true := by
  unfold Ctr.wf at hwf
  simp only [Bool.cond_eq_ite] at hwf
  split at hwf
  · rename_i a1
    split at hwf
    · rename_i a2
      split at hwf
      · rename_i a3
        split at hwf
        · rename_i a4
          split at hwf
          · rename_i a5; exact ⟨a1, a2, a3, a4, a5, hwf⟩
          · cases hwf
        · cases hwf
      · cases hwf
    · cases hwf
  · cases hwf

theorem preX_get : ∀ {ss : List Srt} {th : List SX} {k i : Nat} {s : Srt}, preX (ats k ss) th = true → ss[i]? = some s → getTh th i = .at s (k + i)
  | [], th, k, i, s, h, hs => by simp at hs
  | t :: ss, [], k, i, s, h, hs => by cases h
  | t :: ss, e :: th, k, i, s, h, hs => by
    simp only [ats, preX, Bool.cond_eq_ite] at h
    split at h
    · rename_i hq
      cases i with
      | zero => simp at hs; subst hs; simp only [getTh]; rw [← SX.bq_eq hq]; rfl
      | succ i =>
        simp only [getTh]
        rw [preX_get h (by simpa using hs), show k + 1 + i = k + (i + 1) by omega]
    · cases h

/-- **What the symbolic run asks for is enough.** -/
theorem vcOf_sound (hC : CxOk S P C) {fuel f : Nat} {sp : Ctr} (h : ∀ ρ : Env G, (vcOf P C fuel f sp).den S ρ) : CtrOk S P f sp := by
  intro ch w0 F ρ w xs hx hreq hs
  have h := h ρ
  rw [← VC.den_wc S ch] at h
  unfold vcOf at h
  cases hwf : sp.wf
  · rw [hwf] at h; exact h.elim
  cases hok : St.ok { fr := [], hp := sp.pre, n := sp.ss.length, asm := sp.reqs }
  · rw [hwf, hok] at h; exact h.elim
  rw [hwf, hok] at h
  simp only [cond_true] at h
  have h := imps_den (S.wc ch) ρ h (fun e he => by rw [SX.den_wc]; exact hreq e he)
  obtain ⟨w1, w2, w3, w4, w5, w6⟩ := ctr_wf hwf
  refine runBody_sound (S.wc ch) w0 F (hC.wc S ch) fuel f sp.args _ _ ρ w xs _ ⟨hs, fun e he => by rw [SX.den_wc]; exact hreq e he⟩ hok ((argsR_wc S ch).2 hx) h ?_
  intro ρ' sv st' w' v hn hsv hk
  split at hk
  · exact hk.elim
  · rename_i th hth
    cases h1 : thOk th (sp.ss ++ sp.ps)
    · rw [h1] at hk; exact hk.elim
    cases h2 : preX (ats 0 sp.ss) th
    · rw [h1, h2] at hk; exact hk.elim
    rw [h1, h2] at hk
    simp only [cond_true] at hk
    split at hk
    · exact hk.elim
    · rename_i ns1 he
      split at hk
      · exact hk.elim
      · rename_i ns2 rest ks htk
        cases h3 : ks.all backOk
        · rw [h3] at hk; exact hk.elim
        rw [h3] at hk
        simp only [cond_true] at hk
        obtain ⟨hn3, _⟩ := needs_den (S.wc ch) ρ' hk
        obtain ⟨hf, hn2⟩ := foldr_need (S.wc ch) ρ' hn.hs.asm hn3
        have hch : ∀ i K, (i, K) ∈ ks → ch i = chOf (S.wc ch) K := fun i K hm => by
          have := List.all_eq_true.1 h3 _ hm
          cases K with
          | rd j => simp only [backOk] at this; rw [Nat.eq_of_beq_eq_true this]; rfl
          | _ => cases this
        obtain ⟨hn1, htake⟩ := takeChs_sound (S.wc ch) ρ' w0 hn.hs.asm ch htk hn2 hch
        obtain ⟨hv, _⟩ := eqV_sound (S.wc ch) ρ' hn.hs.asm he hn1
        let ρc : Env G := fun i => if i < sp.ss.length then ρ i else (getTh th i).den S ρ'
        have hT : ThR S 0 th (sp.ss ++ sp.ps) ρ' ρc := ⟨fun i hi => absurd hi (Nat.not_lt_zero _), fun i s hs => by
          rw [Nat.zero_add]
          by_cases hi : i < sp.ss.length
          · simp only [ρc, if_pos hi]
            rw [List.getElem?_append_left hi] at hs
            rw [preX_get h2 hs, Nat.zero_add]
            simp only [SX.den]
            rw [hn.ext i hi]
          · simp only [ρc, if_neg hi]
            have e1 := thOk_get h1 i s hs
            have e2 := SX.srt_co S ρ' (getTh th i)
            rw [e1] at e2
            exact e2⟩
        have hT' : ThR (S.wc ch) 0 th (sp.ss ++ sp.ps) ρ' ρc := ⟨hT.low, fun i s hs => by rw [SX.den_wc, co_wc]; exact hT.high i s hs⟩
        refine ⟨ρc, v, fun i hi => by simp only [ρc, if_pos hi], rfl, ?_, ?_, ?_⟩
        · have := (SV.sub_R (S.wc ch) ρ' hT' w4).1 (hv v hsv)
          exact (SV.R_wc S ρc ch _ _).1 this
        · have := hn.hs.hp.mono (htake _)
          rw [hp_sub_den (S.wc ch) ρ' w0 hT' ch w5] at this
          rw [star_left_comm] at this
          exact this.drop
        · have := (mem_sub (S.wc ch) ρ' hT' w6).1 hf
          intro x hx
          have := this x hx
          rwa [SX.den_wc] at this
end
end
end Go.Eng

/- The model's own entry for slices.overlaps keeps a contract: two arrays do not overlap. -/
set_option linter.unusedSimpArgs false
set_option linter.unusedVariables false
namespace Go.Eng
noncomputable section
open Go.RowKit (Below)
def En.srt : En → Srt | .ints _ => .ints | .bytes => .bytes | .rows _ => .rows
def ovCtr (e : En) : Ctr :=
  let i (n : Nat) : SX := .at .int n
  { ss := [.int, .int, .int, .int, .int, e.srt, .int, .int, .int, .int, .int, .int, e.srt, .int]
    args := [.one (.slice (i 0) (.int 0) (i 1) (i 2) (i 3) (i 4) e.stride), .one (.slice (i 7) (.int 0) (i 8) (i 9) (i 10) (i 11) e.stride)]
    pre := [.arr e (i 0) (.at e.srt 5) (i 6), .arr e (i 7) (.at e.srt 12) (i 13)]
    reqs := [eLe (i 3) (i 6), eLe (i 10) (i 13)]
    ps := []
    res := .one (.bool (.bool false))
    post := [.arr e (i 0) (.at e.srt 5) (i 6), .arr e (i 7) (.at e.srt 12) (i 13)]
    facts := [] }
theorem rows_apart {w0 w : World} {b c : Nat} {u v : List Value} {y z : Bool} {H : HProp} (h : Sat w0 (star (row b 0 u y) (star (row c 0 v z) H)) w) (hu : u ≠ []) (hv : v ≠ []) : b ≠ c := by
  obtain ⟨x, ⟨a, r, d, rfl, rfl, a2, r2, d2, rfl, rfl, h3⟩, hi⟩ := h
  intro e
  subst e
  have e1 : rowH b 0 u y b 0 ≠ none := by
    cases u with
    | nil => exact absurd rfl hu
    | cons q l => simp [rowH]
  have e2 : rowH b 0 v z b 0 ≠ none := by
    cases v with
    | nil => exact absurd rfl hv
    | cons q l => simp [rowH]
  rcases d b 0 with e | e
  · exact e1 e
  · unfold Hl.un at e
    cases hq : rowH b 0 v z b 0 with
    | none => exact e2 hq
    | some q => rw [hq] at e; cases e
section
variable {G : Type} (S : Sig G) {P : Program}
theorem ext_overlaps {f : FuncId} {fn : Func} {e : En} {tS tR et : TypeId} (hf : P.funcs[f]? = some fn) (hname : (fn.name == "runtime.NumGoroutine") = false) (hb : fn.body.isNone = true)
    (hn : Extern.findNext fn = none) (he : Extern.find fn = some (Extern.SlicesOverlaps.overlaps fn.params fn.resultTypes)) (hp : fn.params = #[tS, tS]) (hr : fn.resultTypes = #[tR])
    (ht : P.underlying tS = some (.slice et)) (hs : szOf P et = some e.stride) (h1 : 1 ≤ e.stride) : ExtOk S P f (ovCtr e) := by
  intro ch w0 F ρ w xs hx hq hsat
  obtain ⟨v1, v2, rfl, hv1, hv2⟩ : ∃ v1 v2, xs = [v1, v2] ∧ SV.R S ρ (.one (.slice (.at .int 0) (.int 0) (.at .int 1) (.at .int 2) (.at .int 3) (.at .int 4) e.stride)) v1 ∧
      SV.R S ρ (.one (.slice (.at .int 7) (.int 0) (.at .int 8) (.at .int 9) (.at .int 10) (.at .int 11) e.stride)) v2 := by
    match xs, hx with
    | [v1, v2], hx => exact ⟨v1, v2, rfl, hx.1, hx.2.1⟩
  have hv1 := R_one S ρ hv1
  have hv2 := R_one S ρ hv2
  have q1 := hq _ (by simp [ovCtr]; exact .inl rfl)
  have q2 := hq (eLe (.at .int 10) (.at .int 13)) (by simp [ovCtr])
  refine ⟨.bool false, w, ?_, ρ, Ext.refl _ _, .inr rfl, hsat, by simp [ovCtr]⟩
  rw [run_callFunc_extern hf hname hb hn he]
  have main : (Extern.SlicesOverlaps.overlaps fn.params fn.resultTypes #[v1, v2]).run P w = .ok (.bool false) w := by
    rw [hp, hr]
    have hz : ∀ w, (sizeOf et).run P w = .ok e.stride w := fun w => run_sizeOfE hs w
    subst hv1; subst hv2
    have triv : ∀ (a b : Option Addr) (la lb ca cb : Nat), (la = 0 ∨ lb = 0 ∨ a = none ∨ b = none) → (Extern.SlicesOverlaps.overlaps #[tS, tS] #[tR] #[.slice a la ca, .slice b lb cb]).run P w = .ok (.bool false) w := by
      intro a b la lb ca cb hor
      change Sem.run P (α := Value) (do
        let some t := (#[tS, tS] : Array TypeId)[0]? | stuck "slices.overlaps: no parameter types"
        let .slice elem ← underlying t | stuck "slices.overlaps: slice type expected"
        let size ← sizeOf elem
        match (a : Option Addr), (b : Option Addr) with
        | some a, some b =>
          if la = 0 ∨ lb = 0 ∨ size = 0 then pure (Value.bool false)
          else if a.block != b.block && (← frozen a) && (← frozen b) then unsupported .addressObserved
          else do
            if a.block != b.block then do
              noView a; noView b
              if ← mayBeOne a b then return Value.bool ((← choose (.extern "sameAddr.stringBytes" 2)) == 1)
            pure (Value.bool (a.block == b.block && a.off < b.off + lb * size && b.off < a.off + la * size))
        | _, _ => pure (Value.bool false)) w = _
      cases a <;> cases b <;> simp [run_underlying ht, hz]
      rcases hor with h | h | h | h
      · simp [h]
      · simp [h]
      · cases h
      · cases h
    simp only [SC.den]
    rw [eLe_den] at q1 q2
    generalize hb1 : ((SX.at .int 0).den S ρ).toInt = b1 at *
    generalize hb2 : ((SX.at .int 7).den S ρ).toInt = b2 at *
    by_cases n1 : b1 < 0
    · exact triv _ _ _ _ _ _ (.inr (.inr (.inl (by simp [n1]))))
    by_cases n2 : b2 < 0
    · exact triv _ _ _ _ _ _ (.inr (.inr (.inr (by simp [n2]))))
    by_cases n3 : ((SX.at .int 3).den S ρ).toInt.toNat = 0
    · exact triv _ _ _ _ _ _ (.inl n3)
    by_cases n4 : ((SX.at .int 10).den S ρ).toInt.toNat = 0
    · exact triv _ _ _ _ _ _ (.inr (.inl n4))
    rw [if_neg n1, if_neg n2]
    simp only [ovCtr, hpDen_cons, star_assoc, Ch.den] at hsat
    rw [SX.den_wc, SX.den_wc, SX.den_wc, SX.den_wc, SX.den_wc, SX.den_wc] at hsat
    obtain ⟨spare1, hsat⟩ := sat_ex hsat
    obtain ⟨g1, hsat⟩ := sat_and hsat
    obtain ⟨g2, hsat⟩ := sat_and hsat
    obtain ⟨g3, hsat⟩ := sat_and hsat
    rw [← star_assoc, star_comm (row _ _ _ _), star_assoc] at hsat
    obtain ⟨spare2, hsat⟩ := sat_ex hsat
    obtain ⟨k1, hsat⟩ := sat_and hsat
    obtain ⟨k2, hsat⟩ := sat_and hsat
    obtain ⟨k3, hsat⟩ := sat_and hsat
    rw [hb1] at g3 hsat
    rw [hb2] at k3 hsat
    generalize hA : e.vals ((SX.at e.srt 5).den S ρ) ++ spare1 = A at *
    generalize hB : e.vals ((SX.at e.srt 12).den S ρ) ++ spare2 = B at *
    have lA : A.length = ((SX.at .int 6).den S ρ).toInt.toNat * e.stride := by rw [← hA, List.length_append]; exact g1
    have lB : B.length = ((SX.at .int 13).den S ρ).toInt.toNat * e.stride := by rw [← hB, List.length_append]; exact k1
    have pA : 0 < A.length := by rw [lA]; exact Nat.mul_pos (by omega) h1
    have pB : 0 < B.length := by rw [lB]; exact Nat.mul_pos (by omega) h1
    have nA : A ≠ [] := List.length_pos_iff.1 pA
    have nB : B ≠ [] := List.length_pos_iff.1 pB
    have hne := rows_apart hsat nB nA
    obtain ⟨cB, eB, hB'⟩ := Sat.load_strict hsat nB
    obtain ⟨cellB, _⟩ := hsat.load (i := 0) pB
    rw [star_left_comm] at hsat
    obtain ⟨cA, eA, hA'⟩ := Sat.load_strict hsat nA
    refine Lib.run_overlaps_apart w tS tR et ht e.stride hz ⟨b1.toNat, _, none⟩ ⟨b2.toNat, _, none⟩ _ _ _ _ (fun h => hne h.symm) eA eB cA.size cB.size ?_ ?_ ?_ ?_ ?_
    · simp [World.shape?, hA']
    · simp [World.shape?, hB']
    · intro h0
      simp only [World.cell?, hB'] at cellB
      have : cB = #[] := Array.eq_empty_of_size_eq_zero h0
      rw [this] at cellB
      simp at cellB
    · simp [World.frozen?, hA']
    · simp [World.frozen?, hA']
  rw [show ([v1, v2] : List Value).toArray = #[v1, v2] from rfl, main]
  rfl
end
end
end Go.Eng

/- A small judge of formulas: it knows lower bounds. -/
set_option linter.unusedSimpArgs false
set_option linter.unusedVariables false
namespace Go.Eng
noncomputable section
abbrev LB := List (Nat × Int)
def LB.get : LB → Nat → Option Int
  | [], _ => none
  | (j, l) :: r, i => bif Nat.beq j i then some l else LB.get r i
mutual
def lbOf (lo hi : LB) : SX → Option Int
  | .int n => some n
  | .at s i => (match s with | .int => LB.get lo i | _ => none)
  | .f1 f _ => (match f with | 30 | 31 | 32 | 33 => some 0 | _ => none)
  | .f2 f a b => (match f with
    | 40 => (match lbOf lo hi a, lbOf lo hi b with | some x, some y => some (x + y) | _, _ => none)
    | 41 => (match lbOf lo hi a, ubOf lo hi b with | some x, some y => some (x - y) | _, _ => none)
    | 111 => some 0
    | _ => none)
  | _ => none
def ubOf (lo hi : LB) : SX → Option Int
  | .int n => some n
  | .at s i => (match s with | .int => (match LB.get hi i with | some x => some (-x) | none => none) | _ => none)
  | .f2 f a b => (match f with
    | 40 => (match ubOf lo hi a, ubOf lo hi b with | some x, some y => some (x + y) | _, _ => none)
    | 41 => (match ubOf lo hi a, lbOf lo hi b with | some x, some y => some (x - y) | _, _ => none)
    | 111 => some 255
    | _ => none)
  | _ => none
end
def LB.put (i : Nat) (c : Int) : LB → LB
  | [] => [(i, c)]
  | (j, l) :: r => bif Nat.beq j i then (j, max l c) :: r else bif Nat.blt j i then (i, c) :: (j, l) :: r else (j, l) :: LB.put i c r
def learnLo (lo : LB) (e : SX) : LB :=
  match e with
  | .f2 f (.int c) (.at .int i) => (match f with | 47 => LB.put i c lo | 46 => LB.put i (c + 1) lo | _ => lo)
  | _ => lo
def learnHi (hi : LB) (e : SX) : LB :=
  match e with
  | .f2 f (.at .int i) (.int c) => (match f with | 47 => LB.put i (-c) hi | 46 => LB.put i (-(c - 1)) hi | _ => hi)
  | _ => hi
/-- A measure that falls by a written number. -/
def fallsBy : SX → SX → Bool
  | .f2 f x (.f2 g y (.int (.ofNat (_ + 1)))), .f2 f' x' y' => bif (bif Nat.beq f 41 then (bif Nat.beq g 40 then Nat.beq f' 41 else false) else false) then (bif SX.bq x x' then SX.bq y y' else false) else false
  | _, _ => false
def proves (lo hi : LB) : SX → Bool
  | .bool b => b
  | .f1 f x => (match f with
    | 23 => (match lbOf lo hi x, ubOf lo hi x with | some l, some u => bif decide (-9223372036854775808 ≤ l) then decide (u ≤ 9223372036854775807) else false | _, _ => false)
    | _ => false)
  | .f2 f a b => (match f with
    | 47 => (match ubOf lo hi a, lbOf lo hi b with | some u, some l => decide (u ≤ l) | _, _ => false)
    | 46 => bif fallsBy a b then true else (match ubOf lo hi a, lbOf lo hi b with | some u, some l => decide (u < l) | _, _ => false)
    | _ => false)
  | _ => false
def allB (c : Int) : List UInt8 → Bool
  | [] => true
  | x :: l => bif ibq (.ofNat x.toNat) c then allB c l else false
def absurdE (lo hi : LB) : SX → Bool
  | .bool b => !b
  | .f1 f x => (match f, x with
    | 2, .f2 45 (.f2 111 (.byt l) i) (.int c) => (match lbOf lo hi i, ubOf lo hi i with
      | some (.ofNat a), some (.ofNat b) => bif Nat.blt b l.length then allB c ((l.drop a).take (b + 1 - a)) else false
      | _, _ => false)
    | _, _ => false)
  | .f2 f a b => (match f with
    | 47 => (match lbOf lo hi a, ubOf lo hi b with | some l, some u => decide (u < l) | _, _ => false)
    | 46 => (match lbOf lo hi a, ubOf lo hi b with | some l, some u => decide (u ≤ l) | _, _ => false)
    | _ => false)
  | _ => false
def LB.below (n : Nat) : LB → LB
  | [] => []
  | (j, l) :: r => bif Nat.blt j n then (j, l) :: r else LB.below n r
def VC.chk : LB → LB → VC → Bool
  | _, _, .tt => true
  | _, _, .ff _ => false
  | lo, hi, .and a b => bif VC.chk lo hi a then VC.chk lo hi b else false
  | lo, hi, .imp e a => bif absurdE lo hi e then true else VC.chk (learnLo lo e) (learnHi hi e) a
  | lo, hi, .need e a => bif proves lo hi e then VC.chk (learnLo lo e) (learnHi hi e) a else false
  | lo, hi, .all n _ a => VC.chk (LB.below n lo) (LB.below n hi) a

section
variable {G : Type} (S : Sig G)
def LBOk (v : Nat → Int) (env : LB) : Prop := env.Pairwise (fun a b => b.1 < a.1) ∧ ∀ p ∈ env, p.2 ≤ v p.1
theorem LB.get_ok {v : Nat → Int} : ∀ {env : LB}, (∀ p ∈ env, p.2 ≤ v p.1) → ∀ {i : Nat} {l : Int}, LB.get env i = some l → l ≤ v i
  | [], _, _, _, h => nomatch h
  | (j, l') :: r, ho, i, l, h => by
    simp only [LB.get] at h
    cases hb : Nat.beq j i
    · rw [hb] at h; exact LB.get_ok (fun p hp => ho p (List.mem_cons_of_mem _ hp)) h
    · rw [hb] at h; cases h
      have := ho _ List.mem_cons_self
      rw [Nat.eq_of_beq_eq_true hb] at this; exact this
theorem bnd_ok {ρ : Env G} {lo hi : LB} (ho : ∀ p ∈ lo, p.2 ≤ (ρ p.1).toInt) (hh : ∀ p ∈ hi, p.2 ≤ -(ρ p.1).toInt) : ∀ {e : SX},
    (∀ {l : Int}, lbOf lo hi e = some l → l ≤ (e.den S ρ).toInt) ∧ (∀ {l : Int}, ubOf lo hi e = some l → (e.den S ρ).toInt ≤ l) := by
  intro e
  induction e with
  | int n => exact ⟨fun h => (by simp only [lbOf] at h; cases h; exact Int.le_refl _), fun h => (by simp only [ubOf] at h; cases h; exact Int.le_refl _)⟩
  | «at» s i =>
    refine ⟨fun h => ?_, fun h => ?_⟩
    · simp only [lbOf] at h
      cases s <;> simp only [reduceCtorEq] at h
      exact LB.get_ok (v := fun i => (ρ i).toInt) ho h
    · simp only [ubOf] at h
      cases s <;> simp only [reduceCtorEq] at h
      split at h
      · rename_i x hx
        cases h
        have := LB.get_ok (v := fun i => -(ρ i).toInt) hh hx
        simp only [SX.den, U.co, U.toInt_int]
        omega
      · cases h
  | f1 f a _ =>
    refine ⟨fun h => ?_, fun h => ?_⟩
    · simp only [lbOf] at h
      split at h <;> cases h
      all_goals simp only [SX.den, ap1, U.toInt_int]; omega
    · simp only [ubOf] at h; cases h
  | f2 f a b iha ihb =>
    refine ⟨fun h => ?_, fun h => ?_⟩
    · simp only [lbOf] at h
      split at h
      · split at h
        · rename_i x y hx hy
          cases h
          have := iha.1 hx
          have := ihb.1 hy
          simp only [SX.den, ap2, U.toInt_int]; omega
        · cases h
      · split at h
        · rename_i x y hx hy
          cases h
          have := iha.1 hx
          have := ihb.2 hy
          simp only [SX.den, ap2, U.toInt_int]; omega
        · cases h
      · cases h
        simp only [SX.den, ap2, U.toInt_int]; omega
      · cases h
    · simp only [ubOf] at h
      split at h
      · split at h
        · rename_i x y hx hy
          cases h
          have := iha.2 hx
          have := ihb.2 hy
          simp only [SX.den, ap2, U.toInt_int]; omega
        · cases h
      · split at h
        · rename_i x y hx hy
          cases h
          have := iha.2 hx
          have := ihb.1 hy
          simp only [SX.den, ap2, U.toInt_int]; omega
        · cases h
      · cases h
        simp only [SX.den, ap2, U.toInt_int]
        have := (((a.den S ρ).toBytes.getD (b.den S ρ).toInt.toNat 0)).toNat_lt
        omega
      · cases h
  | _ => exact ⟨fun h => (by simp only [lbOf] at h; cases h), fun h => (by simp only [ubOf] at h; cases h)⟩
theorem LB.put_ok {ρ : Nat → Int} {i : Nat} {c : Int} (hc : c ≤ ρ i) : ∀ {env : LB}, LBOk ρ env → LBOk ρ (LB.put i c env) ∧ ∀ p ∈ LB.put i c env, p.1 = i ∨ ∃ q ∈ env, q.1 = p.1
  | [], _ => ⟨⟨List.pairwise_singleton _ _, fun p hp => by rw [LB.put, List.mem_singleton] at hp; subst hp; exact hc⟩, fun p hp => by rw [LB.put, List.mem_singleton] at hp; subst hp; exact .inl rfl⟩
  | (j, l) :: r, h => by
    obtain ⟨hp, ho⟩ := h
    rw [List.pairwise_cons] at hp
    simp only [LB.put]
    cases h1 : Nat.beq j i
    · cases h2 : Nat.blt j i
      · have ih := LB.put_ok hc (env := r) ⟨hp.2, fun p hq => ho p (List.mem_cons_of_mem _ hq)⟩
        have hij : i < j := by
          have e1 : ¬ j < i := fun hh => by rw [← Nat.blt_eq] at hh; rw [h2] at hh; cases hh
          have e2 : j ≠ i := fun hh => by rw [hh, Nat.beq_refl] at h1; cases h1
          omega
        simp only [cond_false]
        refine ⟨⟨List.pairwise_cons.2 ⟨fun p hq => ?_, ih.1.1⟩, fun p hq => ?_⟩, fun p hq => ?_⟩
        · rcases ih.2 p hq with e | ⟨q, hq', e⟩
          · rw [e]; exact hij
          · rw [← e]; exact hp.1 q hq'
        · rcases List.mem_cons.1 hq with rfl | hq
          · exact ho _ List.mem_cons_self
          · exact ih.1.2 p hq
        · rcases List.mem_cons.1 hq with rfl | hq
          · exact .inr ⟨_, List.mem_cons_self, rfl⟩
          · rcases ih.2 p hq with e | ⟨q, hq', e⟩
            · exact .inl e
            · exact .inr ⟨q, List.mem_cons_of_mem _ hq', e⟩
      · rw [Nat.blt_eq] at h2
        simp only [cond_true, cond_false]
        refine ⟨⟨List.pairwise_cons.2 ⟨fun p hq => ?_, List.pairwise_cons.2 hp⟩, fun p hq => ?_⟩, fun p hq => ?_⟩
        · rcases List.mem_cons.1 hq with rfl | hq
          · exact h2
          · have := hp.1 p hq; omega
        · rcases List.mem_cons.1 hq with rfl | hq
          · exact hc
          · exact ho p hq
        · rcases List.mem_cons.1 hq with rfl | hq
          · exact .inl rfl
          · exact .inr ⟨p, hq, rfl⟩
    · have e := Nat.eq_of_beq_eq_true h1
      subst e
      simp only [cond_true]
      refine ⟨⟨List.pairwise_cons.2 ⟨fun p hq => hp.1 p hq, hp.2⟩, fun p hq => ?_⟩, fun p hq => ?_⟩
      · rcases List.mem_cons.1 hq with rfl | hq
        · have := ho (j, l) List.mem_cons_self
          simp only at this ⊢; omega
        · exact ho p (List.mem_cons_of_mem _ hq)
      · rcases List.mem_cons.1 hq with rfl | hq
        · exact .inl rfl
        · exact .inr ⟨p, List.mem_cons_of_mem _ hq, rfl⟩
abbrev loV (ρ : Env G) : Nat → Int := fun i => (ρ i).toInt
abbrev hiV (ρ : Env G) : Nat → Int := fun i => -(ρ i).toInt
theorem learnLo_ok {ρ : Env G} {env : LB} (h : LBOk (loV ρ) env) {e : SX} (he : (e.den S ρ).toProp) : LBOk (loV ρ) (learnLo env e) := by
  unfold learnLo
  split
  · rename_i f c i
    split
    · have he : decide (c ≤ (ρ i).toInt) = true := he
      exact (LB.put_ok (of_decide_eq_true he) h).1
    · have he : decide (c < (ρ i).toInt) = true := he
      have := of_decide_eq_true he
      exact (LB.put_ok (by simp only [loV]; omega) h).1
    · exact h
  · exact h
theorem learnHi_ok {ρ : Env G} {env : LB} (h : LBOk (hiV ρ) env) {e : SX} (he : (e.den S ρ).toProp) : LBOk (hiV ρ) (learnHi env e) := by
  unfold learnHi
  split
  · rename_i f i c
    split
    · have he : decide ((ρ i).toInt ≤ c) = true := he
      have := of_decide_eq_true he
      exact (LB.put_ok (by simp only [hiV]; omega) h).1
    · have he : decide ((ρ i).toInt < c) = true := he
      have := of_decide_eq_true he
      exact (LB.put_ok (by simp only [hiV]; omega) h).1
    · exact h
  · exact h
theorem fallsBy_ok {ρ : Env G} {a b : SX} (h : fallsBy a b = true) : (a.den S ρ).toInt < (b.den S ρ).toInt := by
  unfold fallsBy at h
  split at h
  · rename_i f x g y n f' x' y'
    cases h1 : Nat.beq f 41
    · rw [h1] at h; cases h
    cases h2 : Nat.beq g 40
    · rw [h1, h2] at h; cases h
    cases h3 : Nat.beq f' 41
    · rw [h1, h2, h3] at h; cases h
    cases h4 : SX.bq x x'
    · rw [h1, h2, h3, h4] at h; cases h
    rw [h1, h2, h3, h4] at h
    have e1 := Nat.eq_of_beq_eq_true h1
    have e2 := Nat.eq_of_beq_eq_true h2
    have e3 := Nat.eq_of_beq_eq_true h3
    have e4 := SX.bq_eq h4
    have e5 := SX.bq_eq h
    subst e1; subst e2; subst e3; subst e4; subst e5
    simp only [SX.den, ap2, U.toInt_int]
    have e6 : (Int.ofNat n.succ : Int) = (n : Int) + 1 := rfl
    rw [e6]
    omega
  · cases h
theorem proves_ok {ρ : Env G} {lo hi : LB} (ho : LBOk (loV ρ) lo) (hh : LBOk (hiV ρ) hi) {e : SX} (he : proves lo hi e = true) : (e.den S ρ).toProp := by
  have B := @bnd_ok G S ρ lo hi ho.2 hh.2
  unfold proves at he
  split at he
  · simp [SX.den, he]
  · rename_i f x
    split at he
    · split at he
      · rename_i l u hl hu
        have b1 := (B).1 hl
        have b2 := (B).2 hu
        cases h1 : decide (-9223372036854775808 ≤ l)
        · rw [h1] at he; cases he
        rw [h1] at he
        have q1 := of_decide_eq_true h1
        have q2 := of_decide_eq_true he
        show (decide (IntKind.i64.min ≤ (x.den S ρ).toInt) && decide ((x.den S ρ).toInt ≤ IntKind.i64.max)) = true
        rw [Bool.and_eq_true]
        refine ⟨decide_eq_true ?_, decide_eq_true ?_⟩
        · show (-(2 ^ 63) : Int) ≤ _; omega
        · show _ ≤ (2 ^ 63 - 1 : Int); omega
      · cases he
    · cases he
  · rename_i f a b
    split at he
    · split at he
      · rename_i u l hu hl
        have b1 := (B).2 hu
        have b2 := (B).1 hl
        have := of_decide_eq_true he
        show decide ((a.den S ρ).toInt ≤ (b.den S ρ).toInt) = true
        exact decide_eq_true (by omega)
      · cases he
    · cases hf : fallsBy a b
      · rw [hf] at he
        simp only [cond_false] at he
        split at he
        · rename_i u l hu hl
          have b1 := (B).2 hu
          have b2 := (B).1 hl
          have := of_decide_eq_true he
          show decide ((a.den S ρ).toInt < (b.den S ρ).toInt) = true
          exact decide_eq_true (by omega)
        · cases he
      · show decide ((a.den S ρ).toInt < (b.den S ρ).toInt) = true
        exact decide_eq_true (fallsBy_ok S hf)
    · cases he
  · cases he
theorem allB_ok {c : Int} : ∀ {l : List UInt8}, allB c l = true → ∀ x ∈ l, ((x.toNat : Nat) : Int) = c
  | [], _, x, hx => nomatch hx
  | y :: l, h, x, hx => by
    simp only [allB] at h
    cases h1 : ibq (.ofNat y.toNat) c
    · rw [h1] at h; cases h
    · rw [h1] at h
      rcases List.mem_cons.1 hx with rfl | hx
      · exact ibq_eq h1
      · exact allB_ok h x hx
theorem absurdE_ok {ρ : Env G} {lo hi : LB} (ho : LBOk (loV ρ) lo) (hh : LBOk (hiV ρ) hi) {e : SX} (he : absurdE lo hi e = true) : ¬ (e.den S ρ).toProp := by
  have B := @bnd_ok G S ρ lo hi ho.2 hh.2
  unfold absurdE at he
  split at he
  · rename_i b; cases b <;> simp [SX.den] at he ⊢
  · rename_i f x
    split at he
    · rename_i l i c
      split at he
      · rename_i a b hl hu
        have b1 := (B).1 hl
        have b2 := (B).2 hu
        cases h1 : Nat.blt b l.length
        · rw [h1] at he; cases he
        rw [h1] at he
        simp only [cond_true] at he
        rw [Nat.blt_eq] at h1
        have c1 : (Int.ofNat a : Int) = (a : Int) := rfl
        have c2 : (Int.ofNat b : Int) = (b : Int) := rfl
        have hlt : (i.den S ρ).toInt.toNat < l.length := by omega
        have hval : ((((l.getD (i.den S ρ).toInt.toNat 0).toNat : Nat) : Int)) = c := by
          apply allB_ok he
          rw [List.getD_eq_getElem?_getD, List.getElem?_eq_getElem hlt]
          apply List.mem_iff_getElem?.2
          refine ⟨(i.den S ρ).toInt.toNat - a, ?_⟩
          rw [List.getElem?_take_of_lt (by omega), List.getElem?_drop, show a + ((i.den S ρ).toInt.toNat - a) = (i.den S ρ).toInt.toNat by omega, List.getElem?_eq_getElem hlt]
          rfl
        intro hq
        have hq : (!((((l.getD (i.den S ρ).toInt.toNat 0).toNat : Nat) : Int) == c)) = true := hq
        rw [hval] at hq
        simp at hq
      · cases he
    · cases he
  · rename_i f a b
    split at he
    · split at he
      · rename_i l u hl hu
        have b1 := (B).1 hl
        have b2 := (B).2 hu
        have := of_decide_eq_true he
        intro hq
        have hq : decide ((a.den S ρ).toInt ≤ (b.den S ρ).toInt) = true := hq
        have := of_decide_eq_true hq
        omega
      · cases he
    · split at he
      · rename_i l u hl hu
        have b1 := (B).1 hl
        have b2 := (B).2 hu
        have := of_decide_eq_true he
        intro hq
        have hq : decide ((a.den S ρ).toInt < (b.den S ρ).toInt) = true := hq
        have := of_decide_eq_true hq
        omega
      · cases he
    · cases he
  · cases he
theorem below_ok {v v' : Nat → Int} {n : Nat} (hv : ∀ i, i < n → v' i = v i) : ∀ {env : LB}, LBOk v env → LBOk v' (LB.below n env)
  | [], _ => ⟨List.Pairwise.nil, fun _ h => nomatch h⟩
  | (j, l) :: r, h => by
    simp only [LB.below]
    obtain ⟨hp, ho⟩ := h
    have hp' := List.pairwise_cons.1 hp
    cases h1 : Nat.blt j n
    · exact below_ok hv ⟨hp'.2, fun p hq => ho p (List.mem_cons_of_mem _ hq)⟩
    · rw [Nat.blt_eq] at h1
      refine ⟨hp, fun p hq => ?_⟩
      have hlt : p.1 < n := by
        rcases List.mem_cons.1 hq with rfl | hq
        · exact h1
        · have := hp'.1 p hq; simp only at this; omega
      rw [hv _ hlt]; exact ho p hq
theorem upd_low (ρ : Env G) (n : Nat) (u : U G) (i : Nat) (h : i < n) : ρ.upd n u i = ρ i := by unfold Env.upd; rw [if_neg (by omega)]
theorem VC.chk_ok : ∀ (v : VC) (lo hi : LB) (ρ : Env G), LBOk (loV ρ) lo → LBOk (hiV ρ) hi → VC.chk lo hi v = true → v.den S ρ := by
  intro v
  induction v with
  | tt => intro _ _ _ _ _ _; trivial
  | ff n => intro _ _ _ _ _ h; cases h
  | and a b iha ihb =>
    intro lo hi ρ ho hh h
    simp only [VC.chk] at h
    cases h1 : VC.chk lo hi a
    · rw [h1] at h; cases h
    · rw [h1] at h; exact ⟨iha lo hi ρ ho hh h1, ihb lo hi ρ ho hh h⟩
  | imp e a ih =>
    intro lo hi ρ ho hh h he
    simp only [VC.chk] at h
    cases h1 : absurdE lo hi e
    · rw [h1] at h; exact ih _ _ ρ (learnLo_ok S ho he) (learnHi_ok S hh he) h
    · exact absurd he (absurdE_ok S ho hh h1)
  | need e a ih =>
    intro lo hi ρ ho hh h
    simp only [VC.chk] at h
    cases h1 : proves lo hi e
    · rw [h1] at h; cases h
    · rw [h1] at h
      have he := proves_ok S ho hh h1
      exact ⟨he, ih _ _ ρ (learnLo_ok S ho he) (learnHi_ok S hh he) h⟩
  | all n s a ih =>
    intro lo hi ρ ho hh h
    have key : ∀ u : U G, a.den S (ρ.upd n u) := fun u => ih _ _ _ (below_ok (fun i hi => by simp only [loV, upd_low ρ n u i hi]) ho) (below_ok (fun i hi => by simp only [hiV, upd_low ρ n u i hi]) hh) h
    cases s <;> exact fun x => key _
theorem vc_chk {v : VC} (h : VC.chk [] [] v = true) (ρ : Env G) : v.den S ρ := VC.chk_ok S v [] [] ρ ⟨List.Pairwise.nil, fun _ h => nomatch h⟩ ⟨List.Pairwise.nil, fun _ h => nomatch h⟩ h
end
end
end Go.Eng

/- What each of the library's functions means, one equation each. -/
set_option linter.unusedSimpArgs false
set_option linter.unusedVariables false
namespace Go.Eng
noncomputable section
section
variable {G : Type}
theorem ap1_1 (a : U G) : ap1 1 a = .int (-a.toInt) := rfl
theorem ap1_2 (a : U G) : ap1 2 a = .bool (!a.toBool) := rfl
theorem ap1_3 (a : U G) : ap1 3 a = .int (if a.toBool then 1 else 0) := rfl
theorem ap1_4 (a : U G) : ap1 4 a = .int a.toInt := rfl
theorem ap1_10 (a : U G) : ap1 10 a = .int (IntKind.wrap .i8 a.toInt) := rfl
theorem ap1_11 (a : U G) : ap1 11 a = .int (IntKind.wrap .i16 a.toInt) := rfl
theorem ap1_12 (a : U G) : ap1 12 a = .int (IntKind.wrap .i32 a.toInt) := rfl
theorem ap1_13 (a : U G) : ap1 13 a = .int (IntKind.wrap .i64 a.toInt) := rfl
theorem ap1_14 (a : U G) : ap1 14 a = .int (IntKind.wrap .u8 a.toInt) := rfl
theorem ap1_15 (a : U G) : ap1 15 a = .int (IntKind.wrap .u16 a.toInt) := rfl
theorem ap1_16 (a : U G) : ap1 16 a = .int (IntKind.wrap .u32 a.toInt) := rfl
theorem ap1_17 (a : U G) : ap1 17 a = .int (IntKind.wrap .u64 a.toInt) := rfl
theorem ap1_20 (a : U G) : ap1 20 a = .bool (decide (IntKind.min .i8 ≤ a.toInt) && decide (a.toInt ≤ IntKind.max .i8)) := rfl
theorem ap1_21 (a : U G) : ap1 21 a = .bool (decide (IntKind.min .i16 ≤ a.toInt) && decide (a.toInt ≤ IntKind.max .i16)) := rfl
theorem ap1_22 (a : U G) : ap1 22 a = .bool (decide (IntKind.min .i32 ≤ a.toInt) && decide (a.toInt ≤ IntKind.max .i32)) := rfl
theorem ap1_23 (a : U G) : ap1 23 a = .bool (decide (IntKind.min .i64 ≤ a.toInt) && decide (a.toInt ≤ IntKind.max .i64)) := rfl
theorem ap1_24 (a : U G) : ap1 24 a = .bool (decide (IntKind.min .u8 ≤ a.toInt) && decide (a.toInt ≤ IntKind.max .u8)) := rfl
theorem ap1_25 (a : U G) : ap1 25 a = .bool (decide (IntKind.min .u16 ≤ a.toInt) && decide (a.toInt ≤ IntKind.max .u16)) := rfl
theorem ap1_26 (a : U G) : ap1 26 a = .bool (decide (IntKind.min .u32 ≤ a.toInt) && decide (a.toInt ≤ IntKind.max .u32)) := rfl
theorem ap1_27 (a : U G) : ap1 27 a = .bool (decide (IntKind.min .u64 ≤ a.toInt) && decide (a.toInt ≤ IntKind.max .u64)) := rfl
theorem ap1_30 (a : U G) : ap1 30 a = .int a.toInts.length := rfl
theorem ap1_31 (a : U G) : ap1 31 a = .int a.toBytes.length := rfl
theorem ap1_32 (a : U G) : ap1 32 a = .int a.toRows.length := rfl
theorem ap1_33 (a : U G) : ap1 33 a = .int a.toMap.length := rfl
theorem ap1_152 (a : U G) : ap1 152 a = .ints [] := rfl
theorem ap1_153 (a : U G) : ap1 153 a = .bytes [] := rfl
theorem ap1_154 (a : U G) : ap1 154 a = .rows [] := rfl
theorem ap1_155 (a : U G) : ap1 155 a = .amap [] := rfl
theorem ap1_160 (a : U G) : ap1 160 a = .int (crcRun 4294967295 a.toBytes : Nat) := rfl
theorem ap2_40 (a b : U G) : ap2 40 a b = .int (a.toInt + b.toInt) := rfl
theorem ap2_41 (a b : U G) : ap2 41 a b = .int (a.toInt - b.toInt) := rfl
theorem ap2_42 (a b : U G) : ap2 42 a b = .int (a.toInt * b.toInt) := rfl
theorem ap2_43 (a b : U G) : ap2 43 a b = .int (a.toInt.tdiv b.toInt) := rfl
theorem ap2_44 (a b : U G) : ap2 44 a b = .int (a.toInt.tmod b.toInt) := rfl
theorem ap2_45 (a b : U G) : ap2 45 a b = .bool (a.toInt == b.toInt) := rfl
theorem ap2_46 (a b : U G) : ap2 46 a b = .bool (decide (a.toInt < b.toInt)) := rfl
theorem ap2_47 (a b : U G) : ap2 47 a b = .bool (decide (a.toInt ≤ b.toInt)) := rfl
theorem ap2_48 (a b : U G) : ap2 48 a b = .bool (a.toBool == b.toBool) := rfl
theorem ap2_49 (a b : U G) : ap2 49 a b = .bool (a.toBool && b.toBool) := rfl
theorem ap2_50 (a b : U G) : ap2 50 a b = .bool (a.toBool || b.toBool) := rfl
theorem ap2_51 (a b : U G) : ap2 51 a b = .int (if b.toInt < a.toInt then b.toInt else a.toInt) := rfl
theorem ap2_52 (a b : U G) : ap2 52 a b = .int (if b.toInt > a.toInt then b.toInt else a.toInt) := rfl
theorem ap2_60 (a b : U G) : ap2 60 a b = .int (bitsV .and .i8 a.toInt b.toInt) := rfl
theorem ap2_61 (a b : U G) : ap2 61 a b = .int (bitsV .and .i16 a.toInt b.toInt) := rfl
theorem ap2_62 (a b : U G) : ap2 62 a b = .int (bitsV .and .i32 a.toInt b.toInt) := rfl
theorem ap2_63 (a b : U G) : ap2 63 a b = .int (bitsV .and .i64 a.toInt b.toInt) := rfl
theorem ap2_64 (a b : U G) : ap2 64 a b = .int (bitsV .and .u8 a.toInt b.toInt) := rfl
theorem ap2_65 (a b : U G) : ap2 65 a b = .int (bitsV .and .u16 a.toInt b.toInt) := rfl
theorem ap2_66 (a b : U G) : ap2 66 a b = .int (bitsV .and .u32 a.toInt b.toInt) := rfl
theorem ap2_67 (a b : U G) : ap2 67 a b = .int (bitsV .and .u64 a.toInt b.toInt) := rfl
theorem ap2_68 (a b : U G) : ap2 68 a b = .int (bitsV .or .i8 a.toInt b.toInt) := rfl
theorem ap2_69 (a b : U G) : ap2 69 a b = .int (bitsV .or .i16 a.toInt b.toInt) := rfl
theorem ap2_70 (a b : U G) : ap2 70 a b = .int (bitsV .or .i32 a.toInt b.toInt) := rfl
theorem ap2_71 (a b : U G) : ap2 71 a b = .int (bitsV .or .i64 a.toInt b.toInt) := rfl
theorem ap2_72 (a b : U G) : ap2 72 a b = .int (bitsV .or .u8 a.toInt b.toInt) := rfl
theorem ap2_73 (a b : U G) : ap2 73 a b = .int (bitsV .or .u16 a.toInt b.toInt) := rfl
theorem ap2_74 (a b : U G) : ap2 74 a b = .int (bitsV .or .u32 a.toInt b.toInt) := rfl
theorem ap2_75 (a b : U G) : ap2 75 a b = .int (bitsV .or .u64 a.toInt b.toInt) := rfl
theorem ap2_76 (a b : U G) : ap2 76 a b = .int (bitsV .xor .i8 a.toInt b.toInt) := rfl
theorem ap2_77 (a b : U G) : ap2 77 a b = .int (bitsV .xor .i16 a.toInt b.toInt) := rfl
theorem ap2_78 (a b : U G) : ap2 78 a b = .int (bitsV .xor .i32 a.toInt b.toInt) := rfl
theorem ap2_79 (a b : U G) : ap2 79 a b = .int (bitsV .xor .i64 a.toInt b.toInt) := rfl
theorem ap2_80 (a b : U G) : ap2 80 a b = .int (bitsV .xor .u8 a.toInt b.toInt) := rfl
theorem ap2_81 (a b : U G) : ap2 81 a b = .int (bitsV .xor .u16 a.toInt b.toInt) := rfl
theorem ap2_82 (a b : U G) : ap2 82 a b = .int (bitsV .xor .u32 a.toInt b.toInt) := rfl
theorem ap2_83 (a b : U G) : ap2 83 a b = .int (bitsV .xor .u64 a.toInt b.toInt) := rfl
theorem ap2_84 (a b : U G) : ap2 84 a b = .int (bitsV .andNot .i8 a.toInt b.toInt) := rfl
theorem ap2_85 (a b : U G) : ap2 85 a b = .int (bitsV .andNot .i16 a.toInt b.toInt) := rfl
theorem ap2_86 (a b : U G) : ap2 86 a b = .int (bitsV .andNot .i32 a.toInt b.toInt) := rfl
theorem ap2_87 (a b : U G) : ap2 87 a b = .int (bitsV .andNot .i64 a.toInt b.toInt) := rfl
theorem ap2_88 (a b : U G) : ap2 88 a b = .int (bitsV .andNot .u8 a.toInt b.toInt) := rfl
theorem ap2_89 (a b : U G) : ap2 89 a b = .int (bitsV .andNot .u16 a.toInt b.toInt) := rfl
theorem ap2_90 (a b : U G) : ap2 90 a b = .int (bitsV .andNot .u32 a.toInt b.toInt) := rfl
theorem ap2_91 (a b : U G) : ap2 91 a b = .int (bitsV .andNot .u64 a.toInt b.toInt) := rfl
theorem ap2_92 (a b : U G) : ap2 92 a b = .int (IntKind.wrap .i8 (a.toInt * 2 ^ (min b.toInt.toNat (IntKind.bits .i8)))) := rfl
theorem ap2_93 (a b : U G) : ap2 93 a b = .int (IntKind.wrap .i16 (a.toInt * 2 ^ (min b.toInt.toNat (IntKind.bits .i16)))) := rfl
theorem ap2_94 (a b : U G) : ap2 94 a b = .int (IntKind.wrap .i32 (a.toInt * 2 ^ (min b.toInt.toNat (IntKind.bits .i32)))) := rfl
theorem ap2_95 (a b : U G) : ap2 95 a b = .int (IntKind.wrap .i64 (a.toInt * 2 ^ (min b.toInt.toNat (IntKind.bits .i64)))) := rfl
theorem ap2_96 (a b : U G) : ap2 96 a b = .int (IntKind.wrap .u8 (a.toInt * 2 ^ (min b.toInt.toNat (IntKind.bits .u8)))) := rfl
theorem ap2_97 (a b : U G) : ap2 97 a b = .int (IntKind.wrap .u16 (a.toInt * 2 ^ (min b.toInt.toNat (IntKind.bits .u16)))) := rfl
theorem ap2_98 (a b : U G) : ap2 98 a b = .int (IntKind.wrap .u32 (a.toInt * 2 ^ (min b.toInt.toNat (IntKind.bits .u32)))) := rfl
theorem ap2_99 (a b : U G) : ap2 99 a b = .int (IntKind.wrap .u64 (a.toInt * 2 ^ (min b.toInt.toNat (IntKind.bits .u64)))) := rfl
theorem ap2_100 (a b : U G) : ap2 100 a b = .int (a.toInt.fdiv (2 ^ (min b.toInt.toNat (IntKind.bits .i8)))) := rfl
theorem ap2_101 (a b : U G) : ap2 101 a b = .int (a.toInt.fdiv (2 ^ (min b.toInt.toNat (IntKind.bits .i16)))) := rfl
theorem ap2_102 (a b : U G) : ap2 102 a b = .int (a.toInt.fdiv (2 ^ (min b.toInt.toNat (IntKind.bits .i32)))) := rfl
theorem ap2_103 (a b : U G) : ap2 103 a b = .int (a.toInt.fdiv (2 ^ (min b.toInt.toNat (IntKind.bits .i64)))) := rfl
theorem ap2_104 (a b : U G) : ap2 104 a b = .int (a.toInt.fdiv (2 ^ (min b.toInt.toNat (IntKind.bits .u8)))) := rfl
theorem ap2_105 (a b : U G) : ap2 105 a b = .int (a.toInt.fdiv (2 ^ (min b.toInt.toNat (IntKind.bits .u16)))) := rfl
theorem ap2_106 (a b : U G) : ap2 106 a b = .int (a.toInt.fdiv (2 ^ (min b.toInt.toNat (IntKind.bits .u32)))) := rfl
theorem ap2_107 (a b : U G) : ap2 107 a b = .int (a.toInt.fdiv (2 ^ (min b.toInt.toNat (IntKind.bits .u64)))) := rfl
theorem ap2_110 (a b : U G) : ap2 110 a b = .int (a.toInts.getD b.toInt.toNat 0) := rfl
theorem ap2_111 (a b : U G) : ap2 111 a b = .int ((a.toBytes.getD b.toInt.toNat 0).toNat : Nat) := rfl
theorem ap2_113 (a b : U G) : ap2 113 a b = .ints (a.toInts.take b.toInt.toNat) := rfl
theorem ap2_114 (a b : U G) : ap2 114 a b = .bytes (a.toBytes.take b.toInt.toNat) := rfl
theorem ap2_115 (a b : U G) : ap2 115 a b = .rows (a.toRows.take b.toInt.toNat) := rfl
theorem ap2_116 (a b : U G) : ap2 116 a b = .ints (a.toInts.drop b.toInt.toNat) := rfl
theorem ap2_117 (a b : U G) : ap2 117 a b = .bytes (a.toBytes.drop b.toInt.toNat) := rfl
theorem ap2_118 (a b : U G) : ap2 118 a b = .rows (a.toRows.drop b.toInt.toNat) := rfl
theorem ap2_119 (a b : U G) : ap2 119 a b = .ints (a.toInts ++ b.toInts) := rfl
theorem ap2_120 (a b : U G) : ap2 120 a b = .bytes (a.toBytes ++ b.toBytes) := rfl
theorem ap2_121 (a b : U G) : ap2 121 a b = .rows (a.toRows ++ b.toRows) := rfl
theorem ap2_122 (a b : U G) : ap2 122 a b = .ints (a.toInt :: b.toInts) := rfl
theorem ap2_123 (a b : U G) : ap2 123 a b = .bytes (UInt8.ofNat a.toInt.toNat :: b.toBytes) := rfl
theorem ap2_124 (a b : U G) : ap2 124 a b = .rows (a.toInts :: b.toRows) := rfl
theorem ap2_125 (a b : U G) : ap2 125 a b = .ints (List.replicate a.toInt.toNat b.toInt) := rfl
theorem ap2_126 (a b : U G) : ap2 126 a b = .bytes (List.replicate a.toInt.toNat (UInt8.ofNat b.toInt.toNat)) := rfl
theorem ap2_127 (a b : U G) : ap2 127 a b = .rows (List.replicate a.toInt.toNat b.toInts) := rfl
theorem ap2_141 (a b : U G) : ap2 141 a b = .bool (mhas a.toMap b.toInt) := rfl
theorem ap2_143 (a b : U G) : ap2 143 a b = .amap (mdel a.toMap b.toInt) := rfl
theorem ap2_150 (a b : U G) : ap2 150 a b = .bool (a.toBytes == b.toBytes) := rfl
theorem ap2_151 (a b : U G) : ap2 151 a b = .bool (Op.bytesLess a.toBytes b.toBytes) := rfl
theorem ap2_153 (a b : U G) : ap2 153 a b = .bool (a.toInts == b.toInts) := rfl
theorem ap3_112 (a b c : U G) : ap3 112 a b c = .int ((a.toRows.getD b.toInt.toNat []).getD c.toInt.toNat 0) := rfl
theorem ap3_130 (a b c : U G) : ap3 130 a b c = .ints (a.toInts.set b.toInt.toNat c.toInt) := rfl
theorem ap3_131 (a b c : U G) : ap3 131 a b c = .bytes (a.toBytes.set b.toInt.toNat (UInt8.ofNat c.toInt.toNat)) := rfl
theorem ap3_132 (a b c : U G) : ap3 132 a b c = .rows (a.toRows.set b.toInt.toNat c.toInts) := rfl
theorem ap3_133 (a b c : U G) : ap3 133 a b c = .int (if a.toBool then b.toInt else c.toInt) := rfl
theorem ap3_134 (a b c : U G) : ap3 134 a b c = .bool (if a.toBool then b.toBool else c.toBool) := rfl
theorem ap3_140 (a b c : U G) : ap3 140 a b c = .int (mget a.toInt b.toMap c.toInt) := rfl
theorem ap3_142 (a b c : U G) : ap3 142 a b c = .amap (mset a.toMap b.toInt c.toInt) := rfl

def imin (x y : Int) : Int := if y < x then y else x
def imax (x y : Int) : Int := if y > x then y else x
theorem ap2_51i {G : Type} (a b : U G) : ap2 51 a b = .int (imin a.toInt b.toInt) := rfl
theorem ap2_52i {G : Type} (a b : U G) : ap2 52 a b = .int (imax a.toInt b.toInt) := rfl
theorem imin_left {x y : Int} (h : x ≤ y) : imin x y = x := by unfold imin; rw [if_neg (by omega)]
theorem imin_right {x y : Int} (h : y ≤ x) : imin x y = y := by unfold imin; split <;> omega
def leB (x y : Int) : Bool := decide (x ≤ y)
def ltB (x y : Int) : Bool := decide (x < y)
theorem t47 {G : Type} (a b : U G) : (ap2 47 a b).toBool = leB a.toInt b.toInt := rfl
theorem t46 {G : Type} (a b : U G) : (ap2 46 a b).toBool = ltB a.toInt b.toInt := rfl
theorem leB_iff {x y : Int} : leB x y = true ↔ x ≤ y := by unfold leB; simp
theorem ltB_iff {x y : Int} : ltB x y = true ↔ x < y := by unfold ltB; simp
theorem dec_true {p : Prop} {i : Decidable p} : (@decide p i = true) = p := propext ⟨fun h => of_decide_eq_true h, fun h => decide_eq_true h⟩
theorem p45 {G : Type} (a b : U G) : (ap2 45 a b).toProp = (a.toInt = b.toInt) := by simp [ap2_45]
theorem p153 {G : Type} (a b : U G) : (ap2 153 a b).toProp = (a.toInts = b.toInts) := by simp [ap2_153]
theorem p46 {G : Type} (a b : U G) : (ap2 46 a b).toProp = (a.toInt < b.toInt) := dec_true
theorem p47 {G : Type} (a b : U G) : (ap2 47 a b).toProp = (a.toInt ≤ b.toInt) := dec_true
theorem p2_45 {G : Type} (a b : U G) : (ap1 2 (ap2 45 a b)).toProp = ¬ (a.toInt = b.toInt) := by simp [ap1_2, ap2_45]
theorem p2_46 {G : Type} (a b : U G) : (ap1 2 (ap2 46 a b)).toProp = ¬ (a.toInt < b.toInt) := by
  rw [ap1_2, ap2_46]; simp only [U.toProp_bool, U.toBool_bool]; by_cases h : a.toInt < b.toInt <;> simp [h]
theorem p2_47 {G : Type} (a b : U G) : (ap1 2 (ap2 47 a b)).toProp = ¬ (a.toInt ≤ b.toInt) := by
  rw [ap1_2, ap2_47]; simp only [U.toProp_bool, U.toBool_bool]; by_cases h : a.toInt ≤ b.toInt <;> simp [h]
theorem p49 {G : Type} (a b : U G) : (ap2 49 a b).toProp = (a.toBool = true ∧ b.toBool = true) := by simp [ap2_49]
theorem p50 {G : Type} (a b : U G) : (ap2 50 a b).toProp = (a.toBool = true ∨ b.toBool = true) := by simp [ap2_50]
theorem b45 {G : Type} (a b : U G) : ((ap2 45 a b).toBool = true) = (a.toInt = b.toInt) := p45 a b
theorem b46 {G : Type} (a b : U G) : ((ap2 46 a b).toBool = true) = (a.toInt < b.toInt) := p46 a b
theorem b47 {G : Type} (a b : U G) : ((ap2 47 a b).toBool = true) = (a.toInt ≤ b.toInt) := p47 a b
theorem p20 {G : Type} (a : U G) : (ap1 20 a).toProp = (IntKind.min .i8 ≤ a.toInt ∧ a.toInt ≤ IntKind.max .i8) := by
  rw [ap1_20, U.toProp_bool, Bool.and_eq_true, dec_true, dec_true]
theorem p21 {G : Type} (a : U G) : (ap1 21 a).toProp = (IntKind.min .i16 ≤ a.toInt ∧ a.toInt ≤ IntKind.max .i16) := by
  rw [ap1_21, U.toProp_bool, Bool.and_eq_true, dec_true, dec_true]
theorem p22 {G : Type} (a : U G) : (ap1 22 a).toProp = (IntKind.min .i32 ≤ a.toInt ∧ a.toInt ≤ IntKind.max .i32) := by
  rw [ap1_22, U.toProp_bool, Bool.and_eq_true, dec_true, dec_true]
theorem p23 {G : Type} (a : U G) : (ap1 23 a).toProp = (IntKind.min .i64 ≤ a.toInt ∧ a.toInt ≤ IntKind.max .i64) := by
  rw [ap1_23, U.toProp_bool, Bool.and_eq_true, dec_true, dec_true]
theorem p24 {G : Type} (a : U G) : (ap1 24 a).toProp = (IntKind.min .u8 ≤ a.toInt ∧ a.toInt ≤ IntKind.max .u8) := by
  rw [ap1_24, U.toProp_bool, Bool.and_eq_true, dec_true, dec_true]
theorem p25 {G : Type} (a : U G) : (ap1 25 a).toProp = (IntKind.min .u16 ≤ a.toInt ∧ a.toInt ≤ IntKind.max .u16) := by
  rw [ap1_25, U.toProp_bool, Bool.and_eq_true, dec_true, dec_true]
theorem p26 {G : Type} (a : U G) : (ap1 26 a).toProp = (IntKind.min .u32 ≤ a.toInt ∧ a.toInt ≤ IntKind.max .u32) := by
  rw [ap1_26, U.toProp_bool, Bool.and_eq_true, dec_true, dec_true]
theorem p27 {G : Type} (a : U G) : (ap1 27 a).toProp = (IntKind.min .u64 ≤ a.toInt ∧ a.toInt ≤ IntKind.max .u64) := by
  rw [ap1_27, U.toProp_bool, Bool.and_eq_true, dec_true, dec_true]
theorem upd_self (ρ : Env G) (n : Nat) (u : U G) : ρ.upd n u n = u := by simp [Env.upd]
theorem upd_ne (ρ : Env G) {n m : Nat} (u : U G) (h : m ≠ n) : ρ.upd n u m = ρ m := by simp [Env.upd, h]
end

/-! ### Bits of words without sign, and the check sum -/
theorem ofInt_nat (n m : Nat) : BitVec.ofInt n (m : Int) = BitVec.ofNat n m := by
  rw [BitVec.ofInt_natCast]
theorem bitsV_u32_xor (a b : Nat) (ha : a < 4294967296) (hb : b < 4294967296) : bitsV .xor .u32 a b = ((a ^^^ b : Nat) : Int) := by
  have e0 : bitsV .xor .u32 a b = IntKind.u32.wrap ((BitVec.ofInt 32 (a : Int) ^^^ BitVec.ofInt 32 (b : Int)).toNat : Nat) := rfl
  rw [e0, ofInt_nat, ofInt_nat]
  have h1 : (BitVec.ofNat 32 a ^^^ BitVec.ofNat 32 b).toNat = a ^^^ b := by
    rw [BitVec.toNat_xor, BitVec.toNat_ofNat, BitVec.toNat_ofNat, Nat.mod_eq_of_lt ha, Nat.mod_eq_of_lt hb]
  rw [h1]
  have h2 : a ^^^ b < 2 ^ 32 := Nat.xor_lt_two_pow ha hb
  unfold IntKind.wrap
  simp only [IntKind.signed, IntKind.bits]
  simp
  omega
theorem bitsV_u32_and15 (a : Nat) (ha : a < 4294967296) : bitsV .and .u32 a 15 = ((a &&& 15 : Nat) : Int) := by
  have e0 : bitsV .and .u32 a 15 = IntKind.u32.wrap ((BitVec.ofInt 32 (a : Int) &&& BitVec.ofInt 32 ((15 : Nat) : Int)).toNat : Nat) := rfl
  rw [e0, ofInt_nat, ofInt_nat]
  have h1 : (BitVec.ofNat 32 a &&& BitVec.ofNat 32 15).toNat = a &&& 15 := by
    rw [BitVec.toNat_and, BitVec.toNat_ofNat, BitVec.toNat_ofNat, Nat.mod_eq_of_lt ha, Nat.mod_eq_of_lt (by omega)]
  rw [h1]
  have h2 : a &&& 15 ≤ 15 := Nat.and_le_right
  unfold IntKind.wrap
  simp only [IntKind.signed, IntKind.bits]
  simp
  omega
theorem crcTab_lt (n : Nat) : crcTab.getD n 0 < 4294967296 := by
  match n with
  | 0 | 1 | 2 | 3 | 4 | 5 | 6 | 7 | 8 | 9 | 10 | 11 | 12 | 13 | 14 | 15 => decide
  | n + 16 => simp [crcTab]
theorem crcHalf_lt {r : Nat} (h : r < 4294967296) : crcHalf r < 4294967296 := Nat.xor_lt_two_pow (n := 32) (crcTab_lt _) (by omega)
theorem crcByte_lt {r x : Nat} (h : r < 4294967296) (hx : x < 256) : crcByte r x < 4294967296 :=
  crcHalf_lt (crcHalf_lt (Nat.xor_lt_two_pow (n := 32) h (by omega)))
theorem crcRun_lt : ∀ (l : List UInt8) {r : Nat}, r < 4294967296 → crcRun r l < 4294967296
  | [], _, h => h
  | x :: l, _, h => crcRun_lt l (crcByte_lt h (by have := x.toNat_lt; omega))
theorem crcRun_append : ∀ (l m : List UInt8) (r : Nat), crcRun r (l ++ m) = crcRun (crcRun r l) m
  | [], _, _ => rfl
  | x :: l, m, r => by simp only [List.cons_append, crcRun]; exact crcRun_append l m _
theorem crcRun_take (l : List UInt8) (i : Nat) (h : i < l.length) (r : Nat) : crcRun r (l.take (i + 1)) = crcByte (crcRun r (l.take i)) (l.getD i 0).toNat := by
  rw [List.take_add_one, crcRun_append, List.getD_eq_getElem?_getD, List.getElem?_eq_getElem h]
  rfl
def tabI : List Int := [0, 274646895, 549293790, 820201905, 1098587580, 1361435347, 1640403810, 1905808397, 2197175160, 2460548119, 2722870694, 2987750089, 3280807620, 3553878443, 3811616794, 4084100981]
theorem tabI_get (n : Nat) : tabI.getD n 0 = ((crcTab.getD n 0 : Nat) : Int) := by
  match n with
  | 0 | 1 | 2 | 3 | 4 | 5 | 6 | 7 | 8 | 9 | 10 | 11 | 12 | 13 | 14 | 15 => rfl
  | n + 16 => simp [tabI, crcTab]
/-- The half step as the code takes it. -/
theorem half_step (r : Nat) (h : r < 4294967296) : bitsV .xor .u32 (tabI.getD (bitsV .and .u32 r 15).toNat 0) ((r : Int).fdiv (2 ^ (min (Int.toNat 4) (IntKind.bits .u32)))) = (crcHalf r : Nat) := by
  rw [bitsV_u32_and15 r h, tabI_get]
  have e : ((r : Int).fdiv (2 ^ (min (Int.toNat 4) (IntKind.bits .u32)))) = ((r / 16 : Nat) : Int) := by
    have : (2 : Int) ^ (min (Int.toNat 4) (IntKind.bits .u32)) = 16 := by decide
    rw [this, Int.fdiv_eq_ediv_of_nonneg _ (by omega)]
    omega
  rw [e, bitsV_u32_xor _ _ (crcTab_lt _) (by omega)]
  rfl
end
end Go.Eng

/- ink.Sum of one part is the check sum of its bytes. -/
set_option linter.unusedSimpArgs false
set_option linter.unusedVariables false
namespace Go.Proofs.Ytmjonggabppgaaa
open Go.Eng
def ai (n : Nat) : SX := .at .int n
def di (n : Nat) : SX := .at .int (1000000 + n)
def sumParts : Ch := .arr (.rows [.slice 1]) (ai 0) (.f2 124 (.f2 122 (ai 1) (.f2 122 (ai 2) (.f2 122 (ai 5) (.f1 152 (.int 0))))) (.f1 154 (.int 0))) (.int 1)
def sumBs : Ch := .arr .bytes (ai 1) (.at .bytes 3) (ai 4)
def sumCtr : Ctr := ⟨[.int, .int, .int, .bytes, .int, .int], [.one (.slice (ai 0) (.int 0) (.int 0) (.int 0) (.int 1) (.int 1) 1)], [sumParts, sumBs], [eLe (.int 0) (ai 2), eLe (ai 2) (.f1 31 (.at .bytes 3)), eLe (ai 2) (ai 5), eLe (ai 2) (.int 140737488355328)], [],
  .one (.int .u32 (.f2 82 (.int 4294967295) (.f1 160 (.f2 114 (.at .bytes 3) (ai 2))))), [sumParts, sumBs], []⟩
def sumInv : Inv := ⟨[.int, .int], [(3, .one (.int .u32 (di 0))), (16, .one (.int .i64 (di 1)))], [], [eLe (.int 0) (di 1), eLe (di 1) (ai 2), eEq (di 0) (.f1 160 (.f2 114 (.at .bytes 3) (di 1)))], .f2 41 (ai 2) (di 1)⟩
def sumCx : Cx := { specs := [], anns := [(43, [(6, .inv sumInv)])] }
def sumVc : VC := .imp (.f2 47 (.int 0) (.at .int 2)) (.imp (.f2 47 (.at .int 2) (.f1 31 (.at .bytes 3))) (.imp (.f2 47 (.at .int 2) (.at .int 5)) (.imp (.f2 47 (.at 
    .int 2) (.int 140737488355328)) (.need (.f2 45 (.int 4294967295) (.f1 160 (.f2 114 (.at .bytes 3) (.int 0)))) (.all 6 .int (.all 7 .int (.imp (.f2 47 
    (.int 0) (.at .int 7)) (.imp (.f2 47 (.at .int 7) (.at .int 2)) (.imp (.f2 45 (.at .int 6) (.f1 160 (.f2 114 (.at .bytes 3) (.at .int 7)))) (.and 
    (.imp (.f2 46 (.at .int 7) (.at .int 2)) (.need (.f2 46 (.at .int 7) (.f1 31 (.at .bytes 3))) (.all 8 .int (.imp (.f2 47 (.int 0) (.at .int 8)) (.need 
    (.f2 47 (.int 0) (.f2 66 (.f2 82 (.at .int 6) (.f2 111 (.at .bytes 3) (.at .int 7))) (.int 15))) (.need (.f2 46 (.f2 66 (.f2 82 (.at .int 6) (.f2 111 
    (.at .bytes 3) (.at .int 7))) (.int 15)) (.int 16)) (.all 9 .int (.imp (.f2 47 (.int 0) (.at .int 9)) (.need (.f2 47 (.int 0) (.f2 66 (.f2 82 (.f2 110 
    (.f2 122 (.int 0) (.f2 122 (.int 274646895) (.f2 122 (.int 549293790) (.f2 122 (.int 820201905) (.f2 122 (.int 1098587580) (.f2 122 (.int 1361435347) 
    (.f2 122 (.int 1640403810) (.f2 122 (.int 1905808397) (.f2 122 (.int 2197175160) (.f2 122 (.int 2460548119) (.f2 122 (.int 2722870694) (.f2 122 (.int 
    2987750089) (.f2 122 (.int 3280807620) (.f2 122 (.int 3553878443) (.f2 122 (.int 3811616794) (.f2 122 (.int 4084100981) (.f1 152 (.int 
    0)))))))))))))))))) (.f2 66 (.f2 82 (.at .int 6) (.f2 111 (.at .bytes 3) (.at .int 7))) (.int 15))) (.f2 106 (.f2 82 (.at .int 6) (.f2 111 (.at .bytes 
    3) (.at .int 7))) (.int 4))) (.int 15))) (.need (.f2 46 (.f2 66 (.f2 82 (.f2 110 (.f2 122 (.int 0) (.f2 122 (.int 274646895) (.f2 122 (.int 549293790) 
    (.f2 122 (.int 820201905) (.f2 122 (.int 1098587580) (.f2 122 (.int 1361435347) (.f2 122 (.int 1640403810) (.f2 122 (.int 1905808397) (.f2 122 (.int 
    2197175160) (.f2 122 (.int 2460548119) (.f2 122 (.int 2722870694) (.f2 122 (.int 2987750089) (.f2 122 (.int 3280807620) (.f2 122 (.int 3553878443) 
    (.f2 122 (.int 3811616794) (.f2 122 (.int 4084100981) (.f1 152 (.int 0)))))))))))))))))) (.f2 66 (.f2 82 (.at .int 6) (.f2 111 (.at .bytes 3) (.at 
    .int 7))) (.int 15))) (.f2 106 (.f2 82 (.at .int 6) (.f2 111 (.at .bytes 3) (.at .int 7))) (.int 4))) (.int 15)) (.int 16)) (.need (.f1 23 (.f2 40 
    (.at .int 7) (.int 1))) (.need (.f2 47 (.int 0) (.f2 41 (.at .int 2) (.f2 40 (.at .int 7) (.int 1)))) (.need (.f2 46 (.f2 41 (.at .int 2) (.f2 40 (.at 
    .int 7) (.int 1))) (.f2 41 (.at .int 2) (.at .int 7))) (.need (.f2 47 (.int 0) (.f2 40 (.at .int 7) (.int 1))) (.need (.f2 47 (.f2 40 (.at .int 7) 
    (.int 1)) (.at .int 2)) (.need (.f2 45 (.f2 82 (.f2 110 (.f2 122 (.int 0) (.f2 122 (.int 274646895) (.f2 122 (.int 549293790) (.f2 122 (.int 
    820201905) (.f2 122 (.int 1098587580) (.f2 122 (.int 1361435347) (.f2 122 (.int 1640403810) (.f2 122 (.int 1905808397) (.f2 122 (.int 2197175160) (.f2 
    122 (.int 2460548119) (.f2 122 (.int 2722870694) (.f2 122 (.int 2987750089) (.f2 122 (.int 3280807620) (.f2 122 (.int 3553878443) (.f2 122 (.int 
    3811616794) (.f2 122 (.int 4084100981) (.f1 152 (.int 0)))))))))))))))))) (.f2 66 (.f2 82 (.f2 110 (.f2 122 (.int 0) (.f2 122 (.int 274646895) (.f2 
    122 (.int 549293790) (.f2 122 (.int 820201905) (.f2 122 (.int 1098587580) (.f2 122 (.int 1361435347) (.f2 122 (.int 1640403810) (.f2 122 (.int 
    1905808397) (.f2 122 (.int 2197175160) (.f2 122 (.int 2460548119) (.f2 122 (.int 2722870694) (.f2 122 (.int 2987750089) (.f2 122 (.int 3280807620) 
    (.f2 122 (.int 3553878443) (.f2 122 (.int 3811616794) (.f2 122 (.int 4084100981) (.f1 152 (.int 0)))))))))))))))))) (.f2 66 (.f2 82 (.at .int 6) (.f2 
    111 (.at .bytes 3) (.at .int 7))) (.int 15))) (.f2 106 (.f2 82 (.at .int 6) (.f2 111 (.at .bytes 3) (.at .int 7))) (.int 4))) (.int 15))) (.f2 106 
    (.f2 82 (.f2 110 (.f2 122 (.int 0) (.f2 122 (.int 274646895) (.f2 122 (.int 549293790) (.f2 122 (.int 820201905) (.f2 122 (.int 1098587580) (.f2 122 
    (.int 1361435347) (.f2 122 (.int 1640403810) (.f2 122 (.int 1905808397) (.f2 122 (.int 2197175160) (.f2 122 (.int 2460548119) (.f2 122 (.int 
    2722870694) (.f2 122 (.int 2987750089) (.f2 122 (.int 3280807620) (.f2 122 (.int 3553878443) (.f2 122 (.int 3811616794) (.f2 122 (.int 4084100981) 
    (.f1 152 (.int 0)))))))))))))))))) (.f2 66 (.f2 82 (.at .int 6) (.f2 111 (.at .bytes 3) (.at .int 7))) (.int 15))) (.f2 106 (.f2 82 (.at .int 6) (.f2 
    111 (.at .bytes 3) (.at .int 7))) (.int 4))) (.int 4))) (.f1 160 (.f2 114 (.at .bytes 3) (.f2 40 (.at .int 7) (.int 1))))) (.tt))))))))))))))))) (.imp 
    (.f2 47 (.at .int 2) (.at .int 7)) (.need (.f2 45 (.f2 82 (.int 4294967295) (.f1 160 (.f2 114 (.at .bytes 3) (.at .int 2)))) (.f2 82 (.int 4294967295) 
    (.at .int 6))) (.tt)))))))))))))
theorem sum_vc : vcOf Try.prog sumCx 10 43 sumCtr = sumVc := by kernel_rfl
theorem bits_loop (r x : Nat) (h : r < 4294967296) (hx : x < 256) :
    bitsV .xor .u32 (tabI.getD (bitsV .and .u32 (bitsV .xor .u32 (tabI.getD (bitsV .and .u32 (bitsV .xor .u32 r x) 15).toNat 0) ((bitsV .xor .u32 r x).fdiv (2 ^ (min (Int.toNat 4) (IntKind.bits .u32))))) 15).toNat 0)
      ((bitsV .xor .u32 (tabI.getD (bitsV .and .u32 (bitsV .xor .u32 r x) 15).toNat 0) ((bitsV .xor .u32 r x).fdiv (2 ^ (min (Int.toNat 4) (IntKind.bits .u32))))).fdiv (2 ^ (min (Int.toNat 4) (IntKind.bits .u32)))) = (crcByte r x : Nat) := by
  have h1 : r ^^^ x < 4294967296 := Nat.xor_lt_two_pow (n := 32) h (by omega)
  rw [bitsV_u32_xor r x h (by omega), half_step _ h1, half_step _ (crcHalf_lt h1)]
  rfl
theorem and15_range (a : Int) : 0 ≤ bitsV .and .u32 a 15 ∧ bitsV .and .u32 a 15 < 16 := by
  have e0 : bitsV .and .u32 a 15 = IntKind.u32.wrap ((BitVec.ofInt 32 a &&& BitVec.ofInt 32 ((15 : Nat) : Int)).toNat : Nat) := rfl
  rw [e0, ofInt_nat, BitVec.toNat_and]
  have h2 : (BitVec.ofInt 32 a).toNat &&& (BitVec.ofNat 32 15).toNat ≤ 15 := by
    have := Nat.and_le_right (n := (BitVec.ofInt 32 a).toNat) (m := (BitVec.ofNat 32 15).toNat)
    have e : (BitVec.ofNat 32 15).toNat = 15 := by decide
    omega
  generalize (BitVec.ofInt 32 a).toNat &&& (BitVec.ofNat 32 15).toNat = q at *
  unfold IntKind.wrap
  simp only [IntKind.signed, IntKind.bits]
  simp
  omega
theorem sum_ok {G : Type} (S : Sig G) : CtrOk S Try.prog 43 sumCtr := by
  refine vcOf_sound S (C := sumCx) (fuel := 10) ⟨fun f sps h => by simp [sumCx, assoc] at h, fun f l h i sp args hm => ?_, fun f sps h => by simp [sumCx, assoc] at h⟩ fun ρ => ?_
  · simp only [sumCx, assoc] at h
    cases hb : Nat.beq 43 f
    · rw [hb] at h; cases h
    · rw [hb] at h; cases h
      simp at hm
  · rw [sum_vc]
    simp only [sumVc, VC.den, SX.den, U.co, Env.upd, ap1_160, p23, p45, p46, p47, ap1_31, ap2_40, ap2_41, ap2_66, ap2_82, ap2_106, ap2_110, ap2_111, ap2_114, ap2_122, ap1_152, U.toInt_int, U.toBytes_bytes, U.toInts_ints, 
      if_true, if_false, Nat.reduceEqDiff, reduceIte]
    have key : ∀ (i : Int) (r : Int), 0 ≤ i → i ≤ (ρ 2).toInt → r = ↑(crcRun 4294967295 (List.take i.toNat (ρ 3).toBytes)) → ∃ q : Nat, r = q ∧ q < 4294967296 := fun i r _ _ h => ⟨_, h, crcRun_lt _ (by decide)⟩
    intro a1 a2 a3 a4
    refine ⟨by simp [crcRun], fun r i h1 h2 h3 => ⟨fun h4 => ?_, fun h4 => ?_⟩⟩
    · have hlt : i.toNat < (ρ 3).toBytes.length := by omega
      have hx := ((ρ 3).toBytes.getD i.toNat 0).toNat_lt
      have hstep : bitsV .xor .u32 (tabI.getD (bitsV .and .u32 (bitsV .xor .u32 (tabI.getD (bitsV .and .u32 (bitsV .xor .u32 r ((ρ 3).toBytes.getD i.toNat 0).toNat) 15).toNat 0) ((bitsV .xor .u32 r ((ρ 3).toBytes.getD i.toNat 0).toNat).fdiv (2 ^ (min (Int.toNat 4) (IntKind.bits .u32))))) 15).toNat 0)
          ((bitsV .xor .u32 (tabI.getD (bitsV .and .u32 (bitsV .xor .u32 r ((ρ 3).toBytes.getD i.toNat 0).toNat) 15).toNat 0) ((bitsV .xor .u32 r ((ρ 3).toBytes.getD i.toNat 0).toNat).fdiv (2 ^ (min (Int.toNat 4) (IntKind.bits .u32))))).fdiv (2 ^ (min (Int.toNat 4) (IntKind.bits .u32)))) =
            ↑(crcRun 4294967295 (List.take (i + 1).toNat (ρ 3).toBytes)) := by
        have e : (i + 1).toNat = i.toNat + 1 := by omega
        rw [e, crcRun_take _ _ hlt, h3]
        exact bits_loop _ _ (crcRun_lt _ (by decide)) (by omega)
      refine ⟨by omega, fun _ _ => ⟨(and15_range _).1, (and15_range _).2, fun _ _ => ⟨(and15_range _).1, (and15_range _).2, ⟨?_, ?_⟩, by omega, by omega, by omega, by omega, hstep, trivial⟩⟩⟩
      · show (-(2 ^ 63) : Int) ≤ _; omega
      · show _ ≤ (2 ^ 63 - 1 : Int); omega
    · have : i = (ρ 2).toInt := by omega
      refine ⟨?_, trivial⟩
      rw [h3, this]
end Go.Proofs.Ytmjonggabppgaaa

/- Two lists of numbers: are they the same? The law's own 'same'. -/
set_option linter.unusedSimpArgs false
set_option linter.unusedVariables false
namespace Go.Proofs.Ytmjonggabppgaaa
noncomputable section
open Go.Eng
def xsA (n : Nat) : SX := .at .ints n
def rdI (j : Nat) (b : Nat) : Ch := .rd j (.ints .i64) (ai b) (ai (b + 1)) (xsA (b + 4)) (ai (b + 5))
def sameCtr : Ctr := ⟨[.int, .int, .int, .int, .ints, .int, .int, .int, .int, .int, .ints, .int],
  [.one (.slice (ai 0) (ai 1) (.int 0) (.int 0) (ai 2) (ai 3) 1), .one (.slice (ai 6) (ai 7) (.int 0) (.int 0) (ai 8) (ai 9) 1)], [rdI 0 0, rdI 1 6],
  [eLe (.int 0) (ai 2), eLe (ai 2) (.f1 30 (xsA 4)), eLe (ai 2) (.int 140737488355328), eLe (.int 0) (ai 8), eLe (ai 8) (.f1 30 (xsA 10)), eLe (ai 8) (.int 140737488355328)], [.bool],
  .one (.bool (.at .bool 12)), [rdI 0 0, rdI 1 6], [.f2 48 (.at .bool 12) (.f2 153 (.f2 113 (xsA 4) (ai 2)) (.f2 113 (xsA 10) (ai 8)))]⟩
def sameInv : Inv := ⟨[.int], [(5, .one (.int .i64 (di 0)))], [], [eLe (.int 0) (di 0), eLe (di 0) (ai 2), .f2 153 (.f2 113 (xsA 4) (di 0)) (.f2 113 (xsA 10) (di 0))], .f2 41 (ai 2) (di 0)⟩
def sameCx : Cx := { specs := [], anns := [(23, [(4, .inv sameInv)])] }
def sameVc : VC := .imp (.f2 47 (.int 0) (.at .int 2)) (.imp (.f2 47 (.at .int 2) (.f1 30 (.at .ints 4))) (.imp (.f2 47 (.at .int 2) (.int 140737488355328)) (.imp (.f2 
    47 (.int 0) (.at .int 8)) (.imp (.f2 47 (.at .int 8) (.f1 30 (.at .ints 10))) (.imp (.f2 47 (.at .int 8) (.int 140737488355328)) (.and (.imp (.f1 2 
    (.f2 45 (.at .int 2) (.at .int 8))) (.need (.f2 48 (.bool false) (.f2 153 (.f2 113 (.at .ints 4) (.at .int 2)) (.f2 113 (.at .ints 10) (.at .int 8)))) 
    (.tt))) (.imp (.f2 45 (.at .int 2) (.at .int 8)) (.need (.f2 153 (.f2 113 (.at .ints 4) (.int 0)) (.f2 113 (.at .ints 10) (.int 0))) (.all 12 .int 
    (.imp (.f2 47 (.int 0) (.at .int 12)) (.imp (.f2 47 (.at .int 12) (.at .int 2)) (.imp (.f2 153 (.f2 113 (.at .ints 4) (.at .int 12)) (.f2 113 (.at 
    .ints 10) (.at .int 12))) (.and (.imp (.f2 46 (.at .int 12) (.at .int 2)) (.need (.f2 46 (.at .int 12) (.f1 30 (.at .ints 4))) (.need (.f2 46 (.at 
    .int 12) (.at .int 8)) (.need (.f2 46 (.at .int 12) (.f1 30 (.at .ints 10))) (.and (.imp (.f1 2 (.f2 45 (.f2 110 (.at .ints 4) (.at .int 12)) (.f2 110 
    (.at .ints 10) (.at .int 12)))) (.need (.f2 48 (.bool false) (.f2 153 (.f2 113 (.at .ints 4) (.at .int 2)) (.f2 113 (.at .ints 10) (.at .int 8)))) 
    (.tt))) (.imp (.f2 45 (.f2 110 (.at .ints 4) (.at .int 12)) (.f2 110 (.at .ints 10) (.at .int 12))) (.need (.f1 23 (.f2 40 (.at .int 12) (.int 1))) 
    (.need (.f2 47 (.int 0) (.f2 41 (.at .int 2) (.f2 40 (.at .int 12) (.int 1)))) (.need (.f2 46 (.f2 41 (.at .int 2) (.f2 40 (.at .int 12) (.int 1))) 
    (.f2 41 (.at .int 2) (.at .int 12))) (.need (.f2 47 (.int 0) (.f2 40 (.at .int 12) (.int 1))) (.need (.f2 47 (.f2 40 (.at .int 12) (.int 1)) (.at .int 
    2)) (.need (.f2 153 (.f2 113 (.at .ints 4) (.f2 40 (.at .int 12) (.int 1))) (.f2 113 (.at .ints 10) (.f2 40 (.at .int 12) (.int 1)))) 
    (.tt))))))))))))) (.imp (.f2 47 (.at .int 2) (.at .int 12)) (.need (.f2 48 (.bool true) (.f2 153 (.f2 113 (.at .ints 4) (.at .int 2)) (.f2 113 (.at 
    .ints 10) (.at .int 8)))) (.tt))))))))))))))))
theorem same_vc : vcOf Try.prog sameCx 10 23 sameCtr = sameVc := by kernel_rfl
theorem p48_153 {G : Type} (c : Bool) (a b : U G) : (ap2 48 (.bool c) (ap2 153 a b)).toProp = (c = true ↔ a.toInts = b.toInts) := by
  rw [ap2_48, ap2_153]
  simp only [U.toProp_bool, U.toBool_bool, beq_iff_eq]
  by_cases h : a.toInts = b.toInts <;> cases c <;> simp [h]
theorem take_getD (l : List Int) (i : Nat) (h : i < l.length) : l.take (i + 1) = l.take i ++ [l.getD i 0] := by
  rw [List.take_add_one, List.getD_eq_getElem?_getD, List.getElem?_eq_getElem h]; rfl
theorem same_ok {G : Type} (S : Sig G) : CtrOk S Try.prog 23 sameCtr := by
  refine vcOf_sound S (C := sameCx) (fuel := 10) ⟨fun f sps h => by simp [sameCx, assoc] at h, fun f l h i sp args hm => ?_, fun f sps h => by simp [sameCx, assoc] at h⟩ fun ρ => ?_
  · simp only [sameCx, assoc] at h
    cases hb : Nat.beq 23 f
    · rw [hb] at h; cases h
    · rw [hb] at h; cases h
      simp at hm
  · rw [same_vc]
    simp only [sameVc, VC.den, SX.den, U.co, Env.upd, p23, p45, p46, p47, p2_45, p153, p48_153, ap1_30, ap2_40, ap2_41, ap2_110, ap2_113, U.toInt_int, U.toInts_ints, if_true, if_false, Nat.reduceEqDiff, reduceIte]
    generalize (ρ 4).toInts = A
    generalize (ρ 10).toInts = B
    generalize (ρ 2).toInt = m
    generalize (ρ 8).toInt = n
    intro h1 h2 h3 h4 h5 h6
    refine ⟨fun hne => ⟨⟨fun h => (by cases h), fun h => ?_⟩, trivial⟩, fun heq => ⟨by simp, fun i h7 h8 h9 => ⟨fun h10 => ⟨by omega, by omega, by omega, fun hn => ⟨⟨fun h => (by cases h), fun h => ?_⟩, trivial⟩, fun he => ⟨⟨?_, ?_⟩, by omega, by omega, by omega, by omega, ?_, trivial⟩⟩, fun h10 => ⟨⟨fun _ => ?_, fun _ => trivial⟩, trivial⟩⟩⟩⟩
    · have := congrArg List.length h
      rw [List.length_take, List.length_take] at this
      omega
    · exfalso
      apply hn
      have e := congrArg (fun l : List Int => l.getD i.toNat 0) h
      simp only [List.getD_eq_getElem?_getD, List.getElem?_take] at e
      rw [if_pos (by omega), if_pos (by omega)] at e
      simpa [List.getD_eq_getElem?_getD] using e
    · show (-(2 ^ 63) : Int) ≤ _; omega
    · show _ ≤ (2 ^ 63 - 1 : Int); omega
    · have e : (i + 1).toNat = i.toNat + 1 := by omega
      rw [e, take_getD A _ (by omega), take_getD B _ (by omega), h9, he]
    · have : i = m := by omega
      rw [← heq, ← this]; exact h9
end
end Go.Proofs.Ytmjonggabppgaaa

/- Numbers as their owner hands them in: a new list, two marks behind. -/
set_option linter.unusedSimpArgs false
set_option linter.unusedVariables false
namespace Go.Proofs.Ytmjonggabppgaaa
noncomputable section
open Go.Eng
def lentCtr : Ctr := ⟨[.int, .int, .int, .int, .ints, .int],
  [.one (.slice (ai 0) (ai 1) (.int 0) (.int 0) (ai 2) (ai 3) 1)], [rdI 0 0],
  [eLe (.int 0) (ai 2), eLe (ai 2) (.f1 30 (xsA 4)), eLe (ai 2) (ai 3), eLe (ai 2) (.int 17592186044414)], [.int, .ints, .int],
  .one (.slice (ai 6) (.int 0) (.int 0) (.int 0) (ai 2) (ai 8) 1), [rdI 0 0, .arr (.ints .i64) (ai 6) (xsA 7) (ai 8)],
  [eEq (ai 8) (SX.mk2 40 (ai 2) (.int 2)), eLe (.int 0) (ai 6), .f2 153 (xsA 7) (.f2 119 (.f2 113 (xsA 4) (ai 2)) (.f2 122 (.int (-71)) (.f2 122 (.int (-72)) (.f1 152 (.int 0)))))]⟩
def lentCx : Cx := { specs := [], anns := [] }
def lentVc : VC := .imp (.f2 47 (.int 0) (.at .int 2)) (.imp (.f2 47 (.at .int 2) (.f1 30 (.at .ints 4))) (.imp (.f2 47 (.at .int 2) (.at .int 3)) (.imp (.f2 47 (.at 
    .int 2) (.int 17592186044414)) (.need (.f1 23 (.f2 40 (.at .int 2) (.int 2))) (.need (.f2 47 (.int 0) (.f2 40 (.at .int 2) (.int 2))) (.need (.f2 47 
    (.f2 40 (.at .int 2) (.int 2)) (.f2 40 (.at .int 2) (.int 2))) (.need (.f2 47 (.f2 42 (.f2 40 (.at .int 2) (.int 2)) (.int 8)) (.int 140737488355328)) 
    (.all 6 .int (.imp (.f2 47 (.int 0) (.at .int 6)) (.need (.f2 47 (.f2 40 (.at .int 2) (.int 2)) (.f1 30 (.f2 125 (.f2 40 (.at .int 2) (.int 2)) (.int 
    0)))) (.need (.f2 46 (.at .int 2) (.f2 40 (.at .int 2) (.int 2))) (.need (.f2 46 (.at .int 2) (.f2 40 (.f1 30 (.f2 113 (.f2 125 (.f2 40 (.at .int 2) 
    (.int 2)) (.int 0)) (.int 0))) (.f2 40 (.f1 30 (.f2 113 (.f2 113 (.at .ints 4) (.at .int 2)) (.f2 51 (.at .int 2) (.f2 40 (.at .int 2) (.int 2))))) 
    (.f1 30 (.f2 116 (.f2 125 (.f2 40 (.at .int 2) (.int 2)) (.int 0)) (.f2 51 (.at .int 2) (.f2 40 (.at .int 2) (.int 2)))))))) (.need (.f1 23 (.f2 40 
    (.at .int 2) (.int 1))) (.need (.f2 47 (.int 0) (.f2 40 (.at .int 2) (.int 1))) (.need (.f2 46 (.f2 40 (.at .int 2) (.int 1)) (.f2 40 (.at .int 2) 
    (.int 2))) (.need (.f2 46 (.f2 40 (.at .int 2) (.int 1)) (.f2 40 (.f1 30 (.f2 113 (.f2 125 (.f2 40 (.at .int 2) (.int 2)) (.int 0)) (.int 0))) (.f2 40 
    (.f1 30 (.f2 113 (.f2 113 (.at .ints 4) (.at .int 2)) (.f2 51 (.at .int 2) (.f2 40 (.at .int 2) (.int 2))))) (.f1 30 (.f2 116 (.f2 125 (.f2 40 (.at 
    .int 2) (.int 2)) (.int 0)) (.f2 51 (.at .int 2) (.f2 40 (.at .int 2) (.int 2)))))))) (.need (.f2 47 (.at .int 2) (.f2 40 (.at .int 2) (.int 2))) 
    (.need (.f2 45 (.f2 40 (.at .int 2) (.int 2)) (.f2 40 (.at .int 2) (.int 2))) (.need (.f2 153 (.f3 130 (.f3 130 (.f2 119 (.f2 113 (.f2 125 (.f2 40 
    (.at .int 2) (.int 2)) (.int 0)) (.int 0)) (.f2 119 (.f2 113 (.f2 113 (.at .ints 4) (.at .int 2)) (.f2 51 (.at .int 2) (.f2 40 (.at .int 2) (.int 
    2)))) (.f2 116 (.f2 125 (.f2 40 (.at .int 2) (.int 2)) (.int 0)) (.f2 51 (.at .int 2) (.f2 40 (.at .int 2) (.int 2)))))) (.at .int 2) (.int (-71))) 
    (.f2 40 (.at .int 2) (.int 1)) (.int (-72))) (.f2 119 (.f2 113 (.at .ints 4) (.at .int 2)) (.f2 122 (.int (-71)) (.f2 122 (.int (-72)) (.f1 152 (.int 
    0)))))) (.tt))))))))))))))))))))
theorem lent_vc : vcOf Try.prog lentCx 10 11 lentCtr = lentVc := by kernel_rfl
theorem lent_list (L : List Int) (n : Nat) (h : n ≤ L.length) :
    (((List.replicate (n + 2) (0 : Int)).take 0 ++ ((L.take n).take n ++ (List.replicate (n + 2) (0 : Int)).drop n)).set n (-71)).set (n + 1) (-72) = L.take n ++ [-71, -72] := by
  have hl : (L.take n).length = n := by rw [List.length_take]; omega
  have hd : (List.replicate (n + 2) (0 : Int)).drop n = [0, 0] := by rw [List.drop_replicate]; simp [show n + 2 - n = 2 by omega]
  rw [List.take_zero, List.nil_append, List.take_of_length_le (by omega), hd, List.set_append_right _ _ (by omega), List.set_append_right _ _ (by omega), hl]
  simp [show n + 1 - n = 1 by omega]
theorem lent_ok {G : Type} (S : Sig G) : CtrOk S Try.prog 11 lentCtr := by
  refine vcOf_sound S (C := lentCx) (fuel := 10) ⟨fun f sps h => by simp [lentCx, assoc] at h, fun f l h i sp args hm => ?_, fun f sps h => by simp [lentCx, assoc] at h⟩ fun ρ => ?_
  · simp only [lentCx, assoc] at h
    cases h
  · rw [lent_vc]
    simp only [lentVc, VC.den, SX.den, U.co, Env.upd, p23, p45, p46, p47, p153, ap1_30, ap1_152, ap2_40, ap2_42, ap2_51i, ap2_113, ap2_116, ap2_119, ap2_122, ap2_125, ap3_130, U.toInt_int, U.toInts_ints, U.toBytes_bytes, U.toRows_rows, if_true, if_false, Nat.reduceEqDiff, reduceIte]
    generalize (ρ 4).toInts = A
    generalize (ρ 2).toInt = m
    generalize (ρ 3).toInt = c
    intro h1 h2 h3 h4
    have hmin : imin m (m + 2) = m := imin_left (by omega)
    have e2 : (m + 2).toNat = m.toNat + 2 := by omega
    have e1 : (m + 1).toNat = m.toNat + 1 := by omega
    simp only [hmin]
    rw [e2, e1]
    have hA : (A.take m.toNat).length = m.toNat := by rw [List.length_take]; omega
    refine ⟨⟨?_, ?_⟩, by omega, by omega, by omega, fun q hq => ⟨?_, by omega, ?_, ⟨?_, ?_⟩, by omega, by omega, ?_, by omega, by first | trivial | omega, ?_, trivial⟩⟩
    · show (-(2 ^ 63) : Int) ≤ _; omega
    · show _ ≤ (2 ^ 63 - 1 : Int); omega
    · rw [List.length_replicate]; omega
    · simp only [List.length_take, List.length_drop, List.length_replicate]; omega
    · show (-(2 ^ 63) : Int) ≤ _; omega
    · show _ ≤ (2 ^ 63 - 1 : Int); omega
    · simp only [List.length_take, List.length_drop, List.length_replicate]; omega
    · exact lent_list A m.toNat (by omega)
end
end Go.Proofs.Ytmjonggabppgaaa

/- slices.CompactFunc over entries by their page: it is shorter just if two neighbours bear one page. -/
set_option linter.unusedSimpArgs false
set_option linter.unusedVariables false
namespace Go.Proofs.Ytmjonggabppgaaa
noncomputable section
open Go.Eng
def enE : En := .rows [.int .i64, .int .i64]
def rwA (n : Nat) : SX := .at .rows n
/-- No two neighbours among the first n bear one page. -/
def adjB (R : List (List Int)) (n : Int) : Bool := (List.range n.toNat).all fun i => i == 0 || (R.getD i []).getD 0 0 != (R.getD (i - 1) []).getD 0 0
def adjX (x l : SX) : SX := .us .bool 0 x l (.int 0) (.int 0)
def compactCtr : Ctr := ⟨[.int, .rows, .int, .int, .int],
  [.one (.slice (ai 0) (.int 0) (.int 0) (.int 0) (ai 2) (ai 3) 2), .one (.fn 59)], [.arr enE (ai 0) (rwA 1) (ai 4)],
  [eLe (.int 0) (ai 2), eLe (ai 2) (.f1 32 (rwA 1)), eLe (ai 2) (ai 3), eLe (ai 2) (.int 140737488355328)], [.rows, .int],
  .one (.slice (ai 0) (.int 0) (.int 0) (.int 0) (ai 6) (ai 3) 2), [.arr enE (ai 0) (rwA 5) (ai 4)],
  [eLe (.int 0) (ai 6), eLe (ai 6) (ai 2), .f2 48 (.f2 45 (ai 6) (ai 2)) (adjX (rwA 1) (ai 2))]⟩
def compactInv1 : Inv := ⟨[.int], [(5, .one (.int .i64 (di 0)))], [], [eLe (.int 1) (di 0), eLe (di 0) (ai 2), adjX (rwA 1) (di 0)], .f2 41 (ai 2) (di 0)⟩
def compactInv2 : Inv := ⟨[.int, .int, .rows, .int, .int, .int], [(5, .one (.int .i64 (di 0))), (7, .one (.int .i64 (di 1))), (6, .one (.slice (ai 0) (.int 0) (di 3) (.int 0) (di 4) (di 5) 2))], [.arr enE (ai 0) (rwA 1000002) (ai 4)],
  [eLe (.int 1) (di 1), eLe (di 1) (di 4), eLe (.int 1) (di 3), eLe (di 3) (di 0), eLt (di 0) (.f2 40 (di 3) (di 1)), eEq (.f2 40 (di 3) (di 4)) (ai 2), eLe (di 4) (di 5), eEq (.f1 32 (rwA 1000002)) (.f1 32 (rwA 1))], .f2 41 (di 4) (di 1)⟩
def compactCx : Cx := { specs := [], anns := [(57, [(4, .inv compactInv1), (9, .inv compactInv2)])] }
def compactVc : VC := .imp (.f2 47 (.int 0) (.at .int 2)) (.imp (.f2 47 (.at .int 2) (.f1 32 (.at .rows 1))) (.imp (.f2 47 (.at .int 2) (.at .int 3)) (.imp (.f2 47 (.at 
    .int 2) (.int 140737488355328)) (.and (.imp (.f2 46 (.at .int 2) (.int 2)) (.need (.f2 47 (.at .int 2) (.at .int 2)) (.need (.f2 48 (.f2 45 (.at .int 
    2) (.at .int 2)) (.us .bool 0 (.at .rows 1) (.at .int 2) (.int 0) (.int 0))) (.tt)))) (.imp (.f2 47 (.int 2) (.at .int 2)) (.need (.f2 47 (.int 1) 
    (.at .int 2)) (.need (.us .bool 0 (.at .rows 1) (.int 1) (.int 0) (.int 0)) (.all 5 .int (.imp (.f2 47 (.int 1) (.at .int 5)) (.imp (.f2 47 (.at .int 
    5) (.at .int 2)) (.imp (.us .bool 0 (.at .rows 1) (.at .int 5) (.int 0) (.int 0)) (.and (.imp (.f2 46 (.at .int 5) (.at .int 2)) (.need (.f2 47 (.int 
    0) (.at .int 5)) (.need (.f2 46 (.at .int 5) (.f1 32 (.at .rows 1))) (.need (.f1 23 (.f2 40 (.at .int 5) (.int (-1)))) (.need (.f2 47 (.int 0) (.f2 40 
    (.at .int 5) (.int (-1)))) (.need (.f2 46 (.f2 40 (.at .int 5) (.int (-1))) (.at .int 2)) (.need (.f2 46 (.f2 40 (.at .int 5) (.int (-1))) (.f1 32 
    (.at .rows 1))) (.all 6 .int (.imp (.f2 47 (.int 0) (.at .int 6)) (.all 7 .int (.imp (.f2 47 (.int 0) (.at .int 7)) (.and (.imp (.f2 45 (.f3 112 (.at 
    .rows 1) (.at .int 5) (.int 0)) (.f3 112 (.at .rows 1) (.f2 40 (.at .int 5) (.int (-1))) (.int 0))) (.need (.f2 47 (.int 0) (.at .int 3)) (.need (.f2 
    47 (.int 1) (.f2 41 (.at .int 2) (.at .int 5))) (.need (.f2 47 (.at .int 5) (.at .int 5)) (.need (.f2 46 (.at .int 5) (.f2 40 (.at .int 5) (.int 1))) 
    (.need (.f2 45 (.f2 40 (.at .int 5) (.f2 41 (.at .int 2) (.at .int 5))) (.at .int 2)) (.need (.f2 47 (.f2 41 (.at .int 2) (.at .int 5)) (.f2 41 (.at 
    .int 3) (.at .int 5))) (.need (.f2 45 (.f1 32 (.at .rows 1)) (.f1 32 (.at .rows 1))) (.all 8 .int (.all 9 .int (.all 10 .rows (.all 11 .int (.all 12 
    .int (.all 13 .int (.imp (.f2 47 (.int 1) (.at .int 9)) (.imp (.f2 47 (.at .int 9) (.at .int 12)) (.imp (.f2 47 (.int 1) (.at .int 11)) (.imp (.f2 47 
    (.at .int 11) (.at .int 8)) (.imp (.f2 46 (.at .int 8) (.f2 40 (.at .int 11) (.at .int 9))) (.imp (.f2 45 (.f2 40 (.at .int 11) (.at .int 12)) (.at 
    .int 2)) (.imp (.f2 47 (.at .int 12) (.at .int 13)) (.imp (.f2 45 (.f1 32 (.at .rows 10)) (.f1 32 (.at .rows 1))) (.need (.f2 47 (.int 0) (.at .int 
    12)) (.and (.imp (.f2 46 (.at .int 9) (.at .int 12)) (.need (.f2 47 (.int 0) (.at .int 9)) (.need (.f2 47 (.int 0) (.at .int 11)) (.need (.f2 46 (.f2 
    40 (.at .int 11) (.at .int 9)) (.f1 32 (.at .rows 10))) (.need (.f2 46 (.int 0) (.at .int 13)) (.need (.f2 47 (.int 0) (.f2 40 (.at .int 11) (.at .int 
    9))) (.need (.f1 23 (.f2 40 (.at .int 9) (.int (-1)))) (.need (.f2 47 (.int 0) (.f2 40 (.at .int 9) (.int (-1)))) (.need (.f2 46 (.f2 40 (.at .int 9) 
    (.int (-1))) (.at .int 12)) (.need (.f2 46 (.f2 40 (.at .int 11) (.f2 40 (.at .int 9) (.int (-1)))) (.f1 32 (.at .rows 10))) (.need (.f2 47 (.int 0) 
    (.f2 40 (.at .int 11) (.f2 40 (.at .int 9) (.int (-1))))) (.all 14 .int (.imp (.f2 47 (.int 0) (.at .int 14)) (.all 15 .int (.imp (.f2 47 (.int 0) 
    (.at .int 15)) (.and (.imp (.f1 2 (.f2 45 (.f3 112 (.at .rows 10) (.f2 40 (.at .int 11) (.at .int 9)) (.int 0)) (.f3 112 (.at .rows 10) (.f2 40 (.at 
    .int 11) (.f2 40 (.at .int 9) (.int (-1)))) (.int 0)))) (.need (.f2 47 (.int 0) (.at .int 8)) (.need (.f2 46 (.at .int 8) (.at .int 2)) (.need (.f2 46 
    (.at .int 8) (.f1 32 (.at .rows 10))) (.need (.f1 23 (.f2 40 (.at .int 8) (.int 1))) (.need (.f1 23 (.f2 40 (.at .int 9) (.int 1))) (.need (.f2 47 
    (.int 0) (.f2 41 (.at .int 12) (.f2 40 (.at .int 9) (.int 1)))) (.need (.f2 46 (.f2 41 (.at .int 12) (.f2 40 (.at .int 9) (.int 1))) (.f2 41 (.at .int 
    12) (.at .int 9))) (.need (.f2 47 (.int 1) (.f2 40 (.at .int 9) (.int 1))) (.need (.f2 47 (.f2 40 (.at .int 9) (.int 1)) (.at .int 12)) (.need (.f2 47 
    (.at .int 11) (.f2 40 (.at .int 8) (.int 1))) (.need (.f2 46 (.f2 40 (.at .int 8) (.int 1)) (.f2 40 (.at .int 11) (.f2 40 (.at .int 9) (.int 1)))) 
    (.tt))))))))))))) (.imp (.f2 45 (.f3 112 (.at .rows 10) (.f2 40 (.at .int 11) (.at .int 9)) (.int 0)) (.f3 112 (.at .rows 10) (.f2 40 (.at .int 11) 
    (.f2 40 (.at .int 9) (.int (-1)))) (.int 0))) (.need (.f1 23 (.f2 40 (.at .int 9) (.int 1))) (.need (.f2 47 (.int 0) (.f2 41 (.at .int 12) (.f2 40 
    (.at .int 9) (.int 1)))) (.need (.f2 46 (.f2 41 (.at .int 12) (.f2 40 (.at .int 9) (.int 1))) (.f2 41 (.at .int 12) (.at .int 9))) (.need (.f2 47 
    (.int 1) (.f2 40 (.at .int 9) (.int 1))) (.need (.f2 47 (.f2 40 (.at .int 9) (.int 1)) (.at .int 12)) (.need (.f2 46 (.at .int 8) (.f2 40 (.at .int 
    11) (.f2 40 (.at .int 9) (.int 1)))) (.tt)))))))))))))))))))))))) (.imp (.f2 47 (.at .int 12) (.at .int 9)) (.need (.f2 47 (.int 0) (.at .int 8)) 
    (.need (.f2 47 (.at .int 8) (.at .int 2)) (.need (.f2 47 (.int 0) (.f2 41 (.at .int 2) (.at .int 8))) (.need (.f2 47 (.f2 41 (.at .int 2) (.at .int 
    8)) (.f2 41 (.at .int 3) (.at .int 8))) (.need (.f2 47 (.f2 40 (.at .int 8) (.f2 41 (.at .int 2) (.at .int 8))) (.f1 32 (.at .rows 10))) (.need (.f2 
    47 (.at .int 8) (.at .int 3)) (.need (.f2 48 (.f2 45 (.at .int 8) (.at .int 2)) (.us .bool 0 (.at .rows 1) (.at .int 2) (.int 0) (.int 0))) 
    (.tt))))))))))))))))))))))))))))))))) (.imp (.f1 2 (.f2 45 (.f3 112 (.at .rows 1) (.at .int 5) (.int 0)) (.f3 112 (.at .rows 1) (.f2 40 (.at .int 5) 
    (.int (-1))) (.int 0)))) (.need (.f1 23 (.f2 40 (.at .int 5) (.int 1))) (.need (.f2 47 (.int 0) (.f2 41 (.at .int 2) (.f2 40 (.at .int 5) (.int 1)))) 
    (.need (.f2 46 (.f2 41 (.at .int 2) (.f2 40 (.at .int 5) (.int 1))) (.f2 41 (.at .int 2) (.at .int 5))) (.need (.f2 47 (.int 1) (.f2 40 (.at .int 5) 
    (.int 1))) (.need (.f2 47 (.f2 40 (.at .int 5) (.int 1)) (.at .int 2)) (.need (.us .bool 0 (.at .rows 1) (.f2 40 (.at .int 5) (.int 1)) (.int 0) (.int 
    0)) (.tt)))))))))))))))))))) (.imp (.f2 47 (.at .int 2) (.at .int 5)) (.need (.f2 47 (.at .int 2) (.at .int 2)) (.need (.f2 48 (.f2 45 (.at .int 2) 
    (.at .int 2)) (.us .bool 0 (.at .rows 1) (.at .int 2) (.int 0) (.int 0))) (.tt))))))))))))))))
theorem compact_vc : vcOf Try.prog compactCx 10 57 compactCtr = compactVc := by kernel_rfl
theorem i64_min' : IntKind.min .i64 = -9223372036854775808 := rfl
theorem i64_max' : IntKind.max .i64 = 9223372036854775807 := rfl
def pg (R : List (List Int)) (i : Nat) : Int := (R.getD i []).getD 0 0
theorem adjB_iff (R : List (List Int)) (n : Int) : adjB R n = true ↔ ∀ i : Nat, 1 ≤ i → i < n.toNat → pg R i ≠ pg R (i - 1) := by
  unfold adjB
  rw [List.all_eq_true]
  constructor
  · intro h i h1 h2
    have := h i (List.mem_range.2 h2)
    simp only [Bool.or_eq_true, beq_iff_eq, bne_iff_ne, ne_eq] at this
    rcases this with h0 | h0
    · omega
    · exact h0
  · intro h i hi
    rw [List.mem_range] at hi
    simp only [Bool.or_eq_true, beq_iff_eq, bne_iff_ne, ne_eq]
    by_cases h0 : i = 0
    · exact .inl h0
    · exact .inr (h i (by omega) hi)
theorem adjB_small (R : List (List Int)) (n : Int) (h : n < 2) : adjB R n = true := (adjB_iff R n).2 fun i h1 h2 => by omega
theorem adjB_step (R : List (List Int)) (n : Int) (h0 : 1 ≤ n) (h : adjB R n = true) (hne : pg R n.toNat ≠ pg R (n + -1).toNat) : adjB R (n + 1) = true := by
  rw [adjB_iff] at *
  intro i h1 h2
  by_cases e : i = n.toNat
  · subst e
    rw [show n.toNat - 1 = (n + -1).toNat by omega]; exact hne
  · exact h i h1 (by omega)
theorem adjB_dup (R : List (List Int)) (n m : Int) (h0 : 1 ≤ n) (h1 : n < m) (he : pg R n.toNat = pg R (n + -1).toNat) : adjB R m = false := by
  cases h : adjB R m
  · rfl
  · rw [adjB_iff] at h
    exfalso
    apply h n.toNat (by omega) (by omega)
    rw [show n.toNat - 1 = (n + -1).toNat by omega]; exact he
theorem compact_ok {G : Type} (S : Sig G) (hS : ∀ a b c d, S.usr 0 a b c d = .bool (adjB a.toRows b.toInt)) : CtrOk S Try.prog 57 compactCtr := by
  refine vcOf_sound S (C := compactCx) (fuel := 10) ⟨fun f sps h => by simp [compactCx, assoc] at h, fun f l h i sp args hm => ?_, fun f sps h => by simp [compactCx, assoc] at h⟩ fun ρ => ?_
  · simp only [compactCx, assoc] at h
    cases hb : Nat.beq 57 f
    · rw [hb] at h; cases h
    · rw [hb] at h; cases h
      simp at hm
  · rw [compact_vc]
    simp only [compactVc, VC.den, SX.den, U.co, Env.upd, hS, p23, p46, p47, ap1_2, ap1_32, ap2_40, ap2_41, ap2_45, ap2_48, ap3_112, U.toProp_bool, U.toBool_bool, Bool.not_eq_true', beq_eq_false_iff_ne, ne_eq, beq_iff_eq, i64_min', i64_max', Int.toNat_zero, U.toInt_int, U.toInts_ints, U.toBytes_bytes, U.toRows_rows, if_true, if_false, Nat.reduceEqDiff, reduceIte]
    generalize (ρ 1).toRows = R
    generalize (ρ 2).toInt = m
    generalize (ρ 3).toInt = c
    intro h1 h2 h3 h4
    refine ⟨fun hm => ⟨by omega, ?_, trivial⟩, fun hm => ⟨by omega, adjB_small R 1 (by omega), fun x x1 x2 x3 => ⟨fun x4 => ⟨by omega, by omega, ⟨by omega, by omega⟩, by omega, by omega, by omega, fun p _ q _ => ⟨fun he => ?_,
      fun hne => ⟨⟨by omega, by omega⟩, by omega, by omega, by omega, by omega, adjB_step R x x1 x3 hne, trivial⟩⟩⟩, fun x4 => ⟨by omega, ?_, trivial⟩⟩⟩⟩
    · rw [adjB_small R m hm]; simp
    · have hd := adjB_dup R x m x1 x4 he
      repeat' (first | exact trivial | apply And.intro | intro _)
      all_goals first
        | omega
        | (rw [hd]; simp; omega)
    · have : x = m := by omega
      subst this
      rw [x3]; simp
end
end Go.Proofs.Ytmjonggabppgaaa

/- The predicates of the free list's contracts. -/
set_option linter.unusedSimpArgs false
set_option linter.unusedVariables false
namespace Go.Proofs.Ytmjonggabppgaaa
noncomputable section
open Go.Eng
def pageOf (r : List Int) : Int := r.getD 0 0
/-- The second is the first, sorted by page. -/
def SortP (x y : List (List Int)) : Prop := y.Perm x ∧ y.Pairwise fun a b => pageOf a ≤ pageOf b
open Classical in
def sortB (x y : List (List Int)) : Bool := decide (SortP x y)
def allNB (l : List Int) (n : Int) : Bool := (l.take n.toNat).all fun p => decide (2 ≤ p) && decide (p < 65536)
def entsB (l : List Int) (n : Int) : List (List Int) := (l.take n.toNat).map fun p => [p, 0]
def distB (l : List Int) (n : Int) : Bool := decide (l.take n.toNat).Nodup
/-- Is the page there among the first n? -/
def hasB (R : List (List Int)) (n p : Int) : Bool := (R.take n.toNat).any fun r => pageOf r == p
/-- The two numbers of each of the first n entries. -/
def nrm (R : List (List Int)) (n : Int) : List (List Int) := (R.take n.toNat).map fun r => [r.getD 0 0, r.getD 1 0]
/-- An entry put ahead of the first that has a greater page. -/
def insRow (e : List Int) : List (List Int) → List (List Int)
  | [] => [e]
  | r :: t => if pageOf e < pageOf r then e :: r :: t else r :: insRow e t
def inB (R : List (List Int)) (n : Int) (e : List Int) (o : List (List Int)) : Bool := (o == insRow e (nrm R n)) && (nrm R n).any fun r => decide (pageOf e < pageOf r)
def outB (R : List (List Int)) (n : Int) (e : List Int) (o : List (List Int)) : Bool := (o == nrm R n) && (nrm R n).all fun r => decide (pageOf r ≤ pageOf e)
def FreeSig {G : Type} (S : Sig G) : Prop :=
  (∀ a b c d, S.usr 0 a b c d = .bool (adjB a.toRows b.toInt)) ∧ (∀ a b c d, S.usr 1 a b c d = .bool (sortB a.toRows b.toRows)) ∧ (∀ a b c d, S.usr 2 a b c d = .bool (allNB a.toInts b.toInt)) ∧
  (∀ a b c d, S.usr 3 a b c d = .rows (entsB a.toInts b.toInt)) ∧ (∀ a b c d, S.usr 4 a b c d = .bool (distB a.toInts b.toInt)) ∧ (∀ a b c d, S.usr 5 a b c d = .bool (a.toRows == b.toRows)) ∧ (∀ a b c d, S.usr 6 a b c d = .bool (hasB a.toRows b.toInt c.toInt)) ∧ (∀ a b c d, S.usr 7 a b c d = .rows (insRow c.toInts (nrm a.toRows b.toInt))) ∧
  (∀ a b c d, S.usr 8 a b c d = .bool (inB a.toRows b.toInt c.toInts d.toRows)) ∧ (∀ a b c d, S.usr 9 a b c d = .bool (outB a.toRows b.toInt c.toInts d.toRows))
def sortX (x y : SX) : SX := .us .bool 1 x y (.int 0) (.int 0)
def allNX (l n : SX) : SX := .us .bool 2 l n (.int 0) (.int 0)
def entsX (l n : SX) : SX := .us .rows 3 l n (.int 0) (.int 0)
def distX (l n : SX) : SX := .us .bool 4 l n (.int 0) (.int 0)
def eqRX (x y : SX) : SX := .us .bool 5 x y (.int 0) (.int 0)
def hasX (x l p : SX) : SX := .us .bool 6 x l p (.int 0)
def sortCtr : Ctr := ⟨[.int, .rows, .int, .int, .int],
  [.one (.slice (ai 0) (.int 0) (.int 0) (.int 0) (ai 2) (ai 3) 2), .one (.fn 55)], [.arr enE (ai 0) (rwA 1) (ai 4)],
  [eLe (.int 0) (ai 2), eEq (ai 2) (.f1 32 (rwA 1)), eLe (ai 2) (ai 3), eLe (ai 2) (.int 140737488355328)], [.rows],
  .tup [], [.arr enE (ai 0) (rwA 5) (ai 4)], [eEq (.f1 32 (rwA 5)) (.f1 32 (rwA 1)), sortX (rwA 1) (rwA 5)]⟩
end
end Go.Proofs.Ytmjonggabppgaaa

/- free.New of numbers that are pages, no two alike: a list of them, sorted. -/
set_option linter.unusedSimpArgs false
set_option linter.unusedVariables false
namespace Go.Proofs.Ytmjonggabppgaaa
noncomputable section
open Go.Eng
def newACtr : Ctr := ⟨[.int, .int, .int, .int, .ints, .int], [.one (.slice (ai 0) (ai 1) (.int 0) (.int 0) (ai 2) (ai 3) 1)], [rdI 0 0],
  [eLe (.int 0) (ai 2), eLe (ai 2) (.f1 30 (xsA 4)), eLe (ai 2) (.int 1048576), allNX (xsA 4) (ai 2), distX (xsA 4) (ai 2)], [.int, .int, .int, .rows],
  .tup [(false, [.ptr (ai 6) 0]), (false, [.int .i64 (.int 0)])], [rdI 0 0, .cel (ai 6) 0 [.slice (ai 7) (.int 0) (.int 0) (.int 0) (ai 2) (ai 8) 2, .slice (.int (-1)) (.int 0) (.int 0) (.int 0) (.int 0) (.int 0) 2, .int .i64 (.int 0)], .arr enE (ai 7) (rwA 9) (ai 8)],
  [sortX (entsX (xsA 4) (ai 2)) (rwA 9), eLe (.int 0) (ai 6)]⟩
def emptC : Ctr := ⟨[], [], [], [], [], .tup [], [.arr enE (.int (-1)) (.f1 154 (.int 0)) (.int 0)], []⟩
def newAInv : Inv := ⟨[.int, .int, .int, .rows, .int], [(11, .one (.int .i64 (di 0))), (4, .one (.ptr (di 4) 0))], [.cel (di 4) 0 [.slice (di 1) (.int 0) (.int 0) (.int 0) (di 0) (di 2) 2, .slice (.int (-1)) (.int 0) (.int 0) (.int 0) (.int 0) (.int 0) 2, .int .i64 (.int 0)], .arr enE (di 1) (rwA 1000003) (di 2)],
  [eLe (.int 0) (di 0), eLe (di 0) (ai 2), eLe (di 0) (di 2), eEq (.f1 32 (rwA 1000003)) (di 0), eqRX (rwA 1000003) (entsX (xsA 4) (di 0)), .f2 50 (eLe (.int 0) (di 1)) (eEq (di 0) (.int 0)), eLe (.int 0) (di 4)], .f2 41 (ai 2) (di 0)⟩
def newACx : Cx := { specs := [(57, [compactCtr]), (54, [sortCtr])], anns := [(27, [(3, .inv newAInv), (2, .ghost emptC [])])] }
def newAVc : VC := .imp (.f2 47 (.int 0) (.at .int 2)) (.imp (.f2 47 (.at .int 2) (.f1 30 (.at .ints 4))) (.imp (.f2 47 (.at .int 2) (.int 1048576)) (.imp (.us .bool 2 
    (.at .ints 4) (.at .int 2) (.int 0) (.int 0)) (.imp (.us .bool 4 (.at .ints 4) (.at .int 2) (.int 0) (.int 0)) (.all 6 .int (.imp (.f2 47 (.int 0) 
    (.at .int 6)) (.need (.us .bool 5 (.f1 154 (.int 0)) (.us .rows 3 (.at .ints 4) (.int 0) (.int 0) (.int 0)) (.int 0) (.int 0)) (.all 7 .int (.all 8 
    .int (.all 9 .int (.all 10 .rows (.all 11 .int (.imp (.f2 47 (.int 0) (.at .int 7)) (.imp (.f2 47 (.at .int 7) (.at .int 2)) (.imp (.f2 47 (.at .int 
    7) (.at .int 9)) (.imp (.f2 45 (.f1 32 (.at .rows 10)) (.at .int 7)) (.imp (.us .bool 5 (.at .rows 10) (.us .rows 3 (.at .ints 4) (.at .int 7) (.int 
    0) (.int 0)) (.int 0) (.int 0)) (.imp (.f2 50 (.f2 47 (.int 0) (.at .int 8)) (.f2 45 (.at .int 7) (.int 0))) (.imp (.f2 47 (.int 0) (.at .int 11)) 
    (.and (.imp (.f2 46 (.at .int 7) (.at .int 2)) (.need (.f2 46 (.at .int 7) (.f1 30 (.at .ints 4))) (.and (.imp (.f2 47 (.int 2) (.f2 110 (.at .ints 4) 
    (.at .int 7))) (.and (.imp (.f2 47 (.int 65536) (.f2 110 (.at .ints 4) (.at .int 7))) (.ff 60)) (.imp (.f2 46 (.f2 110 (.at .ints 4) (.at .int 7)) 
    (.int 65536)) (.all 12 .int (.imp (.f2 47 (.int 0) (.at .int 12)) (.need (.f2 47 (.at .int 7) (.f1 32 (.at .rows 10))) (.need (.f2 47 (.f2 42 (.f2 40 
    (.at .int 7) (.int 1)) (.int 16)) (.int 140737488355328)) (.all 13 .int (.all 14 .int (.imp (.f2 47 (.f2 40 (.at .int 7) (.int 1)) (.at .int 14)) 
    (.imp (.f2 50 (.f2 47 (.int 0) (.at .int 13)) (.f2 45 (.f2 40 (.at .int 7) (.int 1)) (.int 0))) (.need (.f1 23 (.f2 40 (.at .int 7) (.int 1))) (.need 
    (.f2 47 (.int 0) (.f2 41 (.at .int 2) (.f2 40 (.at .int 7) (.int 1)))) (.need (.f2 46 (.f2 41 (.at .int 2) (.f2 40 (.at .int 7) (.int 1))) (.f2 41 
    (.at .int 2) (.at .int 7))) (.need (.f2 47 (.int 0) (.f2 40 (.at .int 7) (.int 1))) (.need (.f2 47 (.f2 40 (.at .int 7) (.int 1)) (.at .int 2)) (.need 
    (.f2 45 (.f2 40 (.f1 32 (.f2 115 (.at .rows 10) (.at .int 7))) (.int 1)) (.f2 40 (.at .int 7) (.int 1))) (.need (.us .bool 5 (.f2 121 (.f2 115 (.at 
    .rows 10) (.at .int 7)) (.f2 124 (.f2 122 (.f2 110 (.at .ints 4) (.at .int 7)) (.f2 122 (.int 0) (.f1 152 (.int 0)))) (.f1 154 (.int 0)))) (.us .rows 
    3 (.at .ints 4) (.f2 40 (.at .int 7) (.int 1)) (.int 0) (.int 0)) (.int 0) (.int 0)) (.tt))))))))))))))))))) (.imp (.f2 46 (.f2 110 (.at .ints 4) (.at 
    .int 7)) (.int 2)) (.ff 60))))) (.imp (.f2 47 (.at .int 2) (.at .int 7)) (.need (.f2 45 (.at .int 7) (.f1 32 (.at .rows 10))) (.need (.f2 47 (.at .int 
    7) (.int 140737488355328)) (.all 12 .rows (.imp (.f2 45 (.f1 32 (.at .rows 12)) (.f1 32 (.at .rows 10))) (.imp (.us .bool 1 (.at .rows 10) (.at .rows 
    12) (.int 0) (.int 0)) (.and (.imp (.f2 46 (.at .int 8) (.int 0)) (.all 13 .rows (.all 14 .int (.imp (.f2 47 (.int 0) (.at .int 14)) (.imp (.f2 47 
    (.at .int 14) (.int 0)) (.imp (.f2 48 (.f2 45 (.at .int 14) (.int 0)) (.us .bool 0 (.f1 154 (.int 0)) (.int 0) (.int 0) (.int 0))) (.and (.imp (.f2 46 
    (.at .int 14) (.at .int 2)) (.ff 60)) (.imp (.f2 47 (.at .int 2) (.at .int 14)) (.need (.us .bool 1 (.us .rows 3 (.at .ints 4) (.at .int 2) (.int 0) 
    (.int 0)) (.at .rows 12) (.int 0) (.int 0)) (.need (.f2 45 (.at .int 2) (.at .int 7)) (.tt))))))))))) (.imp (.f2 47 (.int 0) (.at .int 8)) (.all 13 
    .int (.imp (.f2 47 (.int 0) (.at .int 13)) (.need (.f2 47 (.f2 42 (.at .int 7) (.int 16)) (.int 140737488355328)) (.need (.f2 47 (.at .int 7) (.f1 32 
    (.at .rows 12))) (.all 14 .int (.all 15 .int (.imp (.f2 47 (.at .int 7) (.at .int 15)) (.imp (.f2 50 (.f2 47 (.int 0) (.at .int 14)) (.f2 45 (.at .int 
    7) (.int 0))) (.need (.f2 47 (.at .int 7) (.f1 32 (.f2 115 (.at .rows 12) (.at .int 7)))) (.all 16 .rows (.all 17 .int (.imp (.f2 47 (.int 0) (.at 
    .int 17)) (.imp (.f2 47 (.at .int 17) (.at .int 7)) (.imp (.f2 48 (.f2 45 (.at .int 17) (.at .int 7)) (.us .bool 0 (.f2 115 (.at .rows 12) (.at .int 
    7)) (.at .int 7) (.int 0) (.int 0))) (.and (.imp (.f2 46 (.at .int 17) (.at .int 2)) (.ff 60)) (.imp (.f2 47 (.at .int 2) (.at .int 17)) (.need (.us 
    .bool 1 (.us .rows 3 (.at .ints 4) (.at .int 2) (.int 0) (.int 0)) (.at .rows 12) (.int 0) (.int 0)) (.need (.f2 45 (.at .int 2) (.at .int 7)) 
    (.tt)))))))))))))))))))))))))))))))))))))))))))))))
theorem newA_vc : vcOf Try.prog newACx 10 27 newACtr = newAVc := by kernel_rfl
theorem allNB_get {L : List Int} {m x : Int} (h : allNB L m = true) (hm : m ≤ L.length) (h0 : 0 ≤ x) (h1 : x < m) : 2 ≤ L.getD x.toNat 0 ∧ L.getD x.toNat 0 < 65536 := by
  unfold allNB at h
  rw [List.all_eq_true] at h
  have hl : x.toNat < L.length := by omega
  have := h L[x.toNat] (by
    rw [List.mem_iff_getElem?]
    exact ⟨x.toNat, by rw [List.getElem?_take_of_lt (by omega), List.getElem?_eq_getElem hl]⟩)
  simp only [Bool.and_eq_true, decide_eq_true_eq] at this
  simpa [List.getD_eq_getElem?_getD, List.getElem?_eq_getElem hl] using this
theorem ents_step (L : List Int) (x : Int) (h0 : 0 ≤ x) (h1 : x < L.length) : entsB L x ++ [[L.getD x.toNat 0, 0]] = entsB L (x + 1) := by
  unfold entsB
  rw [show (x + 1).toNat = x.toNat + 1 by omega, take_getD L _ (by omega), List.map_append]; rfl
theorem ents_pages (L : List Int) (m : Int) : (entsB L m).map pageOf = L.take m.toNat := by
  unfold entsB
  rw [List.map_map]
  have : (pageOf ∘ fun p => [p, 0]) = id := by funext p; rfl
  rw [this, List.map_id]
/-- What is sorted and has no two pages alike has no two neighbours alike. -/
theorem sorted_adj {L : List Int} {m : Int} {y : List (List Int)} (hd : distB L m = true) (hs : SortP (entsB L m) y) (n : Int) (hn : n ≤ y.length) : adjB y n = true := by
  rw [adjB_iff]
  intro i h1 h2 he
  have hp : (y.map pageOf).Nodup := by
    have := hs.1.map pageOf
    rw [ents_pages] at this
    exact this.nodup_iff.2 (of_decide_eq_true hd)
  have a1 : i < (y.map pageOf).length := by rw [List.length_map]; omega
  have a2 : i - 1 < (y.map pageOf).length := by rw [List.length_map]; omega
  have b1 : (y.map pageOf)[i] = pg y i := by
    have : i < y.length := by omega
    simp [pg, pageOf, List.getD_eq_getElem?_getD, List.getElem?_eq_getElem this]
  have b2 : (y.map pageOf)[i - 1] = pg y (i - 1) := by
    have : i - 1 < y.length := by omega
    simp [pg, pageOf, List.getD_eq_getElem?_getD, List.getElem?_eq_getElem this]
  exact List.pairwise_iff_getElem.1 hp (i - 1) i a2 a1 (by omega) (by rw [b1, b2, he])
theorem sortB_iff {x y : List (List Int)} : sortB x y = true ↔ SortP x y := by unfold sortB; simp
theorem newA_specs {G : Type} (S : Sig G) (hS : FreeSig S) (hsort : CtrOk S Try.prog 54 sortCtr) :
    ∀ f sps, assoc newACx.specs f = some sps → ∀ sp ∈ sps, sp.wf = true ∧ CtrOk S Try.prog f sp := by
  intro f sps h sp hm
  simp only [newACx, assoc] at h
  cases hb : Nat.beq 57 f
  · rw [hb] at h
    cases hb2 : Nat.beq 54 f
    · rw [hb2] at h; cases h
    · rw [hb2] at h; cases h
      rw [List.mem_singleton] at hm
      rw [← Nat.eq_of_beq_eq_true hb2, hm]
      exact ⟨by decide, hsort⟩
  · rw [hb] at h; cases h
    rw [List.mem_singleton] at hm
    rw [← Nat.eq_of_beq_eq_true hb, hm]
    exact ⟨by decide, compact_ok S hS.1⟩
theorem empt_gh {G : Type} (S : Sig G) : GhOk S emptC := by
  intro ch w0 F ρ w _ hs
  refine ⟨ρ, Ext.refl _ _, ?_, fun x hx => nomatch hx⟩
  have e : hpDen (S.wc ch) ρ w0 emptC.pre = emp := rfl
  rw [e, emp_star] at hs
  have e2 : hpDen (S.wc ch) ρ w0 emptC.post = star (arrDen (S.wc ch) enE (.int (-1)) (.rows []) (.int 0)) emp := rfl
  rw [e2, star_assoc, emp_star]
  refine sat_ex_mk [] (sat_and_mk rfl (sat_and_mk (Int.le_refl 0) (sat_and_mk (.inr rfl) ?_)))
  show Sat w0 (star (row _ 0 [] true) F) w
  rw [row_nil, emp_star]; exact hs
theorem newA_ok {G : Type} (S : Sig G) (hS : FreeSig S) (hsort : CtrOk S Try.prog 54 sortCtr) : CtrOk S Try.prog 27 newACtr := by
  refine vcOf_sound S (C := newACx) (fuel := 10) ⟨newA_specs S hS hsort, fun f l h i sp args hm => ?_, fun f sps h => by simp [newACx, assoc] at h⟩ fun ρ => ?_
  · simp only [newACx, assoc] at h
    cases hb : Nat.beq 27 f
    · rw [hb] at h; cases h
    · rw [hb] at h; cases h
      simp at hm
      obtain ⟨rfl, rfl, rfl⟩ := hm
      exact ⟨by decide, empt_gh S⟩
  · rw [newA_vc]
    obtain ⟨h0, h1, h2, h3, h4, h5, _⟩ := hS
    simp only [newAVc, VC.den, SX.den, U.co, Env.upd, h0, h1, h2, h3, h4, h5, p23, p46, p47, ap1_2, ap1_30, ap1_32, ap1_152, ap1_154, ap2_40, ap2_41, ap2_42, b46, b47, p50, ap2_45, ap2_48, ap2_110, ap2_115, ap2_121, ap2_122, ap2_124, ap3_112, U.toProp_bool, U.toBool_bool, Bool.not_eq_true', beq_eq_false_iff_ne, ne_eq, beq_iff_eq, Bool.or_eq_true, i64_min', i64_max', Int.toNat_zero, U.toInt_int, U.toInts_ints, U.toBytes_bytes, U.toRows_rows, if_true, if_false, Nat.reduceEqDiff, reduceIte]
    generalize (ρ 4).toInts = L
    generalize (ρ 2).toInt = m
    intro a1 a2 a3 a4 a5 p ap
    refine ⟨by simp [entsB], fun k b c R q k0 k1 k2 k3 k4 k5 k6 => ⟨fun hk => ⟨by omega, fun hp => ⟨fun hq => ?_, fun hq t ht => ⟨by omega, by omega, fun b' c' hc hb => ⟨⟨by omega, by omega⟩, by omega, by omega, by omega, by omega, ?_, ?_, trivial⟩⟩⟩, fun hq => ?_⟩,
      fun hk => ⟨by omega, by omega, fun R' hl hs => ⟨fun hb R2 n n0 n1 n2 => ⟨fun hn => ?_, fun hn => ⟨?_, by omega, trivial⟩⟩, fun hb t ht => ⟨by omega, by omega, fun b' c' hc hb' => ⟨?_, fun R2 n n0 n1 n2 => ⟨fun hn => ?_, fun hn => ⟨?_, by omega, trivial⟩⟩⟩⟩⟩⟩⟩⟩
    · have := allNB_get a4 a2 k0 hk; omega
    · rw [List.length_take]; omega
    · rw [List.take_of_length_le (by omega), k4]
      exact ents_step L k k0 (by omega)
    · have := allNB_get a4 a2 k0 hk; omega
    · omega
    · have : k = m := by omega
      rw [← this, ← k4]; exact hs
    · rw [List.length_take]; omega
    · have e : k = m := by omega
      rw [k4, e] at hs
      have hadj := sorted_adj a5 (sortB_iff.1 hs) k (by omega)
      rw [List.take_of_length_le (by omega), hadj] at n2
      have := eq_of_beq n2
      omega
    · have : k = m := by omega
      rw [← this, ← k4]; exact hs
end
end Go.Proofs.Ytmjonggabppgaaa

/- free.New where some number is no page: refused. -/
set_option linter.unusedSimpArgs false
set_option linter.unusedVariables false
namespace Go.Proofs.Ytmjonggabppgaaa
noncomputable section
open Go.Eng
def newBCtr : Ctr := ⟨[.int, .int, .int, .int, .ints, .int], [.one (.slice (ai 0) (ai 1) (.int 0) (.int 0) (ai 2) (ai 3) 1)], [rdI 0 0],
  [eLe (.int 0) (ai 2), eLe (ai 2) (.f1 30 (xsA 4)), eLe (ai 2) (.int 1048576), .f1 2 (allNX (xsA 4) (ai 2))], [],
  .tup [(false, [.ptr (.int (-1)) 0]), (false, [.int .i64 (.int 30)])], [rdI 0 0], []⟩
def newBInv : Inv := ⟨[.int, .int, .int, .rows, .int], [(11, .one (.int .i64 (di 0))), (4, .one (.ptr (di 4) 0))], [.cel (di 4) 0 [.slice (di 1) (.int 0) (.int 0) (.int 0) (di 0) (di 2) 2, .slice (.int (-1)) (.int 0) (.int 0) (.int 0) (.int 0) (.int 0) 2, .int .i64 (.int 0)], .arr enE (di 1) (rwA 1000003) (di 2)],
  [eLe (.int 0) (di 0), eLe (di 0) (ai 2), eLe (di 0) (di 2), eEq (.f1 32 (rwA 1000003)) (di 0), eqRX (rwA 1000003) (entsX (xsA 4) (di 0)), allNX (xsA 4) (di 0), .f2 50 (eLe (.int 0) (di 1)) (eEq (di 0) (.int 0))], .f2 41 (ai 2) (di 0)⟩
def newBCx : Cx := { specs := [(57, [compactCtr]), (54, [sortCtr])], anns := [(27, [(3, .inv newBInv), (2, .ghost emptC [])])] }
def newBVc : VC := .imp (.f2 47 (.int 0) (.at .int 2)) (.imp (.f2 47 (.at .int 2) (.f1 30 (.at .ints 4))) (.imp (.f2 47 (.at .int 2) (.int 1048576)) (.imp (.f1 2 (.us 
    .bool 2 (.at .ints 4) (.at .int 2) (.int 0) (.int 0))) (.all 6 .int (.imp (.f2 47 (.int 0) (.at .int 6)) (.need (.us .bool 5 (.f1 154 (.int 0)) (.us 
    .rows 3 (.at .ints 4) (.int 0) (.int 0) (.int 0)) (.int 0) (.int 0)) (.need (.us .bool 2 (.at .ints 4) (.int 0) (.int 0) (.int 0)) (.all 7 .int (.all 
    8 .int (.all 9 .int (.all 10 .rows (.all 11 .int (.imp (.f2 47 (.int 0) (.at .int 7)) (.imp (.f2 47 (.at .int 7) (.at .int 2)) (.imp (.f2 47 (.at .int 
    7) (.at .int 9)) (.imp (.f2 45 (.f1 32 (.at .rows 10)) (.at .int 7)) (.imp (.us .bool 5 (.at .rows 10) (.us .rows 3 (.at .ints 4) (.at .int 7) (.int 
    0) (.int 0)) (.int 0) (.int 0)) (.imp (.us .bool 2 (.at .ints 4) (.at .int 7) (.int 0) (.int 0)) (.imp (.f2 50 (.f2 47 (.int 0) (.at .int 8)) (.f2 45 
    (.at .int 7) (.int 0))) (.and (.imp (.f2 46 (.at .int 7) (.at .int 2)) (.need (.f2 46 (.at .int 7) (.f1 30 (.at .ints 4))) (.and (.imp (.f2 47 (.int 
    2) (.f2 110 (.at .ints 4) (.at .int 7))) (.and (.imp (.f2 47 (.int 65536) (.f2 110 (.at .ints 4) (.at .int 7))) (.tt)) (.imp (.f2 46 (.f2 110 (.at 
    .ints 4) (.at .int 7)) (.int 65536)) (.all 12 .int (.imp (.f2 47 (.int 0) (.at .int 12)) (.need (.f2 47 (.at .int 7) (.f1 32 (.at .rows 10))) (.need 
    (.f2 47 (.f2 42 (.f2 40 (.at .int 7) (.int 1)) (.int 16)) (.int 140737488355328)) (.all 13 .int (.all 14 .int (.imp (.f2 47 (.f2 40 (.at .int 7) (.int 
    1)) (.at .int 14)) (.imp (.f2 50 (.f2 47 (.int 0) (.at .int 13)) (.f2 45 (.f2 40 (.at .int 7) (.int 1)) (.int 0))) (.need (.f1 23 (.f2 40 (.at .int 7) 
    (.int 1))) (.need (.f2 47 (.int 0) (.f2 41 (.at .int 2) (.f2 40 (.at .int 7) (.int 1)))) (.need (.f2 46 (.f2 41 (.at .int 2) (.f2 40 (.at .int 7) 
    (.int 1))) (.f2 41 (.at .int 2) (.at .int 7))) (.need (.f2 47 (.int 0) (.f2 40 (.at .int 7) (.int 1))) (.need (.f2 47 (.f2 40 (.at .int 7) (.int 1)) 
    (.at .int 2)) (.need (.f2 45 (.f2 40 (.f1 32 (.f2 115 (.at .rows 10) (.at .int 7))) (.int 1)) (.f2 40 (.at .int 7) (.int 1))) (.need (.us .bool 5 (.f2 
    121 (.f2 115 (.at .rows 10) (.at .int 7)) (.f2 124 (.f2 122 (.f2 110 (.at .ints 4) (.at .int 7)) (.f2 122 (.int 0) (.f1 152 (.int 0)))) (.f1 154 (.int 
    0)))) (.us .rows 3 (.at .ints 4) (.f2 40 (.at .int 7) (.int 1)) (.int 0) (.int 0)) (.int 0) (.int 0)) (.need (.us .bool 2 (.at .ints 4) (.f2 40 (.at 
    .int 7) (.int 1)) (.int 0) (.int 0)) (.tt)))))))))))))))))))) (.imp (.f2 46 (.f2 110 (.at .ints 4) (.at .int 7)) (.int 2)) (.tt))))) (.imp (.f2 47 
    (.at .int 2) (.at .int 7)) (.need (.f2 45 (.at .int 7) (.f1 32 (.at .rows 10))) (.need (.f2 47 (.at .int 7) (.int 140737488355328)) (.all 12 .rows 
    (.imp (.f2 45 (.f1 32 (.at .rows 12)) (.f1 32 (.at .rows 10))) (.imp (.us .bool 1 (.at .rows 10) (.at .rows 12) (.int 0) (.int 0)) (.and (.imp (.f2 46 
    (.at .int 8) (.int 0)) (.all 13 .rows (.all 14 .int (.imp (.f2 47 (.int 0) (.at .int 14)) (.imp (.f2 47 (.at .int 14) (.int 0)) (.imp (.f2 48 (.f2 45 
    (.at .int 14) (.int 0)) (.us .bool 0 (.f1 154 (.int 0)) (.int 0) (.int 0) (.int 0))) (.and (.imp (.f2 46 (.at .int 14) (.at .int 2)) (.need (.bool 
    false) (.tt))) (.imp (.f2 47 (.at .int 2) (.at .int 14)) (.need (.bool false) (.need (.f2 45 (.int (-1)) (.at .int 11)) (.tt))))))))))) (.imp (.f2 47 
    (.int 0) (.at .int 8)) (.all 13 .int (.imp (.f2 47 (.int 0) (.at .int 13)) (.need (.f2 47 (.f2 42 (.at .int 7) (.int 16)) (.int 140737488355328)) 
    (.need (.f2 47 (.at .int 7) (.f1 32 (.at .rows 12))) (.all 14 .int (.all 15 .int (.imp (.f2 47 (.at .int 7) (.at .int 15)) (.imp (.f2 50 (.f2 47 (.int 
    0) (.at .int 14)) (.f2 45 (.at .int 7) (.int 0))) (.need (.f2 47 (.at .int 7) (.f1 32 (.f2 115 (.at .rows 12) (.at .int 7)))) (.all 16 .rows (.all 17 
    .int (.imp (.f2 47 (.int 0) (.at .int 17)) (.imp (.f2 47 (.at .int 17) (.at .int 7)) (.imp (.f2 48 (.f2 45 (.at .int 17) (.at .int 7)) (.us .bool 0 
    (.f2 115 (.at .rows 12) (.at .int 7)) (.at .int 7) (.int 0) (.int 0))) (.and (.imp (.f2 46 (.at .int 17) (.at .int 2)) (.need (.bool false) (.tt))) 
    (.imp (.f2 47 (.at .int 2) (.at .int 17)) (.need (.bool false) (.need (.f2 45 (.int (-1)) (.at .int 11)) 
    (.tt)))))))))))))))))))))))))))))))))))))))))))))))
theorem newB_vc : vcOf Try.prog newBCx 10 27 newBCtr = newBVc := by kernel_rfl
theorem allNB_step {L : List Int} {x : Int} (h0 : 0 ≤ x) (hl : x < L.length) (h : allNB L x = true) (h1 : 2 ≤ L.getD x.toNat 0) (h2 : L.getD x.toNat 0 < 65536) : allNB L (x + 1) = true := by
  unfold allNB at *
  rw [show (x + 1).toNat = x.toNat + 1 by omega, take_getD L _ (by omega), List.all_append, h]
  simp only [List.all_cons, List.all_nil, Bool.true_and, Bool.and_true, Bool.and_eq_true, decide_eq_true_eq]
  exact ⟨h1, h2⟩
theorem newB_specs {G : Type} (S : Sig G) (hS : FreeSig S) (hsort : CtrOk S Try.prog 54 sortCtr) :
    ∀ f sps, assoc newBCx.specs f = some sps → ∀ sp ∈ sps, sp.wf = true ∧ CtrOk S Try.prog f sp := by
  intro f sps h sp hm
  simp only [newBCx, assoc] at h
  cases hb : Nat.beq 57 f
  · rw [hb] at h
    cases hb2 : Nat.beq 54 f
    · rw [hb2] at h; cases h
    · rw [hb2] at h; cases h
      rw [List.mem_singleton] at hm
      rw [← Nat.eq_of_beq_eq_true hb2, hm]
      exact ⟨by decide, hsort⟩
  · rw [hb] at h; cases h
    rw [List.mem_singleton] at hm
    rw [← Nat.eq_of_beq_eq_true hb, hm]
    exact ⟨by decide, compact_ok S hS.1⟩
theorem newB_ok {G : Type} (S : Sig G) (hS : FreeSig S) (hsort : CtrOk S Try.prog 54 sortCtr) : CtrOk S Try.prog 27 newBCtr := by
  refine vcOf_sound S (C := newBCx) (fuel := 10) ⟨newB_specs S hS hsort, fun f l h i sp args hm => ?_, fun f sps h => by simp [newBCx, assoc] at h⟩ fun ρ => ?_
  · simp only [newBCx, assoc] at h
    cases hb : Nat.beq 27 f
    · rw [hb] at h; cases h
    · rw [hb] at h; cases h
      simp at hm
      obtain ⟨rfl, rfl, rfl⟩ := hm
      exact ⟨by decide, empt_gh S⟩
  · rw [newB_vc]
    obtain ⟨h0, h1, h2, h3, h4, h5, _⟩ := hS
    simp only [newBVc, VC.den, SX.den, U.co, Env.upd, h0, h1, h2, h3, h4, h5, p23, p46, p47, ap1_2, ap1_30, ap1_32, ap1_152, ap1_154, ap2_40, ap2_41, ap2_42, b46, b47, p50, ap2_45, ap2_48, ap2_110, ap2_115, ap2_121, ap2_122, ap2_124, ap3_112, U.toProp_bool, U.toBool_bool, Bool.not_eq_true', beq_eq_false_iff_ne, ne_eq, beq_iff_eq, Bool.or_eq_true, i64_min', i64_max', Int.toNat_zero, U.toInt_int, U.toInts_ints, U.toBytes_bytes, U.toRows_rows, if_true, if_false, Nat.reduceEqDiff, reduceIte]
    generalize (ρ 4).toInts = L
    generalize (ρ 2).toInt = m
    intro a1 a2 a3 a4 p ap
    refine ⟨by simp [entsB], by simp [allNB], fun k b c R q k0 k1 k2 k3 k4 kn k5 => ⟨fun hk => ⟨by omega, fun hp => ⟨fun hq => trivial, fun hq t ht => ⟨by omega, by omega, fun b' c' hc hb => ⟨⟨by omega, by omega⟩, by omega, by omega, by omega, by omega, ?_, ?_, ?_, trivial⟩⟩⟩, fun hq => trivial⟩,
      fun hk => ?_⟩⟩
    · rw [List.length_take]; omega
    · rw [List.take_of_length_le (by omega), k4]
      exact ents_step L k k0 (by omega)
    · exact allNB_step k0 (by omega) kn hp hq
    · exfalso
      have : k = m := by omega
      rw [this, a4] at kn; cases kn
end
end Go.Proofs.Ytmjonggabppgaaa

/- free.New where two numbers are alike: refused. -/
set_option linter.unusedSimpArgs false
set_option linter.unusedVariables false
namespace Go.Proofs.Ytmjonggabppgaaa
noncomputable section
open Go.Eng
def newCCtr : Ctr := ⟨[.int, .int, .int, .int, .ints, .int], [.one (.slice (ai 0) (ai 1) (.int 0) (.int 0) (ai 2) (ai 3) 1)], [rdI 0 0],
  [eLe (.int 0) (ai 2), eLe (ai 2) (.f1 30 (xsA 4)), eLe (ai 2) (.int 1048576), allNX (xsA 4) (ai 2), .f1 2 (distX (xsA 4) (ai 2))], [],
  .tup [(false, [.ptr (.int (-1)) 0]), (false, [.int .i64 (.int 100)])], [rdI 0 0], []⟩
def newCInv : Inv := ⟨[.int, .int, .int, .rows, .int], [(11, .one (.int .i64 (di 0))), (4, .one (.ptr (di 4) 0))], [.cel (di 4) 0 [.slice (di 1) (.int 0) (.int 0) (.int 0) (di 0) (di 2) 2, .slice (.int (-1)) (.int 0) (.int 0) (.int 0) (.int 0) (.int 0) 2, .int .i64 (.int 0)], .arr enE (di 1) (rwA 1000003) (di 2)],
  [eLe (.int 0) (di 0), eLe (di 0) (ai 2), eLe (di 0) (di 2), eEq (.f1 32 (rwA 1000003)) (di 0), eqRX (rwA 1000003) (entsX (xsA 4) (di 0)), allNX (xsA 4) (di 0), .f2 50 (eLe (.int 0) (di 1)) (eEq (di 0) (.int 0))], .f2 41 (ai 2) (di 0)⟩
def newCCx : Cx := { specs := [(57, [compactCtr]), (54, [sortCtr])], anns := [(27, [(3, .inv newCInv), (2, .ghost emptC [])])] }
def newCVc : VC := .imp (.f2 47 (.int 0) (.at .int 2)) (.imp (.f2 47 (.at .int 2) (.f1 30 (.at .ints 4))) (.imp (.f2 47 (.at .int 2) (.int 1048576)) (.imp (.us .bool 2 
    (.at .ints 4) (.at .int 2) (.int 0) (.int 0)) (.imp (.f1 2 (.us .bool 4 (.at .ints 4) (.at .int 2) (.int 0) (.int 0))) (.all 6 .int (.imp (.f2 47 
    (.int 0) (.at .int 6)) (.need (.us .bool 5 (.f1 154 (.int 0)) (.us .rows 3 (.at .ints 4) (.int 0) (.int 0) (.int 0)) (.int 0) (.int 0)) (.need (.us 
    .bool 2 (.at .ints 4) (.int 0) (.int 0) (.int 0)) (.all 7 .int (.all 8 .int (.all 9 .int (.all 10 .rows (.all 11 .int (.imp (.f2 47 (.int 0) (.at .int 
    7)) (.imp (.f2 47 (.at .int 7) (.at .int 2)) (.imp (.f2 47 (.at .int 7) (.at .int 9)) (.imp (.f2 45 (.f1 32 (.at .rows 10)) (.at .int 7)) (.imp (.us 
    .bool 5 (.at .rows 10) (.us .rows 3 (.at .ints 4) (.at .int 7) (.int 0) (.int 0)) (.int 0) (.int 0)) (.imp (.us .bool 2 (.at .ints 4) (.at .int 7) 
    (.int 0) (.int 0)) (.imp (.f2 50 (.f2 47 (.int 0) (.at .int 8)) (.f2 45 (.at .int 7) (.int 0))) (.and (.imp (.f2 46 (.at .int 7) (.at .int 2)) (.need 
    (.f2 46 (.at .int 7) (.f1 30 (.at .ints 4))) (.and (.imp (.f2 47 (.int 2) (.f2 110 (.at .ints 4) (.at .int 7))) (.and (.imp (.f2 47 (.int 65536) (.f2 
    110 (.at .ints 4) (.at .int 7))) (.need (.bool false) (.tt))) (.imp (.f2 46 (.f2 110 (.at .ints 4) (.at .int 7)) (.int 65536)) (.all 12 .int (.imp 
    (.f2 47 (.int 0) (.at .int 12)) (.need (.f2 47 (.at .int 7) (.f1 32 (.at .rows 10))) (.need (.f2 47 (.f2 42 (.f2 40 (.at .int 7) (.int 1)) (.int 16)) 
    (.int 140737488355328)) (.all 13 .int (.all 14 .int (.imp (.f2 47 (.f2 40 (.at .int 7) (.int 1)) (.at .int 14)) (.imp (.f2 50 (.f2 47 (.int 0) (.at 
    .int 13)) (.f2 45 (.f2 40 (.at .int 7) (.int 1)) (.int 0))) (.need (.f1 23 (.f2 40 (.at .int 7) (.int 1))) (.need (.f2 47 (.int 0) (.f2 41 (.at .int 
    2) (.f2 40 (.at .int 7) (.int 1)))) (.need (.f2 46 (.f2 41 (.at .int 2) (.f2 40 (.at .int 7) (.int 1))) (.f2 41 (.at .int 2) (.at .int 7))) (.need 
    (.f2 47 (.int 0) (.f2 40 (.at .int 7) (.int 1))) (.need (.f2 47 (.f2 40 (.at .int 7) (.int 1)) (.at .int 2)) (.need (.f2 45 (.f2 40 (.f1 32 (.f2 115 
    (.at .rows 10) (.at .int 7))) (.int 1)) (.f2 40 (.at .int 7) (.int 1))) (.need (.us .bool 5 (.f2 121 (.f2 115 (.at .rows 10) (.at .int 7)) (.f2 124 
    (.f2 122 (.f2 110 (.at .ints 4) (.at .int 7)) (.f2 122 (.int 0) (.f1 152 (.int 0)))) (.f1 154 (.int 0)))) (.us .rows 3 (.at .ints 4) (.f2 40 (.at .int 
    7) (.int 1)) (.int 0) (.int 0)) (.int 0) (.int 0)) (.need (.us .bool 2 (.at .ints 4) (.f2 40 (.at .int 7) (.int 1)) (.int 0) (.int 0)) 
    (.tt)))))))))))))))))))) (.imp (.f2 46 (.f2 110 (.at .ints 4) (.at .int 7)) (.int 2)) (.need (.bool false) (.tt)))))) (.imp (.f2 47 (.at .int 2) (.at 
    .int 7)) (.need (.f2 45 (.at .int 7) (.f1 32 (.at .rows 10))) (.need (.f2 47 (.at .int 7) (.int 140737488355328)) (.all 12 .rows (.imp (.f2 45 (.f1 32 
    (.at .rows 12)) (.f1 32 (.at .rows 10))) (.imp (.us .bool 1 (.at .rows 10) (.at .rows 12) (.int 0) (.int 0)) (.and (.imp (.f2 46 (.at .int 8) (.int 
    0)) (.all 13 .rows (.all 14 .int (.imp (.f2 47 (.int 0) (.at .int 14)) (.imp (.f2 47 (.at .int 14) (.int 0)) (.imp (.f2 48 (.f2 45 (.at .int 14) (.int 
    0)) (.us .bool 0 (.f1 154 (.int 0)) (.int 0) (.int 0) (.int 0))) (.and (.imp (.f2 46 (.at .int 14) (.at .int 2)) (.tt)) (.imp (.f2 47 (.at .int 2) 
    (.at .int 14)) (.need (.bool false) (.need (.f2 45 (.int (-1)) (.at .int 11)) (.tt))))))))))) (.imp (.f2 47 (.int 0) (.at .int 8)) (.all 13 .int (.imp 
    (.f2 47 (.int 0) (.at .int 13)) (.need (.f2 47 (.f2 42 (.at .int 7) (.int 16)) (.int 140737488355328)) (.need (.f2 47 (.at .int 7) (.f1 32 (.at .rows 
    12))) (.all 14 .int (.all 15 .int (.imp (.f2 47 (.at .int 7) (.at .int 15)) (.imp (.f2 50 (.f2 47 (.int 0) (.at .int 14)) (.f2 45 (.at .int 7) (.int 
    0))) (.need (.f2 47 (.at .int 7) (.f1 32 (.f2 115 (.at .rows 12) (.at .int 7)))) (.all 16 .rows (.all 17 .int (.imp (.f2 47 (.int 0) (.at .int 17)) 
    (.imp (.f2 47 (.at .int 17) (.at .int 7)) (.imp (.f2 48 (.f2 45 (.at .int 17) (.at .int 7)) (.us .bool 0 (.f2 115 (.at .rows 12) (.at .int 7)) (.at 
    .int 7) (.int 0) (.int 0))) (.and (.imp (.f2 46 (.at .int 17) (.at .int 2)) (.tt)) (.imp (.f2 47 (.at .int 2) (.at .int 17)) (.need (.bool false) 
    (.need (.f2 45 (.int (-1)) (.at .int 11)) (.tt))))))))))))))))))))))))))))))))))))))))))))))))
theorem newC_vc : vcOf Try.prog newCCx 10 27 newCCtr = newCVc := by kernel_rfl
theorem adj_distinct {L : List Int} {m : Int} {y : List (List Int)} (hs : SortP (entsB L m) y) (ha : adjB y y.length = true) : distB L m = true := by
  have key : ∀ (z : List (List Int)), z.Pairwise (fun a b => pageOf a ≤ pageOf b) → (∀ i : Nat, 1 ≤ i → i < z.length → pg z i ≠ pg z (i - 1)) → (z.map pageOf).Pairwise (fun a b => a < b) := by
    intro z
    induction z with
    | nil => intro _ _; exact List.Pairwise.nil
    | cons r z ih =>
      intro hp hz
      rw [List.pairwise_cons] at hp
      rw [List.map_cons, List.pairwise_cons]
      have iz := ih hp.2 (fun i h1 h2 => by
        have := hz (i + 1) (by omega) (by simp; omega)
        have e : i + 1 - 1 = (i - 1) + 1 := by omega
        rw [e] at this
        simpa [pg] using this)
      refine ⟨fun q hq => ?_, iz⟩
      cases z with
      | nil => cases hq
      | cons r2 z =>
        have h1 := hp.1 r2 List.mem_cons_self
        have h2 : pageOf r ≠ pageOf r2 := by
          have := hz 1 (by omega) (by simp)
          intro e
          apply this
          simpa [pg, pageOf] using e.symm
        rw [List.map_cons, List.pairwise_cons] at iz
        rcases List.mem_cons.1 hq with rfl | hq
        · omega
        · have := iz.1 q hq; omega
  have h1 := key y hs.2 (by
    rw [adjB_iff] at ha
    intro i h1 h2
    exact ha i h1 (by omega))
  have h2 : (y.map pageOf).Nodup := h1.imp (fun h => by omega)
  have hp := hs.1.map pageOf
  rw [ents_pages] at hp
  exact decide_eq_true (hp.nodup_iff.1 h2)
theorem newC_specs {G : Type} (S : Sig G) (hS : FreeSig S) (hsort : CtrOk S Try.prog 54 sortCtr) :
    ∀ f sps, assoc newCCx.specs f = some sps → ∀ sp ∈ sps, sp.wf = true ∧ CtrOk S Try.prog f sp := by
  intro f sps h sp hm
  simp only [newCCx, assoc] at h
  cases hb : Nat.beq 57 f
  · rw [hb] at h
    cases hb2 : Nat.beq 54 f
    · rw [hb2] at h; cases h
    · rw [hb2] at h; cases h
      rw [List.mem_singleton] at hm
      rw [← Nat.eq_of_beq_eq_true hb2, hm]
      exact ⟨by decide, hsort⟩
  · rw [hb] at h; cases h
    rw [List.mem_singleton] at hm
    rw [← Nat.eq_of_beq_eq_true hb, hm]
    exact ⟨by decide, compact_ok S hS.1⟩
theorem newC_ok {G : Type} (S : Sig G) (hS : FreeSig S) (hsort : CtrOk S Try.prog 54 sortCtr) : CtrOk S Try.prog 27 newCCtr := by
  refine vcOf_sound S (C := newCCx) (fuel := 10) ⟨newC_specs S hS hsort, fun f l h i sp args hm => ?_, fun f sps h => by simp [newCCx, assoc] at h⟩ fun ρ => ?_
  · simp only [newCCx, assoc] at h
    cases hb : Nat.beq 27 f
    · rw [hb] at h; cases h
    · rw [hb] at h; cases h
      simp at hm
      obtain ⟨rfl, rfl, rfl⟩ := hm
      exact ⟨by decide, empt_gh S⟩
  · rw [newC_vc]
    obtain ⟨h0, h1, h2, h3, h4, h5, _⟩ := hS
    simp only [newCVc, VC.den, SX.den, U.co, Env.upd, h0, h1, h2, h3, h4, h5, p23, p46, p47, ap1_2, ap1_30, ap1_32, ap1_152, ap1_154, ap2_40, ap2_41, ap2_42, b46, b47, p50, ap2_45, ap2_48, ap2_110, ap2_115, ap2_121, ap2_122, ap2_124, ap3_112, U.toProp_bool, U.toBool_bool, Bool.not_eq_true', beq_eq_false_iff_ne, ne_eq, beq_iff_eq, Bool.or_eq_true, i64_min', i64_max', Int.toNat_zero, U.toInt_int, U.toInts_ints, U.toBytes_bytes, U.toRows_rows, if_true, if_false, Nat.reduceEqDiff, reduceIte]
    generalize (ρ 4).toInts = L
    generalize (ρ 2).toInt = m
    intro a1 a2 a3 a4 a5 p ap
    refine ⟨by simp [entsB], by simp [allNB], fun k b c R q k0 k1 k2 k3 k4 kn k5 => ⟨fun hk => ⟨by omega, fun hp => ⟨fun hq => ?_, fun hq t ht => ⟨by omega, by omega, fun b' c' hc hb => ⟨⟨by omega, by omega⟩, by omega, by omega, by omega, by omega, ?_, ?_, ?_, trivial⟩⟩⟩, fun hq => ?_⟩,
      fun hk => ⟨by omega, by omega, fun R' hl hs => ?_⟩⟩⟩
    · exfalso; have := allNB_get a4 a2 k0 hk; omega
    · rw [List.length_take]; omega
    · rw [List.take_of_length_le (by omega), k4]
      exact ents_step L k k0 (by omega)
    · exact allNB_step k0 (by omega) kn hp hq
    · exfalso; have := allNB_get a4 a2 k0 hk; omega
    · have e : k = m := by omega
      rw [k4, e] at hs
      have hno : adjB R' k = true → False := fun h => by
        have hlen : (R'.length : Int) = k := by omega
        have := adj_distinct (sortB_iff.1 hs) (by rw [hlen]; exact h)
        rw [a5] at this; cases this
      refine ⟨fun hb R2 n n0 n1 n2 => ⟨fun hn => trivial, fun hn => ?_⟩, fun hb t ht => ⟨by omega, by omega, fun b' c' hc hb' => ⟨?_, fun R2 n n0 n1 n2 => ⟨fun hn => trivial, fun hn => ?_⟩⟩⟩⟩
      · exfalso
        exact hno (adjB_small _ _ (by omega))
      · rw [List.length_take]; omega
      · exfalso
        apply hno
        rw [List.take_of_length_le (by omega)] at n2
        rw [← n2]
        simp; omega
end
end Go.Proofs.Ytmjonggabppgaaa

/- The reference's find: is the page on the list? -/
set_option linter.unusedSimpArgs false
set_option linter.unusedVariables false
namespace Go.Proofs.Ytmjonggabppgaaa
noncomputable section
open Go.Eng
def lstC : Ch := .cel (ai 0) 0 [.slice (ai 1) (.int 0) (.int 0) (.int 0) (ai 2) (ai 3) 2, .slice (ai 6) (.int 0) (.int 0) (.int 0) (ai 7) (ai 8) 2, .int .i64 (ai 9)]
def findCtr : Ctr := ⟨[.int, .int, .int, .int, .rows, .int, .int, .int, .int, .int, .int], [.one (.ptr (ai 0) 0), .one (.int .i64 (ai 10))], [lstC, .arr enE (ai 1) (rwA 4) (ai 5)],
  [eLe (.int 0) (ai 2), eLe (ai 2) (.f1 32 (rwA 4)), eLe (ai 2) (.int 140737488355328)], [.int], .one (.int .i64 (ai 11)), [lstC, .arr enE (ai 1) (rwA 4) (ai 5)],
  [eLe (.int (-1)) (ai 11), .f2 48 (.f2 47 (.int 0) (ai 11)) (hasX (rwA 4) (ai 2) (ai 10))]⟩
def findInv : Inv := ⟨[.int], [(5, .one (.int .i64 (di 0)))], [], [eLe (.int 0) (di 0), eLe (di 0) (ai 2), .f1 2 (hasX (rwA 4) (di 0) (ai 10))], .f2 41 (ai 2) (di 0)⟩
def findCx : Cx := { specs := [], anns := [(60, [(2, .inv findInv)])] }
def findVc : VC := .imp (.f2 47 (.int 0) (.at .int 2)) (.imp (.f2 47 (.at .int 2) (.f1 32 (.at .rows 4))) (.imp (.f2 47 (.at .int 2) (.int 140737488355328)) (.need (.f1 
    2 (.us .bool 6 (.at .rows 4) (.int 0) (.at .int 10) (.int 0))) (.all 11 .int (.imp (.f2 47 (.int 0) (.at .int 11)) (.imp (.f2 47 (.at .int 11) (.at 
    .int 2)) (.imp (.f1 2 (.us .bool 6 (.at .rows 4) (.at .int 11) (.at .int 10) (.int 0))) (.and (.imp (.f2 46 (.at .int 11) (.at .int 2)) (.need (.f2 46 
    (.at .int 11) (.f1 32 (.at .rows 4))) (.and (.imp (.f2 45 (.f3 112 (.at .rows 4) (.at .int 11) (.int 0)) (.at .int 10)) (.need (.f2 47 (.int (-1)) 
    (.at .int 11)) (.need (.f2 48 (.f2 47 (.int 0) (.at .int 11)) (.us .bool 6 (.at .rows 4) (.at .int 2) (.at .int 10) (.int 0))) (.tt)))) (.imp (.f1 2 
    (.f2 45 (.f3 112 (.at .rows 4) (.at .int 11) (.int 0)) (.at .int 10))) (.need (.f1 23 (.f2 40 (.at .int 11) (.int 1))) (.need (.f2 47 (.int 0) (.f2 41 
    (.at .int 2) (.f2 40 (.at .int 11) (.int 1)))) (.need (.f2 46 (.f2 41 (.at .int 2) (.f2 40 (.at .int 11) (.int 1))) (.f2 41 (.at .int 2) (.at .int 
    11))) (.need (.f2 47 (.int 0) (.f2 40 (.at .int 11) (.int 1))) (.need (.f2 47 (.f2 40 (.at .int 11) (.int 1)) (.at .int 2)) (.need (.f1 2 (.us .bool 6 
    (.at .rows 4) (.f2 40 (.at .int 11) (.int 1)) (.at .int 10) (.int 0))) (.tt))))))))))) (.imp (.f2 47 (.at .int 2) (.at .int 11)) (.need (.f2 48 (.bool 
    false) (.us .bool 6 (.at .rows 4) (.at .int 2) (.at .int 10) (.int 0))) (.tt)))))))))))
theorem find_vc : vcOf Try.prog findCx 10 60 findCtr = findVc := by kernel_rfl
theorem hasB_zero (R : List (List Int)) (p : Int) : hasB R 0 p = false := by simp [hasB]
theorem take_rows (R : List (List Int)) (i : Nat) (h : i < R.length) : R.take (i + 1) = R.take i ++ [R.getD i []] := by
  rw [List.take_add_one, List.getD_eq_getElem?_getD, List.getElem?_eq_getElem h]; rfl
theorem hasB_step {R : List (List Int)} {x p : Int} (h0 : 0 ≤ x) (hl : x < R.length) (h : hasB R x p = false) (hne : ¬ pg R x.toNat = p) : hasB R (x + 1) p = false := by
  unfold hasB at *
  rw [show (x + 1).toNat = x.toNat + 1 by omega, take_rows R _ (by omega), List.any_append, h]
  simp only [List.any_cons, List.any_nil, Bool.or_false, Bool.false_or, beq_eq_false_iff_ne, ne_eq]
  exact hne
theorem hasB_found {R : List (List Int)} {x m p : Int} (h0 : 0 ≤ x) (hm : x < m) (hl : m ≤ R.length) (he : pg R x.toNat = p) : hasB R m p = true := by
  unfold hasB
  rw [List.any_eq_true]
  have hx : x.toNat < R.length := by omega
  refine ⟨R.getD x.toNat [], ?_, by rw [beq_iff_eq]; exact he⟩
  rw [List.mem_iff_getElem?]
  refine ⟨x.toNat, ?_⟩
  rw [List.getElem?_take_of_lt (by omega), List.getD_eq_getElem?_getD, List.getElem?_eq_getElem hx]; rfl
theorem find_ok {G : Type} (S : Sig G) (hS : FreeSig S) : CtrOk S Try.prog 60 findCtr := by
  refine vcOf_sound S (C := findCx) (fuel := 10) ⟨fun f sps h => by simp [findCx, assoc] at h, fun f l h i sp args hm => ?_, fun f sps h => by simp [findCx, assoc] at h⟩ fun ρ => ?_
  · simp only [findCx, assoc] at h
    cases hb : Nat.beq 60 f
    · rw [hb] at h; cases h
    · rw [hb] at h; cases h
      simp at hm
  · rw [find_vc]
    obtain ⟨_, _, _, _, _, _, h6, _⟩ := hS
    simp only [findVc, VC.den, SX.den, U.co, Env.upd, h6, p23, p46, p47, ap1_2, ap1_32, ap2_40, ap2_41, ap2_45, t47, ap2_48, ap3_112, U.toProp_bool, U.toBool_bool, Bool.not_eq_true', beq_eq_false_iff_ne, ne_eq, beq_iff_eq, i64_min', i64_max', Int.toNat_zero, U.toInt_int, U.toInts_ints, U.toBytes_bytes, U.toRows_rows, if_true, if_false, Nat.reduceEqDiff, reduceIte]
    generalize (ρ 4).toRows = R
    generalize (ρ 2).toInt = m
    generalize (ρ 10).toInt = p
    intro a1 a2 a3
    refine ⟨hasB_zero R p, fun x k0 k1 k2 => ⟨fun hk => ⟨by omega, fun he => ⟨by omega, ?_, trivial⟩, fun hne => ⟨⟨by omega, by omega⟩, by omega, by omega, by omega, by omega, hasB_step k0 (by omega) k2 hne, trivial⟩⟩, fun hk => ⟨?_, trivial⟩⟩⟩
    · rw [hasB_found k0 hk a2 he, leB_iff]; exact k0
    · have : x = m := by omega
      rw [← this]; exact k2.symm
end
end Go.Proofs.Ytmjonggabppgaaa

/- The reference's with: an entry put in by its page. -/
set_option linter.unusedSimpArgs false
set_option linter.unusedVariables false
namespace Go.Proofs.Ytmjonggabppgaaa
noncomputable section
open Go.Eng
def eX : SX := .f2 122 (ai 10) (.f2 122 (ai 11) (.f1 152 (.int 0)))
def insX (x l : SX) : SX := .us .rows 7 x l eX (.int 0)
def inX (x l o : SX) : SX := .us .bool 8 x l eX o
def outX (x l o : SX) : SX := .us .bool 9 x l eX o
def lstW (b l c : SX) : Ch := .cel (ai 0) 0 [.slice b (.int 0) (.int 0) (.int 0) l c 2, .slice (ai 6) (.int 0) (.int 0) (.int 0) (ai 7) (ai 8) 2, .int .i64 (ai 9)]
def emptW : Ctr := ⟨[], [], [], [], [], .tup [], [.arr enE (.int (-1)) (.f1 154 (.int 0)) (.int 0)], []⟩
def withCtr : Ctr := ⟨[.int, .int, .int, .int, .rows, .int, .int, .int, .int, .int, .int, .int], [.one (.ptr (ai 0) 0), .agg [.int .i64 (ai 10), .int .i64 (ai 11)]], [lstW (ai 1) (ai 2) (ai 3), .arr enE (ai 1) (rwA 4) (ai 5)],
  [eLe (.int 0) (ai 2), eEq (ai 2) (.f1 32 (rwA 4)), eLe (ai 2) (.int 1048576)], [.int, .int, .rows], .tup [], [lstW (ai 12) (SX.mk2 40 (ai 2) (.int 1)) (ai 13), .arr enE (ai 12) (rwA 14) (ai 13)],
  [eEq (.f1 32 (rwA 14)) (SX.mk2 40 (ai 2) (.int 1)), eqRX (rwA 14) (insX (rwA 4) (ai 2))]⟩
def dIn : SX := .at .bool 1000001
def withInv : Inv := ⟨[.int, .bool, .int, .int, .rows, .int], [(6, .one (.int .i64 (di 0))), (5, .one (.bool dIn)), (4, .one (.slice (di 2) (.int 0) (.int 0) (.int 0) (di 5) (di 3) 2))], [.arr enE (di 2) (rwA 1000004) (di 3)],
  [eLe (.int 0) (di 0), eLe (di 0) (ai 2), eEq (di 5) (.f2 40 (di 0) (.f1 3 dIn)), eEq (.f1 32 (rwA 1000004)) (di 5), eLe (di 5) (di 3), .f3 134 dIn (inX (rwA 4) (di 0) (rwA 1000004)) (outX (rwA 4) (di 0) (rwA 1000004))], .f2 41 (ai 2) (di 0)⟩
def withCx : Cx := { specs := [], anns := [(61, [(4, .inv withInv), (2, .ghost emptW [])])] }
def withVc : VC := .imp (.f2 47 (.int 0) (.at .int 2)) (.imp (.f2 45 (.at .int 2) (.f1 32 (.at .rows 4))) (.imp (.f2 47 (.at .int 2) (.int 1048576)) (.all 12 .int (.imp 
    (.f2 47 (.int 0) (.at .int 12)) (.need (.f3 134 (.bool false) (.us .bool 8 (.at .rows 4) (.int 0) (.f2 122 (.at .int 10) (.f2 122 (.at .int 11) (.f1 
    152 (.int 0)))) (.f1 154 (.int 0))) (.us .bool 9 (.at .rows 4) (.int 0) (.f2 122 (.at .int 10) (.f2 122 (.at .int 11) (.f1 152 (.int 0)))) (.f1 154 
    (.int 0)))) (.all 13 .int (.all 14 .bool (.all 15 .int (.all 16 .int (.all 17 .rows (.all 18 .int (.imp (.f2 47 (.int 0) (.at .int 13)) (.imp (.f2 47 
    (.at .int 13) (.at .int 2)) (.imp (.f2 45 (.at .int 18) (.f2 40 (.at .int 13) (.f1 3 (.at .bool 14)))) (.imp (.f2 45 (.f1 32 (.at .rows 17)) (.at .int 
    18)) (.imp (.f2 47 (.at .int 18) (.at .int 16)) (.imp (.f3 134 (.at .bool 14) (.us .bool 8 (.at .rows 4) (.at .int 13) (.f2 122 (.at .int 10) (.f2 122 
    (.at .int 11) (.f1 152 (.int 0)))) (.at .rows 17)) (.us .bool 9 (.at .rows 4) (.at .int 13) (.f2 122 (.at .int 10) (.f2 122 (.at .int 11) (.f1 152 
    (.int 0)))) (.at .rows 17))) (.and (.imp (.f2 46 (.at .int 13) (.at .int 2)) (.and (.imp (.f1 2 (.at .bool 14)) (.need (.f2 46 (.at .int 13) (.f1 32 
    (.at .rows 4))) (.and (.imp (.f2 46 (.at .int 10) (.f3 112 (.at .rows 4) (.at .int 13) (.int 0))) (.all 19 .int (.imp (.f2 47 (.int 0) (.at .int 19)) 
    (.need (.f2 47 (.int 0) (.at .int 18)) (.need (.f2 47 (.at .int 18) (.f1 32 (.at .rows 17))) (.need (.f2 47 (.f2 42 (.f2 40 (.at .int 18) (.int 1)) 
    (.int 16)) (.int 140737488355328)) (.all 20 .int (.all 21 .int (.imp (.f2 47 (.f2 40 (.at .int 18) (.int 1)) (.at .int 21)) (.imp (.f2 50 (.f2 47 
    (.int 0) (.at .int 20)) (.f2 45 (.f2 40 (.at .int 18) (.int 1)) (.int 0))) (.all 22 .int (.imp (.f2 47 (.int 0) (.at .int 22)) (.need (.f2 47 (.int 0) 
    (.f2 40 (.at .int 18) (.int 1))) (.need (.f2 47 (.f2 40 (.at .int 18) (.int 1)) (.f2 40 (.f1 32 (.f2 115 (.at .rows 17) (.at .int 18))) (.int 1))) 
    (.need (.f2 47 (.f2 42 (.f2 40 (.at .int 18) (.int 2)) (.int 16)) (.int 140737488355328)) (.all 23 .int (.all 24 .int (.imp (.f2 47 (.f2 40 (.at .int 
    18) (.int 2)) (.at .int 24)) (.imp (.f2 50 (.f2 47 (.int 0) (.at .int 23)) (.f2 45 (.f2 40 (.at .int 18) (.int 2)) (.int 0))) (.need (.f1 23 (.f2 40 
    (.at .int 13) (.int 1))) (.need (.f2 47 (.int 0) (.f2 41 (.at .int 2) (.f2 40 (.at .int 13) (.int 1)))) (.need (.f2 46 (.f2 41 (.at .int 2) (.f2 40 
    (.at .int 13) (.int 1))) (.f2 41 (.at .int 2) (.at .int 13))) (.need (.f2 47 (.int 0) (.f2 40 (.at .int 13) (.int 1))) (.need (.f2 47 (.f2 40 (.at 
    .int 13) (.int 1)) (.at .int 2)) (.need (.f2 45 (.f2 40 (.at .int 18) (.int 2)) (.f2 40 (.at .int 13) (.int 2))) (.need (.f2 45 (.f2 40 (.f1 32 (.f2 
    115 (.f2 121 (.f2 115 (.at .rows 17) (.at .int 18)) (.f2 124 (.f2 122 (.at .int 10) (.f2 122 (.at .int 11) (.f1 152 (.int 0)))) (.f1 154 (.int 0)))) 
    (.f2 40 (.at .int 18) (.int 1)))) (.int 1)) (.f2 40 (.at .int 18) (.int 2))) (.need (.f3 134 (.bool true) (.us .bool 8 (.at .rows 4) (.f2 40 (.at .int 
    13) (.int 1)) (.f2 122 (.at .int 10) (.f2 122 (.at .int 11) (.f1 152 (.int 0)))) (.f2 121 (.f2 115 (.f2 121 (.f2 115 (.at .rows 17) (.at .int 18)) 
    (.f2 124 (.f2 122 (.at .int 10) (.f2 122 (.at .int 11) (.f1 152 (.int 0)))) (.f1 154 (.int 0)))) (.f2 40 (.at .int 18) (.int 1))) (.f2 124 (.f2 122 
    (.f3 112 (.at .rows 4) (.at .int 13) (.int 0)) (.f2 122 (.f3 112 (.at .rows 4) (.at .int 13) (.int 1)) (.f1 152 (.int 0)))) (.f1 154 (.int 0))))) (.us 
    .bool 9 (.at .rows 4) (.f2 40 (.at .int 13) (.int 1)) (.f2 122 (.at .int 10) (.f2 122 (.at .int 11) (.f1 152 (.int 0)))) (.f2 121 (.f2 115 (.f2 121 
    (.f2 115 (.at .rows 17) (.at .int 18)) (.f2 124 (.f2 122 (.at .int 10) (.f2 122 (.at .int 11) (.f1 152 (.int 0)))) (.f1 154 (.int 0)))) (.f2 40 (.at 
    .int 18) (.int 1))) (.f2 124 (.f2 122 (.f3 112 (.at .rows 4) (.at .int 13) (.int 0)) (.f2 122 (.f3 112 (.at .rows 4) (.at .int 13) (.int 1)) (.f1 152 
    (.int 0)))) (.f1 154 (.int 0)))))) (.tt)))))))))))))))))))))))))))) (.imp (.f2 47 (.f3 112 (.at .rows 4) (.at .int 13) (.int 0)) (.at .int 10)) (.all 
    19 .int (.imp (.f2 47 (.int 0) (.at .int 19)) (.need (.f2 47 (.int 0) (.at .int 18)) (.need (.f2 47 (.at .int 18) (.f1 32 (.at .rows 17))) (.need (.f2 
    47 (.f2 42 (.f2 40 (.at .int 18) (.int 1)) (.int 16)) (.int 140737488355328)) (.all 20 .int (.all 21 .int (.imp (.f2 47 (.f2 40 (.at .int 18) (.int 
    1)) (.at .int 21)) (.imp (.f2 50 (.f2 47 (.int 0) (.at .int 20)) (.f2 45 (.f2 40 (.at .int 18) (.int 1)) (.int 0))) (.need (.f1 23 (.f2 40 (.at .int 
    13) (.int 1))) (.need (.f2 47 (.int 0) (.f2 41 (.at .int 2) (.f2 40 (.at .int 13) (.int 1)))) (.need (.f2 46 (.f2 41 (.at .int 2) (.f2 40 (.at .int 
    13) (.int 1))) (.f2 41 (.at .int 2) (.at .int 13))) (.need (.f2 47 (.int 0) (.f2 40 (.at .int 13) (.int 1))) (.need (.f2 47 (.f2 40 (.at .int 13) 
    (.int 1)) (.at .int 2)) (.need (.f2 45 (.f2 40 (.at .int 18) (.int 1)) (.f2 40 (.f2 40 (.at .int 13) (.f1 3 (.at .bool 14))) (.int 1))) (.need (.f2 45 
    (.f2 40 (.f1 32 (.f2 115 (.at .rows 17) (.at .int 18))) (.int 1)) (.f2 40 (.at .int 18) (.int 1))) (.need (.f3 134 (.at .bool 14) (.us .bool 8 (.at 
    .rows 4) (.f2 40 (.at .int 13) (.int 1)) (.f2 122 (.at .int 10) (.f2 122 (.at .int 11) (.f1 152 (.int 0)))) (.f2 121 (.f2 115 (.at .rows 17) (.at .int 
    18)) (.f2 124 (.f2 122 (.f3 112 (.at .rows 4) (.at .int 13) (.int 0)) (.f2 122 (.f3 112 (.at .rows 4) (.at .int 13) (.int 1)) (.f1 152 (.int 0)))) 
    (.f1 154 (.int 0))))) (.us .bool 9 (.at .rows 4) (.f2 40 (.at .int 13) (.int 1)) (.f2 122 (.at .int 10) (.f2 122 (.at .int 11) (.f1 152 (.int 0)))) 
    (.f2 121 (.f2 115 (.at .rows 17) (.at .int 18)) (.f2 124 (.f2 122 (.f3 112 (.at .rows 4) (.at .int 13) (.int 0)) (.f2 122 (.f3 112 (.at .rows 4) (.at 
    .int 13) (.int 1)) (.f1 152 (.int 0)))) (.f1 154 (.int 0)))))) (.tt)))))))))))))))))))))) (.imp (.f1 2 (.f1 2 (.at .bool 14))) (.need (.f2 46 (.at 
    .int 13) (.f1 32 (.at .rows 4))) (.all 19 .int (.imp (.f2 47 (.int 0) (.at .int 19)) (.need (.f2 47 (.int 0) (.at .int 18)) (.need (.f2 47 (.at .int 
    18) (.f1 32 (.at .rows 17))) (.need (.f2 47 (.f2 42 (.f2 40 (.at .int 18) (.int 1)) (.int 16)) (.int 140737488355328)) (.all 20 .int (.all 21 .int 
    (.imp (.f2 47 (.f2 40 (.at .int 18) (.int 1)) (.at .int 21)) (.imp (.f2 50 (.f2 47 (.int 0) (.at .int 20)) (.f2 45 (.f2 40 (.at .int 18) (.int 1)) 
    (.int 0))) (.need (.f1 23 (.f2 40 (.at .int 13) (.int 1))) (.need (.f2 47 (.int 0) (.f2 41 (.at .int 2) (.f2 40 (.at .int 13) (.int 1)))) (.need (.f2 
    46 (.f2 41 (.at .int 2) (.f2 40 (.at .int 13) (.int 1))) (.f2 41 (.at .int 2) (.at .int 13))) (.need (.f2 47 (.int 0) (.f2 40 (.at .int 13) (.int 1))) 
    (.need (.f2 47 (.f2 40 (.at .int 13) (.int 1)) (.at .int 2)) (.need (.f2 45 (.f2 40 (.at .int 18) (.int 1)) (.f2 40 (.f2 40 (.at .int 13) (.f1 3 (.at 
    .bool 14))) (.int 1))) (.need (.f2 45 (.f2 40 (.f1 32 (.f2 115 (.at .rows 17) (.at .int 18))) (.int 1)) (.f2 40 (.at .int 18) (.int 1))) (.need (.f3 
    134 (.at .bool 14) (.us .bool 8 (.at .rows 4) (.f2 40 (.at .int 13) (.int 1)) (.f2 122 (.at .int 10) (.f2 122 (.at .int 11) (.f1 152 (.int 0)))) (.f2 
    121 (.f2 115 (.at .rows 17) (.at .int 18)) (.f2 124 (.f2 122 (.f3 112 (.at .rows 4) (.at .int 13) (.int 0)) (.f2 122 (.f3 112 (.at .rows 4) (.at .int 
    13) (.int 1)) (.f1 152 (.int 0)))) (.f1 154 (.int 0))))) (.us .bool 9 (.at .rows 4) (.f2 40 (.at .int 13) (.int 1)) (.f2 122 (.at .int 10) (.f2 122 
    (.at .int 11) (.f1 152 (.int 0)))) (.f2 121 (.f2 115 (.at .rows 17) (.at .int 18)) (.f2 124 (.f2 122 (.f3 112 (.at .rows 4) (.at .int 13) (.int 0)) 
    (.f2 122 (.f3 112 (.at .rows 4) (.at .int 13) (.int 1)) (.f1 152 (.int 0)))) (.f1 154 (.int 0)))))) (.tt)))))))))))))))))))))) (.imp (.f2 47 (.at .int 
    2) (.at .int 13)) (.and (.imp (.f1 2 (.at .bool 14)) (.all 19 .int (.imp (.f2 47 (.int 0) (.at .int 19)) (.need (.f2 47 (.int 0) (.at .int 18)) (.need 
    (.f2 47 (.at .int 18) (.f1 32 (.at .rows 17))) (.need (.f2 47 (.f2 42 (.f2 40 (.at .int 18) (.int 1)) (.int 16)) (.int 140737488355328)) (.all 20 .int 
    (.all 21 .int (.imp (.f2 47 (.f2 40 (.at .int 18) (.int 1)) (.at .int 21)) (.imp (.f2 50 (.f2 47 (.int 0) (.at .int 20)) (.f2 45 (.f2 40 (.at .int 18) 
    (.int 1)) (.int 0))) (.need (.f2 45 (.f2 40 (.f1 32 (.f2 115 (.at .rows 17) (.at .int 18))) (.int 1)) (.f2 40 (.at .int 2) (.int 1))) (.need (.us 
    .bool 5 (.f2 121 (.f2 115 (.at .rows 17) (.at .int 18)) (.f2 124 (.f2 122 (.at .int 10) (.f2 122 (.at .int 11) (.f1 152 (.int 0)))) (.f1 154 (.int 
    0)))) (.us .rows 7 (.at .rows 4) (.at .int 2) (.f2 122 (.at .int 10) (.f2 122 (.at .int 11) (.f1 152 (.int 0)))) (.int 0)) (.int 0) (.int 0)) (.need 
    (.f2 45 (.f2 40 (.at .int 2) (.int 1)) (.f2 40 (.at .int 18) (.int 1))) (.tt)))))))))))))) (.imp (.f1 2 (.f1 2 (.at .bool 14))) (.need (.f2 45 (.f1 32 
    (.at .rows 17)) (.f2 40 (.at .int 2) (.int 1))) (.need (.us .bool 5 (.at .rows 17) (.us .rows 7 (.at .rows 4) (.at .int 2) (.f2 122 (.at .int 10) (.f2 
    122 (.at .int 11) (.f1 152 (.int 0)))) (.int 0)) (.int 0) (.int 0)) (.need (.f2 45 (.f2 40 (.at .int 2) (.int 1)) (.at .int 18)) 
    (.tt)))))))))))))))))))))))))
theorem with_vc : vcOf Try.prog withCx 10 61 withCtr = withVc := by kernel_rfl
theorem insRow_le (e : List Int) : ∀ (xs ys : List (List Int)), (∀ r ∈ xs, pageOf r ≤ pageOf e) → insRow e (xs ++ ys) = xs ++ insRow e ys
  | [], ys, _ => rfl
  | r :: xs, ys, h => by
    have := h r List.mem_cons_self
    simp only [List.cons_append, insRow]
    rw [if_neg (by omega), insRow_le e xs ys fun r hr => h r (List.mem_cons_of_mem _ hr)]
theorem insRow_in (e : List Int) : ∀ (xs ys : List (List Int)), (∃ r ∈ xs, pageOf e < pageOf r) → insRow e (xs ++ ys) = insRow e xs ++ ys
  | [], ys, h => by obtain ⟨r, hr, _⟩ := h; cases hr
  | r :: xs, ys, h => by
    simp only [List.cons_append, insRow]
    by_cases hp : pageOf e < pageOf r
    · rw [if_pos hp, if_pos hp]; rfl
    · rw [if_neg hp, if_neg hp]
      obtain ⟨q, hq, h2⟩ := h
      rcases List.mem_cons.1 hq with rfl | hq
      · exact absurd h2 hp
      · rw [insRow_in e xs ys ⟨q, hq, h2⟩]; rfl
theorem nrm_step (R : List (List Int)) (x : Int) (h0 : 0 ≤ x) (hl : x < R.length) : nrm R (x + 1) = nrm R x ++ [[(R.getD x.toNat []).getD 0 0, (R.getD x.toNat []).getD 1 0]] := by
  unfold nrm
  rw [show (x + 1).toNat = x.toNat + 1 by omega, take_rows R _ (by omega), List.map_append]; rfl
theorem nrm_len (R : List (List Int)) (x : Int) (h0 : 0 ≤ x) (hl : x ≤ R.length) : ((nrm R x).length : Int) = x := by
  unfold nrm; rw [List.length_map, List.length_take]; omega
theorem insRow_len (e : List Int) : ∀ xs : List (List Int), (insRow e xs).length = xs.length + 1
  | [] => rfl
  | r :: xs => by simp only [insRow]; split <;> simp [insRow_len e xs]
theorem inB_iff {R : List (List Int)} {n : Int} {e : List Int} {o : List (List Int)} : inB R n e o = true ↔ o = insRow e (nrm R n) ∧ ∃ r ∈ nrm R n, pageOf e < pageOf r := by
  unfold inB; simp
theorem outB_iff {R : List (List Int)} {n : Int} {e : List Int} {o : List (List Int)} : outB R n e o = true ↔ o = nrm R n ∧ ∀ r ∈ nrm R n, pageOf r ≤ pageOf e := by
  unfold outB; simp
theorem w1 {R : List (List Int)} {e : List Int} {O : List (List Int)} {k : Int} (h0 : 0 ≤ k) (hl : k < R.length) (ho : outB R k e O = true) (hp : pageOf e < (R.getD k.toNat []).getD 0 0) :
    inB R (k + 1) e ((O ++ [e]) ++ [[(R.getD k.toNat []).getD 0 0, (R.getD k.toNat []).getD 1 0]]) = true := by
  obtain ⟨e1, e2⟩ := outB_iff.1 ho
  rw [inB_iff, nrm_step R k h0 hl, insRow_le e _ _ e2, e1]
  refine ⟨?_, _, List.mem_append.2 (.inr List.mem_cons_self), hp⟩
  simp only [insRow]
  rw [if_pos (show pageOf e < pageOf [(R.getD k.toNat []).getD 0 0, (R.getD k.toNat []).getD 1 0] from hp)]
  simp
theorem w2 {R : List (List Int)} {e : List Int} {O : List (List Int)} {k : Int} (h0 : 0 ≤ k) (hl : k < R.length) (ho : outB R k e O = true) (hp : (R.getD k.toNat []).getD 0 0 ≤ pageOf e) :
    outB R (k + 1) e (O ++ [[(R.getD k.toNat []).getD 0 0, (R.getD k.toNat []).getD 1 0]]) = true := by
  obtain ⟨e1, e2⟩ := outB_iff.1 ho
  rw [outB_iff, nrm_step R k h0 hl, e1]
  refine ⟨rfl, fun r hr => ?_⟩
  rcases List.mem_append.1 hr with hr | hr
  · exact e2 r hr
  · rw [List.mem_singleton] at hr; subst hr; exact hp
theorem w3 {R : List (List Int)} {e : List Int} {O : List (List Int)} {k : Int} (h0 : 0 ≤ k) (hl : k < R.length) (hi : inB R k e O = true) :
    inB R (k + 1) e (O ++ [[(R.getD k.toNat []).getD 0 0, (R.getD k.toNat []).getD 1 0]]) = true := by
  obtain ⟨e1, e2⟩ := inB_iff.1 hi
  rw [inB_iff, nrm_step R k h0 hl, insRow_in e _ _ e2, e1]
  obtain ⟨r, hr, h⟩ := e2
  exact ⟨rfl, r, List.mem_append.2 (.inl hr), h⟩
theorem w4 {R : List (List Int)} {e : List Int} {O : List (List Int)} {k : Int} (ho : outB R k e O = true) : O ++ [e] = insRow e (nrm R k) := by
  obtain ⟨e1, e2⟩ := outB_iff.1 ho
  have := insRow_le e (nrm R k) [] e2
  rw [List.append_nil] at this
  rw [this, e1]; rfl
theorem cond_f {G : Type} (a b c : U G) : (ap3 134 a b c).toProp = (if a.toBool = true then b.toBool = true else c.toBool = true) := by
  rw [ap3_134, U.toProp_bool]; cases a.toBool <;> rfl
theorem with_ok {G : Type} (S : Sig G) (hS : FreeSig S) (hE : GhOk S emptW) : CtrOk S Try.prog 61 withCtr := by
  refine vcOf_sound S (C := withCx) (fuel := 10) ⟨fun f sps h => by simp [withCx, assoc] at h, fun f l h i sp args hm => ?_, fun f sps h => by simp [withCx, assoc] at h⟩ fun ρ => ?_
  · simp only [withCx, assoc] at h
    cases hb : Nat.beq 61 f
    · rw [hb] at h; cases h
    · rw [hb] at h; cases h
      simp at hm
      obtain ⟨rfl, rfl, rfl⟩ := hm
      exact ⟨by decide, hE⟩
  · rw [with_vc]
    obtain ⟨_, _, _, _, _, h5, _, h7, h8, h9⟩ := hS
    simp only [withVc, VC.den, SX.den, U.co, Env.upd, h5, h7, h8, h9, cond_f, p23, p45, p46, p47, p2_46, p50, b45, b47, ap1_2, ap1_3, ap1_32, ap1_152, ap1_154, ap2_40, ap2_41, ap2_42, ap2_115, ap2_121, ap2_122, ap2_124, ap3_112, U.toProp_bool, U.toBool_bool, Bool.not_eq_true', beq_eq_false_iff_ne, ne_eq, beq_iff_eq, i64_min', i64_max', Int.toNat_zero, U.toInt_int, U.toInts_ints, U.toBytes_bytes, U.toRows_rows, if_true, if_false, Nat.reduceEqDiff, reduceIte]
    generalize (ρ 4).toRows = R
    generalize (ρ 2).toInt = m
    generalize (ρ 10).toInt = pg0
    generalize (ρ 11).toInt = tx
    intro a1 a2 a3 p ap
    refine ⟨by simp [outB, nrm], fun k b base c O ln k0 k1 k2 k3 k4 k5 => ?_⟩
    have hO : O.take ln.toNat = O := List.take_of_length_le (by omega)
    have t1 : Int.toNat 1 = 1 := rfl
    rw [hO, t1]
    have hO2 : (O ++ [[pg0, tx]]).take (ln + 1).toNat = O ++ [[pg0, tx]] := List.take_of_length_le (by rw [List.length_append, List.length_singleton]; omega)
    rw [hO2]
    have hlen : ((O ++ [[pg0, tx]]).length : Int) = ln + 1 := by rw [List.length_append, List.length_singleton]; omega
    cases b
    · simp only [Bool.false_eq_true, if_false, reduceIte, Bool.not_false, Bool.true_eq_false, false_implies, and_true, true_implies, forall_const, Int.add_zero] at k2 k5 ⊢
      refine ⟨fun hk => ⟨by omega, fun hp t ht => ⟨by omega, by omega, by omega, fun u v hu hv t2 ht2 => ⟨by omega, by omega, by omega, fun u2 v2 hu2 hv2 => ⟨⟨by omega, by omega⟩, by omega, by omega, by omega, by omega, by omega, by omega, w1 k0 (by omega) k5 hp⟩⟩⟩,
        fun hp t ht => ⟨by omega, by omega, by omega, fun u v hu hv => ⟨⟨by omega, by omega⟩, by omega, by omega, by omega, by omega, by omega, by omega, w2 k0 (by omega) k5 hp⟩⟩⟩,
        fun hk t ht => ⟨by omega, by omega, by omega, fun u v hu hv => ⟨by omega, ?_, by omega⟩⟩⟩
      have : k = m := by omega
      rw [← this]; exact w4 k5
    · simp only [if_true, reduceIte, Bool.not_true, Bool.true_eq_false, false_implies, true_and, true_implies, and_true, forall_const] at k2 k5 ⊢
      refine ⟨fun hk => ⟨by omega, fun t ht => ⟨by omega, by omega, by omega, fun u v hu hv => ⟨⟨by omega, by omega⟩, by omega, by omega, by omega, by omega, by omega, by omega, w3 k0 (by omega) k5⟩⟩⟩, fun hk => ⟨by omega, ?_, by omega⟩⟩
      have : k = m := by omega
      rw [← this]; exact (inB_iff.1 k5).1
end
end Go.Proofs.Ytmjonggabppgaaa

/- The contracts of both News, so far. -/

/- The reference's New of numbers that are pages, no two alike. -/
set_option linter.unusedSimpArgs false
set_option linter.unusedVariables false
namespace Go.Proofs.Ytmjonggabppgaaa
noncomputable section
open Go.Eng
def refNewACtr : Ctr := ⟨[.int, .int, .int, .int, .ints, .int], [.one (.slice (ai 0) (ai 1) (.int 0) (.int 0) (ai 2) (ai 3) 1)], [rdI 0 0],
  [eLe (.int 0) (ai 2), eLe (ai 2) (.f1 30 (xsA 4)), eLe (ai 2) (.int 1048576), allNX (xsA 4) (ai 2), distX (xsA 4) (ai 2)], [.int, .int, .int, .rows],
  .tup [(false, [.ptr (ai 6) 0]), (false, [.int .i64 (.int 0)])], [rdI 0 0, .cel (ai 6) 0 [.slice (ai 7) (.int 0) (.int 0) (.int 0) (ai 2) (ai 8) 2, .slice (.int (-1)) (.int 0) (.int 0) (.int 0) (.int 0) (.int 0) 2, .int .i64 (.int 0)], .arr enE (ai 7) (rwA 9) (ai 8)],
  [sortX (entsX (xsA 4) (ai 2)) (rwA 9), eLe (.int 0) (ai 6)]⟩
def refNewAInv1 : Inv := ⟨[.int], [(5, .one (.int .i64 (di 0)))], [], [eLe (.int 0) (di 0), eLe (di 0) (ai 2), allNX (xsA 4) (di 0)], .f2 41 (ai 2) (di 0)⟩
def refNewAInv2 : Inv := ⟨[.int, .int, .int, .int, .rows], [(7, .one (.int .i64 (di 0))), (4, .one (.ptr (di 1) 0))], [.cel (di 1) 0 [.slice (di 2) (.int 0) (.int 0) (.int 0) (di 0) (di 3) 2, .slice (.int (-1)) (.int 0) (.int 0) (.int 0) (.int 0) (.int 0) 2, .int .i64 (.int 0)], .arr enE (di 2) (rwA 1000004) (di 3)],
  [eLe (.int 0) (di 0), eLe (di 0) (ai 2), eEq (.f1 32 (rwA 1000004)) (di 0), distX (xsA 4) (di 0), sortX (entsX (xsA 4) (di 0)) (rwA 1000004), eLe (.int 0) (di 1)], .f2 41 (ai 2) (di 0)⟩
def refNewACx : Cx := { specs := [(60, [findCtr]), (61, [withCtr])], anns := [(28, [(3, .inv refNewAInv1), (9, .inv refNewAInv2), (8, .ghost emptW [])])] }
def refNewAVc : VC := .imp (.f2 47 (.int 0) (.at .int 2)) (.imp (.f2 47 (.at .int 2) (.f1 30 (.at .ints 4))) (.imp (.f2 47 (.at .int 2) (.int 1048576)) (.imp (.us .bool 2 
    (.at .ints 4) (.at .int 2) (.int 0) (.int 0)) (.imp (.us .bool 4 (.at .ints 4) (.at .int 2) (.int 0) (.int 0)) (.all 6 .int (.imp (.f2 47 (.int 0) 
    (.at .int 6)) (.need (.us .bool 2 (.at .ints 4) (.int 0) (.int 0) (.int 0)) (.all 7 .int (.imp (.f2 47 (.int 0) (.at .int 7)) (.imp (.f2 47 (.at .int 
    7) (.at .int 2)) (.imp (.us .bool 2 (.at .ints 4) (.at .int 7) (.int 0) (.int 0)) (.and (.imp (.f2 46 (.at .int 7) (.at .int 2)) (.need (.f2 46 (.at 
    .int 7) (.f1 30 (.at .ints 4))) (.and (.imp (.f2 47 (.int 2) (.f2 110 (.at .ints 4) (.at .int 7))) (.and (.imp (.f2 47 (.int 65536) (.f2 110 (.at 
    .ints 4) (.at .int 7))) (.ff 60)) (.imp (.f2 46 (.f2 110 (.at .ints 4) (.at .int 7)) (.int 65536)) (.need (.f1 23 (.f2 40 (.at .int 7) (.int 1))) 
    (.need (.f2 47 (.int 0) (.f2 41 (.at .int 2) (.f2 40 (.at .int 7) (.int 1)))) (.need (.f2 46 (.f2 41 (.at .int 2) (.f2 40 (.at .int 7) (.int 1))) (.f2 
    41 (.at .int 2) (.at .int 7))) (.need (.f2 47 (.int 0) (.f2 40 (.at .int 7) (.int 1))) (.need (.f2 47 (.f2 40 (.at .int 7) (.int 1)) (.at .int 2)) 
    (.need (.us .bool 2 (.at .ints 4) (.f2 40 (.at .int 7) (.int 1)) (.int 0) (.int 0)) (.tt)))))))))) (.imp (.f2 46 (.f2 110 (.at .ints 4) (.at .int 7)) 
    (.int 2)) (.ff 60))))) (.imp (.f2 47 (.at .int 2) (.at .int 7)) (.need (.us .bool 4 (.at .ints 4) (.int 0) (.int 0) (.int 0)) (.need (.us .bool 1 (.us 
    .rows 3 (.at .ints 4) (.int 0) (.int 0) (.int 0)) (.f1 154 (.int 0)) (.int 0) (.int 0)) (.all 8 .int (.all 9 .int (.all 10 .int (.all 11 .int (.all 12 
    .rows (.imp (.f2 47 (.int 0) (.at .int 8)) (.imp (.f2 47 (.at .int 8) (.at .int 2)) (.imp (.f2 45 (.f1 32 (.at .rows 12)) (.at .int 8)) (.imp (.us 
    .bool 4 (.at .ints 4) (.at .int 8) (.int 0) (.int 0)) (.imp (.us .bool 1 (.us .rows 3 (.at .ints 4) (.at .int 8) (.int 0) (.int 0)) (.at .rows 12) 
    (.int 0) (.int 0)) (.imp (.f2 47 (.int 0) (.at .int 9)) (.and (.imp (.f2 46 (.at .int 8) (.at .int 2)) (.need (.f2 46 (.at .int 8) (.f1 30 (.at .ints 
    4))) (.need (.f2 47 (.at .int 8) (.f1 32 (.at .rows 12))) (.need (.f2 47 (.at .int 8) (.int 140737488355328)) (.all 13 .int (.imp (.f2 47 (.int (-1)) 
    (.at .int 13)) (.imp (.f2 48 (.f2 47 (.int 0) (.at .int 13)) (.us .bool 6 (.at .rows 12) (.at .int 8) (.f2 110 (.at .ints 4) (.at .int 8)) (.int 0))) 
    (.and (.imp (.f2 47 (.int 0) (.at .int 13)) (.ff 60)) (.imp (.f2 46 (.at .int 13) (.int 0)) (.need (.f2 45 (.at .int 8) (.f1 32 (.at .rows 12))) 
    (.need (.f2 47 (.at .int 8) (.int 1048576)) (.all 14 .int (.all 15 .int (.all 16 .rows (.imp (.f2 45 (.f1 32 (.at .rows 16)) (.f2 40 (.at .int 8) 
    (.int 1))) (.imp (.us .bool 5 (.at .rows 16) (.us .rows 7 (.at .rows 12) (.at .int 8) (.f2 122 (.f2 110 (.at .ints 4) (.at .int 8)) (.f2 122 (.int 0) 
    (.f1 152 (.int 0)))) (.int 0)) (.int 0) (.int 0)) (.need (.f1 23 (.f2 40 (.at .int 8) (.int 1))) (.need (.f2 47 (.int 0) (.f2 41 (.at .int 2) (.f2 40 
    (.at .int 8) (.int 1)))) (.need (.f2 46 (.f2 41 (.at .int 2) (.f2 40 (.at .int 8) (.int 1))) (.f2 41 (.at .int 2) (.at .int 8))) (.need (.f2 47 (.int 
    0) (.f2 40 (.at .int 8) (.int 1))) (.need (.f2 47 (.f2 40 (.at .int 8) (.int 1)) (.at .int 2)) (.need (.us .bool 4 (.at .ints 4) (.f2 40 (.at .int 8) 
    (.int 1)) (.int 0) (.int 0)) (.need (.us .bool 1 (.us .rows 3 (.at .ints 4) (.f2 40 (.at .int 8) (.int 1)) (.int 0) (.int 0)) (.at .rows 16) (.int 0) 
    (.int 0)) (.tt)))))))))))))))))))))))) (.imp (.f2 47 (.at .int 2) (.at .int 8)) (.need (.us .bool 1 (.us .rows 3 (.at .ints 4) (.at .int 2) (.int 0) 
    (.int 0)) (.at .rows 12) (.int 0) (.int 0)) (.need (.f2 45 (.at .int 2) (.at .int 8)) (.tt)))))))))))))))))))))))))))))))
theorem refNewA_vc : vcOf Try.prog refNewACx 10 28 refNewACtr = refNewAVc := by kernel_rfl
theorem allNB_get' {L : List Int} {m x : Int} (h : allNB L m = true) (hm : m ≤ L.length) (h0 : 0 ≤ x) (h1 : x < m) : 2 ≤ L.getD x.toNat 0 ∧ L.getD x.toNat 0 < 65536 := allNB_get h hm h0 h1
theorem insRow_perm (e : List Int) : ∀ xs : List (List Int), (insRow e xs).Perm (e :: xs)
  | [] => List.Perm.refl _
  | r :: xs => by
    simp only [insRow]
    split
    · exact List.Perm.refl _
    · exact ((insRow_perm e xs).cons r).trans (List.Perm.swap e r xs)
theorem insRow_sorted (e : List Int) : ∀ xs : List (List Int), xs.Pairwise (fun a b => pageOf a ≤ pageOf b) → (insRow e xs).Pairwise (fun a b => pageOf a ≤ pageOf b)
  | [], _ => List.pairwise_singleton _ _
  | r :: xs, h => by
    rw [List.pairwise_cons] at h
    simp only [insRow]
    split
    · rename_i hp
      refine List.pairwise_cons.2 ⟨fun q hq => ?_, List.pairwise_cons.2 h⟩
      rcases List.mem_cons.1 hq with rfl | hq
      · omega
      · have := h.1 q hq; omega
    · rename_i hp
      refine List.pairwise_cons.2 ⟨fun q hq => ?_, insRow_sorted e xs h.2⟩
      rcases List.mem_cons.1 ((insRow_perm e xs).mem_iff.1 hq) with rfl | hq
      · omega
      · exact h.1 q hq
theorem nrm_ents {L : List Int} {k : Int} {R : List (List Int)} (hs : SortP (entsB L k) R) (hl : (R.length : Int) = k) : nrm R k = R := by
  unfold nrm
  rw [List.take_of_length_le (by omega)]
  have : ∀ r ∈ R, [r.getD 0 0, r.getD 1 0] = r := by
    intro r hr
    have := hs.1.mem_iff.1 hr
    unfold entsB at this
    obtain ⟨p, _, rfl⟩ := List.mem_map.1 this
    rfl
  rw [List.map_congr_left this, List.map_id']
theorem sort_step {L : List Int} {k : Int} {R : List (List Int)} (h0 : 0 ≤ k) (hk : k < L.length) (hl : (R.length : Int) = k) (hs : sortB (entsB L k) R = true) :
    sortB (entsB L (k + 1)) (insRow [L.getD k.toNat 0, 0] (nrm R k)) = true := by
  have hs := sortB_iff.1 hs
  rw [sortB_iff, nrm_ents hs hl, ← ents_step L k h0 hk]
  refine ⟨(insRow_perm _ _).trans (((hs.1.cons _)).trans (List.perm_append_singleton _ _).symm), insRow_sorted _ _ hs.2⟩
theorem has_iff {L : List Int} {k p : Int} {R : List (List Int)} (hl : (R.length : Int) = k) (hs : sortB (entsB L k) R = true) : hasB R k p = true ↔ p ∈ L.take k.toNat := by
  have hs := sortB_iff.1 hs
  unfold hasB
  rw [List.take_of_length_le (by omega), List.any_eq_true]
  have hp := hs.1.map pageOf
  rw [ents_pages] at hp
  rw [← hp.mem_iff, List.mem_map]
  constructor
  · rintro ⟨r, hr, h⟩; exact ⟨r, hr, eq_of_beq h⟩
  · rintro ⟨r, hr, h⟩; exact ⟨r, hr, by rw [beq_iff_eq]; exact h⟩
theorem dist_step {L : List Int} {k : Int} (h0 : 0 ≤ k) (hk : k < L.length) (hd : distB L k = true) (hn : L.getD k.toNat 0 ∉ L.take k.toNat) : distB L (k + 1) = true := by
  unfold distB at *
  rw [decide_eq_true_eq] at *
  rw [show (k + 1).toNat = k.toNat + 1 by omega, take_getD L _ (by omega), List.nodup_append]
  refine ⟨hd, by simp, fun a ha b hb e => ?_⟩
  rw [List.mem_singleton] at hb
  subst hb; subst e; exact hn ha
theorem dist_not {L : List Int} {k m : Int} (h0 : 0 ≤ k) (hk : k < m) (hm : m ≤ L.length) (hd : distB L m = true) : L.getD k.toNat 0 ∉ L.take k.toNat := by
  intro hin
  unfold distB at hd
  rw [decide_eq_true_eq] at hd
  have h2 : (L.take (k.toNat + 1)).Nodup := by
    have : L.take (k.toNat + 1) = (L.take m.toNat).take (k.toNat + 1) := by rw [List.take_take, Nat.min_eq_left (by omega)]
    rw [this]; exact hd.sublist (List.take_sublist _ _)
  rw [take_getD L _ (by omega), List.nodup_append] at h2
  exact h2.2.2 _ hin _ List.mem_cons_self rfl
theorem dist_zero (L : List Int) : distB L 0 = true := by simp [distB]
theorem sort_zero (L : List Int) : sortB (entsB L 0) [] = true := by rw [sortB_iff]; exact ⟨by simp [entsB], List.Pairwise.nil⟩
theorem refNewA_specs {G : Type} (S : Sig G) (hS : FreeSig S) (hE : GhOk S emptW) : ∀ f sps, assoc refNewACx.specs f = some sps → ∀ sp ∈ sps, sp.wf = true ∧ CtrOk S Try.prog f sp := by
  intro f sps h sp hm
  simp only [refNewACx, assoc] at h
  cases hb : Nat.beq 60 f
  · rw [hb] at h
    cases hb2 : Nat.beq 61 f
    · rw [hb2] at h; cases h
    · rw [hb2] at h; cases h
      rw [List.mem_singleton] at hm
      rw [← Nat.eq_of_beq_eq_true hb2, hm]
      exact ⟨by decide, with_ok S hS hE⟩
  · rw [hb] at h; cases h
    rw [List.mem_singleton] at hm
    rw [← Nat.eq_of_beq_eq_true hb, hm]
    exact ⟨by decide, find_ok S hS⟩
theorem refNewA_ok {G : Type} (S : Sig G) (hS : FreeSig S) (hE : GhOk S emptW) : CtrOk S Try.prog 28 refNewACtr := by
  refine vcOf_sound S (C := refNewACx) (fuel := 10) ⟨refNewA_specs S hS hE, fun f l h i sp args hm => ?_, fun f sps h => by simp [refNewACx, assoc] at h⟩ fun ρ => ?_
  · simp only [refNewACx, assoc] at h
    cases hb : Nat.beq 28 f
    · rw [hb] at h; cases h
    · rw [hb] at h; cases h
      simp at hm
      obtain ⟨rfl, rfl, rfl⟩ := hm
      exact ⟨by decide, hE⟩
  · rw [refNewA_vc]
    obtain ⟨_, h1, h2, h3, h4, h5, h6, h7, _, _⟩ := hS
    simp only [refNewAVc, VC.den, SX.den, U.co, Env.upd, h1, h2, h3, h4, h5, h6, h7, p23, p46, p47, ap1_2, ap1_30, ap1_32, ap1_152, ap1_154, ap2_40, ap2_41, ap2_45, t47, ap2_48, ap2_110, ap2_122, U.toProp_bool, U.toBool_bool, Bool.not_eq_true', beq_eq_false_iff_ne, ne_eq, beq_iff_eq, i64_min', i64_max', Int.toNat_zero, U.toInt_int, U.toInts_ints, U.toBytes_bytes, U.toRows_rows, if_true, if_false, Nat.reduceEqDiff, reduceIte]
    generalize (ρ 4).toInts = L
    generalize (ρ 2).toInt = m
    intro a1 a2 a3 a4 a5 p ap
    refine ⟨by simp [allNB], fun k k0 k1 k2 => ⟨fun hk => ⟨by omega, fun hp => ⟨fun hq => ?_, fun hq => ⟨⟨by omega, by omega⟩, by omega, by omega, by omega, by omega, allNB_step k0 (by omega) k2 hp hq, trivial⟩⟩, fun hq => ?_⟩,
      fun hk => ⟨dist_zero L, sort_zero L, fun j q b c R j0 j1 j2 j3 j4 j5 => ⟨fun hj => ⟨by omega, by omega, by omega, fun at' f0 f1 => ⟨fun g => ?_, fun g => ⟨by omega, by omega, fun b' c' R' g1 g2 => ⟨⟨by omega, by omega⟩, by omega, by omega, by omega, by omega, ?_, ?_, trivial⟩⟩⟩⟩, fun hj => ⟨?_, by omega, trivial⟩⟩⟩⟩⟩
    · have := allNB_get a4 a2 k0 hk; omega
    · have := allNB_get a4 a2 k0 hk; omega
    · rw [leB_iff.2 g] at f1
      exact dist_not j0 hj a2 a5 ((has_iff j2 j4).1 f1.symm)
    · exact dist_step j0 (by omega) j3 (dist_not j0 hj a2 a5)
    · rw [g2]; exact sort_step j0 (by omega) j2 j4
    · have : j = m := by omega
      rw [← this]; exact j4
end
end Go.Proofs.Ytmjonggabppgaaa

/- The reference's New where some number is no page. -/
set_option linter.unusedSimpArgs false
set_option linter.unusedVariables false
namespace Go.Proofs.Ytmjonggabppgaaa
noncomputable section
open Go.Eng
def refNewBCtr : Ctr := ⟨[.int, .int, .int, .int, .ints, .int], [.one (.slice (ai 0) (ai 1) (.int 0) (.int 0) (ai 2) (ai 3) 1)], [rdI 0 0],
  [eLe (.int 0) (ai 2), eLe (ai 2) (.f1 30 (xsA 4)), eLe (ai 2) (.int 1048576), .f1 2 (allNX (xsA 4) (ai 2))], [],
  .tup [(false, [.ptr (.int (-1)) 0]), (false, [.int .i64 (.int 30)])], [rdI 0 0], []⟩
def refNewBInv1 : Inv := ⟨[.int], [(5, .one (.int .i64 (di 0)))], [], [eLe (.int 0) (di 0), eLe (di 0) (ai 2), allNX (xsA 4) (di 0)], .f2 41 (ai 2) (di 0)⟩
def refNewBInv2 : Inv := ⟨[.int, .int, .int, .int, .rows], [(7, .one (.int .i64 (di 0))), (4, .one (.ptr (di 1) 0))], [.cel (di 1) 0 [.slice (di 2) (.int 0) (.int 0) (.int 0) (di 0) (di 3) 2, .slice (.int (-1)) (.int 0) (.int 0) (.int 0) (.int 0) (.int 0) 2, .int .i64 (.int 0)], .arr enE (di 2) (rwA 1000004) (di 3)],
  [eLe (.int 0) (di 0), eLe (di 0) (ai 2), eEq (.f1 32 (rwA 1000004)) (di 0), distX (xsA 4) (di 0), sortX (entsX (xsA 4) (di 0)) (rwA 1000004), eLe (.int 0) (di 1)], .f2 41 (ai 2) (di 0)⟩
def refNewBCx : Cx := { specs := [(60, [findCtr]), (61, [withCtr])], anns := [(28, [(3, .inv refNewBInv1), (9, .inv refNewBInv2), (8, .ghost emptW [])])] }
def refNewBVc : VC := .imp (.f2 47 (.int 0) (.at .int 2)) (.imp (.f2 47 (.at .int 2) (.f1 30 (.at .ints 4))) (.imp (.f2 47 (.at .int 2) (.int 1048576)) (.imp (.f1 2 (.us 
    .bool 2 (.at .ints 4) (.at .int 2) (.int 0) (.int 0))) (.all 6 .int (.imp (.f2 47 (.int 0) (.at .int 6)) (.need (.us .bool 2 (.at .ints 4) (.int 0) 
    (.int 0) (.int 0)) (.all 7 .int (.imp (.f2 47 (.int 0) (.at .int 7)) (.imp (.f2 47 (.at .int 7) (.at .int 2)) (.imp (.us .bool 2 (.at .ints 4) (.at 
    .int 7) (.int 0) (.int 0)) (.and (.imp (.f2 46 (.at .int 7) (.at .int 2)) (.need (.f2 46 (.at .int 7) (.f1 30 (.at .ints 4))) (.and (.imp (.f2 47 
    (.int 2) (.f2 110 (.at .ints 4) (.at .int 7))) (.and (.imp (.f2 47 (.int 65536) (.f2 110 (.at .ints 4) (.at .int 7))) (.tt)) (.imp (.f2 46 (.f2 110 
    (.at .ints 4) (.at .int 7)) (.int 65536)) (.need (.f1 23 (.f2 40 (.at .int 7) (.int 1))) (.need (.f2 47 (.int 0) (.f2 41 (.at .int 2) (.f2 40 (.at 
    .int 7) (.int 1)))) (.need (.f2 46 (.f2 41 (.at .int 2) (.f2 40 (.at .int 7) (.int 1))) (.f2 41 (.at .int 2) (.at .int 7))) (.need (.f2 47 (.int 0) 
    (.f2 40 (.at .int 7) (.int 1))) (.need (.f2 47 (.f2 40 (.at .int 7) (.int 1)) (.at .int 2)) (.need (.us .bool 2 (.at .ints 4) (.f2 40 (.at .int 7) 
    (.int 1)) (.int 0) (.int 0)) (.tt)))))))))) (.imp (.f2 46 (.f2 110 (.at .ints 4) (.at .int 7)) (.int 2)) (.tt))))) (.imp (.f2 47 (.at .int 2) (.at 
    .int 7)) (.need (.us .bool 4 (.at .ints 4) (.int 0) (.int 0) (.int 0)) (.need (.us .bool 1 (.us .rows 3 (.at .ints 4) (.int 0) (.int 0) (.int 0)) (.f1 
    154 (.int 0)) (.int 0) (.int 0)) (.all 8 .int (.all 9 .int (.all 10 .int (.all 11 .int (.all 12 .rows (.imp (.f2 47 (.int 0) (.at .int 8)) (.imp (.f2 
    47 (.at .int 8) (.at .int 2)) (.imp (.f2 45 (.f1 32 (.at .rows 12)) (.at .int 8)) (.imp (.us .bool 4 (.at .ints 4) (.at .int 8) (.int 0) (.int 0)) 
    (.imp (.us .bool 1 (.us .rows 3 (.at .ints 4) (.at .int 8) (.int 0) (.int 0)) (.at .rows 12) (.int 0) (.int 0)) (.imp (.f2 47 (.int 0) (.at .int 9)) 
    (.and (.imp (.f2 46 (.at .int 8) (.at .int 2)) (.need (.f2 46 (.at .int 8) (.f1 30 (.at .ints 4))) (.need (.f2 47 (.at .int 8) (.f1 32 (.at .rows 
    12))) (.need (.f2 47 (.at .int 8) (.int 140737488355328)) (.all 13 .int (.imp (.f2 47 (.int (-1)) (.at .int 13)) (.imp (.f2 48 (.f2 47 (.int 0) (.at 
    .int 13)) (.us .bool 6 (.at .rows 12) (.at .int 8) (.f2 110 (.at .ints 4) (.at .int 8)) (.int 0))) (.and (.imp (.f2 47 (.int 0) (.at .int 13)) (.need 
    (.bool false) (.tt))) (.imp (.f2 46 (.at .int 13) (.int 0)) (.need (.f2 45 (.at .int 8) (.f1 32 (.at .rows 12))) (.need (.f2 47 (.at .int 8) (.int 
    1048576)) (.all 14 .int (.all 15 .int (.all 16 .rows (.imp (.f2 45 (.f1 32 (.at .rows 16)) (.f2 40 (.at .int 8) (.int 1))) (.imp (.us .bool 5 (.at 
    .rows 16) (.us .rows 7 (.at .rows 12) (.at .int 8) (.f2 122 (.f2 110 (.at .ints 4) (.at .int 8)) (.f2 122 (.int 0) (.f1 152 (.int 0)))) (.int 0)) 
    (.int 0) (.int 0)) (.need (.f1 23 (.f2 40 (.at .int 8) (.int 1))) (.need (.f2 47 (.int 0) (.f2 41 (.at .int 2) (.f2 40 (.at .int 8) (.int 1)))) (.need 
    (.f2 46 (.f2 41 (.at .int 2) (.f2 40 (.at .int 8) (.int 1))) (.f2 41 (.at .int 2) (.at .int 8))) (.need (.f2 47 (.int 0) (.f2 40 (.at .int 8) (.int 
    1))) (.need (.f2 47 (.f2 40 (.at .int 8) (.int 1)) (.at .int 2)) (.need (.us .bool 4 (.at .ints 4) (.f2 40 (.at .int 8) (.int 1)) (.int 0) (.int 0)) 
    (.need (.us .bool 1 (.us .rows 3 (.at .ints 4) (.f2 40 (.at .int 8) (.int 1)) (.int 0) (.int 0)) (.at .rows 16) (.int 0) (.int 0)) 
    (.tt)))))))))))))))))))))))) (.imp (.f2 47 (.at .int 2) (.at .int 8)) (.need (.bool false) (.need (.f2 45 (.int (-1)) (.at .int 9)) 
    (.tt))))))))))))))))))))))))))))))
theorem refNewB_vc : vcOf Try.prog refNewBCx 10 28 refNewBCtr = refNewBVc := by kernel_rfl

theorem refNewB_specs {G : Type} (S : Sig G) (hS : FreeSig S) (hE : GhOk S emptW) : ∀ f sps, assoc refNewBCx.specs f = some sps → ∀ sp ∈ sps, sp.wf = true ∧ CtrOk S Try.prog f sp := by
  intro f sps h sp hm
  simp only [refNewBCx, assoc] at h
  cases hb : Nat.beq 60 f
  · rw [hb] at h
    cases hb2 : Nat.beq 61 f
    · rw [hb2] at h; cases h
    · rw [hb2] at h; cases h
      rw [List.mem_singleton] at hm
      rw [← Nat.eq_of_beq_eq_true hb2, hm]
      exact ⟨by decide, with_ok S hS hE⟩
  · rw [hb] at h; cases h
    rw [List.mem_singleton] at hm
    rw [← Nat.eq_of_beq_eq_true hb, hm]
    exact ⟨by decide, find_ok S hS⟩
theorem refNewB_ok {G : Type} (S : Sig G) (hS : FreeSig S) (hE : GhOk S emptW) : CtrOk S Try.prog 28 refNewBCtr := by
  refine vcOf_sound S (C := refNewBCx) (fuel := 10) ⟨refNewB_specs S hS hE, fun f l h i sp args hm => ?_, fun f sps h => by simp [refNewBCx, assoc] at h⟩ fun ρ => ?_
  · simp only [refNewBCx, assoc] at h
    cases hb : Nat.beq 28 f
    · rw [hb] at h; cases h
    · rw [hb] at h; cases h
      simp at hm
      obtain ⟨rfl, rfl, rfl⟩ := hm
      exact ⟨by decide, hE⟩
  · rw [refNewB_vc]
    obtain ⟨_, h1, h2, h3, h4, h5, h6, h7, _, _⟩ := hS
    simp only [refNewBVc, VC.den, SX.den, U.co, Env.upd, h1, h2, h3, h4, h5, h6, h7, p23, p46, p47, ap1_2, ap1_30, ap1_32, ap1_152, ap1_154, ap2_40, ap2_41, ap2_45, t47, ap2_48, ap2_110, ap2_122, U.toProp_bool, U.toBool_bool, Bool.not_eq_true', beq_eq_false_iff_ne, ne_eq, beq_iff_eq, i64_min', i64_max', Int.toNat_zero, U.toInt_int, U.toInts_ints, U.toBytes_bytes, U.toRows_rows, if_true, if_false, Nat.reduceEqDiff, reduceIte]
    generalize (ρ 4).toInts = L
    generalize (ρ 2).toInt = m
    intro a1 a2 a3 a4 p ap
    refine ⟨by simp [allNB], fun k k0 k1 k2 => ⟨fun hk => ⟨by omega, fun hp => ⟨fun hq => ?_, fun hq => ⟨⟨by omega, by omega⟩, by omega, by omega, by omega, by omega, allNB_step k0 (by omega) k2 hp hq, trivial⟩⟩, fun hq => ?_⟩, fun hk => ?_⟩⟩
    · trivial
    · trivial
    · exfalso
      have : k = m := by omega
      rw [this, a4] at k2; cases k2
end
end Go.Proofs.Ytmjonggabppgaaa

/- The reference's New where two numbers are alike. -/
set_option linter.unusedSimpArgs false
set_option linter.unusedVariables false
namespace Go.Proofs.Ytmjonggabppgaaa
noncomputable section
open Go.Eng
def refNewCCtr : Ctr := ⟨[.int, .int, .int, .int, .ints, .int], [.one (.slice (ai 0) (ai 1) (.int 0) (.int 0) (ai 2) (ai 3) 1)], [rdI 0 0],
  [eLe (.int 0) (ai 2), eLe (ai 2) (.f1 30 (xsA 4)), eLe (ai 2) (.int 1048576), allNX (xsA 4) (ai 2), .f1 2 (distX (xsA 4) (ai 2))], [],
  .tup [(false, [.ptr (.int (-1)) 0]), (false, [.int .i64 (.int 100)])], [rdI 0 0], []⟩
def refNewCInv1 : Inv := ⟨[.int], [(5, .one (.int .i64 (di 0)))], [], [eLe (.int 0) (di 0), eLe (di 0) (ai 2), allNX (xsA 4) (di 0)], .f2 41 (ai 2) (di 0)⟩
def refNewCInv2 : Inv := ⟨[.int, .int, .int, .int, .rows], [(7, .one (.int .i64 (di 0))), (4, .one (.ptr (di 1) 0))], [.cel (di 1) 0 [.slice (di 2) (.int 0) (.int 0) (.int 0) (di 0) (di 3) 2, .slice (.int (-1)) (.int 0) (.int 0) (.int 0) (.int 0) (.int 0) 2, .int .i64 (.int 0)], .arr enE (di 2) (rwA 1000004) (di 3)],
  [eLe (.int 0) (di 0), eLe (di 0) (ai 2), eEq (.f1 32 (rwA 1000004)) (di 0), distX (xsA 4) (di 0), sortX (entsX (xsA 4) (di 0)) (rwA 1000004), eLe (.int 0) (di 1)], .f2 41 (ai 2) (di 0)⟩
def refNewCCx : Cx := { specs := [(60, [findCtr]), (61, [withCtr])], anns := [(28, [(3, .inv refNewCInv1), (9, .inv refNewCInv2), (8, .ghost emptW [])])] }
def refNewCVc : VC := .imp (.f2 47 (.int 0) (.at .int 2)) (.imp (.f2 47 (.at .int 2) (.f1 30 (.at .ints 4))) (.imp (.f2 47 (.at .int 2) (.int 1048576)) (.imp (.us .bool 2 
    (.at .ints 4) (.at .int 2) (.int 0) (.int 0)) (.imp (.f1 2 (.us .bool 4 (.at .ints 4) (.at .int 2) (.int 0) (.int 0))) (.all 6 .int (.imp (.f2 47 
    (.int 0) (.at .int 6)) (.need (.us .bool 2 (.at .ints 4) (.int 0) (.int 0) (.int 0)) (.all 7 .int (.imp (.f2 47 (.int 0) (.at .int 7)) (.imp (.f2 47 
    (.at .int 7) (.at .int 2)) (.imp (.us .bool 2 (.at .ints 4) (.at .int 7) (.int 0) (.int 0)) (.and (.imp (.f2 46 (.at .int 7) (.at .int 2)) (.need (.f2 
    46 (.at .int 7) (.f1 30 (.at .ints 4))) (.and (.imp (.f2 47 (.int 2) (.f2 110 (.at .ints 4) (.at .int 7))) (.and (.imp (.f2 47 (.int 65536) (.f2 110 
    (.at .ints 4) (.at .int 7))) (.need (.bool false) (.tt))) (.imp (.f2 46 (.f2 110 (.at .ints 4) (.at .int 7)) (.int 65536)) (.need (.f1 23 (.f2 40 (.at 
    .int 7) (.int 1))) (.need (.f2 47 (.int 0) (.f2 41 (.at .int 2) (.f2 40 (.at .int 7) (.int 1)))) (.need (.f2 46 (.f2 41 (.at .int 2) (.f2 40 (.at .int 
    7) (.int 1))) (.f2 41 (.at .int 2) (.at .int 7))) (.need (.f2 47 (.int 0) (.f2 40 (.at .int 7) (.int 1))) (.need (.f2 47 (.f2 40 (.at .int 7) (.int 
    1)) (.at .int 2)) (.need (.us .bool 2 (.at .ints 4) (.f2 40 (.at .int 7) (.int 1)) (.int 0) (.int 0)) (.tt)))))))))) (.imp (.f2 46 (.f2 110 (.at .ints 
    4) (.at .int 7)) (.int 2)) (.need (.bool false) (.tt)))))) (.imp (.f2 47 (.at .int 2) (.at .int 7)) (.need (.us .bool 4 (.at .ints 4) (.int 0) (.int 
    0) (.int 0)) (.need (.us .bool 1 (.us .rows 3 (.at .ints 4) (.int 0) (.int 0) (.int 0)) (.f1 154 (.int 0)) (.int 0) (.int 0)) (.all 8 .int (.all 9 
    .int (.all 10 .int (.all 11 .int (.all 12 .rows (.imp (.f2 47 (.int 0) (.at .int 8)) (.imp (.f2 47 (.at .int 8) (.at .int 2)) (.imp (.f2 45 (.f1 32 
    (.at .rows 12)) (.at .int 8)) (.imp (.us .bool 4 (.at .ints 4) (.at .int 8) (.int 0) (.int 0)) (.imp (.us .bool 1 (.us .rows 3 (.at .ints 4) (.at .int 
    8) (.int 0) (.int 0)) (.at .rows 12) (.int 0) (.int 0)) (.imp (.f2 47 (.int 0) (.at .int 9)) (.and (.imp (.f2 46 (.at .int 8) (.at .int 2)) (.need 
    (.f2 46 (.at .int 8) (.f1 30 (.at .ints 4))) (.need (.f2 47 (.at .int 8) (.f1 32 (.at .rows 12))) (.need (.f2 47 (.at .int 8) (.int 140737488355328)) 
    (.all 13 .int (.imp (.f2 47 (.int (-1)) (.at .int 13)) (.imp (.f2 48 (.f2 47 (.int 0) (.at .int 13)) (.us .bool 6 (.at .rows 12) (.at .int 8) (.f2 110 
    (.at .ints 4) (.at .int 8)) (.int 0))) (.and (.imp (.f2 47 (.int 0) (.at .int 13)) (.tt)) (.imp (.f2 46 (.at .int 13) (.int 0)) (.need (.f2 45 (.at 
    .int 8) (.f1 32 (.at .rows 12))) (.need (.f2 47 (.at .int 8) (.int 1048576)) (.all 14 .int (.all 15 .int (.all 16 .rows (.imp (.f2 45 (.f1 32 (.at 
    .rows 16)) (.f2 40 (.at .int 8) (.int 1))) (.imp (.us .bool 5 (.at .rows 16) (.us .rows 7 (.at .rows 12) (.at .int 8) (.f2 122 (.f2 110 (.at .ints 4) 
    (.at .int 8)) (.f2 122 (.int 0) (.f1 152 (.int 0)))) (.int 0)) (.int 0) (.int 0)) (.need (.f1 23 (.f2 40 (.at .int 8) (.int 1))) (.need (.f2 47 (.int 
    0) (.f2 41 (.at .int 2) (.f2 40 (.at .int 8) (.int 1)))) (.need (.f2 46 (.f2 41 (.at .int 2) (.f2 40 (.at .int 8) (.int 1))) (.f2 41 (.at .int 2) (.at 
    .int 8))) (.need (.f2 47 (.int 0) (.f2 40 (.at .int 8) (.int 1))) (.need (.f2 47 (.f2 40 (.at .int 8) (.int 1)) (.at .int 2)) (.need (.us .bool 4 (.at 
    .ints 4) (.f2 40 (.at .int 8) (.int 1)) (.int 0) (.int 0)) (.need (.us .bool 1 (.us .rows 3 (.at .ints 4) (.f2 40 (.at .int 8) (.int 1)) (.int 0) 
    (.int 0)) (.at .rows 16) (.int 0) (.int 0)) (.tt)))))))))))))))))))))))) (.imp (.f2 47 (.at .int 2) (.at .int 8)) (.need (.bool false) (.need (.f2 45 
    (.int (-1)) (.at .int 9)) (.tt)))))))))))))))))))))))))))))))
theorem refNewC_vc : vcOf Try.prog refNewCCx 10 28 refNewCCtr = refNewCVc := by kernel_rfl

theorem refNewC_specs {G : Type} (S : Sig G) (hS : FreeSig S) (hE : GhOk S emptW) : ∀ f sps, assoc refNewCCx.specs f = some sps → ∀ sp ∈ sps, sp.wf = true ∧ CtrOk S Try.prog f sp := by
  intro f sps h sp hm
  simp only [refNewCCx, assoc] at h
  cases hb : Nat.beq 60 f
  · rw [hb] at h
    cases hb2 : Nat.beq 61 f
    · rw [hb2] at h; cases h
    · rw [hb2] at h; cases h
      rw [List.mem_singleton] at hm
      rw [← Nat.eq_of_beq_eq_true hb2, hm]
      exact ⟨by decide, with_ok S hS hE⟩
  · rw [hb] at h; cases h
    rw [List.mem_singleton] at hm
    rw [← Nat.eq_of_beq_eq_true hb, hm]
    exact ⟨by decide, find_ok S hS⟩
theorem refNewC_ok {G : Type} (S : Sig G) (hS : FreeSig S) (hE : GhOk S emptW) : CtrOk S Try.prog 28 refNewCCtr := by
  refine vcOf_sound S (C := refNewCCx) (fuel := 10) ⟨refNewC_specs S hS hE, fun f l h i sp args hm => ?_, fun f sps h => by simp [refNewCCx, assoc] at h⟩ fun ρ => ?_
  · simp only [refNewCCx, assoc] at h
    cases hb : Nat.beq 28 f
    · rw [hb] at h; cases h
    · rw [hb] at h; cases h
      simp at hm
      obtain ⟨rfl, rfl, rfl⟩ := hm
      exact ⟨by decide, hE⟩
  · rw [refNewC_vc]
    obtain ⟨_, h1, h2, h3, h4, h5, h6, h7, _, _⟩ := hS
    simp only [refNewCVc, VC.den, SX.den, U.co, Env.upd, h1, h2, h3, h4, h5, h6, h7, p23, p46, p47, ap1_2, ap1_30, ap1_32, ap1_152, ap1_154, ap2_40, ap2_41, ap2_45, t47, ap2_48, ap2_110, ap2_122, U.toProp_bool, U.toBool_bool, Bool.not_eq_true', beq_eq_false_iff_ne, ne_eq, beq_iff_eq, i64_min', i64_max', Int.toNat_zero, U.toInt_int, U.toInts_ints, U.toBytes_bytes, U.toRows_rows, if_true, if_false, Nat.reduceEqDiff, reduceIte]
    generalize (ρ 4).toInts = L
    generalize (ρ 2).toInt = m
    intro a1 a2 a3 a4 a5 p ap
    refine ⟨by simp [allNB], fun k k0 k1 k2 => ⟨fun hk => ⟨by omega, fun hp => ⟨fun hq => ?_, fun hq => ⟨⟨by omega, by omega⟩, by omega, by omega, by omega, by omega, allNB_step k0 (by omega) k2 hp hq, trivial⟩⟩, fun hq => ?_⟩,
      fun hk => ⟨dist_zero L, sort_zero L, fun j q b c R j0 j1 j2 j3 j4 j5 => ⟨fun hj => ⟨by omega, by omega, by omega, fun at' f0 f1 => ⟨fun g => trivial, fun g => ⟨by omega, by omega, fun b' c' R' g1 g2 => ⟨⟨by omega, by omega⟩, by omega, by omega, by omega, by omega, ?_, ?_, trivial⟩⟩⟩⟩, fun hj => ?_⟩⟩⟩⟩
    · exfalso; have := allNB_get a4 a2 k0 hk; omega
    · exfalso; have := allNB_get a4 a2 k0 hk; omega
    · refine dist_step j0 (by omega) j3 fun hin => ?_
      have := (has_iff j2 j4).2 hin
      rw [this] at f1
      have := leB_iff.1 f1
      omega
    · rw [g2]; exact sort_step j0 (by omega) j2 j4
    · exfalso
      have : j = m := by omega
      rw [this, a5] at j3; cases j3
end
end Go.Proofs.Ytmjonggabppgaaa

/- What is told of a list: the pages of some of its entries. -/
set_option linter.unusedSimpArgs false
set_option linter.unusedVariables false
namespace Go.Proofs.Ytmjonggabppgaaa
noncomputable section
open Go.Eng
def selB (p : List Int → Bool) (R : List (List Int)) (n : Int) : List Int := ((R.take n.toNat).filter p).map pageOf
def isFree (r : List Int) : Bool := r.getD 1 0 == 0
def isWait (r : List Int) : Bool := decide (0 < r.getD 1 0)
def isAny (r : List Int) : Bool := decide (0 ≤ r.getD 1 0)
def PickSig {G : Type} (S : Sig G) : Prop := (∀ a b c d, S.usr 10 a b c d = .ints (selB isFree a.toRows b.toInt)) ∧ (∀ a b c d, S.usr 11 a b c d = .ints (selB isWait a.toRows b.toInt)) ∧
  (∀ a b c d, S.usr 12 a b c d = .ints (selB (fun _ => true) a.toRows b.toInt)) ∧ (∀ a b c d, S.usr 13 a b c d = .ints (selB isAny a.toRows b.toInt))
def selX (k : Nat) (x n : SX) : SX := .us .ints k x n (.int 0) (.int 0)
theorem toNat_one' : Int.toNat 1 = 1 := rfl
theorem selB_zero (p : List Int → Bool) (R : List (List Int)) : selB p R 0 = [] := by simp [selB]
theorem selB_step (p : List Int → Bool) {R : List (List Int)} {k : Int} (h0 : 0 ≤ k) (hk : k < R.length) : selB p R (k + 1) = selB p R k ++ if p (R.getD k.toNat []) then [pg R k.toNat] else [] := by
  unfold selB
  rw [show (k + 1).toNat = k.toNat + 1 by omega, take_rows R _ (by omega), List.filter_append, List.map_append]
  congr 1
  rw [List.filter_cons, List.filter_nil]
  split <;> rfl
theorem selB_yes {p : List Int → Bool} {R : List (List Int)} {k l : Int} {L : List Int} (h0 : 0 ≤ k) (hk : k < R.length) (hL : L = selB p R k) (hl : (L.length : Int) = l) (hp : p (R.getD k.toNat []) = true) :
    L.take l.toNat ++ [pg R k.toNat] = selB p R (k + 1) := by
  rw [selB_step p h0 hk, if_pos hp, ← hL, List.take_of_length_le (by omega)]
theorem selB_no {p : List Int → Bool} {R : List (List Int)} {k : Int} {L : List Int} (h0 : 0 ≤ k) (hk : k < R.length) (hL : L = selB p R k) (hp : p (R.getD k.toNat []) = false) : L = selB p R (k + 1) := by
  rw [selB_step p h0 hk, hp, ← hL]; simp
/-- No numbers, as a list that is not held yet. -/
def emptI : Ctr := ⟨[], [], [], [], [], .tup [], [.arr (.ints .i64) (.int (-1)) (.f1 152 (.int 0)) (.int 0)], []⟩
theorem emptI_gh {G : Type} (S : Sig G) : GhOk S emptI := by
  intro ch w0 F ρ w _ hs
  refine ⟨ρ, Ext.refl _ _, ?_, by simp [emptI]⟩
  simp only [emptI, hpDen_cons, star_assoc, Ch.den]
  have hn : ∀ ρ, hpDen (S.wc ch) ρ w0 [] = emp := fun _ => rfl
  have e : arrDen (S.wc ch) (.ints .i64) ((SX.int (-1)).den (S.wc ch) ρ) ((SX.f1 152 (.int 0)).den (S.wc ch) ρ) ((SX.int 0).den (S.wc ch) ρ) Hl.none := by
    refine ⟨[], ?_, ?_, ?_, ?_⟩
    · simp [En.vals, SX.den, ap1, En.stride]
    · simp [SX.den]
    · simp [SX.den]
    · simp [En.vals, SX.den, ap1, row, rowH_nil]
  obtain ⟨x, ⟨a, b, d, rfl, ha, hb⟩, hi⟩ := hs
  refine ⟨_, ⟨Hl.none, Hl.un a b, fun i j => .inl rfl, ?_, e, ⟨a, b, d, rfl, ha, hb⟩⟩, hi⟩
  funext i j; unfold Hl.un Hl.none; rfl
end
end Go.Proofs.Ytmjonggabppgaaa

/- The pages that are free. -/
set_option linter.unusedSimpArgs false
set_option linter.unusedVariables false
namespace Go.Proofs.Ytmjonggabppgaaa
noncomputable section
open Go.Eng
def pickFCtr : Ctr := ⟨[.int, .rows, .int, .int, .int], [.one (.slice (ai 0) (.int 0) (.int 0) (.int 0) (ai 2) (ai 3) 2), .one (.fn 63), .one (.fn 64)], [.arr enE (ai 0) (rwA 1) (ai 4)],
  [eLe (.int 0) (ai 2), eLe (ai 2) (.f1 32 (rwA 1)), eLe (ai 2) (.int 1048576)], [.int, .int, .int, .ints],
  .one (.slice (ai 5) (.int 0) (.int 0) (.int 0) (ai 6) (ai 7) 1), [.arr enE (ai 0) (rwA 1) (ai 4), .arr (.ints .i64) (ai 5) (xsA 8) (ai 7)],
  [eEq (.f1 30 (xsA 8)) (ai 6), eLe (.int 0) (ai 6), eLe (ai 6) (ai 2), .f2 153 (xsA 8) (selX 10 (rwA 1) (ai 2))]⟩
def pickFInv : Inv := ⟨[.int, .int, .int, .int, .ints], [(12, .one (.int .i64 (di 0))), (7, .one (.slice (di 1) (.int 0) (.int 0) (.int 0) (di 2) (di 3) 1))], [.arr (.ints .i64) (di 1) (xsA 1000004) (di 3)],
  [eLe (.int 0) (di 0), eLe (di 0) (ai 2), eEq (.f1 30 (xsA 1000004)) (di 2), eLe (.int 0) (di 2), eLe (di 2) (di 0), .f2 153 (xsA 1000004) (selX 10 (rwA 1) (di 0))], .f2 41 (ai 2) (di 0)⟩
def pickFCx : Cx := { specs := [], anns := [(62, [(3, .inv pickFInv), (2, .ghost emptI [])])] }
def pickFVc : VC := .imp (.f2 47 (.int 0) (.at .int 2)) (.imp (.f2 47 (.at .int 2) (.f1 32 (.at .rows 1))) (.imp (.f2 47 (.at .int 2) (.int 1048576)) (.need (.f2 153 (.f1 
    152 (.int 0)) (.us .ints 10 (.at .rows 1) (.int 0) (.int 0) (.int 0))) (.all 5 .int (.all 6 .int (.all 7 .int (.all 8 .int (.all 9 .ints (.imp (.f2 47 
    (.int 0) (.at .int 5)) (.imp (.f2 47 (.at .int 5) (.at .int 2)) (.imp (.f2 45 (.f1 30 (.at .ints 9)) (.at .int 7)) (.imp (.f2 47 (.int 0) (.at .int 
    7)) (.imp (.f2 47 (.at .int 7) (.at .int 5)) (.imp (.f2 153 (.at .ints 9) (.us .ints 10 (.at .rows 1) (.at .int 5) (.int 0) (.int 0))) (.and (.imp 
    (.f2 46 (.at .int 5) (.at .int 2)) (.need (.f2 46 (.at .int 5) (.f1 32 (.at .rows 1))) (.all 10 .int (.imp (.f2 47 (.int 0) (.at .int 10)) (.all 11 
    .int (.imp (.f2 47 (.int 0) (.at .int 11)) (.and (.imp (.f2 45 (.f3 112 (.at .rows 1) (.at .int 5) (.int 1)) (.int 0)) (.all 12 .int (.imp (.f2 47 
    (.int 0) (.at .int 12)) (.all 13 .int (.imp (.f2 47 (.int 0) (.at .int 13)) (.need (.f2 47 (.at .int 7) (.f1 30 (.at .ints 9))) (.need (.f2 47 (.f2 42 
    (.f2 40 (.at .int 7) (.int 1)) (.int 8)) (.int 140737488355328)) (.all 14 .int (.all 15 .int (.imp (.f2 47 (.f2 40 (.at .int 7) (.int 1)) (.at .int 
    15)) (.imp (.f2 50 (.f2 47 (.int 0) (.at .int 14)) (.f2 45 (.f2 40 (.at .int 7) (.int 1)) (.int 0))) (.need (.f1 23 (.f2 40 (.at .int 5) (.int 1))) 
    (.need (.f2 47 (.int 0) (.f2 41 (.at .int 2) (.f2 40 (.at .int 5) (.int 1)))) (.need (.f2 46 (.f2 41 (.at .int 2) (.f2 40 (.at .int 5) (.int 1))) (.f2 
    41 (.at .int 2) (.at .int 5))) (.need (.f2 47 (.int 0) (.f2 40 (.at .int 5) (.int 1))) (.need (.f2 47 (.f2 40 (.at .int 5) (.int 1)) (.at .int 2)) 
    (.need (.f2 45 (.f2 40 (.f1 30 (.f2 113 (.at .ints 9) (.at .int 7))) (.int 1)) (.f2 40 (.at .int 7) (.int 1))) (.need (.f2 47 (.int 0) (.f2 40 (.at 
    .int 7) (.int 1))) (.need (.f2 47 (.f2 40 (.at .int 7) (.int 1)) (.f2 40 (.at .int 5) (.int 1))) (.need (.f2 153 (.f2 119 (.f2 113 (.at .ints 9) (.at 
    .int 7)) (.f2 122 (.f3 112 (.at .rows 1) (.at .int 5) (.int 0)) (.f1 152 (.int 0)))) (.us .ints 10 (.at .rows 1) (.f2 40 (.at .int 5) (.int 1)) (.int 
    0) (.int 0))) (.tt))))))))))))))))))))) (.imp (.f1 2 (.f2 45 (.f3 112 (.at .rows 1) (.at .int 5) (.int 1)) (.int 0))) (.need (.f1 23 (.f2 40 (.at .int 
    5) (.int 1))) (.need (.f2 47 (.int 0) (.f2 41 (.at .int 2) (.f2 40 (.at .int 5) (.int 1)))) (.need (.f2 46 (.f2 41 (.at .int 2) (.f2 40 (.at .int 5) 
    (.int 1))) (.f2 41 (.at .int 2) (.at .int 5))) (.need (.f2 47 (.int 0) (.f2 40 (.at .int 5) (.int 1))) (.need (.f2 47 (.f2 40 (.at .int 5) (.int 1)) 
    (.at .int 2)) (.need (.f2 47 (.at .int 7) (.f2 40 (.at .int 5) (.int 1))) (.need (.f2 153 (.at .ints 9) (.us .ints 10 (.at .rows 1) (.f2 40 (.at .int 
    5) (.int 1)) (.int 0) (.int 0))) (.tt)))))))))))))))) (.imp (.f2 47 (.at .int 2) (.at .int 5)) (.need (.f2 47 (.at .int 7) (.at .int 2)) (.need (.f2 
    153 (.at .ints 9) (.us .ints 10 (.at .rows 1) (.at .int 2) (.int 0) (.int 0))) (.tt)))))))))))))))))))
theorem pickF_vc : vcOf Try.prog pickFCx 10 62 pickFCtr = pickFVc := by kernel_rfl

theorem pickF_ok {G : Type} (S : Sig G) (hS : PickSig S) : CtrOk S Try.prog 62 pickFCtr := by
  refine vcOf_sound S (C := pickFCx) (fuel := 10) ⟨fun f sps h => by simp [pickFCx, assoc] at h, fun f l h i sp args hm => ?_, fun f sps h => by simp [pickFCx, assoc] at h⟩ fun ρ => ?_
  · simp only [pickFCx, assoc] at h
    cases hb : Nat.beq 62 f
    · rw [hb] at h; cases h
    · rw [hb] at h; cases h
      simp at hm
      obtain ⟨rfl, rfl, rfl⟩ := hm
      exact ⟨by decide, emptI_gh S⟩
  · rw [pickF_vc]
    obtain ⟨hu, _⟩ := hS
    simp only [pickFVc, VC.den, SX.den, U.co, Env.upd, hu, p23, p46, p47, ap1_2, ap1_30, ap1_32, ap1_152, ap2_40, ap2_41, ap2_42, ap2_45, ap2_48, ap2_50, ap2_113, ap2_119, ap2_122, ap2_153, t47, ap3_112, U.toProp_bool, U.toBool_bool, Bool.not_eq_true', beq_eq_false_iff_ne, ne_eq, beq_iff_eq, i64_min', i64_max', Int.toNat_zero, toNat_one', U.toInt_int, U.toInts_ints, U.toBytes_bytes, U.toRows_rows, if_true, if_false, Nat.reduceEqDiff, reduceIte]
    generalize (ρ 1).toRows = R
    generalize (ρ 2).toInt = m
    intro a1 a2 a3
    refine ⟨(selB_zero _ R).symm, fun x c l b L k0 k1 k2 k3 k4 k5 => ⟨fun hk => ?_, fun hk => ?_⟩⟩
    · repeat' (first | exact trivial | apply And.intro | intro _)
      all_goals first
        | omega
        | (refine selB_yes k0 (by omega) k5 k2 ?_; first | rfl | (simp only [isFree, isWait, isAny, beq_iff_eq, decide_eq_true_eq, beq_eq_false_iff_ne, decide_eq_false_iff_not]; omega))
        | (refine selB_no k0 (by omega) k5 ?_; first | rfl | (simp only [isFree, isWait, isAny, beq_iff_eq, decide_eq_true_eq, beq_eq_false_iff_ne, decide_eq_false_iff_not]; omega))
        | (simp only [List.length_take]; omega)
        | skip
    · have hxm : x = m := by omega
      subst hxm
      exact ⟨by omega, k5, trivial⟩
end
end Go.Proofs.Ytmjonggabppgaaa

/- The pages that wait. -/
set_option linter.unusedSimpArgs false
set_option linter.unusedVariables false
namespace Go.Proofs.Ytmjonggabppgaaa
noncomputable section
open Go.Eng
def pickWCtr : Ctr := ⟨[.int, .rows, .int, .int, .int], [.one (.slice (ai 0) (.int 0) (.int 0) (.int 0) (ai 2) (ai 3) 2), .one (.fn 66), .one (.fn 64)], [.arr enE (ai 0) (rwA 1) (ai 4)],
  [eLe (.int 0) (ai 2), eLe (ai 2) (.f1 32 (rwA 1)), eLe (ai 2) (.int 1048576)], [.int, .int, .int, .ints],
  .one (.slice (ai 5) (.int 0) (.int 0) (.int 0) (ai 6) (ai 7) 1), [.arr enE (ai 0) (rwA 1) (ai 4), .arr (.ints .i64) (ai 5) (xsA 8) (ai 7)],
  [eEq (.f1 30 (xsA 8)) (ai 6), eLe (.int 0) (ai 6), eLe (ai 6) (ai 2), .f2 153 (xsA 8) (selX 11 (rwA 1) (ai 2))]⟩
def pickWInv : Inv := ⟨[.int, .int, .int, .int, .ints], [(12, .one (.int .i64 (di 0))), (7, .one (.slice (di 1) (.int 0) (.int 0) (.int 0) (di 2) (di 3) 1))], [.arr (.ints .i64) (di 1) (xsA 1000004) (di 3)],
  [eLe (.int 0) (di 0), eLe (di 0) (ai 2), eEq (.f1 30 (xsA 1000004)) (di 2), eLe (.int 0) (di 2), eLe (di 2) (di 0), .f2 153 (xsA 1000004) (selX 11 (rwA 1) (di 0))], .f2 41 (ai 2) (di 0)⟩
def pickWCx : Cx := { specs := [], anns := [(62, [(3, .inv pickWInv), (2, .ghost emptI [])])] }
def pickWVc : VC := .imp (.f2 47 (.int 0) (.at .int 2)) (.imp (.f2 47 (.at .int 2) (.f1 32 (.at .rows 1))) (.imp (.f2 47 (.at .int 2) (.int 1048576)) (.need (.f2 153 (.f1 
    152 (.int 0)) (.us .ints 11 (.at .rows 1) (.int 0) (.int 0) (.int 0))) (.all 5 .int (.all 6 .int (.all 7 .int (.all 8 .int (.all 9 .ints (.imp (.f2 47 
    (.int 0) (.at .int 5)) (.imp (.f2 47 (.at .int 5) (.at .int 2)) (.imp (.f2 45 (.f1 30 (.at .ints 9)) (.at .int 7)) (.imp (.f2 47 (.int 0) (.at .int 
    7)) (.imp (.f2 47 (.at .int 7) (.at .int 5)) (.imp (.f2 153 (.at .ints 9) (.us .ints 11 (.at .rows 1) (.at .int 5) (.int 0) (.int 0))) (.and (.imp 
    (.f2 46 (.at .int 5) (.at .int 2)) (.need (.f2 46 (.at .int 5) (.f1 32 (.at .rows 1))) (.all 10 .int (.imp (.f2 47 (.int 0) (.at .int 10)) (.all 11 
    .int (.imp (.f2 47 (.int 0) (.at .int 11)) (.and (.imp (.f2 46 (.int 0) (.f3 112 (.at .rows 1) (.at .int 5) (.int 1))) (.all 12 .int (.imp (.f2 47 
    (.int 0) (.at .int 12)) (.all 13 .int (.imp (.f2 47 (.int 0) (.at .int 13)) (.need (.f2 47 (.at .int 7) (.f1 30 (.at .ints 9))) (.need (.f2 47 (.f2 42 
    (.f2 40 (.at .int 7) (.int 1)) (.int 8)) (.int 140737488355328)) (.all 14 .int (.all 15 .int (.imp (.f2 47 (.f2 40 (.at .int 7) (.int 1)) (.at .int 
    15)) (.imp (.f2 50 (.f2 47 (.int 0) (.at .int 14)) (.f2 45 (.f2 40 (.at .int 7) (.int 1)) (.int 0))) (.need (.f1 23 (.f2 40 (.at .int 5) (.int 1))) 
    (.need (.f2 47 (.int 0) (.f2 41 (.at .int 2) (.f2 40 (.at .int 5) (.int 1)))) (.need (.f2 46 (.f2 41 (.at .int 2) (.f2 40 (.at .int 5) (.int 1))) (.f2 
    41 (.at .int 2) (.at .int 5))) (.need (.f2 47 (.int 0) (.f2 40 (.at .int 5) (.int 1))) (.need (.f2 47 (.f2 40 (.at .int 5) (.int 1)) (.at .int 2)) 
    (.need (.f2 45 (.f2 40 (.f1 30 (.f2 113 (.at .ints 9) (.at .int 7))) (.int 1)) (.f2 40 (.at .int 7) (.int 1))) (.need (.f2 47 (.int 0) (.f2 40 (.at 
    .int 7) (.int 1))) (.need (.f2 47 (.f2 40 (.at .int 7) (.int 1)) (.f2 40 (.at .int 5) (.int 1))) (.need (.f2 153 (.f2 119 (.f2 113 (.at .ints 9) (.at 
    .int 7)) (.f2 122 (.f3 112 (.at .rows 1) (.at .int 5) (.int 0)) (.f1 152 (.int 0)))) (.us .ints 11 (.at .rows 1) (.f2 40 (.at .int 5) (.int 1)) (.int 
    0) (.int 0))) (.tt))))))))))))))))))))) (.imp (.f2 47 (.f3 112 (.at .rows 1) (.at .int 5) (.int 1)) (.int 0)) (.need (.f1 23 (.f2 40 (.at .int 5) 
    (.int 1))) (.need (.f2 47 (.int 0) (.f2 41 (.at .int 2) (.f2 40 (.at .int 5) (.int 1)))) (.need (.f2 46 (.f2 41 (.at .int 2) (.f2 40 (.at .int 5) 
    (.int 1))) (.f2 41 (.at .int 2) (.at .int 5))) (.need (.f2 47 (.int 0) (.f2 40 (.at .int 5) (.int 1))) (.need (.f2 47 (.f2 40 (.at .int 5) (.int 1)) 
    (.at .int 2)) (.need (.f2 47 (.at .int 7) (.f2 40 (.at .int 5) (.int 1))) (.need (.f2 153 (.at .ints 9) (.us .ints 11 (.at .rows 1) (.f2 40 (.at .int 
    5) (.int 1)) (.int 0) (.int 0))) (.tt)))))))))))))))) (.imp (.f2 47 (.at .int 2) (.at .int 5)) (.need (.f2 47 (.at .int 7) (.at .int 2)) (.need (.f2 
    153 (.at .ints 9) (.us .ints 11 (.at .rows 1) (.at .int 2) (.int 0) (.int 0))) (.tt)))))))))))))))))))
theorem pickW_vc : vcOf Try.prog pickWCx 10 62 pickWCtr = pickWVc := by kernel_rfl

theorem pickW_ok {G : Type} (S : Sig G) (hS : PickSig S) : CtrOk S Try.prog 62 pickWCtr := by
  refine vcOf_sound S (C := pickWCx) (fuel := 10) ⟨fun f sps h => by simp [pickWCx, assoc] at h, fun f l h i sp args hm => ?_, fun f sps h => by simp [pickWCx, assoc] at h⟩ fun ρ => ?_
  · simp only [pickWCx, assoc] at h
    cases hb : Nat.beq 62 f
    · rw [hb] at h; cases h
    · rw [hb] at h; cases h
      simp at hm
      obtain ⟨rfl, rfl, rfl⟩ := hm
      exact ⟨by decide, emptI_gh S⟩
  · rw [pickW_vc]
    obtain ⟨_, hu, _⟩ := hS
    simp only [pickWVc, VC.den, SX.den, U.co, Env.upd, hu, p23, p46, p47, ap1_2, ap1_30, ap1_32, ap1_152, ap2_40, ap2_41, ap2_42, ap2_45, ap2_48, ap2_50, ap2_113, ap2_119, ap2_122, ap2_153, t47, ap3_112, U.toProp_bool, U.toBool_bool, Bool.not_eq_true', beq_eq_false_iff_ne, ne_eq, beq_iff_eq, i64_min', i64_max', Int.toNat_zero, toNat_one', U.toInt_int, U.toInts_ints, U.toBytes_bytes, U.toRows_rows, if_true, if_false, Nat.reduceEqDiff, reduceIte]
    generalize (ρ 1).toRows = R
    generalize (ρ 2).toInt = m
    intro a1 a2 a3
    refine ⟨(selB_zero _ R).symm, fun x c l b L k0 k1 k2 k3 k4 k5 => ⟨fun hk => ?_, fun hk => ?_⟩⟩
    · repeat' (first | exact trivial | apply And.intro | intro _)
      all_goals first
        | omega
        | (refine selB_yes k0 (by omega) k5 k2 ?_; first | rfl | (simp only [isFree, isWait, isAny, beq_iff_eq, decide_eq_true_eq, beq_eq_false_iff_ne, decide_eq_false_iff_not]; omega))
        | (refine selB_no k0 (by omega) k5 ?_; first | rfl | (simp only [isFree, isWait, isAny, beq_iff_eq, decide_eq_true_eq, beq_eq_false_iff_ne, decide_eq_false_iff_not]; omega))
        | (simp only [List.length_take]; omega)
        | skip
    · have hxm : x = m := by omega
      subst hxm
      exact ⟨by omega, k5, trivial⟩
end
end Go.Proofs.Ytmjonggabppgaaa

/- All pages. -/
set_option linter.unusedSimpArgs false
set_option linter.unusedVariables false
namespace Go.Proofs.Ytmjonggabppgaaa
noncomputable section
open Go.Eng
def pickACtr : Ctr := ⟨[.int, .rows, .int, .int, .int], [.one (.slice (ai 0) (.int 0) (.int 0) (.int 0) (ai 2) (ai 3) 2), .one (.fn 82), .one (.fn 64)], [.arr enE (ai 0) (rwA 1) (ai 4)],
  [eLe (.int 0) (ai 2), eLe (ai 2) (.f1 32 (rwA 1)), eLe (ai 2) (.int 1048576)], [.int, .int, .int, .ints],
  .one (.slice (ai 5) (.int 0) (.int 0) (.int 0) (ai 6) (ai 7) 1), [.arr enE (ai 0) (rwA 1) (ai 4), .arr (.ints .i64) (ai 5) (xsA 8) (ai 7)],
  [eEq (.f1 30 (xsA 8)) (ai 6), eLe (.int 0) (ai 6), eLe (ai 6) (ai 2), .f2 153 (xsA 8) (selX 12 (rwA 1) (ai 2))]⟩
def pickAInv : Inv := ⟨[.int, .int, .int, .int, .ints], [(12, .one (.int .i64 (di 0))), (7, .one (.slice (di 1) (.int 0) (.int 0) (.int 0) (di 2) (di 3) 1))], [.arr (.ints .i64) (di 1) (xsA 1000004) (di 3)],
  [eLe (.int 0) (di 0), eLe (di 0) (ai 2), eEq (.f1 30 (xsA 1000004)) (di 2), eLe (.int 0) (di 2), eLe (di 2) (di 0), .f2 153 (xsA 1000004) (selX 12 (rwA 1) (di 0))], .f2 41 (ai 2) (di 0)⟩
def pickACx : Cx := { specs := [], anns := [(62, [(3, .inv pickAInv), (2, .ghost emptI [])])] }
def pickAVc : VC := .imp (.f2 47 (.int 0) (.at .int 2)) (.imp (.f2 47 (.at .int 2) (.f1 32 (.at .rows 1))) (.imp (.f2 47 (.at .int 2) (.int 1048576)) (.need (.f2 153 (.f1 
    152 (.int 0)) (.us .ints 12 (.at .rows 1) (.int 0) (.int 0) (.int 0))) (.all 5 .int (.all 6 .int (.all 7 .int (.all 8 .int (.all 9 .ints (.imp (.f2 47 
    (.int 0) (.at .int 5)) (.imp (.f2 47 (.at .int 5) (.at .int 2)) (.imp (.f2 45 (.f1 30 (.at .ints 9)) (.at .int 7)) (.imp (.f2 47 (.int 0) (.at .int 
    7)) (.imp (.f2 47 (.at .int 7) (.at .int 5)) (.imp (.f2 153 (.at .ints 9) (.us .ints 12 (.at .rows 1) (.at .int 5) (.int 0) (.int 0))) (.and (.imp 
    (.f2 46 (.at .int 5) (.at .int 2)) (.need (.f2 46 (.at .int 5) (.f1 32 (.at .rows 1))) (.all 10 .int (.imp (.f2 47 (.int 0) (.at .int 10)) (.all 11 
    .int (.imp (.f2 47 (.int 0) (.at .int 11)) (.all 12 .int (.imp (.f2 47 (.int 0) (.at .int 12)) (.all 13 .int (.imp (.f2 47 (.int 0) (.at .int 13)) 
    (.need (.f2 47 (.at .int 7) (.f1 30 (.at .ints 9))) (.need (.f2 47 (.f2 42 (.f2 40 (.at .int 7) (.int 1)) (.int 8)) (.int 140737488355328)) (.all 14 
    .int (.all 15 .int (.imp (.f2 47 (.f2 40 (.at .int 7) (.int 1)) (.at .int 15)) (.imp (.f2 50 (.f2 47 (.int 0) (.at .int 14)) (.f2 45 (.f2 40 (.at .int 
    7) (.int 1)) (.int 0))) (.need (.f1 23 (.f2 40 (.at .int 5) (.int 1))) (.need (.f2 47 (.int 0) (.f2 41 (.at .int 2) (.f2 40 (.at .int 5) (.int 1)))) 
    (.need (.f2 46 (.f2 41 (.at .int 2) (.f2 40 (.at .int 5) (.int 1))) (.f2 41 (.at .int 2) (.at .int 5))) (.need (.f2 47 (.int 0) (.f2 40 (.at .int 5) 
    (.int 1))) (.need (.f2 47 (.f2 40 (.at .int 5) (.int 1)) (.at .int 2)) (.need (.f2 45 (.f2 40 (.f1 30 (.f2 113 (.at .ints 9) (.at .int 7))) (.int 1)) 
    (.f2 40 (.at .int 7) (.int 1))) (.need (.f2 47 (.int 0) (.f2 40 (.at .int 7) (.int 1))) (.need (.f2 47 (.f2 40 (.at .int 7) (.int 1)) (.f2 40 (.at 
    .int 5) (.int 1))) (.need (.f2 153 (.f2 119 (.f2 113 (.at .ints 9) (.at .int 7)) (.f2 122 (.f3 112 (.at .rows 1) (.at .int 5) (.int 0)) (.f1 152 (.int 
    0)))) (.us .ints 12 (.at .rows 1) (.f2 40 (.at .int 5) (.int 1)) (.int 0) (.int 0))) (.tt)))))))))))))))))))))))))) (.imp (.f2 47 (.at .int 2) (.at 
    .int 5)) (.need (.f2 47 (.at .int 7) (.at .int 2)) (.need (.f2 153 (.at .ints 9) (.us .ints 12 (.at .rows 1) (.at .int 2) (.int 0) (.int 0))) 
    (.tt)))))))))))))))))))
theorem pickA_vc : vcOf Try.prog pickACx 10 62 pickACtr = pickAVc := by kernel_rfl

theorem pickA_ok {G : Type} (S : Sig G) (hS : PickSig S) : CtrOk S Try.prog 62 pickACtr := by
  refine vcOf_sound S (C := pickACx) (fuel := 10) ⟨fun f sps h => by simp [pickACx, assoc] at h, fun f l h i sp args hm => ?_, fun f sps h => by simp [pickACx, assoc] at h⟩ fun ρ => ?_
  · simp only [pickACx, assoc] at h
    cases hb : Nat.beq 62 f
    · rw [hb] at h; cases h
    · rw [hb] at h; cases h
      simp at hm
      obtain ⟨rfl, rfl, rfl⟩ := hm
      exact ⟨by decide, emptI_gh S⟩
  · rw [pickA_vc]
    obtain ⟨_, _, hu, _⟩ := hS
    simp only [pickAVc, VC.den, SX.den, U.co, Env.upd, hu, p23, p46, p47, ap1_2, ap1_30, ap1_32, ap1_152, ap2_40, ap2_41, ap2_42, ap2_45, ap2_48, ap2_50, ap2_113, ap2_119, ap2_122, ap2_153, t47, ap3_112, U.toProp_bool, U.toBool_bool, Bool.not_eq_true', beq_eq_false_iff_ne, ne_eq, beq_iff_eq, i64_min', i64_max', Int.toNat_zero, toNat_one', U.toInt_int, U.toInts_ints, U.toBytes_bytes, U.toRows_rows, if_true, if_false, Nat.reduceEqDiff, reduceIte]
    generalize (ρ 1).toRows = R
    generalize (ρ 2).toInt = m
    intro a1 a2 a3
    refine ⟨(selB_zero _ R).symm, fun x c l b L k0 k1 k2 k3 k4 k5 => ⟨fun hk => ?_, fun hk => ?_⟩⟩
    · repeat' (first | exact trivial | apply And.intro | intro _)
      all_goals first
        | omega
        | (refine selB_yes k0 (by omega) k5 k2 ?_; first | rfl | (simp only [isFree, isWait, isAny, beq_iff_eq, decide_eq_true_eq, beq_eq_false_iff_ne, decide_eq_false_iff_not]; omega))
        | (refine selB_no k0 (by omega) k5 ?_; first | rfl | (simp only [isFree, isWait, isAny, beq_iff_eq, decide_eq_true_eq, beq_eq_false_iff_ne, decide_eq_false_iff_not]; omega))
        | (simp only [List.length_take]; omega)
        | skip
    · have hxm : x = m := by omega
      subst hxm
      exact ⟨by omega, k5, trivial⟩
end
end Go.Proofs.Ytmjonggabppgaaa

/- The reference's pages that are free. -/
set_option linter.unusedSimpArgs false
set_option linter.unusedVariables false
namespace Go.Proofs.Ytmjonggabppgaaa
noncomputable section
open Go.Eng
def toldFCtr : Ctr := ⟨[.int, .int, .int, .int, .rows, .int, .int, .int, .int, .int], [.one (.ptr (ai 0) 0), .one (.bool (.bool true)), .one (.bool (.bool false))], [lstC, .arr enE (ai 1) (rwA 4) (ai 5)],
  [eLe (.int 0) (ai 2), eLe (ai 2) (.f1 32 (rwA 4)), eLe (ai 2) (.int 1048576)], [.int, .int, .int, .ints],
  .one (.slice (ai 10) (.int 0) (.int 0) (.int 0) (ai 11) (ai 12) 1), [lstC, .arr enE (ai 1) (rwA 4) (ai 5), .arr (.ints .i64) (ai 10) (xsA 13) (ai 12)],
  [eEq (.f1 30 (xsA 13)) (ai 11), eLe (.int 0) (ai 11), eLe (ai 11) (ai 2), .f2 153 (xsA 13) (selX 10 (rwA 4) (ai 2))]⟩
def toldFInv : Inv := ⟨[.int, .int, .int, .int, .ints], [(8, .one (.int .i64 (di 0))), (7, .one (.slice (di 1) (.int 0) (.int 0) (.int 0) (di 2) (di 3) 1))], [.arr (.ints .i64) (di 1) (xsA 1000004) (di 3)],
  [eLe (.int 0) (di 0), eLe (di 0) (ai 2), eEq (.f1 30 (xsA 1000004)) (di 2), eLe (.int 0) (di 2), eLe (di 2) (di 0), .f2 153 (xsA 1000004) (selX 10 (rwA 4) (di 0))], .f2 41 (ai 2) (di 0)⟩
def toldFCx : Cx := { specs := [], anns := [(65, [(3, .inv toldFInv), (2, .ghost emptI [])])] }
def toldFVc : VC := .imp (.f2 47 (.int 0) (.at .int 2)) (.imp (.f2 47 (.at .int 2) (.f1 32 (.at .rows 4))) (.imp (.f2 47 (.at .int 2) (.int 1048576)) (.need (.f2 153 (.f1 
    152 (.int 0)) (.us .ints 10 (.at .rows 4) (.int 0) (.int 0) (.int 0))) (.all 10 .int (.all 11 .int (.all 12 .int (.all 13 .int (.all 14 .ints (.imp 
    (.f2 47 (.int 0) (.at .int 10)) (.imp (.f2 47 (.at .int 10) (.at .int 2)) (.imp (.f2 45 (.f1 30 (.at .ints 14)) (.at .int 12)) (.imp (.f2 47 (.int 0) 
    (.at .int 12)) (.imp (.f2 47 (.at .int 12) (.at .int 10)) (.imp (.f2 153 (.at .ints 14) (.us .ints 10 (.at .rows 4) (.at .int 10) (.int 0) (.int 0))) 
    (.and (.imp (.f2 46 (.at .int 10) (.at .int 2)) (.need (.f2 46 (.at .int 10) (.f1 32 (.at .rows 4))) (.and (.imp (.f2 45 (.f3 112 (.at .rows 4) (.at 
    .int 10) (.int 1)) (.int 0)) (.all 15 .int (.imp (.f2 47 (.int 0) (.at .int 15)) (.need (.f2 47 (.at .int 12) (.f1 30 (.at .ints 14))) (.need (.f2 47 
    (.f2 42 (.f2 40 (.at .int 12) (.int 1)) (.int 8)) (.int 140737488355328)) (.all 16 .int (.all 17 .int (.imp (.f2 47 (.f2 40 (.at .int 12) (.int 1)) 
    (.at .int 17)) (.imp (.f2 50 (.f2 47 (.int 0) (.at .int 16)) (.f2 45 (.f2 40 (.at .int 12) (.int 1)) (.int 0))) (.need (.f1 23 (.f2 40 (.at .int 10) 
    (.int 1))) (.need (.f2 47 (.int 0) (.f2 41 (.at .int 2) (.f2 40 (.at .int 10) (.int 1)))) (.need (.f2 46 (.f2 41 (.at .int 2) (.f2 40 (.at .int 10) 
    (.int 1))) (.f2 41 (.at .int 2) (.at .int 10))) (.need (.f2 47 (.int 0) (.f2 40 (.at .int 10) (.int 1))) (.need (.f2 47 (.f2 40 (.at .int 10) (.int 
    1)) (.at .int 2)) (.need (.f2 45 (.f2 40 (.f1 30 (.f2 113 (.at .ints 14) (.at .int 12))) (.int 1)) (.f2 40 (.at .int 12) (.int 1))) (.need (.f2 47 
    (.int 0) (.f2 40 (.at .int 12) (.int 1))) (.need (.f2 47 (.f2 40 (.at .int 12) (.int 1)) (.f2 40 (.at .int 10) (.int 1))) (.need (.f2 153 (.f2 119 
    (.f2 113 (.at .ints 14) (.at .int 12)) (.f2 122 (.f3 112 (.at .rows 4) (.at .int 10) (.int 0)) (.f1 152 (.int 0)))) (.us .ints 10 (.at .rows 4) (.f2 
    40 (.at .int 10) (.int 1)) (.int 0) (.int 0))) (.tt))))))))))))))))))) (.imp (.f1 2 (.f2 45 (.f3 112 (.at .rows 4) (.at .int 10) (.int 1)) (.int 0))) 
    (.and (.imp (.f2 46 (.int 0) (.f3 112 (.at .rows 4) (.at .int 10) (.int 1))) (.need (.f1 23 (.f2 40 (.at .int 10) (.int 1))) (.need (.f2 47 (.int 0) 
    (.f2 41 (.at .int 2) (.f2 40 (.at .int 10) (.int 1)))) (.need (.f2 46 (.f2 41 (.at .int 2) (.f2 40 (.at .int 10) (.int 1))) (.f2 41 (.at .int 2) (.at 
    .int 10))) (.need (.f2 47 (.int 0) (.f2 40 (.at .int 10) (.int 1))) (.need (.f2 47 (.f2 40 (.at .int 10) (.int 1)) (.at .int 2)) (.need (.f2 47 (.at 
    .int 12) (.f2 40 (.at .int 10) (.int 1))) (.need (.f2 153 (.at .ints 14) (.us .ints 10 (.at .rows 4) (.f2 40 (.at .int 10) (.int 1)) (.int 0) (.int 
    0))) (.tt))))))))) (.imp (.f2 47 (.f3 112 (.at .rows 4) (.at .int 10) (.int 1)) (.int 0)) (.need (.f1 23 (.f2 40 (.at .int 10) (.int 1))) (.need (.f2 
    47 (.int 0) (.f2 41 (.at .int 2) (.f2 40 (.at .int 10) (.int 1)))) (.need (.f2 46 (.f2 41 (.at .int 2) (.f2 40 (.at .int 10) (.int 1))) (.f2 41 (.at 
    .int 2) (.at .int 10))) (.need (.f2 47 (.int 0) (.f2 40 (.at .int 10) (.int 1))) (.need (.f2 47 (.f2 40 (.at .int 10) (.int 1)) (.at .int 2)) (.need 
    (.f2 47 (.at .int 12) (.f2 40 (.at .int 10) (.int 1))) (.need (.f2 153 (.at .ints 14) (.us .ints 10 (.at .rows 4) (.f2 40 (.at .int 10) (.int 1)) 
    (.int 0) (.int 0))) (.tt)))))))))))))) (.imp (.f2 47 (.at .int 2) (.at .int 10)) (.need (.f2 47 (.at .int 12) (.at .int 2)) (.need (.f2 153 (.at .ints 
    14) (.us .ints 10 (.at .rows 4) (.at .int 2) (.int 0) (.int 0))) (.tt)))))))))))))))))))
theorem toldF_vc : vcOf Try.prog toldFCx 10 65 toldFCtr = toldFVc := by kernel_rfl

theorem toldF_ok {G : Type} (S : Sig G) (hS : PickSig S) : CtrOk S Try.prog 65 toldFCtr := by
  refine vcOf_sound S (C := toldFCx) (fuel := 10) ⟨fun f sps h => by simp [toldFCx, assoc] at h, fun f l h i sp args hm => ?_, fun f sps h => by simp [toldFCx, assoc] at h⟩ fun ρ => ?_
  · simp only [toldFCx, assoc] at h
    cases hb : Nat.beq 65 f
    · rw [hb] at h; cases h
    · rw [hb] at h; cases h
      simp at hm
      obtain ⟨rfl, rfl, rfl⟩ := hm
      exact ⟨by decide, emptI_gh S⟩
  · rw [toldF_vc]
    obtain ⟨hu, _⟩ := hS
    simp only [toldFVc, VC.den, SX.den, U.co, Env.upd, hu, p23, p46, p47, ap1_2, ap1_30, ap1_32, ap1_152, ap2_40, ap2_41, ap2_42, ap2_45, ap2_48, ap2_50, ap2_113, ap2_119, ap2_122, ap2_153, t47, ap3_112, U.toProp_bool, U.toBool_bool, Bool.not_eq_true', beq_eq_false_iff_ne, ne_eq, beq_iff_eq, i64_min', i64_max', Int.toNat_zero, toNat_one', U.toInt_int, U.toInts_ints, U.toBytes_bytes, U.toRows_rows, if_true, if_false, Nat.reduceEqDiff, reduceIte]
    generalize (ρ 4).toRows = R
    generalize (ρ 2).toInt = m
    intro a1 a2 a3
    refine ⟨(selB_zero _ R).symm, fun x c l b L k0 k1 k2 k3 k4 k5 => ⟨fun hk => ?_, fun hk => ?_⟩⟩
    · repeat' (first | exact trivial | apply And.intro | intro _)
      all_goals first
        | omega
        | (refine selB_yes k0 (by omega) k5 k2 ?_; first | rfl | (simp only [isFree, isWait, isAny, beq_iff_eq, decide_eq_true_eq, beq_eq_false_iff_ne, decide_eq_false_iff_not]; omega))
        | (refine selB_no k0 (by omega) k5 ?_; first | rfl | (simp only [isFree, isWait, isAny, beq_iff_eq, decide_eq_true_eq, beq_eq_false_iff_ne, decide_eq_false_iff_not]; omega))
        | (simp only [List.length_take]; omega)
        | skip
    · have hxm : x = m := by omega
      subst hxm
      exact ⟨by omega, k5, trivial⟩
end
end Go.Proofs.Ytmjonggabppgaaa

/- The reference's pages that wait. -/
set_option linter.unusedSimpArgs false
set_option linter.unusedVariables false
namespace Go.Proofs.Ytmjonggabppgaaa
noncomputable section
open Go.Eng
def toldWCtr : Ctr := ⟨[.int, .int, .int, .int, .rows, .int, .int, .int, .int, .int], [.one (.ptr (ai 0) 0), .one (.bool (.bool false)), .one (.bool (.bool true))], [lstC, .arr enE (ai 1) (rwA 4) (ai 5)],
  [eLe (.int 0) (ai 2), eLe (ai 2) (.f1 32 (rwA 4)), eLe (ai 2) (.int 1048576)], [.int, .int, .int, .ints],
  .one (.slice (ai 10) (.int 0) (.int 0) (.int 0) (ai 11) (ai 12) 1), [lstC, .arr enE (ai 1) (rwA 4) (ai 5), .arr (.ints .i64) (ai 10) (xsA 13) (ai 12)],
  [eEq (.f1 30 (xsA 13)) (ai 11), eLe (.int 0) (ai 11), eLe (ai 11) (ai 2), .f2 153 (xsA 13) (selX 11 (rwA 4) (ai 2))]⟩
def toldWInv : Inv := ⟨[.int, .int, .int, .int, .ints], [(8, .one (.int .i64 (di 0))), (7, .one (.slice (di 1) (.int 0) (.int 0) (.int 0) (di 2) (di 3) 1))], [.arr (.ints .i64) (di 1) (xsA 1000004) (di 3)],
  [eLe (.int 0) (di 0), eLe (di 0) (ai 2), eEq (.f1 30 (xsA 1000004)) (di 2), eLe (.int 0) (di 2), eLe (di 2) (di 0), .f2 153 (xsA 1000004) (selX 11 (rwA 4) (di 0))], .f2 41 (ai 2) (di 0)⟩
def toldWCx : Cx := { specs := [], anns := [(65, [(3, .inv toldWInv), (2, .ghost emptI [])])] }
def toldWVc : VC := .imp (.f2 47 (.int 0) (.at .int 2)) (.imp (.f2 47 (.at .int 2) (.f1 32 (.at .rows 4))) (.imp (.f2 47 (.at .int 2) (.int 1048576)) (.need (.f2 153 (.f1 
    152 (.int 0)) (.us .ints 11 (.at .rows 4) (.int 0) (.int 0) (.int 0))) (.all 10 .int (.all 11 .int (.all 12 .int (.all 13 .int (.all 14 .ints (.imp 
    (.f2 47 (.int 0) (.at .int 10)) (.imp (.f2 47 (.at .int 10) (.at .int 2)) (.imp (.f2 45 (.f1 30 (.at .ints 14)) (.at .int 12)) (.imp (.f2 47 (.int 0) 
    (.at .int 12)) (.imp (.f2 47 (.at .int 12) (.at .int 10)) (.imp (.f2 153 (.at .ints 14) (.us .ints 11 (.at .rows 4) (.at .int 10) (.int 0) (.int 0))) 
    (.and (.imp (.f2 46 (.at .int 10) (.at .int 2)) (.need (.f2 46 (.at .int 10) (.f1 32 (.at .rows 4))) (.and (.imp (.f2 45 (.f3 112 (.at .rows 4) (.at 
    .int 10) (.int 1)) (.int 0)) (.and (.imp (.f2 46 (.int 0) (.f3 112 (.at .rows 4) (.at .int 10) (.int 1))) (.all 15 .int (.imp (.f2 47 (.int 0) (.at 
    .int 15)) (.need (.f2 47 (.at .int 12) (.f1 30 (.at .ints 14))) (.need (.f2 47 (.f2 42 (.f2 40 (.at .int 12) (.int 1)) (.int 8)) (.int 
    140737488355328)) (.all 16 .int (.all 17 .int (.imp (.f2 47 (.f2 40 (.at .int 12) (.int 1)) (.at .int 17)) (.imp (.f2 50 (.f2 47 (.int 0) (.at .int 
    16)) (.f2 45 (.f2 40 (.at .int 12) (.int 1)) (.int 0))) (.need (.f1 23 (.f2 40 (.at .int 10) (.int 1))) (.need (.f2 47 (.int 0) (.f2 41 (.at .int 2) 
    (.f2 40 (.at .int 10) (.int 1)))) (.need (.f2 46 (.f2 41 (.at .int 2) (.f2 40 (.at .int 10) (.int 1))) (.f2 41 (.at .int 2) (.at .int 10))) (.need 
    (.f2 47 (.int 0) (.f2 40 (.at .int 10) (.int 1))) (.need (.f2 47 (.f2 40 (.at .int 10) (.int 1)) (.at .int 2)) (.need (.f2 45 (.f2 40 (.f1 30 (.f2 113 
    (.at .ints 14) (.at .int 12))) (.int 1)) (.f2 40 (.at .int 12) (.int 1))) (.need (.f2 47 (.int 0) (.f2 40 (.at .int 12) (.int 1))) (.need (.f2 47 (.f2 
    40 (.at .int 12) (.int 1)) (.f2 40 (.at .int 10) (.int 1))) (.need (.f2 153 (.f2 119 (.f2 113 (.at .ints 14) (.at .int 12)) (.f2 122 (.f3 112 (.at 
    .rows 4) (.at .int 10) (.int 0)) (.f1 152 (.int 0)))) (.us .ints 11 (.at .rows 4) (.f2 40 (.at .int 10) (.int 1)) (.int 0) (.int 0))) 
    (.tt))))))))))))))))))) (.imp (.f2 47 (.f3 112 (.at .rows 4) (.at .int 10) (.int 1)) (.int 0)) (.need (.f1 23 (.f2 40 (.at .int 10) (.int 1))) (.need 
    (.f2 47 (.int 0) (.f2 41 (.at .int 2) (.f2 40 (.at .int 10) (.int 1)))) (.need (.f2 46 (.f2 41 (.at .int 2) (.f2 40 (.at .int 10) (.int 1))) (.f2 41 
    (.at .int 2) (.at .int 10))) (.need (.f2 47 (.int 0) (.f2 40 (.at .int 10) (.int 1))) (.need (.f2 47 (.f2 40 (.at .int 10) (.int 1)) (.at .int 2)) 
    (.need (.f2 47 (.at .int 12) (.f2 40 (.at .int 10) (.int 1))) (.need (.f2 153 (.at .ints 14) (.us .ints 11 (.at .rows 4) (.f2 40 (.at .int 10) (.int 
    1)) (.int 0) (.int 0))) (.tt))))))))))) (.imp (.f1 2 (.f2 45 (.f3 112 (.at .rows 4) (.at .int 10) (.int 1)) (.int 0))) (.and (.imp (.f2 46 (.int 0) 
    (.f3 112 (.at .rows 4) (.at .int 10) (.int 1))) (.all 15 .int (.imp (.f2 47 (.int 0) (.at .int 15)) (.need (.f2 47 (.at .int 12) (.f1 30 (.at .ints 
    14))) (.need (.f2 47 (.f2 42 (.f2 40 (.at .int 12) (.int 1)) (.int 8)) (.int 140737488355328)) (.all 16 .int (.all 17 .int (.imp (.f2 47 (.f2 40 (.at 
    .int 12) (.int 1)) (.at .int 17)) (.imp (.f2 50 (.f2 47 (.int 0) (.at .int 16)) (.f2 45 (.f2 40 (.at .int 12) (.int 1)) (.int 0))) (.need (.f1 23 (.f2 
    40 (.at .int 10) (.int 1))) (.need (.f2 47 (.int 0) (.f2 41 (.at .int 2) (.f2 40 (.at .int 10) (.int 1)))) (.need (.f2 46 (.f2 41 (.at .int 2) (.f2 40 
    (.at .int 10) (.int 1))) (.f2 41 (.at .int 2) (.at .int 10))) (.need (.f2 47 (.int 0) (.f2 40 (.at .int 10) (.int 1))) (.need (.f2 47 (.f2 40 (.at 
    .int 10) (.int 1)) (.at .int 2)) (.need (.f2 45 (.f2 40 (.f1 30 (.f2 113 (.at .ints 14) (.at .int 12))) (.int 1)) (.f2 40 (.at .int 12) (.int 1))) 
    (.need (.f2 47 (.int 0) (.f2 40 (.at .int 12) (.int 1))) (.need (.f2 47 (.f2 40 (.at .int 12) (.int 1)) (.f2 40 (.at .int 10) (.int 1))) (.need (.f2 
    153 (.f2 119 (.f2 113 (.at .ints 14) (.at .int 12)) (.f2 122 (.f3 112 (.at .rows 4) (.at .int 10) (.int 0)) (.f1 152 (.int 0)))) (.us .ints 11 (.at 
    .rows 4) (.f2 40 (.at .int 10) (.int 1)) (.int 0) (.int 0))) (.tt))))))))))))))))))) (.imp (.f2 47 (.f3 112 (.at .rows 4) (.at .int 10) (.int 1)) 
    (.int 0)) (.need (.f1 23 (.f2 40 (.at .int 10) (.int 1))) (.need (.f2 47 (.int 0) (.f2 41 (.at .int 2) (.f2 40 (.at .int 10) (.int 1)))) (.need (.f2 
    46 (.f2 41 (.at .int 2) (.f2 40 (.at .int 10) (.int 1))) (.f2 41 (.at .int 2) (.at .int 10))) (.need (.f2 47 (.int 0) (.f2 40 (.at .int 10) (.int 1))) 
    (.need (.f2 47 (.f2 40 (.at .int 10) (.int 1)) (.at .int 2)) (.need (.f2 47 (.at .int 12) (.f2 40 (.at .int 10) (.int 1))) (.need (.f2 153 (.at .ints 
    14) (.us .ints 11 (.at .rows 4) (.f2 40 (.at .int 10) (.int 1)) (.int 0) (.int 0))) (.tt)))))))))))))) (.imp (.f2 47 (.at .int 2) (.at .int 10)) 
    (.need (.f2 47 (.at .int 12) (.at .int 2)) (.need (.f2 153 (.at .ints 14) (.us .ints 11 (.at .rows 4) (.at .int 2) (.int 0) (.int 0))) 
    (.tt)))))))))))))))))))
theorem toldW_vc : vcOf Try.prog toldWCx 10 65 toldWCtr = toldWVc := by kernel_rfl

theorem toldW_ok {G : Type} (S : Sig G) (hS : PickSig S) : CtrOk S Try.prog 65 toldWCtr := by
  refine vcOf_sound S (C := toldWCx) (fuel := 10) ⟨fun f sps h => by simp [toldWCx, assoc] at h, fun f l h i sp args hm => ?_, fun f sps h => by simp [toldWCx, assoc] at h⟩ fun ρ => ?_
  · simp only [toldWCx, assoc] at h
    cases hb : Nat.beq 65 f
    · rw [hb] at h; cases h
    · rw [hb] at h; cases h
      simp at hm
      obtain ⟨rfl, rfl, rfl⟩ := hm
      exact ⟨by decide, emptI_gh S⟩
  · rw [toldW_vc]
    obtain ⟨_, hu, _⟩ := hS
    simp only [toldWVc, VC.den, SX.den, U.co, Env.upd, hu, p23, p46, p47, ap1_2, ap1_30, ap1_32, ap1_152, ap2_40, ap2_41, ap2_42, ap2_45, ap2_48, ap2_50, ap2_113, ap2_119, ap2_122, ap2_153, t47, ap3_112, U.toProp_bool, U.toBool_bool, Bool.not_eq_true', beq_eq_false_iff_ne, ne_eq, beq_iff_eq, i64_min', i64_max', Int.toNat_zero, toNat_one', U.toInt_int, U.toInts_ints, U.toBytes_bytes, U.toRows_rows, if_true, if_false, Nat.reduceEqDiff, reduceIte]
    generalize (ρ 4).toRows = R
    generalize (ρ 2).toInt = m
    intro a1 a2 a3
    refine ⟨(selB_zero _ R).symm, fun x c l b L k0 k1 k2 k3 k4 k5 => ⟨fun hk => ?_, fun hk => ?_⟩⟩
    · repeat' (first | exact trivial | apply And.intro | intro _)
      all_goals first
        | omega
        | (refine selB_yes k0 (by omega) k5 k2 ?_; first | rfl | (simp only [isFree, isWait, isAny, beq_iff_eq, decide_eq_true_eq, beq_eq_false_iff_ne, decide_eq_false_iff_not]; omega))
        | (refine selB_no k0 (by omega) k5 ?_; first | rfl | (simp only [isFree, isWait, isAny, beq_iff_eq, decide_eq_true_eq, beq_eq_false_iff_ne, decide_eq_false_iff_not]; omega))
        | (simp only [List.length_take]; omega)
        | skip
    · have hxm : x = m := by omega
      subst hxm
      exact ⟨by omega, k5, trivial⟩
end
end Go.Proofs.Ytmjonggabppgaaa

/- The reference's pages, all. -/
set_option linter.unusedSimpArgs false
set_option linter.unusedVariables false
namespace Go.Proofs.Ytmjonggabppgaaa
noncomputable section
open Go.Eng
def toldACtr : Ctr := ⟨[.int, .int, .int, .int, .rows, .int, .int, .int, .int, .int], [.one (.ptr (ai 0) 0), .one (.bool (.bool true)), .one (.bool (.bool true))], [lstC, .arr enE (ai 1) (rwA 4) (ai 5)],
  [eLe (.int 0) (ai 2), eLe (ai 2) (.f1 32 (rwA 4)), eLe (ai 2) (.int 1048576)], [.int, .int, .int, .ints],
  .one (.slice (ai 10) (.int 0) (.int 0) (.int 0) (ai 11) (ai 12) 1), [lstC, .arr enE (ai 1) (rwA 4) (ai 5), .arr (.ints .i64) (ai 10) (xsA 13) (ai 12)],
  [eEq (.f1 30 (xsA 13)) (ai 11), eLe (.int 0) (ai 11), eLe (ai 11) (ai 2), .f2 153 (xsA 13) (selX 13 (rwA 4) (ai 2))]⟩
def toldAInv : Inv := ⟨[.int, .int, .int, .int, .ints], [(8, .one (.int .i64 (di 0))), (7, .one (.slice (di 1) (.int 0) (.int 0) (.int 0) (di 2) (di 3) 1))], [.arr (.ints .i64) (di 1) (xsA 1000004) (di 3)],
  [eLe (.int 0) (di 0), eLe (di 0) (ai 2), eEq (.f1 30 (xsA 1000004)) (di 2), eLe (.int 0) (di 2), eLe (di 2) (di 0), .f2 153 (xsA 1000004) (selX 13 (rwA 4) (di 0))], .f2 41 (ai 2) (di 0)⟩
def toldACx : Cx := { specs := [], anns := [(65, [(3, .inv toldAInv), (2, .ghost emptI [])])] }
def toldAVc : VC := .imp (.f2 47 (.int 0) (.at .int 2)) (.imp (.f2 47 (.at .int 2) (.f1 32 (.at .rows 4))) (.imp (.f2 47 (.at .int 2) (.int 1048576)) (.need (.f2 153 (.f1 
    152 (.int 0)) (.us .ints 13 (.at .rows 4) (.int 0) (.int 0) (.int 0))) (.all 10 .int (.all 11 .int (.all 12 .int (.all 13 .int (.all 14 .ints (.imp 
    (.f2 47 (.int 0) (.at .int 10)) (.imp (.f2 47 (.at .int 10) (.at .int 2)) (.imp (.f2 45 (.f1 30 (.at .ints 14)) (.at .int 12)) (.imp (.f2 47 (.int 0) 
    (.at .int 12)) (.imp (.f2 47 (.at .int 12) (.at .int 10)) (.imp (.f2 153 (.at .ints 14) (.us .ints 13 (.at .rows 4) (.at .int 10) (.int 0) (.int 0))) 
    (.and (.imp (.f2 46 (.at .int 10) (.at .int 2)) (.need (.f2 46 (.at .int 10) (.f1 32 (.at .rows 4))) (.and (.imp (.f2 45 (.f3 112 (.at .rows 4) (.at 
    .int 10) (.int 1)) (.int 0)) (.all 15 .int (.imp (.f2 47 (.int 0) (.at .int 15)) (.need (.f2 47 (.at .int 12) (.f1 30 (.at .ints 14))) (.need (.f2 47 
    (.f2 42 (.f2 40 (.at .int 12) (.int 1)) (.int 8)) (.int 140737488355328)) (.all 16 .int (.all 17 .int (.imp (.f2 47 (.f2 40 (.at .int 12) (.int 1)) 
    (.at .int 17)) (.imp (.f2 50 (.f2 47 (.int 0) (.at .int 16)) (.f2 45 (.f2 40 (.at .int 12) (.int 1)) (.int 0))) (.need (.f1 23 (.f2 40 (.at .int 10) 
    (.int 1))) (.need (.f2 47 (.int 0) (.f2 41 (.at .int 2) (.f2 40 (.at .int 10) (.int 1)))) (.need (.f2 46 (.f2 41 (.at .int 2) (.f2 40 (.at .int 10) 
    (.int 1))) (.f2 41 (.at .int 2) (.at .int 10))) (.need (.f2 47 (.int 0) (.f2 40 (.at .int 10) (.int 1))) (.need (.f2 47 (.f2 40 (.at .int 10) (.int 
    1)) (.at .int 2)) (.need (.f2 45 (.f2 40 (.f1 30 (.f2 113 (.at .ints 14) (.at .int 12))) (.int 1)) (.f2 40 (.at .int 12) (.int 1))) (.need (.f2 47 
    (.int 0) (.f2 40 (.at .int 12) (.int 1))) (.need (.f2 47 (.f2 40 (.at .int 12) (.int 1)) (.f2 40 (.at .int 10) (.int 1))) (.need (.f2 153 (.f2 119 
    (.f2 113 (.at .ints 14) (.at .int 12)) (.f2 122 (.f3 112 (.at .rows 4) (.at .int 10) (.int 0)) (.f1 152 (.int 0)))) (.us .ints 13 (.at .rows 4) (.f2 
    40 (.at .int 10) (.int 1)) (.int 0) (.int 0))) (.tt))))))))))))))))))) (.imp (.f1 2 (.f2 45 (.f3 112 (.at .rows 4) (.at .int 10) (.int 1)) (.int 0))) 
    (.and (.imp (.f2 46 (.int 0) (.f3 112 (.at .rows 4) (.at .int 10) (.int 1))) (.all 15 .int (.imp (.f2 47 (.int 0) (.at .int 15)) (.need (.f2 47 (.at 
    .int 12) (.f1 30 (.at .ints 14))) (.need (.f2 47 (.f2 42 (.f2 40 (.at .int 12) (.int 1)) (.int 8)) (.int 140737488355328)) (.all 16 .int (.all 17 .int 
    (.imp (.f2 47 (.f2 40 (.at .int 12) (.int 1)) (.at .int 17)) (.imp (.f2 50 (.f2 47 (.int 0) (.at .int 16)) (.f2 45 (.f2 40 (.at .int 12) (.int 1)) 
    (.int 0))) (.need (.f1 23 (.f2 40 (.at .int 10) (.int 1))) (.need (.f2 47 (.int 0) (.f2 41 (.at .int 2) (.f2 40 (.at .int 10) (.int 1)))) (.need (.f2 
    46 (.f2 41 (.at .int 2) (.f2 40 (.at .int 10) (.int 1))) (.f2 41 (.at .int 2) (.at .int 10))) (.need (.f2 47 (.int 0) (.f2 40 (.at .int 10) (.int 1))) 
    (.need (.f2 47 (.f2 40 (.at .int 10) (.int 1)) (.at .int 2)) (.need (.f2 45 (.f2 40 (.f1 30 (.f2 113 (.at .ints 14) (.at .int 12))) (.int 1)) (.f2 40 
    (.at .int 12) (.int 1))) (.need (.f2 47 (.int 0) (.f2 40 (.at .int 12) (.int 1))) (.need (.f2 47 (.f2 40 (.at .int 12) (.int 1)) (.f2 40 (.at .int 10) 
    (.int 1))) (.need (.f2 153 (.f2 119 (.f2 113 (.at .ints 14) (.at .int 12)) (.f2 122 (.f3 112 (.at .rows 4) (.at .int 10) (.int 0)) (.f1 152 (.int 
    0)))) (.us .ints 13 (.at .rows 4) (.f2 40 (.at .int 10) (.int 1)) (.int 0) (.int 0))) (.tt))))))))))))))))))) (.imp (.f2 47 (.f3 112 (.at .rows 4) 
    (.at .int 10) (.int 1)) (.int 0)) (.need (.f1 23 (.f2 40 (.at .int 10) (.int 1))) (.need (.f2 47 (.int 0) (.f2 41 (.at .int 2) (.f2 40 (.at .int 10) 
    (.int 1)))) (.need (.f2 46 (.f2 41 (.at .int 2) (.f2 40 (.at .int 10) (.int 1))) (.f2 41 (.at .int 2) (.at .int 10))) (.need (.f2 47 (.int 0) (.f2 40 
    (.at .int 10) (.int 1))) (.need (.f2 47 (.f2 40 (.at .int 10) (.int 1)) (.at .int 2)) (.need (.f2 47 (.at .int 12) (.f2 40 (.at .int 10) (.int 1))) 
    (.need (.f2 153 (.at .ints 14) (.us .ints 13 (.at .rows 4) (.f2 40 (.at .int 10) (.int 1)) (.int 0) (.int 0))) (.tt)))))))))))))) (.imp (.f2 47 (.at 
    .int 2) (.at .int 10)) (.need (.f2 47 (.at .int 12) (.at .int 2)) (.need (.f2 153 (.at .ints 14) (.us .ints 13 (.at .rows 4) (.at .int 2) (.int 0) 
    (.int 0))) (.tt)))))))))))))))))))
theorem toldA_vc : vcOf Try.prog toldACx 10 65 toldACtr = toldAVc := by kernel_rfl

theorem toldA_ok {G : Type} (S : Sig G) (hS : PickSig S) : CtrOk S Try.prog 65 toldACtr := by
  refine vcOf_sound S (C := toldACx) (fuel := 10) ⟨fun f sps h => by simp [toldACx, assoc] at h, fun f l h i sp args hm => ?_, fun f sps h => by simp [toldACx, assoc] at h⟩ fun ρ => ?_
  · simp only [toldACx, assoc] at h
    cases hb : Nat.beq 65 f
    · rw [hb] at h; cases h
    · rw [hb] at h; cases h
      simp at hm
      obtain ⟨rfl, rfl, rfl⟩ := hm
      exact ⟨by decide, emptI_gh S⟩
  · rw [toldA_vc]
    obtain ⟨_, _, _, hu⟩ := hS
    simp only [toldAVc, VC.den, SX.den, U.co, Env.upd, hu, p23, p46, p47, ap1_2, ap1_30, ap1_32, ap1_152, ap2_40, ap2_41, ap2_42, ap2_45, ap2_48, ap2_50, ap2_113, ap2_119, ap2_122, ap2_153, t47, ap3_112, U.toProp_bool, U.toBool_bool, Bool.not_eq_true', beq_eq_false_iff_ne, ne_eq, beq_iff_eq, i64_min', i64_max', Int.toNat_zero, toNat_one', U.toInt_int, U.toInts_ints, U.toBytes_bytes, U.toRows_rows, if_true, if_false, Nat.reduceEqDiff, reduceIte]
    generalize (ρ 4).toRows = R
    generalize (ρ 2).toInt = m
    intro a1 a2 a3
    refine ⟨(selB_zero _ R).symm, fun x c l b L k0 k1 k2 k3 k4 k5 => ⟨fun hk => ?_, fun hk => ?_⟩⟩
    · repeat' (first | exact trivial | apply And.intro | intro _)
      all_goals first
        | omega
        | (refine selB_yes k0 (by omega) k5 k2 ?_; first | rfl | (simp only [isFree, isWait, isAny, beq_iff_eq, decide_eq_true_eq, beq_eq_false_iff_ne, decide_eq_false_iff_not]; omega))
        | (refine selB_no k0 (by omega) k5 ?_; first | rfl | (simp only [isFree, isWait, isAny, beq_iff_eq, decide_eq_true_eq, beq_eq_false_iff_ne, decide_eq_false_iff_not]; omega))
        | (simp only [List.length_take]; omega)
        | skip
    · have hxm : x = m := by omega
      subst hxm
      exact ⟨by omega, k5, trivial⟩
end
end Go.Proofs.Ytmjonggabppgaaa

/- slices.SortFunc and cmp.Compare as the library's shelf has them: the tables of numbers, in plain words (written by the shelf's lay-plain). -/
namespace Go.Proofs
open Go.Shelf
def Try.sortEn_ren : Go.Shelf.Ren := ⟨fun | 6 => 54 | 15 => 86 | 14 => 85 | 28 => 98 | 29 => 99 | 20 => 90 | 21 => 91 | 22 => 92 | 23 => 93 | 24 => 94 | 25 => 95 | 26 => 96 | 27 => 97 | 46 => 101 | 47 => 102 | 48 => 103 | 49 => 104 | 50 => 105 | 57 => 107 | n => n, fun | 22 => 80 | 24 => 85 | 25 => 87 | 3 => 3 | 39 => 111 | 0 => 0 | 53 => 71 | 55 => 70 | 4 => 4 | 46 => 123 | 45 => 122 | 50 => 60 | 5 => 5 | 9 => 9 | 66 => 130 | 70 => 134 | 76 => 137 | 77 => 138 | n => n, fun | n => n⟩
theorem Try.sortEn : Go.Proofs.SlLaysF0.n6 Try.prog Try.sortEn_ren := {
  mixed := by kernel_rfl
  f6 := ⟨Try.f54.name, by decide, Try.func54.trans (congrArg some (by kernel_rfl))⟩
  f14 := ⟨Try.f85.name, by decide, Try.func85.trans (congrArg some (by kernel_rfl))⟩
  f15 := Try.func86.trans (congrArg some (by kernel_rfl))
  f20 := ⟨Try.f90.name, by decide, Try.func90.trans (congrArg some (by kernel_rfl))⟩
  f21 := ⟨Try.f91.name, by decide, Try.func91.trans (congrArg some (by kernel_rfl))⟩
  f22 := ⟨Try.f92.name, by decide, Try.func92.trans (congrArg some (by kernel_rfl))⟩
  f23 := ⟨Try.f93.name, by decide, Try.func93.trans (congrArg some (by kernel_rfl))⟩
  f24 := ⟨Try.f94.name, by decide, Try.func94.trans (congrArg some (by kernel_rfl))⟩
  f25 := ⟨Try.f95.name, by decide, Try.func95.trans (congrArg some (by kernel_rfl))⟩
  f26 := ⟨Try.f96.name, by decide, Try.func96.trans (congrArg some (by kernel_rfl))⟩
  f27 := ⟨Try.f97.name, by decide, Try.func97.trans (congrArg some (by kernel_rfl))⟩
  f28 := Try.func98.trans (congrArg some (by kernel_rfl))
  f29 := Try.func99.trans (congrArg some (by kernel_rfl))
  f46 := ⟨Try.f101.name, by decide, Try.func101.trans (congrArg some (by kernel_rfl))⟩
  f47 := Try.func102.trans (congrArg some (by kernel_rfl))
  f48 := Try.func103.trans (congrArg some (by kernel_rfl))
  f49 := ⟨Try.f104.name, by decide, Try.func104.trans (congrArg some (by kernel_rfl))⟩
  f50 := ⟨Try.f105.name, by decide, Try.func105.trans (congrArg some (by kernel_rfl))⟩
  f57 := ⟨Try.f107.name, by decide, Try.func107.trans (congrArg some (by kernel_rfl))⟩
  t0 := Try.underlying0
  a0 := Try.isAgg0
  z0 := Try.sizeOf0
  v0 := Try.zeroValue0
  t3 := Try.underlying3
  a3 := Try.isAgg3
  z3 := Try.sizeOf3
  v3 := Try.zeroValue3
  t4 := Try.underlying4
  a4 := Try.isAgg4
  z4 := Try.sizeOf4
  v4 := Try.zeroValue4
  t5 := Try.underlying5
  a5 := Try.isAgg5
  z5 := Try.sizeOf5
  v5 := Try.zeroValue5
  t9 := Try.underlying9
  a9 := Try.isAgg9
  z9 := Try.sizeOf9
  v9 := Try.zeroValue9
  t22 := Try.underlying80
  a22 := Try.isAgg80
  z22 := Try.sizeOf80
  v22 := Try.zeroValue80
  t25 := Try.underlying87
  a25 := Try.isAgg87
  z25 := Try.sizeOf87
  v25 := Try.zeroValue87
  t39 := Try.underlying111
  a39 := Try.isAgg111
  z39 := Try.sizeOf111
  v39 := Try.zeroValue111
  t45 := Try.underlying122
  a45 := Try.isAgg122
  z45 := Try.sizeOf122
  v45 := Try.zeroValue122
  t46 := Try.underlying123
  a46 := Try.isAgg123
  z46 := Try.sizeOf123
  v46 := Try.zeroValue123
  t50 := Try.underlying60
  a50 := Try.isAgg60
  z50 := Try.sizeOf60
  v50 := Try.zeroValue60
  t53 := Try.underlying71
  a53 := Try.isAgg71
  z53 := Try.sizeOf71
  v53 := Try.zeroValue71
  t55 := Try.underlying70
  a55 := Try.isAgg70
  z55 := Try.sizeOf70
  v55 := Try.zeroValue70
  t66 := Try.underlying130
  a66 := Try.isAgg130
  z66 := Try.sizeOf130
  v66 := Try.zeroValue130
  t70 := Try.underlying134
  a70 := Try.isAgg134
  z70 := Try.sizeOf134
  v70 := Try.zeroValue134
  t76 := Try.underlying137
  a76 := Try.isAgg137
  z76 := Try.sizeOf137
  v76 := Try.zeroValue137
  t77 := Try.underlying138
  a77 := Try.isAgg138
  z77 := Try.sizeOf138
  v77 := Try.zeroValue138 }
def Try.cmpInt_ren : Go.Shelf.Ren := ⟨fun | 5 => 56 | 7 => 87 | n => n, fun | 22 => 3 | 3 => 3 | 4 => 4 | n => n, fun | n => n⟩
theorem Try.cmpInt : Go.Proofs.SlLaysC2.n5 Try.prog Try.cmpInt_ren := {
  mixed := by kernel_rfl
  f5 := ⟨Try.f56.name, by decide, Try.func56.trans (congrArg some (by kernel_rfl))⟩
  f7 := ⟨Try.f87.name, by decide, Try.func87.trans (congrArg some (by kernel_rfl))⟩
  t3 := Try.underlying3
  a3 := Try.isAgg3
  z3 := Try.sizeOf3
  v3 := Try.zeroValue3
  t4 := Try.underlying4
  a4 := Try.isAgg4
  z4 := Try.sizeOf4
  v4 := Try.zeroValue4
  t22 := Try.underlying3
  a22 := Try.isAgg3
  z22 := Try.sizeOf3
  v22 := Try.zeroValue3 }
end Go.Proofs

/- Towards slices.SortFunc's contract: rows of the shelf's and of this claim's proofs. -/
set_option linter.unusedSimpArgs false
set_option linter.unusedVariables false
namespace Go.Proofs.Ytmjonggabppgaaa
noncomputable section
open Go.Eng
open Go.Sort (grow flatK putRow putRowK HoldsK setMany ahead)
def encE (x : Int × Int) : List Value := [.int .i64 x.1, .int .i64 x.2]
def pairOf (r : List Int) : Int × Int := (r.getD 0 0, (r.drop 1).getD 0 0)
theorem rowVals_pair (r : List Int) : rowVals [.int .i64, .int .i64] r = encE (pairOf r) := rfl
theorem flat_get : ∀ (l : List (Int × Int)) (t : Nat), t < l.length * 2 → (l.flatMap encE)[t]? = some ((encE (l.getD (t / 2) default))[t % 2]!)
  | [], t, h => by simp at h
  | x :: l, t, h => by
    rw [List.flatMap_cons]
    match t with
    | 0 => rfl
    | 1 => rfl
    | t + 2 =>
      rw [List.getElem?_append_right (by simp [encE])]
      have : t + 2 - (encE x).length = t := by simp [encE]
      rw [this, flat_get l t (by simp at h ⊢; omega)]
      have e1 : (t + 2) / 2 = t / 2 + 1 := by omega
      have e2 : (t + 2) % 2 = t % 2 := by omega
      rw [e1, e2]; rfl
theorem flatK_list (l : List (Int × Int)) : (flatK encE 2 l.toArray).toList = l.flatMap encE := by
  apply List.ext_getElem?
  intro t
  by_cases h : t < l.length * 2
  · rw [flat_get l t h]
    have := Go.Sort.get_flatK encE 2 l.toArray t (by simpa using h)
    have hs : t < (flatK encE 2 l.toArray).size := by simpa using h
    rw [getElem!_pos _ t hs] at this
    rw [Array.getElem?_toList, Array.getElem?_eq_getElem hs, this]
    congr 2
    simp [Array.getElem!_eq_getD, Array.getD_eq_getD_getElem?, List.getD_eq_getElem?_getD]
  · rw [List.getElem?_eq_none (by simpa using h)]
    have hl : (l.flatMap encE).length = l.length * 2 := by
      rw [List.length_flatMap]; simp [encE, List.map_const', Nat.mul_comm]
    rw [List.getElem?_eq_none (by omega)]
theorem perm_lift {α β : Type} (f : α → β) {m' m : List β} (h : m'.Perm m) : ∀ {l : List α}, l.map f = m → ∃ y : List α, y.Perm l ∧ y.map f = m' := by
  induction h with
  | nil => intro l hl; exact ⟨l, List.Perm.refl _, hl⟩
  | cons x _ ih =>
    intro l hl
    cases l with
    | nil => cases hl
    | cons a l =>
      simp only [List.map_cons, List.cons.injEq] at hl
      obtain ⟨y, hy, e⟩ := ih hl.2
      exact ⟨a :: y, hy.cons _, by simp [hl.1, e]⟩
  | swap x y l' =>
    intro l hl
    match l, hl with
    | a :: b :: l, hl =>
      simp only [List.map_cons, List.cons.injEq] at hl
      exact ⟨b :: a :: l, List.Perm.swap _ _ _, by simp [hl.1, hl.2.1, hl.2.2]⟩
  | trans _ _ ih1 ih2 =>
    intro l hl
    obtain ⟨y, hy, e⟩ := ih2 hl
    obtain ⟨z, hz, e2⟩ := ih1 e
    exact ⟨z, hz.trans hy, e2⟩
theorem Sat.push' {w0 w : World} {H : HProp} (h : Sat w0 H w) (x : Obj) : Sat w0 H { w with heap := w.heap.push x } := by
  obtain ⟨y, hy, hi⟩ := h
  exact ⟨y, hy, hi.push x⟩
theorem Sat.grow {w0 : World} {H : HProp} : ∀ (os : List Obj) {w : World}, Sat w0 H w → Sat w0 H (grow w os.toArray)
  | [], w, h => by rw [show (([] : List Obj).toArray) = #[] from rfl, Go.Sort.grow_empty]; exact h
  | x :: os, w, h => by
    have := Sat.grow os (Sat.push' h x)
    have e : Go.Sort.grow { w with heap := w.heap.push x } os.toArray = Go.Sort.grow w (x :: os).toArray := by
      unfold Go.Sort.grow; simp
    rw [e] at this; exact this
theorem Sat.cells {w0 : World} {b o : Nat} {z : Bool} {H : HProp} : ∀ (new : List Value) (i : Nat) (cs : List Value) (w : World), Sat w0 (star (row b o cs z) H) w → i + new.length ≤ cs.length →
    Sat w0 (star (row b o (cs.take i ++ new ++ cs.drop (i + new.length)) z) H) (w.setCells b (o + i) new)
  | [], i, cs, w, h, _ => by simpa [World.setCells] using h
  | v :: new, i, cs, w, h, hl => by
    simp only [List.length_cons] at hl
    have hs := h.store (i := i) (by omega) v
    have := Sat.cells new (i + 1) (cs.set i v) _ hs (by simp; omega)
    have e : (cs.set i v).take (i + 1) ++ new ++ (cs.set i v).drop (i + 1 + new.length) = cs.take i ++ (v :: new) ++ cs.drop (i + (v :: new).length) := by
      have e1 : (cs.set i v).take (i + 1) = cs.take i ++ [v] := by
        rw [List.take_add_one, List.take_set_of_le (Nat.le_refl i), List.getElem?_set_self (by omega)]
        rfl
      rw [e1, List.drop_set_of_lt (by omega), List.length_cons]
      simp [Nat.add_assoc, Nat.add_comm 1]
    rw [e] at this
    exact this
theorem Sat.put {w0 w : World} {b : Nat} {z : Bool} {H : HProp} {old new : List (Int × Int)} {spare : List Value} (h : Sat w0 (star (row b 0 (old.flatMap encE ++ spare) z) H) w) (hl : new.length = old.length) :
    Sat w0 (star (row b 0 (new.flatMap encE ++ spare) z) H) (putRowK encE 2 w b 0 new.toArray) := by
  have len : ∀ l : List (Int × Int), (l.flatMap encE).length = l.length * 2 := fun l => by rw [List.length_flatMap]; simp [encE, List.map_const', Nat.mul_comm]
  have hh : HoldsK encE 2 w b 0 old.toArray := by
    intro j hj
    rw [Go.Sort.size_flatK] at hj
    have hj' : j < (old.flatMap encE ++ spare).length := by rw [List.length_append, len]; simp at hj; omega
    have := h.load hj'
    rw [List.getElem_append_left (by rw [len]; simpa using hj)] at this
    have e : (flatK encE 2 old.toArray)[j]! = (old.flatMap encE)[j]'(by rw [len]; simpa using hj) := by
      have hs : j < (flatK encE 2 old.toArray).size := by simpa using hj
      rw [getElem!_pos _ j hs, ← Array.getElem_toList]
      congr 1
      exact flatK_list old
    rw [e]
    exact this
  have e1 : putRowK encE 2 w b 0 old.toArray = w := Go.Sort.putRowK_self encE 2 w b 0 _ hh
  have e2 := Go.Sort.setCells_putRow w b 0 (new.flatMap encE) 0 (flatK encE 2 old.toArray) (by simp [len, hl])
  have e3 : setMany (flatK encE 2 old.toArray) 0 (new.flatMap encE) = flatK encE 2 new.toArray := by
    refine Go.Sort.ext_get! (by simp [hl]) fun t ht => ?_
    have ht' : t < old.length * 2 := by simpa using ht
    rw [Go.Sort.get_setMany _ _ _ _ (by simpa using ht'), if_pos (by rw [len]; omega), Nat.sub_zero]
    have hs : t < (flatK encE 2 new.toArray).size := by simp [hl]; exact ht'
    have ht2 : t < (new.flatMap encE).length := by rw [len]; omega
    rw [getElem!_pos _ t ht2, getElem!_pos _ t hs, ← Array.getElem_toList]
    congr 1
    exact (flatK_list new).symm
  rw [show putRow id w b 0 (flatK encE 2 old.toArray) = w from e1, e3] at e2
  have := Sat.cells (new.flatMap encE) 0 _ w h (by rw [List.length_append, len, len]; omega)
  rw [e2, List.take_zero, List.nil_append, Nat.zero_add, show (new.flatMap encE).length = (old.flatMap encE).length by rw [len, len, hl], List.drop_left] at this
  exact this
end
end Go.Proofs.Ytmjonggabppgaaa

/- slices.SortFunc's contract out of what the library's shelf says of it. -/
set_option linter.unusedSimpArgs false
set_option linter.unusedVariables false
namespace Go.Proofs.Ytmjonggabppgaaa
noncomputable section
open Go.Eng
open Go.Sort (grow flatK putRow putRowK HoldsK setMany ahead PermIn SortedIn)
open Go.Proofs (ltOf sortWorldK)
theorem ltPage' (x y : Int × Int) : ltOf (fun x y : Int × Int => Go.Lib.compareInt x.1 y.1) x y = decide (x.1 < y.1) := by
  unfold ltOf Go.Lib.compareInt
  by_cases h1 : x.1 < y.1
  · simp [h1]
  · by_cases h2 : y.1 < x.1 <;> simp [h1, h2]
theorem sort_facts {d : List (Int × Int)} {R : List (List Int)} {d' : Array (Int × Int)} (hd : d = R.map pairOf) (hp : Go.Sort.PermIn 0 d.length d.toArray d')
    (hs : Go.Sort.SortedIn (ltOf fun x y : Int × Int => Go.Lib.compareInt x.1 y.1) 0 d.length d') :
    ∃ y : List (List Int), y.map pairOf = d'.toList ∧ y.length = R.length ∧ SortP R y := by
  obtain ⟨h1, h2, h3⟩ := hp
  have hsz : d'.size = d.length := by simpa using h1
  have h3 : d'.toList.Perm (R.map pairOf) := by
    have e1 : (d'.extract 0 d.length) = d' := by rw [← hsz]; simp
    have e2 : (d.toArray.extract 0 d.length) = d.toArray := by simp
    rw [e1, e2] at h3
    rw [← hd]; simpa using h3
  obtain ⟨y, hy, e⟩ := perm_lift pairOf h3 rfl
  refine ⟨y, e, hy.length_eq, hy, ?_⟩
  rw [List.pairwise_iff_getElem]
  intro i j hi hj hij
  have hl : y.length = d'.size := by have := congrArg List.length e; simpa using this
  have := hs i j (Nat.zero_le _) hij (by omega)
  rw [ltPage', decide_eq_false_iff_not, getElem!_pos _ _ (by omega), getElem!_pos _ _ (by omega)] at this
  have g : ∀ k (hk : k < y.length), pairOf y[k] = d'[k]'(by omega) := by
    intro k hk
    have : (y.map pairOf)[k]? = d'.toList[k]? := by rw [e]
    rw [List.getElem?_map, List.getElem?_eq_getElem hk, Array.getElem?_toList, Array.getElem?_eq_getElem (by omega)] at this
    simpa using this
  rw [← g i hi, ← g j hj] at this
  simp only [pairOf, pageOf] at this ⊢
  omega
def SortSome (P : Program) (f g : FuncId) : Prop := ∀ (blk cap : Nat) (d : Array (Int × Int)) (w : World), HoldsK encE 2 w blk 0 d → blk < w.heap.size → d.size < 4611686018427387904 →
    Calls P f #[.slice (some ⟨blk, 0, none⟩) d.size cap, .func (.func g) #[] #[]] w fun e w' => e = .returned (.tuple #[]) ∧
      ∃ d' n os, PermIn 0 d.size d d' ∧ SortedIn (ltOf fun x y : Int × Int => Go.Lib.compareInt x.1 y.1) 0 d.size d' ∧ w' = sortWorldK encE 2 w blk 0 n d' os
def SortNone (P : Program) (f : FuncId) : Prop := ∀ (p : Option Addr) (cap : Nat) (fv : Value) (w : World), Calls P f #[.slice p 0 cap, fv] w fun e w' => e = .returned (.tuple #[]) ∧ w' = w
theorem vals_pairs (R : List (List Int)) : R.flatMap (rowVals [.int .i64, .int .i64]) = (R.map pairOf).flatMap encE := by rw [List.flatMap_map]; rfl
theorem enc_len (l : List (Int × Int)) : (l.flatMap encE).length = l.length * 2 := by rw [List.length_flatMap]; simp [encE, List.map_const', Nat.mul_comm]
theorem sort_of {G : Type} (S : Sig G) (hS : FreeSig S) {P : Program} {f : FuncId} (hsome : SortSome P f 55) (hnone : SortNone P f) : CtrOk S P f sortCtr := by
  obtain ⟨_, hs1, _, _, _, _⟩ := hS
  intro ch w0 F ρ w xs hx hq hsat
  obtain ⟨v1, v2, rfl, hv1, hv2⟩ : ∃ v1 v2, xs = [v1, v2] ∧ SV.R S ρ (.one (.slice (ai 0) (.int 0) (.int 0) (.int 0) (ai 2) (ai 3) 2)) v1 ∧ SV.R S ρ (.one (.fn 55)) v2 := by
    match xs, hx with
    | [v1, v2], hx => exact ⟨v1, v2, rfl, hx.1, hx.2.1⟩
  have hv1 := R_one S ρ hv1
  have hv2 := R_one S ρ hv2
  have q1 := hq (eLe (.int 0) (ai 2)) (by simp [sortCtr])
  have q2 := hq (eEq (ai 2) (.f1 32 (rwA 1))) (by simp [sortCtr])
  have q3 := hq (eLe (ai 2) (.int 140737488355328)) (by simp [sortCtr])
  rw [eLe_den] at q1 q3
  have q2 : ((SX.at .int 2).den S ρ).toInt = ((SX.f1 32 (rwA 1)).den S ρ).toInt := by rw [eEq_bool] at q2; simpa [U.toProp, ai] using q2
  simp only [sortCtr, hpDen_cons, star_assoc, Ch.den] at hsat
  rw [SX.den_wc, SX.den_wc, SX.den_wc] at hsat
  simp only [SX.den, ai, rwA, ap1_32, U.co, U.toInt_int] at q1 q2 q3 hsat
  subst hv1 hv2
  simp only [SC.den, SX.den, ai, U.co, U.toInt_int, if_true, Int.toNat_zero, Nat.zero_mul, Nat.zero_add, ite_self]
  generalize hb : (ρ 0).toInt = b at *
  generalize hn : (ρ 2).toInt = n at *
  generalize hR : (ρ 1).toRows = R at *
  generalize hc : (ρ 4).toInt = c at *
  obtain ⟨spare, hsat⟩ := sat_ex hsat
  obtain ⟨g1, hsat⟩ := sat_and hsat
  obtain ⟨g2, hsat⟩ := sat_and hsat
  obtain ⟨g3, hsat⟩ := sat_and hsat
  have hlen : ((R.map pairOf).flatMap encE).length = R.length * 2 := by rw [enc_len, List.length_map]
  simp only [enE, En.vals, En.stride, List.length_cons, List.length_nil, U.toInt_int, U.toRows_rows] at g1 g2 g3 q2 hsat
  rw [vals_pairs] at g1 hsat
  by_cases hR0 : R = []
  · subst hR0
    have hn0 : n = 0 := by simpa using q2
    subst hn0
    refine (hnone _ _ _ w).mono ?_
    rintro e w' ⟨rfl, rfl⟩
    refine ⟨ρ.upd 5 (.rows []), .tuple #[], Ext.upd _ _, rfl, .inr rfl, ?_, ?_⟩
    · simp only [sortCtr, hpDen_cons, star_assoc, Ch.den]
      rw [SX.den_wc, SX.den_wc, SX.den_wc]
      simp only [SX.den, ai, rwA, U.co, U.toInt_int, Env.upd, if_true, Nat.reduceEqDiff, reduceIte, hb, hc, U.toRows_rows]
      exact sat_ex_mk spare (sat_and_mk (by simpa [enE, En.vals, En.stride] using g1) (sat_and_mk g2 (sat_and_mk g3 (by simp only [enE, En.vals, List.flatMap_nil, U.toRows_rows]; exact hsat))))
    · intro x hx
      simp only [sortCtr, List.mem_cons, List.not_mem_nil, or_false] at hx
      rcases hx with rfl | rfl
      · rw [eEq_bool]; simp [SX.den, rwA, ap1_32, Env.upd, hR, U.toProp, U.co]
      · simp [SX.den, sortX, rwA, Env.upd, hs1, hR, sortB, SortP, U.co, U.toProp, U.toBool]
  · have hRl : 0 < R.length := List.length_pos_iff.2 hR0
    have hb0 : 0 ≤ b := by
      rcases g3 with h | h
      · exact h
      · exfalso; rw [h, hlen] at g1; simp at g1; omega
    have hn' : n.toNat = (R.map pairOf).length := by rw [List.length_map]; omega
    have hlt := hsat.row_lt (by intro e; have := congrArg List.length e; rw [List.length_append, hlen] at this; simp at this; omega)
    have hold : HoldsK encE 2 w b.toNat 0 (R.map pairOf).toArray := by
      have h2 := Sat.put hsat rfl
      intro j hj
      have hj0 := hj
      rw [Go.Sort.size_flatK] at hj
      have hj' : j < ((R.map pairOf).flatMap encE ++ spare).length := by rw [List.length_append, hlen]; simp at hj; omega
      have := hsat.load hj'
      rw [List.getElem_append_left (by rw [hlen]; simpa using hj)] at this
      rw [getElem!_pos _ j hj0, ← Array.getElem_toList]
      have e : (flatK encE 2 (R.map pairOf).toArray).toList[j]'(by simpa using hj0) = ((R.map pairOf).flatMap encE)[j]'(by rw [hlen]; simpa using hj) := by
        congr 1
        exact flatK_list _
      rw [e]
      exact this
    have hcall := hsome b.toNat (SX.den S ρ (ai 3)).toInt.toNat (R.map pairOf).toArray w hold hlt.2 (by simp; omega)
    rw [if_neg (by omega), hn']
    refine hcall.mono ?_
    rintro e w' ⟨rfl, d', m, os, hp, hs, rfl⟩
    obtain ⟨y, hy, hyl, hys⟩ := sort_facts rfl (by simpa using hp) (by simpa using hs)
    refine ⟨ρ.upd 5 (.rows y), .tuple #[], Ext.upd _ _, rfl, .inr rfl, ?_, ?_⟩
    · simp only [sortCtr, hpDen_cons, star_assoc, Ch.den]
      rw [SX.den_wc, SX.den_wc, SX.den_wc]
      simp only [SX.den, ai, rwA, U.co, U.toInt_int, Env.upd, if_true, Nat.reduceEqDiff, reduceIte, hb, hc, U.toRows_rows]
      have hput : Sat w0 (star (row b.toNat 0 ((y.map pairOf).flatMap encE ++ spare) true) (star (hpDen (S.wc ch) (ρ.upd 5 (.rows y)) w0 []) F)) (sortWorldK encE 2 w b.toNat 0 m d' os) := by
        have h1 := Sat.put (new := d'.toList) (hsat.drew (w.drawn + m)) (by simpa using hp.1)
        have h2 := Sat.grow os.toList h1
        rw [hy]
        exact h2
      refine sat_ex_mk spare (sat_and_mk ?_ (sat_and_mk g2 (sat_and_mk g3 ?_)))
      · simp only [enE, En.vals, En.stride, List.length_cons, List.length_nil, vals_pairs, U.toInt_int, U.toRows_rows]
        rw [← g1, hlen, enc_len, List.length_map, hyl]
      · simp only [enE, En.vals, vals_pairs]
        exact hput
    · intro x hx
      simp only [sortCtr, List.mem_cons, List.not_mem_nil, or_false] at hx
      rcases hx with rfl | rfl
      · rw [eEq_bool]; simp [SX.den, rwA, ap1_32, Env.upd, hR, U.toProp, U.co, hyl]
      · simp [SX.den, sortX, rwA, Env.upd, hs1, hR, sortB, U.co, U.toProp, U.toBool, hys]
end
end Go.Proofs.Ytmjonggabppgaaa

/- slices.SortFunc at the list's entries keeps its contract (out of the library's shelf). -/
set_option linter.unusedSimpArgs false
set_option linter.unusedVariables false
namespace Go.Proofs
open Go.Shelf Go.RowKit Go.Lib Go.Sort
open Go.Proofs.Ytmjonggabppgaaa (encE)
set_option maxHeartbeats 1000000 in
theorem Try.closureSort (x y : Int × Int) (W : World) : Calls Try.prog 55 #[.agg #[.int .i64 x.1, .int .i64 x.2], .agg #[.int .i64 y.1, .int .i64 y.2]] W fun e w' => e = .returned (.int .i64 (Lib.compareInt x.1 y.1)) ∧ ∃ q os', w' = grow (W.drewN q) os' := by
  have hcon := fun W' => AnyG.cmp_Compare_int Try.cmpInt x.1 y.1 W'
  change ∀ W', Calls Try.prog 56 _ _ _ at hcon
  generalize Lib.compareInt x.1 y.1 = r at hcon ⊢
  go_enter Try.func55, Try.ntmps55
  go_wp2_with (go_at_call 56; refine (hcon _).mono ?_; rintro e w' ⟨rfl, rfl⟩)
  go_ret
  exact ⟨rfl, 0, _, by rw [alloc_eq_grow, alloc_eq_grow, grow_grow]; rfl⟩
theorem Try.ltPage (x y : Int × Int) : ltOf (fun x y : Int × Int => Lib.compareInt x.1 y.1) x y = decide (x.1 < y.1) := by
  unfold ltOf Lib.compareInt
  by_cases h1 : x.1 < y.1
  · simp [h1]
  · by_cases h2 : y.1 < x.1 <;> simp [h1, h2]
theorem Try.swoPage : SWO (ltOf fun x y : Int × Int => Lib.compareInt x.1 y.1) where
  irrefl x := by rw [Try.ltPage]; simp
  trans x y z h1 h2 := by rw [Try.ltPage] at *; simp at *; omega
  ntrans x y z h1 h2 := by rw [Try.ltPage] at *; simp at *; omega
theorem Try.sortEntries (blk cap : Nat) (d : Array (Int × Int)) (w : World) (hH : HoldsK encE 2 w blk 0 d) (hblk : blk < w.heap.size) (hsz : d.size < 4611686018427387904) :
    Calls Try.prog 54 #[.slice (some ⟨blk, 0, none⟩) d.size cap, .func (.func 55) #[] #[]] w fun e w' => e = .returned (.tuple #[]) ∧
      ∃ d' n os, PermIn 0 d.size d d' ∧ SortedIn (ltOf fun x y : Int × Int => Lib.compareInt x.1 y.1) 0 d.size d' ∧ w' = sortWorldK encE 2 w blk 0 n d' os := by
  have eg : ∀ args w, (callFunc 55 args).run Try.prog w = .ok (.enter 55 args) w := enters_of Try.func55 (by kernel_rfl) rfl
  exact AnyQ.slices_SortFunc Try.sortEn 2 Try.isAgg85 Try.sizeOf85 encE (fun _ => rfl) (fun x v hv => by simp [encE] at hv; rcases hv with rfl | rfl <;> rfl) (fun x y => Lib.compareInt x.1 y.1) Try.swoPage 55 #[] blk 0 cap d w eg
    (fun _ _ _ _ x y => Try.closureSort x y _) hH hblk hsz
theorem Try.sortNone (p : Option Addr) (cap : Nat) (fv : Value) (w : World) :
    Calls Try.prog 54 #[.slice p 0 cap, fv] w fun e w' => e = .returned (.tuple #[]) ∧ w' = w := AnyF.slices_SortFunc_none Try.sortEn p cap fv w
end Go.Proofs
namespace Go.Proofs.Ytmjonggabppgaaa
noncomputable section
open Go.Eng
theorem sort_ok {G : Type} (S : Sig G) (hS : FreeSig S) : CtrOk S Try.prog 54 sortCtr :=
  sort_of S hS (fun blk cap d w h1 h2 h3 => Try.sortEntries blk cap d w h1 h2 h3) (fun p cap fv w => Try.sortNone p cap fv w)
end
end Go.Proofs.Ytmjonggabppgaaa
