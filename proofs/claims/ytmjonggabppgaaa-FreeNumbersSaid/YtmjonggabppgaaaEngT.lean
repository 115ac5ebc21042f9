/- Code, bodies, contracts: that the symbolic run is the model's. -/
import Derived.Test.YtmjonggabppgaaaEngS
set_option linter.unusedSimpArgs false
set_option linter.unusedVariables false
namespace Go.Eng
open Go.RowKit (Below)

section
variable {G : Type} (S : Sig G) (w0 : World) (F : HProp) {P : Program} {C : Cx}

def Wp (P : Program) (c : Code) (Q : Exit → Act → World → Prop) (a : Act) (w : World) : Prop := (∀ b, c = .loop b → WpIn P b Q a w) ∧ c.wp P Q a w
theorem Wp.of {c : Code} {Q : Exit → Act → World → Prop} {a : Act} {w : World} (hc : ∀ b, c ≠ .loop b) (h : c.wp P Q a w) : Wp P c Q a w := ⟨fun b hb => absurd hb (hc b), h⟩
theorem Wp.loop {b : Code} {Q : Exit → Act → World → Prop} {a : Act} {w : World} (h : WpIn P b Q a w) : Wp P (.loop b) Q a w := ⟨fun b' hb => by cases hb; exact h, wpIn_loop h⟩

/-- What a continuation promises, from a state on. -/
structure KtR (K : Kt) (st : St) (ρ : Env G) (Q : Exit → Act → World → Prop) : Prop where
  nrm : ∀ ρ' st' a' w', After S w0 F st ρ ρ' st' a' w' → (K.nrm st').den S ρ' → Q .normal a' w'
  ret : ∀ ρ' st' a' w', After S w0 F st ρ ρ' st' a' w' → (K.ret st').den S ρ' → Q .ret a' w'
  ext : ∀ i ρ' st' a' w', After S w0 F st ρ ρ' st' a' w' → (K.ext i st').den S ρ' → Q (.exit i) a' w'
  pan : ∀ c a w, ¬ Q (.panic c) a w
theorem KtR.step {K : Kt} {st st1 : St} {ρ ρ1 : Env G} {Q : Exit → Act → World → Prop} (hE : Ext st.n ρ ρ1) (hn : st.n ≤ st1.n) (h : KtR S w0 F K st ρ Q) : KtR S w0 F K st1 ρ1 Q :=
  ⟨fun _ _ _ _ ha hk => h.nrm _ _ _ _ (After.step S w0 F hE hn ha) hk, fun _ _ _ _ ha hk => h.ret _ _ _ _ (After.step S w0 F hE hn ha) hk, fun i _ _ _ _ ha hk => h.ext i _ _ _ _ (After.step S w0 F hE hn ha) hk, h.pan⟩
theorem KtR.asm {K : Kt} {st st1 : St} {ρ : Env G} {Q : Exit → Act → World → Prop} (hn : st.n = st1.n) (h : KtR S w0 F K st ρ Q) : KtR S w0 F K st1 ρ Q := h.step S w0 F (Ext.refl _ _) (Nat.le_of_eq hn)

theorem asm_cons {ρ : Env G} {e : SX} {l : List SX} (h : (e.den S ρ).toProp) (h' : ∀ x ∈ l, (x.den S ρ).toProp) : ∀ x ∈ e :: l, (x.den S ρ).toProp := fun x hx => by
  rcases List.mem_cons.1 hx with rfl | hx
  · exact h
  · exact h' x hx

theorem sx_sound {body : Nat → List SV → St → (SV → St → VC) → VC} (hb : BodyOk S w0 F P body) (hC : CxOk S P C) (f : Nat) :
    ∀ (fuel : Nat) (c : Code) (st : St) (ρ : Env G) (a : Act) (w : World) (K : Kt) (Q : Exit → Act → World → Prop), Den S ρ w0 F st a w → (sx P C body f fuel c st K).den S ρ → KtR S w0 F K st ρ Q → Wp P c Q a w := by
  intro fuel
  induction fuel with
  | zero => intro c st ρ a w K Q hd h hK; exact h.elim
  | succ fuel ih =>
    intro c st ρ a w K Q hd h hK
    have refl : After S w0 F st ρ ρ st a w := ⟨Ext.refl _ _, Nat.le_refl _, hd⟩
    unfold sx at h
    split at h
    · exact Wp.of (by intros; simp) (wp_skip (hK.nrm _ _ _ _ refl h))
    · exact Wp.of (by intros; simp) (wp_label (hK.nrm _ _ _ _ refl h))
    · -- region
      rename_i id ops draw
      refine Wp.of (by intros; simp) ?_
      obtain ⟨ρ1, st1, haf, hk⟩ := ghosts_sound S w0 F _ (annsOf C f id) (fun sp args hm => by obtain ⟨l, i, hl, hm⟩ := annsOf_mem hm; exact hC.2.1 f l hl i sp args hm) st ρ a w hd h
      have hn : ∀ ρ' st' a' w', After S w0 F st1 ρ1 ρ' st' a' w' → (K.nrm st').den S ρ' → Q .normal a' w' := fun ρ' st' a' w' h1 h2 => hK.nrm _ _ _ _ (After.step S w0 F haf.1 haf.2.1 h1) h2
      cases draw
      · simp only [cond_false] at hk
        exact wp_region_list (seqR_sound S w0 F hb hC ops.toList st1 ρ1 a w haf.2.2 hk hn)
      · simp only [cond_true] at hk
        cases hm : P.follows .mixedOrders
        · rw [hm] at hk; exact hk.elim
        cases hns : Region.noSelect ops
        · rw [hm, hns] at hk; exact hk.elim
        rw [hm, hns] at hk
        exact region_draw_sound S w0 F hb hC hm hns hK.pan haf.2.2 hk hn
    · -- seq
      rename_i x y
      refine Wp.of (by intros; simp) (wp_seq (ih x st ρ a w _ _ hd h ⟨?_, ?_, ?_, ?_⟩).2)
      · intro ρ' st' a' w' haf hk
        exact (ih y st' ρ' a' w' K Q haf.2.2 hk (hK.step S w0 F haf.1 haf.2.1)).2
      · intro ρ' st' a' w' haf hk; exact hK.ret _ _ _ _ haf hk
      · intro i ρ' st' a' w' haf hk; exact hK.ext i _ _ _ _ haf hk
      · intro c a w h; exact hK.pan c a w h
    · -- cond
      rename_i x c1 c2
      refine Wp.of (by intros; simp) ?_
      have hx := lk_eval S hd.fr x
      split at h
      · rename_i he; rw [he] at hx
        exact wp_cond_true (by rw [R_one S ρ hx]; rfl) (ih c1 st ρ a w K Q hd h hK).2
      · rename_i he; rw [he] at hx
        exact wp_cond_false (by rw [R_one S ρ hx]; rfl) (ih c2 st ρ a w K Q hd h hK).2
      · rename_i e _ _ he; rw [he] at hx
        cases hq : sq e.srt .bool
        · rw [hq] at h; exact h.elim
        rw [hq] at h
        simp only [cond_true] at h
        obtain ⟨ht, hf⟩ := h
        have hev := R_one S ρ hx
        simp only [SC.den] at hev
        cases hv : (e.den S ρ).toBool
        · rw [hv] at hev
          have hp : ¬ (e.den S ρ).toProp := by rw [srt_bool S hq, hv]; simp
          have hp' : ((eNot e).den S ρ).toProp := by rw [eNot_den, srt_bool S hq, hv]; rfl
          refine wp_cond_false hev ?_
          cases hin : inAsm e st.asm
          · rw [hin] at hf
            exact (ih c2 { st with asm := eNot e :: st.asm } ρ a w K Q ⟨hd.fr, hd.df, hd.hp, asm_cons S hp' hd.asm⟩ (hf hp') (KtR.asm S w0 F (st := st) rfl hK)).2
          · exact absurd (hd.asm _ (inAsm_mem hin)) hp
        · rw [hv] at hev
          have hp : (e.den S ρ).toProp := by rw [srt_bool S hq, hv]; rfl
          have hp' : ¬ ((eNot e).den S ρ).toProp := by rw [eNot_den, srt_bool S hq, hv]; simp
          refine wp_cond_true hev ?_
          cases hin : inAsm (eNot e) st.asm
          · rw [hin] at ht
            exact (ih c1 { st with asm := e :: st.asm } ρ a w K Q ⟨hd.fr, hd.df, hd.hp, asm_cons S hp hd.asm⟩ (ht hp) (KtR.asm S w0 F (st := st) rfl hK)).2
          · exact absurd (hd.asm _ (inAsm_mem hin)) hp'
      · exact h.elim
    · -- block
      rename_i id b
      refine Wp.of (by intros; simp) (wp_block (ih b st ρ a w _ _ hd h ⟨?_, ?_, ?_, ?_⟩).2)
      · intro ρ' st' a' w' haf hk; exact hK.nrm _ _ _ _ haf hk
      · intro ρ' st' a' w' haf hk; exact hK.ret _ _ _ _ haf hk
      · intro i ρ' st' a' w' haf hk
        simp only [Exit.inBlock]
        simp only [Bool.cond_eq_ite] at hk
        split at hk
        · rename_i hi; rw [if_pos (Nat.eq_of_beq_eq_true hi)]; exact hK.nrm _ _ _ _ haf hk
        · rename_i hi
          rw [if_neg (fun h => hi (by subst h; simp))]
          exact hK.ext i _ _ _ _ haf hk
      · intro c a w h; exact hK.pan c a w h
    · exact Wp.of (by intros; simp) (wp_exit (hK.ext _ _ _ _ _ refl h))
    · exact Wp.of (by intros; simp) (wp_ret (hK.ret _ _ _ _ refl h))
    · -- loop
      rename_i b
      split at h
      · exact h.elim
      · rename_i key hkey
        split at h
        · -- a round by itself
          refine Wp.loop (wpIn_step (ih b st ρ a w _ _ hd h ⟨?_, ?_, ?_, ?_⟩).2)
          · intro ρ' st' a' w' haf hk
            exact (ih (.loop b) st' ρ' a' w' K Q haf.2.2 hk (hK.step S w0 F haf.1 haf.2.1)).1 b rfl
          · intro ρ' st' a' w' haf hk; exact hK.ret _ _ _ _ haf hk
          · intro i ρ' st' a' w' haf hk; exact hK.ext i _ _ _ _ haf hk
          · intro c a w h; exact hK.pan c a w h
        · rename_i iv0 hiv
          simp only at h
          generalize hIV : iv0.at st.n = iv at h
          generalize junks st.fr (Code.writes b) = head at h
          split at h
          · exact h.elim
          · rename_i th0 ns rest hmeet
            cases h1 : iv.wf st.n
            · rw [h1] at h; exact h.elim
            cases h2 : head.all (SV.lt st.n)
            · rw [h1, h2] at h; exact h.elim
            cases h3 : rest.all (Ch.lt st.n)
            · rw [h1, h2, h3] at h; exact h.elim
            rw [h1, h2, h3] at h
            simp only [cond_true] at h
            obtain ⟨hn, hfr⟩ := needs_den S ρ h
            obtain ⟨hok, hcont⟩ := fresh_den S ρ hfr
            have has : (ns ++ st.asm).all (SX.lt st.n) = true := by
              unfold St.ok at hok
              simp only [Bool.cond_eq_ite] at hok
              split at hok
              · split at hok
                · exact hok
                · cases hok
              · cases hok
            have ha0 : ∀ x ∈ ns ++ st.asm, (x.den S ρ).toProp := fun x hx => (List.mem_append.1 hx).elim (hn x) (hd.asm x)
            let stI : St := { fr := setSlots iv.slots 0 head, hp := iv.hp ++ rest, n := st.n + iv.ss.length, asm := iv.facts ++ (ns ++ st.asm) }
            let I : Nat → Act → World → Prop := fun m a w => ∃ us : List (U G), us.length = iv.ss.length ∧ Den S (updL S ρ st.n iv.ss us) w0 F stI a w ∧ (∀ x ∈ iv.facts, (x.den S (updL S ρ st.n iv.ss us)).toProp) ∧ (iv.meas.den S (updL S ρ st.n iv.ss us)).toInt.toNat = m
            obtain ⟨us, hus, hdI, hf, hm⟩ := meet_sound S w0 F (Ext.refl st.n ρ) hd h1 h2 h3 hmeet hn (left := []) (by have : hpDen S ρ w0 [] = emp := rfl; rw [this, star_emp]) has ha0
            refine Wp.loop (wpIn_inv I ?_ _ a w ⟨us, hus, hdI, hf, rfl⟩)
            rintro m a1 w1 ⟨us, hus, hdI, hf, hm⟩
            have hEI : Ext st.n ρ (updL S ρ st.n iv.ss us) := updL_ext S ρ st.n iv.ss us
            refine (ih b stI _ a1 w1 _ _ hdI (hcont us hus hf) ⟨?_, ?_, ?_, ?_⟩).2
            · intro ρ' st' a' w' haf hk
              simp only at hk
              split at hk
              · exact hk.elim
              · rename_i th1 ns1 rest1 hmeet1
                split at hk
                · exact hk.elim
                · rename_i lft hhold
                  obtain ⟨hk1, _⟩ := needs_den S ρ' hk
                  obtain ⟨hpos, hk2⟩ := need_sound S ρ' haf.2.2.asm hk1
                  obtain ⟨hlt, hk3⟩ := need_sound S ρ' haf.2.2.asm hk2
                  rw [eLe_den] at hpos
                  rw [eLt_den] at hlt
                  obtain ⟨us', hus', hdI', hf', hm'⟩ := meet_sound S w0 F (hEI.trans haf.1 (Nat.le_add_right _ _)) haf.2.2 h1 h2 h3 hmeet1 hk3 (holdAll_sound S w0 hhold) has ha0
                  have hml := (inv_wf h1).2.2.2.2
                  have hm0 : iv.meas.den S ρ' = iv.meas.den S (updL S ρ st.n iv.ss us) := SX.den_ext S haf.1 hml
                  refine ⟨_, ?_, us', hus', hdI', hf', rfl⟩
                  rw [← hm', ← hm]
                  rw [hm0] at hlt
                  simp only [SX.den, U.toInt_int] at hpos
                  omega
            · intro ρ' st' a' w' haf hk; exact hK.ret _ _ _ _ (After.step S w0 F hEI (Nat.le_add_right _ _) haf) hk
            · intro i ρ' st' a' w' haf hk; exact hK.ext i _ _ _ _ (After.step S w0 F hEI (Nat.le_add_right _ _) haf) hk
            · intro c a w h; exact hK.pan c a w h
    · exact h.elim
end
end Go.Eng
