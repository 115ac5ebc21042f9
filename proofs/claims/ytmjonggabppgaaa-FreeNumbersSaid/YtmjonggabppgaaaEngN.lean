/- Chunks taken by a contract, fresh atoms, calls by contract: that they mean what they should. -/
import Derived.Test.YtmjonggabppgaaaEngM
set_option linter.unusedSimpArgs false
set_option linter.unusedVariables false
namespace Go.Eng
open Go.RowKit (Below)

def chOf {G : Type} (S : Sig G) : RK → Bool
  | .ro => true | .arr => false | .rd j => S.ch j

section
variable {G : Type} (S : Sig G) (ρ : Env G) (w0 : World)

theorem Ch.den_wc_of (ch : Nat → Bool) {c : Ch} (h : ∀ i e b o x k, c ≠ .rd i e b o x k) : c.den (S.wc ch) ρ w0 = c.den S ρ w0 := by
  cases c with
  | rd i e b o x k => exact absurd rfl (h i e b o x k)
  | cel b o cs => simp only [Ch.den, SX.den_wc, SCs.den_wc]
  | arr e b x c => simp only [Ch.den, SX.den_wc]; rfl
  | ro e b o x => simp only [Ch.den, SX.den_wc]; rfl
  | map kk v b m => simp only [Ch.den, SX.den_wc]
  | prd p k x => simp only [Ch.den, SX.den_wc]; rfl
theorem rd_den (ch : Nat → Bool) (i : Nat) (e : En) (b o x c : SX) : (Ch.rd i e b o x c).den (S.wc ch) ρ w0 =
    if ch i then roDen S w0 e (b.den S ρ) (o.den S ρ) (x.den S ρ) else fun h => (o.den S ρ).toInt = 0 ∧ arrDen S e (b.den S ρ) (x.den S ρ) (c.den S ρ) h := by
  simp only [Ch.den, SX.den_wc]; rfl

theorem pure_dup {p : Prop} {X : HProp} {h : Hl} (hh : star (HProp.pure p) X h) : star (HProp.pure p) (star (HProp.pure p) X) h := by
  rw [star_pure] at hh ⊢
  rw [star_pure]
  exact ⟨hh.1, hh⟩

theorem eqCh_sound {asm : List SX} (ha : ∀ x ∈ asm, (x.den S ρ).toProp) {p c : Ch} {ns ns' : List SX} {used : Bool} {k : Option (Nat × RK)} (h : eqCh asm ns p c = some (ns', used, k))
    (hn : ∀ x ∈ ns', (x.den S ρ).toProp) (ch : Nat → Bool) (hch : ∀ i K, k = some (i, K) → ch i = chOf S K) :
    (∀ x ∈ ns, (x.den S ρ).toProp) ∧ ∀ X y, star (c.den S ρ w0) X y → star (p.den (S.wc ch) ρ w0) (if used then X else star (c.den S ρ w0) X) y := by
  unfold eqCh at h
  split at h
  · -- cel
    rw [Bool.cond_eq_ite] at h; split at h
    · rename_i ho
      obtain ⟨n1, e1, h⟩ := ob_some h
      obtain ⟨n2, e2, h⟩ := ob_some h
      cases h
      obtain ⟨h2, hn1⟩ := eqCs_sound S ρ ha e2 hn
      obtain ⟨h1, hn0⟩ := eqX_sound S ρ ha e1 hn1
      refine ⟨hn0, fun X y hy => ?_⟩
      rw [Ch.den_wc_of S ρ w0 ch (by intros; simp)]
      simp only [if_true]
      have : ∀ (l m : List SC), l.map (SC.den S ρ) = m.map (SC.den S ρ) → (l = [] ↔ m = []) := fun l m hlm => by
        have := congrArg List.length hlm; simp at this
        constructor
        · rintro rfl; exact List.eq_nil_of_length_eq_zero (by simpa using this.symm)
        · rintro rfl; exact List.eq_nil_of_length_eq_zero (by simpa using this)
      simp only [Ch.den] at hy ⊢
      rw [h1, h2, Nat.eq_of_beq_eq_true ho, this _ _ h2]
      exact hy
    · cases h
  · rw [Bool.cond_eq_ite] at h; split at h
    · rename_i he
      have he := of_decide_eq_true he
      subst he
      obtain ⟨n1, e1, h⟩ := ob_some h
      obtain ⟨n2, e2, h⟩ := ob_some h
      obtain ⟨n3, e3, h⟩ := ob_some h
      cases h
      obtain ⟨h3, hn2⟩ := eqX_sound S ρ ha e3 hn
      obtain ⟨h2, hn1⟩ := eqX_sound S ρ ha e2 hn2
      obtain ⟨h1, hn0⟩ := eqX_sound S ρ ha e1 hn1
      refine ⟨hn0, fun X y hy => ?_⟩
      rw [Ch.den_wc_of S ρ w0 ch (by intros; simp)]
      simp only [if_true, Ch.den] at hy ⊢
      rw [h1, h2, h3]; exact hy
    · cases h
  · rw [Bool.cond_eq_ite] at h; split at h
    · rename_i he
      have he := of_decide_eq_true he
      subst he
      obtain ⟨n1, e1, h⟩ := ob_some h
      obtain ⟨n2, e2, h⟩ := ob_some h
      obtain ⟨n3, e3, h⟩ := ob_some h
      cases h
      obtain ⟨h3, hn2⟩ := eqX_sound S ρ ha e3 hn
      obtain ⟨h2, hn1⟩ := eqX_sound S ρ ha e2 hn2
      obtain ⟨h1, hn0⟩ := eqX_sound S ρ ha e1 hn1
      refine ⟨hn0, fun X y hy => ?_⟩
      rw [Ch.den_wc_of S ρ w0 ch (by intros; simp)]
      simp only [Bool.false_eq_true, if_false, Ch.den] at hy ⊢
      rw [h1, h2, h3]; exact pure_dup hy
    · cases h
  · rw [Bool.cond_eq_ite] at h; split at h
    · rename_i he
      have he := of_decide_eq_true he
      subst he
      obtain ⟨n1, e1, h⟩ := ob_some h
      obtain ⟨n2, e2, h⟩ := ob_some h
      obtain ⟨n3, e3, h⟩ := ob_some h
      cases h
      obtain ⟨h3, hn2⟩ := eqX_sound S ρ ha e3 hn
      obtain ⟨h2, hn1⟩ := eqX_sound S ρ ha e2 hn2
      obtain ⟨h1, hn0⟩ := eqX_sound S ρ ha e1 hn1
      refine ⟨hn0, fun X y hy => ?_⟩
      rw [rd_den, hch _ _ rfl]
      simp only [Bool.false_eq_true, if_false, chOf, if_true]
      simp only [Ch.den] at hy ⊢
      rw [h1, h2, h3]; exact pure_dup hy
    · cases h
  · rename_i i e b o x c' e' b' x' c''
    cases he : decide (e = e')
    · rw [he] at h; cases h
    cases ho : SX.bq o (.int 0)
    · rw [he, ho] at h; cases h
    rw [he, ho] at h
    simp only [cond_true] at h
    have he := of_decide_eq_true he
    subst he
    obtain ⟨n1, e1, h⟩ := ob_some h
    obtain ⟨n2, e2, h⟩ := ob_some h
    obtain ⟨n3, e3, h⟩ := ob_some h
    cases h
    obtain ⟨h3, hn2⟩ := eqX_sound S ρ ha e3 hn
    obtain ⟨h2, hn1⟩ := eqX_sound S ρ ha e2 hn2
    obtain ⟨h1, hn0⟩ := eqX_sound S ρ ha e1 hn1
    refine ⟨hn0, fun X y hy => ?_⟩
    rw [rd_den, hch _ _ rfl]
    simp only [chOf, Bool.false_eq_true, if_false, if_true]
    simp only [Ch.den] at hy
    rw [h1, h2, h3, SX.bq_eq ho]
    exact star_mono (fun z hz => ⟨rfl, hz⟩) (fun _ hz => hz) _ hy
  · rw [Bool.cond_eq_ite] at h; split at h
    · rename_i he
      have he := of_decide_eq_true he
      subst he
      obtain ⟨n1, e1, h⟩ := ob_some h
      obtain ⟨n2, e2, h⟩ := ob_some h
      obtain ⟨n3, e3, h⟩ := ob_some h
      obtain ⟨n4, e4, h⟩ := ob_some h
      cases h
      obtain ⟨h4, hn3⟩ := eqX_sound S ρ ha e4 hn
      obtain ⟨h3, hn2⟩ := eqX_sound S ρ ha e3 hn3
      obtain ⟨h2, hn1⟩ := eqX_sound S ρ ha e2 hn2
      obtain ⟨h1, hn0⟩ := eqX_sound S ρ ha e1 hn1
      refine ⟨hn0, fun X y hy => ?_⟩
      rw [rd_den, hch _ _ rfl]
      simp only [chOf, if_true]
      simp only [Ch.den] at hy
      rw [h1, h2, h3, h4]; exact hy
    · cases h
  · rename_i kk v b m kk' v' b' m'
    cases hk : Nat.beq (kn kk) (kn kk')
    · rw [hk] at h; cases h
    cases hv : decide (v = v')
    · rw [hk, hv] at h; cases h
    rw [hk, hv] at h
    simp only [cond_true] at h
    have hv := of_decide_eq_true hv
    subst hv
    have hk := kn_inj (Nat.eq_of_beq_eq_true hk)
    subst hk
    obtain ⟨n1, e1, h⟩ := ob_some h
    obtain ⟨n2, e2, h⟩ := ob_some h
    cases h
    obtain ⟨h2, hn1⟩ := eqX_sound S ρ ha e2 hn
    obtain ⟨h1, hn0⟩ := eqX_sound S ρ ha e1 hn1
    refine ⟨hn0, fun X y hy => ?_⟩
    rw [Ch.den_wc_of S ρ w0 ch (by intros; simp)]
    simp only [if_true, Ch.den] at hy ⊢
    rw [h1, h2]; exact hy
  · rw [Bool.cond_eq_ite] at h; split at h
    · rename_i hp
      obtain ⟨n1, e1, h⟩ := ob_some h
      obtain ⟨n2, e2, h⟩ := ob_some h
      cases h
      obtain ⟨h2, hn1⟩ := eqX_sound S ρ ha e2 hn
      obtain ⟨h1, hn0⟩ := eqX_sound S ρ ha e1 hn1
      refine ⟨hn0, fun X y hy => ?_⟩
      rw [Ch.den_wc_of S ρ w0 ch (by intros; simp)]
      simp only [if_true, Ch.den] at hy ⊢
      rw [h1, h2, Nat.eq_of_beq_eq_true hp]; exact hy
    · cases h
  · cases h

theorem nilX_den (e : En) : e.vals ((nilX e).den S ρ) = [] := by
  cases e <;> rfl
theorem arrDen_nil (e : En) (b : U G) : arrDen S e b ((nilX e).den S ρ) (.int 0) Hl.none := by
  refine ⟨[], ?_, Int.le_refl _, .inr rfl, ?_⟩
  · rw [nilX_den]; simp
  · rw [nilX_den]; show Hl.none = rowH _ _ _ _; rw [List.append_nil, rowH_nil]
theorem freeCh_sound {p : Ch} {k : Option (Nat × RK)} (h : freeCh p = some k) (ch : Nat → Bool) (hch : ∀ i K, k = some (i, K) → ch i = chOf S K) : p.den (S.wc ch) ρ w0 Hl.none := by
  unfold freeCh at h
  split at h
  · rename_i e b x c
    rw [Bool.cond_eq_ite] at h; split at h
    · rename_i hx
      rw [Bool.cond_eq_ite] at h; split at h
      · rename_i hc; cases h
        rw [SX.bq_eq hx, SX.bq_eq hc, Ch.den_wc_of S ρ w0 ch (by intros; simp)]
        exact arrDen_nil S ρ e _
      · cases h
    · cases h
  · rename_i e b o x
    rw [Bool.cond_eq_ite] at h; split at h
    · rename_i hx; cases h
      rw [SX.bq_eq hx, Ch.den_wc_of S ρ w0 ch (by intros; simp)]
      refine ⟨⟨.inr (nilX_den S ρ e), fun i v hv => ?_⟩, rfl⟩
      rw [nilX_den] at hv; simp at hv
    · cases h
  · rename_i i e b o x c
    rw [Bool.cond_eq_ite] at h; split at h
    · rename_i hx
      rw [Bool.cond_eq_ite] at h; split at h
      · rename_i hc
        rw [Bool.cond_eq_ite] at h; split at h
        · rename_i ho; cases h
          rw [rd_den, hch _ _ rfl]
          simp only [chOf, Bool.false_eq_true, if_false]
          rw [SX.bq_eq hx, SX.bq_eq hc, SX.bq_eq ho]
          exact ⟨rfl, arrDen_nil S ρ e _⟩
        · cases h
      · cases h
    · cases h
  · cases h
  · cases h

theorem star_of_none {A X : HProp} {h : Hl} (ha : A Hl.none) (hx : X h) : star A X h :=
  ⟨Hl.none, h, (Hl.disj_none _).symm, by rw [Hl.un_comm (Hl.disj_none _).symm, Hl.un_none], ha, hx⟩

theorem hpDen_cons (c : Ch) (l : List Ch) : hpDen S ρ w0 (c :: l) = star (c.den S ρ w0) (hpDen S ρ w0 l) := rfl
theorem hpDen_append (l m : List Ch) : hpDen S ρ w0 (l ++ m) = star (hpDen S ρ w0 l) (hpDen S ρ w0 m) := by unfold hpDen; rw [List.map_append, big_append]

theorem takeCh_sound {asm : List SX} (ha : ∀ x ∈ asm, (x.den S ρ).toProp) {p : Ch} {ns : List SX} (ch : Nat → Bool) : ∀ {hp hp' : List Ch} {ns' : List SX} {k : Option (Nat × RK)},
    takeCh asm ns p hp = some (ns', hp', k) → (∀ x ∈ ns', (x.den S ρ).toProp) → (∀ i K, k = some (i, K) → ch i = chOf S K) →
    (∀ x ∈ ns, (x.den S ρ).toProp) ∧ ∀ F y, star (hpDen S ρ w0 hp) F y → star (p.den (S.wc ch) ρ w0) (star (hpDen S ρ w0 hp') F) y
  | [], hp', ns', k, h, hn, hch => by
    simp only [takeCh] at h
    split at h
    · rename_i k' hk; cases h
      exact ⟨hn, fun F y hy => star_of_none (freeCh_sound S ρ w0 hk ch hch) hy⟩
    · cases h
  | c :: l, hp', ns', k, h, hn, hch => by
    simp only [takeCh] at h
    rw [Bool.cond_eq_ite] at h; split at h
    · split at h
      · rename_i ns1 used k1 he
        cases h
        obtain ⟨h1, h2⟩ := eqCh_sound S ρ w0 ha he hn ch hch
        refine ⟨h1, fun F y hy => ?_⟩
        rw [hpDen_cons, star_assoc] at hy
        have := h2 _ _ hy
        cases used
        · simp only [Bool.false_eq_true, if_false, cond_false] at this ⊢
          rw [hpDen_cons, star_assoc]; exact this
        · simpa using this
      · cases h
    · split at h
      · rename_i ns1 l' k1 he
        cases h
        obtain ⟨h1, h2⟩ := takeCh_sound ha ch he hn hch
        refine ⟨h1, fun F y hy => ?_⟩
        rw [hpDen_cons, star_assoc, star_left_comm] at hy
        have := h2 _ _ hy
        rw [hpDen_cons, star_assoc, star_left_comm (c.den S ρ w0)]
        exact this
      · cases h

theorem takeChs_sound {asm : List SX} (ha : ∀ x ∈ asm, (x.den S ρ).toProp) (ch : Nat → Bool) : ∀ {ps hp hp' : List Ch} {ns ns' : List SX} {ks : List (Nat × RK)},
    takeChs asm ns ps hp = some (ns', hp', ks) → (∀ x ∈ ns', (x.den S ρ).toProp) → (∀ i K, (i, K) ∈ ks → ch i = chOf S K) →
    (∀ x ∈ ns, (x.den S ρ).toProp) ∧ ∀ F y, star (hpDen S ρ w0 hp) F y → star (hpDen (S.wc ch) ρ w0 ps) (star (hpDen S ρ w0 hp') F) y
  | [], hp, hp', ns, ns', ks, h, hn, hch => by
    simp only [takeChs] at h
    cases h
    refine ⟨hn, fun F y hy => ?_⟩
    show star emp _ y
    rw [emp_star]; exact hy
  | p :: l, hp, hp', ns, ns', ks, h, hn, hch => by
    simp only [takeChs] at h
    split at h
    · rename_i ns1 hp1 k1 h1
      split at h
      · rename_i ns2 hp2 ks2 h2
        cases h
        obtain ⟨hn1, hs2⟩ := takeChs_sound ha ch h2 hn (fun i K hm => hch i K (by cases k1 <;> simp [consO, hm]))
        obtain ⟨hn0, hs1⟩ := takeCh_sound S ρ w0 ha ch h1 hn1 (fun i K hk => hch i K (by subst hk; simp [consO]))
        refine ⟨hn0, fun F y hy => ?_⟩
        have a1 := hs1 _ _ hy
        rw [hpDen_cons, star_assoc]
        exact star_mono (fun _ h => h) (fun z hz => hs2 _ _ hz) _ a1
      · cases h
    · cases h

theorem getK_mem : ∀ {ks : List (Nat × RK)} {i : Nat} {K : RK}, getK ks i = some K → (i, K) ∈ ks
  | [], i, K, h => by cases h
  | (j, k) :: l, i, K, h => by
    simp only [getK, Bool.cond_eq_ite] at h
    split at h
    · rename_i hj; cases h; rw [Nat.eq_of_beq_eq_true hj]; exact List.mem_cons_self
    · exact List.mem_cons_of_mem _ (getK_mem h)
theorem getK_of_ok : ∀ {ks : List (Nat × RK)}, ksOk ks = true → ∀ {i K}, (i, K) ∈ ks → getK ks i = some K
  | [], _, i, K, h => by cases h
  | (j, k) :: l, hk, i, K, h => by
    simp only [ksOk, Bool.cond_eq_ite] at hk
    split at hk
    · cases hk
    · rename_i hany
      rcases List.mem_cons.1 h with h | h
      · cases h; simp [getK]
      · have hne : Nat.beq j i = false := by
          cases hb : Nat.beq j i
          · rfl
          · exfalso; apply hany
            rw [List.any_eq_true]
            exact ⟨(i, K), h, by rw [Nat.eq_of_beq_eq_true hb]; simp⟩
        simp only [getK, hne, cond_false]
        exact getK_of_ok hk h

theorem backCh_sound {ks : List (Nat × RK)} (ch : Nat → Bool) (hch : ∀ i K, (i, K) ∈ ks → ch i = chOf S K) : ∀ {l r : List Ch}, backCh ks l = some r →
    ∀ F y, star (hpDen (S.wc ch) ρ w0 l) F y → ∃ z, star (hpDen S ρ w0 r) F z ∧ ∀ i j q, z i j = some q → y i j = some q
  | [], r, h, F, y, hy => by
    simp only [backCh] at h; cases h; exact ⟨y, hy, fun _ _ _ h => h⟩
  | c :: l, r, h, F, y, hy => by
    have ih : ∀ r', backCh ks l = some r' → ∀ F y, star (hpDen (S.wc ch) ρ w0 l) F y → ∃ z, star (hpDen S ρ w0 r') F z ∧ ∀ i j q, z i j = some q → y i j = some q := fun r' h' => backCh_sound ch hch h'
    rw [hpDen_cons, star_assoc, star_left_comm] at hy
    -- with the first chunk in the frame
    have plain : ∀ (c' : Ch) r', backCh ks l = some r' → (∀ z, c.den (S.wc ch) ρ w0 z → c'.den S ρ w0 z) → ∃ z, star (hpDen S ρ w0 (c' :: r')) F z ∧ ∀ i j q, z i j = some q → y i j = some q := by
      intro c' r' hr' hc
      obtain ⟨z, hz, hzy⟩ := ih r' hr' _ _ hy
      refine ⟨z, ?_, hzy⟩
      rw [hpDen_cons, star_assoc, star_left_comm]
      exact star_mono (fun _ h => h) (star_mono hc (fun _ h => h)) _ hz
    by_cases hrd : ∃ i e b o x k, c = .rd i e b o x k
    · obtain ⟨i, e, b, o, x, k, rfl⟩ := hrd
      simp only [backCh] at h
      split at h
      · rename_i r' hk hr'
        cases h
        have hc := hch _ _ (getK_mem hk)
        obtain ⟨z, hz, hzy⟩ := ih r hr' _ _ hy
        rw [star_left_comm, rd_den, hc] at hz
        simp only [chOf, if_true, roDen] at hz
        rw [star_pure] at hz
        exact ⟨z, hz.2, hzy⟩
      · rename_i r' hk hr'
        cases h
        have hc := hch _ _ (getK_mem hk)
        refine plain _ _ hr' (fun z hz => ?_)
        rw [rd_den, hc] at hz
        simp only [chOf, Bool.false_eq_true, if_false] at hz
        exact hz.2
      · rename_i j r' hk hr'
        cases h
        have hc := hch _ _ (getK_mem hk)
        refine plain _ _ hr' (fun z hz => ?_)
        rw [rd_den, hc] at hz
        exact hz
      · cases h
    · have hbc : backCh ks (c :: l) = (match backCh ks l with | some r => some (c :: r) | none => none) := by
        cases c <;> first | rfl | (exfalso; exact hrd ⟨_, _, _, _, _, _, rfl⟩)
      rw [hbc] at h
      split at h
      · rename_i r' hr'; cases h
        refine plain _ _ hr' (fun z hz => ?_)
        rw [Ch.den_wc_of S ρ w0 ch (fun i e b o x k he => hrd ⟨i, e, b, o, x, k, he⟩)] at hz
        exact hz
      · cases h

theorem needs_den : ∀ {l : List SX} {k : VC}, (VC.needs l k).den S ρ → (∀ x ∈ l, (x.den S ρ).toProp) ∧ k.den S ρ
  | [], k, h => ⟨fun x hx => (by cases hx), h⟩
  | e :: l, k, h => by
    obtain ⟨h1, h2⟩ := h
    obtain ⟨h3, h4⟩ := needs_den h2
    refine ⟨fun x hx => ?_, h4⟩
    rcases List.mem_cons.1 hx with rfl | hx
    · exact h1
    · exact h3 x hx
theorem imps_den : ∀ {l : List SX} {k : VC}, (VC.imps l k).den S ρ → (∀ x ∈ l, (x.den S ρ).toProp) → k.den S ρ
  | [], k, h, _ => h
  | e :: l, k, h, hl => imps_den (h (hl e List.mem_cons_self)) (fun x hx => hl x (List.mem_cons_of_mem _ hx))

/-- The environment with the atoms from n on set, each to a value of its sort. -/
def updL : Env G → Nat → List Srt → List (U G) → Env G
  | ρ, n, s :: ss, u :: us => updL (ρ.upd n (U.co S s u)) (n + 1) ss us
  | ρ, _, _, _ => ρ
theorem alls_den : ∀ {ss : List Srt} {n : Nat} {ρ : Env G} {k : VC}, (VC.alls n ss k).den S ρ → ∀ us : List (U G), us.length = ss.length → k.den S (updL S ρ n ss us)
  | [], n, ρ, k, h, us, hu => by
    have : us = [] := List.eq_nil_of_length_eq_zero (by simpa using hu)
    subst this; exact h
  | s :: ss, n, ρ, k, h, us, hu => by
    cases us with
    | nil => simp at hu
    | cons u us =>
      simp only [updL]
      refine alls_den (n := n + 1) ?_ us (by simpa using hu)
      cases s <;> simp only [VC.alls, VC.den] at h <;> simp only [U.co]
      · exact h _
      · exact h _
      · exact h _
      · exact h _
      · exact h _
      · exact h _
      · cases u <;> exact h _
theorem updL_low : ∀ {ss : List Srt} {n : Nat} {ρ : Env G} {us : List (U G)} {i : Nat}, i < n → updL S ρ n ss us i = ρ i
  | [], n, ρ, us, i, h => by cases us <;> rfl
  | s :: ss, n, ρ, [], i, h => rfl
  | s :: ss, n, ρ, u :: us, i, h => by
    simp only [updL]
    rw [updL_low (by omega)]
    unfold Env.upd; rw [if_neg (by omega)]
theorem updL_high : ∀ {ss : List Srt} {n : Nat} {ρ : Env G} {us : List (U G)} {i : Nat} {s : Srt} {u : U G}, ss[i]? = some s → us[i]? = some u → updL S ρ n ss us (n + i) = U.co S s u
  | [], n, ρ, us, i, s, u, h, _ => by simp at h
  | t :: ss, n, ρ, [], i, s, u, _, h => by simp at h
  | t :: ss, n, ρ, v :: us, 0, s, u, h, h' => by
    simp at h h'; subst h; subst h'
    simp only [updL, Nat.add_zero]
    rw [updL_low S (by omega)]
    unfold Env.upd; rw [if_pos rfl]
  | t :: ss, n, ρ, v :: us, i + 1, s, u, h, h' => by
    simp only [updL]
    have := updL_high (n := n + 1) (ρ := ρ.upd n (U.co S t v)) (i := i) (by simpa using h) (by simpa using h')
    rw [show n + 1 + i = n + (i + 1) by omega] at this
    exact this
theorem updL_ext (ρ : Env G) (n : Nat) (ss : List Srt) (us : List (U G)) : Ext n ρ (updL S ρ n ss us) := fun i hi => updL_low S hi

theorem fresh_den {st : St} {ss : List Srt} {facts : List SX} {k : VC} (h : (fresh st ss facts k).den S ρ) :
    st.ok = true ∧ ∀ us : List (U G), us.length = ss.length → (∀ x ∈ facts, (x.den S (updL S ρ st.n ss us)).toProp) → k.den S (updL S ρ st.n ss us) := by
  unfold fresh at h
  cases hok : st.ok
  · rw [hok] at h; exact h.elim
  · rw [hok] at h
    exact ⟨rfl, fun us hu hf => imps_den S _ (alls_den S h us hu) hf⟩

/-- A function keeps a contract. -/
def CtrOk (P : Program) (f : FuncId) (sp : Ctr) : Prop := ∀ (ch : Nat → Bool) (w0 : World) (F : HProp) (ρ : Env G) (w : World) (xs : List Value),
  argsR S ρ sp.args xs → (∀ e ∈ sp.reqs, (e.den S ρ).toProp) → Sat w0 (star (hpDen (S.wc ch) ρ w0 sp.pre) F) w →
  Calls P f xs.toArray w (fun e w' => ∃ ρ' v, Ext sp.ss.length ρ ρ' ∧ e = .returned v ∧ sp.res.R S ρ' v ∧ Sat w0 (star (hpDen (S.wc ch) ρ' w0 sp.post) F) w' ∧ ∀ x ∈ sp.facts, (x.den S ρ').toProp)
/-- Memory may be seen so. -/
def GhOk (sp : Ctr) : Prop := ∀ (ch : Nat → Bool) (w0 : World) (F : HProp) (ρ : Env G) (w : World), (∀ e ∈ sp.reqs, (e.den S ρ).toProp) → Sat w0 (star (hpDen (S.wc ch) ρ w0 sp.pre) F) w →
  ∃ ρ', Ext sp.ss.length ρ ρ' ∧ Sat w0 (star (hpDen (S.wc ch) ρ' w0 sp.post) F) w ∧ ∀ x ∈ sp.facts, (x.den S ρ').toProp

structure HSt (F : HProp) (st : St) (ρ : Env G) (w : World) : Prop where
  hp : Sat w0 (star (hpDen S ρ w0 st.hp) F) w
  asm : ∀ e ∈ st.asm, (e.den S ρ).toProp

/-- What a step of the run leaves behind. -/
structure Next' (F : HProp) (st : St) (ρ : Env G) (ρ' : Env G) (st' : St) (w' : World) : Prop where
  ext : Ext st.n ρ ρ'
  le : st.n ≤ st'.n
  fr : st'.fr = st.fr
  frR : ∀ l, FrR S ρ st.fr l → FrR S ρ' st.fr l
  hs : HSt S w0 F st' ρ' w'

theorem foldr_need {asm : List SX} (ha : ∀ x ∈ asm, (x.den S ρ).toProp) : ∀ {l ns : List SX}, (∀ x ∈ l.foldr (need asm) ns, (x.den S ρ).toProp) → (∀ x ∈ l, (x.den S ρ).toProp) ∧ ∀ x ∈ ns, (x.den S ρ).toProp
  | [], ns, h => ⟨fun x hx => (by cases hx), h⟩
  | e :: l, ns, h => by
    obtain ⟨h1, h2⟩ := need_sound S ρ ha h
    obtain ⟨h3, h4⟩ := foldr_need ha h2
    refine ⟨fun x hx => ?_, h4⟩
    rcases List.mem_cons.1 hx with rfl | hx
    · exact h1
    · exact h3 x hx
theorem argsR_sub {d : Nat} {th : List SX} {ss : List Srt} {ρc : Env G} (h : ThR S d th ss ρ ρc) : ∀ {l : List SV} {xs : List Value}, l.all (SV.wf d ss) = true → argsR S ρ (l.map (SV.sub d th)) xs → argsR S ρc l xs
  | [], [], _, _ => trivial
  | v :: l, x :: xs, hw, hx => by
    simp only [List.all_cons, Bool.and_eq_true] at hw
    exact ⟨(SV.sub_R S ρ h hw.1).1 hx.1, argsR_sub h hw.2 hx.2⟩
  | [], _ :: _, _, hx => hx.elim
  | _ :: _, [], _, hx => hx.elim
theorem mem_sub {d : Nat} {th : List SX} {ss : List Srt} {ρc : Env G} (h : ThR S d th ss ρ ρc) {l : List SX} (hw : l.all (SX.wf d ss) = true) :
    (∀ x ∈ l.map (SX.sub d th), (x.den S ρ).toProp) ↔ ∀ x ∈ l, (x.den S ρc).toProp := by
  constructor
  · intro hx x hm
    rw [← SX.sub_den S ρ h (List.all_eq_true.1 hw x hm)]
    exact hx _ (List.mem_map_of_mem hm)
  · intro hx y hm
    obtain ⟨x, hxm, rfl⟩ := List.mem_map.1 hm
    rw [SX.sub_den S ρ h (List.all_eq_true.1 hw x hxm)]
    exact hx x hxm
theorem getTh_append_left : ∀ {l m : List SX} {i : Nat}, i < l.length → getTh (l ++ m) i = getTh l i
  | [], m, i, h => by simp at h
  | e :: l, m, 0, h => rfl
  | e :: l, m, i + 1, h => by simp only [List.cons_append, getTh]; exact getTh_append_left (by simpa using h)
theorem getTh_append_right : ∀ {l m : List SX} {i : Nat}, getTh (l ++ m) (l.length + i) = getTh m i
  | [], m, i => by simp
  | e :: l, m, i => by
    rw [show (e :: l).length + i = (l.length + i) + 1 by simp; omega]
    simp only [List.cons_append, getTh]; exact getTh_append_right
theorem getTh_mem : ∀ {l : List SX} {i : Nat}, i < l.length → getTh l i ∈ l
  | [], i, h => by simp at h
  | e :: l, 0, h => List.mem_cons_self
  | e :: l, i + 1, h => List.mem_cons_of_mem _ (getTh_mem (by simpa using h))
theorem getTh_ats : ∀ {ss : List Srt} {n i : Nat} {s : Srt}, ss[i]? = some s → getTh (ats n ss) i = .at s (n + i)
  | [], n, i, s, h => by simp at h
  | t :: ss, n, 0, s, h => by simp at h; subst h; rfl
  | t :: ss, n, i + 1, s, h => by
    simp only [ats, getTh]
    rw [getTh_ats (by simpa using h), show n + 1 + i = n + (i + 1) by omega]

theorem callSpec_core {F : HProp} {st : St} {w : World} {sp : Ctr} {args : List SV} {K : SV → St → VC} {vc : VC} {xs : List Value} (hwf : sp.wf = true)
    (hst : HSt S w0 F st ρ w) (hx : argsR S ρ args xs) (h : callSpec st sp args K = some vc) (hd : vc.den S ρ) :
    ∃ (ch : Nat → Bool) (ρc : Env G) (F' : HProp), argsR S ρc sp.args xs ∧ (∀ e ∈ sp.reqs, (e.den S ρc).toProp) ∧ Sat w0 (star (hpDen (S.wc ch) ρc w0 sp.pre) F') w ∧
      ∀ ρc' w', Ext sp.ss.length ρc ρc' → Sat w0 (star (hpDen (S.wc ch) ρc' w0 sp.post) F') w' → (∀ x ∈ sp.facts, (x.den S ρc').toProp) →
        ∃ ρ' sv st', Next' S w0 F st ρ ρ' st' w' ∧ (∀ v, sp.res.R S ρc' v → sv.R S ρ' v) ∧ (K sv st').den S ρ' := by
  obtain ⟨hw1, hw2, hw3, hw4, hw5, hw6⟩ : sp.args.all (SV.wf 0 sp.ss) = true ∧ sp.pre.all (Ch.wf 0 sp.ss) = true ∧ sp.reqs.all (SX.wf 0 sp.ss) = true ∧ sp.res.wf 0 (sp.ss ++ sp.ps) = true ∧
      sp.post.all (Ch.wf 0 (sp.ss ++ sp.ps)) = true ∧ sp.facts.all (SX.wf 0 (sp.ss ++ sp.ps)) = true := by
    unfold Ctr.wf at hwf
    simp only [Bool.cond_eq_ite] at hwf
    split at hwf
    · rename_i a1
      split at hwf
      · rename_i a2
        split at hwf
        · rename_i a3
          split at hwf
          · rename_i a4
            split at hwf
            · rename_i a5; exact ⟨a1, a2, a3, a4, a5, hwf⟩
            · cases hwf
          · cases hwf
        · cases hwf
      · cases hwf
    · cases hwf
  unfold callSpec at h
  simp only at h
  split at h
  · cases h
  · rename_i th hth
    cases hok : thOk th sp.ss
    · rw [hok] at h; cases h
    rw [hok] at h
    simp only [cond_true] at h
    split at h
    · cases h
    · rename_i ns1 he
      split at h
      · cases h
      · rename_i ns2 rest ks ht
        split at h
        · cases h
        · rename_i back hb
          cases hlt : th.all (SX.lt st.n)
          · rw [hlt] at h; cases h
          cases hks : ksOk ks
          · rw [hlt, hks] at h; cases h
          rw [hlt, hks] at h
          simp only [cond_true, Option.some.injEq] at h
          subst h
          obtain ⟨hn, hf⟩ := needs_den S ρ hd
          obtain ⟨hst_ok, hcont⟩ := fresh_den S ρ hf
          -- the callee's environment
          let ρc : Env G := fun i => (getTh th i).den S ρ
          have hlen := thOk_len hok
          have hThR : ThR S 0 th sp.ss ρ ρc := ⟨fun i hi => absurd hi (Nat.not_lt_zero _), fun i s hs => by
            have h1 := thOk_get hok i s hs
            have h2 := SX.srt_co S ρ (getTh th i)
            rw [h1] at h2
            simp only [ρc, Nat.zero_add]; exact h2⟩
          let ch : Nat → Bool := fun i => match getK ks i with | some K => chOf S K | none => false
          have hch : ∀ i K, (i, K) ∈ ks → ch i = chOf S K := fun i K hm => by
            have := getK_of_ok hks hm
            show (match getK ks i with | some K => chOf S K | none => false) = _
            rw [this]
          obtain ⟨hreq, hn2⟩ := foldr_need S ρ hst.asm hn
          obtain ⟨hn1, htake⟩ := takeChs_sound S ρ w0 hst.asm ch ht hn2 hch
          obtain ⟨hargs, _⟩ := eqVs_sound S ρ hst.asm he hn1 hx
          refine ⟨ch, ρc, star (hpDen S ρ w0 rest) F, argsR_sub S ρ hThR hw1 hargs, (mem_sub S ρ hThR hw3).1 hreq, ?_, ?_⟩
          · refine hst.hp.mono (fun y hy => ?_)
            have := htake _ _ hy
            rw [hp_sub_den S ρ w0 hThR ch hw2] at this
            exact this
          · intro ρc' w' hext hpost hfacts
            let us : List (U G) := (List.range sp.ps.length).map fun j => ρc' (sp.ss.length + j)
            have hus : us.length = sp.ps.length := by simp [us]
            have husj : ∀ j s, sp.ps[j]? = some s → us[j]? = some (ρc' (sp.ss.length + j)) := fun j s hs => by
              have := (List.getElem?_eq_some_iff.1 hs).1
              simp [us, this]
            let ρ' := updL S ρ st.n sp.ps us
            have hE : Ext st.n ρ ρ' := updL_ext S ρ st.n sp.ps us
            have hThR' : ThR S 0 (th ++ ats st.n sp.ps) (sp.ss ++ sp.ps) ρ' ρc' := ⟨fun i hi => absurd hi (Nat.not_lt_zero _), fun i s hs => by
              rw [Nat.zero_add]
              by_cases hi : i < sp.ss.length
              · rw [List.getElem?_append_left hi] at hs
                rw [getTh_append_left (by omega), hext i hi]
                have h1 := thOk_get hok i s hs
                have h2 := SX.srt_co S ρ (getTh th i)
                rw [h1] at h2
                have hm := List.all_eq_true.1 hlt _ (getTh_mem (l := th) (i := i) (by omega))
                rw [SX.den_ext S hE hm]
                exact h2
              · rw [List.getElem?_append_right (by omega)] at hs
                have e1 : getTh (th ++ ats st.n sp.ps) i = .at s (st.n + (i - sp.ss.length)) := by
                  have := getTh_append_right (l := th) (m := ats st.n sp.ps) (i := i - sp.ss.length)
                  rw [show th.length + (i - sp.ss.length) = i by omega] at this
                  rw [this, getTh_ats hs]
                rw [e1]
                simp only [SX.den]
                have h3 := updL_high S (n := st.n) (ρ := ρ) hs (husj _ _ hs)
                show _ = U.co S s (updL S ρ st.n sp.ps us (st.n + (i - sp.ss.length)))
                rw [h3, U.co_co, show sp.ss.length + (i - sp.ss.length) = i by omega]⟩
            have hfacts' : ∀ x ∈ sp.facts.map (SX.sub 0 (th ++ ats st.n sp.ps)), (x.den S ρ').toProp := (mem_sub S ρ' hThR' hw6).2 hfacts
            have hok' := hst_ok
            simp only [St.ok, Bool.cond_eq_ite] at hok'
            split at hok'
            · rename_i hfr
              split at hok'
              · rename_i hhp
                refine ⟨ρ', sp.res.sub 0 (th ++ ats st.n sp.ps), { st with hp := back ++ rest, n := st.n + sp.ps.length, asm := sp.facts.map (SX.sub 0 (th ++ ats st.n sp.ps)) ++ (((sp.reqs.map (SX.sub 0 th)).foldr (need st.asm) ns2) ++ st.asm) }, ⟨hE, Nat.le_add_right _ _, rfl, fun l hl => FrR_ext S hE hfr hl, ⟨?_, ?_⟩⟩, ?_, hcont us hus hfacts'⟩
                · -- memory
                  obtain ⟨y, hy, hin⟩ := hpost
                  rw [← hp_sub_den S ρ' w0 hThR' ch hw5] at hy
                  have hrest : rest.all (Ch.lt st.n) = true := by
                    have key : ∀ (ps hp hp' : List Ch) (ns ns' : List SX) (ks : List (Nat × RK)), takeChs st.asm ns ps hp = some (ns', hp', ks) → ∀ c ∈ hp', c ∈ hp := by
                      have k1 : ∀ (p : Ch) (hp hp' : List Ch) (ns ns' : List SX) (k : Option (Nat × RK)), takeCh st.asm ns p hp = some (ns', hp', k) → ∀ c ∈ hp', c ∈ hp := by
                        intro p hp
                        induction hp with
                        | nil =>
                          intro hp' ns ns' k h c hc
                          simp only [takeCh] at h; split at h
                          · cases h; cases hc
                          · cases h
                        | cons d l ih =>
                          intro hp' ns ns' k h c hc
                          simp only [takeCh, Bool.cond_eq_ite] at h
                          split at h
                          · split at h
                            · rename_i used _ _
                              cases h
                              split at hc
                              · exact List.mem_cons_of_mem _ hc
                              · exact hc
                            · cases h
                          · split at h
                            · rename_i h'
                              cases h
                              rcases List.mem_cons.1 hc with rfl | hc
                              · exact List.mem_cons_self
                              · exact List.mem_cons_of_mem _ (ih _ _ _ _ h' c hc)
                            · cases h
                      intro ps
                      induction ps with
                      | nil => intro hp hp' ns ns' ks h c hc; simp only [takeChs] at h; cases h; exact hc
                      | cons p l ih =>
                        intro hp hp' ns ns' ks h c hc
                        simp only [takeChs] at h
                        split at h
                        · rename_i h1
                          split at h
                          · rename_i h2; cases h
                            exact k1 _ _ _ _ _ _ h1 c (ih _ _ _ _ _ h2 c hc)
                          · cases h
                        · cases h
                    rw [List.all_eq_true] at hhp ⊢
                    intro c hc
                    exact hhp c (key _ _ _ _ _ _ ht c hc)
                  obtain ⟨z, hz, hzy⟩ := backCh_sound S ρ' w0 ch hch hb _ _ hy
                  refine ⟨z, ?_, hin.sub hzy⟩
                  rw [hpDen_append, star_assoc, hpDen_ext S hE w0 hrest]
                  exact hz
                · intro e he
                  rcases List.mem_append.1 he with he | he
                  · exact hfacts' e he
                  · rw [SX.den_ext S hE (List.all_eq_true.1 hok' e he)]
                    rcases List.mem_append.1 he with he | he
                    · exact hn e he
                    · exact hst.asm e he
                · intro v hv
                  exact (SV.sub_R S ρ' hThR' hw4).2 hv
              · cases hok'
            · cases hok'
end
end Go.Eng
