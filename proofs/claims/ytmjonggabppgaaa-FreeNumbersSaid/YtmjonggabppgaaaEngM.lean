/- Substitution, matching and contracts: that they mean what they should. -/
import Derived.Test.YtmjonggabppgaaaEngL
set_option linter.unusedSimpArgs false
set_option linter.unusedVariables false
namespace Go.Eng
open Go.RowKit (Below)

section
variable {G : Type} (S : Sig G) (ρ : Env G)

theorem SX.srt_co (e : SX) : U.co S e.srt (e.den S ρ) = e.den S ρ := by
  cases e with
  | int n => rfl
  | bool n => rfl
  | byt n => rfl
  | «at» s i => exact U.co_co S s _
  | us s f a b c d => exact U.co_co S s _
  | f1 f a =>
    simp only [SX.den, SX.srt]
    unfold ap1
    split <;> first | rfl | skip
    split <;> (repeat' split) <;> first | rfl | omega | (exfalso; simp_all; done) | (exfalso; simp_all; omega)
  | f2 f a b =>
    simp only [SX.den, SX.srt]
    unfold ap2
    split <;> first | rfl | skip
    split <;> (repeat' split) <;> first | rfl | omega | (exfalso; simp_all; done) | (exfalso; simp_all; omega)
  | f3 f a b c =>
    simp only [SX.den, SX.srt]
    unfold ap3
    split <;> first | rfl | skip
    split <;> first | rfl | (exfalso; simp_all; done)

theorem sq_eq {a b : Srt} (h : sq a b = true) : a = b := Srt.n_inj (Nat.eq_of_beq_eq_true h)
theorem srt_int {e : SX} (h : sq e.srt .int = true) : e.den S ρ = .int (e.den S ρ).toInt := by
  have := SX.srt_co S ρ e
  rw [sq_eq h] at this
  exact this.symm

/-- What the environment of a pattern must be, where the pattern's atoms are these terms. -/
structure ThR (d : Nat) (th : List SX) (ss : List Srt) (ρ ρc : Env G) : Prop where
  low : ∀ i, i < d → ρc i = ρ i
  high : ∀ i s, ss[i]? = some s → U.co S s (ρc (d + i)) = (getTh th i).den S ρ

theorem thOk_get : ∀ {th : List SX} {ss : List Srt}, thOk th ss = true → ∀ i s, ss[i]? = some s → (getTh th i).srt = s
  | [], [], _, i, s, h => by simp at h
  | e :: l, t :: m, hk, 0, s, h => by
    simp only [thOk, Bool.cond_eq_ite] at hk
    split at hk
    · rename_i hq; simp at h; subst h; exact sq_eq hq
    · cases hk
  | e :: l, t :: m, hk, i + 1, s, h => by
    simp only [thOk, Bool.cond_eq_ite] at hk
    split at hk
    · exact thOk_get hk i s (by simpa using h)
    · cases hk
  | [], _ :: _, hk, _, _, _ => by cases hk
  | _ :: _, [], hk, _, _, _ => by cases hk
theorem thOk_len : ∀ {th : List SX} {ss : List Srt}, thOk th ss = true → th.length = ss.length
  | [], [], _ => rfl
  | e :: l, t :: m, hk => by
    simp only [thOk, Bool.cond_eq_ite] at hk
    split at hk
    · simp [thOk_len hk]
    · cases hk
  | [], _ :: _, hk => by cases hk
  | _ :: _, [], hk => by cases hk

theorem SX.sub_den {d : Nat} {th : List SX} {ss : List Srt} {ρc : Env G} (h : ThR S d th ss ρ ρc) : ∀ {e : SX}, e.wf d ss = true → (e.sub d th).den S ρ = e.den S ρc := by
  intro e
  induction e with
  | int n => intro _; rfl
  | bool n => intro _; rfl
  | byt n => intro _; rfl
  | «at» s i =>
    intro hw
    simp only [SX.sub, SX.wf] at *
    cases hlt : Nat.blt i d
    · rw [hlt] at hw
      simp only [cond_false] at hw ⊢
      have hge : d ≤ i := by
        rcases Nat.lt_or_ge i d with h | h
        · have := (by simpa [Nat.blt_eq] using h : Nat.blt i d = true); rw [this] at hlt; cases hlt
        · exact h
      split at hw
      · rename_i t ht
        have h1 := h.high _ _ ht
        have := sq_eq hw
        subst this
        rw [show d + (i - d) = i by omega] at h1
        simp only [SX.den]
        exact h1.symm
      · cases hw
    · simp only [cond_true, SX.den]
      rw [h.low i (by simpa [Nat.blt_eq] using hlt)]
  | f1 f a ih => intro hw; simp only [SX.sub]; rw [SX.mk1_den]; simp only [SX.den]; rw [ih hw]
  | f2 f a b ih ih' =>
    intro hw; simp [SX.wf, Bool.cond_eq_ite] at hw
    simp only [SX.sub]; rw [SX.mkS2_den]; simp only [SX.den]; rw [ih hw.1, ih' hw.2]
  | f3 f a b c ih ih' ih'' =>
    intro hw; simp [SX.wf, Bool.cond_eq_ite] at hw
    simp only [SX.sub]; rw [SX.mkS3_den]; simp only [SX.den]; rw [ih hw.1, ih' hw.2.1, ih'' hw.2.2]
  | us s f a b c e ih ih' ih'' ih3 =>
    intro hw; simp [SX.wf, Bool.cond_eq_ite] at hw
    simp only [SX.sub, SX.den]; rw [ih hw.1, ih' hw.2.1, ih'' hw.2.2.1, ih3 hw.2.2.2]

theorem SC.sub_den {d : Nat} {th : List SX} {ss : List Srt} {ρc : Env G} (h : ThR S d th ss ρ ρc) : ∀ {e : SC}, e.wf d ss = true → (e.sub d th).den S ρ = e.den S ρc := by
  intro e
  induction e with
  | int k e => intro hw; simp only [SC.sub, SC.den]; rw [SX.sub_den S ρ h hw]
  | bool e => intro hw; simp only [SC.sub, SC.den]; rw [SX.sub_den S ρ h hw]
  | str e => intro hw; simp only [SC.sub, SC.den]; rw [SX.sub_den S ρ h hw]
  | map e => intro hw; simp only [SC.sub, SC.den]; rw [SX.sub_den S ρ h hw]
  | ptr b o => intro hw; simp only [SC.sub, SC.den]; rw [SX.sub_den S ρ h hw]
  | ep b o i s j => intro hw; simp [SC.wf, Bool.cond_eq_ite] at hw; simp only [SC.sub, SC.den]; rw [SX.sub_den S ρ h hw.1, SX.sub_den S ρ h hw.2.1, SX.sub_den S ρ h hw.2.2]
  | slice b o k z l c s =>
    intro hw; simp [SC.wf, Bool.cond_eq_ite] at hw
    obtain ⟨h1, h2, h3, h4, h5, h6⟩ := hw
    simp only [SC.sub, SC.den]; rw [SX.sub_den S ρ h h1, SX.sub_den S ρ h h2, SX.sub_den S ρ h h3, SX.sub_den S ρ h h4, SX.sub_den S ρ h h5, SX.sub_den S ρ h h6]
  | fn f => intro _; rfl
  | nilfn => intro _; rfl
  | nilif => intro _; rfl
  | cap g x ih ih' => intro hw; simp [SC.wf, Bool.cond_eq_ite] at hw; simp only [SC.sub, SC.den]; rw [ih hw.1, ih' hw.2]
  | ifc t v ih => intro hw; simp only [SC.sub, SC.den]; rw [ih hw]
theorem SCs.sub_den {d : Nat} {th : List SX} {ss : List Srt} {ρc : Env G} (h : ThR S d th ss ρ ρc) : ∀ {l : List SC}, l.all (SC.wf d ss) = true → (l.map (SC.sub d th)).map (SC.den S ρ) = l.map (SC.den S ρc)
  | [], _ => rfl
  | c :: l, hw => by
    simp only [List.all_cons, Bool.and_eq_true] at hw
    simp only [List.map_cons]
    rw [SC.sub_den S ρ h hw.1, SCs.sub_den h hw.2]
theorem SV.sub_den {d : Nat} {th : List SX} {ss : List Srt} {ρc : Env G} (h : ThR S d th ss ρ ρc) {v : SV} (hw : v.wf d ss = true) : (v.sub d th).den S ρ = v.den S ρc ∧ (v.sub d th).isJunk = v.isJunk := by
  cases v with
  | junk => exact ⟨rfl, rfl⟩
  | one c => exact ⟨SC.sub_den S ρ h hw, rfl⟩
  | agg cs => refine ⟨?_, rfl⟩; simp only [SV.sub, SV.den]; rw [SCs.sub_den S ρ h hw]
  | tup vs =>
    refine ⟨?_, rfl⟩
    simp only [SV.sub, SV.den, List.map_map]
    congr 2
    apply List.map_congr_left
    intro p hp
    have hq := List.all_eq_true.1 hw p hp
    obtain ⟨b, cs⟩ := p
    simp only [Function.comp]
    have hm := SCs.sub_den S ρ h hq
    unfold tupV
    cases b with
    | true => simp only; rw [hm]
    | false =>
      match cs, hm with
      | [], hm => rfl
      | [c], hm => simpa using hm
      | c :: c' :: r, hm => simp only [List.map_cons] at hm ⊢; rw [hm]
theorem SV.sub_R {d : Nat} {th : List SX} {ss : List Srt} {ρc : Env G} (h : ThR S d th ss ρ ρc) {v : SV} (hw : v.wf d ss = true) {x : Value} : (v.sub d th).R S ρ x ↔ v.R S ρc x := by
  obtain ⟨h1, h2⟩ := SV.sub_den S ρ h hw
  unfold SV.R; rw [h1, h2]

def Sig.wc (S : Sig G) (ch : Nat → Bool) : Sig G := { S with ch := ch }
theorem co_wc (ch : Nat → Bool) (s : Srt) (u : U G) : U.co (S.wc ch) s u = U.co S s u := by cases s <;> rfl
theorem SX.den_wc (ch : Nat → Bool) : ∀ (e : SX), e.den (S.wc ch) ρ = e.den S ρ := by
  intro e
  induction e with
  | int n => rfl
  | bool n => rfl
  | byt n => rfl
  | «at» s i => exact co_wc S ch s _
  | f1 f a ih => simp only [SX.den]; rw [ih]
  | f2 f a b ih ih' => simp only [SX.den]; rw [ih, ih']
  | f3 f a b c ih ih' ih'' => simp only [SX.den]; rw [ih, ih', ih'']
  | us s f a b c d ih ih' ih'' ih3 => simp only [SX.den]; rw [ih, ih', ih'', ih3, co_wc]; rfl
theorem SC.den_wc (ch : Nat → Bool) : ∀ (e : SC), e.den (S.wc ch) ρ = e.den S ρ := by
  intro e
  induction e with
  | cap g x ih ih' => simp only [SC.den]; rw [ih, ih']
  | ifc t v ih => simp only [SC.den]; rw [ih]
  | _ => simp only [SC.den, SX.den_wc]
theorem SCs.den_wc (ch : Nat → Bool) (l : List SC) : l.map (SC.den (S.wc ch) ρ) = l.map (SC.den S ρ) := List.map_congr_left fun c _ => SC.den_wc S ρ ch c
theorem SV.den_wc (ch : Nat → Bool) (v : SV) : v.den (S.wc ch) ρ = v.den S ρ := by
  cases v with
  | junk => rfl
  | one c => exact SC.den_wc S ρ ch c
  | agg cs => simp only [SV.den]; rw [SCs.den_wc]
  | tup vs =>
    simp only [SV.den]
    congr 2
    apply List.map_congr_left
    intro p _
    unfold tupV
    split
    · exact SC.den_wc S ρ ch _
    · rw [SCs.den_wc]
theorem SV.R_wc (ch : Nat → Bool) (v : SV) (x : Value) : v.R (S.wc ch) ρ x ↔ v.R S ρ x := by unfold SV.R; rw [SV.den_wc]

/-- A chunk of a contract, its readable arrays paid as 'ch' says, in the caller's terms. -/
theorem Ch.sub_den (w0 : World) {d : Nat} {th : List SX} {ss : List Srt} {ρc : Env G} (h : ThR S d th ss ρ ρc) (ch : Nat → Bool) {c : Ch} (hw : c.wf d ss = true) :
    (c.sub d th).den (S.wc ch) ρ w0 = c.den (S.wc ch) ρc w0 := by
  have hx : ∀ {e : SX}, e.wf d ss = true → (e.sub d th).den (S.wc ch) ρ = e.den (S.wc ch) ρc := fun {e} he => by rw [SX.den_wc, SX.den_wc]; exact SX.sub_den S ρ h he
  have hcs : ∀ {l : List SC}, l.all (SC.wf d ss) = true → (l.map (SC.sub d th)).map (SC.den (S.wc ch) ρ) = l.map (SC.den (S.wc ch) ρc) := fun {l} hl => by rw [SCs.den_wc, SCs.den_wc]; exact SCs.sub_den S ρ h hl
  cases c with
  | cel b o cs =>
    simp [Ch.wf, Bool.cond_eq_ite] at hw
    simp only [Ch.sub, Ch.den]; rw [hx hw.1, hcs (by simpa using hw.2)]
    have : (cs.map (SC.sub d th) = []) = (cs = []) := by cases cs <;> simp
    simp only [this]
  | arr e b x c => simp [Ch.wf, Bool.cond_eq_ite] at hw; simp only [Ch.sub, Ch.den]; rw [hx hw.1, hx hw.2.1, hx hw.2.2]
  | ro e b o x => simp [Ch.wf, Bool.cond_eq_ite] at hw; simp only [Ch.sub, Ch.den]; rw [hx hw.1, hx hw.2.1, hx hw.2.2]
  | rd i e b o x c => simp [Ch.wf, Bool.cond_eq_ite] at hw; simp only [Ch.sub, Ch.den]; rw [hx hw.1, hx hw.2.1, hx hw.2.2.1, hx hw.2.2.2]
  | map kk v b m => simp [Ch.wf, Bool.cond_eq_ite] at hw; simp only [Ch.sub, Ch.den]; rw [hx hw.1, hx hw.2]
  | prd p k x =>
    simp [Ch.wf, Bool.cond_eq_ite] at hw; simp only [Ch.sub, Ch.den]; rw [hx hw.1, hx hw.2]
theorem hp_sub_den (w0 : World) {d : Nat} {th : List SX} {ss : List Srt} {ρc : Env G} (h : ThR S d th ss ρ ρc) (ch : Nat → Bool) {l : List Ch} (hw : l.all (Ch.wf d ss) = true) :
    hpDen (S.wc ch) ρ w0 (l.map (Ch.sub d th)) = hpDen (S.wc ch) ρc w0 l := by
  unfold hpDen
  congr 1
  rw [List.map_map]
  apply List.map_congr_left
  intro c hc
  exact Ch.sub_den S ρ w0 h ch (List.all_eq_true.1 hw c hc)

/-! ### Checked equality -/
theorem eqX_sound {asm : List SX} (ha : ∀ x ∈ asm, (x.den S ρ).toProp) {a b : SX} {ns ns' : List SX} (h : eqX asm a b ns = some ns') (hn : ∀ x ∈ ns', (x.den S ρ).toProp) :
    a.den S ρ = b.den S ρ ∧ ∀ x ∈ ns, (x.den S ρ).toProp := by
  unfold eqX at h
  cases hq : SX.bq a b
  · rw [hq] at h
    simp only [cond_false] at h
    cases h1 : sq a.srt .int
    · rw [h1] at h; cases h
    cases h2 : sq b.srt .int
    · rw [h1, h2] at h; cases h
    rw [h1, h2] at h
    simp only [cond_true, Option.some.injEq] at h
    subst h
    obtain ⟨he, hns⟩ := need_sound S ρ ha hn
    refine ⟨?_, hns⟩
    rw [SX.mk2_den] at he
    simp [SX.den, ap2] at he
    rw [srt_int S ρ h1, srt_int S ρ h2, he]
  · rw [hq] at h; cases h
    exact ⟨by rw [SX.bq_eq hq], hn⟩
theorem ob_some {α β : Type} {o : Option α} {f : α → Option β} {b : β} (h : ob o f = some b) : ∃ a, o = some a ∧ f a = some b := by
  unfold ob at h; cases o with
  | none => cases h
  | some a => exact ⟨a, rfl, h⟩
theorem eqC_sound {asm : List SX} (ha : ∀ x ∈ asm, (x.den S ρ).toProp) : ∀ {a b : SC} {ns ns' : List SX}, eqC asm ns a b = some ns' → (∀ x ∈ ns', (x.den S ρ).toProp) →
    a.den S ρ = b.den S ρ ∧ ∀ x ∈ ns, (x.den S ρ).toProp := by
  intro a
  induction a with
  | int k e =>
    intro b ns ns' h hn; cases b <;> simp only [eqC, reduceCtorEq] at h
    rw [Bool.cond_eq_ite] at h; split at h
    · rename_i hk; obtain ⟨h1, h2⟩ := eqX_sound S ρ ha h hn
      exact ⟨by simp only [SC.den]; rw [h1, kn_inj (Nat.eq_of_beq_eq_true hk)], h2⟩
    · cases h
  | bool e =>
    intro b ns ns' h hn; cases b <;> simp only [eqC, reduceCtorEq] at h
    obtain ⟨h1, h2⟩ := eqX_sound S ρ ha h hn; exact ⟨by simp only [SC.den]; rw [h1], h2⟩
  | str e =>
    intro b ns ns' h hn; cases b <;> simp only [eqC, reduceCtorEq] at h
    obtain ⟨h1, h2⟩ := eqX_sound S ρ ha h hn; exact ⟨by simp only [SC.den]; rw [h1], h2⟩
  | map e =>
    intro b ns ns' h hn; cases b <;> simp only [eqC, reduceCtorEq] at h
    obtain ⟨h1, h2⟩ := eqX_sound S ρ ha h hn; exact ⟨by simp only [SC.den]; rw [h1], h2⟩
  | ptr b o =>
    intro b ns ns' h hn; cases b <;> simp only [eqC, reduceCtorEq] at h
    rw [Bool.cond_eq_ite] at h; split at h
    · rename_i hk; obtain ⟨h1, h2⟩ := eqX_sound S ρ ha h hn
      exact ⟨by simp only [SC.den]; rw [h1, Nat.eq_of_beq_eq_true hk], h2⟩
    · cases h
  | ep b o i s j =>
    intro b ns ns' h hn; cases b <;> simp only [eqC, reduceCtorEq] at h
    rename_i b' o' i' s' j'
    rw [Bool.cond_eq_ite] at h; split at h
    · rename_i hk
      have hs : Nat.beq s s' = true := by
        cases hq : Nat.beq s s'
        · rw [hq] at hk; cases hk
        · rfl
      have hj : Nat.beq j j' = true := by rw [hs] at hk; exact hk
      obtain ⟨n1, e1, h⟩ := ob_some h
      obtain ⟨n2, e2, h⟩ := ob_some h
      obtain ⟨h3, hn2⟩ := eqX_sound S ρ ha h hn
      obtain ⟨h2, hn1⟩ := eqX_sound S ρ ha e2 hn2
      obtain ⟨h1, hn0⟩ := eqX_sound S ρ ha e1 hn1
      exact ⟨by simp only [SC.den]; rw [h1, h2, h3, Nat.eq_of_beq_eq_true hs, Nat.eq_of_beq_eq_true hj], hn0⟩
    · cases h
  | slice b o k z l c s =>
    intro b ns ns' h hn; cases b <;> simp only [eqC, reduceCtorEq] at h
    rename_i b' o' k' z' l' c' s'
    rw [Bool.cond_eq_ite] at h; split at h
    · rename_i hk
      obtain ⟨n1, e1, h⟩ := ob_some h
      obtain ⟨n2, e2, h⟩ := ob_some h
      obtain ⟨n3, e3, h⟩ := ob_some h
      obtain ⟨n4, e4, h⟩ := ob_some h
      obtain ⟨n5, e5, h⟩ := ob_some h
      obtain ⟨h6, hn5⟩ := eqX_sound S ρ ha h hn
      obtain ⟨h5, hn4⟩ := eqX_sound S ρ ha e5 hn5
      obtain ⟨h4, hn3⟩ := eqX_sound S ρ ha e4 hn4
      obtain ⟨h3, hn2⟩ := eqX_sound S ρ ha e3 hn3
      obtain ⟨h2, hn1⟩ := eqX_sound S ρ ha e2 hn2
      obtain ⟨h1, hn0⟩ := eqX_sound S ρ ha e1 hn1
      refine ⟨?_, hn0⟩
      simp only [SC.den]; rw [h1, h2, h3, h4, h5, h6]
      cases hs : Nat.beq s s'
      · rw [hs] at hk
        have hk' : SX.bq k' (.int 0) = true ∧ SX.bq z' (.int 0) = true := by
          cases q1 : SX.bq k (.int 0)
          · rw [q1] at hk; cases hk
          cases q2 : SX.bq z (.int 0)
          · rw [q1, q2] at hk; cases hk
          cases q3 : SX.bq k' (.int 0)
          · rw [q1, q2, q3] at hk; cases hk
          rw [q1, q2, q3] at hk
          exact ⟨rfl, hk⟩
        rw [SX.bq_eq hk'.1, SX.bq_eq hk'.2]
        simp [SX.den]
      · rw [Nat.eq_of_beq_eq_true hs]
    · cases h
  | fn f =>
    intro b ns ns' h hn; cases b <;> simp only [eqC, reduceCtorEq] at h
    rw [Bool.cond_eq_ite] at h; split at h
    · rename_i hk; cases h; exact ⟨by rw [Nat.eq_of_beq_eq_true hk], hn⟩
    · cases h
  | cap g x ih ih' =>
    intro b ns ns' h hn; cases b <;> simp only [eqC, reduceCtorEq] at h
    obtain ⟨n1, e1, h⟩ := ob_some h
    obtain ⟨h2, hn1⟩ := ih' h hn
    obtain ⟨h1, hn0⟩ := ih e1 hn1
    exact ⟨by simp only [SC.den]; rw [h1, h2], hn0⟩
  | nilfn => intro b ns ns' h hn; cases b <;> simp only [eqC, reduceCtorEq] at h; cases h; exact ⟨rfl, hn⟩
  | nilif => intro b ns ns' h hn; cases b <;> simp only [eqC, reduceCtorEq] at h; cases h; exact ⟨rfl, hn⟩
  | ifc t v ih =>
    intro b ns ns' h hn; cases b <;> simp only [eqC, reduceCtorEq] at h
    rw [Bool.cond_eq_ite] at h; split at h
    · rename_i hk; obtain ⟨h1, h2⟩ := ih h hn
      exact ⟨by simp only [SC.den]; rw [h1, Nat.eq_of_beq_eq_true hk], h2⟩
    · cases h
theorem eqCs_sound {asm : List SX} (ha : ∀ x ∈ asm, (x.den S ρ).toProp) : ∀ {a b : List SC} {ns ns' : List SX}, eqCs asm ns a b = some ns' → (∀ x ∈ ns', (x.den S ρ).toProp) →
    a.map (SC.den S ρ) = b.map (SC.den S ρ) ∧ ∀ x ∈ ns, (x.den S ρ).toProp
  | [], [], ns, ns', h, hn => by cases h; exact ⟨rfl, hn⟩
  | a :: l, b :: m, ns, ns', h, hn => by
    obtain ⟨n1, e1, h⟩ := ob_some h
    obtain ⟨h2, hn1⟩ := eqCs_sound ha h hn
    obtain ⟨h1, hn0⟩ := eqC_sound S ρ ha e1 hn1
    exact ⟨by simp [h1, h2], hn0⟩
  | [], _ :: _, _, _, h, _ => by cases h
  | _ :: _, [], _, _, h, _ => by cases h
theorem eqTs_sound {asm : List SX} (ha : ∀ x ∈ asm, (x.den S ρ).toProp) : ∀ {a b : List (Bool × List SC)} {ns ns' : List SX}, eqTs asm ns a b = some ns' → (∀ x ∈ ns', (x.den S ρ).toProp) →
    (SV.tup a).den S ρ = (SV.tup b).den S ρ ∧ ∀ x ∈ ns, (x.den S ρ).toProp := by
  intro a
  induction a with
  | nil => intro b ns ns' h hn; cases b with
    | nil => cases h; exact ⟨rfl, hn⟩
    | cons => cases h
  | cons a l ih =>
    intro b ns ns' h hn
    cases b with
    | nil => cases h
    | cons b m =>
      simp only [eqTs, Bool.cond_eq_ite] at h
      split at h
      · rename_i hb
        obtain ⟨n1, e1, h⟩ := ob_some h
        obtain ⟨h2, hn1⟩ := ih h hn
        obtain ⟨h1, hn0⟩ := eqCs_sound S ρ ha e1 hn1
        refine ⟨?_, hn0⟩
        obtain ⟨a1, a2⟩ := a
        obtain ⟨b1, b2⟩ := b
        simp only at hb h1
        have := bbq_eq hb
        subst this
        simp only [SV.den, Value.tuple.injEq] at h2
        have h2' : l.map (tupV S ρ) = m.map (tupV S ρ) := by simpa using h2
        simp only [SV.den, List.map_cons]
        rw [h2']
        congr 3
        unfold tupV
        cases a1 with
        | true => simp only; rw [h1]
        | false =>
          match a2, b2, h1 with
          | [], [], _ => rfl
          | [c], [c'], h1 => simpa using h1
          | c :: c' :: r, e :: e' :: r', h1 => simp only; rw [h1]
          | [], _ :: _, h1 => simp at h1
          | _ :: _, [], h1 => simp at h1
          | [_], _ :: _ :: _, h1 => simp at h1
          | _ :: _ :: _, [_], h1 => simp at h1
      · cases h
theorem eqV_sound {asm : List SX} (ha : ∀ x ∈ asm, (x.den S ρ).toProp) {p v : SV} {ns ns' : List SX} (h : eqV asm ns p v = some ns') (hn : ∀ x ∈ ns', (x.den S ρ).toProp) :
    (∀ x, v.R S ρ x → p.R S ρ x) ∧ ∀ x ∈ ns, (x.den S ρ).toProp := by
  unfold eqV at h
  split at h
  · cases h; exact ⟨fun _ _ => .inl rfl, hn⟩
  · obtain ⟨h1, h2⟩ := eqC_sound S ρ ha h hn
    exact ⟨fun x hx => .inr (by rw [R_one S ρ hx]; exact h1.symm), h2⟩
  · obtain ⟨h1, h2⟩ := eqCs_sound S ρ ha h hn
    exact ⟨fun x hx => .inr (by rw [R_agg S ρ hx]; simp only [SV.den]; rw [h1]), h2⟩
  · obtain ⟨h1, h2⟩ := eqTs_sound S ρ ha h hn
    refine ⟨fun x hx => ?_, h2⟩
    rcases hx with hj | he
    · cases hj
    · exact .inr (he.trans h1.symm)
  · cases h
def argsR : List SV → List Value → Prop
  | [], [] => True
  | s :: l, v :: m => s.R S ρ v ∧ argsR l m
  | _, _ => False
theorem eqVs_sound {asm : List SX} (ha : ∀ x ∈ asm, (x.den S ρ).toProp) : ∀ {p v : List SV} {xs : List Value} {ns ns' : List SX}, eqVs asm ns p v = some ns' → (∀ x ∈ ns', (x.den S ρ).toProp) → argsR S ρ v xs →
    argsR S ρ p xs ∧ ∀ x ∈ ns, (x.den S ρ).toProp
  | [], [], xs, ns, ns', h, hn, hx => by cases h; exact ⟨hx, hn⟩
  | a :: l, b :: m, xs, ns, ns', h, hn, hx => by
    obtain ⟨n1, e1, h⟩ := ob_some h
    cases xs with
    | nil => exact hx.elim
    | cons x xs =>
      obtain ⟨h2, hn1⟩ := eqVs_sound ha h hn hx.2
      obtain ⟨h1, hn0⟩ := eqV_sound S ρ ha e1 hn1
      exact ⟨⟨h1 _ hx.1, h2⟩, hn0⟩
  | [], _ :: _, _, _, _, h, _, _ => by cases h
  | _ :: _, [], _, _, _, h, _, _ => by cases h
end
end Go.Eng
