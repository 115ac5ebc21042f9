/- Bodies and contracts: that the symbolic run is the model's. -/
import Derived.Test.YtmjonggabppgaaaEngT
set_option linter.unusedSimpArgs false
set_option linter.unusedVariables false
namespace Go.Eng
open Go.RowKit (Below)

section
variable {P : Program}
def oneRun (tmps : Array Value) : ResultVar → Sem Value
  | .tmp t => pure (tmps.getD t undef)
  | .cell a t => do loadVar t (← asAddr (tmps.getD a undef))
theorem results_eq (fn : Func) (tmps : Array Value) : results fn tmps = (do
    let vs ← fn.results.mapM (oneRun tmps)
    pure (if h : vs.size = 1 then vs[0] else .tuple vs)) := by
  unfold results
  congr 2
theorem results_1 {fn : Func} {tmps : Array Value} {r : ResultVar} {x : Value} {w : World} (h : fn.results = #[r]) (h1 : (oneRun tmps r).run P w = .ok x w) : (results fn tmps).run P w = .ok x w := by
  rw [results_eq, h]; simp [h1]
theorem results_2 {fn : Func} {tmps : Array Value} {r r2 : ResultVar} {x x2 : Value} {w : World} (h : fn.results = #[r, r2]) (h1 : (oneRun tmps r).run P w = .ok x w) (h2 : (oneRun tmps r2).run P w = .ok x2 w) : (results fn tmps).run P w = .ok (.tuple #[x, x2]) w := by
  rw [results_eq, h]; simp [h1, h2]
theorem results_3 {fn : Func} {tmps : Array Value} {r r2 r3 : ResultVar} {x x2 x3 : Value} {w : World} (h : fn.results = #[r, r2, r3]) (h1 : (oneRun tmps r).run P w = .ok x w) (h2 : (oneRun tmps r2).run P w = .ok x2 w) (h3 : (oneRun tmps r3).run P w = .ok x3 w) : (results fn tmps).run P w = .ok (.tuple #[x, x2, x3]) w := by
  rw [results_eq, h]; simp [h1, h2, h3]
theorem results_4 {fn : Func} {tmps : Array Value} {r r2 r3 r4 : ResultVar} {x x2 x3 x4 : Value} {w : World} (h : fn.results = #[r, r2, r3, r4]) (h1 : (oneRun tmps r).run P w = .ok x w) (h2 : (oneRun tmps r2).run P w = .ok x2 w) (h3 : (oneRun tmps r3).run P w = .ok x3 w) (h4 : (oneRun tmps r4).run P w = .ok x4 w) : (results fn tmps).run P w = .ok (.tuple #[x, x2, x3, x4]) w := by
  rw [results_eq, h]; simp [h1, h2, h3, h4]
end

section
variable {G : Type} (S : Sig G) (w0 : World) (F : HProp) {P : Program} {C : Cx}
theorem oneRes_sound {st : St} {ρ : Env G} {a : Act} {w : World} (hd : Den S ρ w0 F st a w) {r : ResultVar} {p : Bool × List SC} (h : oneRes P st r = some p) : (oneRun a.tmps r).run P w = .ok (tupV S ρ p) w := by
  cases r with
  | tmp t =>
    simp only [oneRes] at h
    have hr := lk_R S hd.fr t
    rw [List.getD_eq_getElem?_getD, Array.getElem?_toList] at hr
    simp only [oneRun]
    rw [Array.getD_eq_getD_getElem?]
    split at h
    · rename_i c hc
      cases h
      rw [hc] at hr
      rw [R_one S ρ hr]; rfl
    · rename_i cs hc
      cases h
      rw [hc] at hr
      have := hr.resolve_left (by simp [SV.isJunk])
      rw [this]; rfl
    · cases h
  | cell x t =>
    simp only [oneRes] at h
    split at h
    · rename_i b o d n hs hd' hn
      have hr := lk_R S hd.fr x
      rw [List.getD_eq_getElem?_getD, Array.getElem?_toList, hs] at hr
      have hv := R_one S ρ hr
      have main : ∀ sv, loadAt st.hp st.asm (tyAgg d) (bif tyAgg d then n else 1) (.ptr b o) = some ([], sv) → held b st.hp = true → (oneRun a.tmps (.cell x t)).run P w = .ok (sv.den S ρ) w := by
        intro sv hl hh
        have hb := held_sound S ρ w0 hh hd.hp
        have := loadAt_sound S ρ w0 hd.asm hd.hp hd' hn hl (fun e he => nomatch he)
        simp only [SC.den] at this hv
        rw [if_neg (by omega)] at this hv
        simp only [oneRun]
        rw [Array.getD_eq_getD_getElem?, hv]
        exact this
      split at h
      · rename_i c hl
        simp only [Bool.cond_eq_ite] at h
        split at h
        · rename_i hh; cases h; exact main _ hl hh
        · cases h
      · rename_i cs hl
        simp only [Bool.cond_eq_ite] at h
        split at h
        · rename_i hh; cases h; exact main _ hl hh
        · cases h
      · cases h
    · cases h
theorem resOf_sound {st : St} {ρ : Env G} {a : Act} {w : World} (hd : Den S ρ w0 F st a w) {fn : Func} {sv : SV} (h : resOf P fn st = some sv) : ∃ v, (results fn a.tmps).run P w = .ok v w ∧ sv.R S ρ v := by
  unfold resOf at h
  split at h
  · rename_i hr
    cases h
    have : fn.results = #[] := by rw [← Array.toList_inj]; exact hr
    exact ⟨.tuple #[], results_none this _ _ _, .inr rfl⟩
  · rename_i r hr
    have : fn.results = #[r] := by rw [← Array.toList_inj]; exact hr
    split at h
    · rename_i c h1; cases h; exact ⟨_, results_1 this (oneRes_sound S w0 F hd h1), .inr rfl⟩
    · rename_i cs h1; cases h; exact ⟨_, results_1 this (oneRes_sound S w0 F hd h1), .inr rfl⟩
    · cases h
  · rename_i r1 r2 hr
    have : fn.results = #[r1, r2] := by rw [← Array.toList_inj]; exact hr
    obtain ⟨a1, h1, h⟩ := ob_some h
    obtain ⟨a2, h2, h⟩ := ob_some h
    cases h
    exact ⟨_, results_2 this (oneRes_sound S w0 F hd h1) (oneRes_sound S w0 F hd h2), .inr rfl⟩
  · rename_i r1 r2 r3 hr
    have : fn.results = #[r1, r2, r3] := by rw [← Array.toList_inj]; exact hr
    obtain ⟨a1, h1, h⟩ := ob_some h
    obtain ⟨a2, h2, h⟩ := ob_some h
    obtain ⟨a3, h3, h⟩ := ob_some h
    cases h
    exact ⟨_, results_3 this (oneRes_sound S w0 F hd h1) (oneRes_sound S w0 F hd h2) (oneRes_sound S w0 F hd h3), .inr rfl⟩
  · rename_i r1 r2 r3 r4 hr
    have : fn.results = #[r1, r2, r3, r4] := by rw [← Array.toList_inj]; exact hr
    obtain ⟨a1, h1, h⟩ := ob_some h
    obtain ⟨a2, h2, h⟩ := ob_some h
    obtain ⟨a3, h3, h⟩ := ob_some h
    obtain ⟨a4, h4, h⟩ := ob_some h
    cases h
    exact ⟨_, results_4 this (oneRes_sound S w0 F hd h1) (oneRes_sound S w0 F hd h2) (oneRes_sound S w0 F hd h3) (oneRes_sound S w0 F hd h4), .inr rfl⟩
  · cases h

theorem FrR_args {ρ : Env G} : ∀ {l : List SV} {xs : List Value} (n : Nat), argsR S ρ l xs → FrR S ρ (l ++ List.replicate n .junk) (xs ++ List.replicate n undef)
  | [], [], n, _ => by
    simp only [List.nil_append]
    induction n with
    | zero => trivial
    | succ n ih => exact ⟨.inl rfl, ih⟩
  | s :: l, v :: xs, n, h => ⟨h.1, FrR_args n h.2⟩
  | [], _ :: _, _, h => h.elim
  | _ :: _, [], _, h => h.elim
theorem argsR_len {ρ : Env G} : ∀ {l : List SV} {xs : List Value}, argsR S ρ l xs → l.length = xs.length
  | [], [], _ => rfl
  | s :: l, v :: xs, h => by simp [argsR_len h.2]
  | [], _ :: _, h => h.elim
  | _ :: _, [], h => h.elim
theorem FrR_ok {ρ ρ' : Env G} {st : St} (hok : st.ok = true) (hE : Ext st.n ρ ρ') {l : List Value} (h : FrR S ρ st.fr l) : FrR S ρ' st.fr l := by
  unfold St.ok at hok
  simp only [Bool.cond_eq_ite] at hok
  split at hok
  · rename_i hf; exact FrR_ext S hE hf h
  · cases hok

/-- Any run of a body is the model's. -/
theorem runBody_sound (hC : CxOk S P C) : ∀ (fuel : Nat), BodyOk S w0 F P (runBody P C fuel)
  | 0, f, args, st, K, ρ, w, xs, R, hst, hok, hx, h, hK => by simp only [runBody] at h; exact h.elim
  | fuel + 1, f, args, st, K, ρ, w, xs, R, hst, hok, hx, h, hK => by
    simp only [runBody] at h
    split at h
    · exact h.elim
    · rename_i fn hfn
      split at h
      · exact h.elim
      · rename_i c hc
        refine calls_of_wp hfn hc ?_
        have hd : Den S ρ w0 F { st with fr := args ++ List.replicate (fn.ntmps - args.length) .junk } { tmps := xs.toArray ++ Array.replicate (fn.ntmps - xs.toArray.size) undef, defers := [] } w := by
          refine ⟨?_, rfl, hst.hp, hst.asm⟩
          have := FrR_args S (fn.ntmps - args.length) hx
          simpa [argsR_len S hx] using this
        let Q : Exit → Act → World → Prop := fun e a w' => match e with | .panic _ => False | e => bodyPost P fn R e a w'
        have fin : ∀ ρ' st' a' w', After S w0 F { st with fr := args ++ List.replicate (fn.ntmps - args.length) .junk } ρ ρ' st' a' w' →
            (match resOf P fn st' with | some v => K v { st' with fr := st.fr } | none => VC.ff 54).den S ρ' → a'.defers = [] ∧ ∃ v, (results fn a'.tmps).run P w' = .ok v w' ∧ R (.returned v) w' := by
          intro ρ' st' a' w' haf hk
          split at hk
          · rename_i sv hsv
            obtain ⟨v, hr, hv⟩ := resOf_sound S w0 F haf.2.2 hsv
            refine ⟨haf.2.2.df, v, hr, hK ρ' sv { st' with fr := st.fr } w' v ⟨haf.1, haf.2.1, rfl, fun l hl => FrR_ok S hok haf.1 hl, ⟨haf.2.2.hp, haf.2.2.asm⟩⟩ hv hk⟩
          · exact hk.elim
        refine wp_mono (Q := Q) (sx_sound S w0 F (runBody_sound hC fuel) hC f 100000 c _ ρ _ w _ Q hd h ⟨?_, ?_, ?_, ?_⟩).2 ?_
        · intro ρ' st' a' w' haf hk; exact fin ρ' st' a' w' haf hk
        · intro ρ' st' a' w' haf hk; exact fin ρ' st' a' w' haf hk
        · intro i ρ' st' a' w' haf hk; exact hk.elim
        · intro c a w h; exact h
        · intro e a w h; cases e <;> first | exact h | exact h.elim

/-! ### A function keeps its contract -/
theorem VC.den_wc (ch : Nat → Bool) : ∀ (v : VC) (ρ : Env G), v.den (S.wc ch) ρ ↔ v.den S ρ
  | .tt, _ => Iff.rfl
  | .ff _, _ => Iff.rfl
  | .and a b, ρ => and_congr (VC.den_wc ch a ρ) (VC.den_wc ch b ρ)
  | .imp e a, ρ => by simp only [VC.den, SX.den_wc]; exact imp_congr Iff.rfl (VC.den_wc ch a ρ)
  | .need e a, ρ => by simp only [VC.den, SX.den_wc]; exact and_congr Iff.rfl (VC.den_wc ch a ρ)
  | .all n .int a, ρ => forall_congr' fun _ => VC.den_wc ch a _
  | .all n .bool a, ρ => forall_congr' fun _ => VC.den_wc ch a _
  | .all n .ints a, ρ => forall_congr' fun _ => VC.den_wc ch a _
  | .all n .bytes a, ρ => forall_congr' fun _ => VC.den_wc ch a _
  | .all n .rows a, ρ => forall_congr' fun _ => VC.den_wc ch a _
  | .all n .amap a, ρ => forall_congr' fun _ => VC.den_wc ch a _
  | .all n .g a, ρ => forall_congr' fun _ => VC.den_wc ch a _
theorem argsR_wc (ch : Nat → Bool) {ρ : Env G} : ∀ {l : List SV} {xs : List Value}, argsR (S.wc ch) ρ l xs ↔ argsR S ρ l xs
  | [], [] => Iff.rfl
  | s :: l, v :: xs => and_congr (SV.R_wc S ρ ch s v) (argsR_wc ch)
  | [], _ :: _ => Iff.rfl
  | _ :: _, [] => Iff.rfl
theorem CtrOk.wc (ch : Nat → Bool) {f : Nat} {sp : Ctr} (h : CtrOk S P f sp) : CtrOk (S.wc ch) P f sp := by
  intro ch' w0 F ρ w xs hx hr hs
  refine (h ch' w0 F ρ w xs ((argsR_wc S ch).1 hx) (fun e he => by have := hr e he; rwa [SX.den_wc] at this) hs).mono ?_
  rintro e w' ⟨ρ', v, hE, he, hv, hs', hf⟩
  exact ⟨ρ', v, hE, he, (SV.R_wc S ρ' ch _ _).2 hv, hs', fun x hx => by rw [SX.den_wc]; exact hf x hx⟩
theorem GhOk.wc (ch : Nat → Bool) {sp : Ctr} (h : GhOk S sp) : GhOk (S.wc ch) sp := by
  intro ch' w0 F ρ w hr hs
  obtain ⟨ρ', hE, hs', hf⟩ := h ch' w0 F ρ w (fun e he => by have := hr e he; rwa [SX.den_wc] at this) hs
  exact ⟨ρ', hE, hs', fun x hx => by rw [SX.den_wc]; exact hf x hx⟩
theorem ExtOk.wc (ch : Nat → Bool) {f : Nat} {sp : Ctr} (h : ExtOk S P f sp) : ExtOk (S.wc ch) P f sp := by
  intro ch' w0 F ρ w xs hx hr hs
  obtain ⟨v, w', hrun, ρ', hE, hv, hs', hf⟩ := h ch' w0 F ρ w xs ((argsR_wc S ch).1 hx) (fun e he => by have := hr e he; rwa [SX.den_wc] at this) hs
  exact ⟨v, w', hrun, ρ', hE, (SV.R_wc S ρ' ch _ _).2 hv, hs', fun x hx => by rw [SX.den_wc]; exact hf x hx⟩
theorem CxOk.wc (ch : Nat → Bool) (h : CxOk S P C) : CxOk (S.wc ch) P C :=
  ⟨fun f sps hf sp hm => ⟨(h.1 f sps hf sp hm).1, (h.1 f sps hf sp hm).2.wc S ch⟩, fun f l hf i sp args hm => ⟨(h.2.1 f l hf i sp args hm).1, (h.2.1 f l hf i sp args hm).2.wc S ch⟩,
    fun f sps hf sp hm => ⟨(h.2.2 f sps hf sp hm).1, (h.2.2 f sps hf sp hm).2.wc S ch⟩⟩

theorem ctr_wf {sp : Ctr} (hwf : sp.wf = true) : sp.args.all (SV.wf 0 sp.ss) = true ∧ sp.pre.all (Ch.wf 0 sp.ss) = true ∧ sp.reqs.all (SX.wf 0 sp.ss) = true ∧ sp.res.wf 0 (sp.ss ++ sp.ps) = true ∧
      sp.post.all (Ch.wf 0 (sp.ss ++ sp.ps)) = true ∧ sp.facts.all (SX.wf 0 (sp.ss ++ sp.ps)) = true := by
  unfold Ctr.wf at hwf
  simp only [Bool.cond_eq_ite] at hwf
  split at hwf
  · rename_i a1
    split at hwf
    · rename_i a2
      split at hwf
      · rename_i a3
        split at hwf
        · rename_i a4
          split at hwf
          · rename_i a5; exact ⟨a1, a2, a3, a4, a5, hwf⟩
          · cases hwf
        · cases hwf
      · cases hwf
    · cases hwf
  · cases hwf

theorem preX_get : ∀ {ss : List Srt} {th : List SX} {k i : Nat} {s : Srt}, preX (ats k ss) th = true → ss[i]? = some s → getTh th i = .at s (k + i)
  | [], th, k, i, s, h, hs => by simp at hs
  | t :: ss, [], k, i, s, h, hs => by cases h
  | t :: ss, e :: th, k, i, s, h, hs => by
    simp only [ats, preX, Bool.cond_eq_ite] at h
    split at h
    · rename_i hq
      cases i with
      | zero => simp at hs; subst hs; simp only [getTh]; rw [← SX.bq_eq hq]; rfl
      | succ i =>
        simp only [getTh]
        rw [preX_get h (by simpa using hs), show k + 1 + i = k + (i + 1) by omega]
    · cases h

/-- **What the symbolic run asks for is enough.** -/
theorem vcOf_sound (hC : CxOk S P C) {fuel f : Nat} {sp : Ctr} (h : ∀ ρ : Env G, (vcOf P C fuel f sp).den S ρ) : CtrOk S P f sp := by
  intro ch w0 F ρ w xs hx hreq hs
  have h := h ρ
  rw [← VC.den_wc S ch] at h
  unfold vcOf at h
  cases hwf : sp.wf
  · rw [hwf] at h; exact h.elim
  cases hok : St.ok { fr := [], hp := sp.pre, n := sp.ss.length, asm := sp.reqs }
  · rw [hwf, hok] at h; exact h.elim
  rw [hwf, hok] at h
  simp only [cond_true] at h
  have h := imps_den (S.wc ch) ρ h (fun e he => by rw [SX.den_wc]; exact hreq e he)
  obtain ⟨w1, w2, w3, w4, w5, w6⟩ := ctr_wf hwf
  refine runBody_sound (S.wc ch) w0 F (hC.wc S ch) fuel f sp.args _ _ ρ w xs _ ⟨hs, fun e he => by rw [SX.den_wc]; exact hreq e he⟩ hok ((argsR_wc S ch).2 hx) h ?_
  intro ρ' sv st' w' v hn hsv hk
  split at hk
  · exact hk.elim
  · rename_i th hth
    cases h1 : thOk th (sp.ss ++ sp.ps)
    · rw [h1] at hk; exact hk.elim
    cases h2 : preX (ats 0 sp.ss) th
    · rw [h1, h2] at hk; exact hk.elim
    rw [h1, h2] at hk
    simp only [cond_true] at hk
    split at hk
    · exact hk.elim
    · rename_i ns1 he
      split at hk
      · exact hk.elim
      · rename_i ns2 rest ks htk
        cases h3 : ks.all backOk
        · rw [h3] at hk; exact hk.elim
        rw [h3] at hk
        simp only [cond_true] at hk
        obtain ⟨hn3, _⟩ := needs_den (S.wc ch) ρ' hk
        obtain ⟨hf, hn2⟩ := foldr_need (S.wc ch) ρ' hn.hs.asm hn3
        have hch : ∀ i K, (i, K) ∈ ks → ch i = chOf (S.wc ch) K := fun i K hm => by
          have := List.all_eq_true.1 h3 _ hm
          cases K with
          | rd j => simp only [backOk] at this; rw [Nat.eq_of_beq_eq_true this]; rfl
          | _ => cases this
        obtain ⟨hn1, htake⟩ := takeChs_sound (S.wc ch) ρ' w0 hn.hs.asm ch htk hn2 hch
        obtain ⟨hv, _⟩ := eqV_sound (S.wc ch) ρ' hn.hs.asm he hn1
        let ρc : Env G := fun i => if i < sp.ss.length then ρ i else (getTh th i).den S ρ'
        have hT : ThR S 0 th (sp.ss ++ sp.ps) ρ' ρc := ⟨fun i hi => absurd hi (Nat.not_lt_zero _), fun i s hs => by
          rw [Nat.zero_add]
          by_cases hi : i < sp.ss.length
          · simp only [ρc, if_pos hi]
            rw [List.getElem?_append_left hi] at hs
            rw [preX_get h2 hs, Nat.zero_add]
            simp only [SX.den]
            rw [hn.ext i hi]
          · simp only [ρc, if_neg hi]
            have e1 := thOk_get h1 i s hs
            have e2 := SX.srt_co S ρ' (getTh th i)
            rw [e1] at e2
            exact e2⟩
        have hT' : ThR (S.wc ch) 0 th (sp.ss ++ sp.ps) ρ' ρc := ⟨hT.low, fun i s hs => by rw [SX.den_wc, co_wc]; exact hT.high i s hs⟩
        refine ⟨ρc, v, fun i hi => by simp only [ρc, if_pos hi], rfl, ?_, ?_, ?_⟩
        · have := (SV.sub_R (S.wc ch) ρ' hT' w4).1 (hv v hsv)
          exact (SV.R_wc S ρc ch _ _).1 this
        · have := hn.hs.hp.mono (htake _)
          rw [hp_sub_den (S.wc ch) ρ' w0 hT' ch w5] at this
          rw [star_left_comm] at this
          exact this.drop
        · have := (mem_sub (S.wc ch) ρ' hT' w6).1 hf
          intro x hx
          have := this x hx
          rwa [SX.den_wc] at this
end
end Go.Eng
