/- Part of a proof. -/
import Derived.Test.YtlmkcakhhbckhaaGreatDoorPt3
import Derived.Lib.Overlaps
import Derived.ChangeSame
import Derived.Test.YtlmkcakhhbckhaaGreatDoorProg
import Derived.KernelRfl
import Derived.Lib.Bytealg
import Derived.Calls
import Derived.Below
import Derived.Orders
set_option linter.unusedSimpArgs false
set_option linter.unusedVariables false
set_option maxRecDepth 20000
namespace Go.Eng
noncomputable section
open Go.RowKit (Below)
section
variable {P : Program}
def Zak (tmps : Array Value) : ResultVar -> Sem Value
 | .tmp t => pure (tmps.getD t undef)
 | .cell a t => do loadVar t (<- asAddr (tmps.getD a undef))
theorem Zcd (fn : Func) (tmps : Array Value) : results fn tmps = (do
  let vs <- fn.results.mapM (Zak tmps)
  pure (if h : vs.size = 1 then vs[0] else .tuple vs)) := by
 unfold results
 congr 2
theorem ZiN {fn : Func} {tmps : Array Value} {r : ResultVar} {x : Value} {w : World} (h : fn.results = #[r]) (h1 : (Zak tmps r).run P w = .ok x w) : (results fn tmps).run P w = .ok x w := by
 rw [Zcd, h]; simp [h1]
theorem Znc {fn : Func} {tmps : Array Value} {r r2 : ResultVar} {x x2 : Value} {w : World} (h : fn.results = #[r, r2]) (h1 : (Zak tmps r).run P w = .ok x w) (h2 : (Zak tmps r2).run P w = .ok x2 w) : (results fn tmps).run P w = .ok (.tuple #[x, x2]) w := by
 rw [Zcd, h]; simp [h1, h2]
theorem Zn6 {fn : Func} {tmps : Array Value} {r r2 r3 : ResultVar} {x x2 x3 : Value} {w : World} (h : fn.results = #[r, r2, r3]) (h1 : (Zak tmps r).run P w = .ok x w) (h2 : (Zak tmps r2).run P w = .ok x2 w) (h3 : (Zak tmps r3).run P w = .ok x3 w) : (results fn tmps).run P w = .ok (.tuple #[x, x2, x3]) w := by
 rw [Zcd, h]; simp [h1, h2, h3]
theorem Zoe {fn : Func} {tmps : Array Value} {r r2 r3 r4 : ResultVar} {x x2 x3 x4 : Value} {w : World} (h : fn.results = #[r, r2, r3, r4]) (h1 : (Zak tmps r).run P w = .ok x w) (h2 : (Zak tmps r2).run P w = .ok x2 w) (h3 : (Zak tmps r3).run P w = .ok x3 w) (h4 : (Zak tmps r4).run P w = .ok x4 w) : (results fn tmps).run P w = .ok (.tuple #[x, x2, x3, x4]) w := by
 rw [Zcd, h]; simp [h1, h2, h3, h4]
end
section
variable {G : Type} (S : Sig G) (w0 : World) (F : Ze) {P : Program} {C : Cx}
theorem Zx {st : St} {ρ : Env G} {a : Act} {w : World} (hd : Den S ρ w0 F st a w) {r : ResultVar} {p : Bool × List SC} (h : Za5 P st r = some p) : (Zak a.tmps r).run P w = .ok (ZcR S ρ p) w := by
 cases r with
 | tmp t =>
  simp only [Za5] at h
  have hr := Zlp S hd.fr t
  rw [ZxF, Zxu] at hr
  simp only [Zak]
  rw [Array.getD_eq_getD_getElem?]
  split at h
  ·rename_i c hc
   cases h
   rw [hc] at hr
   rw [R_one S ρ hr]; rfl
  ·rename_i cs hc
   cases h
   rw [hc] at hr
   have := hr.resolve_left (by simp [SV.isJunk])
   rw [this]; rfl
  ·cases h
 | cell x t =>
  simp only [Za5] at h
  split at h
  ·rename_i b o d n hs hd' hn
   have hr := Zlp S hd.fr x
   rw [ZxF, Zxu, hs] at hr
   have hv := R_one S ρ hr
   have main : ∀ sv, loadAt st.hp st.asm (YD d) (bif YD d then n else 1) (.ptr b o) = some ([], sv) -> ZjG b st.hp = true -> (Zak a.tmps (.cell x t)).run P w = .ok (sv.den S ρ) w := by
    intro sv hl hh
    have hb := Zga S ρ w0 hh hd.hp
    have := Zed S ρ w0 hd.asm hd.hp hd' hn hl (fun e he => nomatch he)
    simp only [SC.den] at this hv
    rw [if_neg (by omega)] at this hv
    simp only [Zak]
    rw [Array.getD_eq_getD_getElem?, hv]
    exact this
   split at h
   ·rename_i c hl
    simp only [ZxJ] at h
    split at h
    ·rename_i hh; cases h; exact main _ hl hh
    ·cases h
   ·rename_i cs hl
    simp only [ZxJ] at h
    split at h
    ·rename_i hh; cases h; exact main _ hl hh
    ·cases h
   ·cases h
  ·cases h
theorem Zj2 {st : St} {ρ : Env G} {a : Act} {w : World} (hd : Den S ρ w0 F st a w) {fn : Func} {sv : SV} (h : ZqP P fn st = some sv) : ∃ v, (results fn a.tmps).run P w = .ok v w /\ sv.R S ρ v := by
 unfold ZqP at h
 split at h
 ·rename_i hr
  cases h
  have : fn.results = #[] := by rw [<- Array.toList_inj]; exact hr
  exact ⟨.tuple #[], results_none this _ _ _, .inr rfl⟩
 ·rename_i r hr
  have : fn.results = #[r] := by rw [<- Array.toList_inj]; exact hr
  split at h
  ·rename_i c h1; cases h; exact ⟨_, ZiN this (Zx S w0 F hd h1), .inr rfl⟩
  ·rename_i cs h1; cases h; exact ⟨_, ZiN this (Zx S w0 F hd h1), .inr rfl⟩
  ·cases h
 ·rename_i r1 r2 hr
  have : fn.results = #[r1, r2] := by rw [<- Array.toList_inj]; exact hr
  obtain ⟨a1, h1, h⟩ := Zb h
  obtain ⟨a2, h2, h⟩ := Zb h
  cases h
  exact ⟨_, Znc this (Zx S w0 F hd h1) (Zx S w0 F hd h2), .inr rfl⟩
 ·rename_i r1 r2 r3 hr
  have : fn.results = #[r1, r2, r3] := by rw [<- Array.toList_inj]; exact hr
  obtain ⟨a1, h1, h⟩ := Zb h
  obtain ⟨a2, h2, h⟩ := Zb h
  obtain ⟨a3, h3, h⟩ := Zb h
  cases h
  exact ⟨_, Zn6 this (Zx S w0 F hd h1) (Zx S w0 F hd h2) (Zx S w0 F hd h3), .inr rfl⟩
 ·rename_i r1 r2 r3 r4 hr
  have : fn.results = #[r1, r2, r3, r4] := by rw [<- Array.toList_inj]; exact hr
  obtain ⟨a1, h1, h⟩ := Zb h
  obtain ⟨a2, h2, h⟩ := Zb h
  obtain ⟨a3, h3, h⟩ := Zb h
  obtain ⟨a4, h4, h⟩ := Zb h
  cases h
  exact ⟨_, Zoe this (Zx S w0 F hd h1) (Zx S w0 F hd h2) (Zx S w0 F hd h3) (Zx S w0 F hd h4), .inr rfl⟩
 ·cases h
theorem ZkZ {ρ : Env G} : ∀ {l : List SV} {xs : List Value} (n : Nat), Zab S ρ l xs -> FrR S ρ (l ++ List.replicate n .junk) (xs ++ List.replicate n undef)
 | [], [], n, _ => by
  simp only [List.nil_append]
  induction n with
  | zero => trivial
  | succ n ih => exact ⟨.inl rfl, ih⟩
 | s :: l, v :: xs, n, h => ⟨h.1, ZkZ n h.2⟩
 | [], _ :: _, _, h => h.elim
 | _ :: _, [], _, h => h.elim
theorem Zjg {ρ : Env G} : ∀ {l : List SV} {xs : List Value}, Zab S ρ l xs -> l.length = xs.length
 | [], [], _ => rfl
 | s :: l, v :: xs, h => by simp [Zjg h.2]
 | [], _ :: _, h => h.elim
 | _ :: _, [], h => h.elim
theorem Zsw {ρ ρ' : Env G} {st : St} (hok : st.ok = true) (hE : Ext st.n ρ ρ') {l : List Value} (h : FrR S ρ st.fr l) : FrR S ρ' st.fr l := by
 unfold St.ok at hok
 simp only [ZxJ] at hok
 split at hok
 ·rename_i hf; exact Ze0 S hE hf h
 ·cases hok
theorem ZcU (hC : Zm5 S P C) : ∀ (fuel : Nat), ZbQ S w0 F P (Zfs P C fuel)
 | 0, f, args, st, K, ρ, w, xs, R, hst, hok, hx, h, hK => by simp only [Zfs] at h; exact h.elim
 | fuel + 1, f, args, st, K, ρ, w, xs, R, hst, hok, hx, h, hK => by
  simp only [Zfs] at h
  split at h
  ·exact h.elim
  ·rename_i fn hfn
   split at h
   ·exact h.elim
   ·rename_i c hc
    refine calls_of_wp hfn hc ?_
    have hd : Den S ρ w0 F { st with fr := args ++ List.replicate (fn.ntmps - args.length) .junk } { tmps := xs.toArray ++ Array.replicate (fn.ntmps - xs.toArray.size) undef, defers := [] } w := by
     refine ⟨?_, rfl, hst.hp, hst.asm⟩
     have := ZkZ S (fn.ntmps - args.length) hx
     simpa [Zjg S hx] using this
    let Q : Exit -> Act -> World -> Prop := fun e a w' => match e with | .panic _ => False | e => bodyPost P fn R e a w'
    have fin : ∀ ρ' st' a' w', YC S w0 F { st with fr := args ++ List.replicate (fn.ntmps - args.length) .junk } ρ ρ' st' a' w' →
      (match ZqP P fn st' with
       | some v => (match Zbz C f 999999 with
        | [] => K v { st' with fr := st.fr }
        | x :: l => bif SV.lt st'.n v then YI st' (fun st'' => K v { st'' with fr := st.fr }) (x :: l) else .ff 56)
       | none => VC.ff 54).den S ρ' -> a'.defers = [] /\ ∃ v, (results fn a'.tmps).run P w' = .ok v w' /\ R (.returned v) w' := by
     intro ρ' st' a' w' haf hk
     split at hk
     ·rename_i sv hsv
      obtain ⟨v, hr, hv⟩ := Zj2 S w0 F haf.2.2 hsv
      generalize hal : Zbz C f 999999 = al at hk
      cases al with
      | nil => exact ⟨haf.2.2.df, v, hr, hK ρ' sv { st' with fr := st.fr } w' v ⟨haf.1, haf.2.1, rfl, fun l hl => Zsw S hok haf.1 hl, ⟨haf.2.2.hp, haf.2.2.asm⟩⟩ hv hk⟩
      | cons x l =>
       simp only at hk
       cases hlt : SV.lt st'.n sv
       ·rw [hlt] at hk; exact hk.elim
       rw [hlt] at hk
       simp only [cond_true] at hk
       obtain ⟨ρ2, st2, haf2, hk2⟩ := ZB S w0 F _ (x :: l) (fun sp args hm => by rw [<- hal] at hm; obtain ⟨l, i, hl, hm⟩ := ZdB hm; exact hC.2.1 f l hl i sp args hm) st' ρ' a' w' haf.2.2 hk
       have H := YC.step S w0 F haf.1 haf.2.1 haf2
       have hv2 : sv.R S ρ2 v := by
        rcases hv with hv | hv
        ·exact .inl hv
        ·exact .inr (by rw [SV.den_ext S haf2.1 hlt]; exact hv)
       exact ⟨haf.2.2.df, v, hr, hK ρ2 sv { st2 with fr := st.fr } w' v ⟨H.1, H.2.1, rfl, fun l hl => Zsw S hok H.1 hl, ⟨H.2.2.hp, H.2.2.asm⟩⟩ hv2 hk2⟩
     ·exact hk.elim
    refine wp_mono (Q := Q) (Zcf S w0 F (ZcU hC fuel) hC f 100000 c _ ρ _ w _ Q hd h ⟨?_, ?_, ?_, ?_⟩).2 ?_
    ·intro ρ' st' a' w' haf hk; exact fin ρ' st' a' w' haf hk
    ·intro ρ' st' a' w' haf hk; exact fin ρ' st' a' w' haf hk
    ·intro i ρ' st' a' w' haf hk; exact hk.elim
    ·intro c a w h; exact h
    ·intro e a w h; cases e <;> first | exact h | exact h.elim
/-! ### A function keeps its Zbe -/
theorem VC.den_wc (ch : Nat -> Bool) : ∀ (v : VC) (ρ : Env G), v.den (S.wc ch) ρ ↔ v.den S ρ
 | .tt, _ => Iff.rfl
 | .ff _, _ => Iff.rfl
 | .and a b, ρ => and_congr (VC.den_wc ch a ρ) (VC.den_wc ch b ρ)
 | .imp e a, ρ => by simp only [VC.den, SX.den_wc]; exact imp_congr Iff.rfl (VC.den_wc ch a ρ)
 | .need e a, ρ => by simp only [VC.den, SX.den_wc]; exact and_congr Iff.rfl (VC.den_wc ch a ρ)
 | .all n .int a, ρ => forall_congr' fun _ => VC.den_wc ch a _
 | .all n .bool a, ρ => forall_congr' fun _ => VC.den_wc ch a _
 | .all n .ints a, ρ => forall_congr' fun _ => VC.den_wc ch a _
 | .all n .bytes a, ρ => forall_congr' fun _ => VC.den_wc ch a _
 | .all n .rows a, ρ => forall_congr' fun _ => VC.den_wc ch a _
 | .all n .amap a, ρ => forall_congr' fun _ => VC.den_wc ch a _
 | .all n .g a, ρ => forall_congr' fun _ => VC.den_wc ch a _
theorem Zem (ch : Nat -> Bool) {ρ : Env G} : ∀ {l : List SV} {xs : List Value}, Zab (S.wc ch) ρ l xs ↔ Zab S ρ l xs
 | [], [] => Iff.rfl
 | s :: l, v :: xs => and_congr (SV.R_wc S ρ ch s v) (Zem ch)
 | [], _ :: _ => Iff.rfl
 | _ :: _, [] => Iff.rfl
theorem ZG.wc (ch : Nat -> Bool) {f : Nat} {sp : Ctr} (h : ZG S P f sp) : ZG (S.wc ch) P f sp := by
 intro ch' w0 F ρ w xs hx hr hs
 refine (h ch' w0 F ρ w xs ((Zem S ch).1 hx) (fun e he => by have := hr e he; rwa [SX.den_wc] at this) hs).mono ?_
 rintro e w' ⟨ρ', v, hE, he, hv, hs', hf⟩
 exact ⟨ρ', v, hE, he, (SV.R_wc S ρ' ch _ _).2 hv, hs', fun x hx => by rw [SX.den_wc]; exact hf x hx⟩
theorem Zit.wc (ch : Nat -> Bool) {sp : Ctr} (h : Zit S sp) : Zit (S.wc ch) sp := by
 intro ch' w0 F ρ w hr hs
 obtain ⟨ρ', hE, hs', hf⟩ := h ch' w0 F ρ w (fun e he => by have := hr e he; rwa [SX.den_wc] at this) hs
 exact ⟨ρ', hE, hs', fun x hx => by rw [SX.den_wc]; exact hf x hx⟩
theorem ZeL.wc (ch : Nat -> Bool) {f : Nat} {sp : Ctr} (h : ZeL S P f sp) : ZeL (S.wc ch) P f sp := by
 intro ch' w0 F ρ w xs hx hr hs
 obtain ⟨v, w', hrun, ρ', hE, hv, hs', hf⟩ := h ch' w0 F ρ w xs ((Zem S ch).1 hx) (fun e he => by have := hr e he; rwa [SX.den_wc] at this) hs
 exact ⟨v, w', hrun, ρ', hE, (SV.R_wc S ρ' ch _ _).2 hv, hs', fun x hx => by rw [SX.den_wc]; exact hf x hx⟩
theorem Zm5.wc (ch : Nat -> Bool) (h : Zm5 S P C) : Zm5 (S.wc ch) P C :=
 ⟨fun f sps hf sp hm => ⟨(h.1 f sps hf sp hm).1, (h.1 f sps hf sp hm).2.wc S ch⟩, fun f l hf i sp args hm => ⟨(h.2.1 f l hf i sp args hm).1, (h.2.1 f l hf i sp args hm).2.wc S ch⟩,
  fun f sps hf sp hm => ⟨(h.2.2 f sps hf sp hm).1, (h.2.2 f sps hf sp hm).2.wc S ch⟩⟩
theorem Zwu {sp : Ctr} (hwf : sp.wf = true) : sp.args.all (SV.wf 0 sp.ss) = true /\ sp.pre.all (Ch.wf 0 sp.ss) = true /\ sp.reqs.all (SX.wf 0 sp.ss) = true /\ sp.res.wf 0 (sp.ss ++ sp.ps) = true ∧
   sp.post.all (Ch.wf 0 (sp.ss ++ sp.ps)) = true /\ sp.facts.all (SX.wf 0 (sp.ss ++ sp.ps)) = true := by
 unfold Ctr.wf at hwf
 simp only [ZxJ] at hwf
 split at hwf
 ·rename_i a1
  split at hwf
  ·rename_i a2
   split at hwf
   ·rename_i a3
    split at hwf
    ·rename_i a4
     split at hwf
     ·rename_i a5; exact ⟨a1, a2, a3, a4, a5, hwf⟩
     ·cases hwf
    ·cases hwf
   ·cases hwf
  ·cases hwf
 ·cases hwf
theorem ZlA : ∀ {ss : List Srt} {th : List SX} {k i : Nat} {s : Srt}, ZwW (ats k ss) th = true -> ss[i]? = some s -> YZ th i = .at s (k + i)
 | [], th, k, i, s, h, hs => by simp at hs
 | t :: ss, [], k, i, s, h, hs => by cases h
 | t :: ss, e :: th, k, i, s, h, hs => by
  simp only [ats, ZwW, ZxJ] at h
  split at h
  ·rename_i hq
   cases i with
   | zero => simp at hs; subst hs; simp only [YZ]; rw [<- SX.bq_eq hq]; rfl
   | succ i =>
    simp only [YZ]
    rw [ZlA h (by simpa using hs), show k + 1 + i = k + (i + 1) by omega]
  ·cases h
theorem Yq (hC : Zm5 S P C) {fuel f : Nat} {sp : Ctr} (h : ∀ ρ : Env G, (Zqz P C fuel f sp).den S ρ) : ZG S P f sp := by
 intro ch w0 F ρ w xs hx hreq hs
 have h := h ρ
 rw [<- VC.den_wc S ch] at h
 unfold Zqz at h
 cases hwf : sp.wf
 ·rw [hwf] at h; exact h.elim
 cases hok : St.ok { fr := [], hp := sp.pre, n := sp.ss.length, asm := sp.reqs }
 ·rw [hwf, hok] at h; exact h.elim
 rw [hwf, hok] at h
 simp only [cond_true] at h
 have h := Zev (S.wc ch) ρ h (fun e he => by rw [SX.den_wc]; exact hreq e he)
 obtain ⟨w1, w2, w3, w4, w5, w6⟩ := Zwu hwf
 refine ZcU (S.wc ch) w0 F (hC.wc S ch) fuel f sp.args _ _ ρ w xs _ ⟨hs, fun e he => by rw [SX.den_wc]; exact hreq e he⟩ hok ((Zem S ch).2 hx) h ?_
 intro ρ' sv st' w' v hn hsv hk
 split at hk
 ·exact hk.elim
 ·rename_i th hth
  cases h1 : ZnA th (sp.ss ++ sp.ps)
  ·rw [h1] at hk; exact hk.elim
  cases h2 : ZwW (ats 0 sp.ss) th
  ·rw [h1, h2] at hk; exact hk.elim
  rw [h1, h2] at hk
  simp only [cond_true] at hk
  split at hk
  ·exact hk.elim
  ·rename_i ns1 he
   split at hk
   ·exact hk.elim
   ·rename_i ns2 rest ks htk
    cases h3 : ks.all Zpa
    ·rw [h3] at hk; exact hk.elim
    rw [h3] at hk
    simp only [cond_true] at hk
    obtain ⟨hn3, _⟩ := Zv (S.wc ch) ρ' hk
    obtain ⟨hf, hn2⟩ := Zca (S.wc ch) ρ' hn.hs.asm hn3
    have hch : ∀ i K, (i, K) ∈ ks -> ch i = ZjW (S.wc ch) K := fun i K hm => by
     have := List.all_eq_true.1 h3 _ hm
     cases K with
     | rd j => simp only [Zpa] at this; rw [ZxG this]; rfl
     | _ => cases this
    obtain ⟨hn1, htake⟩ := Y6 (S.wc ch) ρ' w0 hn.hs.asm ch htk hn2 hch
    obtain ⟨hv, _⟩ := Zc5 (S.wc ch) ρ' hn.hs.asm he hn1
    let ρc : Env G := fun i => if i < sp.ss.length then ρ i else (YZ th i).den S ρ'
    have hT : ThR S 0 th (sp.ss ++ sp.ps) ρ' ρc := ⟨fun i hi => absurd hi (Nat.not_lt_zero _), fun i s hs => by
     rw [Nat.zero_add]
     by_cases hi : i < sp.ss.length
     ·simp only [ρc, if_pos hi]
      rw [ZxX hi] at hs
      rw [ZlA h2 hs, Nat.zero_add]
      simp only [SX.den]
      rw [hn.ext i hi]
     ·simp only [ρc, if_neg hi]
      have e1 := ZcX h1 i s hs
      have e2 := SX.srt_co S ρ' (YZ th i)
      rw [e1] at e2
      exact e2⟩
    have hT' : ThR (S.wc ch) 0 th (sp.ss ++ sp.ps) ρ' ρc := ⟨hT.low, fun i s hs => by rw [SX.den_wc, Ztc]; exact hT.high i s hs⟩
    refine ⟨ρc, v, fun i hi => by simp only [ρc, if_pos hi], rfl, ?_, ?_, ?_⟩
    ·have := (SV.sub_R (S.wc ch) ρ' hT' w4).1 (hv v hsv)
     exact (SV.R_wc S ρc ch _ _).1 this
    ·have := hn.hs.hp.mono (htake _)
     rw [Zb9 (S.wc ch) ρ' w0 hT' ch w5] at this
     rw [Zm] at this
     exact this.drop
    ·have := (Zhb (S.wc ch) ρ' hT' w6).1 hf
     intro x hx
     have := this x hx
     rwa [SX.den_wc] at this
end
end
end Go.Eng
namespace Go.Eng
noncomputable section
open Go.RowKit (Below)
def En.srt : En -> Srt | .ints _ => .ints | .bytes => .bytes | .rows _ => .rows
section
variable {G : Type} (S : Sig G) {P : Program}
end
end
end Go.Eng
namespace Go.Eng
noncomputable section
abbrev LB := List (Nat × Int)
def LB.get : LB -> Nat -> Option Int
 | [], _ => none
 | (j, l) :: r, i => bif Nat.beq j i then some l else LB.get r i
mutual
def lbOf (lo hi : LB) : SX -> Option Int
 | .int n => some n
 | .at s i => (match s with | .int => LB.get lo i | _ => none)
 | .f1 f _ => (match f with | 30 | 31 | 32 | 33 => some 0 | _ => none)
 | .f2 f a b => (match f with
  | 40 => (match lbOf lo hi a, lbOf lo hi b with | some x, some y => some (x + y) | _, _ => none)
  | 41 => (match lbOf lo hi a, ubOf lo hi b with | some x, some y => some (x - y) | _, _ => none)
  | 111 => some 0
  | _ => none)
 | _ => none
def ubOf (lo hi : LB) : SX -> Option Int
 | .int n => some n
 | .at s i => (match s with | .int => (match LB.get hi i with | some x => some (-x) | none => none) | _ => none)
 | .f2 f a b => (match f with
  | 40 => (match ubOf lo hi a, ubOf lo hi b with | some x, some y => some (x + y) | _, _ => none)
  | 41 => (match ubOf lo hi a, lbOf lo hi b with | some x, some y => some (x - y) | _, _ => none)
  | 111 => some 255
  | _ => none)
 | _ => none
end
def LB.put (i : Nat) (c : Int) : LB -> LB
 | [] => [(i, c)]
 | (j, l) :: r => bif Nat.beq j i then (j, max l c) :: r else bif Nat.blt j i then (i, c) :: (j, l) :: r else (j, l) :: LB.put i c r
def LB.below (n : Nat) : LB -> LB
 | [] => []
 | (j, l) :: r => bif Nat.blt j n then (j, l) :: r else LB.below n r
section
variable {G : Type} (S : Sig G)
end
end
end Go.Eng
namespace Go.Eng
noncomputable section
section
variable {G : Type}
theorem p155 (a b : U G) : (ap2 155 a b).tP = (a = b) := by
 show (@decide (a = b) (Classical.propDecidable _) = true) = _
 exact propext ⟨fun h => @of_decide_eq_true _ (Classical.propDecidable _) h, fun h => @decide_eq_true _ (Classical.propDecidable _) h⟩
theorem Zxm (a : U G) : ap1 2 a = .bool (!a.toBool) := rfl
theorem Zv1 (a : U G) : ap1 17 a = .int (IntKind.wrap .u64 a.tI) := rfl
theorem Zxj (a : U G) : ap1 23 a = .bool (decide (IntKind.min .i64 <= a.tI) && decide (a.tI <= IntKind.max .i64)) := rfl
theorem Zw0 (a : U G) : ap1 30 a = .int a.tN.length := rfl
theorem Zxq (a : U G) : ap1 31 a = .int a.tB.length := rfl
theorem Zwb (a : U G) : ap1 32 a = .int a.tR.length := rfl
theorem Zv3 (a : U G) : ap1 33 a = .int a.tM.length := rfl
theorem Ztx (a : U G) : ap1 152 a = .ints [] := rfl
theorem Zvf (a : U G) : ap1 153 a = .bytes [] := rfl
theorem ZtD (a : U G) : ap1 154 a = .rows [] := rfl
theorem Zvk (a : U G) : ap1 155 a = .amap [] := rfl
theorem Zwx (a : U G) : ap1 35 a = .int (Zdt a.tB : Nat) := rfl
theorem ZwV (a : U G) : ap1 36 a = .bytes (decB a.tI.toNat) := rfl
theorem Zxf (a b : U G) : ap2 40 a b = .int (a.tI + b.tI) := rfl
theorem Zxb (a b : U G) : ap2 41 a b = .int (a.tI - b.tI) := rfl
theorem Zwm (a b : U G) : ap2 42 a b = .int (a.tI * b.tI) := rfl
theorem ZwI (a b : U G) : ap2 43 a b = .int (a.tI.tdiv b.tI) := rfl
theorem Zxl (a b : U G) : ap2 44 a b = .int (a.tI.tmod b.tI) := rfl
theorem Zh3 (a b : U G) : ap2 45 a b = .bool (a.tI == b.tI) := rfl
theorem Zwt (a b : U G) : ap2 48 a b = .bool (a.toBool == b.toBool) := rfl
theorem Zv2 (a b : U G) : ap2 49 a b = .bool (a.toBool && b.toBool) := rfl
theorem ZsC (a b : U G) : ap2 50 a b = .bool (a.toBool || b.toBool) := rfl
theorem Zul (a b : U G) : ap2 110 a b = .int (a.tN.getD b.tI.toNat 0) := rfl
theorem ZsS (a b : U G) : ap2 111 a b = .int ((a.tB.getD b.tI.toNat 0).toNat : Nat) := rfl
theorem Zs5 (a b : U G) : ap2 113 a b = .ints (a.tN.take b.tI.toNat) := rfl
theorem ZtP (a b : U G) : ap2 114 a b = .bytes (a.tB.take b.tI.toNat) := rfl
theorem Zuz (a b : U G) : ap2 115 a b = .rows (a.tR.take b.tI.toNat) := rfl
theorem Zvr (a b : U G) : ap2 117 a b = .bytes (a.tB.drop b.tI.toNat) := rfl
theorem ZsT (a b : U G) : ap2 120 a b = .bytes (a.tB ++ b.tB) := rfl
theorem Ztr (a b : U G) : ap2 121 a b = .rows (a.tR ++ b.tR) := rfl
theorem Zt8 (a b : U G) : ap2 122 a b = .ints (a.tI :: b.tN) := rfl
theorem ZtF (a b : U G) : ap2 123 a b = .bytes (UInt8.ofNat a.tI.toNat :: b.tB) := rfl
theorem Zth (a b : U G) : ap2 124 a b = .rows (a.tN :: b.tR) := rfl
theorem Zvl (a b : U G) : ap2 126 a b = .bytes (List.replicate a.tI.toNat (UInt8.ofNat b.tI.toNat)) := rfl
theorem Zvq (a b : U G) : ap2 141 a b = .bool (Za8 a.tM b.tI) := rfl
theorem Zu1 (a b : U G) : ap2 143 a b = .amap (Zdv a.tM b.tI) := rfl
theorem ZtB (a b : U G) : ap2 150 a b = .bool (a.tB == b.tB) := rfl
theorem Zup (a b : U G) : ap2 151 a b = .bool (Op.bytesLess a.tB b.tB) := rfl
theorem Zs4 (a b : U G) : ap2 153 a b = .bool (a.tN == b.tN) := rfl
theorem ZuG (a b c : U G) : ap3 112 a b c = .int ((a.tR.getD b.tI.toNat []).getD c.tI.toNat 0) := rfl
theorem Zt2 (a b c : U G) : ap3 131 a b c = .bytes (a.tB.set b.tI.toNat (UInt8.ofNat c.tI.toNat)) := rfl
theorem ZtO (a b c : U G) : ap3 132 a b c = .rows (a.tR.set b.tI.toNat c.tN) := rfl
theorem Zuo (a b c : U G) : ap3 140 a b c = .int (ZfI a.tI b.tM c.tI) := rfl
theorem ZuH (a b c : U G) : ap3 142 a b c = .amap (ZaK a.tM b.tI c.tI) := rfl
def Zsy (x y : Int) : Int := if y < x then y else x
def imax (x y : Int) : Int := if y > x then y else x
theorem Zu4 {G : Type} (a b : U G) : ap2 51 a b = .int (Zsy a.tI b.tI) := rfl
theorem ZtJ {G : Type} (a b : U G) : ap2 52 a b = .int (imax a.tI b.tI) := rfl
def leB (x y : Int) : Bool := decide (x <= y)
def ltB (x y : Int) : Bool := decide (x < y)
theorem t47 {G : Type} (a b : U G) : (ap2 47 a b).toBool = leB a.tI b.tI := rfl
theorem t46 {G : Type} (a b : U G) : (ap2 46 a b).toBool = ltB a.tI b.tI := rfl
theorem ZtG {x y : Int} : leB x y = true ↔ x <= y := by unfold leB; simp
theorem ZsW {x y : Int} : ltB x y = true ↔ x < y := by unfold ltB; simp
theorem Zet {p : Prop} {i : Decidable p} : (@decide p i = true) = p := propext ⟨fun h => of_decide_eq_true h, fun h => decide_eq_true h⟩
theorem p45 {G : Type} (a b : U G) : (ap2 45 a b).tP = (a.tI = b.tI) := by simp [Zh3]
theorem p153 {G : Type} (a b : U G) : (ap2 153 a b).tP = (a.tN = b.tN) := by simp [Zs4]
theorem p46 {G : Type} (a b : U G) : (ap2 46 a b).tP = (a.tI < b.tI) := Zet
theorem p47 {G : Type} (a b : U G) : (ap2 47 a b).tP = (a.tI <= b.tI) := Zet
theorem p2_45 {G : Type} (a b : U G) : (ap1 2 (ap2 45 a b)).tP = ¬ (a.tI = b.tI) := by simp [Zxm, Zh3]
theorem p50 {G : Type} (a b : U G) : (ap2 50 a b).tP = (a.toBool = true \/ b.toBool = true) := by simp [ZsC]
theorem b46 {G : Type} (a b : U G) : ((ap2 46 a b).toBool = true) = (a.tI < b.tI) := p46 a b
theorem b47 {G : Type} (a b : U G) : ((ap2 47 a b).toBool = true) = (a.tI <= b.tI) := p47 a b
theorem p23 {G : Type} (a : U G) : (ap1 23 a).tP = (IntKind.min .i64 <= a.tI /\ a.tI <= IntKind.max .i64) := by
 rw [Zxj, U.tPi, Bool.and_eq_true, Zet, Zet]
end
/-! ### Bits of words without sign, and the check sum -/
end
end Go.Eng
namespace Go.Eng
noncomputable section
open Go.RowKit (Below)
open Go.ChangeShapes Go.WideShapes
theorem Zdy {H : Type} {enc : TypeId × Value -> H} {P : Program} {f : Func} {s : ChangeSpec} {apart fresh handsOn again : Bool} {W W' : World} {args : Array Value} {v : Value} {ds gs : List (DataW H)} {before pa pv : List MemPlace}
  (hW : DataW.Whole enc P f.params.toList s.vars apart W args.toList ds gs before)
  (hres : ∀ (b : Nat) (sp : Nat -> Bool) (hd : Bool), DataW.TrodAll enc P W' b sp hd f.resultTypes.toList (v.resultList f.resultTypes.size) (s.fn H (ds ++ gs)).results [])
  (hargs : ∀ sp : Nat -> Bool, (∀ p ∈ before, sp p.block = true) -> DataW.TrodAll enc P W' 0 sp true f.params.toList args.toList (s.fn H (ds ++ gs)).args pa)
  (hvars : ∀ sp : Nat -> Bool, (∀ p ∈ before, sp p.block = true) -> DataW.TrodVars enc P W' sp s.vars (s.fn H (ds ++ gs)).vars pv)
  (hps : before = pa ++ pv) (hb : Below W.heap.size W W')
  (hok : ∀ (j : Nat) (t : TypeId) (r : Value), f.resultTypes[j]? = some t -> (v.resultList f.resultTypes.size)[j]? = some r -> Value.okWide P W' .any 0 t r) :
  s.post enc P f apart fresh handsOn again W args v W' := by
 have hlt := fun p (hp : p ∈ before) => hW.lt p hp
 have hold : ∀ p ∈ before, (fun b => decide (b < W.heap.size)) p.block = true := fun p hp => by simpa using hlt p hp
 refine ⟨ds, gs, before, [], pa, pv, hW, hres _ _ _, hargs _ hold, hvars _ hold, World.keptBut_mono (fun p hp => ⟨hp, ?_⟩) (hb.frame (· ∈ before)), fun _ => ?_⟩
 ·rw [hps, List.mem_append] at hp; exact Or.inr hp
 ·obtain ⟨_, _, _, _, _, hz, hn⟩ := hW
  refine ⟨hok, _, _, ([] ++ pa) ++ pv, ⟨[] ++ pa, pv, trodAll_append (hargs _ (fun _ _ => rfl)) (hres _ _ _), hvars _ (fun _ _ => rfl), rfl, fun b off hp => ?_, fun ha => ?_⟩, fun p hp _ => ?_⟩
  ·have hp' : MemPlace.cell b off ∈ before := by rw [hps]; simpa using hp
   have h1 := hlt _ hp'
   rw [hb.frozen (p := ⟨b, off, none⟩) h1]
   exact hz b off hp'
  ·have := hn ha
   rw [hps] at this
   simpa using this
  ·rw [hps]; simpa using hp
def yes : Ctr := { ss := [], args := [], pre := [], reqs := [], ps := [], res := .one (.bool (.bool true)), post := [], facts := [] }
theorem ZlT (w : World) : Sat w (Zi emp emp) w := by
 rw [Zex]
 exact ⟨Hl.none, rfl, ⟨fun _ _ _ _ h => (by cases h), fun _ _ _ h => (by cases h), Below.refl _ _⟩⟩
end
end Go.Eng
namespace Go.Proofs.YtlmkcakhhbckhaaGreatDoor
noncomputable section
open Go.Eng
def ai (n : Nat) : SX := .at .int n
def di (n : Nat) : SX := .at .int (1000000 + n)
def rA (n : Nat) : SX := .at .rows n
def gA (n : Nat) : SX := .at .g n
def bA (n : Nat) : SX := .at .bytes n
def z0 : SX := .int 0
def tk (x n : SX) : SX := .f2 115 x n
def lenR (x : SX) : SX := .f1 32 x
def eqS (a b : SX) : SX := .f2 155 a b
def usI (k : Nat) (a b c : SX) : SX := .us .int k a b c (.int 0)
def usB (k : Nat) (a b c : SX) : SX := .us .bool k a b c (.int 0)
def usR (k : Nat) (a b c : SX) : SX := .us .rows k a b c (.int 0)
def usN (k : Nat) (a b c : SX) : SX := .us .ints k a b c (.int 0)
def usG (k : Nat) (a b c : SX) : SX := .us .g k a b c (.int 0)
def usY (k : Nat) (a b c : SX) : SX := .us .bytes k a b c (.int 0)
def nt (x i : SX) (k : Nat) : SX := .f3 112 x i (.int (k : Nat))
def slC (b n c : SX) (s : Nat) : SC := .slice b z0 z0 z0 n c s
def g0 (r : List Int) : Int := r.getD 0 0
def g1 (r : List Int) : Int := r.getD 1 0
def g2 (r : List Int) : Int := r.getD 2 0
def slV (b n c : Int) : Value := .slice (if b < 0 then none else some ⟨b.toNat, 0, none⟩) n.toNat c.toNat
def ZfV (p : Prop) : Bool := @decide p (Classical.propDecidable p)
theorem Zjn {p : Prop} : (ZfV p = true) = p := propext ⟨fun h => @of_decide_eq_true p (Classical.propDecidable p) h, fun h => @decide_eq_true p (Classical.propDecidable p) h⟩
def sig0 : Sig Unit := { dg := (), ch := fun _ => true, usr := fun _ _ _ _ _ => .int 0, prd := fun _ _ _ _ => emp }
def rAD (e : En) (b : Int) (x : List (List Int)) (c : Int) : Ze := Zdf sig0 e (.int b) (.rows x) (.int c)
section
variable {G : Type}
theorem Zvp (S : Sig G) (ρ : Go.Eng.Env G) (b n c : SX) (s : Nat) : (slC b n c s).den S ρ = slV (b.den S ρ).tI (n.den S ρ).tI (c.den S ρ).tI := by
 simp [slC, SC.den, slV, z0, SX.den]
theorem ZvR (S : Sig G) (u : U G) : U.co S .int u = .int u.tI := rfl
theorem Zux (S : Sig G) (u : U G) : U.co S .bool u = .bool u.toBool := rfl
theorem Zts (S : Sig G) (u : U G) : U.co S .ints u = .ints u.tN := rfl
theorem Zus (S : Sig G) (u : U G) : U.co S .rows u = .rows u.tR := rfl
theorem ZqO (S : Sig G) (u : U G) : U.co S .bytes u = .bytes u.tB := rfl
theorem Zwp (S : Sig G) (u : U G) : U.co S .amap u = .amap u.tM := rfl
theorem co_g (S : Sig G) (x : G) : U.co S .g (.g x) = .g x := rfl
theorem i64lo : IntKind.min .i64 = -9223372036854775808 := rfl
theorem i64hi : IntKind.max .i64 = 9223372036854775807 := rfl
theorem Zta (n : Int) : IntKind.u64.wrap n = n % 18446744073709551616 := by simp [IntKind.wrap, IntKind.bits, IntKind.signed]
end
theorem Zi4 {G : Type} (S : Sig G) {sp : Ctr} (H : ∀ (T : Sig G) (w0 : World) (ρ : Go.Eng.Env G) (h : Hl), T.usr = S.usr -> T.prd = S.prd -> T.dg = S.dg -> (∀ e ∈ sp.reqs, (e.den T ρ).tP) -> Zg T ρ w0 sp.pre h →
  ∃ ρ', Ext sp.ss.length ρ ρ' /\ Zg T ρ' w0 sp.post h /\ ∀ x ∈ sp.facts, (x.den T ρ').tP) : Zit S sp := by
 intro ch w0 F ρ w hr hs
 obtain ⟨x, ⟨a, b, d, rfl, ha, hb⟩, hi⟩ := hs
 have e : ∀ (e : SX) ρ, e.den (S.wc ch) ρ = e.den S ρ := fun e ρ => SX.den_wc S ρ ch e
 obtain ⟨ρ', h1, h2, h3⟩ := H (S.wc ch) w0 ρ a rfl rfl rfl (fun q hq => by rw [e]; exact hr q hq) ha
 exact ⟨ρ', h1, ⟨_, ⟨a, b, d, rfl, h2, hb⟩, hi⟩, fun q hq => by rw [<- e]; exact h3 q hq⟩
/-! ### What the run is told, piece by piece -/
section
variable {G : Type} (S : Sig G) (P : Program)
def Zhz : List (Nat × List Ctr) -> Prop
 | [] => True
 | p :: l => (∀ sp ∈ p.2, sp.wf = true /\ ZG S P p.1 sp) /\ Zhz l
def Zmc : List (Nat × List Ctr) -> Prop
 | [] => True
 | p :: l => (∀ sp ∈ p.2, sp.wf = true /\ ZeL S P p.1 sp) /\ Zmc l
def AnnOk : Ann -> Prop
 | .ghost sp _ => sp.wf = true /\ Zit S sp
 | .inv _ => True
 | .split _ => True
 | .iff _ => True
 | .cut _ _ _ _ => True
def Zok : List (Nat × Ann) -> Prop
 | [] => True
 | p :: l => AnnOk S p.2 /\ Zok l
def Zk4 : List (Nat × List (Nat × Ann)) -> Prop
 | [] => True
 | p :: l => Zok S p.2 /\ Zk4 l
variable {S} {P}
theorem Zhz.get {f : Nat} {sps : List Ctr} : ∀ {l : List (Nat × List Ctr)}, Zhz S P l -> ZJ l f = some sps -> ∀ sp ∈ sps, sp.wf = true /\ ZG S P f sp
 | [], _, h => by cases h
 | (i, a) :: l, h1, h => by
  unfold ZJ at h
  cases hb : Nat.beq i f
  ·rw [hb] at h; exact h1.2.get h
  ·rw [hb] at h; cases h; rw [<- ZxG hb]; exact h1.1
theorem Zmc.get {f : Nat} {sps : List Ctr} : ∀ {l : List (Nat × List Ctr)}, Zmc S P l -> ZJ l f = some sps -> ∀ sp ∈ sps, sp.wf = true /\ ZeL S P f sp
 | [], _, h => by cases h
 | (i, a) :: l, h1, h => by
  unfold ZJ at h
  cases hb : Nat.beq i f
  ·rw [hb] at h; exact h1.2.get h
  ·rw [hb] at h; cases h; rw [<- ZxG hb]; exact h1.1
theorem Zok.get {i : Nat} {sp : Ctr} {args : List Operand} : ∀ {l : List (Nat × Ann)}, Zok S l -> (i, Ann.ghost sp args) ∈ l -> sp.wf = true /\ Zit S sp
 | [], _, h => by cases h
 | p :: l, h1, h => by
  rcases List.mem_cons.1 h with rfl | h
  ·exact h1.1
  ·exact h1.2.get h
theorem Zk4.get {f : Nat} {al : List (Nat × Ann)} : ∀ {l : List (Nat × List (Nat × Ann))}, Zk4 S l -> ZJ l f = some al -> Zok S al
 | [], _, h => by cases h
 | (i, a) :: l, h1, h => by
  unfold ZJ at h
  cases hb : Nat.beq i f
  ·rw [hb] at h; exact h1.2.get h
  ·rw [hb] at h; cases h; exact h1.1
theorem ZiF {C : Cx} (h1 : Zhz S P C.specs) (h2 : Zk4 S C.anns) (h3 : Zmc S P C.exts) : Zm5 S P C :=
 ⟨fun f sps h => h1.get h, fun f l h i sp args hm => (h2.get h).get hm, fun f sps h => h3.get h⟩
theorem Yo {f : Nat} {sp : Ctr} (hw : sp.wf = true) (h : ZG S P f sp) : ∀ q ∈ [sp], q.wf = true /\ ZG S P f q := by
 intro q hq; rw [Zxy] at hq; subst hq; exact ⟨hw, h⟩
theorem ZtU {f : Nat} {sp : Ctr} (hw : sp.wf = true) (h : ZeL S P f sp) : ∀ q ∈ [sp], q.wf = true /\ ZeL S P f q := by
 intro q hq; rw [Zxy] at hq; subst hq; exact ⟨hw, h⟩
end
open Go.Eng
abbrev z : SX := .int 0
abbrev k (n : Int) : SX := .int n
abbrev e (a b : SX) : SX := .f2 45 a b
abbrev t (a b : SX) : SX := .f2 46 a b
abbrev l (a b : SX) : SX := .f2 47 a b
abbrev i (e : SX) (k : VC) : VC := .imp e k
abbrev n (e : SX) (k : VC) : VC := .need e k
abbrev u (n : Nat) (s : Srt) (k : VC) : VC := .all n s k
abbrev k0 : SX := .int 9223372036854775808
abbrev k1 : SX := .int 18446744073709551615
abbrev k2 : SX := .int 140737488355328
abbrev k3 : SX := .int 1152921504606846976
abbrev a (n : Nat) : SX := .at .int n
abbrev v (k : Nat) (x : SX) : SX := .us .int k x z z z
abbrev d (k : Nat) (x y : SX) : SX := .us .int k x y z z
abbrev x (k : Nat) (x y w : SX) : SX := .us .int k x y w z
abbrev q (n : Nat) : SX := .at .bool n
abbrev p (k : Nat) (x : SX) : SX := .us .bool k x z z z
abbrev c (k : Nat) (x y : SX) : SX := .us .bool k x y z z
abbrev y (k : Nat) (x y w : SX) : SX := .us .bool k x y w z
abbrev g (n : Nat) : SX := .at .g n
abbrev w (k : Nat) (x : SX) : SX := .us .g k x z z z
abbrev f (k : Nat) (x y : SX) : SX := .us .g k x y z z
abbrev h (k : Nat) (x y w : SX) : SX := .us .g k x y w z
abbrev b (n : Nat) : SX := .at .bytes n
abbrev j (k : Nat) (x : SX) : SX := .us .bytes k x z z z
abbrev wB (k : Nat) (x y : SX) : SX := .us .bytes k x y z z
abbrev hB (k : Nat) (x y w : SX) : SX := .us .bytes k x y w z
abbrev s (n : Nat) : SX := .at .ints n
abbrev o (k : Nat) (x : SX) : SX := .us .ints k x z z z
abbrev wN (k : Nat) (x y : SX) : SX := .us .ints k x y z z
abbrev hN (k : Nat) (x y w : SX) : SX := .us .ints k x y w z
abbrev r (n : Nat) : SX := .at .rows n
abbrev vR (k : Nat) (x : SX) : SX := .us .rows k x z z z
abbrev wR (k : Nat) (x y : SX) : SX := .us .rows k x y z z
abbrev hR (k : Nat) (x y w : SX) : SX := .us .rows k x y w z
abbrev m (n : Nat) : SX := .at .amap n
abbrev vM (k : Nat) (x : SX) : SX := .us .amap k x z z z
abbrev wM (k : Nat) (x y : SX) : SX := .us .amap k x y z z
abbrev hM (k : Nat) (x y w : SX) : SX := .us .amap k x y w z
abbrev sB := (And.intro @U.bool.injEq (And.intro @U.bytes.injEq (And.intro @U.int.injEq (And.intro @U.ints.injEq (And.intro @U.rows.injEq (And.intro @U.tQi (And.intro @U.tBi (And.intro @U.tIi (And.intro @U.tNi (And.intro @U.tMi (And.intro @U.tPi (And.intro @U.tRi (And.intro @Ztx (And.intro @Zvf (And.intro @ZtD (And.intro @Zvk (And.intro @Zxm (And.intro @Zw0 (And.intro @Zxq (And.intro @Zwb (And.intro @Zv3 (And.intro @Zwx (And.intro @ZwV (And.intro @Zul (And.intro @ZsS (And.intro @Zs5 (And.intro @ZtP (And.intro @Zuz (And.intro @Zvr (And.intro @ZsT (And.intro @Ztr (And.intro @Zt8 (And.intro @ZtF (And.intro @Zth (And.intro @Zvl (And.intro @Zvq (And.intro @Zu1 (And.intro @ZtB (And.intro @Zxf (And.intro @Zxb (And.intro @Zwm (And.intro @ZwI (And.intro @Zxl (And.intro @Zh3 (And.intro @Zwt (And.intro @Zv2 (And.intro @Zu4 (And.intro @ZtJ (And.intro @ZuG (And.intro @Zt2 (And.intro @ZtO (And.intro @Zuo (And.intro @ZuH (And.intro @b46 (And.intro @b47 (And.intro @Zux (And.intro @ZqO (And.intro @co_g (And.intro @ZvR (And.intro @Zts (And.intro @Zwp (And.intro @Zus (And.intro @i64hi (And.intro @i64lo (And.intro @ZtG (And.intro @ZsW (And.intro @p153 (And.intro @p155 (And.intro @p23 (And.intro @p2_45 (And.intro @p45 (And.intro @p46 (And.intro @p47 (And.intro @p50 (And.intro @Zjn (And.intro @t46 @t47))))))))))))))))))))))))))))))))))))))))))))))))))))))))))))))))))))))))))))
abbrev sC := (And.intro @Zv1 @Zup)
end
end Go.Proofs.YtlmkcakhhbckhaaGreatDoor
namespace Go.Eng
section
variable {G : Type}
def Sig.bd (S : Sig G) (n : Int) : Sig G := { S with usr := fun f a b c d => if f = 999 then .int n else S.usr f a b c d }
def SX.nob : SX -> Bool
 | .f1 _ a => a.nob
 | .f2 _ a b => a.nob && b.nob
 | .f3 _ a b c => a.nob && (b.nob && c.nob)
 | .us _ f a b c d => !(f == 999) && (a.nob && (b.nob && (c.nob && d.nob)))
 | _ => true
def SC.nob : SC -> Bool
 | .int _ e => e.nob | .bool e => e.nob | .ptr b _ => b.nob | .ep b o i _ _ => b.nob && (o.nob && i.nob)
 | .slice b o k z l c _ => b.nob && (o.nob && (k.nob && (z.nob && (l.nob && c.nob))))
 | .str e => e.nob | .map b => b.nob | .cap g x => SC.nob g && SC.nob x | .ifc _ v => SC.nob v
 | .opq x i _ => x.nob && i.nob
 | _ => true
def SV.nob : SV -> Bool
 | .junk => true | .one c => c.nob | .agg cs => cs.all SC.nob | .tup vs => vs.all fun p => p.2.all SC.nob
def Ch.nob : Ch -> Bool
 | .cel b _ cs => b.nob && cs.all SC.nob
 | .arr _ b x c => b.nob && (x.nob && c.nob)
 | .ro _ b o x => b.nob && (o.nob && x.nob)
 | .rd _ _ b o x c => b.nob && (o.nob && (x.nob && c.nob))
 | .map _ _ b m => b.nob && m.nob
 | .prd _ k x => k.nob && x.nob
 | .itr _ _ b m r l c => b.nob && (m.nob && (r.nob && (l.nob && c.nob)))
def Ctr.nob (sp : Ctr) : Bool := sp.args.all SV.nob && (sp.pre.all Ch.nob && (sp.reqs.all SX.nob && (sp.res.nob && (sp.post.all Ch.nob && sp.facts.all SX.nob))))
variable (S : Sig G) (ρ : Env G)
theorem ZvM (n : Int) (s : Srt) (u : U G) : U.co (S.bd n) s u = U.co S s u := by cases s <;> rfl
theorem SX.den_bd (n : Int) : ∀ (e : SX), e.nob = true -> e.den (S.bd n) ρ = e.den S ρ := by
 intro e
 induction e with
 | int n => exact fun _ => rfl
 | bool n => exact fun _ => rfl
 | byt n => exact fun _ => rfl
 | «at» s i => exact fun _ => ZvM S n s _
 | f1 f a ih => intro h; simp only [SX.den]; rw [ih h]
 | f2 f a b ih ih' =>
  intro h
  simp only [SX.nob, Bool.and_eq_true] at h
  simp only [SX.den]; rw [ih h.1, ih' h.2]
 | f3 f a b c ih ih' ih'' =>
  intro h
  simp only [SX.nob, Bool.and_eq_true] at h
  simp only [SX.den]; rw [ih h.1, ih' h.2.1, ih'' h.2.2]
 | us s f a b c d ih ih' ih'' ih3 =>
  intro h
  simp only [SX.nob, Bool.and_eq_true] at h
  simp only [SX.den]; rw [ih h.2.1, ih' h.2.2.1, ih'' h.2.2.2.1, ih3 h.2.2.2.2, ZvM]
  have hf : f ≠ 999 := fun z => by have := h.1; rw [z] at this; simp at this
  show U.co S s (if f = 999 then _ else _) = _
  rw [if_neg hf]
theorem SC.den_bd (n : Int) : ∀ (e : SC), e.nob = true -> e.den (S.bd n) ρ = e.den S ρ := by
 intro e
 induction e with
 | cap g x ih ih' =>
  intro h
  simp only [SC.nob, Bool.and_eq_true] at h
  simp only [SC.den]; rw [ih h.1, ih' h.2]
 | ifc t v ih => intro h; simp only [SC.den]; rw [ih h]
 | int k e => intro h; simp only [SC.den]; rw [SX.den_bd S ρ n e h]
 | bool e => intro h; simp only [SC.den]; rw [SX.den_bd S ρ n e h]
 | ptr b o => intro h; simp only [SC.den]; rw [SX.den_bd S ρ n b h]
 | str e => intro h; simp only [SC.den]; rw [SX.den_bd S ρ n e h]
 | map b => intro h; simp only [SC.den]; rw [SX.den_bd S ρ n b h]
 | ep b o i s j =>
  intro h
  simp only [SC.nob, Bool.and_eq_true] at h
  simp only [SC.den]; rw [SX.den_bd S ρ n b h.1, SX.den_bd S ρ n o h.2.1, SX.den_bd S ρ n i h.2.2]
 | slice b o k z l c s =>
  intro h
  simp only [SC.nob, Bool.and_eq_true] at h
  simp only [SC.den]; rw [SX.den_bd S ρ n b h.1, SX.den_bd S ρ n o h.2.1, SX.den_bd S ρ n k h.2.2.1, SX.den_bd S ρ n z h.2.2.2.1, SX.den_bd S ρ n l h.2.2.2.2.1, SX.den_bd S ρ n c h.2.2.2.2.2]
 | opq x i p =>
  intro h
  simp only [SC.nob, Bool.and_eq_true] at h
  simp only [SC.den]; rw [SX.den_bd S ρ n x h.1, SX.den_bd S ρ n i h.2]
 | fn f => exact fun _ => rfl
 | nilfn => exact fun _ => rfl
 | nilif => exact fun _ => rfl
theorem SCs.den_bd (n : Int) {l : List SC} (h : l.all SC.nob = true) : l.map (SC.den (S.bd n) ρ) = l.map (SC.den S ρ) := List.map_congr_left fun c hc => SC.den_bd S ρ n c (List.all_eq_true.1 h c hc)
theorem SV.den_bd (n : Int) (v : SV) (h : v.nob = true) : v.den (S.bd n) ρ = v.den S ρ := by
 cases v with
 | junk => rfl
 | one c => exact SC.den_bd S ρ n c h
 | agg cs => simp only [SV.den]; rw [SCs.den_bd S ρ n h]
 | tup vs =>
  simp only [SV.den]
  congr 2
  apply List.map_congr_left
  intro p hp
  have hq := List.all_eq_true.1 h p hp
  unfold ZcR
  split
  ·exact SC.den_bd S ρ n _ (by simpa using hq)
  ·rw [SCs.den_bd S ρ n hq]
theorem SV.R_bd (n : Int) (v : SV) (h : v.nob = true) (x : Value) : v.R (S.bd n) ρ x ↔ v.R S ρ x := by unfold SV.R; rw [SV.den_bd S ρ n v h]
theorem Zer (n : Int) : ∀ {l : List SV} {xs : List Value}, l.all SV.nob = true -> (Zab (S.bd n) ρ l xs ↔ Zab S ρ l xs)
 | [], [], _ => Iff.rfl
 | [], _ :: _, _ => Iff.rfl
 | _ :: _, [], _ => Iff.rfl
 | v :: l, x :: xs, h => by
  simp only [List.all_cons, Bool.and_eq_true] at h
  show (_ /\ _) ↔ (_ /\ _)
  rw [SV.R_bd S ρ n v h.1, Zer n h.2]
theorem Ch.den_bd (w0 : World) (n : Int) (c : Ch) (h : c.nob = true) : c.den (S.bd n) ρ w0 = c.den S ρ w0 := by
 cases c with
 | cel b o cs =>
  simp only [Ch.nob, Bool.and_eq_true] at h
  simp only [Ch.den]; rw [SX.den_bd S ρ n b h.1, SCs.den_bd S ρ n h.2]
 | arr e b x c =>
  simp only [Ch.nob, Bool.and_eq_true] at h
  simp only [Ch.den]; rw [SX.den_bd S ρ n b h.1, SX.den_bd S ρ n x h.2.1, SX.den_bd S ρ n c h.2.2]; rfl
 | ro e b o x =>
  simp only [Ch.nob, Bool.and_eq_true] at h
  simp only [Ch.den]; rw [SX.den_bd S ρ n b h.1, SX.den_bd S ρ n o h.2.1, SX.den_bd S ρ n x h.2.2]; rfl
 | rd i e b o x c =>
  simp only [Ch.nob, Bool.and_eq_true] at h
  simp only [Ch.den]; rw [SX.den_bd S ρ n b h.1, SX.den_bd S ρ n o h.2.1, SX.den_bd S ρ n x h.2.2.1, SX.den_bd S ρ n c h.2.2.2]; rfl
 | map kk v b m =>
  simp only [Ch.nob, Bool.and_eq_true] at h
  simp only [Ch.den]; rw [SX.den_bd S ρ n b h.1, SX.den_bd S ρ n m h.2]
 | prd p k x =>
  simp only [Ch.nob, Bool.and_eq_true] at h
  simp only [Ch.den]; rw [SX.den_bd S ρ n k h.1, SX.den_bd S ρ n x h.2]; rfl
 | itr kk v b m r l c =>
  simp only [Ch.nob, Bool.and_eq_true] at h
  simp only [Ch.den]; rw [SX.den_bd S ρ n b h.1, SX.den_bd S ρ n m h.2.1, SX.den_bd S ρ n r h.2.2.1, SX.den_bd S ρ n l h.2.2.2.1, SX.den_bd S ρ n c h.2.2.2.2]
theorem Zwh (w0 : World) (n : Int) {l : List Ch} (h : l.all Ch.nob = true) : Zg (S.bd n) ρ w0 l = Zg S ρ w0 l := by
 unfold Zg
 congr 1
 exact List.map_congr_left fun c hc => Ch.den_bd S ρ w0 n c (List.all_eq_true.1 h c hc)
end
def Zr8 : SX := .us .int 999 (.int 0) (.int 0) (.int 0) (.int 0)
noncomputable def Ctr.le (sp : Ctr) (me : SX) : Ctr := { sp with reqs := eLe me Zr8 :: sp.reqs }
noncomputable def Ctr.lt (sp : Ctr) (me : SX) : Ctr := { sp with reqs := eLt me Zr8 :: sp.reqs }
section
variable {G : Type} (S : Sig G) {P : Program} {f : FuncId} {sp : Ctr} {me : SX}
theorem ZeA (n : Int) (ρ : Env G) : (Zr8.den (S.bd n) ρ).tI = n := rfl
theorem ZvX (hn : sp.nob = true) (hm : me.nob = true) {n m : Int} (hnm : m <= n + 1) (h : ZG (S.bd n) P f (sp.le me)) : ZG (S.bd m) P f (sp.lt me) := by
 unfold Ctr.nob at hn
 simp only [Bool.and_eq_true] at hn
 obtain ⟨n1, n2, n3, n4, n5, n6⟩ := hn
 intro ch w0 F ρ w xs ha hr hs
 have key : ∀ (k : Int) (ρ : Env G) (l : List Ch), l.all Ch.nob = true -> Zg ((S.bd k).wc ch) ρ w0 l = Zg (S.wc ch) ρ w0 l := fun k ρ l hl => Zwh (S.wc ch) ρ w0 k hl
 have h1 := h ch w0 F ρ w xs ((Zer S ρ n n1).2 ((Zer S ρ m n1).1 ha)) (fun e he => by
   rcases List.mem_cons.1 he with rfl | he
   ·have := hr (eLt me Zr8) (ZxN ..)
    rw [ZU, ZeA, SX.den_bd S ρ m me hm] at this
    rw [eLe_den, ZeA, SX.den_bd S ρ n me hm]
    omega
   ·have hq := List.all_eq_true.1 n3 e he
    rw [SX.den_bd S ρ n e hq, <- SX.den_bd S ρ m e hq]
    exact hr e (ZxL _ he)) (by
   show Sat w0 (Zi (Zg ((S.bd n).wc ch) ρ w0 sp.pre) F) w
   rw [key n ρ _ n2, <- key m ρ _ n2]; exact hs)
 refine h1.mono ?_
 rintro e w' ⟨ρ', v, hx, he, hv, hs', hf⟩
 refine ⟨ρ', v, hx, he, (SV.R_bd S ρ' m sp.res n4 v).2 ((SV.R_bd S ρ' n sp.res n4 v).1 hv), ?_, fun x hx => ?_⟩
 ·show Sat w0 (Zi (Zg ((S.bd m).wc ch) ρ' w0 sp.post) F) w'
  rw [key m ρ' _ n5, <- key n ρ' _ n5]; exact hs'
 ·have hq := List.all_eq_true.1 n6 x hx
  rw [SX.den_bd S ρ' m x hq, <- SX.den_bd S ρ' n x hq]
  exact hf x hx
theorem Zv6 (hn : sp.nob = true) (hm : me.nob = true) (h0 : eLe (.int 0) me ∈ sp.reqs) (step : ∀ n : Nat, ZG (S.bd n) P f (sp.lt me) -> ZG (S.bd n) P f (sp.le me)) : ∀ n : Nat, ZG (S.bd n) P f (sp.le me) := by
 intro n
 induction n with
 | zero =>
  refine step 0 fun ch w0 F ρ w xs ha hr hs => ?_
  have a := hr (eLt me Zr8) (ZxN ..)
  have b := hr _ (ZxL _ h0)
  rw [ZU, ZeA] at a
  rw [eLe_den] at b
  have b : 0 <= (me.den (S.bd 0) ρ).tI := b
  exact absurd a (by show ¬ (me.den (S.bd 0) ρ).tI < 0; omega)
 | succ n ih => exact step (n + 1) (ZvX S hn hm (by omega) ih)
theorem ZeO (hn : sp.nob = true) (hm : me.nob = true) (h0 : eLe (.int 0) me ∈ sp.reqs) (step : ∀ n : Nat, ZG (S.bd n) P f (sp.lt me) -> ZG (S.bd n) P f (sp.le me)) : ZG S P f sp := by
 have hn' := hn
 unfold Ctr.nob at hn
 simp only [Bool.and_eq_true] at hn
 obtain ⟨n1, n2, n3, n4, n5, n6⟩ := hn
 intro ch w0 F ρ w xs ha hr hs
 have key : ∀ (k : Int) (ρ : Env G) (l : List Ch), l.all Ch.nob = true -> Zg ((S.bd k).wc ch) ρ w0 l = Zg (S.wc ch) ρ w0 l := fun k ρ l hl => Zwh (S.wc ch) ρ w0 k hl
 have b := hr _ h0
 rw [eLe_den] at b
 have b : 0 <= (me.den S ρ).tI := b
 have h1 := Zv6 S hn' hm h0 step (me.den S ρ).tI.toNat ch w0 F ρ w xs ((Zer S ρ _ n1).2 ha) (fun e he => by
   rcases List.mem_cons.1 he with rfl | he
   ·rw [eLe_den, ZeA, SX.den_bd S ρ _ me hm]; omega
   ·rw [SX.den_bd S ρ _ e (List.all_eq_true.1 n3 e he)]
    exact hr e he) (by
   show Sat w0 (Zi (Zg ((S.bd _).wc ch) ρ w0 sp.pre) F) w
   rw [key _ ρ _ n2]; exact hs)
 refine h1.mono ?_
 rintro e w' ⟨ρ', v, hx, he, hv, hs', hf⟩
 refine ⟨ρ', v, hx, he, (SV.R_bd S ρ' _ sp.res n4 v).1 hv, ?_, fun x hx => ?_⟩
 ·rw [<- key ((me.den S ρ).tI.toNat : Nat) ρ' _ n5]; exact hs'
 ·rw [<- SX.den_bd S ρ' ((me.den S ρ).tI.toNat : Nat) x (List.all_eq_true.1 n6 x hx)]
  exact hf x hx
end
end Go.Eng
namespace Go.Proofs.YtlmkcakhhbckhaaGreatDoor
noncomputable section
open Go.Eng
inductive Nd where
 | mk (h : List Int) (l : List Nd)
def Nd.h : Nd -> List Int | .mk h _ => h
def Nd.l : Nd -> List Nd | .mk _ l => l
def nd0 : Nd := .mk [] []
def Nd.kid (n : Nd) (i : Int) : Nd := n.l.getD i.toNat nd0
def ht (r : List Int) : List UInt8 := decB (r.getD 2 0).toNat
def itF : List Go.Eng.Fd := [.int .i64, .int .i64, .str, .slo 4]
def itE : En := .rows itF
def Z2 (l : List Nd) : List (List Int) := l.map Nd.h
def ltOk (w : World) (h : List Int) (l : List Nd) : Prop :=
 h.getD 6 0 = l.length /\ (l ≠ [] -> 0 <= h.getD 3 0 /\ h.getD 5 0 < 0) ∧
  ∀ (i : Nat) v, ((Z2 l).flatMap (Zo itF))[i]? = some v -> (h.getD 3 0).toNat < w.heap.size /\ w.cell? ⟨(h.getD 3 0).toNat, (h.getD 4 0).toNat + i, none⟩ = some v
mutual
def RT (w : World) : Nd -> Prop
 | .mk h l => ltOk w h l /\ RTs w l
def RTs (w : World) : List Nd -> Prop
 | [] => True
 | n :: l => RT w n /\ RTs w l
end
mutual
/-- No list, no text is longer than an int can tell. -/
def TG : Nd -> Prop
 | .mk h l => (l.length : Int) <= 9223372036854775807 /\ (((ht h).length : Int) <= 9223372036854775807 /\ -9223372036854775808 <= h.getD 1 0 /\ h.getD 1 0 <= 9223372036854775807) /\ TGs l
def TGs : List Nd -> Prop
 | [] => True
 | n :: l => TG n /\ TGs l
end
mutual
def dep : Nd -> Nat
 | .mk _ l => deps l + 1
def deps : List Nd -> Nat
 | [] => 0
 | n :: l => max (dep n) (deps l)
end
mutual
/-- The document's weight. -/
def wg : Nd -> Int -> Int
 | .mk _ l, n => wgs l n
def wgs : List Nd -> Int -> Int
 | [], n => n
 | x :: l, n => if n <= 100000 then wgs l (wg x (n + 1 + ((ht x.h).length : Int).tdiv 64)) else n
end
theorem Zm9 {w : World} : ∀ {l : List Nd}, RTs w l -> ∀ n ∈ l, RT w n
 | [], _, n, hn => nomatch hn
 | m :: l, h, n, hn => by
  unfold RTs at h
  rcases List.mem_cons.1 hn with rfl | hn
  ·exact h.1
  ·exact Zm9 h.2 n hn
theorem ZoU : ∀ {l : List Nd}, TGs l -> ∀ n ∈ l, TG n
 | [], _, n, hn => nomatch hn
 | m :: l, h, n, hn => by
  unfold TGs at h
  rcases List.mem_cons.1 hn with rfl | hn
  ·exact h.1
  ·exact ZoU h.2 n hn
theorem Zlw : ∀ {l : List Nd}, ∀ n ∈ l, dep n <= deps l
 | [], n, hn => nomatch hn
 | m :: l, n, hn => by
  unfold deps
  rcases List.mem_cons.1 hn with rfl | hn
  ·omega
  ·have := Zlw n hn; omega
theorem Nd.eta (n : Nd) : n = .mk n.h n.l := by cases n; rfl
theorem Zf9 {w : World} (n : Nd) : RT w n ↔ ltOk w n.h n.l /\ RTs w n.l := by cases n; unfold RT; rfl
theorem Y4 (n : Nd) : TG n ↔ (n.l.length : Int) <= 9223372036854775807 /\ (((ht n.h).length : Int) <= 9223372036854775807 /\ -9223372036854775808 <= n.h.getD 1 0 /\ n.h.getD 1 0 <= 9223372036854775807) /\ TGs n.l := by cases n; unfold TG; rfl
theorem ZeE {n : Nd} {i : Int} (h0 : 0 <= i) (h1 : i < n.l.length) : n.kid i ∈ n.l := by
 unfold Nd.kid
 have : i.toNat < n.l.length := by omega
 rw [ZxF, ZxI this]; exact List.getElem_mem _
theorem Zu2 {n : Nd} {i : Int} (h0 : 0 <= i) (h1 : i < n.l.length) : dep (n.kid i) < dep n := by
 have := Zlw _ (ZeE h0 h1)
 cases n with
 | mk h l => unfold dep at *; exact Nat.lt_succ_of_le this
theorem ZbU {n : Nd} {i : Int} (h0 : 0 <= i) (h1 : i < n.l.length) : (Z2 n.l).getD i.toNat [] = (n.kid i).h := by
 unfold Nd.kid Z2
 have : i.toNat < n.l.length := by omega
 rw [ZxF, ZxF, ZxB, ZxI this]; rfl
theorem YJ (l : List Nd) : (Z2 l).length = l.length := by unfold Z2; simp
def ndU : U Nd -> Nd | .g n => n | _ => nd0
structure TaSig (S : Sig Nd) : Prop where
 dg : S.dg = nd0
 p200 : ∀ w0 k x, S.prd 200 w0 k x = Ze.pure (RT w0 (ndU x) /\ (ndU x).h.drop 3 = k.tN)
 u601 : ∀ a b c d, S.usr 601 a b c d = .rows (Z2 (ndU a).l)
 u602 : ∀ a b c d, S.usr 602 a b c d = .ints ((a.tR.getD b.tI.toNat []).drop 3)
 u604 : ∀ a b c d, S.usr 604 a b c d = .g ((ndU a).kid b.tI)
 u606 : ∀ a b c d, S.usr 606 a b c d = .int (dep (ndU a))
 u607 : ∀ a b c d, S.usr 607 a b c d = .int (wgs ((ndU a).l.drop b.tI.toNat) c.tI)
 u608 : ∀ a b c d, S.usr 608 a b c d = .bool (ZfV (TG (ndU a)))
 u609 : ∀ a b c d, S.usr 609 a b c d = .int ((ndU a).l.length : Nat)
theorem ZwY {S : Sig Nd} (h : TaSig S) (n : Int) : TaSig (S.bd n) := ⟨h.1, h.2, h.3, h.4, h.5, h.6, h.7, h.8, h.9⟩
theorem Zj1 {S : Sig Nd} {n : Int} (a b c d : U Nd) : (S.bd n).usr 999 a b c d = .int n := rfl
theorem Ziz (n : Nd) : ndU (.g n) = n := rfl
def hdX (X I : SX) : SX := usN 602 X I z0
def rtC (X I g : SX) : Ch := .prd 200 (hdX X I) g
def krX (g : SX) : SX := usR 601 g z0 z0
def kdX (g i : SX) : SX := usG 604 g i z0
def dpX (g : SX) : SX := usI 606 g z0 z0
def tgX (g : SX) : SX := usB 608 g z0 z0
def lnX (g : SX) : SX := usI 609 g z0 z0
def leC (sp : Ctr) (me : SX) : Ctr := { sp with reqs := eLe me Zr8 :: sp.reqs }
def ltC (sp : Ctr) (me : SX) : Ctr := { sp with reqs := eLt me Zr8 :: sp.reqs }
def Zq1 : Ctr := ⟨[.rows, .int, .g], [.one (.opq (rA 0) (ai 1) 3)], [rtC (rA 0) (ai 1) (gA 2)], [], [], .tup [], [rtC (rA 0) (ai 1) (gA 2), .ro itE (nt (rA 0) (ai 1) 3) (nt (rA 0) (ai 1) 4) (krX (gA 2))],
 [.f2 45 (nt (rA 0) (ai 1) 6) (lenR (krX (gA 2))), .f2 45 (nt (rA 0) (ai 1) 6) (lnX (gA 2)), .f2 50 (eLe z0 (nt (rA 0) (ai 1) 3)) (.f2 45 (nt (rA 0) (ai 1) 6) z0), .f2 50 (eLt (nt (rA 0) (ai 1) 5) z0) (.f2 45 (nt (rA 0) (ai 1) 6) z0)]⟩
def Zuu : Ctr := ⟨[.rows, .int, .g, .int], [.one (.opq (rA 0) (ai 1) 3), .one (.int .i64 (ai 3))], [rtC (rA 0) (ai 1) (gA 2)], [eLe z0 (ai 3), eLt (ai 3) (nt (rA 0) (ai 1) 6), tgX (gA 2)], [], .tup [], [rtC (rA 0) (ai 1) (gA 2), rtC (krX (gA 2)) (ai 3) (kdX (gA 2) (ai 3))],
 [eLt (dpX (kdX (gA 2) (ai 3))) (dpX (gA 2)), eLe z0 (dpX (kdX (gA 2) (ai 3))), tgX (kdX (gA 2) (ai 3))]⟩
def ZqC : Ctr := ⟨[.rows, .int, .g, .rows, .int, .g, .int], [.one (.opq (rA 0) (ai 1) 3), .one (.opq (rA 3) (ai 4) 3), .one (.int .i64 (ai 6))], [rtC (rA 0) (ai 1) (gA 2), rtC (rA 3) (ai 4) (gA 5)], [eLe z0 (ai 6), eLt (ai 6) (nt (rA 0) (ai 1) 6), eLt (ai 6) (nt (rA 3) (ai 4) 6), tgX (gA 2), tgX (gA 5)], [], .tup [],
 [rtC (rA 0) (ai 1) (gA 2), rtC (krX (gA 2)) (ai 6) (kdX (gA 2) (ai 6)), rtC (rA 3) (ai 4) (gA 5), rtC (krX (gA 5)) (ai 6) (kdX (gA 5) (ai 6))],
 [eLt (dpX (kdX (gA 2) (ai 6))) (dpX (gA 2)), eLe z0 (dpX (kdX (gA 2) (ai 6))), tgX (kdX (gA 2) (ai 6)), tgX (kdX (gA 5) (ai 6))]⟩
theorem Zco {S T : Sig Nd} (hS : TaSig S) (hu : T.usr = S.usr) (hp : T.prd = S.prd) (ρ : Go.Eng.Env Nd) (w0 : World) (X I g : SX) :
  (rtC X I g).den T ρ w0 = Ze.pure (RT w0 (ndU (g.den T ρ)) /\ (ndU (g.den T ρ)).h.drop 3 = ((X.den T ρ).tR.getD (I.den T ρ).tI.toNat []).drop 3) := by
 show T.prd 200 w0 ((hdX X I).den T ρ) (g.den T ρ) = _
 rw [hp, hS.p200]
 have e : ((hdX X I).den T ρ).tN = ((X.den T ρ).tR.getD (I.den T ρ).tI.toNat []).drop 3 := by
  show (U.co T .ints (T.usr 602 _ _ _ _)).tN = _
  rw [hu, hS.u602]; rfl
 rw [e]
theorem Zlx {a b : U Nd} (h : a.toBool = true \/ b.toBool = true) : (ap2 50 a b).tP := by rw [p50]; exact h
theorem ZeB {p q : Prop} {h : Hl} (hq : p -> q) (hp : Ze.pure p h) : Zi (Ze.pure p) (Zi (Ze.pure q) emp) h := by
 rw [star_pure]
 exact ⟨hp.1, by rw [star_pure]; exact ⟨hq hp.1, hp.2⟩⟩
theorem Zq9 {a b : List Int} (h : a.drop 3 = b.drop 3) (q : Nat) (hq : 3 <= q) : a.getD q 0 = b.getD q 0 := by
 have e : ∀ l : List Int, l.getD q 0 = (l.drop 3).getD (q - 3) 0 := fun l => by
  rw [ZxF, ZxF, Zx4, show 3 + (q - 3) = q by omega]
 rw [e a, e b, h]
theorem ZeU (S : Sig Nd) (hS : TaSig S) : Zit S Zq1 := by
 refine Zi4 S fun T w0 ρ h hu hp hd hr hpre => ⟨ρ, Ext.refl _ _, ?_, ?_⟩
 ·have hpre : Zi ((rtC (rA 0) (ai 1) (gA 2)).den T ρ w0) emp h := hpre
  rw [star_emp, Zco hS hu hp] at hpre
  show Zi ((rtC (rA 0) (ai 1) (gA 2)).den T ρ w0) (Zi (ZmK T w0 itE ((nt (rA 0) (ai 1) 3).den T ρ) ((nt (rA 0) (ai 1) 4).den T ρ) ((krX (gA 2)).den T ρ)) emp) h
  rw [Zco hS hu hp]
  refine ZeB (fun ⟨h1, h2⟩ => ?_) hpre
  have ek : ((krX (gA 2)).den T ρ).tR = Z2 (ndU ((gA 2).den T ρ)).l := by
   show (U.co T .rows (T.usr 601 _ _ _ _)).tR = _
   rw [hu, hS.u601]; rfl
  have ev : itE.vals ((krX (gA 2)).den T ρ) = (Z2 (ndU ((gA 2).den T ρ)).l).flatMap (Zo itF) := by
   show (((krX (gA 2)).den T ρ).tR).flatMap (Zo itF) = _
   rw [ek]
  have e3 : ((nt (rA 0) (ai 1) 3).den T ρ).tI = (ndU ((gA 2).den T ρ)).h.getD 3 0 := (Zq9 h2 3 (Zxv _)).symm
  have e4 : ((nt (rA 0) (ai 1) 4).den T ρ).tI = (ndU ((gA 2).den T ρ)).h.getD 4 0 := (Zq9 h2 4 (by omega)).symm
  rw [ev, e3, e4]
  obtain ⟨⟨a1, a2, a3⟩, _⟩ := (Zf9 _).1 h1
  refine ⟨?_, a3⟩
  by_cases hl : (ndU ((gA 2).den T ρ)).l = []
  ·right; rw [hl]; rfl
  ·left; exact (a2 hl).1
 ·have hpre : Zi ((rtC (rA 0) (ai 1) (gA 2)).den T ρ w0) emp h := hpre
  rw [star_emp, Zco hS hu hp] at hpre
  obtain ⟨⟨h1, h2⟩, _⟩ := hpre
  obtain ⟨⟨a1, a2, a3⟩, _⟩ := (Zf9 _).1 h1
  have e : ∀ q : Nat, 3 <= q -> ((nt (rA 0) (ai 1) q).den T ρ).tI = (ndU ((gA 2).den T ρ)).h.getD q 0 := fun q hq => (Zq9 h2 q hq).symm
  have ek : ((krX (gA 2)).den T ρ).tR = Z2 (ndU ((gA 2).den T ρ)).l := by
   show (U.co T .rows (T.usr 601 _ _ _ _)).tR = _
   rw [hu, hS.u601]; rfl
  have el : ((lnX (gA 2)).den T ρ).tI = ((ndU ((gA 2).den T ρ)).l.length : Nat) := by
   show (U.co T .int (T.usr 609 _ _ _ _)).tI = _
   rw [hu, hS.u609]; rfl
  intro x hx
  simp only [Zq1, List.mem_cons, List.not_mem_nil, or_false] at hx
  rcases hx with rfl | rfl | rfl | rfl
  ·show (ap2 45 _ _).tP
   rw [p45, e 6 (by omega), a1]
   show _ = ((((krX (gA 2)).den T ρ).tR.length : Nat) : Int)
   rw [ek, YJ]
  ·show (ap2 45 _ _).tP
   rw [p45, e 6 (by omega), a1, el]
  ·show (ap2 50 ((eLe z0 (nt (rA 0) (ai 1) 3)).den T ρ) ((SX.f2 45 (nt (rA 0) (ai 1) 6) z0).den T ρ)).tP
   by_cases hl : (ndU ((gA 2).den T ρ)).l = []
   ·refine Zlx (.inr ?_)
    show (ap2 45 _ _).toBool = true
    rw [Zh3, e 6 (by omega), a1, hl]; rfl
   ·refine Zlx (.inl ?_)
    rw [Zeq, e 3 (by omega)]; exact decide_eq_true (a2 hl).1
  ·show (ap2 50 ((eLt (nt (rA 0) (ai 1) 5) z0).den T ρ) ((SX.f2 45 (nt (rA 0) (ai 1) 6) z0).den T ρ)).tP
   by_cases hl : (ndU ((gA 2).den T ρ)).l = []
   ·refine Zlx (.inr ?_)
    show (ap2 45 _ _).toBool = true
    rw [Zh3, e 6 (by omega), a1, hl]; rfl
   ·refine Zlx (.inl ?_)
    rw [YO, e 5 (by omega)]; exact decide_eq_true (a2 hl).2
theorem Zxn {S T : Sig Nd} (hS : TaSig S) (hu : T.usr = S.usr) (ρ : Go.Eng.Env Nd) (g : SX) : ((krX g).den T ρ).tR = Z2 (ndU (g.den T ρ)).l := by
 show (U.co T .rows (T.usr 601 _ _ _ _)).tR = _
 rw [hu, hS.u601]; rfl
theorem Znb {S T : Sig Nd} (hS : TaSig S) (hu : T.usr = S.usr) (ρ : Go.Eng.Env Nd) (g i : SX) : ndU ((kdX g i).den T ρ) = (ndU (g.den T ρ)).kid (i.den T ρ).tI := by
 show ndU (U.co T .g (T.usr 604 _ _ _ _)) = _
 rw [hu, hS.u604]; rfl
theorem ZbA {S T : Sig Nd} (hS : TaSig S) (hu : T.usr = S.usr) (ρ : Go.Eng.Env Nd) (g : SX) : ((dpX g).den T ρ).tI = dep (ndU (g.den T ρ)) := by
 show (U.co T .int (T.usr 606 _ _ _ _)).tI = _
 rw [hu, hS.u606]; rfl
theorem Za6 {S T : Sig Nd} (hS : TaSig S) (hu : T.usr = S.usr) (ρ : Go.Eng.Env Nd) (g : SX) : ((tgX g).den T ρ).tP ↔ TG (ndU (g.den T ρ)) := by
 show (U.co T .bool (T.usr 608 _ _ _ _)).tP ↔ _
 rw [hu, hS.u608]
 show ZfV _ = true ↔ _
 rw [Zjn]
theorem ZlD {S T : Sig Nd} (hS : TaSig S) (hu : T.usr = S.usr) (hp : T.prd = S.prd) {ρ : Go.Eng.Env Nd} {w0 : World} {X I g i : SX} {h : Hl} (hpre : (rtC X I g).den T ρ w0 h) (r0 : 0 <= (i.den T ρ).tI) (r1 : (i.den T ρ).tI < ((nt X I 6).den T ρ).tI) (r2 : TG (ndU (g.den T ρ))) :
  Zi ((rtC X I g).den T ρ w0) ((rtC (krX g) i (kdX g i)).den T ρ w0) h /\ dep (ndU ((kdX g i).den T ρ)) < dep (ndU (g.den T ρ)) /\ TG (ndU ((kdX g i).den T ρ)) := by
 rw [Zco hS hu hp] at hpre
 rw [Zco hS hu hp, Zco hS hu hp, Zxn hS hu, Znb hS hu]
 obtain ⟨⟨h1, h2⟩, hn⟩ := hpre
 obtain ⟨⟨a1, a2, a3⟩, a4⟩ := (Zf9 _).1 h1
 have e6 : ((nt X I 6).den T ρ).tI = (ndU (g.den T ρ)).h.getD 6 0 := (Zq9 h2 6 (by omega)).symm
 rw [e6, a1] at r1
 refine ⟨?_, Zu2 r0 r1, ZoU ((Y4 _).1 r2).2.2 _ (ZeE r0 r1)⟩
 rw [star_pure]
 exact ⟨⟨h1, h2⟩, ⟨Zm9 a4 _ (ZeE r0 r1), by rw [ZbU r0 r1]⟩, hn⟩
theorem Zsv (S : Sig Nd) (hS : TaSig S) : Zit S Zuu := by
 refine Zi4 S fun T w0 ρ h hu hp hd hr hpre => ⟨ρ, Ext.refl _ _, ?_⟩
 have r0 := hr (eLe z0 (ai 3)) (by simp [Zuu])
 have r1 := hr (eLt (ai 3) (nt (rA 0) (ai 1) 6)) (by simp [Zuu])
 have r2 := hr (tgX (gA 2)) (by simp [Zuu])
 rw [eLe_den] at r0
 rw [ZU] at r1
 rw [Za6 hS hu] at r2
 have hpre : Zi ((rtC (rA 0) (ai 1) (gA 2)).den T ρ w0) emp h := hpre
 rw [star_emp] at hpre
 obtain ⟨q1, q2, q3⟩ := ZlD hS hu hp hpre r0 r1 r2
 refine ⟨?_, ?_⟩
 ·show Zi ((rtC (rA 0) (ai 1) (gA 2)).den T ρ w0) (Zi ((rtC (krX (gA 2)) (ai 3) (kdX (gA 2) (ai 3))).den T ρ w0) emp) h
  rw [star_emp]; exact q1
 ·intro x hx
  simp only [Zuu, List.mem_cons, List.not_mem_nil, or_false] at hx
  rcases hx with rfl | rfl | rfl
  ·rw [ZU, ZbA hS hu, ZbA hS hu]
   exact Int.ofNat_lt.2 q2
  ·rw [eLe_den, ZbA hS hu]
   exact Int.natCast_nonneg _
  ·rw [Za6 hS hu]; exact q3
theorem Zsl (S : Sig Nd) (hS : TaSig S) : Zit S ZqC := by
 refine Zi4 S fun T w0 ρ h hu hp hd hr hpre => ⟨ρ, Ext.refl _ _, ?_⟩
 have r0 := hr (eLe z0 (ai 6)) (by simp [ZqC])
 have r1 := hr (eLt (ai 6) (nt (rA 0) (ai 1) 6)) (by simp [ZqC])
 have r1' := hr (eLt (ai 6) (nt (rA 3) (ai 4) 6)) (by simp [ZqC])
 have r2 := hr (tgX (gA 2)) (by simp [ZqC])
 have r2' := hr (tgX (gA 5)) (by simp [ZqC])
 rw [eLe_den] at r0
 rw [ZU] at r1 r1'
 rw [Za6 hS hu] at r2 r2'
 have hpre : Zi ((rtC (rA 0) (ai 1) (gA 2)).den T ρ w0) (Zi ((rtC (rA 3) (ai 4) (gA 5)).den T ρ w0) emp) h := hpre
 rw [star_emp] at hpre
 obtain ⟨a, b, d, rfl, ha, hb⟩ := hpre
 obtain ⟨q1, q2, q3⟩ := ZlD hS hu hp ha r0 r1 r2
 obtain ⟨k1, k2, k3⟩ := ZlD hS hu hp hb r0 r1' r2'
 refine ⟨?_, ?_⟩
 ·show Zi ((rtC (rA 0) (ai 1) (gA 2)).den T ρ w0) (Zi ((rtC (krX (gA 2)) (ai 6) (kdX (gA 2) (ai 6))).den T ρ w0) (Zi ((rtC (rA 3) (ai 4) (gA 5)).den T ρ w0) (Zi ((rtC (krX (gA 5)) (ai 6) (kdX (gA 5) (ai 6))).den T ρ w0) emp))) _
  rw [star_emp, <- Zc]; exact ⟨a, b, d, rfl, q1, k1⟩
 ·intro x hx
  simp only [ZqC, List.mem_cons, List.not_mem_nil, or_false] at hx
  rcases hx with rfl | rfl | rfl | rfl
  ·rw [ZU, ZbA hS hu, ZbA hS hu]
   exact Int.ofNat_lt.2 q2
  ·rw [eLe_den, ZbA hS hu]
   exact Int.natCast_nonneg _
  ·rw [Za6 hS hu]; exact q3
  ·rw [Za6 hS hu]; exact k3
def sgn (a b : Int) : Int := if a < b then -1 else if b < a then 1 else 0
def srt (n : Int) : Int := if n < 0 then -1 - n else n + 9223372036854775808
mutual
def ZfL : Nd -> Nd -> Int
 | .mk h l, .mk k m =>
  if h.getD 0 0 < k.getD 0 0 then -1 else if k.getD 0 0 < h.getD 0 0 then 1
  else if h.getD 0 0 = 3 then sgn (h.getD 1 0) (k.getD 1 0)
  else if h.getD 0 0 = 4 then sgn (srt (h.getD 1 0)) (srt (k.getD 1 0))
  else if h.getD 0 0 = 5 \/ h.getD 0 0 = 6 then Lib.compareBytes (ht h) (ht k)
  else if h.getD 0 0 = 7 then Za7 l m else 0
def Za7 : List Nd -> List Nd -> Int
 | [], [] => 0
 | [], _ :: _ => -1
 | _ :: _, [] => 1
 | x :: l, y :: m => if ZfL x y = 0 then Za7 l m else ZfL x y
end
structure TcSig (S : Sig Nd) : Prop where
 ta : TaSig S
 u610 : ∀ a b c d, S.usr 610 a b c d = .int (Za7 ((ndU a).l.drop c.tI.toNat) ((ndU b).l.drop c.tI.toNat))
 u611 : ∀ a b c d, S.usr 611 a b c d = .int (Lib.compareBytes a.tB b.tB)
 u612 : ∀ a b c d, S.usr 612 a b c d = .int (ZfL (ndU a) (ndU b))
 u613 : ∀ a b c d, S.usr 613 a b c d = .int ((ndU a).h.getD b.tI.toNat 0)
 u614 : ∀ a b c d, S.usr 614 a b c d = .bytes (ht (ndU a).h)
theorem Zp3 {S : Sig Nd} (h : TcSig S) (n : Int) : TcSig (S.bd n) := ⟨ZwY h.ta n, h.2, h.3, h.4, h.5, h.6⟩
def cmX (g k i : SX) : SX := usI 610 g k i
def csX (a b : SX) : SX := usI 611 a b z0
def ciX (g k : SX) : SX := usI 612 g k z0
def hdI (g : SX) (k : Nat) : SX := usI 613 g (.int k) z0
def htX (g : SX) : SX := usY 614 g z0 z0
/-! ### Texts -/
def csC : Ctr := ⟨[.bytes, .bytes], [.one (.str (bA 0)), .one (.str (bA 1))], [], [], [], .one (.int .i64 (csX (bA 0) (bA 1))), [], []⟩
theorem ZvQ (S : Sig Nd) (hS : TcSig S) {P : Program} {f : FuncId} {fn : Func} (hf : P.funcs[f]? = some fn) (hname : (fn.name == "runtime.NumGoroutine") = false) (hb : fn.body.isNone = true)
  (hn : Extern.findNext fn = none) (he : Extern.find fn = some Extern.BytealgCompare.compare) : ZeL S P f csC := by
 intro ch w0 F ρ w xs hx hq hsat
 match xs, hx with
 | [v1, v2], hx =>
  have hv1 := R_one S ρ hx.1
  have hv2 := R_one S ρ hx.2.1
  refine ⟨.int .i64 (Lib.compareBytes (ρ 0).tB (ρ 1).tB), w, ?_, ρ, Ext.refl _ _, .inr ?_, hsat, by simp [csC]⟩
  ·rw [run_callFunc_extern hf hname hb hn he]
   have hv1 : v1 = .string ⟨(ρ 0).tB.toArray⟩ := hv1
   have hv2 : v2 = .string ⟨(ρ 1).tB.toArray⟩ := hv2
   rw [hv1, hv2]
   show ((fun v => Next.value v) <$> Extern.BytealgCompare.compare #[.string ⟨(ρ 0).tB.toArray⟩, .string ⟨(ρ 1).tB.toArray⟩]).run P w = _
   have h := Lib.run_compareString (P := P) ⟨(ρ 0).tB.toArray⟩ ⟨(ρ 1).tB.toArray⟩ w
   simp only [Sem.run_map, h]
   rfl
  ·show _ = Value.int .i64 (U.co S .int (S.usr 611 _ _ _ _)).tI
   rw [hS.u611]; rfl
/-! ### Two items: 0 .. 5, 6 .. 11 each kind, number, text, rows, place, tree -/
def itA (k : Nat) : SV := .agg [.int .i64 (ai k), .int .i64 (ai (k + 1)), .str (bA (k + 2)), .opq (rA (k + 3)) (ai (k + 4)) 3]
def itQ (k : Nat) : List SX := [.f2 45 (ai k) (hdI (gA (k + 5)) 0), .f2 45 (ai (k + 1)) (hdI (gA (k + 5)) 1), eqS (bA (k + 2)) (htX (gA (k + 5)))]
def cmiC : Ctr := ⟨[.int, .int, .bytes, .rows, .int, .g, .int, .int, .bytes, .rows, .int, .g], [itA 0, itA 6], [rtC (rA 3) (ai 4) (gA 5), rtC (rA 9) (ai 10) (gA 11)], [eLt (dpX (gA 5)) Zr8, eLe z0 (dpX (gA 5)), tgX (gA 5), tgX (gA 11)] ++ (itQ 0 ++ itQ 6), [], .one (.int .i64 (ciX (gA 5) (gA 11))), [], []⟩
def Zry : Ctr := ⟨[.rows, .int, .g, .rows, .int, .g], [.one (.opq (rA 0) (ai 1) 3), .one (.opq (rA 3) (ai 4) 3)], [rtC (rA 0) (ai 1) (gA 2), rtC (rA 3) (ai 4) (gA 5)], [eLe z0 (dpX (gA 2)), tgX (gA 2), tgX (gA 5)], [], .one (.int .i64 (cmX (gA 2) (gA 5) z0)), [rtC (rA 0) (ai 1) (gA 2), rtC (rA 3) (ai 4) (gA 5)], []⟩
def ZmB : Ctr := ltC Zry (dpX (gA 2))
def ZsF : Ctr := cmiC
def ZsQ : Ctr := cmiC
def Znh : Ctr := leC Zry (dpX (gA 2))
def Zr6 : Ctr := Znh
def cmpI : Inv := ⟨[.int], [(12, .one (.int .i64 (di 0)))], [], [eLe z0 (di 0), eLe (di 0) (.f2 51 (nt (rA 0) (ai 1) 6) (nt (rA 3) (ai 4) 6)), .f2 45 (cmX (gA 2) (gA 5) (di 0)) (cmX (gA 2) (gA 5) z0)], .f2 41 (.f2 51 (nt (rA 0) (ai 1) 6) (nt (rA 3) (ai 4) 6)) (di 0)⟩
def cmqI : Inv := ⟨[.int], [(5, .one (.int .i64 (di 0)))], [], [eLe z0 (di 0), eLe (di 0) (nt (rA 0) (ai 1) 6), eLe (di 0) (nt (rA 3) (ai 4) 6), .f2 45 (cmX (gA 2) (gA 5) (di 0)) (cmX (gA 2) (gA 5) z0)], .f2 41 (nt (rA 0) (ai 1) 6) (di 0)⟩
def ZwE : Cx := { specs := [(20, [ZmB])], anns := [], exts := [(95, [csC])] }
def ZvI : Cx := { specs := [(21, [ZmB])], anns := [] }
def Zw7 : Cx := { specs := [(33, [cmiC])], anns := [(20, [(0, .ghost Zq1 [.tmp 0]), (1, .ghost Zq1 [.tmp 1]), (2, .inv cmpI), (4, .ghost ZqC [.tmp 0, .tmp 1, .tmp 5])])] }
def Zxa : Cx := { specs := [(35, [cmiC])], anns := [(21, [(0, .ghost Zq1 [.tmp 0]), (1, .ghost Zq1 [.tmp 1]), (2, .inv cmqI), (4, .ghost ZqC [.tmp 0, .tmp 1, .tmp 5])])] }
theorem ZvO (S : Sig Nd) (hS : TcSig S) : ZeL S Tryz.prog 95 csC :=
 ZvQ S hS (fn := Tryz.f95) Tryz.func95 (by kernel_rfl) (by kernel_rfl) (by kernel_rfl) (by kernel_rfl)
theorem ZaQ (g k : Nd) : ZfL g k = if g.h.getD 0 0 < k.h.getD 0 0 then -1 else if k.h.getD 0 0 < g.h.getD 0 0 then 1
  else if g.h.getD 0 0 = 3 then sgn (g.h.getD 1 0) (k.h.getD 1 0)
  else if g.h.getD 0 0 = 4 then sgn (srt (g.h.getD 1 0)) (srt (k.h.getD 1 0))
  else if g.h.getD 0 0 = 5 \/ g.h.getD 0 0 = 6 then Lib.compareBytes (ht g.h) (ht k.h)
  else if g.h.getD 0 0 = 7 then Za7 g.l k.l else 0 := by
 cases g; cases k; unfold ZfL; rfl
theorem Zmf {g k : Nd} {i : Int} (h0 : 0 <= i) (h1 : i < g.l.length) (h2 : i < k.l.length) : Za7 (g.l.drop i.toNat) (k.l.drop i.toNat) = if ZfL (g.kid i) (k.kid i) = 0 then Za7 (g.l.drop (i + 1).toNat) (k.l.drop (i + 1).toNat) else ZfL (g.kid i) (k.kid i) := by
 have hi : i.toNat < g.l.length := by omega
 have hj : i.toNat < k.l.length := by omega
 have e : ∀ (g : Nd) (hi : i.toNat < g.l.length), g.l[i.toNat] = g.kid i := fun g hi => by unfold Nd.kid; rw [ZxF, ZxI hi]; rfl
 rw [List.drop_eq_getElem_cons hi, List.drop_eq_getElem_cons hj, e g hi, e k hj, show (i + 1).toNat = i.toNat + 1 by omega]
 conv => lhs; unfold Za7
theorem ZpV {g k : Nd} {i : Int} (h0 : 0 <= i) (h1 : i <= g.l.length) (h2 : i <= k.l.length) (h3 : (g.l.length : Int) <= i \/ (k.l.length : Int) <= i) : Za7 (g.l.drop i.toNat) (k.l.drop i.toNat) = sgn g.l.length k.l.length := by
 unfold sgn
 have lg : (g.l.drop i.toNat).length = g.l.length - i.toNat := ZxT
 have lk : (k.l.drop i.toNat).length = k.l.length - i.toNat := ZxT
 generalize g.l.drop i.toNat = a at *
 generalize k.l.drop i.toNat = b at *
 cases a with
 | nil =>
  cases b with
  | nil =>
   simp only [List.length_nil] at lg lk
   unfold Za7; rw [if_neg (by omega), if_neg (by omega)]
  | cons y b =>
   simp only [List.length_nil, ZxZ] at lg lk
   unfold Za7; rw [if_pos (by omega)]
 | cons x a =>
  cases b with
  | nil =>
   simp only [List.length_nil, ZxZ] at lg lk
   unfold Za7; rw [if_neg (by omega), if_pos (by omega)]
  | cons y b => simp only [ZxZ] at lg lk; omega
theorem n83 {G : Type} (a b : U G) : ap2 83 a b = .int (ZaA .xor .u64 a.tI b.tI) := rfl
theorem n75' {G : Type} (a b : U G) : ap2 75 a b = .int (ZaA .or .u64 a.tI b.tI) := rfl
theorem n103 {G : Type} (a : U G) : ap2 103 a (.int 63) = .int (a.tI.fdiv 9223372036854775808) := rfl
theorem Zvg {n : Nat} (h : n < 9223372036854775808) : n ^^^ 9223372036854775808 = n + 9223372036854775808 := by
 apply Nat.eq_of_testBit_eq
 intro j
 rw [Nat.testBit_xor, show (9223372036854775808 : Nat) = 2 ^ 63 from rfl, Nat.add_comm, Nat.testBit_two_pow]
 rcases Nat.lt_trichotomy j 63 with hj | hj | hj
 ·rw [Nat.testBit_two_pow_add_gt hj, decide_eq_false (by omega)]; simp
 ·subst hj
  rw [Nat.testBit_two_pow_add_eq]; simp
 ·have h1 : n.testBit j = false := Nat.testBit_lt_two_pow (Nat.lt_of_lt_of_le h (by rw [show (9223372036854775808 : Nat) = 2 ^ 63 from rfl]; exact Nat.pow_le_pow_right (by omega) (by omega)))
  have h2 : (2 ^ 63 + n).testBit j = false := Nat.testBit_lt_two_pow (Nat.lt_of_lt_of_le (show 2 ^ 63 + n < 2 ^ 64 by omega) (Nat.pow_le_pow_right (by omega) (by omega)))
  rw [h1, h2, decide_eq_false (by omega)]; rfl
theorem Zjh {x : Int} (h0 : 0 <= x) (h1 : x < 18446744073709551616) : IntKind.u64.wrap x = x := by rw [Zta]; omega
theorem Zxi {x : Int} (h0 : 0 <= x) (h1 : x < 9223372036854775808) : ZaA .xor .u64 x 9223372036854775808 = x + 9223372036854775808 := by
 obtain ⟨n, rfl⟩ := Zxx h0
 unfold ZaA
 have e1 : BitVec.ofInt IntKind.u64.bits (n : Int) = BitVec.ofNat 64 n := BitVec.ofInt_natCast _ _
 have e2 : BitVec.ofInt IntKind.u64.bits (9223372036854775808 : Int) = BitVec.ofNat 64 9223372036854775808 := rfl
 simp only [e1, e2]
 have e3 : (BitVec.ofNat 64 n ^^^ BitVec.ofNat 64 9223372036854775808).toNat = n + 9223372036854775808 := by
  rw [BitVec.toNat_xor, BitVec.toNat_ofNat, BitVec.toNat_ofNat, Nat.mod_eq_of_lt (by omega), Nat.mod_eq_of_lt (by omega), Zvg (by omega)]
 show IntKind.u64.wrap ((BitVec.ofNat 64 n ^^^ BitVec.ofNat 64 9223372036854775808).toNat : Nat) = _
 rw [e3, Zjh (by omega) (by omega)]; omega
theorem Zr1 {x : Int} (h0 : 0 <= x) (h1 : x < 18446744073709551616) : ZaA .xor .u64 x 18446744073709551615 = 18446744073709551615 - x := by
 obtain ⟨n, rfl⟩ := Zxx h0
 unfold ZaA
 have e1 : BitVec.ofInt IntKind.u64.bits (n : Int) = BitVec.ofNat 64 n := BitVec.ofInt_natCast _ _
 have e2 : BitVec.ofInt IntKind.u64.bits (18446744073709551615 : Int) = BitVec.allOnes 64 := rfl
 simp only [e1, e2]
 have e3 : (BitVec.ofNat 64 n ^^^ BitVec.allOnes 64).toNat = 18446744073709551615 - n := by
  rw [BitVec.xor_allOnes, BitVec.toNat_not, BitVec.toNat_ofNat, Nat.mod_eq_of_lt (by omega)]
 show IntKind.u64.wrap ((BitVec.ofNat 64 n ^^^ BitVec.allOnes 64).toNat : Nat) = _
 rw [e3, Zjh (by omega) (by omega)]; omega
theorem ZuB (x y : Int) : ZaA .xor .u64 x y = ZaA .xor .u64 y x := by
 unfold ZaA; simp only [BitVec.xor_comm]
theorem srtA {x : Int} (h0 : -9223372036854775808 <= x) (h1 : x <= 9223372036854775807) : ZaA .xor .u64 (IntKind.u64.wrap x) (ZaA .or .u64 (IntKind.u64.wrap (x.fdiv 9223372036854775808)) 9223372036854775808) = srt x := by
 unfold srt
 by_cases h : x < 0
 ·have e1 : x.fdiv 9223372036854775808 = -1 := by rw [Int.fdiv_eq_ediv_of_nonneg _ (by omega)]; omega
  have e2 : IntKind.u64.wrap x = x + 18446744073709551616 := by rw [Zta]; omega
  rw [if_pos h, e1, e2, show ZaA .or .u64 (IntKind.u64.wrap (-1)) 9223372036854775808 = 18446744073709551615 by decide, Zr1 (by omega) (by omega)]; omega
 ·have e1 : x.fdiv 9223372036854775808 = 0 := by rw [Int.fdiv_eq_ediv_of_nonneg _ (by omega)]; omega
  rw [if_neg h, e1, Zjh (by omega) (by omega), show ZaA .or .u64 (IntKind.u64.wrap 0) 9223372036854775808 = 9223372036854775808 by decide, Zxi (by omega) (by omega)]
theorem srtB {x : Int} (h0 : -9223372036854775808 <= x) (h1 : x < 0) : ZaA .xor .u64 18446744073709551615 (IntKind.u64.wrap x) = srt x := by
 unfold srt
 have e2 : IntKind.u64.wrap x = x + 18446744073709551616 := by rw [Zta]; omega
 rw [if_pos h1, e2, ZuB, Zr1 (by omega) (by omega)]; omega
theorem srtC {x : Int} (h0 : 0 <= x) (h1 : x <= 9223372036854775807) : IntKind.u64.wrap (IntKind.u64.wrap x + 9223372036854775808) = srt x := by
 unfold srt
 rw [if_neg (by omega), Zjh h0 (by omega), Zjh (by omega) (by omega)]
theorem ZsD (a b : UInt8) : a < b \/ a = b \/ b < a := by
 rcases Nat.lt_trichotomy a.toNat b.toNat with h | h | h
 ·exact .inl (UInt8.lt_iff_toNat_lt.2 h)
 ·exact .inr (.inl (UInt8.toNat_inj.1 h))
 ·exact .inr (.inr (UInt8.lt_iff_toNat_lt.2 h))
theorem Zeb {x y : Int} (h : x < y) : sgn x y = -1 := by unfold sgn; rw [if_pos h]
theorem ZdZ {x y : Int} (h : y < x) : sgn x y = 1 := by unfold sgn; rw [if_neg (by omega), if_pos h]
theorem Zea {x y : Int} (h : x = y) : sgn x y = 0 := by unfold sgn; rw [if_neg (by omega), if_neg (by omega)]
theorem ZoE : ∀ t : List UInt8, Op.bytesLess t t = false
 | [] => by unfold Op.bytesLess; rfl
 | a :: t => by
  have : ¬ a < a := by rw [UInt8.lt_iff_toNat_lt]; omega
  unfold Op.bytesLess
  simp [this, ZoE t]
theorem ZtS : ∀ a b : List UInt8, Lib.compareBytes a b = if Op.bytesLess a b = true then -1 else if a = b then 0 else 1
 | [], [] => by unfold Lib.compareBytes Op.bytesLess; simp
 | [], _ :: _ => by unfold Lib.compareBytes Op.bytesLess; simp
 | _ :: _, [] => by unfold Lib.compareBytes Op.bytesLess; simp
 | a :: x, b :: y => by
  unfold Lib.compareBytes Op.bytesLess
  rw [ZtS x y]
  rcases ZsD a b with h | h | h
  ·simp [h]
  ·subst h
   have : ¬ a < a := by rw [UInt8.lt_iff_toNat_lt]; omega
   simp [this]
  ·have h2 : ¬ a < b := by rw [UInt8.lt_iff_toNat_lt] at h ⊢; omega
   have h3 : a ≠ b := by rintro rfl; exact h2 h
   simp [h, h2, h3]
def Zs1 : SX := v 606 (g 5)
def Zms : SX := d 612 (g 5) (g 11)
def ZrS : SX := e Zms (k (-1))
def ZqA : SX := e Zms (k 1)
def ZuJ : SX := e (a 0) (k 3)
def Zrw : SX := e Zms z
def ZtC : SX := e (a 0) (k 4)
def Zno : SX := .f2 83 (.f1 17 (a 1)) (.f2 75 (.f1 17 (.f2 103 (a 1) (k 63))) k0)
def ZpW : SX := .f2 83 (.f1 17 (a 7)) (.f2 75 (.f1 17 (.f2 103 (a 7) (k 63))) k0)
def ZrF : SX := e (a 0) (k 5)
def ZpO : SX := e Zms (d 611 (b 2) (b 8))
def Zpn : SX := e (a 0) (k 6)
def ZpQ : SX := e (a 0) (k 7)
def ZwO : VC := i (t Zs1 (v 999 z)) (i (l z Zs1) (i (p 608 (g 5)) (i (p 608 (g 11)) (i (e (a 0) (v 613 (g 5))) (i (e (a 1) (d 613 (g 5) (k 1))) (i (.f2 155 (b 2) (j 614 (g 5))) (i (e (a 6) (v 613 (g 11))) (i (e (a 7) (d 613 (g 11) (k 1))) (i (.f2 155 (b 8) (j 614 (g 11))) (u 12 .int (i (l z (a 12)) (u 13 .int (i (l z (a 13)) (.and (i (t (a 0) (a 6)) (n ZrS .tt)) (i (l (a 6) (a 0)) (.and (i (t (a 6) (a 0)) (n ZqA .tt)) (i (l (a 0) (a 6)) (.and (i ZuJ (.and (i (t (a 1) (a 7)) (n ZrS .tt)) (i (l (a 7) (a 1)) (.and (i (t (a 7) (a 1)) (n ZqA .tt)) (i (l (a 1) (a 7)) (n Zrw .tt)))))) (i (.f1 2 ZuJ) (.and (i ZtC (.and (i (t Zno ZpW) (n ZrS .tt)) (i (l ZpW Zno) (.and (i (t ZpW Zno) (n ZqA .tt)) (i (l Zno ZpW) (n Zrw .tt)))))) (i (.f1 2 ZtC) (.and (i ZrF (.and (i ZrF (n ZpO .tt)) .tt)) (i (.f1 2 ZrF) (.and (i Zpn (n ZpO .tt)) (i (.f1 2 Zpn) (.and (i ZpQ (n (e Zms (d 610 (g 5) (g 11))) .tt)) (i (.f1 2 ZpQ) (n Zrw .tt))))))))))))))))))))))))))))
theorem Zw4 : Zqz Tryz.prog ZwE 12 33 ZsF = ZwO := by kernel_rfl
def ZuD : SX := v 606 (g 5)
def Zui : SX := e (a 0) (a 6)
def ZoZ : SX := d 612 (g 5) (g 11)
def ZgF : SX := e ZoZ (k (-1))
def ZgJ : SX := e ZoZ (k 1)
def ZuT : SX := e (a 0) (k 3)
def ZhH : SX := e ZoZ z
def ZuL : SX := e (a 0) (k 4)
def Zq2 : SX := t (a 1) z
def Zoi : SX := t (a 7) z
def ZcV : SX := .f2 83 k1 (.f1 17 (a 1))
def ZcZ : SX := .f2 83 k1 (.f1 17 (a 7))
def Zjk : SX := l z (a 7)
def Zdb : SX := .f1 17 (.f2 40 (.f1 17 (a 7)) k0)
def ZkP : SX := l z (a 1)
def Zc2 : SX := .f1 17 (.f2 40 (.f1 17 (a 1)) k0)
def Zly : SX := e (a 0) (k 5)
def Zjy : SX := .f2 151 (b 2) (b 8)
def Zp6 : SX := .f1 2 Zjy
def ZlN : SX := .f1 2 (.f2 50 Zjy (.f2 150 (b 2) (b 8)))
def Zot : SX := .f1 2 ZlN
def ZnJ : SX := e (a 0) (k 6)
def Zo1 : SX := e (a 0) (k 7)
def Zwg : VC := i (t ZuD (v 999 z)) (i (l z ZuD) (i (p 608 (g 5)) (i (p 608 (g 11)) (i (e (a 0) (v 613 (g 5))) (i (e (a 1) (d 613 (g 5) (k 1))) (i (.f2 155 (b 2) (j 614 (g 5))) (i (e (a 6) (v 613 (g 11))) (i (e (a 7) (d 613 (g 11) (k 1))) (i (.f2 155 (b 8) (j 614 (g 11))) (u 12 .int (i (l z (a 12)) (u 13 .int (i (l z (a 13)) (.and (i (.f1 2 Zui) (.and (i (t (a 0) (a 6)) (n ZgF .tt)) (i (l (a 6) (a 0)) (n ZgJ .tt)))) (i Zui (.and (i ZuT (.and (i (t (a 1) (a 7)) (n ZgF .tt)) (i (l (a 7) (a 1)) (.and (i (t (a 7) (a 1)) (n ZgJ .tt)) (i (l (a 1) (a 7)) (n ZhH .tt)))))) (i (.f1 2 ZuT) (.and (i ZuL (.and (i Zq2 (.and (i Zoi (.and (i Zq2 (.and (i Zoi (.and (i (t ZcV ZcZ) (n ZgF .tt)) (i (l ZcZ ZcV) (.and (i (t ZcZ ZcV) (n ZgJ .tt)) (i (l ZcV ZcZ) (n ZhH .tt)))))) .tt)) .tt)) (i Zjk (.and (i Zq2 (.and .tt (i Zjk (.and (i (t ZcV Zdb) (n ZgF .tt)) (i (l Zdb ZcV) (.and (i (t Zdb ZcV) (n ZgJ .tt)) (i (l ZcV Zdb) (n ZhH .tt)))))))) .tt)))) (i ZkP (.and (i Zoi (.and .tt (i ZkP (.and (i Zoi (.and (i (t Zc2 ZcZ) (n ZgF .tt)) (i (l ZcZ Zc2) (.and (i (t ZcZ Zc2) (n ZgJ .tt)) (i (l Zc2 ZcZ) (n ZhH .tt)))))) .tt)))) (i Zjk (.and .tt (i ZkP (.and .tt (i Zjk (.and (i (t Zc2 Zdb) (n ZgF .tt)) (i (l Zdb Zc2) (.and (i (t Zdb Zc2) (n ZgJ .tt)) (i (l Zc2 Zdb) (n ZhH .tt)))))))))))))) (i (.f1 2 ZuL) (.and (i Zly (.and (i Zly (.and (i Zjy (n ZgF .tt)) (i Zp6 (.and (i ZlN (n ZgJ .tt)) (i Zot (n ZhH .tt)))))) .tt)) (i (.f1 2 Zly) (.and (i ZnJ (.and (i Zjy (n ZgF .tt)) (i Zp6 (.and (i ZlN (n ZgJ .tt)) (i Zot (n ZhH .tt)))))) (i (.f1 2 ZnJ) (.and (i Zo1 (n (e ZoZ (d 610 (g 5) (g 11))) .tt)) (i (.f1 2 Zo1) (n ZhH .tt))))))))))))))))))))))))))
theorem Zw1 : Zqz Tryz.prog ZvI 12 35 ZsQ = Zwg := by kernel_rfl
def ZrR : SX := v 606 (g 2)
def Zuy : SX := v 999 z
def ZeG : SX := .f3 112 (r 0) (a 1) (k 6)
def Zqp : SX := vR 601 (g 2)
def Zt3 : SX := .f1 32 Zqp
def ZtW : SX := l z (.f3 112 (r 0) (a 1) (k 3))
def Zu7 : SX := e ZeG z
def ZtX : SX := t (.f3 112 (r 0) (a 1) (k 5)) z
def Zfz : SX := .f3 112 (r 3) (a 4) (k 6)
def Zn4 : SX := vR 601 (g 5)
def Zoj : SX := .f1 32 Zn4
def ZoV : SX := l z (.f3 112 (r 3) (a 4) (k 3))
def ZoC : SX := e Zfz z
def Zng : SX := t (.f3 112 (r 3) (a 4) (k 5)) z
def Zee : SX := .f2 51 ZeG Zfz
def Zdl : SX := d 610 (g 2) (g 5)
def ZeN : SX := f 604 (g 2) (a 6)
def Zla : SX := v 606 ZeN
def Zf0 : SX := f 604 (g 5) (a 6)
def ZpJ : SX := d 612 ZeN Zf0
def ZoT : SX := e ZpJ z
def Zgo : SX := .f2 40 (a 6) (k 1)
def Zqm : SX := .f2 41 Zee Zgo
def Zw9 : VC := i (l ZrR Zuy) (i (l z ZrR) (i (p 608 (g 2)) (i (p 608 (g 5)) (i (e ZeG Zt3) (i (e ZeG (v 609 (g 2))) (i (.f2 50 ZtW Zu7) (i (.f2 50 ZtX Zu7) (i (e Zfz Zoj) (i (e Zfz (v 609 (g 5))) (i (.f2 50 ZoV ZoC) (i (.f2 50 Zng ZoC) (n (l z ZeG) (n (l z Zfz) (n (l z Zee) (n (e Zdl Zdl) (u 6 .int (i (l z (a 6)) (i (l (a 6) Zee) (i (e (x 610 (g 2) (g 5) (a 6)) Zdl) (.and (i (t (a 6) Zee) (n (t (a 6) ZeG) (n (t (a 6) Zfz) (i (t Zla ZrR) (i (l z Zla) (i (p 608 ZeN) (i (p 608 Zf0) (n ZtW (n ZtX (n (t (a 6) Zt3) (n ZoV (n Zng (n (t (a 6) Zoj) (n (t Zla Zuy) (n (e (.f3 112 Zqp (a 6) z) (v 613 ZeN)) (n (e (.f3 112 Zqp (a 6) (k 1)) (d 613 ZeN (k 1))) (n (.f2 155 (.f1 36 (.f3 112 Zqp (a 6) (k 2))) (j 614 ZeN)) (n (e (.f3 112 Zn4 (a 6) z) (v 613 Zf0)) (n (e (.f3 112 Zn4 (a 6) (k 1)) (d 613 Zf0 (k 1))) (n (.f2 155 (.f1 36 (.f3 112 Zn4 (a 6) (k 2))) (j 614 Zf0)) (.and (i (.f1 2 ZoT) (n (e Zdl ZpJ) .tt)) (i ZoT (n (.f1 23 Zgo) (n (l z Zqm) (n (t Zqm (.f2 41 Zee (a 6))) (n (l z Zgo) (n (l Zgo Zee) (n (e (x 610 (g 2) (g 5) Zgo) Zdl) .tt)))))))))))))))))))))))))))) (i (l Zee (a 6)) (.and (i (t ZeG Zfz) (n (e Zdl (k (-1))) .tt)) (i (l Zfz ZeG) (.and (i (t Zfz ZeG) (n (e Zdl (k 1)) .tt)) (i (l ZeG Zfz) (n (e Zdl z) .tt))))))))))))))))))))))))))
theorem ZwF : Zqz Tryz.prog Zw7 12 20 Znh = Zw9 := by kernel_rfl
def ZqW : SX := v 606 (g 2)
def ZuA : SX := v 999 z
def ZcC : SX := .f3 112 (r 0) (a 1) (k 6)
def Zpx : SX := vR 601 (g 2)
def Zvc : SX := .f1 32 Zpx
def Zve : SX := l z (.f3 112 (r 0) (a 1) (k 3))
def Zu6 : SX := e ZcC z
def Zt4 : SX := t (.f3 112 (r 0) (a 1) (k 5)) z
def ZdH : SX := .f3 112 (r 3) (a 4) (k 6)
def Zpw : SX := vR 601 (g 5)
def ZpX : SX := .f1 32 Zpw
def ZoK : SX := l z (.f3 112 (r 3) (a 4) (k 3))
def ZpT : SX := e ZdH z
def ZoD : SX := t (.f3 112 (r 3) (a 4) (k 5)) z
def ZcY : SX := d 610 (g 2) (g 5)
def ZfC : SX := f 604 (g 2) (a 6)
def ZkR : SX := v 606 ZfC
def Zgj : SX := f 604 (g 5) (a 6)
def ZnV : SX := d 612 ZfC Zgj
def Zox : SX := e ZnV z
def ZeJ : SX := .f2 40 (a 6) (k 1)
def ZpS : SX := .f2 41 ZcC ZeJ
def ZpF : SX := t ZcC ZdH
def Zo3 : SX := e ZcY (k (-1))
def Zqb : SX := l ZdH ZcC
def Zqj : SX := t ZdH ZcC
def Zp8 : SX := e ZcY (k 1)
def Zpv : SX := l ZcC ZdH
def Zqd : SX := e ZcY z
def ZvV : VC := i (l ZqW ZuA) (i (l z ZqW) (i (p 608 (g 2)) (i (p 608 (g 5)) (i (e ZcC Zvc) (i (e ZcC (v 609 (g 2))) (i (.f2 50 Zve Zu6) (i (.f2 50 Zt4 Zu6) (i (e ZdH ZpX) (i (e ZdH (v 609 (g 5))) (i (.f2 50 ZoK ZpT) (i (.f2 50 ZoD ZpT) (n (l z ZcC) (n (l z ZdH) (n (e ZcY ZcY) (u 6 .int (i (l z (a 6)) (i (l (a 6) ZcC) (i (l (a 6) ZdH) (i (e (x 610 (g 2) (g 5) (a 6)) ZcY) (.and (i (t (a 6) ZcC) (.and (i (t (a 6) ZdH) (i (t ZkR ZqW) (i (l z ZkR) (i (p 608 ZfC) (i (p 608 Zgj) (n Zve (n Zt4 (n (t (a 6) Zvc) (n ZoK (n ZoD (n (t (a 6) ZpX) (n (t ZkR ZuA) (n (e (.f3 112 Zpx (a 6) z) (v 613 ZfC)) (n (e (.f3 112 Zpx (a 6) (k 1)) (d 613 ZfC (k 1))) (n (.f2 155 (.f1 36 (.f3 112 Zpx (a 6) (k 2))) (j 614 ZfC)) (n (e (.f3 112 Zpw (a 6) z) (v 613 Zgj)) (n (e (.f3 112 Zpw (a 6) (k 1)) (d 613 Zgj (k 1))) (n (.f2 155 (.f1 36 (.f3 112 Zpw (a 6) (k 2))) (j 614 Zgj)) (.and (i (.f1 2 Zox) (n (e ZcY ZnV) .tt)) (i Zox (n (.f1 23 ZeJ) (n (l z ZpS) (n (t ZpS (.f2 41 ZcC (a 6))) (n (l z ZeJ) (n (l ZeJ ZcC) (n (l ZeJ ZdH) (n (e (x 610 (g 2) (g 5) ZeJ) ZcY) .tt))))))))))))))))))))))))))) (i (l ZdH (a 6)) (.and (i ZpF (n Zo3 .tt)) (i Zqb (.and (i Zqj (n Zp8 .tt)) (i Zpv (n Zqd .tt)))))))) (i (l ZcC (a 6)) (.and (i ZpF (n Zo3 .tt)) (i Zqb (.and (i Zqj (n Zp8 .tt)) (i Zpv (n Zqd .tt))))))))))))))))))))))))))
theorem Zxp : Zqz Tryz.prog Zxa 12 21 Zr6 = ZvV := by kernel_rfl
theorem ZwU (S : Sig Nd) (hS : TcSig S) (n : Nat) (IH : ZG (S.bd n) Tryz.prog 20 ZmB) : ZG (S.bd n) Tryz.prog 33 ZsF := by
 have hS0 := hS
 replace hS := Zp3 hS n
 refine Yq (S.bd n) (C := ZwE) (fuel := 12) (ZiF ⟨Yo (by decide) IH, trivial⟩ trivial ⟨ZtU (by decide) (ZvO _ hS), trivial⟩) fun ρ => ?_
 rw [Zw4]
 simp only [ZwO, Zs1, Zms, ZrS, ZqA, ZuJ, Zrw, ZtC, Zno, ZpW, ZrF, ZpO, Zpn, ZpQ, hS.ta.u606, hS.ta.u608, hS.u610, hS.u611, hS.u612, hS.u613, hS.u614, Zj1, Ziz, ZxM, VC.den, SX.den, Env.upd, n83, n75', n103, beq_iff_eq, ZxE, beq_eq_false_iff_ne, ne_eq, ZxD, ZxC, Int.reduceToNat, Nat.reduceEqDiff, reduceIte, sB, sC]
 generalize ndU (U.co (S.bd n) .g (ρ 5)) = g
 generalize ndU (U.co (S.bd n) .g (ρ 11)) = k
 intro h1 h2 tg tk e0 e1 e2 f0 f1 f2
 obtain ⟨_, ⟨_, n1, n2⟩, _⟩ := (Y4 g).1 tg
 obtain ⟨_, ⟨_, m1, m2⟩, _⟩ := (Y4 k).1 tk
 rw [ZaQ, <- e0, <- e1, <- e2, <- f0, <- f1, <- f2]
 rw [<- e1] at n1 n2
 rw [<- f1] at m1 m2
 clear e0 e1 e2 f0 f1 f2
 generalize (ρ 0).tI = a
 generalize (ρ 6).tI = b
 generalize (ρ 1).tI = x at n1 n2 ⊢
 generalize (ρ 7).tI = y at m1 m2 ⊢
 simp only [srtA n1 n2, srtA m1 m2, List.drop_zero]
 generalize srt x = u
 generalize srt y = v
 generalize Lib.compareBytes _ _ = c
 generalize Za7 _ _ = d
 unfold sgn
 intro _ _ _ _
 repeat' first | apply And.intro | intro _
 all_goals first | trivial | ((repeat' split) <;> omega)
theorem Zww (S : Sig Nd) (hS : TcSig S) (n : Nat) (IH : ZG (S.bd n) Tryz.prog 21 ZmB) : ZG (S.bd n) Tryz.prog 35 ZsQ := by
 have hS0 := hS
 replace hS := Zp3 hS n
 refine Yq (S.bd n) (C := ZvI) (fuel := 12) (ZiF ⟨Yo (by decide) IH, trivial⟩ trivial trivial) fun ρ => ?_
 rw [Zw1]
 simp only [Zwg, ZuD, Zui, ZoZ, ZgF, ZgJ, ZuT, ZhH, ZuL, Zq2, Zoi, ZcV, ZcZ, Zjk, Zdb, ZkP, Zc2, Zly, Zjy, Zp6, ZlN, Zot, ZnJ, Zo1, hS.ta.u606, hS.ta.u608, hS.u610, hS.u612, hS.u613, hS.u614, Zj1, Ziz, ZxM, VC.den, SX.den, Env.upd, n83, n75', n103, beq_iff_eq, ZxE, beq_eq_false_iff_ne, ne_eq, ZxD, ZxC, Int.reduceToNat, Nat.reduceEqDiff, reduceIte, sB, sC]
 generalize ndU (U.co (S.bd n) .g (ρ 5)) = g
 generalize ndU (U.co (S.bd n) .g (ρ 11)) = k
 intro h1 h2 tg tk e0 e1 e2 f0 f1 f2
 obtain ⟨_, ⟨_, n1, n2⟩, _⟩ := (Y4 g).1 tg
 obtain ⟨_, ⟨_, m1, m2⟩, _⟩ := (Y4 k).1 tk
 rw [ZaQ, <- e0, <- e1, <- e2, <- f0, <- f1, <- f2]
 rw [<- e1] at n1 n2
 rw [<- f1] at m1 m2
 clear e0 e1 e2 f0 f1 f2
 generalize (ρ 0).tI = a
 generalize (ρ 6).tI = b
 generalize (ρ 1).tI = x at n1 n2 ⊢
 generalize (ρ 7).tI = y at m1 m2 ⊢
 rw [ZtS]
 simp only [List.drop_zero, ZsC, U.tQi, Bool.or_eq_false_iff, Bool.or_eq_true, beq_iff_eq, beq_eq_false_iff_ne]
 have ax : x < 0 -> _ := srtB n1
 have ay : y < 0 -> _ := srtB m1
 have bx : 0 <= x -> _ := fun h => srtC h n2
 have by' : 0 <= y -> _ := fun h => srtC h m2
 generalize ZaA .xor .u64 18446744073709551615 (IntKind.u64.wrap x) = p1 at ax ⊢
 generalize ZaA .xor .u64 18446744073709551615 (IntKind.u64.wrap y) = p2 at ay ⊢
 generalize IntKind.u64.wrap (IntKind.u64.wrap x + 9223372036854775808) = p3 at bx ⊢
 generalize IntKind.u64.wrap (IntKind.u64.wrap y + 9223372036854775808) = p4 at by' ⊢
 generalize srt x = u at ax bx ⊢
 generalize srt y = v at ay by' ⊢
 generalize (ρ 2).tB = t1
 generalize (ρ 8).tB = t2
 generalize Za7 _ _ = d
 have hl : t1 = t2 -> Op.bytesLess t1 t2 = false := fun e => e ▸ ZoE t1
 generalize Op.bytesLess t1 t2 = q at hl ⊢
 intro _ _ _ _
 by_cases he : t1 = t2
 ·rw [hl he]
  simp only [he, if_true, reduceCtorEq, if_false, ne_eq, not_true_eq_false, false_or, and_false, false_implies, implies_true, Bool.false_eq_true]
  clear hl he
  repeat' first | apply And.intro | intro _
  all_goals first
   | trivial
   | rw [if_pos (by omega)]
   | rw [if_neg (by omega), if_pos (by omega)]
   | (rw [if_neg (by omega), if_neg (by omega), if_pos (by omega)]; first | exact Zeb (by omega) | exact ZdZ (by omega) | exact Zea (by omega))
   | (rw [if_neg (by omega), if_neg (by omega), if_neg (by omega), if_pos (by omega)]; first | exact Zeb (by omega) | exact ZdZ (by omega) | exact Zea (by omega))
   | rw [if_neg (by omega), if_neg (by omega), if_neg (by omega), if_neg (by omega), if_pos (by omega)]
   | rw [if_neg (by omega), if_neg (by omega), if_neg (by omega), if_neg (by omega), if_neg (by omega), if_pos (by omega)]
   | rw [if_neg (by omega), if_neg (by omega), if_neg (by omega), if_neg (by omega), if_neg (by omega), if_neg (by omega)]
 ·cases q
  all_goals
   simp only [he, if_true, reduceCtorEq, if_false, ne_eq, not_false_eq_true, or_false, and_true, false_implies, implies_true, Bool.false_eq_true]
   clear hl he
   repeat' first | apply And.intro | intro _
   all_goals first
    | trivial
    | rw [if_pos (by omega)]
    | rw [if_neg (by omega), if_pos (by omega)]
    | (rw [if_neg (by omega), if_neg (by omega), if_pos (by omega)]; first | exact Zeb (by omega) | exact ZdZ (by omega) | exact Zea (by omega))
    | (rw [if_neg (by omega), if_neg (by omega), if_neg (by omega), if_pos (by omega)]; first | exact Zeb (by omega) | exact ZdZ (by omega) | exact Zea (by omega))
    | rw [if_neg (by omega), if_neg (by omega), if_neg (by omega), if_neg (by omega), if_pos (by omega)]
    | rw [if_neg (by omega), if_neg (by omega), if_neg (by omega), if_neg (by omega), if_neg (by omega), if_pos (by omega)]
    | rw [if_neg (by omega), if_neg (by omega), if_neg (by omega), if_neg (by omega), if_neg (by omega), if_neg (by omega)]
theorem Zsp (S : Sig Nd) (hS : TcSig S) (n : Nat) (IH : ZG (S.bd n) Tryz.prog 20 ZmB) : ZG (S.bd n) Tryz.prog 20 Znh := by
 have hS0 := hS
 replace hS := Zp3 hS n
 refine Yq (S.bd n) (C := Zw7) (fuel := 12) (ZiF ⟨Yo (by decide) (ZwU S hS0 n IH), trivial⟩ ⟨⟨⟨by decide, ZeU _ hS.ta⟩, ⟨by decide, ZeU _ hS.ta⟩, trivial, ⟨by decide, Zsl _ hS.ta⟩, trivial⟩, trivial⟩ trivial) fun ρ => ?_
 rw [ZwF]
 simp only [Zw9, ZrR, Zuy, ZeG, Zqp, Zt3, ZtW, Zu7, ZtX, Zfz, Zn4, Zoj, ZoV, ZoC, Zng, Zee, Zdl, ZeN, Zla, Zf0, ZpJ, ZoT, Zgo, Zqm, hS.ta.u601, hS.ta.u604, hS.ta.u606, hS.ta.u608, hS.ta.u609, hS.u610, hS.u612, hS.u613, hS.u614, Zj1, Ziz, ZxM, VC.den, SX.den, Env.upd, n83, n75', n103, beq_iff_eq, ZxE, beq_eq_false_iff_ne, ne_eq, ZxD, ZxC, Int.reduceToNat, Nat.reduceEqDiff, reduceIte, sB, sC]
 generalize ndU (U.co (S.bd n) .g (ρ 2)) = g
 generalize ndU (U.co (S.bd n) .g (ρ 5)) = k
 generalize (ρ 0).tR.getD (ρ 1).tI.toNat [] = r
 generalize (ρ 3).tR.getD (ρ 4).tI.toNat [] = r'
 simp only [YJ, List.drop_zero]
 intro h1 h2 tg tk a1 a2 a3 a4 b1 b2 b3 b4
 obtain ⟨t1, _, _⟩ := (Y4 g).1 tg
 obtain ⟨t2, _, _⟩ := (Y4 k).1 tk
 have hz := @ZpV g k
 unfold Zsy
 have hm : (if r'.getD 6 0 < r.getD 6 0 then r'.getD 6 0 else r.getD 6 0) <= r.getD 6 0 /\ (if r'.getD 6 0 < r.getD 6 0 then r'.getD 6 0 else r.getD 6 0) <= r'.getD 6 0 /\ ((if r'.getD 6 0 < r.getD 6 0 then r'.getD 6 0 else r.getD 6 0) = r.getD 6 0 \/ (if r'.getD 6 0 < r.getD 6 0 then r'.getD 6 0 else r.getD 6 0) = r'.getD 6 0) := by split <;> omega
 generalize (if r'.getD 6 0 < r.getD 6 0 then r'.getD 6 0 else r.getD 6 0) = m at hm ⊢
 obtain ⟨m1, m2, m3⟩ := hm
 refine ⟨by omega, by omega, by omega, trivial, fun i i0 i1 hw => ⟨fun hi => ⟨by omega, by omega, fun d1 d2 u1 u2 => ?_⟩, fun hi => ?_⟩⟩
 ·have lg : i < g.l.length := by omega
  have lk : i < k.l.length := by omega
  have st := Zmf i0 lg lk
  rw [hw] at st
  rw [ZbU i0 lg, ZbU i0 lk]
  refine ⟨by omega, by omega, by omega, by omega, by omega, by omega, by omega, rfl, rfl, rfl, rfl, rfl, rfl, fun hc => ⟨?_, trivial⟩, fun hc => ⟨⟨by omega, by omega⟩, by omega, by omega, by omega, by omega, ?_, trivial⟩⟩
  ·rw [st, if_neg hc]
  ·rw [st, if_pos hc]
 ·have he := @hz i i0 (by omega) (by omega) (by omega)
  rw [hw, <- a1, <- b1] at he
  rw [he]
  exact ⟨fun h => ⟨Zeb h, trivial⟩, fun h => ⟨fun h' => ⟨ZdZ h', trivial⟩, fun h' => ⟨Zea (by omega), trivial⟩⟩⟩
theorem ZtN (S : Sig Nd) (hS : TcSig S) : ZG S Tryz.prog 20 Zry := ZeO S (me := dpX (gA 2)) (by decide) (by decide) (ZxN ..) fun n IH => Zsp S hS n IH
theorem Zwd (S : Sig Nd) (hS : TcSig S) (n : Nat) (IH : ZG (S.bd n) Tryz.prog 21 ZmB) : ZG (S.bd n) Tryz.prog 21 Zr6 := by
 have hS0 := hS
 replace hS := Zp3 hS n
 refine Yq (S.bd n) (C := Zxa) (fuel := 12) (ZiF ⟨Yo (by decide) (Zww S hS0 n IH), trivial⟩ ⟨⟨⟨by decide, ZeU _ hS.ta⟩, ⟨by decide, ZeU _ hS.ta⟩, trivial, ⟨by decide, Zsl _ hS.ta⟩, trivial⟩, trivial⟩ trivial) fun ρ => ?_
 rw [Zxp]
 simp only [ZvV, ZqW, ZuA, ZcC, Zpx, Zvc, Zve, Zu6, Zt4, ZdH, Zpw, ZpX, ZoK, ZpT, ZoD, ZcY, ZfC, ZkR, Zgj, ZnV, Zox, ZeJ, ZpS, ZpF, Zo3, Zqb, Zqj, Zp8, Zpv, Zqd, hS.ta.u601, hS.ta.u604, hS.ta.u606, hS.ta.u608, hS.ta.u609, hS.u610, hS.u612, hS.u613, hS.u614, Zj1, Ziz, ZxM, VC.den, SX.den, Env.upd, n83, n75', n103, beq_iff_eq, ZxE, beq_eq_false_iff_ne, ne_eq, ZxD, ZxC, Int.reduceToNat, Nat.reduceEqDiff, reduceIte, sB, sC]
 generalize ndU (U.co (S.bd n) .g (ρ 2)) = g
 generalize ndU (U.co (S.bd n) .g (ρ 5)) = k
 generalize (ρ 0).tR.getD (ρ 1).tI.toNat [] = r
 generalize (ρ 3).tR.getD (ρ 4).tI.toNat [] = r'
 simp only [YJ, List.drop_zero]
 intro h1 h2 tg tk a1 a2 a3 a4 b1 b2 b3 b4
 obtain ⟨t1, _, _⟩ := (Y4 g).1 tg
 obtain ⟨t2, _, _⟩ := (Y4 k).1 tk
 have hz := @ZpV g k
 have fin : ∀ i : Int, 0 <= i -> i <= r.getD 6 0 -> i <= r'.getD 6 0 -> (r.getD 6 0 <= i \/ r'.getD 6 0 <= i) -> Za7 (g.l.drop i.toNat) (k.l.drop i.toNat) = Za7 g.l k.l -> (r.getD 6 0 < r'.getD 6 0 -> Za7 g.l k.l = -1 /\ True) /\ (r'.getD 6 0 <= r.getD 6 0 -> (r'.getD 6 0 < r.getD 6 0 -> Za7 g.l k.l = 1 /\ True) /\ (r.getD 6 0 <= r'.getD 6 0 -> Za7 g.l k.l = 0 /\ True)) := by
  intro i i0 i1 i2 i3 hw
  have he := @hz i i0 (by omega) (by omega) (by omega)
  rw [hw, <- a1, <- b1] at he
  rw [he]
  exact ⟨fun h => ⟨Zeb h, trivial⟩, fun h => ⟨fun h' => ⟨ZdZ h', trivial⟩, fun h' => ⟨Zea (by omega), trivial⟩⟩⟩
 refine ⟨by omega, by omega, trivial, fun i i0 i1 i2 hw => ⟨fun hi => ⟨fun hj d1 d2 u1 u2 => ?_, fun hj => fin i i0 i1 i2 (.inr hj) hw⟩, fun hi => fin i i0 i1 i2 (.inl hi) hw⟩⟩
 have lg : i < g.l.length := by omega
 have lk : i < k.l.length := by omega
 have st := Zmf i0 lg lk
 rw [hw] at st
 rw [ZbU i0 lg, ZbU i0 lk]
 refine ⟨by omega, by omega, by omega, by omega, by omega, by omega, by omega, rfl, rfl, rfl, rfl, rfl, rfl, fun hc => ⟨?_, trivial⟩, fun hc => ⟨⟨by omega, by omega⟩, by omega, by omega, by omega, by omega, by omega, ?_, trivial⟩⟩
 ·rw [st, if_neg hc]
 ·rw [st, if_pos hc]
theorem ZuF (S : Sig Nd) (hS : TcSig S) : ZG S Tryz.prog 21 Zry := ZeO S (me := dpX (gA 2)) (by decide) (by decide) (ZxN ..) fun n IH => Zwd S hS n IH
end
end Go.Proofs.YtlmkcakhhbckhaaGreatDoor
namespace Go.Proofs.YtlmkcakhhbckhaaGreatDoor
noncomputable section
open Go.Eng
def itO : List Go.Eng.Fd := [.int .i64, .int .i64, .str, .slice 4]
def Zsx : En := .rows itO
def r6 (h : List Int) : List Int := [h.getD 0 0, h.getD 1 0, h.getD 2 0, h.getD 3 0, h.getD 6 0, h.getD 7 0]
def mkI (i : Int) : List Int := [-7 - i, 0, 0, -1, 0, 0]
def ZN (n : Int) (l : List Nd) : List (List Int) := l.map (fun x => r6 x.h) ++ [mkI n, mkI (n + 1)]
def Zi0 (h : List Int) (l : List Nd) : Prop := h.getD 6 0 = l.length /\ h.getD 7 0 = l.length + 2 /\ 0 <= h.getD 3 0 /\ h.getD 4 0 = 0 /\ h.getD 5 0 = -1
mutual
def OT : Nd -> Ze
 | .mk h l => fun x => Zi0 h l /\ Zi (rAD Zsx (h.getD 3 0) (ZN l.length l) (l.length + 2)) (OTs l) x
def OTs : List Nd -> Ze
 | [] => emp
 | n :: l => Zi (OT n) (OTs l)
end
mutual
/-- The same items. -/
def SM : Nd -> Nd -> Prop
 | .mk _ l, .mk _ m => SMs l m
def SMs : List Nd -> List Nd -> Prop
 | [], [] => True
 | [], _ :: _ => False
 | _ :: _, [] => False
 | x :: l, y :: m => (x.h.getD 0 0 = y.h.getD 0 0 /\ x.h.getD 1 0 = y.h.getD 1 0 /\ ht x.h = ht y.h) /\ SM x y /\ SMs l m
end
mutual
/-- No list is long. -/
def SG : Nd -> Prop
 | .mk _ l => (l.length : Int) <= 100000 /\ SGs l
def SGs : List Nd -> Prop
 | [] => True
 | n :: l => SG n /\ SGs l
end
def ZfS (ks g : Nd) (i : Int) (x : Nd) : Nd := .mk [] (ks.l ++ [.mk [(g.kid i).h.getD 0 0, (g.kid i).h.getD 1 0, (Zdt (ht (g.kid i).h) : Nat), x.h.getD 3 0, x.h.getD 4 0, x.h.getD 5 0, x.h.getD 6 0, x.h.getD 7 0] x.l])
def ZqB (ks : Nd) (b n : Int) : Nd := .mk [0, 0, 0, b, 0, -1, n, n + 2] ks.l
def ZfU (g : Nd) (i : Int) : Nd := .mk [] (g.l.drop i.toNat)
structure ToSig (S : Sig Nd) : Prop where
 tc : TcSig S
 p201 : ∀ w0 k x, S.prd 201 w0 k x = fun h => (ndU x).h.getD 3 0 = k.tI /\ OT (ndU x) h
 p202 : ∀ w0 k x, S.prd 202 w0 k x = OTs (ndU x).l
 u620 : ∀ a b c d, S.usr 620 a b c d = .bool (ZfV (SG (ndU a)))
 u621 : ∀ a b c d, S.usr 621 a b c d = .bool (ZfV (SM (ndU a) (ndU b)))
 u622 : ∀ a b c d, S.usr 622 a b c d = .rows ((ZN b.tI (ndU a).l).take c.tI.toNat)
 u623 : ∀ a b c d, S.usr 623 a b c d = .bool (ZfV (SMs (ndU a).l ((ndU b).l.take (ndU a).l.length)))
 u624 : ∀ a b c d, S.usr 624 a b c d = .g (ZfS (ndU a) (ndU b) c.tI (ndU d))
 u625 : ∀ a b c d, S.usr 625 a b c d = .g (ZqB (ndU a) b.tI c.tI)
 u626 : ∀ a b c d, S.usr 626 a b c d = .rows (ZN (ndU a).l.length (ndU a).l)
 u627 : ∀ a b c d, S.usr 627 a b c d = .g (.mk [] [])
 u628 : ∀ a b c d, S.usr 628 a b c d = .g (ZfU (ndU a) b.tI)
def otC (b g : SX) : Ch := .prd 201 b g
def osC (g : SX) : Ch := .prd 202 z0 g
def odC (i g : SX) : Ch := osC (usG 628 g i z0)
def sgX (g : SX) : SX := usB 620 g z0 z0
def smX (g k : SX) : SX := usB 621 g k z0
def arO (b x c : SX) : Ch := .arr Zsx b x c
def ZvB (k : Nat) : SV := .one (.opq (rA k) (ai (k + 1)) 3)
def ZfK (x : SX) : SX := SX.mk2 40 x (.int 2)
def noOC : Ctr := ⟨[], [], [], [], [], .tup [], [osC (usG 627 z0 z0 z0)], []⟩
def psOC : Ctr := ⟨[.rows, .int, .g, .int, .g, .int, .g, .int, .int], [ZvB 0, .one (.int .i64 (ai 3)), .one (slC (ai 5) (ai 7) (ai 8) 4)], [rtC (rA 0) (ai 1) (gA 2), osC (gA 4), otC (ai 5) (gA 6)], [], [], .tup [], [rtC (rA 0) (ai 1) (gA 2), osC (.us .g 624 (gA 4) (gA 2) (ai 3) (gA 6))], []⟩
def Zvz : Ctr := ⟨[.int, .int, .int, .rows, .g, .int], [.one (slC (ai 0) (ai 1) (ai 2) 4), .one (.int .i64 (ai 5))], [arO (ai 0) (rA 3) (ai 2), osC (gA 4)], [.f2 45 (lnX (gA 4)) (ai 5), .f2 45 (ai 2) (ZfK (ai 5)), eqS (rA 3) (usR 622 (gA 4) (ai 5) (ai 2)), eLe z0 (ai 0), eLe z0 (ai 5)], [], .tup [], [otC (ai 0) (usG 625 (gA 4) (ai 0) (ai 5))], []⟩
def lntC : Ctr := ⟨[.rows, .int, .g], [ZvB 0], [rtC (rA 0) (ai 1) (gA 2)], [eLe z0 (dpX (gA 2)), tgX (gA 2), sgX (gA 2)], [.int, .g], .one (slC (ai 3) (nt (rA 0) (ai 1) 6) (ZfK (nt (rA 0) (ai 1) 6)) 4), [rtC (rA 0) (ai 1) (gA 2), otC (ai 3) (gA 4)], [smX (gA 4) (gA 2), tgX (gA 4), eLe z0 (ai 3), .f2 45 (nt (rA 0) (ai 1) 6) (lnX (gA 4)), .f2 45 (hdI (gA 4) 3) (ai 3), .f2 45 (hdI (gA 4) 6) (nt (rA 0) (ai 1) 6), .f2 45 (hdI (gA 4) 7) (ZfK (nt (rA 0) (ai 1) 6))]⟩
def ZsJ : Ctr := leC lntC (dpX (gA 2))
def ZwP : Ctr := ltC lntC (dpX (gA 2))
def lntI : Inv := ⟨[.int, .rows, .g], [(5, .one (.int .i64 (di 0)))], [arO (ai 3) (rA 1000001) (ZfK (nt (rA 0) (ai 1) 6)), osC (gA 1000002)],
 [eLe z0 (di 0), eLe (di 0) (ZfK (nt (rA 0) (ai 1) 6)), .f2 45 (lenR (rA 1000001)) (ZfK (nt (rA 0) (ai 1) 6)), eqS (tk (rA 1000001) (di 0)) (usR 622 (gA 1000002) (nt (rA 0) (ai 1) 6) (di 0)), .f2 45 (lnX (gA 1000002)) (.f2 51 (di 0) (nt (rA 0) (ai 1) 6)), usB 623 (gA 1000002) (gA 2) z0], .f2 41 (ZfK (nt (rA 0) (ai 1) 6)) (di 0)⟩
def ZwQ : Cx := { specs := [(8, [ZwP])], anns := [(8, [(0, .ghost Zq1 [.tmp 0]), (3, .ghost noOC []), (4, .inv lntI), (8, .ghost Zuu [.tmp 0, .tmp 5]), (10, .ghost psOC [.tmp 0, .tmp 5, .tmp 36]), (11, .ghost Zvz [.tmp 4, .tmp 3])])] }
def koC : Ctr := ⟨[.int, .int, .int, .int, .rows, .g, .rows, .int, .g], [.one (slC (ai 0) (ai 1) (ai 2) 4), .one (.int .i64 (ai 3)), ZvB 6], [arO (ai 0) (rA 4) (ai 2), osC (gA 5), rtC (rA 6) (ai 7) (gA 8)],
 [eLe z0 (ai 3), eLt (ai 3) (nt (rA 6) (ai 7) 6), tgX (gA 8), eLt z0 (lnX (gA 5)), .f2 45 (nt (rA 4) (ai 3) 3) (hdI (kdX (gA 5) z0) 3), .f2 45 (nt (rA 4) (ai 3) 4) (hdI (kdX (gA 5) z0) 6), .f2 45 (nt (rA 4) (ai 3) 5) (hdI (kdX (gA 5) z0) 7)], [], .tup [],
 [arO (ai 0) (rA 4) (ai 2), odC (.int 1) (gA 5), otC (nt (rA 4) (ai 3) 3) (kdX (gA 5) z0), rtC (rA 6) (ai 7) (gA 8), rtC (krX (gA 8)) (ai 3) (kdX (gA 8) (ai 3))],
 [.f2 45 (nt (rA 4) (ai 3) 4) (lnX (kdX (gA 5) z0)), .f2 45 (nt (rA 4) (ai 3) 5) (ZfK (lnX (kdX (gA 5) z0))), eLt (dpX (kdX (gA 8) (ai 3))) (dpX (gA 8)), eLe z0 (dpX (kdX (gA 8) (ai 3))), tgX (kdX (gA 8) (ai 3))]⟩
def unOC : Ctr := ⟨[.int, .int, .int, .g], [.one (slC (ai 0) (ai 1) (ai 2) 4)], [otC (ai 0) (gA 3)], [], [], .tup [], [arO (ai 0) (usR 626 (gA 3) z0 z0) (ZfK (lnX (gA 3))), odC z0 (gA 3)], [eLe z0 (ai 0)]⟩
def kepC : Ctr := ⟨[.int, .int, .int, .rows, .int, .g, .g], [.one (slC (ai 0) (ai 1) (ai 2) 4), ZvB 3], [otC (ai 0) (gA 6), rtC (rA 3) (ai 4) (gA 5)], [eLe z0 (dpX (gA 5)), tgX (gA 5), sgX (gA 5), smX (gA 6) (gA 5), .f2 45 (ai 1) (lnX (gA 6)), .f2 45 (ai 2) (ZfK (lnX (gA 6)))], [], .one (.bool (.bool true)), [rtC (rA 3) (ai 4) (gA 5)], []⟩
def Zso : Ctr := leC kepC (dpX (gA 5))
def Zw2 : Ctr := ltC kepC (dpX (gA 5))
def kepI : Inv := ⟨[.int, .rows, .g], [(8, .one (.int .i64 (di 0))), (7, .one (.bool (.bool true)))], [arO (ai 0) (rA 1000001) (ZfK (lnX (gA 6))), osC (gA 1000002)],
 [eLe z0 (di 0), eLe (di 0) (ZfK (lnX (gA 6))), .f2 45 (lenR (rA 1000001)) (ZfK (lnX (gA 6))), eqS (.f2 118 (rA 1000001) (di 0)) (.f2 118 (usR 626 (gA 6) z0 z0) (di 0)), eqS (gA 1000002) (usG 628 (gA 6) (di 0) z0)], .f2 41 (ZfK (lnX (gA 6))) (di 0)⟩
def Zwz : Cx := { specs := [(13, [Zw2])], anns := [(13, [(0, .ghost Zq1 [.tmp 1]), (4, .ghost unOC [.tmp 0]), (7, .inv kepI), (10, .ghost koC [.tmp 6, .tmp 8, .tmp 1])])] }
theorem Zao {G : Type} {S : Sig G} {ρ : Go.Eng.Env G} {a b : SX} (h : ((SX.f2 45 a b).den S ρ).tP) : (a.den S ρ).tI = (b.den S ρ).tI := by
 have h : (ap2 45 (a.den S ρ) (b.den S ρ)).tP := h
 rw [p45] at h; exact h
theorem Zwn {S : Sig Nd} (h : ToSig S) (n : Int) : ToSig (S.bd n) := ⟨Zp3 h.tc n, h.2, h.3, h.4, h.5, h.6, h.7, h.8, h.9, h.10, h.11, h.12⟩
theorem Zpe (g : Nd) : OT g = fun x => Zi0 g.h g.l /\ Zi (rAD Zsx (g.h.getD 3 0) (ZN g.l.length g.l) (g.l.length + 2)) (OTs g.l) x := by cases g; unfold OT; rfl
theorem Zkw : OTs [] = emp := by unfold OTs; rfl
theorem Zdh (x : Nd) (l : List Nd) : OTs (x :: l) = Zi (OT x) (OTs l) := by conv => lhs; unfold OTs
theorem Zoa : ∀ (l m : List Nd), OTs (l ++ m) = Zi (OTs l) (OTs m)
 | [], m => by rw [List.nil_append, Zkw, Zex]
 | x :: l, m => by rw [List.cons_append, Zdh, Zdh, Zoa l m, Zc]
theorem Zfc (n : Int) (l : List Nd) : (ZN n l).length = l.length + 2 := by unfold ZN; simp
section
variable {S T : Sig Nd} (hS : ToSig S) (hu : T.usr = S.usr) (hp : T.prd = S.prd) (ρ : Go.Eng.Env Nd) (w0 : World)
include hS hp
theorem Zfu (b g : SX) : (otC b g).den T ρ w0 = fun h => (ndU (g.den T ρ)).h.getD 3 0 = (b.den T ρ).tI /\ OT (ndU (g.den T ρ)) h := by
 show T.prd 201 w0 _ _ = _
 rw [hp, hS.p201]
theorem Ze8 (g : SX) : (osC g).den T ρ w0 = OTs (ndU (g.den T ρ)).l := by
 show T.prd 202 w0 _ _ = _
 rw [hp, hS.p202]
end
section
variable {S T : Sig Nd} (hS : ToSig S) (hu : T.usr = S.usr) (ρ : Go.Eng.Env Nd)
include hS hu
theorem Ze2 (g : SX) : ((lnX g).den T ρ).tI = ((ndU (g.den T ρ)).l.length : Nat) := by
 show (U.co T .int (T.usr 609 _ _ _ _)).tI = _
 rw [hu, hS.tc.ta.u609]; rfl
theorem ZwK (g : SX) (k : Nat) : ((hdI g k).den T ρ).tI = (ndU (g.den T ρ)).h.getD k 0 := by
 show (U.co T .int (T.usr 613 _ _ _ _)).tI = _
 rw [hu, hS.tc.u613]; rfl
theorem ZsO (g i : SX) : ndU ((usG 628 g i z0).den T ρ) = ZfU (ndU (g.den T ρ)) (i.den T ρ).tI := by
 show ndU (U.co T .g (T.usr 628 _ _ _ _)) = _
 rw [hu, hS.u628]; rfl
end
theorem Zwv (S : Sig Nd) (hS : ToSig S) : Zit S noOC := by
 refine Zi4 S fun T w0 ρ h hu hp hd hr hpre => ⟨ρ, Ext.refl _ _, ?_, fun x hx => nomatch hx⟩
 show Zi ((osC (usG 627 z0 z0 z0)).den T ρ w0) emp h
 rw [star_emp, Ze8 hS hp, show ndU ((usG 627 z0 z0 z0).den T ρ) = .mk [] [] by
  show ndU (U.co T .g (T.usr 627 _ _ _ _)) = _
  rw [hu, hS.u627]; rfl]
 show OTs [] h
 rw [Zkw]; exact hpre
theorem OT_hd {h h' : List Int} {l : List Nd} (e : ∀ k, 3 <= k -> k <= 7 -> h.getD k 0 = h'.getD k 0) : OT (.mk h l) = OT (.mk h' l) := by
 unfold OT Zi0
 rw [e 3 (by omega) (by omega), e 4 (by omega) (by omega), e 5 (by omega) (by omega), e 6 (by omega) (by omega), e 7 (by omega) (by omega)]
theorem Zxk (S : Sig Nd) (hS : ToSig S) : Zit S psOC := by
 refine Zi4 S fun T w0 ρ h hu hp hd hr hpre => ⟨ρ, Ext.refl _ _, ?_, fun x hx => nomatch hx⟩
 have hpre : Zi ((rtC (rA 0) (ai 1) (gA 2)).den T ρ w0) (Zi ((osC (gA 4)).den T ρ w0) (Zi ((otC (ai 5) (gA 6)).den T ρ w0) emp)) h := hpre
 show Zi ((rtC (rA 0) (ai 1) (gA 2)).den T ρ w0) (Zi ((osC (.us .g 624 (gA 4) (gA 2) (ai 3) (gA 6))).den T ρ w0) emp) h
 rw [star_emp, Ze8 hS hp, Zfu hS hp] at hpre
 rw [star_emp, Ze8 hS hp, show ndU ((SX.us .g 624 (gA 4) (gA 2) (ai 3) (gA 6)).den T ρ) = ZfS (ndU ((gA 4).den T ρ)) (ndU ((gA 2).den T ρ)) ((ai 3).den T ρ).tI (ndU ((gA 6).den T ρ)) by
  show ndU (U.co T .g (T.usr 624 _ _ _ _)) = _
  rw [hu, hS.u624]; rfl]
 show Zi _ (OTs (_ ++ [_])) h
 rw [Zoa, Zdh, Zkw, star_emp]
 refine Zn (fun _ x => x) (fun _ x => Zn (fun _ x => x) (fun _ x => ?_) _ x) _ hpre
 have x := x.2
 rw [Nd.eta (ndU ((gA 6).den T ρ))] at x
 rw [OT_hd (h' := (ndU ((gA 6).den T ρ)).h)]
 ·exact x
 ·intro k k3 k7
  match k, k3, k7 with
  | 3, _, _ => rfl
  | 4, _, _ => rfl
  | 5, _, _ => rfl
  | 6, _, _ => rfl
  | 7, _, _ => rfl
theorem Zdg {T : Sig Nd} (ρ : Go.Eng.Env Nd) (x : SX) : ((ZfK x).den T ρ).tI = (x.den T ρ).tI + 2 := by rw [ZfK, SX.mk2_den]; rfl
theorem ZrM {T : Sig Nd} {ρ : Go.Eng.Env Nd} {a b : SX} (h : ((eqS a b).den T ρ).tP) : a.den T ρ = b.den T ρ := by
 have h : (ap2 155 (a.den T ρ) (b.den T ρ)).tP := h
 rw [p155] at h; exact h
theorem Zwi (S : Sig Nd) (hS : ToSig S) : Zit S Zvz := by
 refine Zi4 S fun T w0 ρ h hu hp hd hr hpre => ⟨ρ, Ext.refl _ _, ?_, fun x hx => nomatch hx⟩
 have hpre : Zi (rAD Zsx (ρ 0).tI (ρ 3).tR (ρ 2).tI) (Zi ((osC (gA 4)).den T ρ w0) emp) h := hpre
 have r0 := Zao (hr (.f2 45 (lnX (gA 4)) (ai 5)) (by simp [Zvz]))
 have r1 := Zao (hr (.f2 45 (ai 2) (ZfK (ai 5))) (by simp [Zvz]))
 have r2 := ZrM (hr (eqS (rA 3) (usR 622 (gA 4) (ai 5) (ai 2))) (by simp [Zvz]))
 have r3 := hr (eLe z0 (ai 0)) (by simp [Zvz])
 rw [eLe_den] at r3
 rw [Ze2 hS hu] at r0
 rw [Zdg] at r1
 have r0 : (((ndU ((gA 4).den T ρ)).l.length : Nat) : Int) = (ρ 5).tI := r0
 have r1 : (ρ 2).tI = (ρ 5).tI + 2 := r1
 have r3 : 0 <= (ρ 0).tI := r3
 have r2 : (ρ 3).tR = (ZN (ρ 5).tI (ndU ((gA 4).den T ρ)).l).take (ρ 2).tI.toNat := by
  have e : ((rA 3).den T ρ).tR = ((usR 622 (gA 4) (ai 5) (ai 2)).den T ρ).tR := by rw [r2]
  have e2 : ((usR 622 (gA 4) (ai 5) (ai 2)).den T ρ).tR = (ZN (ρ 5).tI (ndU ((gA 4).den T ρ)).l).take (ρ 2).tI.toNat := by
   show (U.co T .rows (T.usr 622 _ _ _ _)).tR = _
   rw [hu, hS.u622]; rfl
  rw [<- e2, <- e]; rfl
 show Zi ((otC (ai 0) (usG 625 (gA 4) (ai 0) (ai 5))).den T ρ w0) emp h
 rw [star_emp, Ze8 hS hp] at hpre
 rw [star_emp, Zfu hS hp, show ndU ((usG 625 (gA 4) (ai 0) (ai 5)).den T ρ) = ZqB (ndU ((gA 4).den T ρ)) (ρ 0).tI (ρ 5).tI by
  show ndU (U.co T .g (T.usr 625 _ _ _ _)) = _
  rw [hu, hS.u625]; rfl]
 generalize ndU ((gA 4).den T ρ) = ks at *
 rw [r1, <- r0, show ((ks.l.length : Int) + 2).toNat = ks.l.length + 2 by omega, ZxR (by rw [Zfc]; exact Zxv _)] at r2
 rw [r1, r2, <- r0] at hpre
 refine ⟨rfl, ?_⟩
 rw [<- r0]
 unfold ZqB OT
 exact ⟨⟨rfl, rfl, r3, rfl, rfl⟩, hpre⟩
theorem ZwA (S : Sig Nd) (hS : ToSig S) : Zit S unOC := by
 refine Zi4 S fun T w0 ρ h hu hp hd hr hpre => ⟨ρ, Ext.refl _ _, ?_⟩
 have hpre : Zi ((otC (ai 0) (gA 3)).den T ρ w0) emp h := hpre
 rw [star_emp, Zfu hS hp] at hpre
 obtain ⟨h3, hpre⟩ := hpre
 rw [Zpe] at hpre
 obtain ⟨⟨a1, a2, a3, a4, a5⟩, hpre⟩ := hpre
 have h3 : (ndU ((gA 3).den T ρ)).h.getD 3 0 = (ρ 0).tI := h3
 refine ⟨?_, ?_⟩
 ·show Zi (rAD Zsx (ρ 0).tI ((usR 626 (gA 3) z0 z0).den T ρ).tR ((ZfK (lnX (gA 3))).den T ρ).tI) (Zi ((osC (usG 628 (gA 3) z0 z0)).den T ρ w0) emp) h
  rw [star_emp, Ze8 hS hp, ZsO hS hu, Zdg, Ze2 hS hu, <- h3]
  have e2 : ((usR 626 (gA 3) z0 z0).den T ρ).tR = ZN (ndU ((gA 3).den T ρ)).l.length (ndU ((gA 3).den T ρ)).l := by
   show (U.co T .rows (T.usr 626 _ _ _ _)).tR = _
   rw [hu, hS.u626]; rfl
  rw [e2]
  exact hpre
 ·intro x hx
  simp only [unOC, List.mem_cons, List.not_mem_nil, or_false] at hx
  rw [hx, eLe_den]
  show 0 <= (ρ 0).tI
  rw [<- h3]; exact a3
theorem ko_gh (S : Sig Nd) (hS : ToSig S) : Zit S koC := by
 refine Zi4 S fun T w0 ρ h hu hp hd hr hpre => ⟨ρ, Ext.refl _ _, ?_⟩
 have hpre : Zi (rAD Zsx (ρ 0).tI (ρ 4).tR (ρ 2).tI) (Zi ((osC (gA 5)).den T ρ w0) (Zi ((rtC (rA 6) (ai 7) (gA 8)).den T ρ w0) emp)) h := hpre
 have r0 := hr (eLe z0 (ai 3)) (by simp [koC])
 have r1 := hr (eLt (ai 3) (nt (rA 6) (ai 7) 6)) (by simp [koC])
 have r2 := hr (tgX (gA 8)) (by simp [koC])
 have r3 := hr (eLt z0 (lnX (gA 5))) (by simp [koC])
 have r4 := Zao (hr (.f2 45 (nt (rA 4) (ai 3) 3) (hdI (kdX (gA 5) z0) 3)) (by simp [koC]))
 have r5 := Zao (hr (.f2 45 (nt (rA 4) (ai 3) 4) (hdI (kdX (gA 5) z0) 6)) (by simp [koC]))
 have r6 := Zao (hr (.f2 45 (nt (rA 4) (ai 3) 5) (hdI (kdX (gA 5) z0) 7)) (by simp [koC]))
 rw [eLe_den] at r0
 rw [ZU] at r1 r3
 rw [Za6 hS.tc.ta hu] at r2
 rw [Ze2 hS hu] at r3
 rw [ZwK hS hu, Znb hS.tc.ta hu] at r4 r5 r6
 have r3 : (0 : Int) < ((ndU ((gA 5).den T ρ)).l.length : Nat) := r3
 have er : ((kdX (gA 5) z0).den T ρ) = ((kdX (gA 5) z0).den T ρ) := rfl
 have ek := Znb hS.tc.ta hu ρ (gA 5) z0
 have ern := ZsO hS hu ρ (gA 5) (.int 1)
 rw [star_emp, Ze8 hS hp] at hpre
 obtain ⟨x, tl, hl⟩ : ∃ x tl, (ndU ((gA 5).den T ρ)).l = x :: tl := by
  cases hq : (ndU ((gA 5).den T ρ)).l with
  | nil => rw [hq] at r3; simp at r3
  | cons x tl => exact ⟨x, tl, rfl⟩
 have ek0 : (ndU ((gA 5).den T ρ)).kid (z0.den T ρ).tI = x := by unfold Nd.kid; rw [hl]; rfl
 rw [ek0] at ek r4 r5 r6
 rw [hl, Zdh] at hpre
 obtain ⟨ha, hb, d1, rfl, h1, hc, hd2, d2, rfl, ⟨he, hf, d3, rfl, h4, h5⟩, h6⟩ := hpre
 obtain ⟨q1, q2, q3⟩ := ZlD hS.tc.ta hu hp h6 r0 r1 r2
 have h4' := h4
 rw [Zpe] at h4'
 obtain ⟨⟨a1, a2, a3, a4, a5⟩, _⟩ := h4'
 refine ⟨?_, ?_⟩
 ·show Zi (rAD Zsx (ρ 0).tI (ρ 4).tR (ρ 2).tI) (Zi ((osC (usG 628 (gA 5) (.int 1) z0)).den T ρ w0) (Zi ((otC (nt (rA 4) (ai 3) 3) (kdX (gA 5) z0)).den T ρ w0) (Zi ((rtC (rA 6) (ai 7) (gA 8)).den T ρ w0) (Zi ((rtC (krX (gA 8)) (ai 3) (kdX (gA 8) (ai 3))).den T ρ w0) emp)))) _
  rw [star_emp, Ze8 hS hp, Zfu hS hp, ek, ern]
  have e1 : (ZfU (ndU ((gA 5).den T ρ)) ((SX.int 1).den T ρ).tI).l = tl := by
   show List.drop 1 _ = tl
   rw [hl]; rfl
  rw [e1, <- Zc (OTs tl), Zaq (OTs tl)]
  exact ⟨ha, _, d1, rfl, h1, _, hd2, d2, rfl, ⟨he, hf, d3, rfl, ⟨r4.symm, h4⟩, h5⟩, q1⟩
 ·intro y hy
  simp only [koC, List.mem_cons, List.not_mem_nil, or_false] at hy
  rcases hy with rfl | rfl | rfl | rfl | rfl
  ·show (ap2 45 _ _).tP
   rw [p45, r5, Ze2 hS hu, ek, a1]
  ·show (ap2 45 _ _).tP
   rw [p45, r6, Zdg, Ze2 hS hu, ek, a2]
  ·rw [ZU, ZbA hS.tc.ta hu, ZbA hS.tc.ta hu]
   exact Int.ofNat_lt.2 q2
  ·rw [eLe_den, ZbA hS.tc.ta hu]
   exact Int.natCast_nonneg _
  ·rw [Za6 hS.tc.ta hu]; exact q3
theorem ap2_118' {G : Type} (a b : U G) : ap2 118 a b = .rows (a.tR.drop b.tI.toNat) := rfl
theorem Zsc (g : Nd) : SG g ↔ (g.l.length : Int) <= 100000 /\ SGs g.l := by cases g; unfold SG; rfl
theorem Zkl : ∀ {l : List Nd}, SGs l -> ∀ n ∈ l, SG n
 | [], _, n, hn => nomatch hn
 | m :: l, h, n, hn => by
  unfold SGs at h
  rcases List.mem_cons.1 hn with rfl | hn
  ·exact h.1
  ·exact Zkl h.2 n hn
theorem Zgk (g k : Nd) : SM g k ↔ SMs g.l k.l := by cases g; cases k; unfold SM; rfl
mutual
theorem SM_TG : ∀ (x y : Nd), x.h.getD 1 0 = y.h.getD 1 0 -> ht x.h = ht y.h -> SM x y -> TG y -> TG x
 | .mk h l, .mk k m, e1, e2, hs, ht => by
  unfold SM at hs
  unfold TG at ht ⊢
  have e1 : h.getD 1 0 = k.getD 1 0 := e1
  have e2 : Go.Proofs.YtlmkcakhhbckhaaGreatDoor.ht h = Go.Proofs.YtlmkcakhhbckhaaGreatDoor.ht k := e2
  rw [e1, e2, (ZjM l m hs)]
  exact ⟨ht.1, ht.2.1, Zkr l m hs ht.2.2⟩
theorem Zkr : ∀ (l m : List Nd), SMs l m -> TGs m -> TGs l
 | [], [], _, _ => by unfold TGs; trivial
 | [], _ :: _, hs, _ => by unfold SMs at hs; exact hs.elim
 | _ :: _, [], hs, _ => by unfold SMs at hs; exact hs.elim
 | x :: l, y :: m, hs, ht => by
  unfold SMs at hs
  unfold TGs at ht ⊢
  exact ⟨SM_TG x y hs.1.2.1 hs.1.2.2 hs.2.1 ht.1, Zkr l m hs.2.2 ht.2⟩
theorem ZjM : ∀ (l m : List Nd), SMs l m -> l.length = m.length
 | [], [], _ => rfl
 | [], _ :: _, hs => by unfold SMs at hs; exact hs.elim
 | _ :: _, [], hs => by unfold SMs at hs; exact hs.elim
 | x :: l, y :: m, hs => by unfold SMs at hs; simp [ZjM l m hs.2.2]
end
theorem ZnB : SMs [] [] := by unfold SMs; trivial
theorem ZkT {x y : Nd} (e0 : x.h.getD 0 0 = y.h.getD 0 0) (e1 : x.h.getD 1 0 = y.h.getD 1 0) (e2 : ht x.h = ht y.h) (hs : SM x y) : ∀ {l m : List Nd}, SMs l m -> SMs (l ++ [x]) (m ++ [y])
 | [], [], _ => by show SMs [x] [y]; unfold SMs; exact ⟨⟨e0, e1, e2⟩, hs, ZnB⟩
 | [], _ :: _, h => by unfold SMs at h; exact h.elim
 | _ :: _, [], h => by unfold SMs at h; exact h.elim
 | a :: l, b :: m, h => by
  unfold SMs at h
  show SMs (a :: (l ++ [x])) (b :: (m ++ [y]))
  unfold SMs
  exact ⟨h.1, h.2.1, ZkT e0 e1 e2 hs h.2.2⟩
theorem Zmi {α : Type} {R : List α} {i : Nat} {a : α} (h : i < R.length) : (R.set i a).take (i + 1) = R.take i ++ [a] := by
 rw [List.take_add_one, List.take_set_of_le (Zxv i), List.getElem?_set_self h]; rfl
theorem ZqK {g : Nd} {i : Nat} (h : i < g.l.length) : g.l.take (i + 1) = g.l.take i ++ [g.kid i] := by
 rw [List.take_add_one]
 unfold Nd.kid
 rw [ZxM, ZxF, ZxI h]; rfl
theorem Zlo (n : Int) (l : List Nd) : (ZN n l).take l.length = l.map (fun x => r6 x.h) := by
 unfold ZN
 rw [List.take_append_of_le_length (by simp), ZxR (by simp)]
theorem Zma {n : Int} {l : List Nd} {i : Nat} (hn : (l.length : Int) = n) (h1 : n <= i) (h2 : (i : Int) < n + 2) : (ZN n l)[i]? = some (mkI i) := by
 unfold ZN
 rw [ZxY (by simp; omega), ZxP]
 by_cases h : (i : Int) = n
 ·rw [show i - l.length = 0 by omega, h]; rfl
 ·rw [show i - l.length = 1 by omega, show (i : Int) = n + 1 by omega]; rfl
theorem Zpt : ∀ {l m : List Nd}, SMs l m -> ∀ i, i < l.length -> ((l.getD i nd0).h.getD 0 0 = (m.getD i nd0).h.getD 0 0 /\ (l.getD i nd0).h.getD 1 0 = (m.getD i nd0).h.getD 1 0 /\ ht (l.getD i nd0).h = ht (m.getD i nd0).h) /\ SM (l.getD i nd0) (m.getD i nd0)
 | [], _, _, i, hi => absurd hi (Nat.not_lt_zero i)
 | _ :: _, [], h, _, _ => by unfold SMs at h; exact h.elim
 | a :: l, b :: m, h, i, hi => by
  unfold SMs at h
  cases i with
  | zero => exact ⟨h.1, h.2.1⟩
  | succ i => exact Zpt h.2.2 i (by simpa using hi)
theorem Zk3 {α : Type} {a b : List α} {i : Nat} {d : α} (h : a.drop i = b.drop i) : a.getD i d = b.getD i d := by
 have e : ∀ l : List α, l.getD i d = (l.drop i).getD 0 d := fun l => by rw [ZxF, ZxF, Zx4, Nat.add_zero]
 rw [e a, e b, h]
theorem Ziw {α : Type} {a b : List α} {i : Nat} {x : α} (h : a.drop i = b.drop i) : (a.set i x).drop (i + 1) = b.drop (i + 1) := by
 rw [List.drop_set_of_lt (Nat.lt_succ_self i), show i + 1 = 1 + i by omega, Nat.add_comm 1 i, show a.drop (i + 1) = (a.drop i).drop 1 by rw [List.drop_drop], show b.drop (i + 1) = (b.drop i).drop 1 by rw [List.drop_drop], h]
theorem Zug {n : Int} {l : List Nd} {i : Nat} (h : i < l.length) : (ZN n l).getD i [] = r6 (l.getD i nd0).h := by
 unfold ZN
 rw [ZxF, ZxX (by simpa using h), ZxB, ZxF, ZxI h]; rfl
theorem ZqY (k : Nd) (i : Nat) : (ZfU k i).kid 0 = k.kid i := by
 show (k.l.drop ((i : Int)).toNat).getD 0 nd0 = k.l.getD ((i : Int)).toNat nd0
 rw [ZxM, ZxF, ZxF, Zx4, Nat.add_zero]
theorem Zpj (k : Nd) (i : Nat) : ZfU (ZfU k i) 1 = ZfU k ((i : Int) + 1) := by
 unfold ZfU
 show Nd.mk [] ((k.l.drop ((i : Int)).toNat).drop 1) = _
 rw [List.drop_drop, ZxM, show ((i : Int) + 1).toNat = i + 1 by omega]
def ZrP : SX := v 606 (g 2)
def Zuh : SX := v 999 z
def ZaU : SX := .f3 112 (r 0) (a 1) (k 6)
def Zmt : SX := vR 601 (g 2)
def Zvd : SX := .f1 32 Zmt
def Ztt : SX := l z (.f3 112 (r 0) (a 1) (k 3))
def Zuf : SX := e ZaU z
def Zuc : SX := t (.f3 112 (r 0) (a 1) (k 5)) z
def ZaW : SX := .f2 40 ZaU (k 2)
def ZuP : SX := .f2 122 z (.f2 122 (.f1 35 (.byt [])) (.f2 122 (k (-1)) (.f2 122 z (.f2 122 z (.f1 152 z)))))
def Zpg : SX := .f2 127 ZaW (.f2 122 z ZuP)
def Zl0 : SX := w 627 z
def Zlq : SX := v 609 (g 6)
def Zqr : SX := .f2 41 (k (-7)) (a 4)
def ZhO : SX := f 604 (g 2) (a 4)
def Zl2 : SX := v 606 ZhO
def Zjx : SX := .f3 112 Zmt (a 4) (k 6)
def ZnP : SX := .f2 40 Zjx (k 2)
def Zck : SX := .f2 40 (a 4) (k 1)
def ZnU : SX := .f1 23 Zck
def ZpE : SX := .f2 41 ZaW Zck
def ZpY : SX := l z ZpE
def Zn7 : SX := t ZpE (.f2 41 ZaW (a 4))
def Zob : SX := l z Zck
def Zpo : SX := l Zck ZaW
def Zo8 : SX := .f3 132 (r 5) (a 4) (.f2 122 Zqr ZuP)
def Zlc : SX := .us .g 624 (g 6) (g 2) (a 4) (g 9)
def Znz : SX := .f2 51 Zck ZaU
def Ze7 : SX := h 625 (g 6) (a 3) ZaU
def ZwC : VC := i (l ZrP Zuh) (i (l z ZrP) (i (p 608 (g 2)) (i (p 620 (g 2)) (i (e ZaU Zvd) (i (e ZaU (v 609 (g 2))) (i (.f2 50 Ztt Zuf) (i (.f2 50 Zuc Zuf) (n (l z ZaU) (n (.f1 23 ZaW) (n (l z ZaW) (n (l ZaW ZaW) (n (l (.f2 42 ZaW (k 56)) k2) (u 3 .int (i (l z (a 3)) (n (e (.f1 32 Zpg) ZaW) (n (.f2 155 (.f2 115 Zpg z) (wR 622 Zl0 ZaU)) (n (e (v 609 Zl0) (.f2 51 z ZaU)) (n (c 623 Zl0 (g 2)) (u 4 .int (u 5 .rows (u 6 .g (i (l z (a 4)) (i (l (a 4) ZaW) (i (e (.f1 32 (r 5)) ZaW) (i (.f2 155 (.f2 115 (r 5) (a 4)) (hR 622 (g 6) ZaU (a 4))) (i (e Zlq (.f2 51 (a 4) ZaU)) (i (c 623 (g 6) (g 2)) (.and (i (t (a 4) ZaW) (n (.f1 23 Zqr) (n (t (a 4) (.f1 32 (r 5))) (.and (i (t (a 4) ZaU) (i (t Zl2 ZrP) (i (l z Zl2) (i (p 608 ZhO) (n Ztt (n Zuc (n (t (a 4) Zvd) (u 7 .int (i (l z (a 7)) (n (t Zl2 Zuh) (n (p 620 ZhO) (u 8 .int (u 9 .g (i (c 621 (g 9) ZhO) (i (p 608 (g 9)) (i (l z (a 8)) (i (e Zjx (v 609 (g 9))) (i (e (d 613 (g 9) (k 3)) (a 8)) (i (e (d 613 (g 9) (k 6)) Zjx) (i (e (d 613 (g 9) (k 7)) ZnP) (n ZnU (n ZpY (n Zn7 (n Zob (n Zpo (n (.f2 155 (.f2 115 (.f3 132 Zo8 (a 4) (.f2 122 (.f3 112 Zmt (a 4) z) (.f2 122 (.f3 112 Zmt (a 4) (k 1)) (.f2 122 (.f1 35 (.f1 36 (.f3 112 Zmt (a 4) (k 2)))) (.f2 122 (a 8) (.f2 122 Zjx (.f2 122 ZnP (.f1 152 z)))))))) Zck) (hR 622 Zlc ZaU Zck)) (n (e (v 609 Zlc) Znz) (n (c 623 Zlc (g 2)) .tt)))))))))))))))))))))))))))) (i (l ZaU (a 4)) (n ZnU (n ZpY (n Zn7 (n Zob (n Zpo (n (.f2 155 (.f2 115 Zo8 Zck) (hR 622 (g 6) ZaU Zck)) (n (e Zlq Znz) .tt)))))))))))) (i (l ZaW (a 4)) (n (e Zlq ZaU) (n (e ZaW ZaW) (n (.f2 155 (r 5) (hR 622 (g 6) ZaU ZaW)) (n (l ZaU ZaW) (n (c 621 Ze7 (g 2)) (n (p 608 Ze7) (n (e ZaU (v 609 Ze7)) (n (e (d 613 Ze7 (k 3)) (a 3)) (n (e (d 613 Ze7 (k 6)) ZaU) (n (e (d 613 Ze7 (k 7)) ZaW) .tt)))))))))))))))))))))))))))))))))))))))
theorem ZvP : Zqz Tryz.prog ZwQ 12 8 ZsJ = ZwC := by kernel_rfl
def Zri : SX := v 606 (g 5)
def ZtQ : SX := v 999 z
def ZuQ : SX := v 609 (g 6)
def ZfX : SX := .f2 40 ZuQ (k 2)
def ZgW : SX := .f3 112 (r 3) (a 4) (k 6)
def ZnN : SX := vR 601 (g 5)
def Ztf : SX := .f1 32 ZnN
def ZuM : SX := l z (.f3 112 (r 3) (a 4) (k 3))
def Zu5 : SX := e ZgW z
def Ztj : SX := t (.f3 112 (r 3) (a 4) (k 5)) z
def Zns : SX := e (a 1) ZgW
def ZkL : SX := .f2 155 (.bool true) (.bool false)
def Zgz : SX := .f2 40 ZgW (k 2)
def ZhR : SX := vR 626 (g 6)
def Zom : SX := .f2 118 ZhR z
def Znl : SX := w 628 (g 6)
def Zgy : SX := w 604 (g 9)
def Zny : SX := .f3 112 (r 8) (a 7) (k 4)
def Zop : SX := .f3 112 (r 8) (a 7) (k 5)
def ZpR : SX := v 609 Zgy
def ZiZ : SX := f 604 (g 5) (a 7)
def ZkX : SX := v 606 ZiZ
def Zp1 : SX := t (a 7) (.f1 32 (r 8))
def Zoo : SX := .f3 112 (r 8) (a 7) z
def ZoF : SX := e Zoo (.f3 112 ZnN (a 7) z)
def Zor : SX := e (.f3 112 (r 8) (a 7) (k 1)) (.f3 112 ZnN (a 7) (k 1))
def Zd6 : SX := .f2 40 (a 7) (k 1)
def Zje : SX := .f1 23 Zd6
def ZnH : SX := .f2 41 ZfX Zd6
def ZhS : SX := l z ZnH
def ZhK : SX := t ZnH (.f2 41 ZfX (a 7))
def Ziq : SX := l z Zd6
def ZiU : SX := l Zd6 ZfX
def Zjm : SX := .f2 155 (.f2 118 (.f3 132 (r 8) (a 7) (.f2 122 (k (-9)) (.f2 122 z (.f2 122 (.f1 35 (.byt [])) (.f2 122 (k (-1)) (.f2 122 z (.f2 122 z (.f1 152 z)))))))) Zd6) (.f2 118 ZhR Zd6)
def Zpk : SX := f 628 (g 6) Zd6
def Zlf : SX := .f2 155 (f 628 (g 9) (k 1)) Zpk
def ZkN : SX := e ZfX (a 2)
def ZnY : SX := .f2 41 (k (-7)) (a 7)
def ZwT : VC := i (l Zri ZtQ) (i (l z Zri) (i (p 608 (g 5)) (i (p 620 (g 5)) (i (c 621 (g 6) (g 5)) (i (e (a 1) ZuQ) (i (e (a 2) ZfX) (i (e ZgW Ztf) (i (e ZgW (v 609 (g 5))) (i (.f2 50 ZuM Zu5) (i (.f2 50 Ztj Zu5) (n (l z ZgW) (n (l z (a 1)) (.and (i (.f1 2 Zns) (n ZkL .tt)) (i Zns (i (l z (a 0)) (n (.f1 23 Zgz) (n (l z (a 2)) (n (l z Zgz) (n (l Zgz (a 2)) (n (l z ZfX) (n (e (.f1 32 ZhR) ZfX) (n (.f2 155 Zom Zom) (n (.f2 155 Znl Znl) (u 7 .int (u 8 .rows (u 9 .g (i (l z (a 7)) (i (l (a 7) ZfX) (i (e (.f1 32 (r 8)) ZfX) (i (.f2 155 (.f2 118 (r 8) (a 7)) (.f2 118 ZhR (a 7))) (i (.f2 155 (g 9) (f 628 (g 6) (a 7))) (.and (i (t (a 7) Zgz) (.and (i (t (a 7) ZgW) (n (t z (v 609 (g 9))) (n (e (.f3 112 (r 8) (a 7) (k 3)) (d 613 Zgy (k 3))) (n (e Zny (d 613 Zgy (k 6))) (n (e Zop (d 613 Zgy (k 7))) (i (e Zny ZpR) (i (e Zop (.f2 40 ZpR (k 2))) (i (t ZkX Zri) (i (l z ZkX) (i (p 608 ZiZ) (n Zp1 (n ZuM (n Ztj (n (t (a 7) Ztf) (n (t ZkX ZtQ) (n (p 620 ZiZ) (n (c 621 Zgy ZiZ) (.and (i ZoF (.and (i Zor (n Zje (n ZhS (n ZhK (n Ziq (n ZiU (n Zjm (n Zlf (n ZkN (n (.f2 155 (.bool true) (.f2 150 (.f1 36 (.f3 112 (r 8) (a 7) (k 2))) (.f1 36 (.f3 112 ZnN (a 7) (k 2))))) .tt)))))))))) (i (.f1 2 Zor) (n Zje (n ZhS (n ZhK (n Ziq (n ZiU (n Zjm (n Zlf (n ZkN (n ZkL .tt)))))))))))) (i (.f1 2 ZoF) (n Zje (n ZhS (n ZhK (n Ziq (n ZiU (n Zjm (n Zlf (n ZkN (n ZkL .tt)))))))))))))))))))))))))))) (i (l ZgW (a 7)) (n Zp1 (n (.f1 23 ZnY) (n Zje (n ZhS (n ZhK (n Ziq (n ZiU (n Zjm (n (.f2 155 (g 9) Zpk) (n (.f2 155 (.bool true) (e Zoo ZnY)) .tt))))))))))))) (i (l Zgz (a 7)) .tt)))))))))))))))))))))))))))))))))
theorem ZvW : Zqz Tryz.prog Zwz 12 13 Zso = ZwT := by kernel_rfl
theorem ZvD (S : Sig Nd) (hS : ToSig S) (n : Nat) (IH : ZG (S.bd n) Tryz.prog 8 ZwP) : ZG (S.bd n) Tryz.prog 8 ZsJ := by
 replace hS := Zwn hS n
 refine Yq (S.bd n) (C := ZwQ) (fuel := 12) (ZiF ⟨Yo (by decide) IH, trivial⟩ ⟨⟨⟨by decide, ZeU _ hS.tc.ta⟩, ⟨by decide, Zwv _ hS⟩, trivial, ⟨by decide, Zsv _ hS.tc.ta⟩, ⟨by decide, Zxk _ hS⟩, ⟨by decide, Zwi _ hS⟩, trivial⟩, trivial⟩ trivial) fun ρ => ?_
 rw [ZvP]
 simp only [ZwC, ZrP, Zuh, ZaU, Zmt, Zvd, Ztt, Zuf, Zuc, ZaW, ZuP, Zpg, Zl0, Zlq, Zqr, ZhO, Zl2, Zjx, ZnP, Zck, ZnU, ZpE, ZpY, Zn7, Zob, Zpo, Zo8, Zlc, Znz, Ze7, hS.tc.ta.u601, hS.tc.ta.u604, hS.tc.ta.u606, hS.tc.ta.u608, hS.tc.ta.u609, hS.tc.u613, hS.u620, hS.u621, hS.u622, hS.u623, hS.u624, hS.u625, hS.u627, Zj1, Ziz, ZxM, VC.den, SX.den, Env.upd, beq_iff_eq, ZxE, beq_eq_false_iff_ne, ne_eq, ZxD, ZxC, Int.reduceToNat, Nat.reduceEqDiff, reduceIte, sB]
 generalize ndU (U.co (S.bd n) .g (ρ 2)) = g
 generalize (ρ 0).tR.getD (ρ 1).tI.toNat [] = r
 simp only [YJ]
 intro h1 h2 tg sg a1 a2 a3 a4
 obtain ⟨t1, t2, t3⟩ := (Y4 g).1 tg
 obtain ⟨s1, s2⟩ := (Zsc g).1 sg
 rw [a1]
 generalize hN : (g.l.length : Int) = N at *
 refine ⟨by omega, ⟨by omega, by omega⟩, by omega, Int.le_refl _, by omega, fun b b0 => ⟨?_, rfl, ?_, ?_, fun i R ks i0 i1 lr hR lk hm => ⟨fun hi => ⟨⟨by omega, by omega⟩, by omega, fun hj d1 d2 tk => ⟨by omega, by omega, by omega, fun c c0 => ⟨by omega, Zkl s2 _ (ZeE i0 (by omega)), fun b' x sm tx b0' lx x3 x6 x7 => ?_⟩⟩, fun hj => ?_⟩, fun hi => ?_⟩⟩⟩
 ·show (((List.replicate (N + 2).toNat _).length : Nat) : Int) = _
  rw [List.length_replicate]; omega
 ·unfold Zsy; rw [if_neg (by omega)]; rfl
 ·show SMs [] (List.take 0 _)
  exact ZnB
 ·obtain ⟨q, rfl⟩ := Zxx i0
  have lq : ks.l.length = q := by unfold Zsy at lk; rw [if_neg (by omega)] at lk; omega
  have qg : q < g.l.length := by omega
  have kr := ZbU (n := g) i0 (by omega)
  rw [kr] at x6 x7 ⊢
  simp only [ZxM] at hR ⊢
  rw [show ((q : Int) + 1).toNat = q + 1 by omega]
  refine ⟨⟨by omega, by omega⟩, by omega, by omega, by omega, by omega, ?_, ?_, ?_, trivial⟩
  ·rw [Zmi (by rw [List.length_set]; omega), List.take_set_of_le (Zxv q), hR]
   rw [<- lq, Zlo]
   have e := Zlo N (ZfS ks g q x).l
   have el : (ZfS ks g q x).l.length = ks.l.length + 1 := by unfold ZfS; simp [Nd.l]
   rw [el] at e
   rw [lq] at e ⊢
   rw [e]
   show _ = List.map _ (ks.l ++ [_])
   rw [ZxV, List.map_singleton]
   congr 2
   show _ = r6 [_, _, _, _, _, _, _, _]
   unfold r6
   simp only [List.getD_cons_zero, List.getD_cons_succ]
   rw [x3, x6, x7]; rfl
  ·have el : (ZfS ks g q x).l.length = ks.l.length + 1 := by unfold ZfS; simp [Nd.l]
   rw [el, lq]; unfold Zsy; rw [if_neg (by omega)]; omega
  ·have el : (ZfS ks g q x).l.length = ks.l.length + 1 := by unfold ZfS; simp [Nd.l]
   rw [el, lq, ZqK qg]
   rw [lq] at hm
   show SMs (ks.l ++ [_]) _
   refine ZkT (x := .mk [(g.kid q).h.getD 0 0, (g.kid q).h.getD 1 0, (Zdt (ht (g.kid q).h) : Nat), x.h.getD 3 0, x.h.getD 4 0, x.h.getD 5 0, x.h.getD 6 0, x.h.getD 7 0] x.l) (y := g.kid q) rfl rfl ?_ ?_ hm
   ·show decB ((Zdt (ht (g.kid q).h) : Nat) : Int).toNat = _
    rw [ZxM, ZY]
   ·rw [Zgk]
    exact (Zgk x _).1 sm
 ·obtain ⟨q, rfl⟩ := Zxx i0
  have lq : (ks.l.length : Int) = N := by
   unfold Zsy at lk
   split at lk <;> omega
  simp only [ZxM] at hR ⊢
  rw [show ((q : Int) + 1).toNat = q + 1 by omega]
  refine ⟨⟨by omega, by omega⟩, by omega, by omega, by omega, by omega, ?_, ?_, trivial⟩
  ·rw [Zmi (by omega), hR, List.take_add_one, Zma lq (by omega) (by omega)]; rfl
  ·unfold Zsy at lk ⊢
   split <;> omega
 ·have lq : (ks.l.length : Int) = N := by
   unfold Zsy at lk
   split at lk <;> omega
  have hl : ks.l.length = g.l.length := by omega
  rw [hl, List.take_length] at hm
  have ei : i = N + 2 := by omega
  subst ei
  rw [ZxR (l := R) (i := (N + 2).toNat) (by omega)] at hR
  refine ⟨lq, trivial, hR, by omega, ?_, ?_, lq.symm, rfl, rfl, rfl, trivial⟩
  ·rw [Zgk]; exact hm
  ·rw [Y4]
   refine ⟨by show (ks.l.length : Int) <= _; omega, ⟨?_, by show (-9223372036854775808 : Int) <= 0; omega, by show (0 : Int) <= 9223372036854775807; omega⟩, Zkr _ _ hm t3⟩
   show ((decB 0).length : Int) <= _
   exact (by decide : ((decB 0).length : Int) <= 9223372036854775807)
theorem ZtM (S : Sig Nd) (hS : ToSig S) : ZG S Tryz.prog 8 lntC := ZeO S (me := dpX (gA 2)) (by decide) (by decide) (ZxN ..) fun n IH => ZvD S hS n IH
theorem ZvC (S : Sig Nd) (hS : ToSig S) (n : Nat) (IH : ZG (S.bd n) Tryz.prog 13 Zw2) : ZG (S.bd n) Tryz.prog 13 Zso := by
 replace hS := Zwn hS n
 refine Yq (S.bd n) (C := Zwz) (fuel := 12) (ZiF ⟨Yo (by decide) IH, trivial⟩ ⟨⟨⟨by decide, ZeU _ hS.tc.ta⟩, ⟨by decide, ZwA _ hS⟩, trivial, ⟨by decide, ko_gh _ hS⟩, trivial⟩, trivial⟩ trivial) fun ρ => ?_
 rw [ZvW]
 simp only [ZwT, Zri, ZtQ, ZuQ, ZfX, ZgW, ZnN, Ztf, ZuM, Zu5, Ztj, Zns, ZkL, Zgz, ZhR, Zom, Znl, Zgy, Zny, Zop, ZpR, ZiZ, ZkX, Zp1, Zoo, ZoF, Zor, Zd6, Zje, ZnH, ZhS, ZhK, Ziq, ZiU, Zjm, Zpk, Zlf, ZkN, ZnY, hS.tc.ta.u601, hS.tc.ta.u604, hS.tc.ta.u606, hS.tc.ta.u608, hS.tc.ta.u609, hS.tc.u613, hS.u620, hS.u621, hS.u626, hS.u628, Zj1, Ziz, ZxM, VC.den, SX.den, Env.upd, ap2_118', U.g.injEq, beq_iff_eq, ZxE, beq_eq_false_iff_ne, ne_eq, ZxD, ZxC, Int.reduceToNat, Nat.reduceEqDiff, reduceIte, sB]
 generalize ndU (U.co (S.bd n) .g (ρ 5)) = g
 generalize ndU (U.co (S.bd n) .g (ρ 6)) = k
 generalize (ρ 3).tR.getD (ρ 4).tI.toNat [] = r
 simp only [YJ, Zfc]
 intro h1 h2 tg sg sm e1 e2 a1 a2 a3 a4
 obtain ⟨t1, t2, t3⟩ := (Y4 g).1 tg
 obtain ⟨s1, s2⟩ := (Zsc g).1 sg
 have hk := (Zgk _ _).1 sm
 have lk := ZjM _ _ hk
 rw [a1, e1, e2]
 refine ⟨by omega, by omega, fun hne => absurd (by omega) hne, fun hN b0 => ⟨⟨by omega, by omega⟩, by omega, by omega, by omega, by omega, by omega, trivial, trivial, fun i R rest i0 i1 lR hd hr => ⟨fun hi => ⟨fun hj => ?_, fun hj => ?_⟩, fun _ => trivial⟩⟩⟩
 ·obtain ⟨q, rfl⟩ := Zxx i0
  have qk : q < k.l.length := by omega
  subst hr
  simp only [ZxM] at hd ⊢
  have eR : R.getD q [] = r6 (k.kid q).h := by
   rw [Zk3 hd, Zug qk]; rfl
  obtain ⟨⟨x0, x1, x2⟩, xs⟩ := Zpt hk q qk
  have kr := ZbU (n := g) i0 (by omega)
  simp only [ZxM] at kr
  rw [eR, kr, ZqY, Zpj]
  have y0 : (k.kid q).h.getD 0 0 = (g.kid q).h.getD 0 0 := x0
  have y1 : (k.kid q).h.getD 1 0 = (g.kid q).h.getD 1 0 := x1
  have y2 : ht (k.kid q).h = ht (g.kid q).h := x2
  have yb : (decB ((r6 (k.kid q).h).getD 2 0).toNat == decB ((g.kid q).h.getD 2 0).toNat) = true := by
   rw [beq_iff_eq]; exact y2
  refine ⟨?_, rfl, rfl, rfl, fun _ _ d1 d2 tk => ⟨by omega, by omega, by omega, by omega, by omega, Zkl s2 _ (ZeE i0 (by omega)), xs, fun _ => ⟨fun _ => ?_, fun hc => absurd y1 hc⟩, fun hc => absurd y0 hc⟩⟩
  ·show (0 : Int) < ((k.l.drop ((q : Int)).toNat).length : Nat)
   rw [ZxT]; omega
  ·rw [yb, show ((q : Int) + 1).toNat = q + 1 by omega]
   exact ⟨⟨by omega, by omega⟩, by omega, by omega, by omega, by omega, Ziw hd, rfl, trivial, rfl, trivial⟩
 ·obtain ⟨q, rfl⟩ := Zxx i0
  subst hr
  simp only [ZxM] at hd ⊢
  have eR : R.getD q [] = mkI q := by
   rw [Zk3 hd, ZxF, Zma rfl (by omega) (by omega)]; rfl
  rw [eR, show ((q : Int) + 1).toNat = q + 1 by omega]
  refine ⟨by omega, ⟨by omega, by omega⟩, ⟨by omega, by omega⟩, by omega, by omega, by omega, by omega, Ziw hd, ?_, ?_, trivial⟩
  ·unfold ZfU
   rw [List.drop_eq_nil_of_le (by omega), List.drop_eq_nil_of_le (by omega)]
  ·exact (beq_self_eq_true (-7 - (q : Int))).symm
theorem Zt0 (S : Sig Nd) (hS : ToSig S) : ZG S Tryz.prog 13 kepC := ZeO S (me := dpX (gA 5)) (by decide) (by decide) (ZxN ..) fun n IH => ZvC S hS n IH
end
end Go.Proofs.YtlmkcakhhbckhaaGreatDoor
namespace Go.Proofs.YtlmkcakhhbckhaaGreatDoor
noncomputable section
open Go.Eng
open Go.RowKit (Below)
theorem Zkt {w0 w w' : World} {h : Hl} (hi : In w0 h w) (hb : Below w.heap.size w w') : In w0 h w' := by
 refine ⟨fun b o v z he => ?_, fun b o x he => ?_, hi.below.trans ⟨hb.os, hb.tape, hb.output, hb.size, fun k hk => hb.block k (Nat.lt_of_lt_of_le hk hi.below.size)⟩⟩
 ·obtain ⟨h1, h2, h3, h4⟩ := hi.cell b o v z he
  have hlt : b < w.heap.size := by
   unfold World.cell? at h2
   cases hh : w.heap[b]? with
   | none => rw [hh] at h2; cases h2
   | some q => exact (Array.getElem?_eq_some_iff.1 hh).1
  have e1 : w'.heap[b]? = w.heap[b]? := hb.block b hlt
  refine ⟨h1, ?_, ?_, fun hz => ?_⟩
  ·unfold World.cell? at h2 ⊢; rw [e1]; exact h2
  ·unfold World.frozen? at h3 ⊢; rw [e1]; exact h3
  ·obtain ⟨c, e, h5⟩ := h4 hz; exact ⟨c, e, by rw [e1]; exact h5⟩
 ·obtain ⟨h1, h2, h3, h4⟩ := hi.obj b o x he
  have hlt : b < w.heap.size := (Array.getElem?_eq_some_iff.1 h3).1
  exact ⟨h1, h2, by rw [hb.block b hlt]; exact h3, h4⟩
theorem Zvm {w : World} {a : Addr} {v : Value} (h : w.cell? a = some v) : a.block < w.heap.size := by
 unfold World.cell? at h
 cases hh : w.heap[a.block]? with
 | none => rw [hh] at h; cases h
 | some q => exact (Array.getElem?_eq_some_iff.1 hh).1
theorem ZnF (l : List Int) (p q : Nat) : (l.drop p).getD q 0 = l.getD (p + q) 0 := by rw [ZxF, ZxF, Zx4]
theorem Zoz {h : List Int} {l : List Nd} (ho : Zi0 h l) : opqV (h.drop 3) = slV (h.getD 3 0) (h.getD 6 0) (h.getD 7 0) := by
 obtain ⟨a1, a2, a3, a4, a5⟩ := ho
 unfold opqV slV
 simp only [ZnF]
 rw [show 3 + 0 = 3 from rfl, show 3 + 1 = 4 from rfl, show 3 + 2 = 5 from rfl, show 3 + 3 = 6 from rfl, show 3 + 4 = 7 from rfl, a4, a5]
 simp
theorem ZtI {h : List Int} {l : List Nd} (ho : Zi0 h l) : Zo itF h = Zo itO (r6 h) := by
 have e : Zo itF h = [.int .i64 (h.getD 0 0), .int .i64 (h.getD 1 0), .string ⟨(decB (h.getD 2 0).toNat).toArray⟩, opqV (h.drop 3)] := by
  simp only [itF, Zo, Fd.val, Fd.width, List.drop_drop, ZnF]
 rw [e, Zoz ho]
 rfl
theorem ZlO : ∀ {l : List Nd}, (∀ x ∈ l, Zi0 x.h x.l) -> (Z2 l).flatMap (Zo itF) = (l.map (fun x => r6 x.h)).flatMap (Zo itO)
 | [], _ => rfl
 | x :: l, h => by
  show Zo itF x.h ++ (Z2 l).flatMap (Zo itF) = Zo itO (r6 x.h) ++ (l.map (fun x => r6 x.h)).flatMap (Zo itO)
  rw [ZtI (h x (ZxN ..)), ZlO fun y hy => h y (ZxL _ hy)]
theorem Zr4 {g : Nd} {h : Hl} (ho : OT g h) : Zi0 g.h g.l := by rw [Zpe] at ho; exact ho.1
theorem ZfB {w0 w : World} {a b : Hl} (hd : Hl.Disj a b) (h : In w0 (Hl.un a b) w) : In w0 a w := h.sub fun i j r e => by unfold Hl.un; rw [e]
theorem ZgM {w0 w : World} {a b : Hl} (hd : Hl.Disj a b) (h : In w0 (Hl.un a b) w) : In w0 b w := h.sub fun i j r e => by
 unfold Hl.un
 rcases hd i j with e' | e'
 ·rw [e']; exact e
 ·rw [e'] at e; cases e
mutual
theorem ZrN {w0 w : World} : ∀ (g : Nd) (h : Hl), OT g h -> In w0 h w -> RT w g
 | .mk hd l, h, ho, hi => by
  unfold OT at ho
  obtain ⟨⟨a1, a2, a3, a4, a5⟩, a, b, d, rfl, h1, h2⟩ := ho
  obtain ⟨q1, q2⟩ := Zqs l b h2 (ZgM d hi)
  unfold RT
  refine ⟨⟨a1, fun _ => ⟨a3, by rw [a5]; omega⟩, fun i v hv => ?_⟩, q1⟩
  obtain ⟨spare, _, _, _, hr⟩ := h1
  have hia := ZfB d hi
  rw [ZlO q2] at hv
  have e : Zsx.vals (.rows (ZN l.length l) : U Unit) = (l.map (fun x => r6 x.h)).flatMap (Zo itO) ++ [mkI l.length, mkI (l.length + 1)].flatMap (Zo itO) := by
   show (ZN l.length l).flatMap (Zo itO) = _
   unfold ZN; rw [List.flatMap_append]
  rw [e] at hr
  have hc : a (hd.getD 3 0).toNat i = some (.val v true) := by
   have hr : a = Zby (hd.getD 3 0).toNat 0 _ true := hr
   rw [hr]
   unfold Zby
   rw [if_pos ⟨rfl, Nat.zero_le _⟩, Nat.sub_zero, Zx3, ZxX (by
    rw [List.getElem?_eq_some_iff] at hv; exact hv.1), hv]; rfl
  obtain ⟨_, c2, _, _⟩ := hia.cell _ _ _ _ hc
  rw [a4]
  exact ⟨Zvm c2, by rw [show (0 : Int).toNat + i = i by simp]; exact c2⟩
theorem Zqs {w0 w : World} : ∀ (l : List Nd) (h : Hl), OTs l h -> In w0 h w -> RTs w l /\ ∀ x ∈ l, Zi0 x.h x.l
 | [], _, _, _ => ⟨by unfold RTs; trivial, fun x hx => nomatch hx⟩
 | x :: l, h, ho, hi => by
  rw [Zdh] at ho
  obtain ⟨a, b, d, rfl, h1, h2⟩ := ho
  obtain ⟨q1, q2⟩ := Zqs l b h2 (ZgM d hi)
  unfold RTs
  refine ⟨⟨ZrN x a h1 (ZfB d hi), q1⟩, fun y hy => ?_⟩
  rcases List.mem_cons.1 hy with rfl | hy
  ·exact Zr4 h1
  ·exact q2 y hy
end
theorem Zou (S : Sig Nd) (hS : TcSig S) {w : World} {g k : Nd} (h1 : RT w g) (h2 : RT w k) (t1 : TG g) (t2 : TG k) :
  Calls Tryz.prog 20 #[opqV (g.h.drop 3), opqV (k.h.drop 3)] w fun e w' => e = .returned (.int .i64 (Za7 g.l k.l)) /\ Below w.heap.size w w' := by
 let ρ : Go.Eng.Env Nd := fun i => match i with | 0 => .rows [g.h] | 1 => .int 0 | 2 => .g g | 3 => .rows [k.h] | 4 => .int 0 | _ => .g k
 have h := ZtN S hS (fun _ => true) w emp ρ w [opqV (g.h.drop 3), opqV (k.h.drop 3)] ⟨.inr rfl, .inr rfl, trivial⟩ (fun e he => ?_) ⟨Hl.none, ?_, ⟨fun b o v z he => (nomatch he), fun b o x he => (nomatch he), Below.refl _ _⟩⟩
 ·refine h.mono ?_
  rintro e w' ⟨ρ', v, hx, rfl, hv, hs, _⟩
  refine ⟨?_, hs.below⟩
  have hv := R_one S ρ' hv
  rw [hv]
  have e2 : ρ' 2 = .g g := hx 2 (by decide)
  have e5 : ρ' 5 = .g k := hx 5 (by decide)
  show Ending.returned (.int .i64 (U.co S .int (S.usr 610 (U.co S .g (ρ' 2)) (U.co S .g (ρ' 5)) (.int 0) (.int 0))).tI) = _
  rw [hS.u610, e2, e5]; rfl
 ·simp only [Zry, List.mem_cons, List.not_mem_nil, or_false] at he
  rcases he with rfl | rfl | rfl
  ·rw [eLe_den, ZbA hS.ta rfl]; exact Int.natCast_nonneg _
  ·rw [Za6 hS.ta rfl]; exact t1
  ·rw [Za6 hS.ta rfl]; exact t2
 ·rw [star_emp]
  show Zi ((rtC (rA 0) (ai 1) (gA 2)).den (S.wc fun _ => true) ρ w) (Zi ((rtC (rA 3) (ai 4) (gA 5)).den (S.wc fun _ => true) ρ w) emp) Hl.none
  rw [star_emp, Zco (T := S.wc fun _ => true) hS.ta rfl rfl, Zco (T := S.wc fun _ => true) hS.ta rfl rfl, star_pure]
  exact ⟨⟨h1, rfl⟩, ⟨h2, rfl⟩, rfl⟩
def Zm6 (n c g : SX) : List SX := [.f2 45 n (lnX g), .f2 45 c (ZfK (lnX g)), tgX g]
def Zsj : Ctr := ⟨[.int, .int, .int, .int, .int, .int, .g, .g], [.one (slC (ai 0) (ai 1) (ai 2) 4), .one (slC (ai 3) (ai 4) (ai 5) 4)], [otC (ai 0) (gA 6), otC (ai 3) (gA 7)], Zm6 (ai 1) (ai 2) (gA 6) ++ Zm6 (ai 4) (ai 5) (gA 7), [], .one (.int .i64 (cmX (gA 6) (gA 7) z0)), [otC (ai 0) (gA 6), otC (ai 3) (gA 7)], []⟩
def Zwf : Ctr := ⟨[.int, .int, .int, .g], [.one (slC (ai 0) (ai 1) (ai 2) 4), .one (slC (ai 0) (ai 1) (ai 2) 4)], [otC (ai 0) (gA 3)], Zm6 (ai 1) (ai 2) (gA 3) ++ [.bool true], [], .one (.int .i64 (cmX (gA 3) (gA 3) z0)), [otC (ai 0) (gA 3)], []⟩
theorem ZlK {S : Sig Nd} (hS : ToSig S) {ρ : Go.Eng.Env Nd} {b n c : Nat} {g : SX} {v : Value} {h : Hl} (hv : SV.R S ρ (.one (slC (ai b) (ai n) (ai c) 4)) v)
  (hn : (ρ n).tI = ((ndU (g.den S ρ)).l.length : Nat)) (hc : (ρ c).tI = ((ndU (g.den S ρ)).l.length : Nat) + 2) (hb : (ndU (g.den S ρ)).h.getD 3 0 = (ρ b).tI) (ho : OT (ndU (g.den S ρ)) h) : v = opqV ((ndU (g.den S ρ)).h.drop 3) := by
 have hw := Zr4 ho
 rw [Zoz hw, R_one S ρ hv, Zvp, hw.1, hw.2.1, hb]
 show slV (ρ b).tI (ρ n).tI (ρ c).tI = _
 rw [hn, hc]
theorem ZwN (S : Sig Nd) (hS : ToSig S) : ZG S Tryz.prog 20 Zsj := by
 intro ch w0 F ρ w xs ha hr hs
 match xs, ha with
 | [v1, v2], ha =>
  have r1 := Zao (hr (.f2 45 (ai 1) (lnX (gA 6))) (by simp [Zsj, Zm6]))
  have r2 := Zao (hr (.f2 45 (ai 2) (ZfK (lnX (gA 6)))) (by simp [Zsj, Zm6]))
  have r3 := hr (tgX (gA 6)) (by simp [Zsj, Zm6])
  have r4 := Zao (hr (.f2 45 (ai 4) (lnX (gA 7))) (by simp [Zsj, Zm6]))
  have r5 := Zao (hr (.f2 45 (ai 5) (ZfK (lnX (gA 7)))) (by simp [Zsj, Zm6]))
  have r6 := hr (tgX (gA 7)) (by simp [Zsj, Zm6])
  rw [Za6 hS.tc.ta rfl] at r3 r6
  rw [Zdg] at r2 r5
  rw [Ze2 hS rfl] at r1 r2 r4 r5
  have hs' := hs
  obtain ⟨x, ⟨a, f, d, rfl, hp, hf⟩, hi⟩ := hs
  have hp : Zi ((otC (ai 0) (gA 6)).den (S.wc ch) ρ w0) (Zi ((otC (ai 3) (gA 7)).den (S.wc ch) ρ w0) emp) a := hp
  rw [star_emp, Zfu (T := S.wc ch) hS rfl, Zfu (T := S.wc ch) hS rfl] at hp
  obtain ⟨a1, a2, d2, rfl, ⟨b1, o1⟩, b2, o2⟩ := hp
  have hia := ZfB d hi
  have g1 := ZrN _ _ o1 (ZfB d2 hia)
  have g2 := ZrN _ _ o2 (ZgM d2 hia)
  rw [show ([v1, v2] : List Value).toArray = #[v1, v2] from rfl, ZlK hS ha.1 r1 r2 b1 o1, ZlK hS ha.2.1 r4 r5 b2 o2]
  refine (Zou S hS.tc g1 g2 r3 r6).mono ?_
  rintro e w' ⟨rfl, hb⟩
  refine ⟨ρ, _, Ext.refl _ _, rfl, .inr ?_, ?_, fun x hx => nomatch hx⟩
  ·show _ = Value.int .i64 (U.co S .int (S.usr 610 _ _ _ _)).tI
   rw [hS.tc.u610]; rfl
  ·obtain ⟨x, hx, hi⟩ := hs'
   exact ⟨x, hx, Zkt hi hb⟩
theorem Zxe (S : Sig Nd) (hS : ToSig S) : ZG S Tryz.prog 20 Zwf := by
 intro ch w0 F ρ w xs ha hr hs
 match xs, ha with
 | [v1, v2], ha =>
  have r1 := Zao (hr (.f2 45 (ai 1) (lnX (gA 3))) (by simp [Zwf, Zm6]))
  have r2 := Zao (hr (.f2 45 (ai 2) (ZfK (lnX (gA 3)))) (by simp [Zwf, Zm6]))
  have r3 := hr (tgX (gA 3)) (by simp [Zwf, Zm6])
  rw [Za6 hS.tc.ta rfl] at r3
  rw [Zdg] at r2
  rw [Ze2 hS rfl] at r1 r2
  have hs' := hs
  obtain ⟨x, ⟨a, f, d, rfl, hp, hf⟩, hi⟩ := hs
  have hp : Zi ((otC (ai 0) (gA 3)).den (S.wc ch) ρ w0) emp a := hp
  rw [star_emp, Zfu (T := S.wc ch) hS rfl] at hp
  obtain ⟨b1, o1⟩ := hp
  have g1 := ZrN _ _ o1 (ZfB d hi)
  rw [show ([v1, v2] : List Value).toArray = #[v1, v2] from rfl, ZlK hS ha.1 r1 r2 b1 o1, ZlK hS ha.2.1 r1 r2 b1 o1]
  refine (Zou S hS.tc g1 g1 r3 r3).mono ?_
  rintro e w' ⟨rfl, hb⟩
  refine ⟨ρ, _, Ext.refl _ _, rfl, .inr ?_, ?_, fun x hx => nomatch hx⟩
  ·show _ = Value.int .i64 (U.co S .int (S.usr 610 _ _ _ _)).tI
   rw [hS.tc.u610]; rfl
  ·obtain ⟨x, hx, hi⟩ := hs'
   exact ⟨x, hx, Zkt hi hb⟩
end
end Go.Proofs.YtlmkcakhhbckhaaGreatDoor
namespace Go.Proofs.YtlmkcakhhbckhaaGreatDoor
noncomputable section
open Go.Eng
def wgX (g i n : SX) : SX := usI 607 g i n
def ZuS : SX := .int 1152921504606846976
def weiC : Ctr := ⟨[.rows, .int, .g, .int], [.one (.opq (rA 0) (ai 1) 3), .one (.int .i64 (ai 3))], [rtC (rA 0) (ai 1) (gA 2)], [eLe z0 (dpX (gA 2)), tgX (gA 2), eLe z0 (ai 3), eLe (ai 3) ZuS], [], .one (.int .i64 (wgX (gA 2) z0 (ai 3))), [rtC (rA 0) (ai 1) (gA 2)], [eLe z0 (wgX (gA 2) z0 (ai 3)), eLe (wgX (gA 2) z0 (ai 3)) ZuS]⟩
def ZsN : Ctr := leC weiC (dpX (gA 2))
def ZwH : Ctr := ltC weiC (dpX (gA 2))
def weiI : Inv := ⟨[.int, .int], [(5, .one (.int .i64 (di 0))), (1, .one (.int .i64 (di 1)))], [], [eLe z0 (di 0), eLe (di 0) (nt (rA 0) (ai 1) 6), eLe z0 (di 1), eLe (di 1) ZuS, .f2 45 (wgX (gA 2) (di 0) (di 1)) (wgX (gA 2) z0 (ai 3))], .f2 41 (nt (rA 0) (ai 1) 6) (di 0)⟩
def Zw5 : Cx := { specs := [(26, [ZwH])], anns := [(26, [(0, .ghost Zq1 [.tmp 0]), (2, .inv weiI), (4, .ghost Zuu [.tmp 0, .tmp 5])])] }
theorem ZuW {l : List Nd} {x : Int} (h : 100000 < x) : wgs l x = x := by
 cases l with
 | nil => unfold wgs; rfl
 | cons n l => unfold wgs; rw [if_neg (by omega)]
theorem Ztq (n : Nd) (x : Int) : wg n x = wgs n.l x := by cases n; unfold wg; rfl
theorem ZrC {g : Nd} {i x : Int} (h0 : 0 <= i) (h1 : i < g.l.length) (hx : x <= 100000) : wgs (g.l.drop i.toNat) x = wgs (g.l.drop (i + 1).toNat) (wgs (g.kid i).l (x + ((ht (g.kid i).h).length : Int).tdiv 64 + 1)) := by
 have hi : i.toNat < g.l.length := by omega
 have e : g.l[i.toNat] = g.kid i := by unfold Nd.kid; rw [ZxF, ZxI hi]; rfl
 rw [List.drop_eq_getElem_cons hi, e, show (i + 1).toNat = i.toNat + 1 by omega]
 conv => lhs; unfold wgs
 rw [if_pos hx, Ztq, show x + 1 + ((ht (g.kid i).h).length : Int).tdiv 64 = x + ((ht (g.kid i).h).length : Int).tdiv 64 + 1 by omega]
def Zq6 : SX := v 606 (g 2)
def Zs9 : SX := v 999 z
def Zfa : SX := .f3 112 (r 0) (a 1) (k 6)
def Ztl : SX := vR 601 (g 2)
def Zuk : SX := .f1 32 Ztl
def Zvn : SX := l z (.f3 112 (r 0) (a 1) (k 3))
def ZuN : SX := e Zfa z
def Zu9 : SX := t (.f3 112 (r 0) (a 1) (k 5)) z
def Zib : SX := x 607 (g 2) z (a 3)
def ZrO : SX := f 604 (g 2) (a 4)
def ZlE : SX := v 606 ZrO
def Zpb : SX := .f2 43 (.f1 31 (.f1 36 (.f3 112 Ztl (a 4) (k 2)))) (k 64)
def Zim : SX := .f2 40 (.f2 40 (a 5) Zpb) (k 1)
def Zk1 : SX := x 607 ZrO z Zim
def Zgs : SX := .f2 40 (a 4) (k 1)
def Zpy : SX := .f2 41 Zfa Zgs
def Zo6 : SX := l z Zib
def Zqf : SX := l Zib k3
def ZpN : SX := e Zib (a 5)
def ZwD : VC := i (l Zq6 Zs9) (i (l z Zq6) (i (p 608 (g 2)) (i (l z (a 3)) (i (l (a 3) k3) (i (e Zfa Zuk) (i (e Zfa (v 609 (g 2))) (i (.f2 50 Zvn ZuN) (i (.f2 50 Zu9 ZuN) (n (l z Zfa) (n (e Zib Zib) (u 4 .int (u 5 .int (i (l z (a 4)) (i (l (a 4) Zfa) (i (l z (a 5)) (i (l (a 5) k3) (i (e (x 607 (g 2) (a 4) (a 5)) Zib) (.and (i (t (a 4) Zfa) (.and (i (l (a 5) (k 100000)) (i (t ZlE Zq6) (i (l z ZlE) (i (p 608 ZrO) (n Zvn (n Zu9 (n (t (a 4) Zuk) (n (.f1 23 (.f2 40 (a 5) (k 1))) (n (.f1 23 Zpb) (n (.f1 23 Zim) (n (t ZlE Zs9) (n (l z Zim) (n (l Zim k3) (i (l z Zk1) (i (l Zk1 k3) (n (.f1 23 Zgs) (n (l z Zpy) (n (t Zpy (.f2 41 Zfa (a 4))) (n (l z Zgs) (n (l Zgs Zfa) (n (e (x 607 (g 2) Zgs Zk1) Zib) .tt))))))))))))))))))))) (i (t (k 100000) (a 5)) (n Zo6 (n Zqf (n ZpN .tt)))))) (i (l Zfa (a 4)) (n Zo6 (n Zqf (n ZpN .tt))))))))))))))))))))))
theorem ZvG : Zqz Tryz.prog Zw5 12 26 ZsN = ZwD := by kernel_rfl
theorem Zw3 (S : Sig Nd) (hS : TaSig S) (n : Nat) (IH : ZG (S.bd n) Tryz.prog 26 ZwH) : ZG (S.bd n) Tryz.prog 26 ZsN := by
 replace hS := ZwY hS n
 refine Yq (S.bd n) (C := Zw5) (fuel := 12) (ZiF ⟨Yo (by decide) IH, trivial⟩ ⟨⟨⟨by decide, ZeU _ hS⟩, trivial, ⟨by decide, Zsv _ hS⟩, trivial⟩, trivial⟩ trivial) fun ρ => ?_
 rw [ZvG]
 simp only [ZwD, Zq6, Zs9, Zfa, Ztl, Zuk, Zvn, ZuN, Zu9, Zib, ZrO, ZlE, Zpb, Zim, Zk1, Zgs, Zpy, Zo6, Zqf, ZpN, hS.u601, hS.u604, hS.u606, hS.u607, hS.u608, hS.u609, Zj1, Ziz, ZxM, VC.den, SX.den, Env.upd, beq_iff_eq, ZxE, beq_eq_false_iff_ne, ne_eq, ZxD, ZxC, Int.reduceToNat, Nat.reduceEqDiff, reduceIte, sB]
 generalize ndU (U.co (S.bd n) .g (ρ 2)) = g
 generalize (ρ 0).tR.getD (ρ 1).tI.toNat [] = r
 generalize (ρ 3).tI = m
 simp only [YJ, List.drop_zero]
 intro h1 h2 h3 h4 h5 h6 h7 h8 h9
 obtain ⟨t1, t2, t3⟩ := (Y4 g).1 h3
 refine ⟨by omega, trivial, fun i x i0 i1 x0 x1 hw => ⟨fun hi => ⟨fun hx d1 d2 tk => ?_, fun hx => ?_⟩, fun hi => ?_⟩⟩
 ·have hl : i < g.l.length := by omega
  have e : decB (((Z2 g.l).getD i.toNat []).getD 2 0).toNat = ht (g.kid i).h := by rw [ZbU i0 hl]; rfl
  rw [e]
  obtain ⟨s1, ⟨s2, _⟩, s3⟩ := (Y4 _).1 tk
  have st := ZrC i0 hl hx
  have b1 : 0 <= ((ht (g.kid i).h).length : Int).tdiv 64 := Int.tdiv_nonneg (Int.natCast_nonneg _) (by omega)
  have b2 : ((ht (g.kid i).h).length : Int).tdiv 64 <= 144115188075855871 := by rw [Int.tdiv_eq_ediv_of_nonneg (Int.natCast_nonneg _)]; omega
  generalize ((ht (g.kid i).h).length : Int).tdiv 64 = t at *
  refine ⟨by omega, by omega, hl, ⟨by omega, by omega⟩, ⟨by omega, by omega⟩, ⟨by omega, by omega⟩, by omega, by omega, by omega, fun q1 q2 => ⟨⟨by omega, by omega⟩, by omega, by omega, by omega, by omega, ?_, trivial⟩⟩
  rw [<- st]; exact hw
 ·rw [ZuW hx] at hw
  rw [<- hw]; exact ⟨x0, x1, rfl, trivial⟩
 ·rw [List.drop_eq_nil_of_le (by omega)] at hw
  rw [show wgs [] x = x by unfold wgs; rfl] at hw
  rw [<- hw]; exact ⟨x0, x1, rfl, trivial⟩
theorem ZtV (S : Sig Nd) (hS : TaSig S) : ZG S Tryz.prog 26 weiC := ZeO S (me := dpX (gA 2)) (by decide) (by decide) (ZxN ..) fun n IH => Zw3 S hS n IH
end
end Go.Proofs.YtlmkcakhhbckhaaGreatDoor
namespace Go.Cx
noncomputable section
/-! ### Kinds by number -/
def kc : Nat -> IntKind
 | 0 => .i8 | 1 => .i16 | 2 => .i32 | 3 => .i64 | 4 => .u8 | 5 => .u16 | 6 => .u32 | _ => .u64
def kn : IntKind -> Nat
 | .i8 => 0 | .i16 => 1 | .i32 => 2 | .i64 => 3 | .u8 => 4 | .u16 => 5 | .u32 => 6 | .u64 => 7
def hiN : Nat -> Nat
 | 0 => 127 | 1 => 32767 | 2 => 2147483647 | 3 => 9223372036854775807 | 4 => 255 | 5 => 65535 | 6 => 4294967295 | _ => 18446744073709551615
def loN : Nat -> Nat
 | 0 => 128 | 1 => 32768 | 2 => 2147483648 | 3 => 9223372036854775808 | _ => 0
def fits (k : Nat) (n : Int) : Bool := match n with | .ofNat m => Nat.ble m (hiN k) | .negSucc m => Nat.blt m (loN k)
def Zel (k : Nat) (n : Int) : Int := bif fits k n then n else (kc k).wrap n
/-! ### Two types: bytes, strings.Builder -/
def u8T : Nat := 5
def ZwJ : Nat := 66
/-! ### Values -/
inductive CV where
 | int (k : Nat) (n : Int) | bool (b : Bool) | str (l n : Nat)
 | ptr (b o : Nat) | nilp
 | slice (b o s l k : Nat) (ex : Bool) | nils
 | map (b : Nat) | nilm
 | fn (f : Nat) (first caps : List CV) | mth (name : String) (recv : CV) | yld (l : Nat) | nilf
 | ifc (t : Nat) (v : CV) | nili
 | agg (cs : List CV) | tup (vs : List CV)
 | junk
 deriving Inhabited
structure Ent where
 key : CV
 val : CV
 born : Nat
 deriving Inhabited
/-! ### Eight places -/
structure O (α : Type) where
 c0 : α
 c1 : α
 c2 : α
 c3 : α
 c4 : α
 c5 : α
 c6 : α
 c7 : α
def sel {α : Type} (c0 c1 c2 c3 c4 c5 c6 c7 : α) (d : Nat) : α :=
 @Nat.rec (fun _ => α) c0 (fun d _ => @Nat.rec (fun _ => α) c1 (fun d _ => @Nat.rec (fun _ => α) c2 (fun d _ => @Nat.rec (fun _ => α) c3 (fun d _ =>
  @Nat.rec (fun _ => α) c4 (fun d _ => @Nat.rec (fun _ => α) c5 (fun d _ => @Nat.rec (fun _ => α) c6 (fun _ _ => c7) d) d) d) d) d) d) d
def og {α : Type} (o : O α) (d : Nat) : α := @O.rec α (fun _ => α) (fun c0 c1 c2 c3 c4 c5 c6 c7 => sel c0 c1 c2 c3 c4 c5 c6 c7 d) o
def os {α : Type} (f : α -> α) (o : O α) (d : Nat) : O α :=
 @O.rec α (fun _ => O α) (fun c0 c1 c2 c3 c4 c5 c6 c7 => sel ⟨f c0, c1, c2, c3, c4, c5, c6, c7⟩ ⟨c0, f c1, c2, c3, c4, c5, c6, c7⟩ ⟨c0, c1, f c2, c3, c4, c5, c6, c7⟩ ⟨c0, c1, c2, f c3, c4, c5, c6, c7⟩
  ⟨c0, c1, c2, c3, f c4, c5, c6, c7⟩ ⟨c0, c1, c2, c3, c4, f c5, c6, c7⟩ ⟨c0, c1, c2, c3, c4, c5, f c6, c7⟩ ⟨c0, c1, c2, c3, c4, c5, c6, f c7⟩ d) o
def oe {α : Type} (a : α) : O α := ⟨a, a, a, a, a, a, a, a⟩
structure F where
 n : Nat
 o : O (O (O CV))
def F0 (n : Nat) : F := ⟨n, oe (oe (oe .junk))⟩
def ZcA (f : F) (i : Nat) : CV := @F.rec (fun _ => CV) (fun _ o => og (og (og o (i / 64)) (i / 8 % 8)) (i % 8)) f
def Zm7 (f : F) (i : Nat) (v : CV) : F := @F.rec (fun _ => F) (fun n o => ⟨n, os (fun g => os (fun h => os (fun _ => v) h (i % 8)) g (i / 8 % 8)) o (i / 64)⟩) f
def ZjF (f : F) (i : Nat) (v : CV) : F := @F.rec (fun _ => F) (fun n o => bif Nat.blt i n then ⟨n, os (fun g => os (fun h => os (fun _ => v) h (i % 8)) g (i / 8 % 8)) o (i / 64)⟩ else ⟨n, o⟩) f
def fg (f : F) (i : Nat) : CV := @F.rec (fun _ => CV) (fun n o => bif Nat.blt i n then og (og (og o (i / 64)) (i / 8 % 8)) (i % 8) else .junk) f
def ZM : Nat := 511
inductive Ck where
 | no
 | cells (cs : List CV)
 | bytes (l n : Nat)
 | map (es : List Ent) (clock : Nat)
 | iter (m since : Nat) (seen : List Nat) (stepped : Nat)
 | siter (l n pos : Nat)
 | iter0
 | dfr
 | loop (fn : Nat) (fr : F) (ps : List Nat) (assign body : Code) (db : Nat) (st : Nat) (pend : Option Code)
 | tcells (cs : List CV)
abbrev H := O (O (O (O (O Ck))))
def H0 : H := oe (oe (oe (oe (oe .no))))
def ZC (h : H) (i : Nat) : Ck := og (og (og (og (og h (i / 4096)) (i / 512 % 8)) (i / 64 % 8)) (i / 8 % 8)) (i % 8)
def YH (h : H) (i : Nat) (c : Ck) : H :=
 os (fun h => os (fun h => os (fun h => os (fun h => os (fun _ => c) h (i % 8)) h (i / 8 % 8)) h (i / 64 % 8)) h (i / 512 % 8)) h (i / 4096)
/-! ### Outcomes -/
structure Out where
 v : CV
 hp : H
 n : Nat
abbrev Res := Option (List Out)
def Res.cat (a b : Res) : Res := match a with | none => none | some l => (match b with | none => none | some m => some (l ++ m))
/-! ### Bytes by number: the first byte is the lowest -/
def pw (l : Nat) : Nat := 2 ^ (8 * l)
def ZfN (n i : Nat) : Nat := (n / pw i) % 256
def ZhI (n lo len : Nat) : Nat := (n / pw lo) % pw len
def ZhJ (l1 n1 n2 : Nat) : Nat := n1 % pw l1 + n2 * pw l1
def ZsY (n lo len m l : Nat) : Nat := n % pw lo + (m % pw len) * pw lo + ((n / pw (lo + len)) % pw (l - (lo + len))) * pw (lo + len)
def Zcz : List UInt8 -> Nat
 | [] => 0
 | x :: l => x.toNat + 256 * Zcz l
def Zfd (n : Nat) : Nat -> List CV
 | 0 => []
 | l + 1 => .int 4 (.ofNat (n % 256)) :: Zfd (n / 256) l
def Zl9 : CV -> Option Nat
 | .int 4 (.ofNat m) => bif Nat.ble m 255 then some m else none
 | _ => none
def Zfm : List CV -> Option Nat
 | [] => some 0
 | c :: l => (match Zl9 c with | some x => (match Zfm l with | some y => some (x + 256 * y) | none => none) | none => none)
def YP : Nat -> Nat -> Nat -> Nat -> Bool  -- is (l1, n1) less than (l2, n2)
 | _, 0, _, _ => false
 | 0, _ + 1, _, _ => true
 | l1 + 1, l2 + 1, n1, n2 => bif Nat.blt (n1 % 256) (n2 % 256) then true else bif Nat.beq (n1 % 256) (n2 % 256) then YP l1 l2 (n1 / 256) (n2 / 256) else false
/-! ### Lists -/
def Zl6 : List CV -> Nat -> Option CV
 | [], _ => none
 | c :: _, 0 => some c
 | _ :: l, i + 1 => Zl6 l i
def Zcj : Nat -> List CV -> Option (List CV)
 | 0, _ => some []
 | _ + 1, [] => none
 | n + 1, c :: l => (match Zcj n l with | some r => some (c :: r) | none => none)
def Zdi : Nat -> List CV -> List CV
 | 0, l => l
 | _ + 1, [] => []
 | n + 1, _ :: l => Zdi n l
def Zmz (cs : List CV) : Nat -> List CV -> Option (List CV)
 | 0, l => some (cs ++ Zdi cs.length l)
 | _ + 1, [] => none
 | o + 1, c :: l => (match Zmz cs o l with | some r => some (c :: r) | none => none)
def Zek : List CV -> List CV -> Option (List CV)
 | [], l => some l
 | _ :: _, [] => none
 | c :: cs, _ :: l => (match Zek cs l with | some r => some (c :: r) | none => none)
def ZhC (cs : List CV) : Nat -> List CV -> Option (List CV)
 | 0, l => Zek cs l
 | _ + 1, [] => none
 | o + 1, c :: l => (match ZhC cs o l with | some r => some (c :: r) | none => none)
def ZrE (cs : List CV) : Nat -> List CV
 | 0 => []
 | n + 1 => cs ++ ZrE cs n
/-! ### Equality (the letters) -/
def ibq : Int -> Int -> Bool
 | .ofNat a, .ofNat b => Nat.beq a b
 | .negSucc a, .negSucc b => Nat.beq a b
 | _, _ => false
def bbq : Bool -> Bool -> Bool
 | true, true => true | false, false => true | _, _ => false
mutual
def CV.bq : CV -> CV -> Bool
 | .int k a, .int j b => bif Nat.beq k j then ibq a b else false
 | .bool a, .bool b => bbq a b
 | .str l n, .str k m => bif Nat.beq l k then Nat.beq n m else false
 | .ptr b o, .ptr c p => bif Nat.beq b c then Nat.beq o p else false
 | .nilp, .nilp => true
 | .slice b o s l k e, .slice b' o' s' l' k' e' => bif Nat.beq b b' then (bif Nat.beq o o' then (bif Nat.beq s s' then (bif Nat.beq l l' then (bif Nat.beq k k' then bbq e e' else false) else false) else false) else false) else false
 | .nils, .nils => true
 | .map b, .map c => Nat.beq b c
 | .nilm, .nilm => true
 | .fn f l l', .fn g m m' => bif Nat.beq f g then (bif CVs.bq l m then CVs.bq l' m' else false) else false
 | .mth a v, .mth b w => bif a == b then CV.bq v w else false
 | .yld a, .yld b => Nat.beq a b
 | .nilf, .nilf => true
 | .ifc t v, .ifc u w => bif Nat.beq t u then CV.bq v w else false
 | .nili, .nili => true
 | .agg l, .agg m => CVs.bq l m
 | .tup l, .tup m => CVs.bq l m
 | _, _ => false
def CVs.bq : List CV -> List CV -> Bool
 | [], [] => true
 | a :: l, b :: m => bif CV.bq a b then CVs.bq l m else false
 | _, _ => false
end
def Ents.bq : List Ent -> List Ent -> Bool
 | [], [] => true
 | a :: l, b :: m => bif Nat.beq a.born b.born then (bif CV.bq a.key b.key then (bif CV.bq a.val b.val then Ents.bq l m else false) else false) else false
 | _, _ => false
def nats : List Nat -> List Nat -> Bool
 | [], [] => true
 | a :: l, b :: m => bif Nat.beq a b then nats l m else false
 | _, _ => false
def Ck.bq : Ck -> Ck -> Bool
 | .cells l, .cells m => CVs.bq l m
 | .bytes l n, .bytes k m => bif Nat.beq l k then Nat.beq n m else false
 | .map l c, .map m d => bif Nat.beq c d then Ents.bq l m else false
 | .iter a b c d, .iter a' b' c' d' => bif Nat.beq a a' then (bif Nat.beq b b' then (bif nats c c' then Nat.beq d d' else false) else false) else false
 | .siter a b c, .siter a' b' c' => bif Nat.beq a a' then (bif Nat.beq b b' then Nat.beq c c' else false) else false
 | .iter0, .iter0 => true
 | .dfr, .dfr => true
 | .no, .no => true
 | .tcells l, .tcells m => CVs.bq l m
 | _, _ => false
/-! ### Is a value told wholly? -/
mutual
def CV.det : CV -> Bool
 | .slice _ _ s _ k ex => bif ex then true else (bif Nat.ble 1 k then Nat.ble 1 s else false)
 | .fn _ a b => bif CVs.det a then CVs.det b else false
 | .mth _ v => CV.det v
 | .ifc _ v => CV.det v
 | .agg l => CVs.det l
 | .tup l => CVs.det l
 | .junk => false
 | .int _ _ => true
 | .bool _ => true
 | .str _ _ => true
 | .ptr _ _ => true
 | .nilp => true
 | .nils => true
 | .map _ => true
 | .nilm => true
 | .yld _ => true
 | .nilf => true
 | .nili => true
def CVs.det : List CV -> Bool
 | [] => true
 | a :: l => bif CV.det a then CVs.det l else false
end
/-! ### What several outcomes have in common -/
def Ck.meet (a b : Ck) : Ck := bif Ck.bq a b then a else .no
def om {α : Type} (f : α -> α -> α) (a b : O α) : O α := ⟨f a.c0 b.c0, f a.c1 b.c1, f a.c2 b.c2, f a.c3 b.c3, f a.c4 b.c4, f a.c5 b.c5, f a.c6 b.c6, f a.c7 b.c7⟩
def H.meet (a b : H) : H := om (om (om (om (om Ck.meet)))) a b
def CV.meet1 (a b : CV) : CV := bif CV.bq a b then a else .junk
def CVs.meet : List CV -> List CV -> List CV
 | a :: l, b :: m => CV.meet1 a b :: CVs.meet l m
 | _, _ => []
def CV.meet (a b : CV) : CV :=
 match a, b with
 | .tup l, .tup m => bif Nat.beq l.length m.length then .tup (CVs.meet l m) else .junk
 | a, b => CV.meet1 a b
def Out.meet (a b : Out) : Out := ⟨CV.meet a.v b.v, H.meet a.hp b.hp, bif Nat.ble a.n b.n then b.n else a.n⟩
def meets : Out -> List Out -> Out
 | o, [] => o
 | o, p :: l => meets (Out.meet o p) l
end
end Go.Cx
namespace Go.Cx
noncomputable section
/-! ### The program's tables -/
def Zdu {α : Type} : List α -> Nat -> Option α
 | [], _ => none
 | a :: _, 0 => some a
 | _ :: l, i + 1 => Zdu l i
def ZmG {α : Type} : Nat -> List α -> List α
 | 0, l => l
 | _ + 1, [] => []
 | n + 1, _ :: l => ZmG n l
def blk {α : Type} (l : List α) : Nat -> List α
 | 0 => l
 | j + 1 => ZmG 64 (blk l j)
def ZvE {α : Type} (l : List α) (i : Nat) : Option α := Zdu (blk l (i / 64)) (i % 64)
def tyI (P : Program) (t : Nat) : Option TypeInfo := ZvE P.types.toList t
def tyD (P : Program) (t : Nat) : Option TypeDesc :=
 match tyI P t with
 | some i => (match i.desc with
  | .named _ u => (match tyI P u with | some j => some j.desc | none => none)
  | d => some d)
 | none => none
def Zfl (P : Program) (t : Nat) : Option Nat := match tyI P t with | some i => some i.size | none => none
def ZqT : TypeDesc -> Bool | .struct _ => true | .array _ _ => true | _ => false
def tyA (P : Program) (t : Nat) : Option (Bool × Nat) :=
 match tyD P t with | some d => (match Zfl P t with | some n => some (ZqT d, n) | none => none) | none => none
def ZdI (P : Program) (t : Nat) : Bool := bif Nat.beq t u8T then (match tyD P t with | some (.int .u8) => true | _ => false) else false
/-! ### Constants -/
def ZkM : Value -> CV
 | .bool b => .bool b
 | .int k n => .int (kn k) n
 | .string s => .str s.data.toList.length (Zcz s.data.toList)
 | .pointer none => .nilp
 | .slice none 0 0 => .nils
 | .map none => .nilm
 | .nilFunc => .nilf
 | .nilIface => .nili
 | _ => .junk
def Zgn : List Value -> List CV
 | [] => []
 | v :: l => ZkM v :: Zgn l
def ZrG (v : Value) : CV := match v with | .agg cs => .agg (Zgn cs.toList) | v => ZkM v
def Zi9 (P : Program) (t : Nat) : Option (List CV) :=
 match tyI P t with | some i => (match i.zero with | some z => some (Zgn z.cells.toList) | none => none) | none => none
def ZgD (P : Program) (t : Nat) : Option CV :=
 match tyI P t with | some i => (match i.zero with | some z => some (ZrG z) | none => none) | none => none
def lk (fr : F) : Operand -> CV
 | .tmp t => fg fr t
 | .const v => ZrG v
 | .global _ => .junk
 | .func f => .fn f [] []
def lks (fr : F) : List Operand -> List CV
 | [] => []
 | x :: l => lk fr x :: lks fr l
/-! ### Memory -/
def ZoR : CV -> Bool
 | .agg _ => false | .tup _ => false | .junk => false | _ => true
def ZbE : List CV -> Bool
 | [] => true
 | c :: l => bif ZoR c then ZbE l else false
def rd1 (hp : H) (b o : Nat) : Option CV :=
 match ZC hp b with
 | .cells cs => Zl6 cs o
 | .bytes l n => bif Nat.blt o l then some (.int 4 (.ofNat (ZfN n o))) else none
 | .tcells cs => Zl6 cs o
 | _ => none
def rdN (hp : H) (b o n : Nat) : Option (List CV) :=
 match ZC hp b with
 | .cells cs => Zcj n (Zdi o cs)
 | .bytes l m => bif Nat.ble (o + n) l then some (Zfd (m / pw o) n) else none
 | .tcells cs => Zcj n (Zdi o cs)
 | _ => none
def wrN (hp : H) (b o : Nat) (cs : List CV) : Option H :=
 match ZC hp b with
 | .cells old => bif ZbE cs then (match ZhC cs o old with | some new => some (YH hp b (.cells new)) | none => none) else none
 | .bytes l m => bif Nat.ble (o + cs.length) l then (match Zfm cs with | some x => some (YH hp b (.bytes l (ZsY m o cs.length x l))) | none => none) else none
 | .tcells old => bif ZbE cs then (match ZhC cs o old with | some new => some (YH hp b (.tcells new)) | none => none) else none
 | _ => none
def cellsOf : CV -> List CV
 | .agg cs => cs
 | v => [v]
def Zrp (name : String) : List Method -> Option Method
 | [] => none
 | m :: l => bif m.name == name then some m else Zrp name l
def ZaD (P : Program) (t : Nat) (name : String) : Option Nat :=
 match tyI P t with
 | some i => (match Zrp name i.methods.toList with
  | some m => (match m.path.toList, m.func, tyD P t with
   | [], some (f, true), some (.pointer _) => some f
   | [], some (f, false), some (.pointer _) => none
   | [], some (f, false), some _ => some f
   | _, _, _ => none)
  | none => none)
 | none => none
/-! ### Quiet operations -/
section
variable (P : Program) (fr : F) (hp : H)
def Zj5 (t : Nat) (a : Operand) (k : CV -> Res) : Res :=
 match lk fr a with
 | .ptr b o => (match tyA P t with
  | some (true, n) => (match rdN hp b o n with | some cs => k (.agg cs) | none => none)
  | some (false, _) => (match rd1 hp b o with | some c => k c | none => none)
  | none => none)
 | _ => none
def Zni (c a b : Operand) (k : CV -> Res) : Res :=
 match lk fr c with
 | .bool true => k (lk fr a)
 | .bool false => k (lk fr b)
 | _ => none
def qNil (x : Operand) (k : CV -> Res) : Res :=
 match lk fr x with
 | .nilp => none | .nili => none | .nilf => none | .junk => none
 | .mth name v => (match v with
  | .ifc t u => (match ZaD P t name with | some _ => k (.mth name (.ifc t u)) | none => none)
  | _ => none)
 | v => k v
def Zmq (op : BinOp) (kd : Nat) (x y : Int) (k : CV -> Res) : Res :=
 match op with
 | .add => k (.int kd (Zel kd (x + y)))
 | .sub => k (.int kd (Zel kd (x - y)))
 | .mul => k (.int kd (Zel kd (x * y)))
 | .quo => bif ibq y 0 then none else k (.int kd (Zel kd (x.tdiv y)))
 | .rem => bif ibq y 0 then none else k (.int kd (x.tmod y))
 | .and => k (.int kd ((kc kd).wrap (BitVec.ofInt (kc kd).bits x &&& BitVec.ofInt (kc kd).bits y).toNat))
 | .or => k (.int kd ((kc kd).wrap (BitVec.ofInt (kc kd).bits x ||| BitVec.ofInt (kc kd).bits y).toNat))
 | .xor => k (.int kd ((kc kd).wrap (BitVec.ofInt (kc kd).bits x ^^^ BitVec.ofInt (kc kd).bits y).toNat))
 | .andNot => k (.int kd ((kc kd).wrap (BitVec.ofInt (kc kd).bits x &&& ~~~ (BitVec.ofInt (kc kd).bits y)).toNat))
 | .eql => k (.bool (ibq x y))
 | .neq => k (.bool (!(ibq x y)))
 | .lss => k (.bool (decide (x < y)))
 | .leq => k (.bool (decide (x <= y)))
 | .gtr => k (.bool (decide (y < x)))
 | .geq => k (.bool (decide (y <= x)))
 | _ => none
def shOp (op : BinOp) (kd : Nat) (x y : Int) (k : CV -> Res) : Res :=
 match y with
 | .negSucc _ => none
 | .ofNat m => (match op with
  | .shl => k (.int kd (Zel kd (x * 2 ^ (min m (kc kd).bits))))
  | .shr => k (.int kd (x.fdiv (2 ^ (min m (kc kd).bits))))
  | _ => none)
def Zvh (op : BinOp) (l n l' n' : Nat) (k : CV -> Res) : Res :=
 match op with
 | .add => bif Nat.ble (l + l') 4611686018427387904 then k (.str (l + l') (ZhJ l n n')) else none
 | .eql => k (.bool (bif Nat.beq l l' then Nat.beq (n % pw l) (n' % pw l) else false))
 | .neq => k (.bool (!(bif Nat.beq l l' then Nat.beq (n % pw l) (n' % pw l) else false)))
 | .lss => k (.bool (YP l l' n n'))
 | .geq => k (.bool (!(YP l l' n n')))
 | .gtr => k (.bool (YP l' l n' n))
 | .leq => k (.bool (!(YP l' l n' n)))
 | _ => none
def Zff (P : Program) (d : TypeDesc) (a b : CV) : Option Bool :=
 match d with
 | .int _ => (match a, b with | .int k x, .int j y => bif Nat.beq k j then some (ibq x y) else none | _, _ => none)
 | .bool => (match a, b with | .bool x, .bool y => some (bbq x y) | _, _ => none)
 | .string => (match a, b with | .str l n, .str l' n' => some (bif Nat.beq l l' then Nat.beq (n % pw l) (n' % pw l) else false) | _, _ => none)
 | .pointer e => (match a, b with
  | .nilp, .nilp => some true
  | .nilp, .ptr _ _ => some false
  | .ptr _ _, .nilp => some false
  | .ptr b o, .ptr b' o' => (match Zfl P e with
   | some (_ + 1) => bif Nat.beq b b' then some (Nat.beq o o') else (match ZC hp b with
    | .cells _ => (match ZC hp b' with | .cells _ => some false | _ => none)
    | _ => none)
   | _ => none)
  | _, _ => none)
 | .slice _ => (match a, b with
  | .nils, .nils => some true
  | .nils, .slice .. => some false
  | .slice .., .nils => some false
  | _, _ => none)
 | .map _ _ => (match a, b with
  | .nilm, .nilm => some true
  | .nilm, .map _ => some false
  | .map _, .nilm => some false
  | _, _ => none)
 | .func _ _ _ => (match a, b with
  | .nilf, .nilf => some true
  | .nilf, .fn _ _ _ => some false
  | .nilf, .mth _ _ => some false
  | .nilf, .yld _ => some false
  | .fn _ _ _, .nilf => some false
  | .mth _ _, .nilf => some false
  | .yld _, .nilf => some false
  | _, _ => none)
 | .interface _ => (match a, b with
  | .nili, .nili => some true
  | .nili, .ifc _ _ => some false
  | .ifc _ _, .nili => some false
  | .ifc t x, .ifc u y => bif Nat.beq t u then none else some false
  | _, _ => none)
 | _ => none
def ZlV (P : Program) (x y : List CV) : List Field -> Option Bool
 | [] => some true
 | f :: fs => bif f.name == "_" then none else (match tyD P f.type with
  | some d => bif ZqT d then none else (match Zl6 x f.offset, Zl6 y f.offset with
   | some a, some b => (match Zff hp P d a b with
    | some true => ZlV P x y fs
    | some false => some false
    | none => none)
   | _, _ => none)
  | none => none)
def Zh8 (t : Nat) (a b : CV) : Option Bool :=
 match tyD P t with
 | some d => (match d with
  | .struct fs => (match a, b with
   | .agg x, .agg y => bif (bif P.stoodInHeld t then false else !(P.eqGuardType P.depth t)) then ZlV hp P x y fs.toList else none
   | _, _ => none)
  | d => Zff hp P d a b)
 | none => none
def Ze1 : Operand -> Bool | .const _ => true | _ => false
def Zl1 (x y : Operand) (a b : CV) : Bool :=
 match a, b with | .nili, .nili => (bif Ze1 x then false else !(Ze1 y)) | _, _ => false
def Zr7 (op : BinOp) (t : Nat) (x y : Operand) (k : CV -> Res) : Res :=
 match lk fr x, lk fr y with
 | .int kd a, .int kd' b => (match op with
  | .shl => shOp .shl kd a b k
  | .shr => shOp .shr kd a b k
  | op => bif Nat.beq kd kd' then Zmq op kd a b k else none)
 | .str l n, .str l' n' => Zvh op l n l' n' k
 | a, b => bif Zl1 x y a b then none else (match op with
  | .eql => (match Zh8 P hp t a b with | some r => k (.bool r) | none => none)
  | .neq => (match Zh8 P hp t a b with | some r => k (.bool (!r)) | none => none)
  | _ => none)
def qUn (op : UnOp) (x : Operand) (k : CV -> Res) : Res :=
 match op, lk fr x with
 | .not, .bool b => k (.bool (!b))
 | .neg, .int kd n => k (.int kd (Zel kd (0 - n)))
 | .xor, .int kd n => k (.int kd ((kc kd).wrap (BitVec.ofInt (kc kd).bits (if (kc kd).signed then -1 else (kc kd).max) ^^^ BitVec.ofInt (kc kd).bits n).toNat))
 | _, _ => none
def Zmx (src dst : Nat) (x : Operand) (k : CV -> Res) : Res :=
 match tyD P dst, lk fr x with
 | some (.int kd), .int _ n => (match tyD P src with | some _ => k (.int (kn kd) (Zel (kn kd) n)) | none => none)
 | some .string, .str l n => (match tyD P src with | some _ => k (.str l n) | none => none)
 | some .string, .nils => (match tyD P src with | some (.slice e) => bif ZdI P e then k (.str 0 0) else none | _ => none)
 | some .string, .slice b o s l kk ex => (match tyD P src with
  | some (.slice e) => bif ZdI P e then (match ZC hp b with
   | .bytes m n => bif Nat.beq l 0 then k (.str 0 0) else bif Nat.ble (o + l) m then k (.str l (ZhI n o l)) else none
   | _ => none) else none
  | _ => none)
 | _, _ => none
def ZfE (s : Nat) (x : Operand) (f : Nat) (k : CV -> Res) : Res :=
 match lk fr x with
 | .ptr b o => (match tyD P s with
  | some (.struct fs) => (match Zdu fs.toList f with
   | some fd => (match Zfl P fd.type with | some (_ + 1) => k (.ptr b (o + fd.offset)) | _ => none)
   | none => none)
  | _ => none)
 | _ => none
def part (t : Nat) (cs : List CV) (off : Nat) (k : CV -> Res) : Res :=
 match tyA P t with
 | some (true, n) => (match Zcj n (Zdi off cs) with | some r => k (.agg r) | none => none)
 | some (false, _) => (match Zl6 cs off with | some c => k c | none => none)
 | none => none
def Zl4 (t : Nat) (x : Operand) (f : Nat) (k : CV -> Res) : Res :=
 match lk fr x with
 | .agg cs => (match tyD P t with
  | some (.struct fs) => (match Zdu fs.toList f with | some fd => part P fd.type cs fd.offset k | none => none)
  | _ => none)
 | _ => none
def ZcL (t : Nat) (x ix : Operand) (k : CV -> Res) : Res :=
 match lk fr ix with
 | .int _ (.ofNat i) => (match lk fr x with
  | .slice b o s l kk ex => (match tyD P t with
   | some (.slice e) => bif Nat.blt i l then (match Zfl P e with | some (n + 1) => bif Nat.beq s (n + 1) then k (.ptr b (o + i * s)) else none | _ => none) else none
   | _ => none)
  | .ptr b o => (match tyD P t with
   | some (.array m e) => bif Nat.blt i m then (match Zfl P e with | some (n + 1) => k (.ptr b (o + i * (n + 1))) | _ => none) else none
   | _ => none)
  | _ => none)
 | _ => none
def ZkV (t : Nat) (x ix : Operand) (k : CV -> Res) : Res :=
 match lk fr ix with
 | .int _ (.ofNat i) => (match lk fr x with
  | .str l n => (match tyD P t with | some .string => bif Nat.blt i l then k (.int 4 (.ofNat (ZfN n i))) else none | _ => none)
  | .agg cs => (match tyD P t with
   | some (.array m e) => bif Nat.blt i m then (match Zfl P e with | some s => part P e cs (i * s) k | none => none) else none
   | _ => none)
  | _ => none)
 | _ => none
def Zsm : Option Operand -> Option (Option Nat)
 | none => some none
 | some x => (match lk fr x with | .int _ (.ofNat n) => some (some n) | _ => none)
def orN (d : Nat) : Option Nat -> Nat | some n => n | none => d
def ZkS (t : Nat) (x : Operand) (lo hi mx : Option Operand) (k : CV -> Res) : Res :=
 match Zsm fr lo with
 | none => none
 | some lo => (match Zsm fr hi with
  | none => none
  | some hi => (match Zsm fr mx with
   | none => none
   | some mx => (match lk fr x with
    | .str l n => (match tyD P t with
     | some .string => (match mx with
      | none => bif Nat.ble (orN l hi) l then (bif Nat.ble (orN 0 lo) (orN l hi) then k (.str (orN l hi - orN 0 lo) (ZhI n (orN 0 lo) (orN l hi - orN 0 lo))) else none) else none
      | _ => none)
     | _ => none)
    | .nils => (match tyD P t with
     | some (.slice e) => (match Zfl P e with
      | some _ => (match mx with
       | some _ => none
       | none => bif Nat.beq (orN 0 hi) 0 then (bif Nat.beq (orN 0 lo) 0 then k .nils else none) else none)
      | none => none)
     | _ => none)
    | .ptr b o => (match tyD P t with
     | some (.array m e) => (match Zfl P e with
      | some sz => (match mx with
       | some _ => none
       | none => bif Nat.ble (orN m hi) m then (bif Nat.ble (orN 0 lo) (orN m hi) then (match ZC hp b with
        | .cells cs => bif Nat.ble (o + m * sz) cs.length then k (.slice b (bif Nat.beq (orN 0 lo) m then o else o + orN 0 lo * sz) sz (orN m hi - orN 0 lo) (m - orN 0 lo) true) else none
        | _ => none) else none) else none)
      | none => none)
     | _ => none)
    | .slice b o s l c ex => (match tyD P t with
     | some (.slice e) => (match Zfl P e with
      | some sz => bif Nat.beq sz s then
       (match mx with
       | none => bif Nat.ble (orN l hi) c then (bif Nat.ble (orN 0 lo) (orN l hi) then
         k (.slice b (bif Nat.beq (orN 0 lo) c then o else o + orN 0 lo * s) s (orN l hi - orN 0 lo) (c - orN 0 lo) ex) else none) else none
       | some m => (match hi with
        | none => none
        | some h => bif (bif Nat.ble 1 c then true else ex) then bif Nat.ble m c then (bif Nat.ble h m then (bif Nat.ble (orN 0 lo) h then
          k (.slice b (bif Nat.beq (orN 0 lo) m then o else o + orN 0 lo * s) s (h - orN 0 lo) (m - orN 0 lo) true) else none) else none) else none else none)) else none
      | none => none)
     | _ => none)
    | _ => none)))
def Zdd (t : Operand) (ix : Nat) (k : CV -> Res) : Res :=
 match lk fr t with
 | .tup vs => (match Zl6 vs ix with | some v => k v | none => none)
 | _ => none
def ZlW (t : Nat) (x : Operand) (k : CV -> Res) : Res :=
 match tyD P t with
 | some (.interface _) => none
 | some _ => (match lk fr x with | .junk => none | v => k (.ifc t v))
 | none => none
def ZlF (fn : Fn) (first captured : Array Operand) (k : CV -> Res) : Res :=
 match fn with
 | .func f => k (.fn f (lks fr first.toList) (lks fr captured.toList))
 | .method name => (match first.toList, captured.toList with
  | [x], [] => (match lk fr x with | .ifc t v => k (.mth name (.ifc t v)) | _ => none)
  | _, _ => none)
 | _ => none
/-! maps -/
def ZkI : CV -> CV -> Option Bool
 | .int k a, .int j b => bif Nat.beq k j then some (ibq a b) else none
 | .bool a, .bool b => some (bbq a b)
 | .str l n, .str l' n' => some (bif Nat.beq l l' then Nat.beq (n % pw l) (n' % pw l) else false)
 | _, _ => none
def Zg9 (x : CV) : List Ent -> Nat -> Option (Option (Nat × CV))
 | [], _ => some none
 | e :: es, i => (match ZkI x e.key with
  | some true => some (some (i, e.val))
  | some false => Zg9 x es (i + 1)
  | none => none)
def ZdN (P : Program) (t : Nat) (x : CV) : Bool :=
 match tyD P t, x with
 | some (.int _), .int _ _ => true
 | some .string, .str _ _ => true
 | some .bool, .bool _ => true
 | some (.pointer _), .ptr _ _ => true
 | _, _ => false
def Zow (hp : H) (x : CV) : Option (List Ent) :=
 match x with
 | .nilm => some []
 | .map b => (match ZC hp b with | .map es _ => some es | _ => none)
 | _ => none
def Zrc (t : Nat) (x ix : Operand) (ok : Bool) (k : CV -> Res) : Res :=
 match tyD P t with
 | some (.map kt et) => bif ZdN P kt (lk fr ix) then
   (match Zow hp (lk fr x) with
   | some es => (match Zg9 (lk fr ix) es 0 with
    | some (some (_, v)) => k (bif ok then .tup [v, .bool true] else v)
    | some none => (match ZgD P et with
     | some v => k (bif ok then .tup [v, .bool false] else v)
     | none => none)
    | none => none)
   | none => none) else none
 | _ => none
def Zwo (x : CV) (t : Nat) (k : CV -> Res) : Res :=
 match tyD P t, x with
 | some .string, .str l _ => k (.int 3 (.ofNat l))
 | some (.slice _), .nils => k (.int 3 0)
 | some (.slice _), .slice _ _ _ l _ _ => k (.int 3 (.ofNat l))
 | some (.map _ _), .nilm => k (.int 3 0)
 | some (.map _ _), .map b => (match ZC hp b with | .map es _ => k (.int 3 (.ofNat es.length)) | _ => none)
 | some (.array n _), _ => k (.int 3 (.ofNat n))
 | _, _ => none
def qCap (x : CV) (t : Nat) (k : CV -> Res) : Res :=
 match tyD P t, x with
 | some (.slice _), .nils => k (.int 3 0)
 | some (.slice _), .slice _ _ _ _ c true => k (.int 3 (.ofNat c))
 | _, _ => none
def ZdJ (mx : Bool) (x y : CV) (k : CV -> Res) : Res :=
 match x, y with
 | .int kd a, .int kd' b => bif Nat.beq kd kd' then k (.int kd (bif mx then (if b > a then b else a) else (if b < a then b else a))) else none
 | _, _ => none
def ZjB (place : Nat -> Option (Nat × Nat)) (fr : F) : List (Nat × Operand) -> List CV -> Option (List CV)
 | [], cs => some cs
 | (i, x) :: rest, cs => (match place i with
  | some (off, size) => bif (match lk fr x with | .junk => false | v => Nat.beq (cellsOf v).length size) then
    (match ZhC (cellsOf (lk fr x)) off cs with | some cs' => ZjB place fr rest cs' | none => none) else none
  | none => none)
def ZeZ (fs : List Field) (i : Nat) : Option (Nat × Nat) :=
 match Zdu fs i with | some f => (match Zfl P f.type with | some n => some (f.offset, n) | none => none) | none => none
def ZqN : List Field -> Bool
 | [] => true
 | f :: l => (match Zfl P f.type with | some _ => ZqN l | none => false)
def Zk2 (t : Nat) (parts : Array (Nat × Operand)) (k : CV -> Res) : Res :=
 match Zi9 P t with
 | some z => (match tyD P t with
  | some (.struct fs) => bif ZqN P fs.toList then (match ZjB (ZeZ P fs.toList) fr parts.toList z with | some cs => k (.agg cs) | none => none) else none
  | some (.array _ e) => (match Zfl P e with
   | some s => (match ZjB (fun i => some (i * s, s)) fr parts.toList z with | some cs => k (.agg cs) | none => none)
   | none => none)
  | _ => none)
 | none => none
def ZgP (x : Operand) (xt t : Nat) (ok : Bool) (k : CV -> Res) : Res :=
 match tyD P t with
 | some (.interface want) => (match lk fr x with
  | .ifc d v => (match tyI P d with
   | some i => (match Instr.missingMethod want i.methods with
    | none => k (bif ok then .tup [.ifc d v, .bool true] else .ifc d v)
    | some _ => bif ok then (match ZgD P t with | some z => k (.tup [z, .bool false]) | none => none) else none)
   | none => none)
  | .nili => bif ok then (match ZgD P t with | some z => k (.tup [z, .bool false]) | none => none) else none
  | _ => none)
 | some d => (match lk fr x with
  | .ifc u v => bif Nat.beq u t then k (bif ok then .tup [v, .bool true] else v) else (bif ok then (match ZgD P t with | some v => k (.tup [v, .bool false]) | none => none) else none)
  | .nili => bif ok then (match ZgD P t with | some v => k (.tup [v, .bool false]) | none => none) else none
  | _ => none)
 | none => none
def Ziy (b : Builtin) (args : List Operand) (ts : List Nat) (k : CV -> Res) : Res :=
 match b, args, ts with
 | .len, [x], t :: _ => Zwo P hp (lk fr x) t k
 | .cap, [x], t :: _ => qCap P (lk fr x) t k
 | .max, [x, y], _ => ZdJ true (lk fr x) (lk fr y) k
 | .min, [x, y], _ => ZdJ false (lk fr x) (lk fr y) k
 | _, _, _ => none
def Zq8 (c : Call) (k : CV -> Res) : Res :=
 match c.callee with
 | .builtin b => Ziy P fr hp b c.args.toList c.argTypes.toList k
 | _ => none
def qev (o : Op) (k : CV -> Res) : Res :=
 match o with
 | .move x => (match lk fr x with | v => k v)
 | .assign x => k (lk fr x)
 | .pick c a b => Zni fr c a b k
 | .load t a => Zj5 P fr hp t a k
 | .nilCheck x => qNil P fr x k
 | .binOp op t x y _ => Zr7 P fr hp op t x y k
 | .unOp op _ x => qUn fr op x k
 | .convert s d x => Zmx P fr hp s d x k
 | .makeInterface t x => ZlW P fr t x k
 | .makeFunc fn a b => ZlF fr fn a b k
 | .slice t x lo hi mx => ZkS P fr hp t x lo hi mx k
 | .fieldAddr s x f => ZfE P fr s x f k
 | .field t x f => Zl4 P fr t x f k
 | .indexAddr t x ix => ZcL P fr t x ix k
 | .index t x ix => ZkV P fr t x ix k
 | .lookup t x ix ok => Zrc P fr hp t x ix ok k
 | .typeAssert x xt t ok => ZgP P fr x xt t ok k
 | .extract t ix => Zdd fr t ix k
 | .build t parts => Zk2 P fr t parts k
 | .call c => Zq8 P fr hp c k
 | _ => none
end
/-! ### Loud operations -/
abbrev KS := CV -> H -> Nat -> Res
section
variable (P : Program) (fr : F) (hp : H) (n : Nat)
def idN (n : Nat) : Nat := n % 1048576
def Yg (n : Nat) : Nat := n / 1048576
def mkN (lim id : Nat) : Nat := id + lim * 1048576
def Y9 (c : Ck) (v : Nat -> CV) (k : KS) : Res := bif Nat.blt (idN n) (Yg n) then k (v (idN n)) (YH hp (idN n) c) (n + 1) else none
def Zjz (cs : List CV) (k : KS) : Res := Y9 hp n (.cells cs) (fun i => .ptr i 0) k
def ZiC (t : Nat) (k : KS) : Res := match Zi9 P t with | some cs => (bif Nat.beq t ZwJ then Y9 hp n (.tcells cs) (fun i => .ptr i 0) k else Zjz hp n cs k) | none => none
def lBox (t : Nat) (x : Operand) (k : KS) : Res := match lk fr x with | .junk => none | v => Zjz hp n (cellsOf v) k
def Zdn (t : Nat) (a v : Operand) (k : KS) : Res :=
 match lk fr a with
 | .ptr b o => (match Zfl P t with
  | some sz => (match lk fr v with
   | .junk => none
   | v => bif Nat.beq (cellsOf v).length sz then (match wrN hp b o (cellsOf v) with | some hp' => k (.tup []) hp' n | none => none) else none)
  | none => none)
 | _ => none
def ZkA (P : Program) (e sz m : Nat) : Option Ck :=
 match Zi9 P e with
 | some z => bif Nat.beq z.length sz then (bif ZdI P e then (match z with
   | [c] => (match Zl9 c with | some 0 => some (.bytes m 0) | _ => none)
   | _ => none) else some (.cells (ZrE z m))) else none
 | none => none
def ZlU (t : Nat) (l c : Operand) (k : KS) : Res :=
 match lk fr l, lk fr c with
 | .int _ (.ofNat l), .int _ (.ofNat c) => bif Nat.ble l c then (match tyD P t with
  | some (.slice e) => (match tyI P e with
   | some i => bif Nat.ble c 140737488355328 then bif Nat.ble (i.bytes * c) 140737488355328 then (bif Nat.ble 1 i.size then (match ZkA P e i.size c with
    | some ck => Y9 hp n ck (fun b => .slice b 0 i.size l c true) k
    | none => none) else none) else none else none
   | none => none)
  | _ => none) else none
 | _, _ => none
def Zls (t : Nat) (r : Option Operand) (k : KS) : Res :=
 match tyD P t with
 | some (.map _ _) => (match r with
  | none => Y9 hp n (.map [] 0) (fun b => .map b) k
  | some x => (match lk fr x with | .int _ _ => Y9 hp n (.map [] 0) (fun b => .map b) k | _ => none))
 | _ => none
def ZhF (t len : Nat) (parts : Array (Nat × Operand)) (k : KS) : Res :=
 match tyD P t with
 | some (.slice e) => (match Zfl P e with
  | some s => bif Nat.ble 1 s then bif Nat.ble (len * s) 16777216 then (match Zi9 P e with
   | some z => bif Nat.beq z.length s then (match ZjB (fun i => some (i * s, s)) fr parts.toList (ZrE z len) with
    | some cs => bif ZdI P e then (match (bif Nat.beq s 1 then Zfm cs else none) with
      | some x => Y9 hp n (.bytes len x) (fun b => .slice b 0 1 len len true) k
      | none => none)
     else Y9 hp n (.cells cs) (fun b => .slice b 0 s len len true) k
    | none => none) else none
   | none => none) else none else none
  | none => none)
 | _ => none
def ZsI (x v : CV) (i : Nat) : List Ent -> List Ent
 | [] => []
 | e :: l => (match i with | 0 => ⟨x, v, e.born⟩ :: l | i + 1 => e :: ZsI x v i l)
def Ztm (i : Nat) : List Ent -> List Ent
 | [] => []
 | e :: l => (match i with | 0 => l | i + 1 => e :: Ztm i l)
def Zgd (t : Nat) (m x v : Operand) (k : KS) : Res :=
 match tyD P t with
 | some (.map kt _) => bif ZdN P kt (lk fr x) then (match lk fr m with
  | .map b => (match ZC hp b with
   | .map es clock => (match lk fr v with
    | .junk => none
    | v => (match Zg9 (lk fr x) es 0 with
     | some (some (i, _)) => k (.tup []) (YH hp b (.map (ZsI (lk fr x) v i es) clock)) n
     | some none => k (.tup []) (YH hp b (.map (es ++ [⟨lk fr x, v, clock⟩]) (clock + 1))) n
     | none => none))
   | _ => none)
  | _ => none) else none
 | _ => none
def ZkC (t : Nat) (m x : Operand) (k : KS) : Res :=
 match tyD P t with
 | some (.map kt _) => bif ZdN P kt (lk fr x) then (match lk fr m with
  | .nilm => k (.tup []) hp n
  | .map b => (match ZC hp b with
   | .map es clock => (match Zg9 (lk fr x) es 0 with
     | some (some (i, _)) => k (.tup []) (YH hp b (.map (Ztm i es) clock)) n
     | some none => k (.tup []) hp n
     | none => none)
   | _ => none)
  | _ => none) else none
 | _ => none
def ZmT (i : Nat) : List Ent -> Option Ent
 | [] => none
 | e :: l => (match i with | 0 => some e | i + 1 => ZmT i l)
def Zc0 (t : Nat) (m x : Operand) (k : KS) : Res :=
 match tyD P t with
 | some (.map kt et) => bif ZdN P kt (lk fr x) then (match lk fr m with
  | .map b => (match ZC hp b with
   | .map es clock => (match Zg9 (lk fr x) es 0 with
     | some (some (i, v)) => (match ZmT i es with
      | some e => k (.tup [v, .int 3 (.ofNat e.born)]) (YH hp b (.map (ZsI (lk fr x) v i es) clock)) n
      | none => none)
     | some none => (match ZgD P et with
      | some v => k (.tup [v, .int 3 (.ofNat clock)]) (YH hp b (.map (es ++ [⟨lk fr x, v, clock⟩]) (clock + 1))) n
      | none => none)
     | none => none)
   | _ => none)
  | _ => none) else none
 | _ => none
def Zlz (s : Nat) (v : CV) : List Ent -> Option (List Ent)
 | [] => none
 | e :: l => bif Nat.beq e.born s then some (⟨e.key, v, e.born⟩ :: l) else (match Zlz s v l with | some r => some (e :: r) | none => none)
def Zbo (m s v : Operand) (k : KS) : Res :=
 match lk fr m with
 | .map b => (match ZC hp b with
  | .map es clock => (match lk fr s with
   | .int _ (.ofNat st) => (match lk fr v with
    | .junk => none
    | v => (match Zlz st v es with | some es' => k (.tup []) (YH hp b (.map es' clock)) n | none => none))
   | _ => none)
  | _ => none)
 | _ => none
def ZlY (t : Nat) (x : Operand) (k : KS) : Res :=
 match tyD P t, lk fr x with
 | some .string, .str l m => Y9 hp n (.siter l m 0) (fun b => .ptr b 0) k
 | some (.map _ _), .nilm => Y9 hp n .iter0 (fun b => .ptr b 0) k
 | some (.map _ _), .map b => (match ZC hp b with
  | .map _ clock => Y9 hp n (.iter b clock [] clock) (fun b => .ptr b 0) k
  | _ => none)
 | _, _ => none
def has (x : Nat) : List Nat -> Bool
 | [] => false
 | a :: l => bif Nat.beq a x then true else has x l
def Zjb (seen : List Nat) : List Ent -> List Ent
 | [] => []
 | e :: l => bif has e.born seen then Zjb seen l else e :: Zjb seen l
def Zjp (since : Nat) : List Ent -> Bool
 | [] => true
 | e :: l => bif Nat.blt e.born since then Zjp since l else false
def Zp9 (f : Ent -> Res) : List Ent -> Res
 | [] => some []
 | [e] => f e
 | e :: l => Res.cat (f e) (Zp9 f l)
def Zq0 (x : Operand) (str : Bool) (k : KS) : Res :=
 match lk fr x with
 | .ptr r 0 => (match ZC hp r with
  | .iter m since seen stepped => bif str then none else (match ZC hp m with
   | .map es clock => bif (bif Nat.ble since stepped then Zjp since es else false) then (match Zjb seen es with
     | [] => k (.tup [.bool false]) hp n
     | c => Zp9 (fun e => k (.tup [.bool true, e.key, e.val]) (YH hp r (.iter m since (seen ++ [e.born]) clock)) n) c) else none
   | _ => none)
  | .iter0 => bif str then none else k (.tup [.bool false]) hp n
  | .siter l m pos => bif str then (bif Nat.blt pos l then (bif Nat.blt (ZfN m pos) 128 then
     k (.tup [.bool true, .int 3 (.ofNat pos), .int 2 (.ofNat (ZfN m pos))]) (YH hp r (.siter l m (pos + 1))) n else none)
    else k (.tup [.bool false]) hp n) else none
  | _ => none)
 | _ => none
def Zq4 : List Nat -> Option Nat
 | [] => none
 | [a] => some a
 | _ :: l => Zq4 l
def Zep (s : Nat) : List Ent -> Option Ent
 | [] => none
 | e :: l => bif Nat.beq e.born s then some e else Zep s l
def Zld (x : Operand) (k : KS) : Res :=
 match lk fr x with
 | .ptr r 0 => (match ZC hp r with
  | .iter m since seen stepped => (match ZC hp m with
   | .map es clock => bif Nat.beq clock stepped then (match Zq4 seen with
    | some s => (match Zep s es with | some e => k (.tup [e.key, e.val]) hp n | none => none)
    | none => none) else none
   | _ => none)
  | _ => none)
 | _ => none
/-! append, copy, clear -/
inductive Els where
 | cs (l : List CV)
 | bs (l n : Nat)
def Zdk (hp : H) (u8 : Bool) (s : Nat) (v : CV) (m : Nat) : Option Els :=
 match v with
 | .nils => bif Nat.beq m 0 then some (bif u8 then .bs 0 0 else .cs []) else none
 | .str l x => bif u8 then (bif Nat.ble m l then some (.bs m x) else none) else none
 | .slice b o s' l _ _ => bif Nat.beq s s' then (bif Nat.ble m l then (bif Nat.beq m 0 then some (bif u8 then .bs 0 0 else .cs []) else
   (bif u8 then (match ZC hp b with
    | .bytes k x => bif Nat.ble (o + m) k then some (.bs m (ZhI x o m)) else none
    | _ => none)
   else (match ZC hp b with
    | .cells cs => (match Zcj (m * s) (Zdi o cs) with | some r => some (.cs r) | none => none)
    | _ => none))) else none) else none
 | _ => none
def lenOf : CV -> Option Nat
 | .nils => some 0
 | .str l _ => some l
 | .slice _ _ _ l _ _ => some l
 | _ => none
def ZeI (hp : H) (b o : Nat) (e : Els) : Option H :=
 match e with
 | .cs l => (match ZC hp b with
  | .cells old => bif ZbE l then (match Zmz l o old with | some new => some (YH hp b (.cells new)) | none => none) else none
  | _ => none)
 | .bs l x => (match ZC hp b with
  | .bytes k y => bif Nat.ble o k then (bif Nat.ble (o + l) k then some (YH hp b (.bytes k (ZsY y o l x k))) else some (YH hp b (.bytes (o + l) (ZhJ o y (x % pw l))))) else none
  | _ => none)
def Zgw : Els -> Els -> Option Ck
 | .cs a, .cs b => some (.cells (a ++ b))
 | .bs l n, .bs l' n' => some (.bytes (l + l') (ZhJ l n n'))
 | _, _ => none
def elI (P : Program) (e : Nat) : Option TypeInfo :=
 match tyI P e with
 | some i => bif (bif Nat.ble 1 i.size then bif Nat.ble 1 i.bytes then (bif ZdI P e then Nat.beq i.size 1 else true) else false else false) then (match Zi9 P e with
  | some z => bif Nat.beq z.length i.size then some i else none
  | none => none) else none
 | none => none
def ZnD : Els -> Bool | .cs l => ZbE l | .bs _ _ => true
def ZkE (u8 : Bool) (c : Ck) : Bool := match c with | .cells _ => !u8 | .bytes _ _ => u8 | _ => false
def ZkD (t t2 : Nat) (d s : CV) (k : KS) : Res :=
 match tyD P t with
 | some (.slice e) => (match elI P e with
  | some i => (match tyD P t2 with
   | some (.int _) => none
   | some _ =>
    (match lenOf s with
    | some m => (match Zdk hp (ZdI P e) i.size s m with
     | some new => (match d with
      | .nils => bif Nat.beq m 0 then k .nils hp n else
        (match Zgw (bif ZdI P e then .bs 0 0 else .cs []) new with
        | some ck => bif Nat.ble (i.bytes * m) 70368744177664 then Y9 hp n ck (fun b => .slice b 0 i.size m m false) k else none
        | none => none)
      | .slice b o sz l c ex => bif Nat.beq sz i.size then
        (bif Nat.ble (l + m) c then (bif Nat.beq m 0 then k (.slice b o sz l c ex) hp n else
         (match ZeI hp b (o + l * sz) new with | some hp' => k (.slice b o sz (l + m) c ex) hp' n | none => none))
        else (match Zdk hp (ZdI P e) i.size d l with
         | some old => (match Zgw old new with
          | some ck => bif Nat.ble (i.bytes * (l + m)) 70368744177664 then
            (bif ex then Y9 hp n ck (fun b => .slice b 0 sz (l + m) (l + m) false) k
            else (bif (bif Nat.beq o 0 then (bif Nat.ble 1 c then (bif ZkE (ZdI P e) (ZC hp b) then ZnD new else false) else false) else false) then Y9 (YH hp b .no) n ck (fun b => .slice b 0 sz (l + m) (l + m) false) k else none)) else none
          | none => none)
         | none => none)) else none
      | _ => none)
     | none => none)
    | none => none)
   | none => none)
  | none => none)
 | _ => none
def Ztw (t : Nat) (d s : CV) (k : KS) : Res :=
 match tyD P t with
 | some (.slice e) => (match elI P e with
  | some i => (match lenOf s with
   | some m => (match lenOf d with
    | some l => (match (bif Nat.ble m l then m else l) with
     | 0 => (match d with | .nils => k (.int 3 0) hp n | .slice .. => k (.int 3 0) hp n | _ => none)
     | j => (match Zdk hp (ZdI P e) i.size s j with
      | some new => (match d with
       | .slice b o sz' _ _ _ => bif Nat.beq i.size sz' then (match ZeI hp b o new with | some hp' => k (.int 3 (.ofNat j)) hp' n | none => none) else none
       | _ => none)
      | none => none))
    | none => none)
   | none => none)
  | none => none)
 | _ => none
def Znn (t : Nat) (x : CV) (k : KS) : Res :=
 match tyD P t, x with
 | some (.map _ _), .nilm => k (.tup []) hp n
 | some (.map _ _), .map b => (match ZC hp b with | .map _ clock => k (.tup []) (YH hp b (.map [] clock)) n | _ => none)
 | some (.slice _), .nils => k (.tup []) hp n
 | some (.slice e), .slice b o s l _ _ => (match l with
  | 0 => k (.tup []) hp n
  | l => (match ZkA P e s l with
   | some (.bytes m x) => (match ZeI hp b o (.bs m x) with | some hp' => k (.tup []) hp' n | none => none)
   | some (.cells cs) => (match ZeI hp b o (.cs cs) with | some hp' => k (.tup []) hp' n | none => none)
   | _ => none))
 | _, _ => none
def Zjt (src dst : Nat) (x : Operand) (k : KS) : Res :=
 match tyD P dst, lk fr x with
 | some (.slice e), .str l m => (match tyD P src with
  | some _ => bif ZdI P e then Y9 hp n (.bytes l m) (fun b => .slice b 0 1 l l false) k else none
  | none => none)
 | some (.slice e), .slice b o s l kk ex => (match tyD P src with
  | some (.slice _) => bif (bif Nat.beq src dst then ZdI P e else false) then (match ZC hp b with
   | .bytes _ _ => k (.slice b o s l kk ex) hp n
   | _ => none) else none
  | _ => none)
 | _, _ => Zmx P fr hp src dst x (fun v => k v hp n)
def Zf6 (b : Builtin) (args : List Operand) (ts : List Nat) (k : KS) : Res :=
 match b, args, ts with
 | .append, [d, s], [t, t2] => ZkD P hp n t t2 (lk fr d) (lk fr s) k
 | .copy, [d, s], t :: _ => Ztw P hp n t (lk fr d) (lk fr s) k
 | .clear, [x], t :: _ => Znn P hp n t (lk fr x) k
 | .delete, [m, x], t :: _ => ZkC P fr hp n t m x k
 | b, args, ts => Ziy P fr hp b args ts (fun v => k v hp n)
end
end
end Go.Cx
