/- Part of a proof. -/
import Derived.Test.YtlmkcakhhbckhaaGreatDoorPe3
import Derived.Lib.Overlaps
import Derived.ChangeSame
import Derived.Test.YtlmkcakhhbckhaaGreatDoorProg
import Derived.KernelRfl
import Derived.Lib.Bytealg
import Derived.Lib.ValidU
set_option linter.unusedSimpArgs false
set_option linter.unusedVariables false
set_option maxRecDepth 20000
namespace Go.Eng
noncomputable section
open Go.RowKit (Below)
section
variable {P : Program}
def ZaK (tmps : Array Value) : ResultVar -> Sem Value
 | .tmp t => pure (tmps.getD t undef)
 | .cell a t => do loadVar t (<- asAddr (tmps.getD a undef))
theorem ZcK (fn : Func) (tmps : Array Value) : results fn tmps = (do
  let vs <- fn.results.mapM (ZaK tmps)
  pure (if h : vs.size = 1 then vs[0] else .tuple vs)) := by
 unfold results
 congr 2
theorem ZlL {fn : Func} {tmps : Array Value} {r : ResultVar} {x : Value} {w : World} (h : fn.results = #[r]) (h1 : (ZaK tmps r).run P w = .ok x w) : (results fn tmps).run P w = .ok x w := by
 rw [ZcK, h]; simp [h1]
theorem ZrS {fn : Func} {tmps : Array Value} {r r2 : ResultVar} {x x2 : Value} {w : World} (h : fn.results = #[r, r2]) (h1 : (ZaK tmps r).run P w = .ok x w) (h2 : (ZaK tmps r2).run P w = .ok x2 w) : (results fn tmps).run P w = .ok (.tuple #[x, x2]) w := by
 rw [ZcK, h]; simp [h1, h2]
theorem Zv6 {fn : Func} {tmps : Array Value} {r r2 r3 : ResultVar} {x x2 x3 : Value} {w : World} (h : fn.results = #[r, r2, r3]) (h1 : (ZaK tmps r).run P w = .ok x w) (h2 : (ZaK tmps r2).run P w = .ok x2 w) (h3 : (ZaK tmps r3).run P w = .ok x3 w) : (results fn tmps).run P w = .ok (.tuple #[x, x2, x3]) w := by
 rw [ZcK, h]; simp [h1, h2, h3]
theorem ZsR {fn : Func} {tmps : Array Value} {r r2 r3 r4 : ResultVar} {x x2 x3 x4 : Value} {w : World} (h : fn.results = #[r, r2, r3, r4]) (h1 : (ZaK tmps r).run P w = .ok x w) (h2 : (ZaK tmps r2).run P w = .ok x2 w) (h3 : (ZaK tmps r3).run P w = .ok x3 w) (h4 : (ZaK tmps r4).run P w = .ok x4 w) : (results fn tmps).run P w = .ok (.tuple #[x, x2, x3, x4]) w := by
 rw [ZcK, h]; simp [h1, h2, h3, h4]
end
section
variable {G : Type} (S : Sig G) (w0 : World) (F : Zd) {P : Program} {C : Cx}
theorem ZE {st : St} {ρ : Env G} {a : Act} {w : World} (hd : Den S ρ w0 F st a w) {r : ResultVar} {p : Bool × List SC} (h : Zbr P st r = some p) : (ZaK a.tmps r).run P w = .ok (Zdx S ρ p) w := by
 cases r with
 | tmp t =>
  simp only [Zbr] at h
  have hr := ZpV S hd.fr t
  rw [ZJn, ZJc] at hr
  simp only [ZaK]
  rw [Array.getD_eq_getD_getElem?]
  split at h
  ·rename_i c hc
   cases h
   rw [hc] at hr
   rw [R_one S ρ hr]; rfl
  ·rename_i cs hc
   cases h
   rw [hc] at hr
   have := hr.resolve_left (by simp [SV.isJunk])
   rw [this]; rfl
  ·cases h
 | cell x t =>
  simp only [Zbr] at h
  split at h
  ·rename_i b o d n hs hd' hn
   have hr := ZpV S hd.fr x
   rw [ZJn, ZJc, hs] at hr
   have hv := R_one S ρ hr
   have main : ∀ sv, loadAt st.hp st.asm (YV d) (bif YV d then n else 1) (.ptr b o) = some ([], sv) -> Zmm b st.hp = true -> (ZaK a.tmps (.cell x t)).run P w = .ok (sv.den S ρ) w := by
    intro sv hl hh
    have hb := Zhw S ρ w0 hh hd.hp
    have := ZeW S ρ w0 hd.asm hd.hp hd' hn hl (fun e he => nomatch he)
    simp only [SC.den] at this hv
    rw [if_neg (by omega)] at this hv
    simp only [ZaK]
    rw [Array.getD_eq_getD_getElem?, hv]
    exact this
   split at h
   ·rename_i c hl
    simp only [ZJr] at h
    split at h
    ·rename_i hh; cases h; exact main _ hl hh
    ·cases h
   ·rename_i cs hl
    simp only [ZJr] at h
    split at h
    ·rename_i hh; cases h; exact main _ hl hh
    ·cases h
   ·cases h
  ·cases h
theorem ZmI {st : St} {ρ : Env G} {a : Act} {w : World} (hd : Den S ρ w0 F st a w) {fn : Func} {sv : SV} (h : Zz3 P fn st = some sv) : ∃ v, (results fn a.tmps).run P w = .ok v w /\ sv.R S ρ v := by
 unfold Zz3 at h
 split at h
 ·rename_i hr
  cases h
  have : fn.results = #[] := by rw [<- Array.toList_inj]; exact hr
  exact ⟨.tuple #[], results_none this _ _ _, .inr rfl⟩
 ·rename_i r hr
  have : fn.results = #[r] := by rw [<- Array.toList_inj]; exact hr
  split at h
  ·rename_i c h1; cases h; exact ⟨_, ZlL this (ZE S w0 F hd h1), .inr rfl⟩
  ·rename_i cs h1; cases h; exact ⟨_, ZlL this (ZE S w0 F hd h1), .inr rfl⟩
  ·cases h
 ·rename_i r1 r2 hr
  have : fn.results = #[r1, r2] := by rw [<- Array.toList_inj]; exact hr
  obtain ⟨a1, h1, h⟩ := Zb h
  obtain ⟨a2, h2, h⟩ := Zb h
  cases h
  exact ⟨_, ZrS this (ZE S w0 F hd h1) (ZE S w0 F hd h2), .inr rfl⟩
 ·rename_i r1 r2 r3 hr
  have : fn.results = #[r1, r2, r3] := by rw [<- Array.toList_inj]; exact hr
  obtain ⟨a1, h1, h⟩ := Zb h
  obtain ⟨a2, h2, h⟩ := Zb h
  obtain ⟨a3, h3, h⟩ := Zb h
  cases h
  exact ⟨_, Zv6 this (ZE S w0 F hd h1) (ZE S w0 F hd h2) (ZE S w0 F hd h3), .inr rfl⟩
 ·rename_i r1 r2 r3 r4 hr
  have : fn.results = #[r1, r2, r3, r4] := by rw [<- Array.toList_inj]; exact hr
  obtain ⟨a1, h1, h⟩ := Zb h
  obtain ⟨a2, h2, h⟩ := Zb h
  obtain ⟨a3, h3, h⟩ := Zb h
  obtain ⟨a4, h4, h⟩ := Zb h
  cases h
  exact ⟨_, ZsR this (ZE S w0 F hd h1) (ZE S w0 F hd h2) (ZE S w0 F hd h3) (ZE S w0 F hd h4), .inr rfl⟩
 ·cases h
theorem Zn8 {ρ : Env G} : ∀ {l : List SV} {xs : List Value} (n : Nat), Zaw S ρ l xs -> FrR S ρ (l ++ List.replicate n .junk) (xs ++ List.replicate n undef)
 | [], [], n, _ => by
  simp only [List.nil_append]
  induction n with
  | zero => trivial
  | succ n ih => exact ⟨.inl rfl, ih⟩
 | s :: l, v :: xs, n, h => ⟨h.1, Zn8 n h.2⟩
 | [], _ :: _, _, h => h.elim
 | _ :: _, [], _, h => h.elim
theorem ZkH {ρ : Env G} : ∀ {l : List SV} {xs : List Value}, Zaw S ρ l xs -> l.length = xs.length
 | [], [], _ => rfl
 | s :: l, v :: xs, h => by simp [ZkH h.2]
 | [], _ :: _, h => h.elim
 | _ :: _, [], h => h.elim
theorem ZA8 {ρ ρ' : Env G} {st : St} (hok : st.ok = true) (hE : Ext st.n ρ ρ') {l : List Value} (h : FrR S ρ st.fr l) : FrR S ρ' st.fr l := by
 unfold St.ok at hok
 simp only [ZJr] at hok
 split at hok
 ·rename_i hf; exact ZgD S hE hf h
 ·cases hok
theorem Zdz (hC : ZrL S P C) : ∀ (fuel : Nat), Zcc S w0 F P (Zge P C fuel)
 | 0, f, args, st, K, ρ, w, xs, R, hst, hok, hx, h, hK => by simp only [Zge] at h; exact h.elim
 | fuel + 1, f, args, st, K, ρ, w, xs, R, hst, hok, hx, h, hK => by
  simp only [Zge] at h
  split at h
  ·exact h.elim
  ·rename_i fn hfn
   split at h
   ·exact h.elim
   ·rename_i c hc
    refine calls_of_wp hfn hc ?_
    have hd : Den S ρ w0 F { st with fr := args ++ List.replicate (fn.ntmps - args.length) .junk } { tmps := xs.toArray ++ Array.replicate (fn.ntmps - xs.toArray.size) undef, defers := [] } w := by
     refine ⟨?_, rfl, hst.hp, hst.asm⟩
     have := Zn8 S (fn.ntmps - args.length) hx
     simpa [ZkH S hx] using this
    let Q : Exit -> Act -> World -> Prop := fun e a w' => match e with | .panic _ => False | e => bodyPost P fn R e a w'
    have fin : ∀ ρ' st' a' w', YU S w0 F { st with fr := args ++ List.replicate (fn.ntmps - args.length) .junk } ρ ρ' st' a' w' →
      (match Zz3 P fn st' with
       | some v => (match ZbZ C f 999999 with
        | [] => K v { st' with fr := st.fr }
        | x :: l => bif SV.lt st'.n v then Y0 st' (fun st'' => K v { st'' with fr := st.fr }) (x :: l) else .ff 56)
       | none => VC.ff 54).den S ρ' -> a'.defers = [] /\ ∃ v, (results fn a'.tmps).run P w' = .ok v w' /\ R (.returned v) w' := by
     intro ρ' st' a' w' haf hk
     split at hk
     ·rename_i sv hsv
      obtain ⟨v, hr, hv⟩ := ZmI S w0 F haf.2.2 hsv
      generalize hal : ZbZ C f 999999 = al at hk
      cases al with
      | nil => exact ⟨haf.2.2.df, v, hr, hK ρ' sv { st' with fr := st.fr } w' v ⟨haf.1, haf.2.1, rfl, fun l hl => ZA8 S hok haf.1 hl, ⟨haf.2.2.hp, haf.2.2.asm⟩⟩ hv hk⟩
      | cons x l =>
       simp only at hk
       cases hlt : SV.lt st'.n sv
       ·rw [hlt] at hk; exact hk.elim
       rw [hlt] at hk
       simp only [cond_true] at hk
       obtain ⟨ρ2, st2, haf2, hk2⟩ := ZK S w0 F _ (x :: l) (fun sp args hm => by rw [<- hal] at hm; obtain ⟨l, i, hl, hm⟩ := Zeu hm; exact hC.2.1 f l hl i sp args hm) st' ρ' a' w' haf.2.2 hk
       have H := YU.step S w0 F haf.1 haf.2.1 haf2
       have hv2 : sv.R S ρ2 v := by
        rcases hv with hv | hv
        ·exact .inl hv
        ·exact .inr (by rw [SV.den_ext S haf2.1 hlt]; exact hv)
       exact ⟨haf.2.2.df, v, hr, hK ρ2 sv { st2 with fr := st.fr } w' v ⟨H.1, H.2.1, rfl, fun l hl => ZA8 S hok H.1 hl, ⟨H.2.2.hp, H.2.2.asm⟩⟩ hv2 hk2⟩
     ·exact hk.elim
    refine wp_mono (Q := Q) (ZcL S w0 F (Zdz hC fuel) hC f 100000 c _ ρ _ w _ Q hd h ⟨?_, ?_, ?_, ?_⟩).2 ?_
    ·intro ρ' st' a' w' haf hk; exact fin ρ' st' a' w' haf hk
    ·intro ρ' st' a' w' haf hk; exact fin ρ' st' a' w' haf hk
    ·intro i ρ' st' a' w' haf hk; exact hk.elim
    ·intro c a w h; exact h
    ·intro e a w h; cases e <;> first | exact h | exact h.elim
/-! ### A function keeps its Zat -/
theorem VC.den_wc (ch : Nat -> Bool) : ∀ (v : VC) (ρ : Env G), v.den (S.wc ch) ρ ↔ v.den S ρ
 | .tt, _ => Iff.rfl
 | .ff _, _ => Iff.rfl
 | .and a b, ρ => and_congr (VC.den_wc ch a ρ) (VC.den_wc ch b ρ)
 | .imp e a, ρ => by simp only [VC.den, SX.den_wc]; exact imp_congr Iff.rfl (VC.den_wc ch a ρ)
 | .need e a, ρ => by simp only [VC.den, SX.den_wc]; exact and_congr Iff.rfl (VC.den_wc ch a ρ)
 | .all n .int a, ρ => forall_congr' fun _ => VC.den_wc ch a _
 | .all n .bool a, ρ => forall_congr' fun _ => VC.den_wc ch a _
 | .all n .ints a, ρ => forall_congr' fun _ => VC.den_wc ch a _
 | .all n .bytes a, ρ => forall_congr' fun _ => VC.den_wc ch a _
 | .all n .rows a, ρ => forall_congr' fun _ => VC.den_wc ch a _
 | .all n .amap a, ρ => forall_congr' fun _ => VC.den_wc ch a _
 | .all n .g a, ρ => forall_congr' fun _ => VC.den_wc ch a _
theorem Zfs (ch : Nat -> Bool) {ρ : Env G} : ∀ {l : List SV} {xs : List Value}, Zaw (S.wc ch) ρ l xs ↔ Zaw S ρ l xs
 | [], [] => Iff.rfl
 | s :: l, v :: xs => and_congr (SV.R_wc S ρ ch s v) (Zfs ch)
 | [], _ :: _ => Iff.rfl
 | _ :: _, [] => Iff.rfl
theorem Zr.wc (ch : Nat -> Bool) {f : Nat} {sp : Ctr} (h : Zr S P f sp) : Zr (S.wc ch) P f sp := by
 intro ch' w0 F ρ w xs hx hr hs
 refine (h ch' w0 F ρ w xs ((Zfs S ch).1 hx) (fun e he => by have := hr e he; rwa [SX.den_wc] at this) hs).mono ?_
 rintro e w' ⟨ρ', v, hE, he, hv, hs', hf⟩
 exact ⟨ρ', v, hE, he, (SV.R_wc S ρ' ch _ _).2 hv, hs', fun x hx => by rw [SX.den_wc]; exact hf x hx⟩
theorem ZcO.wc (ch : Nat -> Bool) {sp : Ctr} (h : ZcO S sp) : ZcO (S.wc ch) sp := by
 intro ch' w0 F ρ w hr hs
 obtain ⟨ρ', hE, hs', hf⟩ := h ch' w0 F ρ w (fun e he => by have := hr e he; rwa [SX.den_wc] at this) hs
 exact ⟨ρ', hE, hs', fun x hx => by rw [SX.den_wc]; exact hf x hx⟩
theorem ZfJ.wc (ch : Nat -> Bool) {f : Nat} {sp : Ctr} (h : ZfJ S P f sp) : ZfJ (S.wc ch) P f sp := by
 intro ch' w0 F ρ w xs hx hr hs
 obtain ⟨v, w', hrun, ρ', hE, hv, hs', hf⟩ := h ch' w0 F ρ w xs ((Zfs S ch).1 hx) (fun e he => by have := hr e he; rwa [SX.den_wc] at this) hs
 exact ⟨v, w', hrun, ρ', hE, (SV.R_wc S ρ' ch _ _).2 hv, hs', fun x hx => by rw [SX.den_wc]; exact hf x hx⟩
theorem ZrL.wc (ch : Nat -> Bool) (h : ZrL S P C) : ZrL (S.wc ch) P C :=
 ⟨fun f sps hf sp hm => ⟨(h.1 f sps hf sp hm).1, (h.1 f sps hf sp hm).2.wc S ch⟩, fun f l hf i sp args hm => ⟨(h.2.1 f l hf i sp args hm).1, (h.2.1 f l hf i sp args hm).2.wc S ch⟩,
  fun f sps hf sp hm => ⟨(h.2.2 f sps hf sp hm).1, (h.2.2 f sps hf sp hm).2.wc S ch⟩⟩
theorem ZId {sp : Ctr} (hwf : sp.wf = true) : sp.args.all (SV.wf 0 sp.ss) = true /\ sp.pre.all (Ch.wf 0 sp.ss) = true /\ sp.reqs.all (SX.wf 0 sp.ss) = true /\ sp.res.wf 0 (sp.ss ++ sp.ps) = true ∧
   sp.post.all (Ch.wf 0 (sp.ss ++ sp.ps)) = true /\ sp.facts.all (SX.wf 0 (sp.ss ++ sp.ps)) = true := by
 unfold Ctr.wf at hwf
 simp only [ZJr] at hwf
 split at hwf
 ·rename_i a1
  split at hwf
  ·rename_i a2
   split at hwf
   ·rename_i a3
    split at hwf
    ·rename_i a4
     split at hwf
     ·rename_i a5; exact ⟨a1, a2, a3, a4, a5, hwf⟩
     ·cases hwf
    ·cases hwf
   ·cases hwf
  ·cases hwf
 ·cases hwf
theorem Zp2 : ∀ {ss : List Srt} {th : List SX} {k i : Nat} {s : Srt}, ZIH (ats k ss) th = true -> ss[i]? = some s -> Zah th i = .at s (k + i)
 | [], th, k, i, s, h, hs => by simp at hs
 | t :: ss, [], k, i, s, h, hs => by cases h
 | t :: ss, e :: th, k, i, s, h, hs => by
  simp only [ats, ZIH, ZJr] at h
  split at h
  ·rename_i hq
   cases i with
   | zero => simp at hs; subst hs; simp only [Zah]; rw [<- SX.bq_eq hq]; rfl
   | succ i =>
    simp only [Zah]
    rw [Zp2 h (by simpa using hs), show k + 1 + i = k + (i + 1) by omega]
  ·cases h
theorem Zj (hC : ZrL S P C) {fuel f : Nat} {sp : Ctr} (h : ∀ ρ : Env G, (ZeK P C fuel f sp).den S ρ) : Zr S P f sp := by
 intro ch w0 F ρ w xs hx hreq hs
 have h := h ρ
 rw [<- VC.den_wc S ch] at h
 unfold ZeK at h
 cases hwf : sp.wf
 ·rw [hwf] at h; exact h.elim
 cases hok : St.ok { fr := [], hp := sp.pre, n := sp.ss.length, asm := sp.reqs }
 ·rw [hwf, hok] at h; exact h.elim
 rw [hwf, hok] at h
 simp only [cond_true] at h
 have h := Zfz (S.wc ch) ρ h (fun e he => by rw [SX.den_wc]; exact hreq e he)
 obtain ⟨w1, w2, w3, w4, w5, w6⟩ := ZId hwf
 refine Zdz (S.wc ch) w0 F (hC.wc S ch) fuel f sp.args _ _ ρ w xs _ ⟨hs, fun e he => by rw [SX.den_wc]; exact hreq e he⟩ hok ((Zfs S ch).2 hx) h ?_
 intro ρ' sv st' w' v hn hsv hk
 split at hk
 ·exact hk.elim
 ·rename_i th hth
  cases h1 : Zvu th (sp.ss ++ sp.ps)
  ·rw [h1] at hk; exact hk.elim
  cases h2 : ZIH (ats 0 sp.ss) th
  ·rw [h1, h2] at hk; exact hk.elim
  rw [h1, h2] at hk
  simp only [cond_true] at hk
  split at hk
  ·exact hk.elim
  ·rename_i ns1 he
   split at hk
   ·exact hk.elim
   ·rename_i ns2 rest ks htk
    cases h3 : ks.all Zxo
    ·rw [h3] at hk; exact hk.elim
    rw [h3] at hk
    simp only [cond_true] at hk
    obtain ⟨hn3, _⟩ := ZA (S.wc ch) ρ' hk
    obtain ⟨hf, hn2⟩ := ZcB (S.wc ch) ρ' hn.hs.asm hn3
    have hch : ∀ i K, (i, K) ∈ ks -> ch i = ZmC (S.wc ch) K := fun i K hm => by
     have := List.all_eq_true.1 h3 _ hm
     cases K with
     | rd j => simp only [Zxo] at this; rw [ZJo this]; rfl
     | _ => cases this
    obtain ⟨hn1, htake⟩ := Zas (S.wc ch) ρ' w0 hn.hs.asm ch htk hn2 hch
    obtain ⟨hv, _⟩ := ZdI (S.wc ch) ρ' hn.hs.asm he hn1
    let ρc : Env G := fun i => if i < sp.ss.length then ρ i else (Zah th i).den S ρ'
    have hT : ThR S 0 th (sp.ss ++ sp.ps) ρ' ρc := ⟨fun i hi => absurd hi (Nat.not_lt_zero _), fun i s hs => by
     rw [Nat.zero_add]
     by_cases hi : i < sp.ss.length
     ·simp only [ρc, if_pos hi]
      rw [ZJF hi] at hs
      rw [Zp2 h2 hs, Nat.zero_add]
      simp only [SX.den]
      rw [hn.ext i hi]
     ·simp only [ρc, if_neg hi]
      have e1 := ZdB h1 i s hs
      have e2 := SX.srt_co S ρ' (Zah th i)
      rw [e1] at e2
      exact e2⟩
    have hT' : ThR (S.wc ch) 0 th (sp.ss ++ sp.ps) ρ' ρc := ⟨hT.low, fun i s hs => by rw [SX.den_wc, ZDJ]; exact hT.high i s hs⟩
    refine ⟨ρc, v, fun i hi => by simp only [ρc, if_pos hi], rfl, ?_, ?_, ?_⟩
    ·have := (SV.sub_R (S.wc ch) ρ' hT' w4).1 (hv v hsv)
     exact (SV.R_wc S ρc ch _ _).1 this
    ·have := hn.hs.hp.mono (htake _)
     rw [ZcI (S.wc ch) ρ' w0 hT' ch w5] at this
     rw [Zq] at this
     exact this.drop
    ·have := (ZiR (S.wc ch) ρ' hT' w6).1 hf
     intro x hx
     have := this x hx
     rwa [SX.den_wc] at this
end
end
end Go.Eng
namespace Go.Eng
noncomputable section
open Go.RowKit (Below)
def En.srt : En -> Srt | .ints _ => .ints | .bytes => .bytes | .rows _ => .rows
section
variable {G : Type} (S : Sig G) {P : Program}
end
end
end Go.Eng
namespace Go.Eng
noncomputable section
abbrev LB := List (Nat × Int)
def LB.get : LB -> Nat -> Option Int
 | [], _ => none
 | (j, l) :: r, i => bif Nat.beq j i then some l else LB.get r i
mutual
def Zmk (lo hi : LB) : SX -> Option Int
 | .int n => some n
 | .at s i => (match s with | .int => LB.get lo i | _ => none)
 | .f1 f _ => (match f with | 30 | 31 | 32 | 33 => some 0 | _ => none)
 | .f2 f a b => (match f with
  | 40 => (match Zmk lo hi a, Zmk lo hi b with | some x, some y => some (x + y) | _, _ => none)
  | 41 => (match Zmk lo hi a, Zmn lo hi b with | some x, some y => some (x - y) | _, _ => none)
  | 111 => some 0
  | _ => none)
 | _ => none
def Zmn (lo hi : LB) : SX -> Option Int
 | .int n => some n
 | .at s i => (match s with | .int => (match LB.get hi i with | some x => some (-x) | none => none) | _ => none)
 | .f2 f a b => (match f with
  | 40 => (match Zmn lo hi a, Zmn lo hi b with | some x, some y => some (x + y) | _, _ => none)
  | 41 => (match Zmn lo hi a, Zmk lo hi b with | some x, some y => some (x - y) | _, _ => none)
  | 111 => some 255
  | _ => none)
 | _ => none
end
def LB.put (i : Nat) (c : Int) : LB -> LB
 | [] => [(i, c)]
 | (j, l) :: r => bif Nat.beq j i then (j, max l c) :: r else bif Nat.blt j i then (i, c) :: (j, l) :: r else (j, l) :: LB.put i c r
def ZiX (lo : LB) (e : SX) : LB :=
 match e with
 | .f2 f (.int c) (.at .int i) => (match f with | 47 => LB.put i c lo | 46 => LB.put i (c + 1) lo | _ => lo)
 | _ => lo
def Ziz (hi : LB) (e : SX) : LB :=
 match e with
 | .f2 f (.at .int i) (.int c) => (match f with | 47 => LB.put i (-c) hi | 46 => LB.put i (-(c - 1)) hi | _ => hi)
 | _ => hi
def Zjn : SX -> SX -> Bool
 | .f2 f x (.f2 g y (.int (.ofNat (_ + 1)))), .f2 f' x' y' => bif (bif Nat.beq f 41 then (bif Nat.beq g 40 then Nat.beq f' 41 else false) else false) then (bif SX.bq x x' then SX.bq y y' else false) else false
 | _, _ => false
def ZoN (lo hi : LB) : SX -> Bool
 | .bool b => b
 | .f1 f x => (match f with
  | 23 => (match Zmk lo hi x, Zmn lo hi x with | some l, some u => bif decide (-9223372036854775808 <= l) then decide (u <= 9223372036854775807) else false | _, _ => false)
  | _ => false)
 | .f2 f a b => (match f with
  | 47 => (match Zmn lo hi a, Zmk lo hi b with | some u, some l => decide (u <= l) | _, _ => false)
  | 46 => bif Zjn a b then true else (match Zmn lo hi a, Zmk lo hi b with | some u, some l => decide (u < l) | _, _ => false)
  | _ => false)
 | _ => false
def allB (c : Int) : List UInt8 -> Bool
 | [] => true
 | x :: l => bif ibq (.ofNat x.toNat) c then allB c l else false
def ZiB (lo hi : LB) : SX -> Bool
 | .bool b => !b
 | .f1 f x => (match f, x with
  | 2, .f2 45 (.f2 111 (.byt l) i) (.int c) => (match Zmk lo hi i, Zmn lo hi i with
   | some (.ofNat a), some (.ofNat b) => bif Nat.blt b l.length then allB c ((l.drop a).take (b + 1 - a)) else false
   | _, _ => false)
  | _, _ => false)
 | .f2 f a b => (match f with
  | 47 => (match Zmk lo hi a, Zmn lo hi b with | some l, some u => decide (u < l) | _, _ => false)
  | 46 => (match Zmk lo hi a, Zmn lo hi b with | some l, some u => decide (u <= l) | _, _ => false)
  | _ => false)
 | _ => false
def LB.below (n : Nat) : LB -> LB
 | [] => []
 | (j, l) :: r => bif Nat.blt j n then (j, l) :: r else LB.below n r
def VC.chk : LB -> LB -> VC -> Bool
 | _, _, .tt => true
 | _, _, .ff _ => false
 | lo, hi, .and a b => bif VC.chk lo hi a then VC.chk lo hi b else false
 | lo, hi, .imp e a => bif ZiB lo hi e then true else VC.chk (ZiX lo e) (Ziz hi e) a
 | lo, hi, .need e a => bif ZoN lo hi e then VC.chk (ZiX lo e) (Ziz hi e) a else false
 | lo, hi, .all n _ a => VC.chk (LB.below n lo) (LB.below n hi) a
section
variable {G : Type} (S : Sig G)
def Zn7 (v : Nat -> Int) (env : LB) : Prop := env.Pairwise (fun a b => b.1 < a.1) /\ ∀ p ∈ env, p.2 <= v p.1
theorem LB.get_ok {v : Nat -> Int} : ∀ {env : LB}, (∀ p ∈ env, p.2 <= v p.1) -> ∀ {i : Nat} {l : Int}, LB.get env i = some l -> l <= v i
 | [], _, _, _, h => nomatch h
 | (j, l') :: r, ho, i, l, h => by
  simp only [LB.get] at h
  cases hb : Nat.beq j i
  ·rw [hb] at h; exact LB.get_ok (fun p hp => ho p (ZJt _ hp)) h
  ·rw [hb] at h; cases h
   have := ho _ ZJv
   rw [ZJo hb] at this; exact this
theorem ZA0 {ρ : Env G} {lo hi : LB} (ho : ∀ p ∈ lo, p.2 <= (ρ p.1).tI) (hh : ∀ p ∈ hi, p.2 <= -(ρ p.1).tI) : ∀ {e : SX},
  (∀ {l : Int}, Zmk lo hi e = some l -> l <= (e.den S ρ).tI) /\ (∀ {l : Int}, Zmn lo hi e = some l -> (e.den S ρ).tI <= l) := by
 intro e
 induction e with
 | int n => exact ⟨fun h => (by simp only [Zmk] at h; cases h; exact ZJy _), fun h => (by simp only [Zmn] at h; cases h; exact ZJy _)⟩
 | «at» s i =>
  refine ⟨fun h => ?_, fun h => ?_⟩
  ·simp only [Zmk] at h
   cases s <;> simp only [reduceCtorEq] at h
   exact LB.get_ok (v := fun i => (ρ i).tI) ho h
  ·simp only [Zmn] at h
   cases s <;> simp only [reduceCtorEq] at h
   split at h
   ·rename_i x hx
    cases h
    have := LB.get_ok (v := fun i => -(ρ i).tI) hh hx
    simp only [SX.den, U.co, U.tIi]
    omega
   ·cases h
 | f1 f a _ =>
  refine ⟨fun h => ?_, fun h => ?_⟩
  ·simp only [Zmk] at h
   split at h <;> cases h
   all_goals simp only [SX.den, ap1, U.tIi]; omega
  ·simp only [Zmn] at h; cases h
 | f2 f a b iha ihb =>
  refine ⟨fun h => ?_, fun h => ?_⟩
  ·simp only [Zmk] at h
   split at h
   ·split at h
    ·rename_i x y hx hy
     cases h
     have := iha.1 hx
     have := ihb.1 hy
     simp only [SX.den, ap2, U.tIi]; omega
    ·cases h
   ·split at h
    ·rename_i x y hx hy
     cases h
     have := iha.1 hx
     have := ihb.2 hy
     simp only [SX.den, ap2, U.tIi]; omega
    ·cases h
   ·cases h
    simp only [SX.den, ap2, U.tIi]; omega
   ·cases h
  ·simp only [Zmn] at h
   split at h
   ·split at h
    ·rename_i x y hx hy
     cases h
     have := iha.2 hx
     have := ihb.2 hy
     simp only [SX.den, ap2, U.tIi]; omega
    ·cases h
   ·split at h
    ·rename_i x y hx hy
     cases h
     have := iha.2 hx
     have := ihb.1 hy
     simp only [SX.den, ap2, U.tIi]; omega
    ·cases h
   ·cases h
    simp only [SX.den, ap2, U.tIi]
    have := (((a.den S ρ).tB.getD (b.den S ρ).tI.toNat 0)).toNat_lt
    omega
   ·cases h
 | _ => exact ⟨fun h => (by simp only [Zmk] at h; cases h), fun h => (by simp only [Zmn] at h; cases h)⟩
theorem LB.put_ok {ρ : Nat -> Int} {i : Nat} {c : Int} (hc : c <= ρ i) : ∀ {env : LB}, Zn7 ρ env -> Zn7 ρ (LB.put i c env) /\ ∀ p ∈ LB.put i c env, p.1 = i \/ ∃ q ∈ env, q.1 = p.1
 | [], _ => ⟨⟨List.pairwise_singleton _ _, fun p hp => by rw [LB.put, ZJg] at hp; subst hp; exact hc⟩, fun p hp => by rw [LB.put, ZJg] at hp; subst hp; exact .inl rfl⟩
 | (j, l) :: r, h => by
  obtain ⟨hp, ho⟩ := h
  rw [List.pairwise_cons] at hp
  simp only [LB.put]
  cases h1 : Nat.beq j i
  ·cases h2 : Nat.blt j i
   ·have ih := LB.put_ok hc (env := r) ⟨hp.2, fun p hq => ho p (ZJt _ hq)⟩
    have hij : i < j := by
     have e1 : ¬ j < i := fun hh => by rw [<- Nat.blt_eq] at hh; rw [h2] at hh; cases hh
     have e2 : j ≠ i := fun hh => by rw [hh, Nat.beq_refl] at h1; cases h1
     omega
    simp only [cond_false]
    refine ⟨⟨List.pairwise_cons.2 ⟨fun p hq => ?_, ih.1.1⟩, fun p hq => ?_⟩, fun p hq => ?_⟩
    ·rcases ih.2 p hq with e | ⟨q, hq', e⟩
     ·rw [e]; exact hij
     ·rw [<- e]; exact hp.1 q hq'
    ·rcases List.mem_cons.1 hq with rfl | hq
     ·exact ho _ ZJv
     ·exact ih.1.2 p hq
    ·rcases List.mem_cons.1 hq with rfl | hq
     ·exact .inr ⟨_, ZJv, rfl⟩
     ·rcases ih.2 p hq with e | ⟨q, hq', e⟩
      ·exact .inl e
      ·exact .inr ⟨q, ZJt _ hq', e⟩
   ·rw [Nat.blt_eq] at h2
    simp only [cond_true, cond_false]
    refine ⟨⟨List.pairwise_cons.2 ⟨fun p hq => ?_, List.pairwise_cons.2 hp⟩, fun p hq => ?_⟩, fun p hq => ?_⟩
    ·rcases List.mem_cons.1 hq with rfl | hq
     ·exact h2
     ·have := hp.1 p hq; omega
    ·rcases List.mem_cons.1 hq with rfl | hq
     ·exact hc
     ·exact ho p hq
    ·rcases List.mem_cons.1 hq with rfl | hq
     ·exact .inl rfl
     ·exact .inr ⟨p, hq, rfl⟩
  ·have e := ZJo h1
   subst e
   simp only [cond_true]
   refine ⟨⟨List.pairwise_cons.2 ⟨fun p hq => hp.1 p hq, hp.2⟩, fun p hq => ?_⟩, fun p hq => ?_⟩
   ·rcases List.mem_cons.1 hq with rfl | hq
    ·have := ho (j, l) ZJv
     simp only at this ⊢; omega
    ·exact ho p (ZJt _ hq)
   ·rcases List.mem_cons.1 hq with rfl | hq
    ·exact .inl rfl
    ·exact .inr ⟨p, ZJt _ hq, rfl⟩
abbrev loV (ρ : Env G) : Nat -> Int := fun i => (ρ i).tI
abbrev hiV (ρ : Env G) : Nat -> Int := fun i => -(ρ i).tI
theorem Zii {ρ : Env G} {env : LB} (h : Zn7 (loV ρ) env) {e : SX} (he : (e.den S ρ).tP) : Zn7 (loV ρ) (ZiX env e) := by
 unfold ZiX
 split
 ·rename_i f c i
  split
  ·have he : decide (c <= (ρ i).tI) = true := he
   exact (LB.put_ok (of_decide_eq_true he) h).1
  ·have he : decide (c < (ρ i).tI) = true := he
   have := of_decide_eq_true he
   exact (LB.put_ok (by simp only [loV]; omega) h).1
  ·exact h
 ·exact h
theorem Zh1 {ρ : Env G} {env : LB} (h : Zn7 (hiV ρ) env) {e : SX} (he : (e.den S ρ).tP) : Zn7 (hiV ρ) (Ziz env e) := by
 unfold Ziz
 split
 ·rename_i f i c
  split
  ·have he : decide ((ρ i).tI <= c) = true := he
   have := of_decide_eq_true he
   exact (LB.put_ok (by simp only [hiV]; omega) h).1
  ·have he : decide ((ρ i).tI < c) = true := he
   have := of_decide_eq_true he
   exact (LB.put_ok (by simp only [hiV]; omega) h).1
  ·exact h
 ·exact h
theorem ZqU {ρ : Env G} {a b : SX} (h : Zjn a b = true) : (a.den S ρ).tI < (b.den S ρ).tI := by
 unfold Zjn at h
 split at h
 ·rename_i f x g y n f' x' y'
  cases h1 : Nat.beq f 41
  ·rw [h1] at h; cases h
  cases h2 : Nat.beq g 40
  ·rw [h1, h2] at h; cases h
  cases h3 : Nat.beq f' 41
  ·rw [h1, h2, h3] at h; cases h
  cases h4 : SX.bq x x'
  ·rw [h1, h2, h3, h4] at h; cases h
  rw [h1, h2, h3, h4] at h
  have e1 := ZJo h1
  have e2 := ZJo h2
  have e3 := ZJo h3
  have e4 := SX.bq_eq h4
  have e5 := SX.bq_eq h
  subst e1; subst e2; subst e3; subst e4; subst e5
  simp only [SX.den, ap2, U.tIi]
  have e6 : (Int.ofNat n.succ : Int) = (n : Int) + 1 := rfl
  rw [e6]
  omega
 ·cases h
theorem Zwm {ρ : Env G} {lo hi : LB} (ho : Zn7 (loV ρ) lo) (hh : Zn7 (hiV ρ) hi) {e : SX} (he : ZoN lo hi e = true) : (e.den S ρ).tP := by
 have B := @ZA0 G S ρ lo hi ho.2 hh.2
 unfold ZoN at he
 split at he
 ·simp [SX.den, he]
 ·rename_i f x
  split at he
  ·split at he
   ·rename_i l u hl hu
    have b1 := (B).1 hl
    have b2 := (B).2 hu
    cases h1 : decide (-9223372036854775808 <= l)
    ·rw [h1] at he; cases he
    rw [h1] at he
    have q1 := of_decide_eq_true h1
    have q2 := of_decide_eq_true he
    show (decide (IntKind.i64.min <= (x.den S ρ).tI) && decide ((x.den S ρ).tI <= IntKind.i64.max)) = true
    rw [Bool.and_eq_true]
    refine ⟨decide_eq_true ?_, decide_eq_true ?_⟩
    ·show (-(2 ^ 63) : Int) <= _; omega
    ·show _ <= (2 ^ 63 - 1 : Int); omega
   ·cases he
  ·cases he
 ·rename_i f a b
  split at he
  ·split at he
   ·rename_i u l hu hl
    have b1 := (B).2 hu
    have b2 := (B).1 hl
    have := of_decide_eq_true he
    show decide ((a.den S ρ).tI <= (b.den S ρ).tI) = true
    exact decide_eq_true (by omega)
   ·cases he
  ·cases hf : Zjn a b
   ·rw [hf] at he
    simp only [cond_false] at he
    split at he
    ·rename_i u l hu hl
     have b1 := (B).2 hu
     have b2 := (B).1 hl
     have := of_decide_eq_true he
     show decide ((a.den S ρ).tI < (b.den S ρ).tI) = true
     exact decide_eq_true (by omega)
    ·cases he
   ·show decide ((a.den S ρ).tI < (b.den S ρ).tI) = true
    exact decide_eq_true (ZqU S hf)
  ·cases he
 ·cases he
theorem ZyK {c : Int} : ∀ {l : List UInt8}, allB c l = true -> ∀ x ∈ l, ((x.toNat : Nat) : Int) = c
 | [], _, x, hx => nomatch hx
 | y :: l, h, x, hx => by
  simp only [allB] at h
  cases h1 : ibq (.ofNat y.toNat) c
  ·rw [h1] at h; cases h
  ·rw [h1] at h
   rcases List.mem_cons.1 hx with rfl | hx
   ·exact ZeY h1
   ·exact ZyK h x hx
theorem Zq3 {ρ : Env G} {lo hi : LB} (ho : Zn7 (loV ρ) lo) (hh : Zn7 (hiV ρ) hi) {e : SX} (he : ZiB lo hi e = true) : ¬ (e.den S ρ).tP := by
 have B := @ZA0 G S ρ lo hi ho.2 hh.2
 unfold ZiB at he
 split at he
 ·rename_i b; cases b <;> simp [SX.den] at he ⊢
 ·rename_i f x
  split at he
  ·rename_i l i c
   split at he
   ·rename_i a b hl hu
    have b1 := (B).1 hl
    have b2 := (B).2 hu
    cases h1 : Nat.blt b l.length
    ·rw [h1] at he; cases he
    rw [h1] at he
    simp only [cond_true] at he
    rw [Nat.blt_eq] at h1
    have c1 : (Int.ofNat a : Int) = (a : Int) := rfl
    have c2 : (Int.ofNat b : Int) = (b : Int) := rfl
    have hlt : (i.den S ρ).tI.toNat < l.length := by omega
    have hval : ((((l.getD (i.den S ρ).tI.toNat 0).toNat : Nat) : Int)) = c := by
     apply ZyK he
     rw [ZJn, ZJq hlt]
     apply List.mem_iff_getElem?.2
     refine ⟨(i.den S ρ).tI.toNat - a, ?_⟩
     rw [List.getElem?_take_of_lt (by omega), ZJM, show a + ((i.den S ρ).tI.toNat - a) = (i.den S ρ).tI.toNat by omega, ZJq hlt]
     rfl
    intro hq
    have hq : (!((((l.getD (i.den S ρ).tI.toNat 0).toNat : Nat) : Int) == c)) = true := hq
    rw [hval] at hq
    simp at hq
   ·cases he
  ·cases he
 ·rename_i f a b
  split at he
  ·split at he
   ·rename_i l u hl hu
    have b1 := (B).1 hl
    have b2 := (B).2 hu
    have := of_decide_eq_true he
    intro hq
    have hq : decide ((a.den S ρ).tI <= (b.den S ρ).tI) = true := hq
    have := of_decide_eq_true hq
    omega
   ·cases he
  ·split at he
   ·rename_i l u hl hu
    have b1 := (B).1 hl
    have b2 := (B).2 hu
    have := of_decide_eq_true he
    intro hq
    have hq : decide ((a.den S ρ).tI < (b.den S ρ).tI) = true := hq
    have := of_decide_eq_true hq
    omega
   ·cases he
  ·cases he
 ·cases he
theorem ZjA {v v' : Nat -> Int} {n : Nat} (hv : ∀ i, i < n -> v' i = v i) : ∀ {env : LB}, Zn7 v env -> Zn7 v' (LB.below n env)
 | [], _ => ⟨List.Pairwise.nil, fun _ h => nomatch h⟩
 | (j, l) :: r, h => by
  simp only [LB.below]
  obtain ⟨hp, ho⟩ := h
  have hp' := List.pairwise_cons.1 hp
  cases h1 : Nat.blt j n
  ·exact ZjA hv ⟨hp'.2, fun p hq => ho p (ZJt _ hq)⟩
  ·rw [Nat.blt_eq] at h1
   refine ⟨hp, fun p hq => ?_⟩
   have hlt : p.1 < n := by
    rcases List.mem_cons.1 hq with rfl | hq
    ·exact h1
    ·have := hp'.1 p hq; simp only at this; omega
   rw [hv _ hlt]; exact ho p hq
theorem ZsC (ρ : Env G) (n : Nat) (u : U G) (i : Nat) (h : i < n) : ρ.upd n u i = ρ i := by unfold Env.upd; rw [if_neg (by omega)]
theorem VC.chk_ok : ∀ (v : VC) (lo hi : LB) (ρ : Env G), Zn7 (loV ρ) lo -> Zn7 (hiV ρ) hi -> VC.chk lo hi v = true -> v.den S ρ := by
 intro v
 induction v with
 | tt => intro _ _ _ _ _ _; trivial
 | ff n => intro _ _ _ _ _ h; cases h
 | and a b iha ihb =>
  intro lo hi ρ ho hh h
  simp only [VC.chk] at h
  cases h1 : VC.chk lo hi a
  ·rw [h1] at h; cases h
  ·rw [h1] at h; exact ⟨iha lo hi ρ ho hh h1, ihb lo hi ρ ho hh h⟩
 | imp e a ih =>
  intro lo hi ρ ho hh h he
  simp only [VC.chk] at h
  cases h1 : ZiB lo hi e
  ·rw [h1] at h; exact ih _ _ ρ (Zii S ho he) (Zh1 S hh he) h
  ·exact absurd he (Zq3 S ho hh h1)
 | need e a ih =>
  intro lo hi ρ ho hh h
  simp only [VC.chk] at h
  cases h1 : ZoN lo hi e
  ·rw [h1] at h; cases h
  ·rw [h1] at h
   have he := Zwm S ho hh h1
   exact ⟨he, ih _ _ ρ (Zii S ho he) (Zh1 S hh he) h⟩
 | all n s a ih =>
  intro lo hi ρ ho hh h
  have key : ∀ u : U G, a.den S (ρ.upd n u) := fun u => ih _ _ _ (ZjA (fun i hi => by simp only [loV, ZsC ρ n u i hi]) ho) (ZjA (fun i hi => by simp only [hiV, ZsC ρ n u i hi]) hh) h
  cases s <;> exact fun x => key _
end
end
end Go.Eng
namespace Go.Eng
noncomputable section
section
variable {G : Type}
theorem ZAB (a b : U G) : (ap2 155 a b).tP = (a = b) := by
 show (@decide (a = b) (Classical.propDecidable _) = true) = _
 exact propext ⟨fun h => @of_decide_eq_true _ (Classical.propDecidable _) h, fun h => @decide_eq_true _ (Classical.propDecidable _) h⟩
theorem ZzO (a : U G) : ap1 2 a = .bool (!a.toBool) := rfl
theorem Zv5 (a : U G) : ap1 14 a = .int (IntKind.wrap .u8 a.tI) := rfl
theorem Zv3 (a : U G) : ap1 17 a = .int (IntKind.wrap .u64 a.tI) := rfl
theorem ZI2 (a : U G) : ap1 23 a = .bool (decide (IntKind.min .i64 <= a.tI) && decide (a.tI <= IntKind.max .i64)) := rfl
theorem ZG4 (a : U G) : ap1 30 a = .int a.tN.length := rfl
theorem Ziq (a : U G) : ap1 31 a = .int a.tB.length := rfl
theorem ZgB (a : U G) : ap1 32 a = .int a.tR.length := rfl
theorem ZHT (a : U G) : ap1 33 a = .int a.tM.length := rfl
theorem Z3 (a : U G) : ap1 152 a = .ints [] := rfl
theorem Zm5 (a : U G) : ap1 153 a = .bytes [] := rfl
theorem Zgy (a : U G) : ap1 154 a = .rows [] := rfl
theorem ZFt (a : U G) : ap1 155 a = .amap [] := rfl
theorem ZIf (a : U G) : ap1 35 a = .int (Zed a.tB : Nat) := rfl
theorem ZIG (a : U G) : ap1 36 a = .bytes (decB a.tI.toNat) := rfl
theorem Zo5 (a b : U G) : ap2 40 a b = .int (a.tI + b.tI) := rfl
theorem Zye (a b : U G) : ap2 41 a b = .int (a.tI - b.tI) := rfl
theorem Zwz (a b : U G) : ap2 42 a b = .int (a.tI * b.tI) := rfl
theorem Zkm (a b : U G) : ap2 43 a b = .int (a.tI.tdiv b.tI) := rfl
theorem ZyC (a b : U G) : ap2 44 a b = .int (a.tI.tmod b.tI) := rfl
theorem ZfN (a b : U G) : ap2 45 a b = .bool (a.tI == b.tI) := rfl
theorem ZGA (a b : U G) : ap2 48 a b = .bool (a.toBool == b.toBool) := rfl
theorem ZGe (a b : U G) : ap2 49 a b = .bool (a.toBool && b.toBool) := rfl
theorem ZGF (a b : U G) : ap2 50 a b = .bool (a.toBool || b.toBool) := rfl
theorem Zsg (a b : U G) : ap2 107 a b = .int (a.tI.fdiv (2 ^ (min b.tI.toNat (IntKind.bits .u64)))) := rfl
theorem ZEu (a b : U G) : ap2 110 a b = .int (a.tN.getD b.tI.toNat 0) := rfl
theorem ZBV (a b : U G) : ap2 111 a b = .int ((a.tB.getD b.tI.toNat 0).toNat : Nat) := rfl
theorem ZB2 (a b : U G) : ap2 113 a b = .ints (a.tN.take b.tI.toNat) := rfl
theorem Zjl (a b : U G) : ap2 114 a b = .bytes (a.tB.take b.tI.toNat) := rfl
theorem ZmU (a b : U G) : ap2 115 a b = .rows (a.tR.take b.tI.toNat) := rfl
theorem ZDv (a b : U G) : ap2 117 a b = .bytes (a.tB.drop b.tI.toNat) := rfl
theorem Zmq (a b : U G) : ap2 120 a b = .bytes (a.tB ++ b.tB) := rfl
theorem Zmw (a b : U G) : ap2 121 a b = .rows (a.tR ++ b.tR) := rfl
theorem Z7 (a b : U G) : ap2 122 a b = .ints (a.tI :: b.tN) := rfl
theorem Znl (a b : U G) : ap2 123 a b = .bytes (UInt8.ofNat a.tI.toNat :: b.tB) := rfl
theorem Z5 (a b : U G) : ap2 124 a b = .rows (a.tN :: b.tR) := rfl
theorem ZnO (a b : U G) : ap2 126 a b = .bytes (List.replicate a.tI.toNat (UInt8.ofNat b.tI.toNat)) := rfl
theorem ZDu (a b : U G) : ap2 141 a b = .bool (Zbs a.tM b.tI) := rfl
theorem ZE4 (a b : U G) : ap2 143 a b = .amap (Zee a.tM b.tI) := rfl
theorem ZCn (a b : U G) : ap2 150 a b = .bool (a.tB == b.tB) := rfl
theorem ZB1 (a b : U G) : ap2 153 a b = .bool (a.tN == b.tN) := rfl
theorem Zce (a b c : U G) : ap3 112 a b c = .int ((a.tR.getD b.tI.toNat []).getD c.tI.toNat 0) := rfl
theorem Znp (a b c : U G) : ap3 131 a b c = .bytes (a.tB.set b.tI.toNat (UInt8.ofNat c.tI.toNat)) := rfl
theorem ZCu (a b c : U G) : ap3 132 a b c = .rows (a.tR.set b.tI.toNat c.tN) := rfl
theorem ZCV (a b c : U G) : ap3 140 a b c = .int (Zhb a.tI b.tM c.tI) := rfl
theorem ZEL (a b c : U G) : ap3 142 a b c = .amap (Za4 a.tM b.tI c.tI) := rfl
def Ztm (x y : Int) : Int := if y < x then y else x
def imax (x y : Int) : Int := if y > x then y else x
theorem ZFa {G : Type} (a b : U G) : ap2 51 a b = .int (Ztm a.tI b.tI) := rfl
theorem ZEb {G : Type} (a b : U G) : ap2 52 a b = .int (imax a.tI b.tI) := rfl
def leB (x y : Int) : Bool := decide (x <= y)
def ltB (x y : Int) : Bool := decide (x < y)
theorem t47 {G : Type} (a b : U G) : (ap2 47 a b).toBool = leB a.tI b.tI := rfl
theorem t46 {G : Type} (a b : U G) : (ap2 46 a b).toBool = ltB a.tI b.tI := rfl
theorem ZD8 {x y : Int} : leB x y = true ↔ x <= y := by unfold leB; simp
theorem ZBW {x y : Int} : ltB x y = true ↔ x < y := by unfold ltB; simp
theorem Zfo {p : Prop} {i : Decidable p} : (@decide p i = true) = p := propext ⟨fun h => of_decide_eq_true h, fun h => decide_eq_true h⟩
theorem p45 {G : Type} (a b : U G) : (ap2 45 a b).tP = (a.tI = b.tI) := by simp [ZfN]
theorem p153 {G : Type} (a b : U G) : (ap2 153 a b).tP = (a.tN = b.tN) := by simp [ZB1]
theorem p46 {G : Type} (a b : U G) : (ap2 46 a b).tP = (a.tI < b.tI) := Zfo
theorem p47 {G : Type} (a b : U G) : (ap2 47 a b).tP = (a.tI <= b.tI) := Zfo
theorem p2_45 {G : Type} (a b : U G) : (ap1 2 (ap2 45 a b)).tP = ¬ (a.tI = b.tI) := by simp [ZzO, ZfN]
theorem p50 {G : Type} (a b : U G) : (ap2 50 a b).tP = (a.toBool = true \/ b.toBool = true) := by simp [ZGF]
theorem b46 {G : Type} (a b : U G) : ((ap2 46 a b).toBool = true) = (a.tI < b.tI) := p46 a b
theorem b47 {G : Type} (a b : U G) : ((ap2 47 a b).toBool = true) = (a.tI <= b.tI) := p47 a b
theorem p23 {G : Type} (a : U G) : (ap1 23 a).tP = (IntKind.min .i64 <= a.tI /\ a.tI <= IntKind.max .i64) := by
 rw [ZI2, U.tPi, Bool.and_eq_true, Zfo, Zfo]
end
/-! ### Bits of words without sign, and the check sum -/
end
end Go.Eng
namespace Go.Eng
noncomputable section
open Go.RowKit (Below)
open Go.ChangeShapes Go.WideShapes
theorem Zet {H : Type} {enc : TypeId × Value -> H} {P : Program} {f : Func} {s : ChangeSpec} {apart fresh handsOn again : Bool} {W W' : World} {args : Array Value} {v : Value} {ds gs : List (DataW H)} {before pa pv : List MemPlace}
  (hW : DataW.Whole enc P f.params.toList s.vars apart W args.toList ds gs before)
  (hres : ∀ (b : Nat) (sp : Nat -> Bool) (hd : Bool), DataW.TrodAll enc P W' b sp hd f.resultTypes.toList (v.resultList f.resultTypes.size) (s.fn H (ds ++ gs)).results [])
  (hargs : ∀ sp : Nat -> Bool, (∀ p ∈ before, sp p.block = true) -> DataW.TrodAll enc P W' 0 sp true f.params.toList args.toList (s.fn H (ds ++ gs)).args pa)
  (hvars : ∀ sp : Nat -> Bool, (∀ p ∈ before, sp p.block = true) -> DataW.TrodVars enc P W' sp s.vars (s.fn H (ds ++ gs)).vars pv)
  (hps : before = pa ++ pv) (hb : Below W.heap.size W W')
  (hok : ∀ (j : Nat) (t : TypeId) (r : Value), f.resultTypes[j]? = some t -> (v.resultList f.resultTypes.size)[j]? = some r -> Value.okWide P W' .any 0 t r) :
  s.post enc P f apart fresh handsOn again W args v W' := by
 have hlt := fun p (hp : p ∈ before) => hW.lt p hp
 have hold : ∀ p ∈ before, (fun b => decide (b < W.heap.size)) p.block = true := fun p hp => by simpa using hlt p hp
 refine ⟨ds, gs, before, [], pa, pv, hW, hres _ _ _, hargs _ hold, hvars _ hold, World.keptBut_mono (fun p hp => ⟨hp, ?_⟩) (hb.frame (· ∈ before)), fun _ => ?_⟩
 ·rw [hps, List.mem_append] at hp; exact Or.inr hp
 ·obtain ⟨_, _, _, _, _, hz, hn⟩ := hW
  refine ⟨hok, _, _, ([] ++ pa) ++ pv, ⟨[] ++ pa, pv, trodAll_append (hargs _ (fun _ _ => rfl)) (hres _ _ _), hvars _ (fun _ _ => rfl), rfl, fun b off hp => ?_, fun ha => ?_⟩, fun p hp _ => ?_⟩
  ·have hp' : MemPlace.cell b off ∈ before := by rw [hps]; simpa using hp
   have h1 := hlt _ hp'
   rw [hb.frozen (p := ⟨b, off, none⟩) h1]
   exact hz b off hp'
  ·have := hn ha
   rw [hps] at this
   simpa using this
  ·rw [hps]; simpa using hp
def yes : Ctr := { ss := [], args := [], pre := [], reqs := [], ps := [], res := .one (.bool (.bool true)), post := [], facts := [] }
theorem ZoS (w : World) : Sat w (Zg emp emp) w := by
 rw [ZbT]
 exact ⟨Hl.none, rfl, ⟨fun _ _ _ _ h => (by cases h), fun _ _ _ h => (by cases h), Below.refl _ _⟩⟩
end
end Go.Eng
namespace Go.Proofs.YtlmkcakhhbckhaaGreatDoor
noncomputable section
open Go.Eng
def ai (n : Nat) : SX := .at .int n
def di (n : Nat) : SX := .at .int (1000000 + n)
def rA (n : Nat) : SX := .at .rows n
def gA (n : Nat) : SX := .at .g n
def bA (n : Nat) : SX := .at .bytes n
def z0 : SX := .int 0
def Zio : SX := .f1 152 (.int 0)
def nilB : SX := .f1 153 (.int 0)
def Zps : SX := .f1 154 (.int 0)
def tk (x n : SX) : SX := .f2 115 x n
def tkB (x n : SX) : SX := .f2 114 x n
def Zfx (x : SX) : SX := .f1 32 x
def Zag (x : SX) : SX := .f1 31 x
def eqS (a b : SX) : SX := .f2 155 a b
def usI (k : Nat) (a b c : SX) : SX := .us .int k a b c (.int 0)
def usB (k : Nat) (a b c : SX) : SX := .us .bool k a b c (.int 0)
def usR (k : Nat) (a b c : SX) : SX := .us .rows k a b c (.int 0)
def usN (k : Nat) (a b c : SX) : SX := .us .ints k a b c (.int 0)
def usG (k : Nat) (a b c : SX) : SX := .us .g k a b c (.int 0)
def usY (k : Nat) (a b c : SX) : SX := .us .bytes k a b c (.int 0)
def add1 (a : SX) : SX := SX.mk2 40 a (.int 1)
def ZC (a b : SX) : SX := .f2 124 a b
def YP (a b : SX) : SX := .f2 122 a (.f2 122 b Zio)
def Yz (a b c : SX) : SX := .f2 122 a (YP b c)
def Zki (a b c d : SX) : SX := .f2 122 a (Yz b c d)
def Zdq (a b c d e : SX) : SX := .f2 122 a (Zki b c d e)
def ZuC (a b c d e f : SX) : SX := .f2 122 a (Zdq b c d e f)
def ZFA (b l c : SX) : SX := Yz b l c
def nt (x i : SX) (k : Nat) : SX := .f3 112 x i (.int (k : Nat))
def slC (b n c : SX) (s : Nat) : SC := .slice b z0 z0 z0 n c s
def sl1 (b n c : SX) : SC := slC b n c 1
def slT : En := .rows [.slice 1]
def bAr (b x c : SX) : Ch := .arr .bytes b x c
def slA (b y c : SX) : Ch := .arr slT b y c
def g0 (r : List Int) : Int := r.getD 0 0
def g1 (r : List Int) : Int := r.getD 1 0
def g2 (r : List Int) : Int := r.getD 2 0
def slV (b n c : Int) : Value := .slice (if b < 0 then none else some ⟨b.toNat, 0, none⟩) n.toNat c.toNat
def Zfj (p : Prop) : Bool := @decide p (Classical.propDecidable p)
theorem ZkN {p : Prop} : (Zfj p = true) = p := propext ⟨fun h => @of_decide_eq_true p (Classical.propDecidable p) h, fun h => @decide_eq_true p (Classical.propDecidable p) h⟩
def sig0 : Sig Unit := { dg := (), ch := fun _ => true, usr := fun _ _ _ _ _ => .int 0, prd := fun _ _ _ _ => emp }
def bAD (b : Int) (x : List UInt8) (c : Int) : Zd := ZO sig0 .bytes (.int b) (.bytes x) (.int c)
def rAD (e : En) (b : Int) (x : List (List Int)) (c : Int) : Zd := ZO sig0 e (.int b) (.rows x) (.int c)
section
variable {G : Type}
theorem ZjJ (S : Sig G) (ρ : Go.Eng.Env G) (b n c : SX) (s : Nat) : (slC b n c s).den S ρ = slV (b.den S ρ).tI (n.den S ρ).tI (c.den S ρ).tI := by
 simp [slC, SC.den, slV, z0, SX.den]
theorem ZF (S : Sig G) (u : U G) : U.co S .int u = .int u.tI := rfl
theorem ZnB (S : Sig G) (u : U G) : U.co S .bool u = .bool u.toBool := rfl
theorem ZDX (S : Sig G) (u : U G) : U.co S .ints u = .ints u.tN := rfl
theorem ZD (S : Sig G) (u : U G) : U.co S .rows u = .rows u.tR := rfl
theorem ZI (S : Sig G) (u : U G) : U.co S .bytes u = .bytes u.tB := rfl
theorem ZGr (S : Sig G) (u : U G) : U.co S .amap u = .amap u.tM := rfl
theorem co_g (S : Sig G) (x : G) : U.co S .g (.g x) = .g x := rfl
theorem ZBS : IntKind.min .i64 = -9223372036854775808 := rfl
theorem ZED : IntKind.max .i64 = 9223372036854775807 := rfl
theorem ZyY (n : Int) : IntKind.u8.wrap n = n % 256 := by simp [IntKind.wrap, IntKind.bits, IntKind.signed]
theorem Ziu (n : Int) : IntKind.u64.wrap n = n % 18446744073709551616 := by simp [IntKind.wrap, IntKind.bits, IntKind.signed]
def lt01 (a b : Int) : Int := if a < b then 1 else 0
end
theorem Zfk {α : Type} {R : List α} {d : α} {n j : Nat} (h : j < n) : (R.take n).getD j d = R.getD j d := by
 rw [ZJn, ZJn, List.getElem?_take_of_lt h]
theorem ZaN {G : Type} (S : Sig G) {sp : Ctr} (H : ∀ (T : Sig G) (w0 : World) (ρ : Go.Eng.Env G) (h : Hl), T.usr = S.usr -> T.prd = S.prd -> T.dg = S.dg -> (∀ e ∈ sp.reqs, (e.den T ρ).tP) -> Ze T ρ w0 sp.pre h →
  ∃ ρ', Ext sp.ss.length ρ ρ' /\ Ze T ρ' w0 sp.post h /\ ∀ x ∈ sp.facts, (x.den T ρ').tP) : ZcO S sp := by
 intro ch w0 F ρ w hr hs
 obtain ⟨x, ⟨a, b, d, rfl, ha, hb⟩, hi⟩ := hs
 have e : ∀ (e : SX) ρ, e.den (S.wc ch) ρ = e.den S ρ := fun e ρ => SX.den_wc S ρ ch e
 obtain ⟨ρ', h1, h2, h3⟩ := H (S.wc ch) w0 ρ a rfl rfl rfl (fun q hq => by rw [e]; exact hr q hq) ha
 exact ⟨ρ', h1, ⟨_, ⟨a, b, d, rfl, h2, hb⟩, hi⟩, fun q hq => by rw [<- e]; exact h3 q hq⟩
theorem ZrB {G : Type} {S : Sig G} {e : En} {b x c : U G} {h : Hl} (hd : ZO S e b x c h) : (e.vals x).length <= c.tI.toNat * e.stride /\ 0 <= c.tI := by
 obtain ⟨sp, h1, h2, _⟩ := hd; exact ⟨by omega, h2⟩
theorem Zy2 {b c : Int} {x : List UInt8} {h : Hl} (n : Nat) (hd : bAD b x c h) : bAD b (x.take n) c h := by
 obtain ⟨sp, h1, h2, h3, h4⟩ := hd
 have e : ∀ y : List UInt8, En.bytes.vals (.bytes y : U Unit) = y.map fun b => Value.int .u8 (b.toNat : Nat) := fun _ => rfl
 refine ⟨(x.drop n).map (fun b => Value.int .u8 (b.toNat : Nat)) ++ sp, ?_, h2, h3, ?_⟩
 ·rw [e] at h1 ⊢
  rw [ZJx] at h1 ⊢
  rw [ZJs, ZJx, ZJp, ZJB]; omega
 ·rw [e] at h4 ⊢
  rw [<- ZJL, <- ZJD, List.take_append_drop]
  exact h4
theorem ZDl : bAD (-1) [] 0 = emp := by
 funext h
 refine propext ⟨fun hx => ?_, fun hx => ⟨[], rfl, ZJy 0, .inr rfl, by show row _ 0 [] true h; rw [ZfG]; exact hx⟩⟩
 obtain ⟨sp, l1, _, _, l4⟩ := hx
 have : sp = [] := ZJC (by have : (En.bytes.vals (.bytes [] : U Unit)).length = 0 := rfl; rw [this] at l1; simpa using l1)
 subst this
 have l4 : row _ 0 [] true h := l4
 rw [ZfG] at l4
 exact l4
theorem Zz7 {α : Type} {k : List α} {d : α} {i : Nat} (hi : i < k.length) : k = k.take i ++ ([k.getD i d] ++ k.drop (i + 1)) := by
 rw [List.singleton_append, ZJn, ZJq hi, Option.getD_some, <- List.drop_eq_getElem_cons hi, List.take_append_drop]
def ZBI : Ctr := ⟨[], [], [], [], [], .tup [], [bAr (.int (-1)) nilB z0], []⟩
theorem Zgb {G : Type} (S : Sig G) : ZcO S ZBI := by
 refine ZaN S fun T w0 ρ h hu hp hd hr hpre => ⟨ρ, Ext.refl _ _, ?_, by intro x hx; exact nomatch hx⟩
 have e1 : Ze T ρ w0 ZBI.pre = emp := rfl
 have e2 : Ze T ρ w0 ZBI.post = Zg (bAD (-1) [] 0) emp := rfl
 rw [e1] at hpre
 rw [e2, star_emp, ZDl]; exact hpre
/-! ### What the run is told, piece by piece -/
section
variable {G : Type} (S : Sig G) (P : Program)
def ZjF : List (Nat × List Ctr) -> Prop
 | [] => True
 | p :: l => (∀ sp ∈ p.2, sp.wf = true /\ Zr S P p.1 sp) /\ ZjF l
def Zo6 : List (Nat × List Ctr) -> Prop
 | [] => True
 | p :: l => (∀ sp ∈ p.2, sp.wf = true /\ ZfJ S P p.1 sp) /\ Zo6 l
def AnnOk : Ann -> Prop
 | .ghost sp _ => sp.wf = true /\ ZcO S sp
 | .inv _ => True
 | .split _ => True
 | .iff _ => True
 | .cut _ _ _ _ => True
def Zwn : List (Nat × Ann) -> Prop
 | [] => True
 | p :: l => AnnOk S p.2 /\ Zwn l
def Zpx : List (Nat × List (Nat × Ann)) -> Prop
 | [] => True
 | p :: l => Zwn S p.2 /\ Zpx l
variable {S} {P}
theorem ZjF.get {f : Nat} {sps : List Ctr} : ∀ {l : List (Nat × List Ctr)}, ZjF S P l -> ZS l f = some sps -> ∀ sp ∈ sps, sp.wf = true /\ Zr S P f sp
 | [], _, h => by cases h
 | (i, a) :: l, h1, h => by
  unfold ZS at h
  cases hb : Nat.beq i f
  ·rw [hb] at h; exact h1.2.get h
  ·rw [hb] at h; cases h; rw [<- ZJo hb]; exact h1.1
theorem Zo6.get {f : Nat} {sps : List Ctr} : ∀ {l : List (Nat × List Ctr)}, Zo6 S P l -> ZS l f = some sps -> ∀ sp ∈ sps, sp.wf = true /\ ZfJ S P f sp
 | [], _, h => by cases h
 | (i, a) :: l, h1, h => by
  unfold ZS at h
  cases hb : Nat.beq i f
  ·rw [hb] at h; exact h1.2.get h
  ·rw [hb] at h; cases h; rw [<- ZJo hb]; exact h1.1
theorem Zwn.get {i : Nat} {sp : Ctr} {args : List Operand} : ∀ {l : List (Nat × Ann)}, Zwn S l -> (i, Ann.ghost sp args) ∈ l -> sp.wf = true /\ ZcO S sp
 | [], _, h => by cases h
 | p :: l, h1, h => by
  rcases List.mem_cons.1 h with rfl | h
  ·exact h1.1
  ·exact h1.2.get h
theorem Zpx.get {f : Nat} {al : List (Nat × Ann)} : ∀ {l : List (Nat × List (Nat × Ann))}, Zpx S l -> ZS l f = some al -> Zwn S al
 | [], _, h => by cases h
 | (i, a) :: l, h1, h => by
  unfold ZS at h
  cases hb : Nat.beq i f
  ·rw [hb] at h; exact h1.2.get h
  ·rw [hb] at h; cases h; exact h1.1
theorem Zai {C : Cx} (h1 : ZjF S P C.specs) (h2 : Zpx S C.anns) (h3 : Zo6 S P C.exts) : ZrL S P C :=
 ⟨fun f sps h => h1.get h, fun f l h i sp args hm => (h2.get h).get hm, fun f sps h => h3.get h⟩
theorem Zk {f : Nat} {sp : Ctr} (hw : sp.wf = true) (h : Zr S P f sp) : ∀ q ∈ [sp], q.wf = true /\ Zr S P f q := by
 intro q hq; rw [ZJg] at hq; subst hq; exact ⟨hw, h⟩
theorem ZCw {f : Nat} {sp : Ctr} (hw : sp.wf = true) (h : ZfJ S P f sp) : ∀ q ∈ [sp], q.wf = true /\ ZfJ S P f q := by
 intro q hq; rw [ZJg] at hq; subst hq; exact ⟨hw, h⟩
end
open Go.Eng
abbrev z : SX := .int 0
abbrev k (n : Int) : SX := .int n
abbrev e (a b : SX) : SX := .f2 45 a b
abbrev t (a b : SX) : SX := .f2 46 a b
abbrev l (a b : SX) : SX := .f2 47 a b
abbrev i (e : SX) (k : VC) : VC := .imp e k
abbrev n (e : SX) (k : VC) : VC := .need e k
abbrev u (n : Nat) (s : Srt) (k : VC) : VC := .all n s k
abbrev k0 : SX := .int 140737488355328
abbrev k1 : SX := .int 18446744073709551616
abbrev k2 : SX := .int 4294967296
abbrev k3 : SX := .int 100000000000
abbrev k4 : SX := .int (-9223372036854775808)
abbrev k5 : SX := .int 9223372036854775808
abbrev k6 : SX := .int 18446744073709551615
abbrev k7 : SX := .int 4294967400
abbrev k8 : SX := .int 1152921504606846976
abbrev a (n : Nat) : SX := .at .int n
abbrev v (k : Nat) (x : SX) : SX := .us .int k x z z z
abbrev d (k : Nat) (x y : SX) : SX := .us .int k x y z z
abbrev x (k : Nat) (x y w : SX) : SX := .us .int k x y w z
abbrev q (n : Nat) : SX := .at .bool n
abbrev p (k : Nat) (x : SX) : SX := .us .bool k x z z z
abbrev c (k : Nat) (x y : SX) : SX := .us .bool k x y z z
abbrev y (k : Nat) (x y w : SX) : SX := .us .bool k x y w z
abbrev g (n : Nat) : SX := .at .g n
abbrev w (k : Nat) (x : SX) : SX := .us .g k x z z z
abbrev f (k : Nat) (x y : SX) : SX := .us .g k x y z z
abbrev h (k : Nat) (x y w : SX) : SX := .us .g k x y w z
abbrev b (n : Nat) : SX := .at .bytes n
abbrev j (k : Nat) (x : SX) : SX := .us .bytes k x z z z
abbrev wB (k : Nat) (x y : SX) : SX := .us .bytes k x y z z
abbrev hB (k : Nat) (x y w : SX) : SX := .us .bytes k x y w z
abbrev s (n : Nat) : SX := .at .ints n
abbrev o (k : Nat) (x : SX) : SX := .us .ints k x z z z
abbrev wN (k : Nat) (x y : SX) : SX := .us .ints k x y z z
abbrev hN (k : Nat) (x y w : SX) : SX := .us .ints k x y w z
abbrev r (n : Nat) : SX := .at .rows n
abbrev vR (k : Nat) (x : SX) : SX := .us .rows k x z z z
abbrev wR (k : Nat) (x y : SX) : SX := .us .rows k x y z z
abbrev hR (k : Nat) (x y w : SX) : SX := .us .rows k x y w z
abbrev m (n : Nat) : SX := .at .amap n
abbrev vM (k : Nat) (x : SX) : SX := .us .amap k x z z z
abbrev wM (k : Nat) (x y : SX) : SX := .us .amap k x y z z
abbrev hM (k : Nat) (x y w : SX) : SX := .us .amap k x y w z
abbrev sB := (And.intro @U.bool.injEq (And.intro @U.bytes.injEq (And.intro @U.int.injEq (And.intro @U.ints.injEq (And.intro @U.rows.injEq (And.intro @U.tQi (And.intro @U.tBi (And.intro @U.tIi (And.intro @U.tNi (And.intro @U.tMi (And.intro @U.tPi (And.intro @U.tRi (And.intro @Z3 (And.intro @Zm5 (And.intro @Zgy (And.intro @ZFt (And.intro @ZzO (And.intro @ZG4 (And.intro @Ziq (And.intro @ZgB (And.intro @ZHT (And.intro @ZIf (And.intro @ZIG (And.intro @ZEu (And.intro @ZBV (And.intro @ZB2 (And.intro @Zjl (And.intro @ZmU (And.intro @ZDv (And.intro @Zmq (And.intro @Zmw (And.intro @Z7 (And.intro @Znl (And.intro @Z5 (And.intro @ZnO (And.intro @ZDu (And.intro @ZE4 (And.intro @ZCn (And.intro @Zo5 (And.intro @Zye (And.intro @Zwz (And.intro @Zkm (And.intro @ZyC (And.intro @ZfN (And.intro @ZGA (And.intro @ZGe (And.intro @ZFa (And.intro @ZEb (And.intro @Zce (And.intro @Znp (And.intro @ZCu (And.intro @ZCV (And.intro @ZEL (And.intro @b46 (And.intro @b47 (And.intro @ZnB (And.intro @ZI (And.intro @co_g (And.intro @ZF (And.intro @ZDX (And.intro @ZGr (And.intro @ZD (And.intro @ZED (And.intro @ZBS (And.intro @ZD8 (And.intro @ZBW (And.intro @p153 (And.intro @ZAB (And.intro @p23 (And.intro @p2_45 (And.intro @p45 (And.intro @p46 (And.intro @p47 (And.intro @p50 (And.intro @ZkN (And.intro @t46 @t47))))))))))))))))))))))))))))))))))))))))))))))))))))))))))))))))))))))))))))
abbrev sC := (And.intro @Zv5 @Zv3)
end
end Go.Proofs.YtlmkcakhhbckhaaGreatDoor
namespace Go.Eng
section
variable {G : Type}
def Sig.bd (S : Sig G) (n : Int) : Sig G := { S with usr := fun f a b c d => if f = 999 then .int n else S.usr f a b c d }
def SX.nob : SX -> Bool
 | .f1 _ a => a.nob
 | .f2 _ a b => a.nob && b.nob
 | .f3 _ a b c => a.nob && (b.nob && c.nob)
 | .us _ f a b c d => !(f == 999) && (a.nob && (b.nob && (c.nob && d.nob)))
 | _ => true
def SC.nob : SC -> Bool
 | .int _ e => e.nob | .bool e => e.nob | .ptr b _ => b.nob | .ep b o i _ _ => b.nob && (o.nob && i.nob)
 | .slice b o k z l c _ => b.nob && (o.nob && (k.nob && (z.nob && (l.nob && c.nob))))
 | .str e => e.nob | .map b => b.nob | .cap g x => SC.nob g && SC.nob x | .ifc _ v => SC.nob v
 | .opq x i _ => x.nob && i.nob
 | _ => true
def SV.nob : SV -> Bool
 | .junk => true | .one c => c.nob | .agg cs => cs.all SC.nob | .tup vs => vs.all fun p => p.2.all SC.nob
def Ch.nob : Ch -> Bool
 | .cel b _ cs => b.nob && cs.all SC.nob
 | .arr _ b x c => b.nob && (x.nob && c.nob)
 | .ro _ b o x => b.nob && (o.nob && x.nob)
 | .rd _ _ b o x c => b.nob && (o.nob && (x.nob && c.nob))
 | .map _ _ b m => b.nob && m.nob
 | .prd _ k x => k.nob && x.nob
 | .itr _ _ b m r l c => b.nob && (m.nob && (r.nob && (l.nob && c.nob)))
def Ctr.nob (sp : Ctr) : Bool := sp.args.all SV.nob && (sp.pre.all Ch.nob && (sp.reqs.all SX.nob && (sp.res.nob && (sp.post.all Ch.nob && sp.facts.all SX.nob))))
variable (S : Sig G) (ρ : Env G)
theorem ZHq (n : Int) (s : Srt) (u : U G) : U.co (S.bd n) s u = U.co S s u := by cases s <;> rfl
theorem SX.den_bd (n : Int) : ∀ (e : SX), e.nob = true -> e.den (S.bd n) ρ = e.den S ρ := by
 intro e
 induction e with
 | int n => exact fun _ => rfl
 | bool n => exact fun _ => rfl
 | byt n => exact fun _ => rfl
 | «at» s i => exact fun _ => ZHq S n s _
 | f1 f a ih => intro h; simp only [SX.den]; rw [ih h]
 | f2 f a b ih ih' =>
  intro h
  simp only [SX.nob, Bool.and_eq_true] at h
  simp only [SX.den]; rw [ih h.1, ih' h.2]
 | f3 f a b c ih ih' ih'' =>
  intro h
  simp only [SX.nob, Bool.and_eq_true] at h
  simp only [SX.den]; rw [ih h.1, ih' h.2.1, ih'' h.2.2]
 | us s f a b c d ih ih' ih'' ih3 =>
  intro h
  simp only [SX.nob, Bool.and_eq_true] at h
  simp only [SX.den]; rw [ih h.2.1, ih' h.2.2.1, ih'' h.2.2.2.1, ih3 h.2.2.2.2, ZHq]
  have hf : f ≠ 999 := fun z => by have := h.1; rw [z] at this; simp at this
  show U.co S s (if f = 999 then _ else _) = _
  rw [if_neg hf]
theorem SC.den_bd (n : Int) : ∀ (e : SC), e.nob = true -> e.den (S.bd n) ρ = e.den S ρ := by
 intro e
 induction e with
 | cap g x ih ih' =>
  intro h
  simp only [SC.nob, Bool.and_eq_true] at h
  simp only [SC.den]; rw [ih h.1, ih' h.2]
 | ifc t v ih => intro h; simp only [SC.den]; rw [ih h]
 | int k e => intro h; simp only [SC.den]; rw [SX.den_bd S ρ n e h]
 | bool e => intro h; simp only [SC.den]; rw [SX.den_bd S ρ n e h]
 | ptr b o => intro h; simp only [SC.den]; rw [SX.den_bd S ρ n b h]
 | str e => intro h; simp only [SC.den]; rw [SX.den_bd S ρ n e h]
 | map b => intro h; simp only [SC.den]; rw [SX.den_bd S ρ n b h]
 | ep b o i s j =>
  intro h
  simp only [SC.nob, Bool.and_eq_true] at h
  simp only [SC.den]; rw [SX.den_bd S ρ n b h.1, SX.den_bd S ρ n o h.2.1, SX.den_bd S ρ n i h.2.2]
 | slice b o k z l c s =>
  intro h
  simp only [SC.nob, Bool.and_eq_true] at h
  simp only [SC.den]; rw [SX.den_bd S ρ n b h.1, SX.den_bd S ρ n o h.2.1, SX.den_bd S ρ n k h.2.2.1, SX.den_bd S ρ n z h.2.2.2.1, SX.den_bd S ρ n l h.2.2.2.2.1, SX.den_bd S ρ n c h.2.2.2.2.2]
 | opq x i p =>
  intro h
  simp only [SC.nob, Bool.and_eq_true] at h
  simp only [SC.den]; rw [SX.den_bd S ρ n x h.1, SX.den_bd S ρ n i h.2]
 | fn f => exact fun _ => rfl
 | nilfn => exact fun _ => rfl
 | nilif => exact fun _ => rfl
theorem SCs.den_bd (n : Int) {l : List SC} (h : l.all SC.nob = true) : l.map (SC.den (S.bd n) ρ) = l.map (SC.den S ρ) := List.map_congr_left fun c hc => SC.den_bd S ρ n c (List.all_eq_true.1 h c hc)
theorem SV.den_bd (n : Int) (v : SV) (h : v.nob = true) : v.den (S.bd n) ρ = v.den S ρ := by
 cases v with
 | junk => rfl
 | one c => exact SC.den_bd S ρ n c h
 | agg cs => simp only [SV.den]; rw [SCs.den_bd S ρ n h]
 | tup vs =>
  simp only [SV.den]
  congr 2
  apply List.map_congr_left
  intro p hp
  have hq := List.all_eq_true.1 h p hp
  unfold Zdx
  split
  ·exact SC.den_bd S ρ n _ (by simpa using hq)
  ·rw [SCs.den_bd S ρ n hq]
theorem SV.R_bd (n : Int) (v : SV) (h : v.nob = true) (x : Value) : v.R (S.bd n) ρ x ↔ v.R S ρ x := by unfold SV.R; rw [SV.den_bd S ρ n v h]
theorem Zfm (n : Int) : ∀ {l : List SV} {xs : List Value}, l.all SV.nob = true -> (Zaw (S.bd n) ρ l xs ↔ Zaw S ρ l xs)
 | [], [], _ => Iff.rfl
 | [], _ :: _, _ => Iff.rfl
 | _ :: _, [], _ => Iff.rfl
 | v :: l, x :: xs, h => by
  simp only [List.all_cons, Bool.and_eq_true] at h
  show (_ /\ _) ↔ (_ /\ _)
  rw [SV.R_bd S ρ n v h.1, Zfm n h.2]
theorem Ch.den_bd (w0 : World) (n : Int) (c : Ch) (h : c.nob = true) : c.den (S.bd n) ρ w0 = c.den S ρ w0 := by
 cases c with
 | cel b o cs =>
  simp only [Ch.nob, Bool.and_eq_true] at h
  simp only [Ch.den]; rw [SX.den_bd S ρ n b h.1, SCs.den_bd S ρ n h.2]
 | arr e b x c =>
  simp only [Ch.nob, Bool.and_eq_true] at h
  simp only [Ch.den]; rw [SX.den_bd S ρ n b h.1, SX.den_bd S ρ n x h.2.1, SX.den_bd S ρ n c h.2.2]; rfl
 | ro e b o x =>
  simp only [Ch.nob, Bool.and_eq_true] at h
  simp only [Ch.den]; rw [SX.den_bd S ρ n b h.1, SX.den_bd S ρ n o h.2.1, SX.den_bd S ρ n x h.2.2]; rfl
 | rd i e b o x c =>
  simp only [Ch.nob, Bool.and_eq_true] at h
  simp only [Ch.den]; rw [SX.den_bd S ρ n b h.1, SX.den_bd S ρ n o h.2.1, SX.den_bd S ρ n x h.2.2.1, SX.den_bd S ρ n c h.2.2.2]; rfl
 | map kk v b m =>
  simp only [Ch.nob, Bool.and_eq_true] at h
  simp only [Ch.den]; rw [SX.den_bd S ρ n b h.1, SX.den_bd S ρ n m h.2]
 | prd p k x =>
  simp only [Ch.nob, Bool.and_eq_true] at h
  simp only [Ch.den]; rw [SX.den_bd S ρ n k h.1, SX.den_bd S ρ n x h.2]; rfl
 | itr kk v b m r l c =>
  simp only [Ch.nob, Bool.and_eq_true] at h
  simp only [Ch.den]; rw [SX.den_bd S ρ n b h.1, SX.den_bd S ρ n m h.2.1, SX.den_bd S ρ n r h.2.2.1, SX.den_bd S ρ n l h.2.2.2.1, SX.den_bd S ρ n c h.2.2.2.2]
theorem ZGk (w0 : World) (n : Int) {l : List Ch} (h : l.all Ch.nob = true) : Ze (S.bd n) ρ w0 l = Ze S ρ w0 l := by
 unfold Ze
 congr 1
 exact List.map_congr_left fun c hc => Ch.den_bd S ρ w0 n c (List.all_eq_true.1 h c hc)
end
def ZB3 : SX := .us .int 999 (.int 0) (.int 0) (.int 0) (.int 0)
noncomputable def Ctr.le (sp : Ctr) (me : SX) : Ctr := { sp with reqs := eLe me ZB3 :: sp.reqs }
noncomputable def Ctr.lt (sp : Ctr) (me : SX) : Ctr := { sp with reqs := eLt me ZB3 :: sp.reqs }
section
variable {G : Type} (S : Sig G) {P : Program} {f : FuncId} {sp : Ctr} {me : SX}
theorem ZfB (n : Int) (ρ : Env G) : (ZB3.den (S.bd n) ρ).tI = n := rfl
theorem ZHL (hn : sp.nob = true) (hm : me.nob = true) {n m : Int} (hnm : m <= n + 1) (h : Zr (S.bd n) P f (sp.le me)) : Zr (S.bd m) P f (sp.lt me) := by
 unfold Ctr.nob at hn
 simp only [Bool.and_eq_true] at hn
 obtain ⟨n1, n2, n3, n4, n5, n6⟩ := hn
 intro ch w0 F ρ w xs ha hr hs
 have key : ∀ (k : Int) (ρ : Env G) (l : List Ch), l.all Ch.nob = true -> Ze ((S.bd k).wc ch) ρ w0 l = Ze (S.wc ch) ρ w0 l := fun k ρ l hl => ZGk (S.wc ch) ρ w0 k hl
 have h1 := h ch w0 F ρ w xs ((Zfm S ρ n n1).2 ((Zfm S ρ m n1).1 ha)) (fun e he => by
   rcases List.mem_cons.1 he with rfl | he
   ·have := hr (eLt me ZB3) (ZJv ..)
    rw [Yo, ZfB, SX.den_bd S ρ m me hm] at this
    rw [eLe_den, ZfB, SX.den_bd S ρ n me hm]
    omega
   ·have hq := List.all_eq_true.1 n3 e he
    rw [SX.den_bd S ρ n e hq, <- SX.den_bd S ρ m e hq]
    exact hr e (ZJt _ he)) (by
   show Sat w0 (Zg (Ze ((S.bd n).wc ch) ρ w0 sp.pre) F) w
   rw [key n ρ _ n2, <- key m ρ _ n2]; exact hs)
 refine h1.mono ?_
 rintro e w' ⟨ρ', v, hx, he, hv, hs', hf⟩
 refine ⟨ρ', v, hx, he, (SV.R_bd S ρ' m sp.res n4 v).2 ((SV.R_bd S ρ' n sp.res n4 v).1 hv), ?_, fun x hx => ?_⟩
 ·show Sat w0 (Zg (Ze ((S.bd m).wc ch) ρ' w0 sp.post) F) w'
  rw [key m ρ' _ n5, <- key n ρ' _ n5]; exact hs'
 ·have hq := List.all_eq_true.1 n6 x hx
  rw [SX.den_bd S ρ' m x hq, <- SX.den_bd S ρ' n x hq]
  exact hf x hx
theorem ZGg (hn : sp.nob = true) (hm : me.nob = true) (h0 : eLe (.int 0) me ∈ sp.reqs) (step : ∀ n : Nat, Zr (S.bd n) P f (sp.lt me) -> Zr (S.bd n) P f (sp.le me)) : ∀ n : Nat, Zr (S.bd n) P f (sp.le me) := by
 intro n
 induction n with
 | zero =>
  refine step 0 fun ch w0 F ρ w xs ha hr hs => ?_
  have a := hr (eLt me ZB3) (ZJv ..)
  have b := hr _ (ZJt _ h0)
  rw [Yo, ZfB] at a
  rw [eLe_den] at b
  have b : 0 <= (me.den (S.bd 0) ρ).tI := b
  exact absurd a (by show ¬ (me.den (S.bd 0) ρ).tI < 0; omega)
 | succ n ih => exact step (n + 1) (ZHL S hn hm (by omega) ih)
theorem Zc7 (hn : sp.nob = true) (hm : me.nob = true) (h0 : eLe (.int 0) me ∈ sp.reqs) (step : ∀ n : Nat, Zr (S.bd n) P f (sp.lt me) -> Zr (S.bd n) P f (sp.le me)) : Zr S P f sp := by
 have hn' := hn
 unfold Ctr.nob at hn
 simp only [Bool.and_eq_true] at hn
 obtain ⟨n1, n2, n3, n4, n5, n6⟩ := hn
 intro ch w0 F ρ w xs ha hr hs
 have key : ∀ (k : Int) (ρ : Env G) (l : List Ch), l.all Ch.nob = true -> Ze ((S.bd k).wc ch) ρ w0 l = Ze (S.wc ch) ρ w0 l := fun k ρ l hl => ZGk (S.wc ch) ρ w0 k hl
 have b := hr _ h0
 rw [eLe_den] at b
 have b : 0 <= (me.den S ρ).tI := b
 have h1 := ZGg S hn' hm h0 step (me.den S ρ).tI.toNat ch w0 F ρ w xs ((Zfm S ρ _ n1).2 ha) (fun e he => by
   rcases List.mem_cons.1 he with rfl | he
   ·rw [eLe_den, ZfB, SX.den_bd S ρ _ me hm]; omega
   ·rw [SX.den_bd S ρ _ e (List.all_eq_true.1 n3 e he)]
    exact hr e he) (by
   show Sat w0 (Zg (Ze ((S.bd _).wc ch) ρ w0 sp.pre) F) w
   rw [key _ ρ _ n2]; exact hs)
 refine h1.mono ?_
 rintro e w' ⟨ρ', v, hx, he, hv, hs', hf⟩
 refine ⟨ρ', v, hx, he, (SV.R_bd S ρ' _ sp.res n4 v).1 hv, ?_, fun x hx => ?_⟩
 ·rw [<- key ((me.den S ρ).tI.toNat : Nat) ρ' _ n5]; exact hs'
 ·rw [<- SX.den_bd S ρ' ((me.den S ρ).tI.toNat : Nat) x (List.all_eq_true.1 n6 x hx)]
  exact hf x hx
end
end Go.Eng
namespace Go.Proofs.YtlmkcakhhbckhaaGreatDoor
noncomputable section
open Go.Eng
inductive Nd where
 | mk (h : List Int) (l : List Nd)
def Nd.h : Nd -> List Int | .mk h _ => h
def Nd.l : Nd -> List Nd | .mk _ l => l
def nd0 : Nd := .mk [] []
def Nd.kid (n : Nd) (i : Int) : Nd := n.l.getD i.toNat nd0
def ht (r : List Int) : List UInt8 := decB (r.getD 2 0).toNat
def itF : List Go.Eng.Fd := [.int .i64, .int .i64, .str, .slo 4]
def itE : En := .rows itF
def Yh (l : List Nd) : List (List Int) := l.map Nd.h
def ltOk (w : World) (h : List Int) (l : List Nd) : Prop :=
 h.getD 6 0 = l.length /\ (l ≠ [] -> 0 <= h.getD 3 0 /\ h.getD 5 0 < 0) ∧
  ∀ (i : Nat) v, ((Yh l).flatMap (Zs itF))[i]? = some v -> (h.getD 3 0).toNat < w.heap.size /\ w.cell? ⟨(h.getD 3 0).toNat, (h.getD 4 0).toNat + i, none⟩ = some v
mutual
def RT (w : World) : Nd -> Prop
 | .mk h l => ltOk w h l /\ RTs w l
def RTs (w : World) : List Nd -> Prop
 | [] => True
 | n :: l => RT w n /\ RTs w l
end
mutual
/-- No list, no text is longer than an int can tell. -/
def TG : Nd -> Prop
 | .mk h l => (l.length : Int) <= 9223372036854775807 /\ (((ht h).length : Int) <= 9223372036854775807 /\ -9223372036854775808 <= h.getD 1 0 /\ h.getD 1 0 <= 9223372036854775807) /\ TGs l
def TGs : List Nd -> Prop
 | [] => True
 | n :: l => TG n /\ TGs l
end
mutual
def dep : Nd -> Nat
 | .mk _ l => deps l + 1
def deps : List Nd -> Nat
 | [] => 0
 | n :: l => max (dep n) (deps l)
end
mutual
/-- The document's weight. -/
def wg : Nd -> Int -> Int
 | .mk _ l, n => wgs l n
def wgs : List Nd -> Int -> Int
 | [], n => n
 | x :: l, n => if n <= 100000 then wgs l (wg x (n + 1 + ((ht x.h).length : Int).tdiv 64)) else n
end
theorem Zu5 {w : World} : ∀ {l : List Nd}, RTs w l -> ∀ n ∈ l, RT w n
 | [], _, n, hn => nomatch hn
 | m :: l, h, n, hn => by
  unfold RTs at h
  rcases List.mem_cons.1 hn with rfl | hn
  ·exact h.1
  ·exact Zu5 h.2 n hn
theorem ZiS : ∀ {l : List Nd}, TGs l -> ∀ n ∈ l, TG n
 | [], _, n, hn => nomatch hn
 | m :: l, h, n, hn => by
  unfold TGs at h
  rcases List.mem_cons.1 hn with rfl | hn
  ·exact h.1
  ·exact ZiS h.2 n hn
theorem Zp0 : ∀ {l : List Nd}, ∀ n ∈ l, dep n <= deps l
 | [], n, hn => nomatch hn
 | m :: l, n, hn => by
  unfold deps
  rcases List.mem_cons.1 hn with rfl | hn
  ·omega
  ·have := Zp0 n hn; omega
theorem Nd.eta (n : Nd) : n = .mk n.h n.l := by cases n; rfl
theorem Zgr {w : World} (n : Nd) : RT w n ↔ ltOk w n.h n.l /\ RTs w n.l := by cases n; unfold RT; rfl
theorem Zao (n : Nd) : TG n ↔ (n.l.length : Int) <= 9223372036854775807 /\ (((ht n.h).length : Int) <= 9223372036854775807 /\ -9223372036854775808 <= n.h.getD 1 0 /\ n.h.getD 1 0 <= 9223372036854775807) /\ TGs n.l := by cases n; unfold TG; rfl
theorem Zbv {n : Nd} {i : Int} (h0 : 0 <= i) (h1 : i < n.l.length) : n.kid i ∈ n.l := by
 unfold Nd.kid
 have : i.toNat < n.l.length := by omega
 rw [ZJn, ZJq this]; exact List.getElem_mem _
theorem ZE7 {n : Nd} {i : Int} (h0 : 0 <= i) (h1 : i < n.l.length) : dep (n.kid i) < dep n := by
 have := Zp0 _ (Zbv h0 h1)
 cases n with
 | mk h l => unfold dep at *; exact Nat.lt_succ_of_le this
theorem Zcf {n : Nd} {i : Int} (h0 : 0 <= i) (h1 : i < n.l.length) : (Yh n.l).getD i.toNat [] = (n.kid i).h := by
 unfold Nd.kid Yh
 have : i.toNat < n.l.length := by omega
 rw [ZJn, ZJn, ZJj, ZJq this]; rfl
theorem Yn (l : List Nd) : (Yh l).length = l.length := by unfold Yh; simp
def ndU : U Nd -> Nd | .g n => n | _ => nd0
structure TaSig (S : Sig Nd) : Prop where
 dg : S.dg = nd0
 p200 : ∀ w0 k x, S.prd 200 w0 k x = Zd.pure (RT w0 (ndU x) /\ (ndU x).h.drop 3 = k.tN)
 u601 : ∀ a b c d, S.usr 601 a b c d = .rows (Yh (ndU a).l)
 u602 : ∀ a b c d, S.usr 602 a b c d = .ints ((a.tR.getD b.tI.toNat []).drop 3)
 u604 : ∀ a b c d, S.usr 604 a b c d = .g ((ndU a).kid b.tI)
 u606 : ∀ a b c d, S.usr 606 a b c d = .int (dep (ndU a))
 u607 : ∀ a b c d, S.usr 607 a b c d = .int (wgs ((ndU a).l.drop b.tI.toNat) c.tI)
 u608 : ∀ a b c d, S.usr 608 a b c d = .bool (Zfj (TG (ndU a)))
 u609 : ∀ a b c d, S.usr 609 a b c d = .int ((ndU a).l.length : Nat)
theorem ZG3 {S : Sig Nd} (h : TaSig S) (n : Int) : TaSig (S.bd n) := ⟨h.1, h.2, h.3, h.4, h.5, h.6, h.7, h.8, h.9⟩
theorem Znt {S : Sig Nd} {n : Int} (a b c d : U Nd) : (S.bd n).usr 999 a b c d = .int n := rfl
theorem ZaA (n : Nd) : ndU (.g n) = n := rfl
def hdX (X I : SX) : SX := usN 602 X I z0
def rtC (X I g : SX) : Ch := .prd 200 (hdX X I) g
def krX (g : SX) : SX := usR 601 g z0 z0
def kdX (g i : SX) : SX := usG 604 g i z0
def dpX (g : SX) : SX := usI 606 g z0 z0
def tgX (g : SX) : SX := usB 608 g z0 z0
def lnX (g : SX) : SX := usI 609 g z0 z0
def leC (sp : Ctr) (me : SX) : Ctr := { sp with reqs := eLe me ZB3 :: sp.reqs }
def ltC (sp : Ctr) (me : SX) : Ctr := { sp with reqs := eLt me ZB3 :: sp.reqs }
def ZAd : Ctr := ⟨[.rows, .int, .g], [.one (.opq (rA 0) (ai 1) 3)], [rtC (rA 0) (ai 1) (gA 2)], [], [], .tup [], [rtC (rA 0) (ai 1) (gA 2), .ro itE (nt (rA 0) (ai 1) 3) (nt (rA 0) (ai 1) 4) (krX (gA 2))],
 [.f2 45 (nt (rA 0) (ai 1) 6) (Zfx (krX (gA 2))), .f2 45 (nt (rA 0) (ai 1) 6) (lnX (gA 2)), .f2 50 (eLe z0 (nt (rA 0) (ai 1) 3)) (.f2 45 (nt (rA 0) (ai 1) 6) z0), .f2 50 (eLt (nt (rA 0) (ai 1) 5) z0) (.f2 45 (nt (rA 0) (ai 1) 6) z0)]⟩
def Zxa : Ctr := ⟨[.rows, .int, .g, .int], [.one (.opq (rA 0) (ai 1) 3), .one (.int .i64 (ai 3))], [rtC (rA 0) (ai 1) (gA 2)], [eLe z0 (ai 3), eLt (ai 3) (nt (rA 0) (ai 1) 6), tgX (gA 2)], [], .tup [], [rtC (rA 0) (ai 1) (gA 2), rtC (krX (gA 2)) (ai 3) (kdX (gA 2) (ai 3))],
 [eLt (dpX (kdX (gA 2) (ai 3))) (dpX (gA 2)), eLe z0 (dpX (kdX (gA 2) (ai 3))), tgX (kdX (gA 2) (ai 3))]⟩
theorem Zc0 {S T : Sig Nd} (hS : TaSig S) (hu : T.usr = S.usr) (hp : T.prd = S.prd) (ρ : Go.Eng.Env Nd) (w0 : World) (X I g : SX) :
  (rtC X I g).den T ρ w0 = Zd.pure (RT w0 (ndU (g.den T ρ)) /\ (ndU (g.den T ρ)).h.drop 3 = ((X.den T ρ).tR.getD (I.den T ρ).tI.toNat []).drop 3) := by
 show T.prd 200 w0 ((hdX X I).den T ρ) (g.den T ρ) = _
 rw [hp, hS.p200]
 have e : ((hdX X I).den T ρ).tN = ((X.den T ρ).tR.getD (I.den T ρ).tI.toNat []).drop 3 := by
  show (U.co T .ints (T.usr 602 _ _ _ _)).tN = _
  rw [hu, hS.u602]; rfl
 rw [e]
theorem Zoz {a b : U Nd} (h : a.toBool = true \/ b.toBool = true) : (ap2 50 a b).tP := by rw [p50]; exact h
theorem ZfC {p q : Prop} {h : Hl} (hq : p -> q) (hp : Zd.pure p h) : Zg (Zd.pure p) (Zg (Zd.pure q) emp) h := by
 rw [star_pure]
 exact ⟨hp.1, by rw [star_pure]; exact ⟨hq hp.1, hp.2⟩⟩
theorem ZtB {a b : List Int} (h : a.drop 3 = b.drop 3) (q : Nat) (hq : 3 <= q) : a.getD q 0 = b.getD q 0 := by
 have e : ∀ l : List Int, l.getD q 0 = (l.drop 3).getD (q - 3) 0 := fun l => by
  rw [ZJn, ZJn, ZJM, show 3 + (q - 3) = q by omega]
 rw [e a, e b, h]
theorem Zgx (S : Sig Nd) (hS : TaSig S) : ZcO S ZAd := by
 refine ZaN S fun T w0 ρ h hu hp hd hr hpre => ⟨ρ, Ext.refl _ _, ?_, ?_⟩
 ·have hpre : Zg ((rtC (rA 0) (ai 1) (gA 2)).den T ρ w0) emp h := hpre
  rw [star_emp, Zc0 hS hu hp] at hpre
  show Zg ((rtC (rA 0) (ai 1) (gA 2)).den T ρ w0) (Zg (Zq4 T w0 itE ((nt (rA 0) (ai 1) 3).den T ρ) ((nt (rA 0) (ai 1) 4).den T ρ) ((krX (gA 2)).den T ρ)) emp) h
  rw [Zc0 hS hu hp]
  refine ZfC (fun ⟨h1, h2⟩ => ?_) hpre
  have ek : ((krX (gA 2)).den T ρ).tR = Yh (ndU ((gA 2).den T ρ)).l := by
   show (U.co T .rows (T.usr 601 _ _ _ _)).tR = _
   rw [hu, hS.u601]; rfl
  have ev : itE.vals ((krX (gA 2)).den T ρ) = (Yh (ndU ((gA 2).den T ρ)).l).flatMap (Zs itF) := by
   show (((krX (gA 2)).den T ρ).tR).flatMap (Zs itF) = _
   rw [ek]
  have e3 : ((nt (rA 0) (ai 1) 3).den T ρ).tI = (ndU ((gA 2).den T ρ)).h.getD 3 0 := (ZtB h2 3 (ZJd _)).symm
  have e4 : ((nt (rA 0) (ai 1) 4).den T ρ).tI = (ndU ((gA 2).den T ρ)).h.getD 4 0 := (ZtB h2 4 (by omega)).symm
  rw [ev, e3, e4]
  obtain ⟨⟨a1, a2, a3⟩, _⟩ := (Zgr _).1 h1
  refine ⟨?_, a3⟩
  by_cases hl : (ndU ((gA 2).den T ρ)).l = []
  ·right; rw [hl]; rfl
  ·left; exact (a2 hl).1
 ·have hpre : Zg ((rtC (rA 0) (ai 1) (gA 2)).den T ρ w0) emp h := hpre
  rw [star_emp, Zc0 hS hu hp] at hpre
  obtain ⟨⟨h1, h2⟩, _⟩ := hpre
  obtain ⟨⟨a1, a2, a3⟩, _⟩ := (Zgr _).1 h1
  have e : ∀ q : Nat, 3 <= q -> ((nt (rA 0) (ai 1) q).den T ρ).tI = (ndU ((gA 2).den T ρ)).h.getD q 0 := fun q hq => (ZtB h2 q hq).symm
  have ek : ((krX (gA 2)).den T ρ).tR = Yh (ndU ((gA 2).den T ρ)).l := by
   show (U.co T .rows (T.usr 601 _ _ _ _)).tR = _
   rw [hu, hS.u601]; rfl
  have el : ((lnX (gA 2)).den T ρ).tI = ((ndU ((gA 2).den T ρ)).l.length : Nat) := by
   show (U.co T .int (T.usr 609 _ _ _ _)).tI = _
   rw [hu, hS.u609]; rfl
  intro x hx
  simp only [ZAd, List.mem_cons, List.not_mem_nil, or_false] at hx
  rcases hx with rfl | rfl | rfl | rfl
  ·show (ap2 45 _ _).tP
   rw [p45, e 6 (by omega), a1]
   show _ = ((((krX (gA 2)).den T ρ).tR.length : Nat) : Int)
   rw [ek, Yn]
  ·show (ap2 45 _ _).tP
   rw [p45, e 6 (by omega), a1, el]
  ·show (ap2 50 ((eLe z0 (nt (rA 0) (ai 1) 3)).den T ρ) ((SX.f2 45 (nt (rA 0) (ai 1) 6) z0).den T ρ)).tP
   by_cases hl : (ndU ((gA 2).den T ρ)).l = []
   ·refine Zoz (.inr ?_)
    show (ap2 45 _ _).toBool = true
    rw [ZfN, e 6 (by omega), a1, hl]; rfl
   ·refine Zoz (.inl ?_)
    rw [Zfw, e 3 (by omega)]; exact decide_eq_true (a2 hl).1
  ·show (ap2 50 ((eLt (nt (rA 0) (ai 1) 5) z0).den T ρ) ((SX.f2 45 (nt (rA 0) (ai 1) 6) z0).den T ρ)).tP
   by_cases hl : (ndU ((gA 2).den T ρ)).l = []
   ·refine Zoz (.inr ?_)
    show (ap2 45 _ _).toBool = true
    rw [ZfN, e 6 (by omega), a1, hl]; rfl
   ·refine Zoz (.inl ?_)
    rw [Y5, e 5 (by omega)]; exact decide_eq_true (a2 hl).2
theorem ZHe {S T : Sig Nd} (hS : TaSig S) (hu : T.usr = S.usr) (ρ : Go.Eng.Env Nd) (g : SX) : ((krX g).den T ρ).tR = Yh (ndU (g.den T ρ)).l := by
 show (U.co T .rows (T.usr 601 _ _ _ _)).tR = _
 rw [hu, hS.u601]; rfl
theorem ZrR {S T : Sig Nd} (hS : TaSig S) (hu : T.usr = S.usr) (ρ : Go.Eng.Env Nd) (g i : SX) : ndU ((kdX g i).den T ρ) = (ndU (g.den T ρ)).kid (i.den T ρ).tI := by
 show ndU (U.co T .g (T.usr 604 _ _ _ _)) = _
 rw [hu, hS.u604]; rfl
theorem ZcU {S T : Sig Nd} (hS : TaSig S) (hu : T.usr = S.usr) (ρ : Go.Eng.Env Nd) (g : SX) : ((dpX g).den T ρ).tI = dep (ndU (g.den T ρ)) := by
 show (U.co T .int (T.usr 606 _ _ _ _)).tI = _
 rw [hu, hS.u606]; rfl
theorem ZdT {S T : Sig Nd} (hS : TaSig S) (hu : T.usr = S.usr) (ρ : Go.Eng.Env Nd) (g : SX) : ((tgX g).den T ρ).tP ↔ TG (ndU (g.den T ρ)) := by
 show (U.co T .bool (T.usr 608 _ _ _ _)).tP ↔ _
 rw [hu, hS.u608]
 show Zfj _ = true ↔ _
 rw [ZkN]
theorem ZBc {S T : Sig Nd} (hS : TaSig S) (hu : T.usr = S.usr) (hp : T.prd = S.prd) {ρ : Go.Eng.Env Nd} {w0 : World} {X I g i : SX} {h : Hl} (hpre : (rtC X I g).den T ρ w0 h) (r0 : 0 <= (i.den T ρ).tI) (r1 : (i.den T ρ).tI < ((nt X I 6).den T ρ).tI) (r2 : TG (ndU (g.den T ρ))) :
  Zg ((rtC X I g).den T ρ w0) ((rtC (krX g) i (kdX g i)).den T ρ w0) h /\ dep (ndU ((kdX g i).den T ρ)) < dep (ndU (g.den T ρ)) /\ TG (ndU ((kdX g i).den T ρ)) := by
 rw [Zc0 hS hu hp] at hpre
 rw [Zc0 hS hu hp, Zc0 hS hu hp, ZHe hS hu, ZrR hS hu]
 obtain ⟨⟨h1, h2⟩, hn⟩ := hpre
 obtain ⟨⟨a1, a2, a3⟩, a4⟩ := (Zgr _).1 h1
 have e6 : ((nt X I 6).den T ρ).tI = (ndU (g.den T ρ)).h.getD 6 0 := (ZtB h2 6 (by omega)).symm
 rw [e6, a1] at r1
 refine ⟨?_, ZE7 r0 r1, ZiS ((Zao _).1 r2).2.2 _ (Zbv r0 r1)⟩
 rw [star_pure]
 exact ⟨⟨h1, h2⟩, ⟨Zu5 a4 _ (Zbv r0 r1), by rw [Zcf r0 r1]⟩, hn⟩
theorem ZhE (S : Sig Nd) (hS : TaSig S) : ZcO S Zxa := by
 refine ZaN S fun T w0 ρ h hu hp hd hr hpre => ⟨ρ, Ext.refl _ _, ?_⟩
 have r0 := hr (eLe z0 (ai 3)) (by simp [Zxa])
 have r1 := hr (eLt (ai 3) (nt (rA 0) (ai 1) 6)) (by simp [Zxa])
 have r2 := hr (tgX (gA 2)) (by simp [Zxa])
 rw [eLe_den] at r0
 rw [Yo] at r1
 rw [ZdT hS hu] at r2
 have hpre : Zg ((rtC (rA 0) (ai 1) (gA 2)).den T ρ w0) emp h := hpre
 rw [star_emp] at hpre
 obtain ⟨q1, q2, q3⟩ := ZBc hS hu hp hpre r0 r1 r2
 refine ⟨?_, ?_⟩
 ·show Zg ((rtC (rA 0) (ai 1) (gA 2)).den T ρ w0) (Zg ((rtC (krX (gA 2)) (ai 3) (kdX (gA 2) (ai 3))).den T ρ w0) emp) h
  rw [star_emp]; exact q1
 ·intro x hx
  simp only [Zxa, List.mem_cons, List.not_mem_nil, or_false] at hx
  rcases hx with rfl | rfl | rfl
  ·rw [Yo, ZcU hS hu, ZcU hS hu]
   exact Int.ofNat_lt.2 q2
  ·rw [eLe_den, ZcU hS hu]
   exact Int.natCast_nonneg _
  ·rw [ZdT hS hu]; exact q3
def sgn (a b : Int) : Int := if a < b then -1 else if b < a then 1 else 0
def srt (n : Int) : Int := if n < 0 then -1 - n else n + 9223372036854775808
mutual
def ZkG : Nd -> Nd -> Int
 | .mk h l, .mk k m =>
  if h.getD 0 0 < k.getD 0 0 then -1 else if k.getD 0 0 < h.getD 0 0 then 1
  else if h.getD 0 0 = 3 then sgn (h.getD 1 0) (k.getD 1 0)
  else if h.getD 0 0 = 4 then sgn (srt (h.getD 1 0)) (srt (k.getD 1 0))
  else if h.getD 0 0 = 5 \/ h.getD 0 0 = 6 then Lib.compareBytes (ht h) (ht k)
  else if h.getD 0 0 = 7 then Zfu l m else 0
def Zfu : List Nd -> List Nd -> Int
 | [], [] => 0
 | [], _ :: _ => -1
 | _ :: _, [] => 1
 | x :: l, y :: m => if ZkG x y = 0 then Zfu l m else ZkG x y
end
structure TcSig (S : Sig Nd) : Prop where
 ta : TaSig S
 u610 : ∀ a b c d, S.usr 610 a b c d = .int (Zfu ((ndU a).l.drop c.tI.toNat) ((ndU b).l.drop c.tI.toNat))
 u611 : ∀ a b c d, S.usr 611 a b c d = .int (Lib.compareBytes a.tB b.tB)
 u612 : ∀ a b c d, S.usr 612 a b c d = .int (ZkG (ndU a) (ndU b))
 u613 : ∀ a b c d, S.usr 613 a b c d = .int ((ndU a).h.getD b.tI.toNat 0)
 u614 : ∀ a b c d, S.usr 614 a b c d = .bytes (ht (ndU a).h)
theorem tc_bd {S : Sig Nd} (h : TcSig S) (n : Int) : TcSig (S.bd n) := ⟨ZG3 h.ta n, h.2, h.3, h.4, h.5, h.6⟩
def hdI (g : SX) (k : Nat) : SX := usI 613 g (.int k) z0
def htX (g : SX) : SX := usY 614 g z0 z0
/-! ### Texts -/
/-! ### Two items: 0 .. 5, 6 .. 11 each kind, number, text, rows, place, tree -/
def itA (k : Nat) : SV := .agg [.int .i64 (ai k), .int .i64 (ai (k + 1)), .str (bA (k + 2)), .opq (rA (k + 3)) (ai (k + 4)) 3]
def itQ (k : Nat) : List SX := [.f2 45 (ai k) (hdI (gA (k + 5)) 0), .f2 45 (ai (k + 1)) (hdI (gA (k + 5)) 1), eqS (bA (k + 2)) (htX (gA (k + 5)))]
theorem Zda (g k : Nd) : ZkG g k = if g.h.getD 0 0 < k.h.getD 0 0 then -1 else if k.h.getD 0 0 < g.h.getD 0 0 then 1
  else if g.h.getD 0 0 = 3 then sgn (g.h.getD 1 0) (k.h.getD 1 0)
  else if g.h.getD 0 0 = 4 then sgn (srt (g.h.getD 1 0)) (srt (k.h.getD 1 0))
  else if g.h.getD 0 0 = 5 \/ g.h.getD 0 0 = 6 then Lib.compareBytes (ht g.h) (ht k.h)
  else if g.h.getD 0 0 = 7 then Zfu g.l k.l else 0 := by
 cases g; cases k; unfold ZkG; rfl
theorem n83 {G : Type} (a b : U G) : ap2 83 a b = .int (Yb .xor .u64 a.tI b.tI) := rfl
theorem n75' {G : Type} (a b : U G) : ap2 75 a b = .int (Yb .or .u64 a.tI b.tI) := rfl
theorem n103 {G : Type} (a : U G) : ap2 103 a (.int 63) = .int (a.tI.fdiv 9223372036854775808) := rfl
theorem ZFk {n : Nat} (h : n < 9223372036854775808) : n ^^^ 9223372036854775808 = n + 9223372036854775808 := by
 apply Nat.eq_of_testBit_eq
 intro j
 rw [Nat.testBit_xor, show (9223372036854775808 : Nat) = 2 ^ 63 from rfl, Nat.add_comm, Nat.testBit_two_pow]
 rcases Nat.lt_trichotomy j 63 with hj | hj | hj
 ·rw [Nat.testBit_two_pow_add_gt hj, decide_eq_false (by omega)]; simp
 ·subst hj
  rw [Nat.testBit_two_pow_add_eq]; simp
 ·have h1 : n.testBit j = false := Nat.testBit_lt_two_pow (Nat.lt_of_lt_of_le h (by rw [show (9223372036854775808 : Nat) = 2 ^ 63 from rfl]; exact Nat.pow_le_pow_right (by omega) (by omega)))
  have h2 : (2 ^ 63 + n).testBit j = false := Nat.testBit_lt_two_pow (Nat.lt_of_lt_of_le (show 2 ^ 63 + n < 2 ^ 64 by omega) (Nat.pow_le_pow_right (by omega) (by omega)))
  rw [h1, h2, decide_eq_false (by omega)]; rfl
theorem Zl2 {x : Int} (h0 : 0 <= x) (h1 : x < 18446744073709551616) : IntKind.u64.wrap x = x := by rw [Ziu]; omega
theorem ZI1 {x : Int} (h0 : 0 <= x) (h1 : x < 9223372036854775808) : Yb .xor .u64 x 9223372036854775808 = x + 9223372036854775808 := by
 obtain ⟨n, rfl⟩ := ZJf h0
 unfold Yb
 have e1 : BitVec.ofInt IntKind.u64.bits (n : Int) = BitVec.ofNat 64 n := BitVec.ofInt_natCast _ _
 have e2 : BitVec.ofInt IntKind.u64.bits (9223372036854775808 : Int) = BitVec.ofNat 64 9223372036854775808 := rfl
 simp only [e1, e2]
 have e3 : (BitVec.ofNat 64 n ^^^ BitVec.ofNat 64 9223372036854775808).toNat = n + 9223372036854775808 := by
  rw [BitVec.toNat_xor, BitVec.toNat_ofNat, BitVec.toNat_ofNat, Nat.mod_eq_of_lt (by omega), Nat.mod_eq_of_lt (by omega), ZFk (by omega)]
 show IntKind.u64.wrap ((BitVec.ofNat 64 n ^^^ BitVec.ofNat 64 9223372036854775808).toNat : Nat) = _
 rw [e3, Zl2 (by omega) (by omega)]; omega
theorem ZAK {x : Int} (h0 : 0 <= x) (h1 : x < 18446744073709551616) : Yb .xor .u64 x 18446744073709551615 = 18446744073709551615 - x := by
 obtain ⟨n, rfl⟩ := ZJf h0
 unfold Yb
 have e1 : BitVec.ofInt IntKind.u64.bits (n : Int) = BitVec.ofNat 64 n := BitVec.ofInt_natCast _ _
 have e2 : BitVec.ofInt IntKind.u64.bits (18446744073709551615 : Int) = BitVec.allOnes 64 := rfl
 simp only [e1, e2]
 have e3 : (BitVec.ofNat 64 n ^^^ BitVec.allOnes 64).toNat = 18446744073709551615 - n := by
  rw [BitVec.xor_allOnes, BitVec.toNat_not, BitVec.toNat_ofNat, Nat.mod_eq_of_lt (by omega)]
 show IntKind.u64.wrap ((BitVec.ofNat 64 n ^^^ BitVec.allOnes 64).toNat : Nat) = _
 rw [e3, Zl2 (by omega) (by omega)]; omega
theorem ZEH (x y : Int) : Yb .xor .u64 x y = Yb .xor .u64 y x := by
 unfold Yb; simp only [BitVec.xor_comm]
theorem srtA {x : Int} (h0 : -9223372036854775808 <= x) (h1 : x <= 9223372036854775807) : Yb .xor .u64 (IntKind.u64.wrap x) (Yb .or .u64 (IntKind.u64.wrap (x.fdiv 9223372036854775808)) 9223372036854775808) = srt x := by
 unfold srt
 by_cases h : x < 0
 ·have e1 : x.fdiv 9223372036854775808 = -1 := by rw [Int.fdiv_eq_ediv_of_nonneg _ (by omega)]; omega
  have e2 : IntKind.u64.wrap x = x + 18446744073709551616 := by rw [Ziu]; omega
  rw [if_pos h, e1, e2, show Yb .or .u64 (IntKind.u64.wrap (-1)) 9223372036854775808 = 18446744073709551615 by decide, ZAK (by omega) (by omega)]; omega
 ·have e1 : x.fdiv 9223372036854775808 = 0 := by rw [Int.fdiv_eq_ediv_of_nonneg _ (by omega)]; omega
  rw [if_neg h, e1, Zl2 (by omega) (by omega), show Yb .or .u64 (IntKind.u64.wrap 0) 9223372036854775808 = 9223372036854775808 by decide, ZI1 (by omega) (by omega)]
theorem srtB {x : Int} (h0 : -9223372036854775808 <= x) (h1 : x < 0) : Yb .xor .u64 18446744073709551615 (IntKind.u64.wrap x) = srt x := by
 unfold srt
 have e2 : IntKind.u64.wrap x = x + 18446744073709551616 := by rw [Ziu]; omega
 rw [if_pos h1, e2, ZEH, ZAK (by omega) (by omega)]; omega
theorem srtC {x : Int} (h0 : 0 <= x) (h1 : x <= 9223372036854775807) : IntKind.u64.wrap (IntKind.u64.wrap x + 9223372036854775808) = srt x := by
 unfold srt
 rw [if_neg (by omega), Zl2 h0 (by omega), Zl2 (by omega) (by omega)]
theorem ZBF (a b : UInt8) : a < b \/ a = b \/ b < a := by
 rcases Nat.lt_trichotomy a.toNat b.toNat with h | h | h
 ·exact .inl (UInt8.lt_iff_toNat_lt.2 h)
 ·exact .inr (.inl (UInt8.toNat_inj.1 h))
 ·exact .inr (.inr (UInt8.lt_iff_toNat_lt.2 h))
theorem ZBd {x y : Int} (h : x < y) : sgn x y = -1 := by unfold sgn; rw [if_pos h]
theorem ZAW {x y : Int} (h : y < x) : sgn x y = 1 := by unfold sgn; rw [if_neg (by omega), if_pos h]
theorem ZBC {x y : Int} (h : x = y) : sgn x y = 0 := by unfold sgn; rw [if_neg (by omega), if_neg (by omega)]
theorem ZGi : ∀ a b : List UInt8, Lib.compareBytes a b = if Op.bytesLess a b = true then -1 else if a = b then 0 else 1
 | [], [] => by unfold Lib.compareBytes Op.bytesLess; simp
 | [], _ :: _ => by unfold Lib.compareBytes Op.bytesLess; simp
 | _ :: _, [] => by unfold Lib.compareBytes Op.bytesLess; simp
 | a :: x, b :: y => by
  unfold Lib.compareBytes Op.bytesLess
  rw [ZGi x y]
  rcases ZBF a b with h | h | h
  ·simp [h]
  ·subst h
   have : ¬ a < a := by rw [UInt8.lt_iff_toNat_lt]; omega
   simp [this]
  ·have h2 : ¬ a < b := by rw [UInt8.lt_iff_toNat_lt] at h ⊢; omega
   have h3 : a ≠ b := by rintro rfl; exact h2 h
   simp [h, h2, h3]
def Zsb (L : List UInt8) : Int := if (Lib.decodeL L).1 = 65533 /\ (Lib.decodeL L).2 = 1 then 0 else ((Lib.decodeL L).2 : Nat)
structure UtSig (S : Sig Nd) : Prop where
 u650 : ∀ a b c d, S.usr 650 a b c d = .bool (Lib.validD a.tB)
 u654 : ∀ a b c d, S.usr 654 a b c d = .int (Zsb a.tB)
 u655 : ∀ a b c d, S.usr 655 a b c d = .bool (Lib.validD (a.tB.drop b.tI.toNat))
def ldX (L : SX) : SX := usI 654 L z0 z0
def vdX (L : SX) : SX := usB 650 L z0 z0
def vrX (L k : SX) : SX := usB 655 L k z0
def Zw7 : Ctr := ⟨[.bytes], [.one (.str (bA 0))], [], [eLe (.int 1) (Zag (bA 0))], [], .one (.int .i64 (ldX (bA 0))), [], []⟩
def ZF9 : Cx := { specs := [], anns := [] }
def Zyc : Ctr := ⟨[.bytes], [.one (.str (bA 0))], [], [eLe (Zag (bA 0)) (.int 9223372036854775807)], [], .one (.bool (vdX (bA 0))), [], []⟩
def utfI : Inv := ⟨[.int], [(3, .one (.int .i64 (di 0)))], [], [eLe z0 (di 0), eLe (di 0) (Zag (bA 0)), eqS (vrX (bA 0) (di 0)) (vdX (bA 0))], .f2 41 (Zag (bA 0)) (di 0)⟩
def ZI4 : Cx := { specs := [(92, [Zw7])], anns := [(67, [(2, .inv utfI)])] }
theorem ZH5 (l : List UInt8) (i : Nat) : ((ByteArray.mk l.toArray).get! i).toNat = (l.getD i 0).toNat := by
 have e : (ByteArray.mk l.toArray).get! i = l.toArray[i]! := rfl
 rw [e]
 by_cases h : i < l.length
 ·rw [getElem!_pos l.toArray i (by simpa using h)]; simp [List.getD, ZJq h]
 ·rw [getElem!_neg l.toArray i (by simpa using h)]
  have : l.getD i 0 = 0 := by simp [List.getD, List.getElem?_eq_none (Nat.le_of_not_lt h)]
  rw [this]; rfl
def decI (n b0 b1 b2 b3 : Int) : Int :=
 if b0 < 128 then 1
 else if b0 / 32 = 6 /\ 1 < n /\ b1 / 64 = 2 then (if 128 <= b0 % 32 * 64 + b1 % 64 then 2 else 0)
 else if b0 / 16 = 14 /\ 1 < n /\ b1 / 64 = 2 /\ 2 < n /\ b2 / 64 = 2 then
  (if 2048 <= b0 % 16 * 4096 + b1 % 64 * 64 + b2 % 64 /\ (b0 % 16 * 4096 + b1 % 64 * 64 + b2 % 64 < 55296 \/ 57344 <= b0 % 16 * 4096 + b1 % 64 * 64 + b2 % 64 /\ b0 % 16 * 4096 + b1 % 64 * 64 + b2 % 64 <= 1114111) then 3 else 0)
 else if b0 / 8 = 30 /\ 1 < n /\ b1 / 64 = 2 /\ 2 < n /\ b2 / 64 = 2 /\ 3 < n /\ b3 / 64 = 2 then
  (if 65536 <= b0 % 8 * 262144 + b1 % 64 * 4096 + b2 % 64 * 64 + b3 % 64 /\ (b0 % 8 * 262144 + b1 % 64 * 4096 + b2 % 64 * 64 + b3 % 64 < 55296 \/ 57344 <= b0 % 8 * 262144 + b1 % 64 * 4096 + b2 % 64 * 64 + b3 % 64 /\ b0 % 8 * 262144 + b1 % 64 * 4096 + b2 % 64 * 64 + b3 % 64 <= 1114111) then 4 else 0)
 else 0
theorem Zn5 (L : List UInt8) : Zsb L = decI L.length ((L.getD 0 0).toNat : Nat) ((L.getD 1 0).toNat : Nat) ((L.getD 2 0).toNat : Nat) ((L.getD 3 0).toNat : Nat) /\ 1 <= (Lib.decodeL L).2 := by
 have hs : (ByteArray.mk L.toArray).size = L.length := by simp [ByteArray.size]
 have hv : ∀ c : Nat, Utf8.valid (c : Int) = true ↔ ((c : Int) < 55296 \/ 57344 <= (c : Int) /\ (c : Int) <= 1114111) := by
  intro c; unfold Utf8.valid; simp
 unfold Zsb Lib.decodeL Utf8.decode decI
 simp only [Nat.zero_add, ZH5, hs]
 generalize (L.getD 0 0).toNat = b0
 generalize (L.getD 1 0).toNat = b1
 generalize (L.getD 2 0).toNat = b2
 generalize (L.getD 3 0).toNat = b3
 generalize L.length = n
 simp only [Bool.and_eq_true, beq_iff_eq, decide_eq_true_eq, hv, Utf8.runeError, ge_iff_le]
 by_cases c1 : b0 < 128
 ·rw [if_pos c1, if_pos (show (b0 : Int) < 128 by omega), if_neg (by omega)]; exact ⟨rfl, ZJd _⟩
 rw [if_neg c1, if_neg (show ¬ (b0 : Int) < 128 by omega)]
 by_cases c2 : b0 / 32 = 6 /\ 1 < n /\ b1 / 64 = 2
 ·rw [if_pos c2, if_pos (show (b0 : Int) / 32 = 6 /\ 1 < (n : Int) /\ (b1 : Int) / 64 = 2 by omega)]
  by_cases d2 : 128 <= b0 % 32 * 64 + b1 % 64
  ·rw [if_pos d2, if_pos (show (128 : Int) <= (b0 : Int) % 32 * 64 + (b1 : Int) % 64 by omega), if_neg (by omega)]; exact ⟨rfl, by simp⟩
  ·rw [if_neg d2, if_neg (show ¬ (128 : Int) <= (b0 : Int) % 32 * 64 + (b1 : Int) % 64 by omega), if_pos ⟨rfl, rfl⟩]; exact ⟨rfl, by simp⟩
 rw [if_neg c2, if_neg (show ¬ ((b0 : Int) / 32 = 6 /\ 1 < (n : Int) /\ (b1 : Int) / 64 = 2) by omega)]
 by_cases c3 : (b0 / 16 = 14 /\ 1 < n /\ b1 / 64 = 2) /\ 2 < n /\ b2 / 64 = 2
 ·rw [if_pos c3, if_pos (show (b0 : Int) / 16 = 14 /\ 1 < (n : Int) /\ (b1 : Int) / 64 = 2 /\ 2 < (n : Int) /\ (b2 : Int) / 64 = 2 by omega)]
  simp only [Int.natCast_add, Int.natCast_mul, Int.natCast_emod, Int.cast_ofNat_Int]
  split
  ·rename_i d3
   rw [if_neg (by omega), if_pos (by omega)]; exact ⟨rfl, by simp⟩
  ·rename_i d3
   rw [if_pos ⟨rfl, rfl⟩, if_neg (by omega)]; exact ⟨rfl, by simp⟩
 rw [if_neg c3, if_neg (show ¬ ((b0 : Int) / 16 = 14 /\ 1 < (n : Int) /\ (b1 : Int) / 64 = 2 /\ 2 < (n : Int) /\ (b2 : Int) / 64 = 2) by omega)]
 by_cases c4 : ((b0 / 8 = 30 /\ 1 < n /\ b1 / 64 = 2) /\ 2 < n /\ b2 / 64 = 2) /\ 3 < n /\ b3 / 64 = 2
 ·rw [if_pos c4, if_pos (show (b0 : Int) / 8 = 30 /\ 1 < (n : Int) /\ (b1 : Int) / 64 = 2 /\ 2 < (n : Int) /\ (b2 : Int) / 64 = 2 /\ 3 < (n : Int) /\ (b3 : Int) / 64 = 2 by omega)]
  simp only [Int.natCast_add, Int.natCast_mul, Int.natCast_emod, Int.cast_ofNat_Int]
  split
  ·rename_i d4
   rw [if_neg (by omega), if_pos (by omega)]; exact ⟨rfl, by simp⟩
  ·rename_i d4
   rw [if_pos ⟨rfl, rfl⟩, if_neg (by omega)]; exact ⟨rfl, by simp⟩
 rw [if_neg c4, if_neg (show ¬ ((b0 : Int) / 8 = 30 /\ 1 < (n : Int) /\ (b1 : Int) / 64 = 2 /\ 2 < (n : Int) /\ (b2 : Int) / 64 = 2 /\ 3 < (n : Int) /\ (b3 : Int) / 64 = 2) by omega), if_pos ⟨rfl, rfl⟩]
 exact ⟨rfl, ZJd _⟩
theorem ZFx (L : List UInt8) (h : L ≠ []) : 0 <= Zsb L /\ Zsb L <= L.length := by
 have h1 : 1 <= L.length := List.length_pos_iff.2 h
 rw [(Zn5 L).1]
 unfold decI
 repeat' split
 all_goals omega
theorem Zf6 (n : Nat) : Lib.validGoD n [] = true := by cases n <;> unfold Lib.validGoD <;> simp
theorem Zch : ∀ (n : Nat) (l : List UInt8), l.length <= n -> Lib.validGoD n l = Lib.validGoD l.length l
 | n, [], _ => by rw [Zf6, Zf6]
 | 0, x :: l, h => by simp at h
 | n + 1, x :: l, h => by
  have hd := (Zn5 (x :: l)).2
  show Lib.validGoD (n + 1) (x :: l) = Lib.validGoD (l.length + 1) (x :: l)
  unfold Lib.validGoD
  have hlen : ((x :: l).drop (Lib.decodeL (x :: l)).2).length <= l.length := by rw [ZJB, ZJH]; omega
  rw [ZJH] at h
  rw [Zch n _ (by omega), Zch l.length _ hlen]
theorem ZqO {L : List UInt8} (h : L ≠ []) : Lib.validD L = if Zsb L = 0 then false else Lib.validD (L.drop (Zsb L).toNat) := by
 have hd := (Zn5 L).2
 cases L with
 | nil => exact absurd rfl h
 | cons x l =>
  have e : Lib.validD (x :: l) = Lib.validGoD (l.length + 1) (x :: l) := rfl
  rw [e]
  conv => lhs; unfold Lib.validGoD
  rw [if_neg (by simp)]
  unfold Zsb
  by_cases hc : (Lib.decodeL (x :: l)).1 = 65533 /\ (Lib.decodeL (x :: l)).2 = 1
  ·rw [if_pos hc, if_pos (if_pos hc)]
  ·rw [if_neg hc, if_neg (by rw [if_neg hc]; omega), if_neg hc, ZJu]
   unfold Lib.validD
   exact Zch _ _ (by rw [ZJB, ZJH]; omega)
def Zd3 : SX := .f2 111 (b 0) z
def ZrF : SX := v 654 (b 0)
def ZCF : SX := t Zd3 (k 224)
def ZDU : SX := .f2 40 Zd3 (k (-192))
def Zy : SX := e ZrF z
def ZmV : SX := t (k 1) (.f1 31 (b 0))
def ZkF : SX := .f2 111 (b 0) (k 1)
def Znb : SX := l (k 128) ZkF
def Zny : SX := t (k 191) ZkF
def Znv : SX := l ZkF (k 191)
def ZwY : SX := .f2 42 (k 64) ZDU
def Zsl : SX := .f2 40 ZwY ZkF
def ZcS : SX := .f2 40 Zsl (k (-128))
def ZwR : SX := e ZrF (k 2)
def Zgi : SX := t ZkF (k 128)
def ZqA : SX := l (k 224) Zd3
def ZnZ : SX := t Zd3 (k 240)
def Ztx : SX := .f2 40 Zd3 (k (-224))
def Zu7 : SX := .f1 23 Ztx
def Zs1 : SX := t (.f1 31 (b 0)) (k 3)
def ZxU : SX := l (k 3) (.f1 31 (b 0))
def ZtZ : SX := .f2 42 (k 64) Ztx
def Zvl : SX := .f1 23 ZtZ
def Ztc : SX := .f2 40 ZtZ ZkF
def ZyQ : SX := .f1 23 Ztc
def ZxI : SX := .f2 40 Ztc (k (-128))
def ZuB : SX := .f1 23 ZxI
def Zh0 : SX := t (k 2) (.f1 31 (b 0))
def ZgV : SX := .f2 111 (b 0) (k 2)
def Zh9 : SX := l (k 128) ZgV
def Zh7 : SX := t (k 191) ZgV
def Zih : SX := l ZgV (k 191)
def Zvg : SX := .f2 42 (k 64) ZxI
def Zt1 : SX := .f1 23 Zvg
def Zs7 : SX := .f2 40 Zvg ZgV
def Ztw : SX := .f1 23 Zs7
def ZcY : SX := .f2 40 Zs7 (k (-128))
def Zx8 : SX := .f1 23 ZcY
def ZxV : SX := l (k 2048) ZcY
def Zvy : SX := l ZcY (k 1114111)
def ZuD : SX := l (k 55296) ZcY
def Zw5 : SX := l ZcY (k 57343)
def Zuu : SX := t (k 57343) ZcY
def Zkt : SX := e ZrF (k 3)
def ZtC : SX := t ZcY (k 55296)
def ZuW : SX := t (k 1114111) ZcY
def ZwD : SX := t ZcY (k 2048)
def Zip : SX := t ZgV (k 128)
def ZhQ : SX := l (k 240) Zd3
def Zon : SX := t Zd3 (k 245)
def Zxe : SX := .f2 40 Zd3 (k (-240))
def ZpX : SX := .f1 23 Zxe
def Zoj : SX := t (.f1 31 (b 0)) (k 4)
def ZpT : SX := l (k 4) (.f1 31 (b 0))
def Zuo : SX := .f2 42 (k 64) Zxe
def Zpw : SX := .f1 23 Zuo
def ZwL : SX := .f2 40 Zuo ZkF
def ZpJ : SX := .f1 23 ZwL
def Zyj : SX := .f2 40 ZwL (k (-128))
def ZpB : SX := .f1 23 Zyj
def ZxY : SX := .f2 42 (k 64) Zyj
def Zpm : SX := .f1 23 ZxY
def Zs2 : SX := .f2 40 ZxY ZgV
def Zo0 : SX := .f1 23 Zs2
def ZtF : SX := .f2 40 Zs2 (k (-128))
def Zpj : SX := .f1 23 ZtF
def Zqc : SX := t (k 3) (.f1 31 (b 0))
def Zid : SX := .f2 111 (b 0) (k 3)
def ZpP : SX := l (k 128) Zid
def Zpt : SX := t (k 191) Zid
def ZpA : SX := l Zid (k 191)
def Zs0 : SX := .f2 42 (k 64) ZtF
def Zqo : SX := .f1 23 Zs0
def ZtO : SX := .f2 40 Zs0 Zid
def Zoh : SX := .f1 23 ZtO
def Zc2 : SX := .f2 40 ZtO (k (-128))
def Zo8 : SX := .f1 23 Zc2
def Zoa : SX := l (k 65536) Zc2
def Zpg : SX := l Zc2 (k 1114111)
def ZpH : SX := l (k 55296) Zc2
def Zpv : SX := l Zc2 (k 57343)
def ZoB : SX := t (k 57343) Zc2
def ZgW : SX := e ZrF (k 4)
def ZoZ : SX := t Zc2 (k 55296)
def Zpo : SX := t (k 1114111) Zc2
def Zou : SX := t Zc2 (k 65536)
def ZpG : SX := t Zid (k 128)
def Zn1 : SX := l (k 245) Zd3
def ZHH : VC := i (l (k 1) (.f1 31 (b 0))) (n (t z (.f1 31 (b 0))) (.and (i (t Zd3 (k 128)) (n (e ZrF (k 1)) .tt)) (i (l (k 128) Zd3) (.and (i (l (k 194) Zd3) (.and (i ZCF (n (.f1 23 ZDU) (.and (i (t (.f1 31 (b 0)) (k 2)) (n Zy .tt)) (i (l (k 2) (.f1 31 (b 0))) (n ZmV (.and (i Znb (.and (i Zny (n Zy .tt)) (i Znv (n (.f1 23 ZwY) (n (.f1 23 Zsl) (n (.f1 23 ZcS) (.and (i (l (k 128) ZcS) (.and (i (l ZcS (k 1114111)) (.and (i (l (k 55296) ZcS) (.and (i (l ZcS (k 57343)) (n Zy .tt)) (i (t (k 57343) ZcS) (n ZwR .tt)))) (i (t ZcS (k 55296)) (n ZwR .tt)))) (i (t (k 1114111) ZcS) (n Zy .tt)))) (i (t ZcS (k 128)) (n Zy .tt))))))))) (i Zgi (n Zy .tt)))))))) (i ZqA (.and (i ZqA (.and (i ZnZ (n Zu7 (.and (i Zs1 (n Zy .tt)) (i ZxU (n ZmV (.and (i Znb (.and (i Zny (n Zy .tt)) (i Znv (n Zvl (n ZyQ (n ZuB (n Zh0 (.and (i Zh9 (.and (i Zh7 (n Zy .tt)) (i Zih (n Zt1 (n Ztw (n Zx8 (.and (i ZxV (.and (i Zvy (.and (i ZuD (.and (i Zw5 (n Zy .tt)) (i Zuu (n Zkt .tt)))) (i ZtC (n Zkt .tt)))) (i ZuW (n Zy .tt)))) (i ZwD (n Zy .tt))))))))) (i Zip (n Zy .tt)))))))))) (i Zgi (n Zy .tt)))))))) (i ZhQ (.and (i ZhQ (.and (i Zon (n ZpX (.and (i Zoj (n Zy .tt)) (i ZpT (n ZmV (.and (i Znb (.and (i Zny (n Zy .tt)) (i Znv (n Zpw (n ZpJ (n ZpB (n Zh0 (.and (i Zh9 (.and (i Zh7 (n Zy .tt)) (i Zih (n Zpm (n Zo0 (n Zpj (n Zqc (.and (i ZpP (.and (i Zpt (n Zy .tt)) (i ZpA (n Zqo (n Zoh (n Zo8 (.and (i Zoa (.and (i Zpg (.and (i ZpH (.and (i Zpv (n Zy .tt)) (i ZoB (n ZgW .tt)))) (i ZoZ (n ZgW .tt)))) (i Zpo (n Zy .tt)))) (i Zou (n Zy .tt))))))))) (i ZpG (n Zy .tt)))))))))) (i Zip (n Zy .tt)))))))))) (i Zgi (n Zy .tt)))))))) (i Zn1 (n Zy .tt)))) .tt)))) .tt)))) (i (t Zd3 (k 194)) (.and (i ZqA (.and (i ZnZ (n Zu7 (.and (i Zs1 (n Zy .tt)) (i ZxU (n ZmV (.and (i Znb (.and (i Zny (n Zy .tt)) (i Znv (n Zvl (n ZyQ (n ZuB (n Zh0 (.and (i Zh9 (.and (i Zh7 (n Zy .tt)) (i Zih (n Zt1 (n Ztw (n Zx8 (.and (i ZxV (.and (i Zvy (.and (i ZuD (.and (i Zw5 (n Zy .tt)) (i Zuu (n Zkt .tt)))) (i ZtC (n Zkt .tt)))) (i ZuW (n Zy .tt)))) (i ZwD (n Zy .tt))))))))) (i Zip (n Zy .tt)))))))))) (i Zgi (n Zy .tt)))))))) (i ZhQ (.and (i ZhQ (.and (i Zon (n ZpX (.and (i Zoj (n Zy .tt)) (i ZpT (n ZmV (.and (i Znb (.and (i Zny (n Zy .tt)) (i Znv (n Zpw (n ZpJ (n ZpB (n Zh0 (.and (i Zh9 (.and (i Zh7 (n Zy .tt)) (i Zih (n Zpm (n Zo0 (n Zpj (n Zqc (.and (i ZpP (.and (i Zpt (n Zy .tt)) (i ZpA (n Zqo (n Zoh (n Zo8 (.and (i Zoa (.and (i Zpg (.and (i ZpH (.and (i Zpv (n Zy .tt)) (i ZoB (n ZgW .tt)))) (i ZoZ (n ZgW .tt)))) (i Zpo (n Zy .tt)))) (i Zou (n Zy .tt))))))))) (i ZpG (n Zy .tt)))))))))) (i Zip (n Zy .tt)))))))))) (i Zgi (n Zy .tt)))))))) (i Zn1 (n Zy .tt)))) .tt)))) (i ZCF (.and (i ZhQ (.and (i Zon (n ZpX (.and (i Zoj (n Zy .tt)) (i ZpT (n ZmV (.and (i Znb (.and (i Zny (n Zy .tt)) (i Znv (n Zpw (n ZpJ (n ZpB (n Zh0 (.and (i Zh9 (.and (i Zh7 (n Zy .tt)) (i Zih (n Zpm (n Zo0 (n Zpj (n Zqc (.and (i ZpP (.and (i Zpt (n Zy .tt)) (i ZpA (n Zqo (n Zoh (n Zo8 (.and (i Zoa (.and (i Zpg (.and (i ZpH (.and (i Zpv (n Zy .tt)) (i ZoB (n ZgW .tt)))) (i ZoZ (n ZgW .tt)))) (i Zpo (n Zy .tt)))) (i Zou (n Zy .tt))))))))) (i ZpG (n Zy .tt)))))))))) (i Zip (n Zy .tt)))))))))) (i Zgi (n Zy .tt)))))))) (i Zn1 (n Zy .tt)))) (i ZnZ (n Zy .tt))))))))))
theorem ZGJ : ZeK Tryz.prog ZF9 60 92 Zw7 = ZHH := by kernel_rfl
def Zre : SX := p 650 (b 0)
def ZDg : SX := .f2 41 (.f1 31 (b 0)) (a 1)
def ZDd : SX := .f2 114 (.f2 117 (b 0) (a 1)) ZDg
def ZDb : SX := v 654 ZDd
def ZFz : SX := e ZDb z
def ZqV : SX := .f2 40 (a 1) ZDb
def ZDa : SX := .f2 41 (.f1 31 (b 0)) ZqV
def ZG8 : VC := i (l (.f1 31 (b 0)) (k 9223372036854775807)) (n (.f2 155 (p 655 (b 0)) Zre) (u 1 .int (i (l z (a 1)) (i (l (a 1) (.f1 31 (b 0))) (i (.f2 155 (c 655 (b 0) (a 1)) Zre) (.and (i (t (a 1) (.f1 31 (b 0))) (n (l (k 1) (.f1 31 ZDd)) (.and (i ZFz (n (.f2 155 Zre (.bool false)) .tt)) (i (.f1 2 ZFz) (n (.f1 23 ZqV) (n (l z ZDa) (n (t ZDa ZDg) (n (l z ZqV) (n (l ZqV (.f1 31 (b 0))) (n (.f2 155 (c 655 (b 0) ZqV) Zre) .tt)))))))))) (i (l (.f1 31 (b 0)) (a 1)) (n (.f2 155 Zre (.bool true)) .tt))))))))
theorem ZHf : ZeK Tryz.prog ZI4 12 67 Zyc = ZG8 := by kernel_rfl
set_option maxHeartbeats 4000000 in
theorem ZG2 (S : Sig Nd) (hS : UtSig S) : Zr S Tryz.prog 92 Zw7 := by
 refine Zj S (C := ZF9) (fuel := 60) (Zai trivial trivial trivial) fun ρ => ?_
 rw [ZGJ]
 simp only [ZHH, Zd3, ZrF, ZCF, ZDU, Zy, ZmV, ZkF, Znb, Zny, Znv, ZwY, Zsl, ZcS, ZwR, Zgi, ZqA, ZnZ, Ztx, Zu7, Zs1, ZxU, ZtZ, Zvl, Ztc, ZyQ, ZxI, ZuB, Zh0, ZgV, Zh9, Zh7, Zih, Zvg, Zt1, Zs7, Ztw, ZcY, Zx8, ZxV, Zvy, ZuD, Zw5, Zuu, Zkt, ZtC, ZuW, ZwD, Zip, ZhQ, Zon, Zxe, ZpX, Zoj, ZpT, Zuo, Zpw, ZwL, ZpJ, Zyj, ZpB, ZxY, Zpm, Zs2, Zo0, ZtF, Zpj, Zqc, Zid, ZpP, Zpt, ZpA, Zs0, Zqo, ZtO, Zoh, Zc2, Zo8, Zoa, Zpg, ZpH, Zpv, ZoB, ZgW, ZoZ, Zpo, Zou, ZpG, Zn1, hS.u654, ZaA, ZJu, VC.den, SX.den, Env.upd, beq_iff_eq, ZJm, beq_eq_false_iff_ne, ne_eq, ZJl, ZJk, Int.reduceToNat, Nat.reduceEqDiff, reduceIte, sB]
 rw [(Zn5 (ρ 0).tB).1]
 have q0 : ((ρ 0).tB.getD 0 0).toNat < 256 := UInt8.toNat_lt _
 have q1 : ((ρ 0).tB.getD 1 0).toNat < 256 := UInt8.toNat_lt _
 have q2 : ((ρ 0).tB.getD 2 0).toNat < 256 := UInt8.toNat_lt _
 have q3 : ((ρ 0).tB.getD 3 0).toNat < 256 := UInt8.toNat_lt _
 generalize ((ρ 0).tB.getD 0 0).toNat = b0 at q0 ⊢
 generalize ((ρ 0).tB.getD 1 0).toNat = b1 at q1 ⊢
 generalize ((ρ 0).tB.getD 2 0).toNat = b2 at q2 ⊢
 generalize ((ρ 0).tB.getD 3 0).toNat = b3 at q3 ⊢
 generalize (ρ 0).tB.length = n
 unfold decI
 repeat' first | apply And.intro | intro _
 all_goals first | trivial | omega | ((repeat' split) <;> omega)
theorem ZG6 (S : Sig Nd) (hS : UtSig S) : Zr S Tryz.prog 67 Zyc := by
 refine Zj S (C := ZI4) (fuel := 12) (Zai ⟨Zk (by decide) (ZG2 S hS), trivial⟩ ⟨⟨trivial, trivial⟩, trivial⟩ trivial) fun ρ => ?_
 rw [ZHf]
 simp only [ZG8, Zre, ZDg, ZDd, ZDb, ZFz, ZqV, ZDa, hS.u650, hS.u654, hS.u655, ZaA, ZJu, VC.den, SX.den, Env.upd, beq_iff_eq, ZJm, beq_eq_false_iff_ne, ne_eq, ZJl, ZJk, Int.reduceToNat, Nat.reduceEqDiff, reduceIte, sB]
 generalize (ρ 0).tB = L
 intro h
 refine ⟨rfl, fun i i0 i1 hv => ⟨fun hi => ?_, fun hi => ?_⟩⟩
 ·have e : (L.drop i.toNat).take ((L.length : Int) - i).toNat = L.drop i.toNat := ZJz (by rw [ZJB]; omega)
  rw [e]
  have hne : L.drop i.toNat ≠ [] := fun z => by have := congrArg List.length z; rw [ZJB, List.length_nil] at this; omega
  obtain ⟨l0, l1⟩ := ZFx _ hne
  have st := ZqO hne
  rw [hv] at st
  rw [ZJB] at l1 ⊢
  refine ⟨by omega, fun hz => ⟨?_, trivial⟩, fun hz => ⟨⟨by omega, by omega⟩, by omega, by omega, by omega, by omega, ?_, trivial⟩⟩
  ·rw [st, if_pos hz]
  ·rw [st, if_neg hz, List.drop_drop, show (i + Zsb (L.drop i.toNat)).toNat = i.toNat + (Zsb (L.drop i.toNat)).toNat by omega]
 ·rw [List.drop_eq_nil_of_le (by omega)] at hv
  rw [<- hv]; exact ⟨rfl, trivial⟩
end
end Go.Proofs.YtlmkcakhhbckhaaGreatDoor
namespace Go.Proofs.YtlmkcakhhbckhaaGreatDoor
noncomputable section
open Go.Eng
def itO : List Go.Eng.Fd := [.int .i64, .int .i64, .str, .slice 4]
def ZBB : En := .rows itO
def r6 (h : List Int) : List Int := [h.getD 0 0, h.getD 1 0, h.getD 2 0, h.getD 3 0, h.getD 6 0, h.getD 7 0]
def mkI (i : Int) : List Int := [-7 - i, 0, 0, -1, 0, 0]
def ZY (n : Int) (l : List Nd) : List (List Int) := l.map (fun x => r6 x.h) ++ [mkI n, mkI (n + 1)]
def Zkq (h : List Int) (l : List Nd) : Prop := h.getD 6 0 = l.length /\ h.getD 7 0 = l.length + 2 /\ 0 <= h.getD 3 0 /\ h.getD 4 0 = 0 /\ h.getD 5 0 = -1
mutual
def OT : Nd -> Zd
 | .mk h l => fun x => Zkq h l /\ Zg (rAD ZBB (h.getD 3 0) (ZY l.length l) (l.length + 2)) (OTs l) x
def OTs : List Nd -> Zd
 | [] => emp
 | n :: l => Zg (OT n) (OTs l)
end
mutual
/-- The same items. -/
def SM : Nd -> Nd -> Prop
 | .mk _ l, .mk _ m => SMs l m
def SMs : List Nd -> List Nd -> Prop
 | [], [] => True
 | [], _ :: _ => False
 | _ :: _, [] => False
 | x :: l, y :: m => (x.h.getD 0 0 = y.h.getD 0 0 /\ x.h.getD 1 0 = y.h.getD 1 0 /\ ht x.h = ht y.h) /\ SM x y /\ SMs l m
end
mutual
/-- No list is long. -/
def SG : Nd -> Prop
 | .mk _ l => (l.length : Int) <= 100000 /\ SGs l
def SGs : List Nd -> Prop
 | [] => True
 | n :: l => SG n /\ SGs l
end
def Zhm (ks g : Nd) (i : Int) (x : Nd) : Nd := .mk [] (ks.l ++ [.mk [(g.kid i).h.getD 0 0, (g.kid i).h.getD 1 0, (Zed (ht (g.kid i).h) : Nat), x.h.getD 3 0, x.h.getD 4 0, x.h.getD 5 0, x.h.getD 6 0, x.h.getD 7 0] x.l])
def Zy4 (ks : Nd) (b n : Int) : Nd := .mk [0, 0, 0, b, 0, -1, n, n + 2] ks.l
def Zhn (g : Nd) (i : Int) : Nd := .mk [] (g.l.drop i.toNat)
structure ToSig (S : Sig Nd) : Prop where
 tc : TcSig S
 p201 : ∀ w0 k x, S.prd 201 w0 k x = fun h => (ndU x).h.getD 3 0 = k.tI /\ OT (ndU x) h
 p202 : ∀ w0 k x, S.prd 202 w0 k x = OTs (ndU x).l
 u620 : ∀ a b c d, S.usr 620 a b c d = .bool (Zfj (SG (ndU a)))
 u621 : ∀ a b c d, S.usr 621 a b c d = .bool (Zfj (SM (ndU a) (ndU b)))
 u622 : ∀ a b c d, S.usr 622 a b c d = .rows ((ZY b.tI (ndU a).l).take c.tI.toNat)
 u623 : ∀ a b c d, S.usr 623 a b c d = .bool (Zfj (SMs (ndU a).l ((ndU b).l.take (ndU a).l.length)))
 u624 : ∀ a b c d, S.usr 624 a b c d = .g (Zhm (ndU a) (ndU b) c.tI (ndU d))
 u625 : ∀ a b c d, S.usr 625 a b c d = .g (Zy4 (ndU a) b.tI c.tI)
 u626 : ∀ a b c d, S.usr 626 a b c d = .rows (ZY (ndU a).l.length (ndU a).l)
 u627 : ∀ a b c d, S.usr 627 a b c d = .g (.mk [] [])
 u628 : ∀ a b c d, S.usr 628 a b c d = .g (Zhn (ndU a) b.tI)
def otC (b g : SX) : Ch := .prd 201 b g
def osC (g : SX) : Ch := .prd 202 z0 g
def odC (i g : SX) : Ch := osC (usG 628 g i z0)
def sgX (g : SX) : SX := usB 620 g z0 z0
def smX (g k : SX) : SX := usB 621 g k z0
def arO (b x c : SX) : Ch := .arr ZBB b x c
def ZqJ (k : Nat) : SV := .one (.opq (rA k) (ai (k + 1)) 3)
def ZhM (x : SX) : SX := SX.mk2 40 x (.int 2)
def noOC : Ctr := ⟨[], [], [], [], [], .tup [], [osC (usG 627 z0 z0 z0)], []⟩
def psOC : Ctr := ⟨[.rows, .int, .g, .int, .g, .int, .g, .int, .int], [ZqJ 0, .one (.int .i64 (ai 3)), .one (slC (ai 5) (ai 7) (ai 8) 4)], [rtC (rA 0) (ai 1) (gA 2), osC (gA 4), otC (ai 5) (gA 6)], [], [], .tup [], [rtC (rA 0) (ai 1) (gA 2), osC (.us .g 624 (gA 4) (gA 2) (ai 3) (gA 6))], []⟩
def ZFN : Ctr := ⟨[.int, .int, .int, .rows, .g, .int], [.one (slC (ai 0) (ai 1) (ai 2) 4), .one (.int .i64 (ai 5))], [arO (ai 0) (rA 3) (ai 2), osC (gA 4)], [.f2 45 (lnX (gA 4)) (ai 5), .f2 45 (ai 2) (ZhM (ai 5)), eqS (rA 3) (usR 622 (gA 4) (ai 5) (ai 2)), eLe z0 (ai 0), eLe z0 (ai 5)], [], .tup [], [otC (ai 0) (usG 625 (gA 4) (ai 0) (ai 5))], []⟩
def lntC : Ctr := ⟨[.rows, .int, .g], [ZqJ 0], [rtC (rA 0) (ai 1) (gA 2)], [eLe z0 (dpX (gA 2)), tgX (gA 2), sgX (gA 2)], [.int, .g], .one (slC (ai 3) (nt (rA 0) (ai 1) 6) (ZhM (nt (rA 0) (ai 1) 6)) 4), [rtC (rA 0) (ai 1) (gA 2), otC (ai 3) (gA 4)], [smX (gA 4) (gA 2), tgX (gA 4), eLe z0 (ai 3), .f2 45 (nt (rA 0) (ai 1) 6) (lnX (gA 4)), .f2 45 (hdI (gA 4) 3) (ai 3), .f2 45 (hdI (gA 4) 6) (nt (rA 0) (ai 1) 6), .f2 45 (hdI (gA 4) 7) (ZhM (nt (rA 0) (ai 1) 6))]⟩
def ZBJ : Ctr := leC lntC (dpX (gA 2))
def ZGT : Ctr := ltC lntC (dpX (gA 2))
def lntI : Inv := ⟨[.int, .rows, .g], [(5, .one (.int .i64 (di 0)))], [arO (ai 3) (rA 1000001) (ZhM (nt (rA 0) (ai 1) 6)), osC (gA 1000002)],
 [eLe z0 (di 0), eLe (di 0) (ZhM (nt (rA 0) (ai 1) 6)), .f2 45 (Zfx (rA 1000001)) (ZhM (nt (rA 0) (ai 1) 6)), eqS (tk (rA 1000001) (di 0)) (usR 622 (gA 1000002) (nt (rA 0) (ai 1) 6) (di 0)), .f2 45 (lnX (gA 1000002)) (.f2 51 (di 0) (nt (rA 0) (ai 1) 6)), usB 623 (gA 1000002) (gA 2) z0], .f2 41 (ZhM (nt (rA 0) (ai 1) 6)) (di 0)⟩
def ZGV : Cx := { specs := [(8, [ZGT])], anns := [(8, [(0, .ghost ZAd [.tmp 0]), (3, .ghost noOC []), (4, .inv lntI), (8, .ghost Zxa [.tmp 0, .tmp 5]), (10, .ghost psOC [.tmp 0, .tmp 5, .tmp 36]), (11, .ghost ZFN [.tmp 4, .tmp 3])])] }
def koC : Ctr := ⟨[.int, .int, .int, .int, .rows, .g, .rows, .int, .g], [.one (slC (ai 0) (ai 1) (ai 2) 4), .one (.int .i64 (ai 3)), ZqJ 6], [arO (ai 0) (rA 4) (ai 2), osC (gA 5), rtC (rA 6) (ai 7) (gA 8)],
 [eLe z0 (ai 3), eLt (ai 3) (nt (rA 6) (ai 7) 6), tgX (gA 8), eLt z0 (lnX (gA 5)), .f2 45 (nt (rA 4) (ai 3) 3) (hdI (kdX (gA 5) z0) 3), .f2 45 (nt (rA 4) (ai 3) 4) (hdI (kdX (gA 5) z0) 6), .f2 45 (nt (rA 4) (ai 3) 5) (hdI (kdX (gA 5) z0) 7)], [], .tup [],
 [arO (ai 0) (rA 4) (ai 2), odC (.int 1) (gA 5), otC (nt (rA 4) (ai 3) 3) (kdX (gA 5) z0), rtC (rA 6) (ai 7) (gA 8), rtC (krX (gA 8)) (ai 3) (kdX (gA 8) (ai 3))],
 [.f2 45 (nt (rA 4) (ai 3) 4) (lnX (kdX (gA 5) z0)), .f2 45 (nt (rA 4) (ai 3) 5) (ZhM (lnX (kdX (gA 5) z0))), eLt (dpX (kdX (gA 8) (ai 3))) (dpX (gA 8)), eLe z0 (dpX (kdX (gA 8) (ai 3))), tgX (kdX (gA 8) (ai 3))]⟩
def unOC : Ctr := ⟨[.int, .int, .int, .g], [.one (slC (ai 0) (ai 1) (ai 2) 4)], [otC (ai 0) (gA 3)], [], [], .tup [], [arO (ai 0) (usR 626 (gA 3) z0 z0) (ZhM (lnX (gA 3))), odC z0 (gA 3)], [eLe z0 (ai 0)]⟩
def kepC : Ctr := ⟨[.int, .int, .int, .rows, .int, .g, .g], [.one (slC (ai 0) (ai 1) (ai 2) 4), ZqJ 3], [otC (ai 0) (gA 6), rtC (rA 3) (ai 4) (gA 5)], [eLe z0 (dpX (gA 5)), tgX (gA 5), sgX (gA 5), smX (gA 6) (gA 5), .f2 45 (ai 1) (lnX (gA 6)), .f2 45 (ai 2) (ZhM (lnX (gA 6)))], [], .one (.bool (.bool true)), [rtC (rA 3) (ai 4) (gA 5)], []⟩
def ZA3 : Ctr := leC kepC (dpX (gA 5))
def ZIM : Ctr := ltC kepC (dpX (gA 5))
def kepI : Inv := ⟨[.int, .rows, .g], [(8, .one (.int .i64 (di 0))), (7, .one (.bool (.bool true)))], [arO (ai 0) (rA 1000001) (ZhM (lnX (gA 6))), osC (gA 1000002)],
 [eLe z0 (di 0), eLe (di 0) (ZhM (lnX (gA 6))), .f2 45 (Zfx (rA 1000001)) (ZhM (lnX (gA 6))), eqS (.f2 118 (rA 1000001) (di 0)) (.f2 118 (usR 626 (gA 6) z0 z0) (di 0)), eqS (gA 1000002) (usG 628 (gA 6) (di 0) z0)], .f2 41 (ZhM (lnX (gA 6))) (di 0)⟩
def ZGE : Cx := { specs := [(13, [ZIM])], anns := [(13, [(0, .ghost ZAd [.tmp 1]), (4, .ghost unOC [.tmp 0]), (7, .inv kepI), (10, .ghost koC [.tmp 6, .tmp 8, .tmp 1])])] }
theorem ZbR {G : Type} {S : Sig G} {ρ : Go.Eng.Env G} {a b : SX} (h : ((SX.f2 45 a b).den S ρ).tP) : (a.den S ρ).tI = (b.den S ρ).tI := by
 have h : (ap2 45 (a.den S ρ) (b.den S ρ)).tP := h
 rw [p45] at h; exact h
theorem ZCH {S : Sig Nd} (h : ToSig S) (n : Int) : ToSig (S.bd n) := ⟨tc_bd h.tc n, h.2, h.3, h.4, h.5, h.6, h.7, h.8, h.9, h.10, h.11, h.12⟩
theorem Zxw (g : Nd) : OT g = fun x => Zkq g.h g.l /\ Zg (rAD ZBB (g.h.getD 3 0) (ZY g.l.length g.l) (g.l.length + 2)) (OTs g.l) x := by cases g; unfold OT; rfl
theorem Zm3 : OTs [] = emp := by unfold OTs; rfl
theorem Zd6 (x : Nd) (l : List Nd) : OTs (x :: l) = Zg (OT x) (OTs l) := by conv => lhs; unfold OTs
theorem ZsM : ∀ (l m : List Nd), OTs (l ++ m) = Zg (OTs l) (OTs m)
 | [], m => by rw [List.nil_append, Zm3, ZbT]
 | x :: l, m => by rw [List.cons_append, Zd6, Zd6, ZsM l m, Zc]
theorem Zf2 (n : Int) (l : List Nd) : (ZY n l).length = l.length + 2 := by unfold ZY; simp
section
variable {S T : Sig Nd} (hS : ToSig S) (hu : T.usr = S.usr) (hp : T.prd = S.prd) (ρ : Go.Eng.Env Nd) (w0 : World)
include hS hp
theorem ZkB (b g : SX) : (otC b g).den T ρ w0 = fun h => (ndU (g.den T ρ)).h.getD 3 0 = (b.den T ρ).tI /\ OT (ndU (g.den T ρ)) h := by
 show T.prd 201 w0 _ _ = _
 rw [hp, hS.p201]
theorem ZgI (g : SX) : (osC g).den T ρ w0 = OTs (ndU (g.den T ρ)).l := by
 show T.prd 202 w0 _ _ = _
 rw [hp, hS.p202]
end
section
variable {S T : Sig Nd} (hS : ToSig S) (hu : T.usr = S.usr) (ρ : Go.Eng.Env Nd)
include hS hu
theorem ZhB (g : SX) : ((lnX g).den T ρ).tI = ((ndU (g.den T ρ)).l.length : Nat) := by
 show (U.co T .int (T.usr 609 _ _ _ _)).tI = _
 rw [hu, hS.tc.ta.u609]; rfl
theorem ZGP (g : SX) (k : Nat) : ((hdI g k).den T ρ).tI = (ndU (g.den T ρ)).h.getD k 0 := by
 show (U.co T .int (T.usr 613 _ _ _ _)).tI = _
 rw [hu, hS.tc.u613]; rfl
theorem ZBm (g i : SX) : ndU ((usG 628 g i z0).den T ρ) = Zhn (ndU (g.den T ρ)) (i.den T ρ).tI := by
 show ndU (U.co T .g (T.usr 628 _ _ _ _)) = _
 rw [hu, hS.u628]; rfl
end
theorem ZIe (S : Sig Nd) (hS : ToSig S) : ZcO S noOC := by
 refine ZaN S fun T w0 ρ h hu hp hd hr hpre => ⟨ρ, Ext.refl _ _, ?_, fun x hx => nomatch hx⟩
 show Zg ((osC (usG 627 z0 z0 z0)).den T ρ w0) emp h
 rw [star_emp, ZgI hS hp, show ndU ((usG 627 z0 z0 z0).den T ρ) = .mk [] [] by
  show ndU (U.co T .g (T.usr 627 _ _ _ _)) = _
  rw [hu, hS.u627]; rfl]
 show OTs [] h
 rw [Zm3]; exact hpre
theorem OT_hd {h h' : List Int} {l : List Nd} (e : ∀ k, 3 <= k -> k <= 7 -> h.getD k 0 = h'.getD k 0) : OT (.mk h l) = OT (.mk h' l) := by
 unfold OT Zkq
 rw [e 3 (by omega) (by omega), e 4 (by omega) (by omega), e 5 (by omega) (by omega), e 6 (by omega) (by omega), e 7 (by omega) (by omega)]
theorem ZI3 (S : Sig Nd) (hS : ToSig S) : ZcO S psOC := by
 refine ZaN S fun T w0 ρ h hu hp hd hr hpre => ⟨ρ, Ext.refl _ _, ?_, fun x hx => nomatch hx⟩
 have hpre : Zg ((rtC (rA 0) (ai 1) (gA 2)).den T ρ w0) (Zg ((osC (gA 4)).den T ρ w0) (Zg ((otC (ai 5) (gA 6)).den T ρ w0) emp)) h := hpre
 show Zg ((rtC (rA 0) (ai 1) (gA 2)).den T ρ w0) (Zg ((osC (.us .g 624 (gA 4) (gA 2) (ai 3) (gA 6))).den T ρ w0) emp) h
 rw [star_emp, ZgI hS hp, ZkB hS hp] at hpre
 rw [star_emp, ZgI hS hp, show ndU ((SX.us .g 624 (gA 4) (gA 2) (ai 3) (gA 6)).den T ρ) = Zhm (ndU ((gA 4).den T ρ)) (ndU ((gA 2).den T ρ)) ((ai 3).den T ρ).tI (ndU ((gA 6).den T ρ)) by
  show ndU (U.co T .g (T.usr 624 _ _ _ _)) = _
  rw [hu, hS.u624]; rfl]
 show Zg _ (OTs (_ ++ [_])) h
 rw [ZsM, Zd6, Zm3, star_emp]
 refine Zo (fun _ x => x) (fun _ x => Zo (fun _ x => x) (fun _ x => ?_) _ x) _ hpre
 have x := x.2
 rw [Nd.eta (ndU ((gA 6).den T ρ))] at x
 rw [OT_hd (h' := (ndU ((gA 6).den T ρ)).h)]
 ·exact x
 ·intro k k3 k7
  match k, k3, k7 with
  | 3, _, _ => rfl
  | 4, _, _ => rfl
  | 5, _, _ => rfl
  | 6, _, _ => rfl
  | 7, _, _ => rfl
theorem ZfA {T : Sig Nd} (ρ : Go.Eng.Env Nd) (x : SX) : ((ZhM x).den T ρ).tI = (x.den T ρ).tI + 2 := by rw [ZhM, SX.mk2_den]; rfl
theorem Zo2 {T : Sig Nd} {ρ : Go.Eng.Env Nd} {a b : SX} (h : ((eqS a b).den T ρ).tP) : a.den T ρ = b.den T ρ := by
 have h : (ap2 155 (a.den T ρ) (b.den T ρ)).tP := h
 rw [ZAB] at h; exact h
theorem ZH4 (S : Sig Nd) (hS : ToSig S) : ZcO S ZFN := by
 refine ZaN S fun T w0 ρ h hu hp hd hr hpre => ⟨ρ, Ext.refl _ _, ?_, fun x hx => nomatch hx⟩
 have hpre : Zg (rAD ZBB (ρ 0).tI (ρ 3).tR (ρ 2).tI) (Zg ((osC (gA 4)).den T ρ w0) emp) h := hpre
 have r0 := ZbR (hr (.f2 45 (lnX (gA 4)) (ai 5)) (by simp [ZFN]))
 have r1 := ZbR (hr (.f2 45 (ai 2) (ZhM (ai 5))) (by simp [ZFN]))
 have r2 := Zo2 (hr (eqS (rA 3) (usR 622 (gA 4) (ai 5) (ai 2))) (by simp [ZFN]))
 have r3 := hr (eLe z0 (ai 0)) (by simp [ZFN])
 rw [eLe_den] at r3
 rw [ZhB hS hu] at r0
 rw [ZfA] at r1
 have r0 : (((ndU ((gA 4).den T ρ)).l.length : Nat) : Int) = (ρ 5).tI := r0
 have r1 : (ρ 2).tI = (ρ 5).tI + 2 := r1
 have r3 : 0 <= (ρ 0).tI := r3
 have r2 : (ρ 3).tR = (ZY (ρ 5).tI (ndU ((gA 4).den T ρ)).l).take (ρ 2).tI.toNat := by
  have e : ((rA 3).den T ρ).tR = ((usR 622 (gA 4) (ai 5) (ai 2)).den T ρ).tR := by rw [r2]
  have e2 : ((usR 622 (gA 4) (ai 5) (ai 2)).den T ρ).tR = (ZY (ρ 5).tI (ndU ((gA 4).den T ρ)).l).take (ρ 2).tI.toNat := by
   show (U.co T .rows (T.usr 622 _ _ _ _)).tR = _
   rw [hu, hS.u622]; rfl
  rw [<- e2, <- e]; rfl
 show Zg ((otC (ai 0) (usG 625 (gA 4) (ai 0) (ai 5))).den T ρ w0) emp h
 rw [star_emp, ZgI hS hp] at hpre
 rw [star_emp, ZkB hS hp, show ndU ((usG 625 (gA 4) (ai 0) (ai 5)).den T ρ) = Zy4 (ndU ((gA 4).den T ρ)) (ρ 0).tI (ρ 5).tI by
  show ndU (U.co T .g (T.usr 625 _ _ _ _)) = _
  rw [hu, hS.u625]; rfl]
 generalize ndU ((gA 4).den T ρ) = ks at *
 rw [r1, <- r0, show ((ks.l.length : Int) + 2).toNat = ks.l.length + 2 by omega, ZJz (by rw [Zf2]; exact ZJd _)] at r2
 rw [r1, r2, <- r0] at hpre
 refine ⟨rfl, ?_⟩
 rw [<- r0]
 unfold Zy4 OT
 exact ⟨⟨rfl, rfl, r3, rfl, rfl⟩, hpre⟩
theorem ZIh (S : Sig Nd) (hS : ToSig S) : ZcO S unOC := by
 refine ZaN S fun T w0 ρ h hu hp hd hr hpre => ⟨ρ, Ext.refl _ _, ?_⟩
 have hpre : Zg ((otC (ai 0) (gA 3)).den T ρ w0) emp h := hpre
 rw [star_emp, ZkB hS hp] at hpre
 obtain ⟨h3, hpre⟩ := hpre
 rw [Zxw] at hpre
 obtain ⟨⟨a1, a2, a3, a4, a5⟩, hpre⟩ := hpre
 have h3 : (ndU ((gA 3).den T ρ)).h.getD 3 0 = (ρ 0).tI := h3
 refine ⟨?_, ?_⟩
 ·show Zg (rAD ZBB (ρ 0).tI ((usR 626 (gA 3) z0 z0).den T ρ).tR ((ZhM (lnX (gA 3))).den T ρ).tI) (Zg ((osC (usG 628 (gA 3) z0 z0)).den T ρ w0) emp) h
  rw [star_emp, ZgI hS hp, ZBm hS hu, ZfA, ZhB hS hu, <- h3]
  have e2 : ((usR 626 (gA 3) z0 z0).den T ρ).tR = ZY (ndU ((gA 3).den T ρ)).l.length (ndU ((gA 3).den T ρ)).l := by
   show (U.co T .rows (T.usr 626 _ _ _ _)).tR = _
   rw [hu, hS.u626]; rfl
  rw [e2]
  exact hpre
 ·intro x hx
  simp only [unOC, List.mem_cons, List.not_mem_nil, or_false] at hx
  rw [hx, eLe_den]
  show 0 <= (ρ 0).tI
  rw [<- h3]; exact a3
theorem ko_gh (S : Sig Nd) (hS : ToSig S) : ZcO S koC := by
 refine ZaN S fun T w0 ρ h hu hp hd hr hpre => ⟨ρ, Ext.refl _ _, ?_⟩
 have hpre : Zg (rAD ZBB (ρ 0).tI (ρ 4).tR (ρ 2).tI) (Zg ((osC (gA 5)).den T ρ w0) (Zg ((rtC (rA 6) (ai 7) (gA 8)).den T ρ w0) emp)) h := hpre
 have r0 := hr (eLe z0 (ai 3)) (by simp [koC])
 have r1 := hr (eLt (ai 3) (nt (rA 6) (ai 7) 6)) (by simp [koC])
 have r2 := hr (tgX (gA 8)) (by simp [koC])
 have r3 := hr (eLt z0 (lnX (gA 5))) (by simp [koC])
 have r4 := ZbR (hr (.f2 45 (nt (rA 4) (ai 3) 3) (hdI (kdX (gA 5) z0) 3)) (by simp [koC]))
 have r5 := ZbR (hr (.f2 45 (nt (rA 4) (ai 3) 4) (hdI (kdX (gA 5) z0) 6)) (by simp [koC]))
 have r6 := ZbR (hr (.f2 45 (nt (rA 4) (ai 3) 5) (hdI (kdX (gA 5) z0) 7)) (by simp [koC]))
 rw [eLe_den] at r0
 rw [Yo] at r1 r3
 rw [ZdT hS.tc.ta hu] at r2
 rw [ZhB hS hu] at r3
 rw [ZGP hS hu, ZrR hS.tc.ta hu] at r4 r5 r6
 have r3 : (0 : Int) < ((ndU ((gA 5).den T ρ)).l.length : Nat) := r3
 have er : ((kdX (gA 5) z0).den T ρ) = ((kdX (gA 5) z0).den T ρ) := rfl
 have ek := ZrR hS.tc.ta hu ρ (gA 5) z0
 have ern := ZBm hS hu ρ (gA 5) (.int 1)
 rw [star_emp, ZgI hS hp] at hpre
 obtain ⟨x, tl, hl⟩ : ∃ x tl, (ndU ((gA 5).den T ρ)).l = x :: tl := by
  cases hq : (ndU ((gA 5).den T ρ)).l with
  | nil => rw [hq] at r3; simp at r3
  | cons x tl => exact ⟨x, tl, rfl⟩
 have ek0 : (ndU ((gA 5).den T ρ)).kid (z0.den T ρ).tI = x := by unfold Nd.kid; rw [hl]; rfl
 rw [ek0] at ek r4 r5 r6
 rw [hl, Zd6] at hpre
 obtain ⟨ha, hb, d1, rfl, h1, hc, hd2, d2, rfl, ⟨he, hf, d3, rfl, h4, h5⟩, h6⟩ := hpre
 obtain ⟨q1, q2, q3⟩ := ZBc hS.tc.ta hu hp h6 r0 r1 r2
 have h4' := h4
 rw [Zxw] at h4'
 obtain ⟨⟨a1, a2, a3, a4, a5⟩, _⟩ := h4'
 refine ⟨?_, ?_⟩
 ·show Zg (rAD ZBB (ρ 0).tI (ρ 4).tR (ρ 2).tI) (Zg ((osC (usG 628 (gA 5) (.int 1) z0)).den T ρ w0) (Zg ((otC (nt (rA 4) (ai 3) 3) (kdX (gA 5) z0)).den T ρ w0) (Zg ((rtC (rA 6) (ai 7) (gA 8)).den T ρ w0) (Zg ((rtC (krX (gA 8)) (ai 3) (kdX (gA 8) (ai 3))).den T ρ w0) emp)))) _
  rw [star_emp, ZgI hS hp, ZkB hS hp, ek, ern]
  have e1 : (Zhn (ndU ((gA 5).den T ρ)) ((SX.int 1).den T ρ).tI).l = tl := by
   show List.drop 1 _ = tl
   rw [hl]; rfl
  rw [e1, <- Zc (OTs tl), ZP (OTs tl)]
  exact ⟨ha, _, d1, rfl, h1, _, hd2, d2, rfl, ⟨he, hf, d3, rfl, ⟨r4.symm, h4⟩, h5⟩, q1⟩
 ·intro y hy
  simp only [koC, List.mem_cons, List.not_mem_nil, or_false] at hy
  rcases hy with rfl | rfl | rfl | rfl | rfl
  ·show (ap2 45 _ _).tP
   rw [p45, r5, ZhB hS hu, ek, a1]
  ·show (ap2 45 _ _).tP
   rw [p45, r6, ZfA, ZhB hS hu, ek, a2]
  ·rw [Yo, ZcU hS.tc.ta hu, ZcU hS.tc.ta hu]
   exact Int.ofNat_lt.2 q2
  ·rw [eLe_den, ZcU hS.tc.ta hu]
   exact Int.natCast_nonneg _
  ·rw [ZdT hS.tc.ta hu]; exact q3
theorem ap2_118' {G : Type} (a b : U G) : ap2 118 a b = .rows (a.tR.drop b.tI.toNat) := rfl
theorem ZBr (g : Nd) : SG g ↔ (g.l.length : Int) <= 100000 /\ SGs g.l := by cases g; unfold SG; rfl
theorem ZmY : ∀ {l : List Nd}, SGs l -> ∀ n ∈ l, SG n
 | [], _, n, hn => nomatch hn
 | m :: l, h, n, hn => by
  unfold SGs at h
  rcases List.mem_cons.1 hn with rfl | hn
  ·exact h.1
  ·exact ZmY h.2 n hn
theorem ZeT (g k : Nd) : SM g k ↔ SMs g.l k.l := by cases g; cases k; unfold SM; rfl
mutual
theorem SM_TG : ∀ (x y : Nd), x.h.getD 1 0 = y.h.getD 1 0 -> ht x.h = ht y.h -> SM x y -> TG y -> TG x
 | .mk h l, .mk k m, e1, e2, hs, ht => by
  unfold SM at hs
  unfold TG at ht ⊢
  have e1 : h.getD 1 0 = k.getD 1 0 := e1
  have e2 : Go.Proofs.YtlmkcakhhbckhaaGreatDoor.ht h = Go.Proofs.YtlmkcakhhbckhaaGreatDoor.ht k := e2
  rw [e1, e2, (Znj l m hs)]
  exact ⟨ht.1, ht.2.1, ZnG l m hs ht.2.2⟩
theorem ZnG : ∀ (l m : List Nd), SMs l m -> TGs m -> TGs l
 | [], [], _, _ => by unfold TGs; trivial
 | [], _ :: _, hs, _ => by unfold SMs at hs; exact hs.elim
 | _ :: _, [], hs, _ => by unfold SMs at hs; exact hs.elim
 | x :: l, y :: m, hs, ht => by
  unfold SMs at hs
  unfold TGs at ht ⊢
  exact ⟨SM_TG x y hs.1.2.1 hs.1.2.2 hs.2.1 ht.1, ZnG l m hs.2.2 ht.2⟩
theorem Znj : ∀ (l m : List Nd), SMs l m -> l.length = m.length
 | [], [], _ => rfl
 | [], _ :: _, hs => by unfold SMs at hs; exact hs.elim
 | _ :: _, [], hs => by unfold SMs at hs; exact hs.elim
 | x :: l, y :: m, hs => by unfold SMs at hs; simp [Znj l m hs.2.2]
end
theorem Zsd : SMs [] [] := by unfold SMs; trivial
theorem Zpk {x y : Nd} (e0 : x.h.getD 0 0 = y.h.getD 0 0) (e1 : x.h.getD 1 0 = y.h.getD 1 0) (e2 : ht x.h = ht y.h) (hs : SM x y) : ∀ {l m : List Nd}, SMs l m -> SMs (l ++ [x]) (m ++ [y])
 | [], [], _ => by show SMs [x] [y]; unfold SMs; exact ⟨⟨e0, e1, e2⟩, hs, Zsd⟩
 | [], _ :: _, h => by unfold SMs at h; exact h.elim
 | _ :: _, [], h => by unfold SMs at h; exact h.elim
 | a :: l, b :: m, h => by
  unfold SMs at h
  show SMs (a :: (l ++ [x])) (b :: (m ++ [y]))
  unfold SMs
  exact ⟨h.1, h.2.1, Zpk e0 e1 e2 hs h.2.2⟩
theorem ZqF {α : Type} {R : List α} {i : Nat} {a : α} (h : i < R.length) : (R.set i a).take (i + 1) = R.take i ++ [a] := by
 rw [List.take_add_one, List.take_set_of_le (ZJd i), List.getElem?_set_self h]; rfl
theorem Zpp {g : Nd} {i : Nat} (h : i < g.l.length) : g.l.take (i + 1) = g.l.take i ++ [g.kid i] := by
 rw [List.take_add_one]
 unfold Nd.kid
 rw [ZJu, ZJn, ZJq h]; rfl
theorem Zot (n : Int) (l : List Nd) : (ZY n l).take l.length = l.map (fun x => r6 x.h) := by
 unfold ZY
 rw [List.take_append_of_le_length (by simp), ZJz (by simp)]
theorem Zqx {n : Int} {l : List Nd} {i : Nat} (hn : (l.length : Int) = n) (h1 : n <= i) (h2 : (i : Int) < n + 2) : (ZY n l)[i]? = some (mkI i) := by
 unfold ZY
 rw [ZJG (by simp; omega), ZJx]
 by_cases h : (i : Int) = n
 ·rw [show i - l.length = 0 by omega, h]; rfl
 ·rw [show i - l.length = 1 by omega, show (i : Int) = n + 1 by omega]; rfl
theorem Zt6 : ∀ {l m : List Nd}, SMs l m -> ∀ i, i < l.length -> ((l.getD i nd0).h.getD 0 0 = (m.getD i nd0).h.getD 0 0 /\ (l.getD i nd0).h.getD 1 0 = (m.getD i nd0).h.getD 1 0 /\ ht (l.getD i nd0).h = ht (m.getD i nd0).h) /\ SM (l.getD i nd0) (m.getD i nd0)
 | [], _, _, i, hi => absurd hi (Nat.not_lt_zero i)
 | _ :: _, [], h, _, _ => by unfold SMs at h; exact h.elim
 | a :: l, b :: m, h, i, hi => by
  unfold SMs at h
  cases i with
  | zero => exact ⟨h.1, h.2.1⟩
  | succ i => exact Zt6 h.2.2 i (by simpa using hi)
theorem Zoe {α : Type} {a b : List α} {i : Nat} {d : α} (h : a.drop i = b.drop i) : a.getD i d = b.getD i d := by
 have e : ∀ l : List α, l.getD i d = (l.drop i).getD 0 d := fun l => by rw [ZJn, ZJn, ZJM, Nat.add_zero]
 rw [e a, e b, h]
theorem Zlt {α : Type} {a b : List α} {i : Nat} {x : α} (h : a.drop i = b.drop i) : (a.set i x).drop (i + 1) = b.drop (i + 1) := by
 rw [List.drop_set_of_lt (Nat.lt_succ_self i), show i + 1 = 1 + i by omega, Nat.add_comm 1 i, show a.drop (i + 1) = (a.drop i).drop 1 by rw [List.drop_drop], show b.drop (i + 1) = (b.drop i).drop 1 by rw [List.drop_drop], h]
theorem ZEr {n : Int} {l : List Nd} {i : Nat} (h : i < l.length) : (ZY n l).getD i [] = r6 (l.getD i nd0).h := by
 unfold ZY
 rw [ZJn, ZJF (by simpa using h), ZJj, ZJn, ZJq h]; rfl
theorem ZAa (k : Nd) (i : Nat) : (Zhn k i).kid 0 = k.kid i := by
 show (k.l.drop ((i : Int)).toNat).getD 0 nd0 = k.l.getD ((i : Int)).toNat nd0
 rw [ZJu, ZJn, ZJn, ZJM, Nat.add_zero]
theorem ZtW (k : Nd) (i : Nat) : Zhn (Zhn k i) 1 = Zhn k ((i : Int) + 1) := by
 unfold Zhn
 show Nd.mk [] ((k.l.drop ((i : Int)).toNat).drop 1) = _
 rw [List.drop_drop, ZJu, show ((i : Int) + 1).toNat = i + 1 by omega]
def ZAG : SX := v 606 (g 2)
def ZCM : SX := v 999 z
def Zbb : SX := .f3 112 (r 0) (a 1) (k 6)
def ZqQ : SX := vR 601 (g 2)
def ZFi : SX := .f1 32 ZqQ
def ZCi : SX := l z (.f3 112 (r 0) (a 1) (k 3))
def ZCL : SX := e Zbb z
def ZCI : SX := t (.f3 112 (r 0) (a 1) (k 5)) z
def Zbg : SX := .f2 40 Zbb (k 2)
def ZES : SX := .f2 122 z (.f2 122 (.f1 35 (.byt [])) (.f2 122 (k (-1)) (.f2 122 z (.f2 122 z (.f1 152 z)))))
def Zxy : SX := .f2 127 Zbg (.f2 122 z ZES)
def ZoW : SX := w 627 z
def ZpW : SX := v 609 (g 6)
def ZyS : SX := .f2 41 (k (-7)) (a 4)
def ZjR : SX := f 604 (g 2) (a 4)
def Zqp : SX := v 606 ZjR
def Zmd : SX := .f3 112 ZqQ (a 4) (k 6)
def Zsp : SX := .f2 40 Zmd (k 2)
def ZcX : SX := .f2 40 (a 4) (k 1)
def Zss : SX := .f1 23 ZcX
def Zx3 : SX := .f2 41 Zbg ZcX
def Zyi : SX := l z Zx3
def Zv9 : SX := t Zx3 (.f2 41 Zbg (a 4))
def ZsP : SX := l z ZcX
def Zt3 : SX := l ZcX Zbg
def ZtP : SX := .f3 132 (r 5) (a 4) (.f2 122 ZyS ZES)
def Zom : SX := .us .g 624 (g 6) (g 2) (a 4) (g 9)
def Zsc : SX := .f2 51 ZcX Zbb
def ZfZ : SX := h 625 (g 6) (a 3) Zbb
def ZIj : VC := i (l ZAG ZCM) (i (l z ZAG) (i (p 608 (g 2)) (i (p 620 (g 2)) (i (e Zbb ZFi) (i (e Zbb (v 609 (g 2))) (i (.f2 50 ZCi ZCL) (i (.f2 50 ZCI ZCL) (n (l z Zbb) (n (.f1 23 Zbg) (n (l z Zbg) (n (l Zbg Zbg) (n (l (.f2 42 Zbg (k 56)) k0) (u 3 .int (i (l z (a 3)) (n (e (.f1 32 Zxy) Zbg) (n (.f2 155 (.f2 115 Zxy z) (wR 622 ZoW Zbb)) (n (e (v 609 ZoW) (.f2 51 z Zbb)) (n (c 623 ZoW (g 2)) (u 4 .int (u 5 .rows (u 6 .g (i (l z (a 4)) (i (l (a 4) Zbg) (i (e (.f1 32 (r 5)) Zbg) (i (.f2 155 (.f2 115 (r 5) (a 4)) (hR 622 (g 6) Zbb (a 4))) (i (e ZpW (.f2 51 (a 4) Zbb)) (i (c 623 (g 6) (g 2)) (.and (i (t (a 4) Zbg) (n (.f1 23 ZyS) (n (t (a 4) (.f1 32 (r 5))) (.and (i (t (a 4) Zbb) (i (t Zqp ZAG) (i (l z Zqp) (i (p 608 ZjR) (n ZCi (n ZCI (n (t (a 4) ZFi) (u 7 .int (i (l z (a 7)) (n (t Zqp ZCM) (n (p 620 ZjR) (u 8 .int (u 9 .g (i (c 621 (g 9) ZjR) (i (p 608 (g 9)) (i (l z (a 8)) (i (e Zmd (v 609 (g 9))) (i (e (d 613 (g 9) (k 3)) (a 8)) (i (e (d 613 (g 9) (k 6)) Zmd) (i (e (d 613 (g 9) (k 7)) Zsp) (n Zss (n Zyi (n Zv9 (n ZsP (n Zt3 (n (.f2 155 (.f2 115 (.f3 132 ZtP (a 4) (.f2 122 (.f3 112 ZqQ (a 4) z) (.f2 122 (.f3 112 ZqQ (a 4) (k 1)) (.f2 122 (.f1 35 (.f1 36 (.f3 112 ZqQ (a 4) (k 2)))) (.f2 122 (a 8) (.f2 122 Zmd (.f2 122 Zsp (.f1 152 z)))))))) ZcX) (hR 622 Zom Zbb ZcX)) (n (e (v 609 Zom) Zsc) (n (c 623 Zom (g 2)) .tt)))))))))))))))))))))))))))) (i (l Zbb (a 4)) (n Zss (n Zyi (n Zv9 (n ZsP (n Zt3 (n (.f2 155 (.f2 115 ZtP ZcX) (hR 622 (g 6) Zbb ZcX)) (n (e ZpW Zsc) .tt)))))))))))) (i (l Zbg (a 4)) (n (e ZpW Zbb) (n (e Zbg Zbg) (n (.f2 155 (r 5) (hR 622 (g 6) Zbb Zbg)) (n (l Zbb Zbg) (n (c 621 ZfZ (g 2)) (n (p 608 ZfZ) (n (e Zbb (v 609 ZfZ)) (n (e (d 613 ZfZ (k 3)) (a 3)) (n (e (d 613 ZfZ (k 6)) Zbb) (n (e (d 613 ZfZ (k 7)) Zbg) .tt)))))))))))))))))))))))))))))))))))))))
theorem ZHs : ZeK Tryz.prog ZGV 12 8 ZBJ = ZIj := by kernel_rfl
def ZAo : SX := v 606 (g 5)
def ZCv : SX := v 999 z
def ZDe : SX := v 609 (g 6)
def Zhp : SX := .f2 40 ZDe (k 2)
def ZiF : SX := .f3 112 (r 3) (a 4) (k 6)
def ZvI : SX := vR 601 (g 5)
def ZB9 : SX := .f1 32 ZvI
def ZEP : SX := l z (.f3 112 (r 3) (a 4) (k 3))
def ZFb : SX := e ZiF z
def ZDQ : SX := t (.f3 112 (r 3) (a 4) (k 5)) z
def Zr5 : SX := e (a 1) ZiF
def Zpb : SX := .f2 155 (.bool true) (.bool false)
def ZhV : SX := .f2 40 ZiF (k 2)
def Zk1 : SX := vR 626 (g 6)
def ZsW : SX := .f2 118 Zk1 z
def ZrX : SX := w 628 (g 6)
def ZhU : SX := w 604 (g 9)
def Zvs : SX := .f3 112 (r 8) (a 7) (k 4)
def Zs3 : SX := .f3 112 (r 8) (a 7) (k 5)
def Zus : SX := v 609 ZhU
def Zko : SX := f 604 (g 5) (a 7)
def Zpq : SX := v 606 Zko
def Zyq : SX := t (a 7) (.f1 32 (r 8))
def ZsZ : SX := .f3 112 (r 8) (a 7) z
def ZwI : SX := e ZsZ (.f3 112 ZvI (a 7) z)
def Zs6 : SX := e (.f3 112 (r 8) (a 7) (k 1)) (.f3 112 ZvI (a 7) (k 1))
def Zfb : SX := .f2 40 (a 7) (k 1)
def ZkE : SX := .f1 23 Zfb
def Zvz : SX := .f2 41 Zhp Zfb
def ZjU : SX := l z Zvz
def ZjN : SX := t Zvz (.f2 41 Zhp (a 7))
def Zka : SX := l z Zfb
def Zkl : SX := l Zfb Zhp
def ZkM : SX := .f2 155 (.f2 118 (.f3 132 (r 8) (a 7) (.f2 122 (k (-9)) (.f2 122 z (.f2 122 (.f1 35 (.byt [])) (.f2 122 (k (-1)) (.f2 122 z (.f2 122 z (.f1 152 z)))))))) Zfb) (.f2 118 Zk1 Zfb)
def ZtX : SX := f 628 (g 6) Zfb
def Zop : SX := .f2 155 (f 628 (g 9) (k 1)) ZtX
def Zpc : SX := e Zhp (a 2)
def ZvV : SX := .f2 41 (k (-7)) (a 7)
def ZGZ : VC := i (l ZAo ZCv) (i (l z ZAo) (i (p 608 (g 5)) (i (p 620 (g 5)) (i (c 621 (g 6) (g 5)) (i (e (a 1) ZDe) (i (e (a 2) Zhp) (i (e ZiF ZB9) (i (e ZiF (v 609 (g 5))) (i (.f2 50 ZEP ZFb) (i (.f2 50 ZDQ ZFb) (n (l z ZiF) (n (l z (a 1)) (.and (i (.f1 2 Zr5) (n Zpb .tt)) (i Zr5 (i (l z (a 0)) (n (.f1 23 ZhV) (n (l z (a 2)) (n (l z ZhV) (n (l ZhV (a 2)) (n (l z Zhp) (n (e (.f1 32 Zk1) Zhp) (n (.f2 155 ZsW ZsW) (n (.f2 155 ZrX ZrX) (u 7 .int (u 8 .rows (u 9 .g (i (l z (a 7)) (i (l (a 7) Zhp) (i (e (.f1 32 (r 8)) Zhp) (i (.f2 155 (.f2 118 (r 8) (a 7)) (.f2 118 Zk1 (a 7))) (i (.f2 155 (g 9) (f 628 (g 6) (a 7))) (.and (i (t (a 7) ZhV) (.and (i (t (a 7) ZiF) (n (t z (v 609 (g 9))) (n (e (.f3 112 (r 8) (a 7) (k 3)) (d 613 ZhU (k 3))) (n (e Zvs (d 613 ZhU (k 6))) (n (e Zs3 (d 613 ZhU (k 7))) (i (e Zvs Zus) (i (e Zs3 (.f2 40 Zus (k 2))) (i (t Zpq ZAo) (i (l z Zpq) (i (p 608 Zko) (n Zyq (n ZEP (n ZDQ (n (t (a 7) ZB9) (n (t Zpq ZCv) (n (p 620 Zko) (n (c 621 ZhU Zko) (.and (i ZwI (.and (i Zs6 (n ZkE (n ZjU (n ZjN (n Zka (n Zkl (n ZkM (n Zop (n Zpc (n (.f2 155 (.bool true) (.f2 150 (.f1 36 (.f3 112 (r 8) (a 7) (k 2))) (.f1 36 (.f3 112 ZvI (a 7) (k 2))))) .tt)))))))))) (i (.f1 2 Zs6) (n ZkE (n ZjU (n ZjN (n Zka (n Zkl (n ZkM (n Zop (n Zpc (n Zpb .tt)))))))))))) (i (.f1 2 ZwI) (n ZkE (n ZjU (n ZjN (n Zka (n Zkl (n ZkM (n Zop (n Zpc (n Zpb .tt)))))))))))))))))))))))))))) (i (l ZiF (a 7)) (n Zyq (n (.f1 23 ZvV) (n ZkE (n ZjU (n ZjN (n Zka (n Zkl (n ZkM (n (.f2 155 (g 9) ZtX) (n (.f2 155 (.bool true) (e ZsZ ZvV)) .tt))))))))))))) (i (l ZhV (a 7)) .tt)))))))))))))))))))))))))))))))))
theorem ZHI : ZeK Tryz.prog ZGE 12 13 ZA3 = ZGZ := by kernel_rfl
theorem ZFO (S : Sig Nd) (hS : ToSig S) (n : Nat) (IH : Zr (S.bd n) Tryz.prog 8 ZGT) : Zr (S.bd n) Tryz.prog 8 ZBJ := by
 replace hS := ZCH hS n
 refine Zj (S.bd n) (C := ZGV) (fuel := 12) (Zai ⟨Zk (by decide) IH, trivial⟩ ⟨⟨⟨by decide, Zgx _ hS.tc.ta⟩, ⟨by decide, ZIe _ hS⟩, trivial, ⟨by decide, ZhE _ hS.tc.ta⟩, ⟨by decide, ZI3 _ hS⟩, ⟨by decide, ZH4 _ hS⟩, trivial⟩, trivial⟩ trivial) fun ρ => ?_
 rw [ZHs]
 simp only [ZIj, ZAG, ZCM, Zbb, ZqQ, ZFi, ZCi, ZCL, ZCI, Zbg, ZES, Zxy, ZoW, ZpW, ZyS, ZjR, Zqp, Zmd, Zsp, ZcX, Zss, Zx3, Zyi, Zv9, ZsP, Zt3, ZtP, Zom, Zsc, ZfZ, hS.tc.ta.u601, hS.tc.ta.u604, hS.tc.ta.u606, hS.tc.ta.u608, hS.tc.ta.u609, hS.tc.u613, hS.u620, hS.u621, hS.u622, hS.u623, hS.u624, hS.u625, hS.u627, Znt, ZaA, ZJu, VC.den, SX.den, Env.upd, beq_iff_eq, ZJm, beq_eq_false_iff_ne, ne_eq, ZJl, ZJk, Int.reduceToNat, Nat.reduceEqDiff, reduceIte, sB]
 generalize ndU (U.co (S.bd n) .g (ρ 2)) = g
 generalize (ρ 0).tR.getD (ρ 1).tI.toNat [] = r
 simp only [Yn]
 intro h1 h2 tg sg a1 a2 a3 a4
 obtain ⟨t1, t2, t3⟩ := (Zao g).1 tg
 obtain ⟨s1, s2⟩ := (ZBr g).1 sg
 rw [a1]
 generalize hN : (g.l.length : Int) = N at *
 refine ⟨by omega, ⟨by omega, by omega⟩, by omega, ZJy _, by omega, fun b b0 => ⟨?_, rfl, ?_, ?_, fun i R ks i0 i1 lr hR lk hm => ⟨fun hi => ⟨⟨by omega, by omega⟩, by omega, fun hj d1 d2 tk => ⟨by omega, by omega, by omega, fun c c0 => ⟨by omega, ZmY s2 _ (Zbv i0 (by omega)), fun b' x sm tx b0' lx x3 x6 x7 => ?_⟩⟩, fun hj => ?_⟩, fun hi => ?_⟩⟩⟩
 ·show (((List.replicate (N + 2).toNat _).length : Nat) : Int) = _
  rw [List.length_replicate]; omega
 ·unfold Ztm; rw [if_neg (by omega)]; rfl
 ·show SMs [] (List.take 0 _)
  exact Zsd
 ·obtain ⟨q, rfl⟩ := ZJf i0
  have lq : ks.l.length = q := by unfold Ztm at lk; rw [if_neg (by omega)] at lk; omega
  have qg : q < g.l.length := by omega
  have kr := Zcf (n := g) i0 (by omega)
  rw [kr] at x6 x7 ⊢
  simp only [ZJu] at hR ⊢
  rw [show ((q : Int) + 1).toNat = q + 1 by omega]
  refine ⟨⟨by omega, by omega⟩, by omega, by omega, by omega, by omega, ?_, ?_, ?_, trivial⟩
  ·rw [ZqF (by rw [List.length_set]; omega), List.take_set_of_le (ZJd q), hR]
   rw [<- lq, Zot]
   have e := Zot N (Zhm ks g q x).l
   have el : (Zhm ks g q x).l.length = ks.l.length + 1 := by unfold Zhm; simp [Nd.l]
   rw [el] at e
   rw [lq] at e ⊢
   rw [e]
   show _ = List.map _ (ks.l ++ [_])
   rw [ZJD, List.map_singleton]
   congr 2
   show _ = r6 [_, _, _, _, _, _, _, _]
   unfold r6
   simp only [List.getD_cons_zero, List.getD_cons_succ]
   rw [x3, x6, x7]; rfl
  ·have el : (Zhm ks g q x).l.length = ks.l.length + 1 := by unfold Zhm; simp [Nd.l]
   rw [el, lq]; unfold Ztm; rw [if_neg (by omega)]; omega
  ·have el : (Zhm ks g q x).l.length = ks.l.length + 1 := by unfold Zhm; simp [Nd.l]
   rw [el, lq, Zpp qg]
   rw [lq] at hm
   show SMs (ks.l ++ [_]) _
   refine Zpk (x := .mk [(g.kid q).h.getD 0 0, (g.kid q).h.getD 1 0, (Zed (ht (g.kid q).h) : Nat), x.h.getD 3 0, x.h.getD 4 0, x.h.getD 5 0, x.h.getD 6 0, x.h.getD 7 0] x.l) (y := g.kid q) rfl rfl ?_ ?_ hm
   ·show decB ((Zed (ht (g.kid q).h) : Nat) : Int).toNat = _
    rw [ZJu, Yd]
   ·rw [ZeT]
    exact (ZeT x _).1 sm
 ·obtain ⟨q, rfl⟩ := ZJf i0
  have lq : (ks.l.length : Int) = N := by
   unfold Ztm at lk
   split at lk <;> omega
  simp only [ZJu] at hR ⊢
  rw [show ((q : Int) + 1).toNat = q + 1 by omega]
  refine ⟨⟨by omega, by omega⟩, by omega, by omega, by omega, by omega, ?_, ?_, trivial⟩
  ·rw [ZqF (by omega), hR, List.take_add_one, Zqx lq (by omega) (by omega)]; rfl
  ·unfold Ztm at lk ⊢
   split <;> omega
 ·have lq : (ks.l.length : Int) = N := by
   unfold Ztm at lk
   split at lk <;> omega
  have hl : ks.l.length = g.l.length := by omega
  rw [hl, List.take_length] at hm
  have ei : i = N + 2 := by omega
  subst ei
  rw [ZJz (l := R) (i := (N + 2).toNat) (by omega)] at hR
  refine ⟨lq, trivial, hR, by omega, ?_, ?_, lq.symm, rfl, rfl, rfl, trivial⟩
  ·rw [ZeT]; exact hm
  ·rw [Zao]
   refine ⟨by show (ks.l.length : Int) <= _; omega, ⟨?_, by show (-9223372036854775808 : Int) <= 0; omega, by show (0 : Int) <= 9223372036854775807; omega⟩, ZnG _ _ hm t3⟩
   show ((decB 0).length : Int) <= _
   exact (by decide : ((decB 0).length : Int) <= 9223372036854775807)
theorem ZCs (S : Sig Nd) (hS : ToSig S) : Zr S Tryz.prog 8 lntC := Zc7 S (me := dpX (gA 2)) (by decide) (by decide) (ZJv ..) fun n IH => ZFO S hS n IH
theorem ZHj (S : Sig Nd) (hS : ToSig S) (n : Nat) (IH : Zr (S.bd n) Tryz.prog 13 ZIM) : Zr (S.bd n) Tryz.prog 13 ZA3 := by
 replace hS := ZCH hS n
 refine Zj (S.bd n) (C := ZGE) (fuel := 12) (Zai ⟨Zk (by decide) IH, trivial⟩ ⟨⟨⟨by decide, Zgx _ hS.tc.ta⟩, ⟨by decide, ZIh _ hS⟩, trivial, ⟨by decide, ko_gh _ hS⟩, trivial⟩, trivial⟩ trivial) fun ρ => ?_
 rw [ZHI]
 simp only [ZGZ, ZAo, ZCv, ZDe, Zhp, ZiF, ZvI, ZB9, ZEP, ZFb, ZDQ, Zr5, Zpb, ZhV, Zk1, ZsW, ZrX, ZhU, Zvs, Zs3, Zus, Zko, Zpq, Zyq, ZsZ, ZwI, Zs6, Zfb, ZkE, Zvz, ZjU, ZjN, Zka, Zkl, ZkM, ZtX, Zop, Zpc, ZvV, hS.tc.ta.u601, hS.tc.ta.u604, hS.tc.ta.u606, hS.tc.ta.u608, hS.tc.ta.u609, hS.tc.u613, hS.u620, hS.u621, hS.u626, hS.u628, Znt, ZaA, ZJu, VC.den, SX.den, Env.upd, ap2_118', U.g.injEq, beq_iff_eq, ZJm, beq_eq_false_iff_ne, ne_eq, ZJl, ZJk, Int.reduceToNat, Nat.reduceEqDiff, reduceIte, sB]
 generalize ndU (U.co (S.bd n) .g (ρ 5)) = g
 generalize ndU (U.co (S.bd n) .g (ρ 6)) = k
 generalize (ρ 3).tR.getD (ρ 4).tI.toNat [] = r
 simp only [Yn, Zf2]
 intro h1 h2 tg sg sm e1 e2 a1 a2 a3 a4
 obtain ⟨t1, t2, t3⟩ := (Zao g).1 tg
 obtain ⟨s1, s2⟩ := (ZBr g).1 sg
 have hk := (ZeT _ _).1 sm
 have lk := Znj _ _ hk
 rw [a1, e1, e2]
 refine ⟨by omega, by omega, fun hne => absurd (by omega) hne, fun hN b0 => ⟨⟨by omega, by omega⟩, by omega, by omega, by omega, by omega, by omega, trivial, trivial, fun i R rest i0 i1 lR hd hr => ⟨fun hi => ⟨fun hj => ?_, fun hj => ?_⟩, fun _ => trivial⟩⟩⟩
 ·obtain ⟨q, rfl⟩ := ZJf i0
  have qk : q < k.l.length := by omega
  subst hr
  simp only [ZJu] at hd ⊢
  have eR : R.getD q [] = r6 (k.kid q).h := by
   rw [Zoe hd, ZEr qk]; rfl
  obtain ⟨⟨x0, x1, x2⟩, xs⟩ := Zt6 hk q qk
  have kr := Zcf (n := g) i0 (by omega)
  simp only [ZJu] at kr
  rw [eR, kr, ZAa, ZtW]
  have y0 : (k.kid q).h.getD 0 0 = (g.kid q).h.getD 0 0 := x0
  have y1 : (k.kid q).h.getD 1 0 = (g.kid q).h.getD 1 0 := x1
  have y2 : ht (k.kid q).h = ht (g.kid q).h := x2
  have yb : (decB ((r6 (k.kid q).h).getD 2 0).toNat == decB ((g.kid q).h.getD 2 0).toNat) = true := by
   rw [beq_iff_eq]; exact y2
  refine ⟨?_, rfl, rfl, rfl, fun _ _ d1 d2 tk => ⟨by omega, by omega, by omega, by omega, by omega, ZmY s2 _ (Zbv i0 (by omega)), xs, fun _ => ⟨fun _ => ?_, fun hc => absurd y1 hc⟩, fun hc => absurd y0 hc⟩⟩
  ·show (0 : Int) < ((k.l.drop ((q : Int)).toNat).length : Nat)
   rw [ZJB]; omega
  ·rw [yb, show ((q : Int) + 1).toNat = q + 1 by omega]
   exact ⟨⟨by omega, by omega⟩, by omega, by omega, by omega, by omega, Zlt hd, rfl, trivial, rfl, trivial⟩
 ·obtain ⟨q, rfl⟩ := ZJf i0
  subst hr
  simp only [ZJu] at hd ⊢
  have eR : R.getD q [] = mkI q := by
   rw [Zoe hd, ZJn, Zqx rfl (by omega) (by omega)]; rfl
  rw [eR, show ((q : Int) + 1).toNat = q + 1 by omega]
  refine ⟨by omega, ⟨by omega, by omega⟩, ⟨by omega, by omega⟩, by omega, by omega, by omega, by omega, Zlt hd, ?_, ?_, trivial⟩
  ·unfold Zhn
   rw [List.drop_eq_nil_of_le (by omega), List.drop_eq_nil_of_le (by omega)]
  ·exact (beq_self_eq_true (-7 - (q : Int))).symm
theorem ZCz (S : Sig Nd) (hS : ToSig S) : Zr S Tryz.prog 13 kepC := Zc7 S (me := dpX (gA 5)) (by decide) (by decide) (ZJv ..) fun n IH => ZHj S hS n IH
end
end Go.Proofs.YtlmkcakhhbckhaaGreatDoor
namespace Go.Proofs.YtlmkcakhhbckhaaGreatDoor
noncomputable section
open Go.Eng
def shN (n : Int) (j : Nat) : Int := n / (256 : Int) ^ j
def byt (n : Int) : UInt8 := UInt8.ofNat (n % 256).toNat
def Zec (n : Int) : Nat -> List UInt8
 | 0 => []
 | j + 1 => byt (shN n j) :: Zec n j
structure EnSig {G : Type} (S : Sig G) : Prop where
 u93 : ∀ a b c d, S.usr 93 a b c d = .bytes (Zec a.tI b.tI.toNat)
 u94 : ∀ a b c d, S.usr 94 a b c d = .bytes (List.replicate (c.tI + 1).toNat 0 ++ Zec a.tI (b.tI - 1 - c.tI).toNat)
 u95 : ∀ a b c d, S.usr 95 a b c d = .int (shN a.tI b.tI.toNat)
 u96 : ∀ a b c d, S.usr 96 a b c d = .bytes ((Zec a.tI b.tI.toNat).take c.tI.toNat)
def u64hi : SX := .int 18446744073709551616
def fixR : List SX := [eLe (.int 0) (ai 0), eLt (ai 0) u64hi, eLe (.int 1) (ai 1), eLe (ai 1) (.int 8)]
def Zgh : Ctr := ⟨[.int, .int], [.one (.int .u64 (ai 0)), .one (.int .i64 (ai 1))], [], fixR, [.int, .int, .bytes], .one (slC (ai 2) (ai 1) (ai 3) 1), [bAr (ai 2) (bA 4) (ai 3)], [eqS (.f2 114 (bA 4) (ai 1)) (usY 93 (ai 0) (ai 1) z0), eLe (ai 1) (.f1 31 (bA 4)), eLe (ai 1) (ai 3)]⟩
def ZHz : Inv := ⟨[.int, .int, .bytes], [(6, .one (.int .i64 (di 0))), (0, .one (.int .u64 (di 1)))], [bAr (ai 2) (bA 1000002) (ai 1)],
 [eLe (.int (-1)) (di 0), eLt (di 0) (ai 1), eqS (bA 1000002) (usY 94 (ai 0) (ai 1) (di 0)), .f2 45 (di 1) (usI 95 (ai 0) (SX.mk2 41 (SX.mk2 41 (ai 1) (.int 1)) (di 0)) z0)], SX.mk2 40 (di 0) (.int 1)⟩
def ZF5 : Cx := { specs := [], anns := [(44, [(5, .inv ZHz)])] }
def ZBw : Ctr := Zgh
def rfxI1 : Inv := ⟨[.int, .int, .int, .bytes], [(6, .one (.int .i64 (di 0))), (5, .one (slC (di 1) (SX.mk2 41 (SX.mk2 41 (ai 1) (.int 1)) (di 0)) (di 2) 1))], [bAr (di 1) (bA 1000003) (di 2)],
 [eLe (.int (-1)) (di 0), eLt (di 0) (ai 1), eqS (.f2 114 (bA 1000003) (SX.mk2 41 (SX.mk2 41 (ai 1) (.int 1)) (di 0))) (usY 96 (ai 0) (ai 1) (SX.mk2 41 (SX.mk2 41 (ai 1) (.int 1)) (di 0))), eLe (SX.mk2 41 (SX.mk2 41 (ai 1) (.int 1)) (di 0)) (.f1 31 (bA 1000003)), eLe (SX.mk2 41 (SX.mk2 41 (ai 1) (.int 1)) (di 0)) (di 2)], SX.mk2 40 (di 0) (.int 1)⟩
def rfxI2 (k : Nat) : Inv := ⟨[.int, .int], [(8, .one (.int .i64 (di 0))), (7, .one (.int .u64 (di 1)))], [], [eLe (.int 0) (di 0), eLe (di 0) (ai k), .f2 45 (di 1) (usI 95 (ai 0) (di 0) z0)], .f2 41 (ai k) (di 0)⟩
def emB : Ctr := ⟨[], [], [], [], [], .tup [], [bAr (.int (-1)) (.f1 153 (.int 0)) z0], []⟩
def ZHb : Cx := { specs := [], anns := [(49, [(4, .ghost emB []), (5, .inv rfxI1), (9, .inv (rfxI2 2))])] }
def ZHh : VC := i (l z (a 0)) (i (t (a 0) k1) (i (l (k 1) (a 1)) (i (l (a 1) (k 8)) (.and (i (l (k 1) (a 1)) (.and .tt (i (l (a 1) (k 8)) (n (l z (a 1)) (n (l (a 1) (a 1)) (n (l (.f2 42 (a 1) (k 1)) k0) (u 2 .int (i (l z (a 2)) (n (.f1 23 (.f2 40 (a 1) (k (- (0 + 1))))) (n (l (k (- (0 + 1))) (.f2 40 (a 1) (k (- (0 + 1))))) (n (t (.f2 40 (a 1) (k (- (0 + 1)))) (a 1)) (n (.f2 155 (.f2 126 (a 1) z) (hB 94 (a 0) (a 1) (.f2 40 (a 1) (k (- (0 + 1)))))) (n (e (a 0) (d 95 (a 0) (.f2 41 (.f2 40 (a 1) (k (- (0 + 1)))) (.f2 40 (a 1) (k (- (0 + 1))))))) (u 3 .int (u 4 .int (u 5 .bytes (i (l (k (- (0 + 1))) (a 3)) (i (t (a 3) (a 1)) (i (.f2 155 (b 5) (hB 94 (a 0) (a 1) (a 3))) (i (e (a 4) (d 95 (a 0) (.f2 41 (.f2 40 (a 1) (k (- (0 + 1)))) (a 3)))) (.and (i (l z (a 3)) (n (t (a 3) (.f1 31 (b 5))) (n (.f1 23 (.f2 40 (a 3) (k (- (0 + 1))))) (n (t (a 3) (.f2 40 (a 3) (k 1))) (n (l (k (- (0 + 1))) (.f2 40 (a 3) (k (- (0 + 1))))) (n (t (.f2 40 (a 3) (k (- (0 + 1)))) (a 1)) (n (.f2 155 (.f3 131 (b 5) (a 3) (.f1 14 (a 4))) (hB 94 (a 0) (a 1) (.f2 40 (a 3) (k (- (0 + 1)))))) (n (e (.f2 107 (a 4) (k 8)) (d 95 (a 0) (.f2 41 (.f2 40 (a 1) (k (- (0 + 1)))) (.f2 40 (a 3) (k (- (0 + 1))))))) .tt)))))))) (i (t (a 3) z) (n (.f2 155 (.f2 114 (b 5) (a 1)) (wB 93 (a 0) (a 1))) (n (l (a 1) (.f1 31 (b 5))) .tt)))))))))))))))))))))))) .tt))))
theorem ZIQ : ZeK Tryz.prog ZF5 12 44 Zgh = ZHh := by kernel_rfl
def ZI7 : VC := i (l z (a 0)) (i (t (a 0) k1) (i (l (k 1) (a 1)) (i (l (a 1) (k 8)) (.and (i (l (k 1) (a 1)) (.and .tt (i (l (a 1) (k 8)) (n (.f1 23 (.f2 40 (a 1) (k (- (0 + 1))))) (n (l (k (- (0 + 1))) (.f2 40 (a 1) (k (- (0 + 1))))) (n (t (.f2 40 (a 1) (k (- (0 + 1)))) (a 1)) (n (.f2 155 (.f2 114 (.f1 153 z) (.f2 41 (.f2 40 (a 1) (k (- (0 + 1)))) (.f2 40 (a 1) (k (- (0 + 1)))))) (hB 96 (a 0) (a 1) (.f2 41 (.f2 40 (a 1) (k (- (0 + 1)))) (.f2 40 (a 1) (k (- (0 + 1))))))) (n (l (.f2 41 (.f2 40 (a 1) (k (- (0 + 1)))) (.f2 40 (a 1) (k (- (0 + 1))))) z) (n (e (.f2 41 (.f2 40 (a 1) (k (- (0 + 1)))) (.f2 40 (a 1) (k (- (0 + 1))))) z) (u 2 .int (u 3 .int (u 4 .int (u 5 .bytes (i (l (k (- (0 + 1))) (a 2)) (i (t (a 2) (a 1)) (i (.f2 155 (.f2 114 (b 5) (.f2 41 (.f2 40 (a 1) (k (- (0 + 1)))) (a 2))) (hB 96 (a 0) (a 1) (.f2 41 (.f2 40 (a 1) (k (- (0 + 1)))) (a 2)))) (i (l (.f2 41 (.f2 40 (a 1) (k (- (0 + 1)))) (a 2)) (.f1 31 (b 5))) (i (l (.f2 41 (.f2 40 (a 1) (k (- (0 + 1)))) (a 2)) (a 4)) (.and (i (l z (a 2)) (n (e (a 0) (v 95 (a 0))) (u 6 .int (u 7 .int (i (l z (a 6)) (i (l (a 6) (a 2)) (i (e (a 7) (d 95 (a 0) (a 6))) (.and (i (t (a 6) (a 2)) (n (.f1 23 (.f2 40 (a 6) (k 1))) (n (l z (.f2 41 (a 2) (.f2 40 (a 6) (k 1)))) (n (t (.f2 41 (a 2) (.f2 40 (a 6) (k 1))) (.f2 41 (a 2) (a 6))) (n (l z (.f2 40 (a 6) (k 1))) (n (l (.f2 40 (a 6) (k 1)) (a 2)) (n (e (.f1 17 (.f2 43 (a 7) (k 256))) (d 95 (a 0) (.f2 40 (a 6) (k 1)))) .tt))))))) (i (l (a 2) (a 6)) (u 8 .int (i (l z (a 8)) (n (l z (.f2 41 (.f2 40 (a 1) (k (- (0 + 1)))) (a 2))) (n (l (.f2 42 (.f2 40 (.f2 41 (.f2 40 (a 1) (k (- (0 + 1)))) (a 2)) (k 1)) (k 1)) k0) (u 9 .int (u 10 .int (i (l (.f2 40 (.f2 41 (.f2 40 (a 1) (k (- (0 + 1)))) (a 2)) (k 1)) (a 10)) (i (.f2 50 (l z (a 9)) (e (.f2 40 (.f2 41 (.f2 40 (a 1) (k (- (0 + 1)))) (a 2)) (k 1)) z)) (n (.f1 23 (.f2 40 (a 2) (k (- (0 + 1))))) (n (t (a 2) (.f2 40 (a 2) (k 1))) (n (l (k (- (0 + 1))) (.f2 40 (a 2) (k (- (0 + 1))))) (n (t (.f2 40 (a 2) (k (- (0 + 1)))) (a 1)) (n (.f2 155 (.f2 114 (.f2 120 (.f2 114 (b 5) (.f2 41 (.f2 40 (a 1) (k (- (0 + 1)))) (a 2))) (.f2 123 (.f1 14 (.f2 44 (a 7) (k 256))) (.f1 153 z))) (.f2 41 (.f2 40 (a 1) (k (- (0 + 1)))) (.f2 40 (a 2) (k (- (0 + 1)))))) (hB 96 (a 0) (a 1) (.f2 41 (.f2 40 (a 1) (k (- (0 + 1)))) (.f2 40 (a 2) (k (- (0 + 1))))))) (n (l (.f2 41 (.f2 40 (a 1) (k (- (0 + 1)))) (.f2 40 (a 2) (k (- (0 + 1))))) (.f2 40 (.f1 31 (.f2 114 (b 5) (.f2 41 (.f2 40 (a 1) (k (- (0 + 1)))) (a 2)))) (k 1))) (n (l (.f2 41 (.f2 40 (a 1) (k (- (0 + 1)))) (.f2 40 (a 2) (k (- (0 + 1))))) (a 10)) (n (e (.f2 41 (.f2 40 (a 1) (k (- (0 + 1)))) (.f2 40 (a 2) (k (- (0 + 1))))) (.f2 40 (.f2 41 (.f2 40 (a 1) (k (- (0 + 1)))) (a 2)) (k 1))) .tt))))))))))))))))))))))))) (i (t (a 2) z) (n (.f2 155 (.f2 114 (b 5) (a 1)) (wB 93 (a 0) (a 1))) (n (l (a 1) (.f1 31 (b 5))) (n (l (a 1) (a 4)) (n (e (a 1) (.f2 41 (.f2 40 (a 1) (k (- (0 + 1)))) (a 2))) .tt)))))))))))))))))))))))) .tt))))
theorem ZIb : ZeK Tryz.prog ZHb 12 49 ZBw = ZI7 := by kernel_rfl
theorem Zut (n : Int) : shN n 0 = n := by unfold shN; simp
theorem ZuI (n : Int) (j : Nat) : shN n j / 256 = shN n (j + 1) := by
 unfold shN; rw [Int.pow_succ, Int.ediv_ediv_of_nonneg (Int.pow_nonneg (by decide))]
theorem ZFm {n : Int} (h : 0 <= n) (j : Nat) : 0 <= shN n j := Int.ediv_nonneg h (Int.pow_nonneg (by decide))
theorem sh_hi {n : Int} (h : 0 <= n) (j : Nat) : shN n j <= n := Int.ediv_le_self _ h
theorem ZbQ (n : Int) : ∀ w, (Zec n w).length = w
 | 0 => rfl
 | w + 1 => by show (Zec n w).length + 1 = _; rw [ZbQ n w]
theorem ZnW (n : Int) : ∀ {w t : Nat}, t < w -> (Zec n w).take (t + 1) = (Zec n w).take t ++ [byt (shN n (w - 1 - t))]
 | w + 1, 0, _ => rfl
 | w + 1, t + 1, h => by
  show byt _ :: (Zec n w).take (t + 1) = byt _ :: ((Zec n w).take t ++ _)
  rw [ZnW n (by omega), show w + 1 - 1 - (t + 1) = w - 1 - t by omega]
theorem ZEg (n : Int) {w i : Nat} (h : i < w) {x : UInt8} (hx : x = byt (shN n (w - 1 - i))) :
  (List.replicate (i + 1) 0 ++ Zec n (w - 1 - i)).set i x = List.replicate i 0 ++ Zec n (w - i) := by
 rw [List.set_append_left _ _ (by simp), show w - i = w - 1 - i + 1 by omega, hx]
 show _ = List.replicate i 0 ++ (byt _ :: Zec n (w - 1 - i))
 rw [List.replicate_succ', List.set_append_right _ _ (by simp), List.length_replicate, Nat.sub_self, ZJL]; rfl
theorem byt_w (m : Int) : UInt8.ofNat (IntKind.u8.wrap m).toNat = byt m := by rw [ZyY]; rfl
theorem sh_fd {n : Int} (h : 0 <= n) (j : Nat) : (shN n j).fdiv (2 ^ min (Int.toNat 8) IntKind.u64.bits) = shN n (j + 1) := by
 rw [Int.fdiv_eq_ediv_of_nonneg _ (by decide), show (2 : Int) ^ min (Int.toNat 8) IntKind.u64.bits = 256 from by decide, ZuI]
theorem sh_td {n : Int} (h : 0 <= n) (h2 : n < 18446744073709551616) (j : Nat) : IntKind.u64.wrap ((shN n j).tdiv 256) = shN n (j + 1) := by
 have a := ZFm h (j + 1)
 have b := sh_hi h (j + 1)
 rw [Int.tdiv_eq_ediv_of_nonneg (ZFm h j), ZuI, Ziu, Int.emod_eq_of_lt a (by omega)]
theorem ZA4 (S : Sig Nd) (hE : EnSig S) : Zr S Tryz.prog 44 Zgh := by
 refine Zj S (C := ZF5) (fuel := 12) (Zai trivial ⟨⟨trivial, trivial⟩, trivial⟩ trivial) fun ρ => ?_
 rw [ZIQ]
 simp only [ZHh, hE.u93, hE.u94, hE.u95, VC.den, SX.den, ZF, ZnB, ZI, Env.upd, ZAB, p23, p45, p46, p47, p50, b46, b47, ZzO, Zv5, Zv3, Ziq, Zm5, Zo5, Zye, Zwz, Zkm, ZyC, ZfN, Zsg, Zjl, Zmq, Znl, ZnO, Znp, beq_iff_eq, ZJm, beq_eq_false_iff_ne, ne_eq, ZJl, U.tPi, U.tQi, ZBS, ZED, U.tIi, U.tBi, ZJk, Nat.reduceEqDiff, reduceIte, U.int.injEq, U.bool.injEq, U.bytes.injEq]
 generalize (ρ 0).tI = n
 generalize (ρ 1).tI = w
 intro h1 h2 h3 h4
 repeat' (first | exact trivial | apply And.intro | intro _)
 all_goals try omega
 ·rw [show (w + -(0 + 1) + 1).toNat = w.toNat by omega, show (w - 1 - (w + -(0 + 1))).toNat = 0 by omega]
  show _ = _ ++ []
  rw [List.append_nil]; rfl
 ·rw [show (w + -(0 + 1) - (w + -(0 + 1))).toNat = 0 by omega, Zut]
 ·rename_i i m x _ _ hx hm _
  rw [hx, ZJs, List.length_replicate]; omega
 ·rename_i i m x _ _ hx hm _
  rw [hx, hm, byt_w, show (i + 1).toNat = i.toNat + 1 by omega, show (w - 1 - i).toNat = w.toNat - 1 - i.toNat by omega, show (w + -(0 + 1) - i).toNat = w.toNat - 1 - i.toNat by omega, ZEg n (by omega) rfl,
   show (i + -(0 + 1) + 1).toNat = i.toNat by omega, show (w - 1 - (i + -(0 + 1))).toNat = w.toNat - i.toNat by omega]
 ·rename_i i m x _ _ hx hm _
  rw [hm, sh_fd h1, show (w + -(0 + 1) - (i + -(0 + 1))).toNat = (w + -(0 + 1) - i).toNat + 1 by omega]
 ·rename_i i m x _ _ hx hm _
  rw [hx, show (i + 1).toNat = 0 by omega, show (w - 1 - i).toNat = w.toNat by omega]
  show ([] ++ Zec n w.toNat).take _ = _
  rw [List.nil_append]
  exact ZJz (by rw [ZbQ]; omega)
 ·rename_i i m x _ _ hx hm _
  rw [hx, ZJs, ZbQ]; omega
theorem ZBl (S : Sig Nd) (hE : EnSig S) (hB : ZcO S emB) : Zr S Tryz.prog 49 ZBw := by
 refine Zj S (C := ZHb) (fuel := 12) (Zai trivial ⟨⟨⟨by decide, hB⟩, trivial, trivial, trivial⟩, trivial⟩ trivial) fun ρ => ?_
 rw [ZIb]
 simp only [ZI7, hE.u93, hE.u95, hE.u96, VC.den, SX.den, ZF, ZnB, ZI, Env.upd, ZAB, p23, p45, p46, p47, p50, b46, b47, ZzO, Zv5, Zv3, Ziq, Zm5, Zo5, Zye, Zwz, Zkm, ZyC, ZfN, Zsg, Zjl, Zmq, Znl, ZnO, Znp, beq_iff_eq, ZJm, beq_eq_false_iff_ne, ne_eq, ZJl, U.tPi, U.tQi, ZBS, ZED, U.tIi, U.tBi, ZJk, Nat.reduceEqDiff, reduceIte, U.int.injEq, U.bool.injEq, U.bytes.injEq]
 generalize (ρ 0).tI = n
 generalize (ρ 1).tI = w
 intro h1 h2 h3 h4
 repeat' (first | exact trivial | apply And.intro | intro _)
 all_goals try omega
 ·rw [show (w + -(0 + 1) - (w + -(0 + 1))).toNat = 0 by omega]; rfl
 ·rw [Zut]
 ·rename_i j m _ _ hm _
  rw [hm, sh_td h1 h2, show (j + 1).toNat = j.toNat + 1 by omega]
 ·rename_i i _ _ x _ _ hx hl _ _ j m _ _ hm _ _ _ _ _ _ _
  have hb : UInt8.ofNat (IntKind.u8.wrap (m.tmod 256)).toNat = byt m := by
   rw [ZyY, Int.tmod_eq_emod_of_nonneg (by rw [hm]; exact ZFm h1 _), Int.emod_emod_of_dvd _ (Int.dvd_refl 256)]; rfl
  rw [hb, hx, hm, show j = i by omega]
  have hL : (w + -(0 + 1) - (i + -(0 + 1))).toNat = (w + -(0 + 1) - i).toNat + 1 := by omega
  have e := ZnW n (w := w.toNat) (t := (w + -(0 + 1) - i).toNat) (by omega)
  rw [show w.toNat - 1 - (w + -(0 + 1) - i).toNat = i.toNat by omega] at e
  rw [hL, <- e, List.take_take, Nat.min_self]
 ·rw [ZJp]; omega
 ·rename_i i _ _ x _ _ hx _ _ _
  rw [show (w + -(0 + 1) - i).toNat = w.toNat by omega] at hx
  rw [hx]
  exact ZJz (by rw [ZbQ]; omega)
def wdN (n : Int) : Int := if n < 1 then 0 else if n < 256 then 1 else if n < 65536 then 2 else if n < 16777216 then 3 else if n < 4294967296 then 4 else if n < 1099511627776 then 5 else if n < 281474976710656 then 6 else if n < 72057594037927936 then 7 else 8
def mgN (n : Int) : Int := if n < 0 then -1 - n else n
def ZlZ (n : Int) : List UInt8 := if n < 0 then byt (127 - wdN (mgN n)) :: (Zec (mgN n) (wdN (mgN n)).toNat).map (fun c => byt (255 - (c.toNat : Int))) else byt (128 + wdN n) :: Zec n (wdN n).toNat
structure TeSig (S : Sig Nd) : Prop where
 tos : ToSig S
 en : EnSig S
 u640 : ∀ a b c d, S.usr 640 a b c d = .int (wdN a.tI)
 u641 : ∀ a b c d, S.usr 641 a b c d = .bytes (ZlZ a.tI)
 u642 : ∀ a b c d, S.usr 642 a b c d = .bytes ((ZlZ a.tI).take b.tI.toNat)
theorem te_bd {S : Sig Nd} (h : TeSig S) (n : Int) : TeSig (S.bd n) := ⟨ZCH h.tos n, ⟨h.en.1, h.en.2, h.en.3, h.en.4⟩, h.3, h.4, h.5⟩
def wdX (n : SX) : SX := usI 640 n z0 z0
def inX (n : SX) : SX := usY 641 n z0 z0
def u64t : SX := .int 18446744073709551616
def Zl6 : Ctr := ⟨[.int], [.one (.int .u64 (ai 0))], [], [eLe z0 (ai 0), eLt (ai 0) u64t], [], .one (.int .i64 (wdX (ai 0))), [], []⟩
def ZBp : Ctr := Zl6
def ZIC : Cx := { specs := [], anns := [] }
def wdrI : Inv := ⟨[.int, .int], [(0, .one (.int .u64 (di 0))), (3, .one (.int .i64 (di 1)))], [], [eLe z0 (di 0), eLt (di 0) u64t, eLe z0 (di 1), .f2 45 (.f2 40 (di 1) (wdX (di 0))) (wdX (ai 0))], di 0⟩
def ZF2 : Cx := { specs := [], anns := [(68, [(2, .inv wdrI)])] }
def ZgH : List UInt8 := [0, 1] ++ (List.replicate 2 2 ++ (List.replicate 4 3 ++ (List.replicate 8 4 ++ (List.replicate 16 5 ++ (List.replicate 32 6 ++ (List.replicate 64 7 ++ List.replicate 128 8))))))
theorem Zy3 : ∀ x : Fin 256, (x.val = 0 -> (ZgH.getD x.val 0).toNat = 0) /\ (1 <= x.val -> 1 <= (ZgH.getD x.val 0).toNat /\ (ZgH.getD x.val 0).toNat <= 8) := by decide +kernel
theorem ZFj {x : Int} (h0 : 0 <= x) (h1 : x < 256) : (x = 0 -> ((ZgH.getD x.toNat 0).toNat : Int) = 0) /\ (1 <= x -> 1 <= ((ZgH.getD x.toNat 0).toNat : Int) /\ ((ZgH.getD x.toNat 0).toNat : Int) <= 8) := by
 have h := Zy3 ⟨x.toNat, by omega⟩
 simp only at h
 refine ⟨fun e => ?_, fun e => ?_⟩
 ·have := h.1 (by omega); omega
 ·have := h.2 (by omega); omega
theorem ZHJ {G : Type} (a : U G) : ap2 107 a (.int 32) = .int (a.tI.fdiv 4294967296) := rfl
theorem ZIL {G : Type} (a : U G) : ap2 107 a (.int 16) = .int (a.tI.fdiv 65536) := rfl
theorem ZGS {G : Type} (a : U G) : ap2 107 a (.int 8) = .int (a.tI.fdiv 256) := rfl
theorem ZvH {a b : Int} (h : 0 < b) : a.fdiv b = a / b := Int.fdiv_eq_ediv_of_nonneg _ (by omega)
theorem ZDk {n : Int} (h0 : 0 < n) (h1 : n < 18446744073709551616) : wdN (n / 256) + 1 = wdN n := by
 unfold wdN
 have e : ∀ c : Int, (n / 256 < c) = (n < c * 256) := fun c => propext (Int.ediv_lt_iff_lt_mul (by omega))
 simp only [e, Int.reduceMul]
 rw [if_neg (show ¬ n < 1 by omega)]
 repeat' split
 all_goals omega
theorem Zcn {n X k r s : Int} (h0 : 0 <= X) (h1 : X < 256) (hr : r = 8 * k) (hs : s = 8 * k + 7) (k0 : 0 <= k) (k7 : k <= 7) (hw : (X = 0 -> wdN n = k) /\ (1 <= X -> wdN n = k + 1)) :
  0 <= IntKind.u8.wrap X /\ IntKind.u8.wrap X < 256 /\ (-9223372036854775808 <= ((ZgH.getD (IntKind.u8.wrap X).toNat 0).toNat : Int) + r /\ ((ZgH.getD (IntKind.u8.wrap X).toNat 0).toNat : Int) + r <= 9223372036854775807) ∧
   (-9223372036854775808 <= ((ZgH.getD (IntKind.u8.wrap X).toNat 0).toNat : Int) + s /\ ((ZgH.getD (IntKind.u8.wrap X).toNat 0).toNat : Int) + s <= 9223372036854775807) ∧
   (-9223372036854775808 <= (((ZgH.getD (IntKind.u8.wrap X).toNat 0).toNat : Int) + s).tdiv 8 /\ (((ZgH.getD (IntKind.u8.wrap X).toNat 0).toNat : Int) + s).tdiv 8 <= 9223372036854775807) /\ wdN n = (((ZgH.getD (IntKind.u8.wrap X).toNat 0).toNat : Int) + s).tdiv 8 /\ True := by
 have e : IntKind.u8.wrap X = X := by rw [ZyY]; omega
 rw [e]
 obtain ⟨q1, q2⟩ := ZFj h0 h1
 have q0 : 0 <= ((ZgH.getD X.toNat 0).toNat : Int) := Int.natCast_nonneg _
 have q8 : ((ZgH.getD X.toNat 0).toNat : Int) <= 8 := by
  by_cases hx : X = 0
  ·have := q1 hx; omega
  ·exact (q2 (by omega)).2
 rw [Int.tdiv_eq_ediv_of_nonneg (by omega)]
 refine ⟨h0, h1, ⟨by omega, by omega⟩, ⟨by omega, by omega⟩, ⟨by omega, by omega⟩, ?_, trivial⟩
 by_cases hx : X = 0
 ·have := q1 hx; rw [hw.1 hx]; omega
 ·have := q2 (by omega); rw [hw.2 (by omega)]; omega
theorem Zfc (n : Int) : 0 <= wdN n /\ wdN n <= 8 := by
 unfold wdN
 repeat' split
 all_goals omega
def Zlw : SX := .f2 107 (a 0) (k 32)
def Zvv : SX := .f2 107 Zlw (k 16)
def ZAF : SX := .f1 14 (.f2 107 Zvv (k 8))
def ZCS : SX := .f2 111 (.byt ZgH) ZAF
def ZCP : SX := .f2 40 ZCS (k 63)
def ZEG : SX := .f2 43 ZCP (k 8)
def ZiQ : SX := v 640 (a 0)
def ZzS : SX := .f1 14 Zvv
def ZEh : SX := .f2 111 (.byt ZgH) ZzS
def ZEB : SX := .f2 40 ZEh (k 55)
def ZvF : SX := .f2 43 ZEB (k 8)
def Zqq : SX := .f1 14 (.f2 107 Zlw (k 8))
def ZvJ : SX := .f2 111 (.byt ZgH) Zqq
def ZrV : SX := .f2 40 ZvJ (k 47)
def ZxD : SX := .f2 43 ZrV (k 8)
def ZoI : SX := .f1 14 Zlw
def Zxs : SX := .f2 111 (.byt ZgH) ZoI
def Zym : SX := .f2 40 Zxs (k 39)
def Zyt : SX := .f2 43 Zym (k 8)
def ZkS : SX := .f2 107 (a 0) (k 16)
def Zpl : SX := .f1 14 (.f2 107 ZkS (k 8))
def ZxZ : SX := .f2 111 (.byt ZgH) Zpl
def Zyn : SX := .f2 40 ZxZ (k 31)
def Zws : SX := .f2 43 Zyn (k 8)
def Zqw : SX := .f1 14 ZkS
def ZxG : SX := .f2 111 (.byt ZgH) Zqw
def ZuY : SX := .f2 40 ZxG (k 23)
def Zwx : SX := .f2 43 ZuY (k 8)
def Zos : SX := .f1 14 (.f2 107 (a 0) (k 8))
def Ztg : SX := .f2 111 (.byt ZgH) Zos
def ZxL : SX := .f2 40 Ztg (k 15)
def Ztz : SX := .f2 43 ZxL (k 8)
def ZrZ : SX := .f2 111 (.byt ZgH) (.f1 14 (a 0))
def Zsu : SX := .f2 40 ZrZ (k 7)
def Zug : SX := .f2 43 Zsu (k 8)
def ZFT : VC := i (l z (a 0)) (i (t (a 0) k1) (.and (i (l k2 (a 0)) (.and (i (l (k 65536) Zlw) (.and (i (l (k 256) Zvv) (n (l z ZAF) (n (t ZAF (k 256)) (n (.f1 23 (.f2 40 ZCS (k 56))) (n (.f1 23 ZCP) (n (.f1 23 ZEG) (n (e ZiQ ZEG) .tt))))))) (i (t Zvv (k 256)) (n (l z ZzS) (n (t ZzS (k 256)) (n (.f1 23 (.f2 40 ZEh (k 48))) (n (.f1 23 ZEB) (n (.f1 23 ZvF) (n (e ZiQ ZvF) .tt))))))))) (i (t Zlw (k 65536)) (.and (i (l (k 256) Zlw) (n (l z Zqq) (n (t Zqq (k 256)) (n (.f1 23 (.f2 40 ZvJ (k 40))) (n (.f1 23 ZrV) (n (.f1 23 ZxD) (n (e ZiQ ZxD) .tt))))))) (i (t Zlw (k 256)) (n (l z ZoI) (n (t ZoI (k 256)) (n (.f1 23 (.f2 40 Zxs (k 32))) (n (.f1 23 Zym) (n (.f1 23 Zyt) (n (e ZiQ Zyt) .tt))))))))))) (i (t (a 0) k2) (.and (i (l (k 65536) (a 0)) (.and (i (l (k 256) ZkS) (n (l z Zpl) (n (t Zpl (k 256)) (n (.f1 23 (.f2 40 ZxZ (k 24))) (n (.f1 23 Zyn) (n (.f1 23 Zws) (n (e ZiQ Zws) .tt))))))) (i (t ZkS (k 256)) (n (l z Zqw) (n (t Zqw (k 256)) (n (.f1 23 (.f2 40 ZxG (k 16))) (n (.f1 23 ZuY) (n (.f1 23 Zwx) (n (e ZiQ Zwx) .tt))))))))) (i (t (a 0) (k 65536)) (.and (i (l (k 256) (a 0)) (n (l z Zos) (n (t Zos (k 256)) (n (.f1 23 (.f2 40 Ztg (k 8))) (n (.f1 23 ZxL) (n (.f1 23 Ztz) (n (e ZiQ Ztz) .tt))))))) (i (t (a 0) (k 256)) (n (l z (.f1 14 (a 0))) (n (t (.f1 14 (a 0)) (k 256)) (n (.f1 23 ZrZ) (n (.f1 23 Zsu) (n (.f1 23 Zug) (n (e ZiQ Zug) .tt)))))))))))))
theorem ZIO : ZeK Tryz.prog ZIC 12 65 Zl6 = ZFT := by kernel_rfl
def ZrD : SX := v 640 (a 0)
def ZCk : SX := .f2 40 (a 2) (k 1)
def Zwf : SX := .f1 17 (.f2 43 (a 1) (k 256))
def ZGQ : VC := i (l z (a 0)) (i (t (a 0) k1) (n (e ZrD ZrD) (u 1 .int (u 2 .int (i (l z (a 1)) (i (t (a 1) k1) (i (l z (a 2)) (i (e (.f2 40 (a 2) (v 640 (a 1))) ZrD) (.and (i (t z (a 1)) (n (.f1 23 ZCk) (n (t Zwf (a 1)) (n (l z Zwf) (n (t Zwf k1) (n (l z ZCk) (n (e (.f2 40 (.f2 40 (a 2) (v 640 Zwf)) (k 1)) ZrD) .tt))))))) (i (l (a 1) z) (n (e ZrD (a 2)) .tt)))))))))))
theorem ZFY : ZeK Tryz.prog ZF2 12 68 ZBp = ZGQ := by kernel_rfl
theorem ZIK (S : Sig Nd) (hS : TeSig S) : Zr S Tryz.prog 65 Zl6 := by
 refine Zj S (C := ZIC) (fuel := 12) (Zai trivial trivial trivial) fun ρ => ?_
 rw [ZIO]
 simp only [ZFT, Zlw, Zvv, ZAF, ZCS, ZCP, ZEG, ZiQ, ZzS, ZEh, ZEB, ZvF, Zqq, ZvJ, ZrV, ZxD, ZoI, Zxs, Zym, Zyt, ZkS, Zpl, ZxZ, Zyn, Zws, Zqw, ZxG, ZuY, Zwx, Zos, Ztg, ZxL, Ztz, ZrZ, Zsu, Zug, hS.u640, ZaA, ZJu, VC.den, SX.den, Env.upd, ZHJ, ZIL, ZGS, beq_iff_eq, ZJm, beq_eq_false_iff_ne, ne_eq, ZJl, ZJk, Int.reduceToNat, Nat.reduceEqDiff, reduceIte, sB, sC]
 generalize (ρ 0).tI = n
 intro h0 h1
 simp only [ZvH (show (0 : Int) < 4294967296 by omega), ZvH (show (0 : Int) < 65536 by omega), ZvH (show (0 : Int) < 256 by omega)]
 have W : wdN n = if n < 1 then 0 else if n < 256 then 1 else if n < 65536 then 2 else if n < 16777216 then 3 else if n < 4294967296 then 4 else if n < 1099511627776 then 5 else if n < 281474976710656 then 6 else if n < 72057594037927936 then 7 else 8 := rfl
 refine ⟨fun a => ⟨fun b => ⟨fun c => Zcn (k := 7) ?_ ?_ rfl rfl (by omega) (by omega) ?_, fun c => Zcn (k := 6) ?_ ?_ rfl rfl (by omega) (by omega) ?_⟩, fun b => ⟨fun c => Zcn (k := 5) ?_ ?_ rfl rfl (by omega) (by omega) ?_, fun c => Zcn (k := 4) ?_ ?_ rfl rfl (by omega) (by omega) ?_⟩⟩,
  fun a => ⟨fun b => ⟨fun c => Zcn (k := 3) ?_ ?_ rfl rfl (by omega) (by omega) ?_, fun c => Zcn (k := 2) ?_ ?_ rfl rfl (by omega) (by omega) ?_⟩, fun b => ⟨fun c => Zcn (k := 1) ?_ ?_ rfl rfl (by omega) (by omega) ?_, fun c => ?_⟩⟩⟩
 all_goals first | omega | (rw [W]; (repeat' split) <;> omega) | skip
 have L := Zcn (n := n) (X := n) (k := 0) (r := 0) (s := 7) h0 c rfl rfl (by omega) (by omega) (by rw [W]; (repeat' split) <;> omega)
 refine ⟨L.1, L.2.1, ?_, L.2.2.2⟩
 have q := L.2.2.1
 rwa [Int.add_zero] at q
theorem ZH9 (S : Sig Nd) (hS : TeSig S) : Zr S Tryz.prog 68 ZBp := by
 refine Zj S (C := ZF2) (fuel := 12) (Zai trivial ⟨⟨trivial, trivial⟩, trivial⟩ trivial) fun ρ => ?_
 rw [ZFY]
 simp only [ZGQ, ZrD, ZCk, Zwf, hS.u640, ZaA, ZJu, VC.den, SX.den, Env.upd, ZHJ, ZIL, ZGS, beq_iff_eq, ZJm, beq_eq_false_iff_ne, ne_eq, ZJl, ZJk, Int.reduceToNat, Nat.reduceEqDiff, reduceIte, sB, sC]
 generalize (ρ 0).tI = n
 intro h0 h1
 refine ⟨trivial, fun x k x0 x1 k0 hw => ⟨fun hx => ?_, fun hx => ?_⟩⟩
 ·have e : x.tdiv 256 = x / 256 := Int.tdiv_eq_ediv_of_nonneg x0
  have e2 : IntKind.u64.wrap (x / 256) = x / 256 := by rw [Ziu]; omega
  have b1 := Zfc x
  have b2 := Zfc n
  have nx := ZDk hx x1
  rw [e, e2]
  exact ⟨⟨by omega, by omega⟩, by omega, by omega, by omega, by omega, by omega, trivial⟩
 ·have hx0 : x = 0 := by omega
  subst hx0
  have z : wdN 0 = 0 := by unfold wdN; rw [if_pos (by omega)]
  exact ⟨by omega, trivial⟩
def cat (a b : SX) : SX := .f2 120 a b
def big : SX := .int 100000000000
def i64R (n : SX) : List SX := [eLe (.int (-9223372036854775808)) n, eLe n (.int 9223372036854775807)]
def tkN (n k : SX) : SX := usY 642 n k z0
def ZvQ : Ctr := ⟨[.int, .int, .int, .bytes, .int], [.one (sl1 (ai 0) (ai 1) (ai 2)), .one (.int .i64 (ai 4))], [bAr (ai 0) (bA 3) (ai 2)], [.f2 45 (ai 1) (Zag (bA 3)), eLe (ai 1) big] ++ i64R (ai 4), [.int, .int], .one (sl1 (ai 5) (Zag (cat (bA 3) (inX (ai 4)))) (ai 6)), [bAr (ai 5) (cat (bA 3) (inX (ai 4))) (ai 6)], []⟩
def mgX : SX := .f1 17 (.f2 79 (ai 4) (.f2 103 (ai 4) (.int 63)))
def inpI : Inv := ⟨[.int, .int, .int, .bytes], [(34, .one (.int .i64 (di 0))), (0, .one (sl1 (di 1) (Zag (bA 1000003)) (di 2)))], [bAr (di 1) (bA 1000003) (di 2)], [eLe z0 (di 0), eLe (di 0) (wdX mgX), eqS (bA 1000003) (cat (bA 3) (tkN (ai 4) (add1 (di 0))))], .f2 41 (wdX mgX) (di 0)⟩
def ZHt : Cx := { specs := [(65, [Zl6]), (44, [Zgh])], anns := [(43, [(7, .inv inpI)])] }
def ZvB : Ctr := ⟨[.int], [.one (.int .i64 (ai 0))], [], i64R (ai 0), [.int, .int], .one (sl1 (ai 1) (Zag (inX (ai 0))) (ai 2)), [bAr (ai 1) (inX (ai 0)) (ai 2)], [eLe (Zag (inX (ai 0))) (ai 2)]⟩
def mhX : SX := .f1 17 (.f2 41 z0 (.f2 40 (ai 0) (.int 1)))
def inrI : Inv := ⟨[.int, .int, .int, .bytes], [(9, .one (.int .i64 (di 0))), (7, .one (sl1 (di 1) (Zag (bA 1000003)) (di 2)))], [bAr (di 1) (bA 1000003) (di 2)], [eLe z0 (di 0), eLe (di 0) (wdX mhX), eqS (bA 1000003) (tkN (ai 0) (add1 (di 0))), eLe (Zag (bA 1000003)) (di 2)], .f2 41 (wdX mhX) (di 0)⟩
def ZHV : Cx := { specs := [(68, [Zl6]), (49, [Zgh])], anns := [(48, [(14, .inv inrI)])] }
theorem ZHN {v : Int} : IntKind.i64.wrap v = if v % 18446744073709551616 < 9223372036854775808 then v % 18446744073709551616 else v % 18446744073709551616 - 18446744073709551616 := by
 unfold IntKind.wrap
 show (if (true && decide (v % 18446744073709551616 ≥ 9223372036854775808)) = true then v % 18446744073709551616 - 18446744073709551616 else v % 18446744073709551616) = _
 by_cases h : v % 18446744073709551616 < 9223372036854775808
 ·rw [if_pos h, if_neg (by simp; omega)]
 ·rw [if_neg h, if_pos (by simp; omega)]
theorem ZHd {x : Int} : Yb .xor .i64 x (-1) = IntKind.i64.wrap (18446744073709551615 - x % 18446744073709551616) := by
 unfold Yb
 have e2 : BitVec.ofInt IntKind.i64.bits (-1 : Int) = BitVec.allOnes 64 := rfl
 simp only [e2]
 have e3 : ((BitVec.ofInt 64 x ^^^ BitVec.allOnes 64).toNat : Int) = 18446744073709551615 - x % 18446744073709551616 := by
  rw [BitVec.xor_allOnes, BitVec.toNat_not, BitVec.toNat_ofInt]; omega
 exact congrArg _ e3
theorem ZDO {x : Int} : Yb .xor .i64 x 0 = IntKind.i64.wrap (x % 18446744073709551616) := by
 unfold Yb
 have e2 : BitVec.ofInt IntKind.i64.bits (0 : Int) = 0#64 := rfl
 simp only [e2]
 have e3 : ((BitVec.ofInt 64 x ^^^ 0#64).toNat : Int) = x % 18446744073709551616 := by
  rw [BitVec.xor_zero, BitVec.toNat_ofInt]; omega
 exact congrArg _ e3
theorem ZIu : ∀ x : Fin 256, Yb .xor .u8 (x.val : Nat) 255 = 255 - (x.val : Nat) /\ Yb .xor .u8 (x.val : Nat) 0 = (x.val : Nat) := by decide +kernel
theorem ZFW {x : Int} (h0 : 0 <= x) (h1 : x < 256) : Yb .xor .u8 x 255 = 255 - x /\ Yb .xor .u8 x 0 = x := by
 have h := ZIu ⟨x.toNat, by omega⟩
 have e : ((x.toNat : Nat) : Int) = x := by omega
 simp only [e] at h
 exact h
theorem n79 {G : Type} (a b : U G) : ap2 79 a b = .int (Yb .xor .i64 a.tI b.tI) := rfl
theorem n80 {G : Type} (a b : U G) : ap2 80 a b = .int (Yb .xor .u8 a.tI b.tI) := rfl
theorem fd63 {n : Int} (h0 : -9223372036854775808 <= n) (h1 : n <= 9223372036854775807) : n.fdiv 9223372036854775808 = if n < 0 then -1 else 0 := by
 rw [Int.fdiv_eq_ediv_of_nonneg _ (by omega)]
 split <;> omega
theorem ZCZ {n : Int} (h0 : -9223372036854775808 <= n) (h1 : n <= 9223372036854775807) : IntKind.u64.wrap (Yb .xor .i64 n (n.fdiv 9223372036854775808)) = mgN n := by
 rw [fd63 h0 h1]
 unfold mgN
 by_cases h : n < 0
 ·rw [if_pos h, if_pos h, ZHd, ZHN, Ziu]
  split <;> omega
 ·rw [if_neg h, if_neg h, ZDO, ZHN, Ziu]
  split <;> omega
theorem ZDH {n : Int} (h0 : -9223372036854775808 <= n) (h1 : n <= 9223372036854775807) : IntKind.u8.wrap (n.fdiv 9223372036854775808) = if n < 0 then 255 else 0 := by
 rw [fd63 h0 h1, ZyY]
 split <;> rfl
theorem ZGc {n : Int} (h0 : -9223372036854775808 <= n) (h1 : n <= 9223372036854775807) : 0 <= mgN n /\ mgN n < 9223372036854775808 := by
 unfold mgN; split <;> omega
def ZrN (n : Int) : List UInt8 := if n < 0 then (Zec (mgN n) (wdN (mgN n)).toNat).map (fun c => byt (255 - (c.toNat : Int))) else Zec (mgN n) (wdN (mgN n)).toNat
def ZvG (n : Int) : UInt8 := if n < 0 then byt (127 - wdN (mgN n)) else byt (128 + wdN (mgN n))
theorem ZfI (n : Int) : ZlZ n = ZvG n :: ZrN n := by
 unfold ZlZ ZvG ZrN
 by_cases h : n < 0
 ·rw [if_pos h, if_pos h, if_pos h]
 ·have e : mgN n = n := by unfold mgN; rw [if_neg h]
  rw [if_neg h, if_neg h, if_neg h, e]
theorem Zfr (n : Int) : (ZrN n).length = (wdN (mgN n)).toNat := by
 unfold ZrN; split
 ·rw [ZJx, ZbQ]
 ·rw [ZbQ]
theorem Zhy {x : Int} (h0 : 0 <= x) (h1 : x < 256) : UInt8.ofNat x.toNat = byt x := by unfold byt; rw [Int.emod_eq_of_lt h0 h1]
theorem Zz0 {n t : Int} (ht : t = if n < 0 then 255 else 0) : UInt8.ofNat (Yb .xor .u8 (IntKind.u8.wrap (wdN (mgN n) + 128)) t).toNat = ZvG n /\ 0 <= Yb .xor .u8 (IntKind.u8.wrap (wdN (mgN n) + 128)) t /\ Yb .xor .u8 (IntKind.u8.wrap (wdN (mgN n) + 128)) t <= 255 := by
 obtain ⟨w0, w8⟩ := Zfc (mgN n)
 have e : IntKind.u8.wrap (wdN (mgN n) + 128) = 128 + wdN (mgN n) := by rw [ZyY]; omega
 rw [e]
 obtain ⟨q1, q2⟩ := ZFW (x := 128 + wdN (mgN n)) (by omega) (by omega)
 unfold ZvG
 by_cases h : n < 0
 ·rw [if_pos h] at ht ⊢
  subst ht
  rw [q1]
  exact ⟨by rw [Zhy (by omega) (by omega), show 255 - (128 + wdN (mgN n)) = 127 - wdN (mgN n) by omega], by omega, by omega⟩
 ·rw [if_neg h] at ht ⊢
  subst ht
  rw [q2]
  exact ⟨Zhy (by omega) (by omega), by omega, by omega⟩
theorem ZqD {n t : Int} {i : Nat} {B : List UInt8} (ht : t = if n < 0 then 255 else 0) (hB : B.take (wdN (mgN n)).toNat = Zec (mgN n) (wdN (mgN n)).toNat) (hw : (wdN (mgN n)).toNat <= B.length) (hi : i < (wdN (mgN n)).toNat) :
  (ZlZ n).take (i + 2) = (ZlZ n).take (i + 1) ++ [UInt8.ofNat (Yb .xor .u8 ((B.getD i 0).toNat : Int) t).toNat] /\ 0 <= Yb .xor .u8 ((B.getD i 0).toNat : Int) t /\ Yb .xor .u8 ((B.getD i 0).toNat : Int) t <= 255 := by
 have hb : (B.getD i 0).toNat < 256 := (B.getD i 0).toNat_lt
 obtain ⟨q1, q2⟩ := ZFW (x := ((B.getD i 0).toNat : Int)) (by omega) (by omega)
 have hf : (Zec (mgN n) (wdN (mgN n)).toNat)[i]? = some (B.getD i 0) := by
  rw [<- hB, List.getElem?_take_of_lt hi, ZJn, ZJq (by omega)]; rfl
 have hr : (ZrN n)[i]? = some (UInt8.ofNat (Yb .xor .u8 ((B.getD i 0).toNat : Int) t).toNat) := by
  unfold ZrN
  by_cases h : n < 0
  ·rw [if_pos h] at ht ⊢
   subst ht
   rw [ZJj, hf, q1]
   show some (byt _) = _
   rw [Zhy (by omega) (by omega)]
  ·rw [if_neg h] at ht ⊢
   subst ht
   rw [hf, q2, ZJu, UInt8.ofNat_toNat]
 refine ⟨?_, ?_, ?_⟩
 ·rw [ZfI]
  show ZvG n :: (ZrN n).take (i + 1) = (ZvG n :: (ZrN n).take i) ++ _
  rw [List.take_add_one, hr]; rfl
 ·by_cases h : n < 0
  ·rw [if_pos h] at ht; subst ht; omega
  ·rw [if_neg h] at ht; subst ht; omega
 ·by_cases h : n < 0
  ·rw [if_pos h] at ht; subst ht; omega
  ·rw [if_neg h] at ht; subst ht; omega
theorem Zev (n : Int) : (ZlZ n).length = (wdN (mgN n)).toNat + 1 := by rw [ZfI, ZJH, Zfr]
theorem Zr6 (n : Int) : (ZlZ n).take 1 = [ZvG n] := by rw [ZfI]; rfl
theorem Zzf {l : Int} {L : List UInt8} (h : l = L.length) : L.take l.toNat = L := ZJz (by omega)
theorem ZpF {n i : Int} (hi : i = wdN (mgN n)) (i0 : 0 <= i) : (ZlZ n).take (i + 1).toNat = ZlZ n := ZJz (by rw [Zev]; omega)
def ZCt : SX := .f2 103 (a 4) (k 63)
def ZyI : SX := .f1 17 (.f2 79 (a 4) ZCt)
def Zcw : SX := v 640 ZyI
def ZDP : SX := .f2 40 Zcw (k 128)
def ZC7 : SX := .f1 14 ZCt
def ZzR : SX := .f2 80 (.f1 14 ZDP) ZC7
def Zrr : SX := .f2 40 (a 1) (k 1)
def ZD7 : SX := .f2 114 (b 3) (a 1)
def ZFy : SX := .f2 120 ZD7 (.f2 123 ZzR (.f1 153 z))
def Zrk : SX := .f2 40 (a 11) (k 1)
def Zqi : SX := .f2 80 (.f2 111 (b 10) (a 11)) ZC7
def Zpu : SX := .f2 40 (.f1 31 (b 14)) (k 1)
def Zv2 : SX := .f2 41 Zcw Zrk
def Zx1 : SX := j 641 (a 4)
def Zxk : SX := .f2 120 (b 3) Zx1
def ZxP : SX := .f2 40 (.f1 31 (b 3)) (.f1 31 Zx1)
def ZGv : VC := i (e (a 1) (.f1 31 (b 3))) (i (l (a 1) k3) (i (l k4 (a 4)) (i (l (a 4) (k 9223372036854775807)) (n (l z ZyI) (n (t ZyI k1) (n (.f1 23 ZDP) (n (l z ZzR) (n (l ZzR (k 255)) (u 5 .int (i (l z (a 5)) (n (l z (a 1)) (n (l (a 1) (.f1 31 (b 3))) (n (l (.f2 42 Zrr (k 1)) k0) (u 6 .int (u 7 .int (i (l Zrr (a 7)) (i (.f2 50 (l z (a 6)) (e Zrr z)) (.and (i (t z Zcw) (n (l (k 1) Zcw) (n (l Zcw (k 8)) (u 8 .int (u 9 .int (u 10 .bytes (i (.f2 155 (.f2 114 (b 10) Zcw) (wB 93 ZyI Zcw)) (i (l Zcw (.f1 31 (b 10))) (i (l Zcw (a 9)) (n (l z Zcw) (n (.f2 155 ZFy (.f2 120 (b 3) (wB 642 (a 4) (k 1)))) (n (e (.f2 40 (.f1 31 ZD7) (k 1)) Zrr) (u 11 .int (u 12 .int (u 13 .int (u 14 .bytes (i (l z (a 11)) (i (l (a 11) Zcw) (i (.f2 155 (b 14) (.f2 120 (b 3) (wB 642 (a 4) Zrk))) (.and (i (t (a 11) Zcw) (n (t (a 11) (.f1 31 (b 10))) (n (l z Zqi) (n (l Zqi (k 255)) (u 15 .int (i (l z (a 15)) (n (l (.f1 31 (b 14)) (.f1 31 (b 14))) (n (l (.f2 42 Zpu (k 1)) k0) (u 16 .int (u 17 .int (i (l Zpu (a 17)) (i (.f2 50 (l z (a 16)) (e Zpu z)) (n (.f1 23 Zrk) (n (l z Zv2) (n (t Zv2 (.f2 41 Zcw (a 11))) (n (l z Zrk) (n (l Zrk Zcw) (n (.f2 155 (.f2 120 (b 14) (.f2 123 Zqi (.f1 153 z))) (.f2 120 (b 3) (wB 642 (a 4) (.f2 40 (a 11) (k 2))))) .tt)))))))))))))))))) (i (l Zcw (a 11)) (n (.f2 155 Zxk (b 14)) (n (e ZxP (.f1 31 (b 14))) .tt))))))))))))))))))))))) (i (l Zcw z) (n (.f2 155 Zxk ZFy) (n (e ZxP Zrr) .tt)))))))))))))))))))))
theorem ZGN : ZeK Tryz.prog ZHt 12 43 ZvQ = ZGv := by kernel_rfl
def Zg3 : SX := v 640 (.f1 17 (a 0))
def ZEK : SX := .f2 40 Zg3 (k 128)
def ZDR : SX := l z (a 1)
def ZFe : SX := e Zg3 z
def Zri : SX := j 641 (a 0)
def Znx : SX := .f1 31 Zri
def ZCB : SX := l Znx (k 1)
def ZDr : SX := .f1 14 ZEK
def ZEj : SX := e Znx (k 1)
def ZE8 : SX := .f2 114 (b 4) Zg3
def ZlD : SX := .f2 40 Zg3 (k 1)
def Zwt : SX := l z (a 5)
def Zxu : SX := .f2 40 (a 0) (k 1)
def ZyM : SX := .f2 41 z Zxu
def ZkZ : SX := .f1 17 ZyM
def Zam : SX := v 640 ZkZ
def Zyy : SX := .f2 41 (k 127) Zam
def Zwr : SX := e Zam z
def Zt7 : SX := .f2 123 (.f1 14 Zyy) (.f1 153 z)
def Zil : SX := .f2 40 (a 5) (k 1)
def ZoA : SX := .f2 80 (.f2 111 (b 4) (a 5)) (k 255)
def Zpd : SX := .f2 40 (.f1 31 (b 8)) (k 1)
def ZxT : SX := .f2 41 Zam Zil
def ZIW : VC := i (l k4 (a 0)) (i (l (a 0) (k 9223372036854775807)) (.and (i (l z (a 0)) (n (l z (.f1 17 (a 0))) (n (t (.f1 17 (a 0)) k1) (n (.f1 23 ZEK) (u 1 .int (i ZDR (.and (i ZFe (n ZCB (n (.f2 155 Zri (.f2 123 ZDr (.f1 153 z))) (n ZEj .tt)))) (i (.f1 2 ZFe) (n (l (k 1) Zg3) (n (l Zg3 (k 8)) (u 2 .int (u 3 .int (u 4 .bytes (i (.f2 155 ZE8 (wB 93 (.f1 17 (a 0)) Zg3)) (i (l Zg3 (.f1 31 (b 4))) (i (l Zg3 (a 3)) (n (l (.f2 42 ZlD (k 1)) k0) (n (l z Zg3) (u 5 .int (u 6 .int (i (l ZlD (a 6)) (i (.f2 50 Zwt (e ZlD z)) (n (l Znx (a 6)) (n (.f2 155 Zri (.f2 123 ZDr ZE8)) (n (e Znx ZlD) .tt))))))))))))))))))))))))) (i (t (a 0) z) (n (.f1 23 Zxu) (n (.f1 23 ZyM) (n (l z ZkZ) (n (t ZkZ k1) (n (.f1 23 Zyy) (u 1 .int (i ZDR (.and (i Zwr (n ZCB (n (.f2 155 Zri Zt7) (n ZEj .tt)))) (i (.f1 2 Zwr) (n (l (k 1) Zam) (n (l Zam (k 8)) (u 2 .int (u 3 .int (u 4 .bytes (i (.f2 155 (.f2 114 (b 4) Zam) (wB 93 ZkZ Zam)) (i (l Zam (.f1 31 (b 4))) (i (l Zam (a 3)) (n (l z Zam) (n (.f2 155 Zt7 (wB 642 (a 0) (k 1))) (u 5 .int (u 6 .int (u 7 .int (u 8 .bytes (i Zwt (i (l (a 5) Zam) (i (.f2 155 (b 8) (wB 642 (a 0) Zil)) (i (l (.f1 31 (b 8)) (a 7)) (.and (i (t (a 5) Zam) (n (t (a 5) (.f1 31 (b 4))) (n (l z ZoA) (n (l ZoA (k 255)) (u 9 .int (i (l z (a 9)) (n (l (.f1 31 (b 8)) (.f1 31 (b 8))) (n (l (.f2 42 Zpd (k 1)) k0) (u 10 .int (u 11 .int (i (l Zpd (a 11)) (i (.f2 50 (l z (a 10)) (e Zpd z)) (n (.f1 23 Zil) (n (l z ZxT) (n (t ZxT (.f2 41 Zam (a 5))) (n (l z Zil) (n (l Zil Zam) (n (.f2 155 (.f2 120 (b 8) (.f2 123 ZoA (.f1 153 z))) (wB 642 (a 0) (.f2 40 (a 5) (k 2)))) .tt)))))))))))))))))) (i (l Zam (a 5)) (n (l Znx (a 7)) (n (.f2 155 Zri (b 8)) (n (e Znx (.f1 31 (b 8))) .tt)))))))))))))))))))))))))))))))))))
theorem ZG9 : ZeK Tryz.prog ZHV 12 48 ZvB = ZIW := by kernel_rfl
theorem ZGj (S : Sig Nd) (hS : TeSig S) : Zr S Tryz.prog 43 ZvQ := by
 refine Zj S (C := ZHt) (fuel := 12) (Zai ⟨Zk (by decide) (ZIK S hS), Zk (by decide) (ZA4 S hS.en), trivial⟩ ⟨⟨trivial, trivial⟩, trivial⟩ trivial) fun ρ => ?_
 rw [ZGN]
 simp only [ZGv, ZCt, ZyI, Zcw, ZDP, ZC7, ZzR, Zrr, ZD7, ZFy, Zrk, Zqi, Zpu, Zv2, Zx1, Zxk, ZxP, hS.en.u93, hS.u640, hS.u641, hS.u642, ZaA, ZJu, VC.den, SX.den, Env.upd, n79, n80, n103, beq_iff_eq, ZJm, beq_eq_false_iff_ne, ne_eq, ZJl, ZJk, Int.reduceToNat, Nat.reduceEqDiff, reduceIte, sB, sC]
 generalize (ρ 4).tI = n
 generalize (ρ 3).tB = L
 generalize (ρ 1).tI = l
 intro hl hb n0 n1
 have tp := ZDH n0 n1
 rw [Zzf hl]
 simp only [ZCZ n0 n1]
 generalize IntKind.u8.wrap (n.fdiv 9223372036854775808) = t at tp ⊢
 obtain ⟨m0, m1⟩ := ZGc n0 n1
 obtain ⟨w0, w8⟩ := Zfc (mgN n)
 obtain ⟨hh, h0, h255⟩ := Zz0 tp
 have il := Zev n
 rw [hh]
 refine ⟨m0, by omega, ⟨by omega, by omega⟩, h0, h255, fun _ _ => ⟨by omega, by omega, by omega, fun _ _ _ _ => ⟨fun hw => ⟨by omega, w8, fun _ _ B hB hwB _ => ⟨w0, ?_, by omega, fun i _ _ X i0 i1 hX => ⟨fun hi => ?_, fun hi => ?_⟩⟩⟩, fun hw => ⟨?_, ?_, trivial⟩⟩⟩⟩
 ·rw [Zr6]
 ·obtain ⟨q, rfl⟩ := ZJf i0
  obtain ⟨e1, e2, e3⟩ := ZqD (i := q) tp hB (by omega) (by omega)
  simp only [ZJu]
  rw [show ((q : Int) + 1).toNat = q + 1 by omega] at hX
  have lX : X.length <= L.length + 9 := by rw [hX, ZJs, ZJp]; omega
  refine ⟨by omega, e2, e3, fun _ _ => ⟨by omega, by omega, fun _ _ _ _ => ⟨⟨by omega, by omega⟩, by omega, by omega, by omega, by omega, ?_, trivial⟩⟩⟩
  rw [show ((q : Int) + 2).toNat = q + 2 by omega, e1, hX, ZJL]
 ·rw [ZpF (by omega) i0] at hX
  rw [hX]
  exact ⟨rfl, by rw [ZJs]; omega, trivial⟩
 ·rw [ZfI, show ZrN n = [] from ZJC (by rw [Zfr]; omega)]
 ·rw [il]; omega
theorem ZJa (S : Sig Nd) (hS : TeSig S) : Zr S Tryz.prog 48 ZvB := by
 refine Zj S (C := ZHV) (fuel := 12) (Zai ⟨Zk (by decide) (ZH9 S hS), Zk (by decide) (ZBl S hS.en (Zgb S)), trivial⟩ ⟨⟨trivial, trivial⟩, trivial⟩ trivial) fun ρ => ?_
 rw [ZG9]
 simp only [ZIW, Zg3, ZEK, ZDR, ZFe, Zri, Znx, ZCB, ZDr, ZEj, ZE8, ZlD, Zwt, Zxu, ZyM, ZkZ, Zam, Zyy, Zwr, Zt7, Zil, ZoA, Zpd, ZxT, hS.en.u93, hS.u640, hS.u641, hS.u642, ZaA, ZJu, VC.den, SX.den, Env.upd, n79, n80, n103, beq_iff_eq, ZJm, beq_eq_false_iff_ne, ne_eq, ZJl, ZJk, Int.reduceToNat, Nat.reduceEqDiff, reduceIte, sB, sC]
 generalize (ρ 0).tI = n
 intro n0 n1
 obtain ⟨w0, w8⟩ := Zfc (mgN n)
 have il := Zev n
 refine ⟨fun hn => ?_, fun hn => ?_⟩
 ·have em : mgN n = n := by unfold mgN; rw [if_neg (by omega)]
  have e : IntKind.u64.wrap n = mgN n := by rw [Ziu, em]; omega
  rw [e]
  have eh : UInt8.ofNat (IntKind.u8.wrap (wdN (mgN n) + 128)).toNat = ZvG n := by
   unfold ZvG
   rw [if_neg (by omega), ZyY, Zhy (by omega) (by omega), show (wdN (mgN n) + 128) % 256 = 128 + wdN (mgN n) by omega]
  rw [eh]
  refine ⟨by omega, by omega, ⟨by omega, by omega⟩, fun _ _ => ⟨fun hw => ⟨by omega, ?_, by omega, trivial⟩, fun hw => ⟨by omega, w8, fun _ _ B hB _ _ => ⟨by omega, w0, fun _ _ _ _ => ⟨by omega, ?_, by omega, trivial⟩⟩⟩⟩⟩
  ·rw [ZfI, show ZrN n = [] from ZJC (by rw [Zfr]; omega)]
  ·rw [hB, ZfI]
   unfold ZrN
   rw [if_neg (by omega)]
 ·have em : mgN n = -1 - n := by unfold mgN; rw [if_pos hn]
  have e : IntKind.u64.wrap (0 - (n + 1)) = mgN n := by rw [Ziu, em]; omega
  rw [e]
  have tp : (255 : Int) = if n < 0 then 255 else 0 := by rw [if_pos hn]
  have eh : UInt8.ofNat (IntKind.u8.wrap (127 - wdN (mgN n))).toNat = ZvG n := by
   unfold ZvG
   rw [if_pos hn, ZyY, Zhy (by omega) (by omega), show (127 - wdN (mgN n)) % 256 = 127 - wdN (mgN n) by omega]
  rw [eh]
  refine ⟨⟨by omega, by omega⟩, ⟨by omega, by omega⟩, by omega, by omega, ⟨by omega, by omega⟩, fun _ _ => ⟨fun hw => ⟨by omega, ?_, by omega, trivial⟩, fun hw => ⟨by omega, w8, fun _ _ B hB hwB _ => ⟨w0, (Zr6 n).symm, fun i _ _ X i0 i1 hX hc => ⟨fun hi => ?_, fun hi => ?_⟩⟩⟩⟩⟩
  ·rw [ZfI, show ZrN n = [] from ZJC (by rw [Zfr]; omega)]
  ·obtain ⟨q, rfl⟩ := ZJf i0
   obtain ⟨e1, e2, e3⟩ := ZqD (i := q) tp hB (by omega) (by omega)
   simp only [ZJu]
   rw [show ((q : Int) + 1).toNat = q + 1 by omega] at hX
   have lX : X.length <= 9 := by rw [hX, ZJp]; omega
   refine ⟨by omega, e2, e3, fun _ _ => ⟨by omega, by omega, fun _ _ _ _ => ⟨⟨by omega, by omega⟩, by omega, by omega, by omega, by omega, ?_, trivial⟩⟩⟩
   rw [show ((q : Int) + 2).toNat = q + 2 by omega, e1, hX]
  ·rw [ZpF (by omega) i0] at hX
   rw [hX] at hc ⊢; exact ⟨hc, rfl, rfl, trivial⟩
end
end Go.Proofs.YtlmkcakhhbckhaaGreatDoor
namespace Go.Proofs.YtlmkcakhhbckhaaGreatDoor
noncomputable section
open Go.Eng
open Go.RowKit (Below)
theorem Zi7 {w0 w w' : World} {h : Hl} (hi : In w0 h w) (hb : Below w.heap.size w w') : In w0 h w' := by
 refine ⟨fun b o v z he => ?_, fun b o x he => ?_, hi.below.trans ⟨hb.os, hb.tape, hb.output, hb.size, fun k hk => hb.block k (Nat.lt_of_lt_of_le hk hi.below.size)⟩⟩
 ·obtain ⟨h1, h2, h3, h4⟩ := hi.cell b o v z he
  have hlt : b < w.heap.size := by
   unfold World.cell? at h2
   cases hh : w.heap[b]? with
   | none => rw [hh] at h2; cases h2
   | some q => exact (Array.getElem?_eq_some_iff.1 hh).1
  have e1 : w'.heap[b]? = w.heap[b]? := hb.block b hlt
  refine ⟨h1, ?_, ?_, fun hz => ?_⟩
  ·unfold World.cell? at h2 ⊢; rw [e1]; exact h2
  ·unfold World.frozen? at h3 ⊢; rw [e1]; exact h3
  ·obtain ⟨c, e, h5⟩ := h4 hz; exact ⟨c, e, by rw [e1]; exact h5⟩
 ·obtain ⟨h1, h2, h3, h4⟩ := hi.obj b o x he
  have hlt : b < w.heap.size := (Array.getElem?_eq_some_iff.1 h3).1
  exact ⟨h1, h2, by rw [hb.block b hlt]; exact h3, h4⟩
theorem ZFu {w : World} {a : Addr} {v : Value} (h : w.cell? a = some v) : a.block < w.heap.size := by
 unfold World.cell? at h
 cases hh : w.heap[a.block]? with
 | none => rw [hh] at h; cases h
 | some q => exact (Array.getElem?_eq_some_iff.1 hh).1
theorem Zvx (l : List Int) (p q : Nat) : (l.drop p).getD q 0 = l.getD (p + q) 0 := by rw [ZJn, ZJn, ZJM]
theorem Ztd {h : List Int} {l : List Nd} (ho : Zkq h l) : opqV (h.drop 3) = slV (h.getD 3 0) (h.getD 6 0) (h.getD 7 0) := by
 obtain ⟨a1, a2, a3, a4, a5⟩ := ho
 unfold opqV slV
 simp only [Zvx]
 rw [show 3 + 0 = 3 from rfl, show 3 + 1 = 4 from rfl, show 3 + 2 = 5 from rfl, show 3 + 3 = 6 from rfl, show 3 + 4 = 7 from rfl, a4, a5]
 simp
theorem ZCq {h : List Int} {l : List Nd} (ho : Zkq h l) : Zs itF h = Zs itO (r6 h) := by
 have e : Zs itF h = [.int .i64 (h.getD 0 0), .int .i64 (h.getD 1 0), .string ⟨(decB (h.getD 2 0).toNat).toArray⟩, opqV (h.drop 3)] := by
  simp only [itF, Zs, Fd.val, Fd.width, List.drop_drop, Zvx]
 rw [e, Ztd ho]
 rfl
theorem Zqe : ∀ {l : List Nd}, (∀ x ∈ l, Zkq x.h x.l) -> (Yh l).flatMap (Zs itF) = (l.map (fun x => r6 x.h)).flatMap (Zs itO)
 | [], _ => rfl
 | x :: l, h => by
  show Zs itF x.h ++ (Yh l).flatMap (Zs itF) = Zs itO (r6 x.h) ++ (l.map (fun x => r6 x.h)).flatMap (Zs itO)
  rw [ZCq (h x (ZJv ..)), Zqe fun y hy => h y (ZJt _ hy)]
theorem ZAO {g : Nd} {h : Hl} (ho : OT g h) : Zkq g.h g.l := by rw [Zxw] at ho; exact ho.1
theorem Zg4 {w0 w : World} {a b : Hl} (hd : Hl.Disj a b) (h : In w0 (Hl.un a b) w) : In w0 a w := h.sub fun i j r e => by unfold Hl.un; rw [e]
theorem Zof {w0 w : World} {a b : Hl} (hd : Hl.Disj a b) (h : In w0 (Hl.un a b) w) : In w0 b w := h.sub fun i j r e => by
 unfold Hl.un
 rcases hd i j with e' | e'
 ·rw [e']; exact e
 ·rw [e'] at e; cases e
mutual
theorem ZIT {w0 w : World} : ∀ (g : Nd) (h : Hl), OT g h -> In w0 h w -> RT w g
 | .mk hd l, h, ho, hi => by
  unfold OT at ho
  obtain ⟨⟨a1, a2, a3, a4, a5⟩, a, b, d, rfl, h1, h2⟩ := ho
  obtain ⟨q1, q2⟩ := Zu4 l b h2 (Zof d hi)
  unfold RT
  refine ⟨⟨a1, fun _ => ⟨a3, by rw [a5]; omega⟩, fun i v hv => ?_⟩, q1⟩
  obtain ⟨spare, _, _, _, hr⟩ := h1
  have hia := Zg4 d hi
  rw [Zqe q2] at hv
  have e : ZBB.vals (.rows (ZY l.length l) : U Unit) = (l.map (fun x => r6 x.h)).flatMap (Zs itO) ++ [mkI l.length, mkI (l.length + 1)].flatMap (Zs itO) := by
   show (ZY l.length l).flatMap (Zs itO) = _
   unfold ZY; rw [List.flatMap_append]
  rw [e] at hr
  have hc : a (hd.getD 3 0).toNat i = some (.val v true) := by
   have hr : a = Zbu (hd.getD 3 0).toNat 0 _ true := hr
   rw [hr]
   unfold Zbu
   rw [if_pos ⟨rfl, Nat.zero_le _⟩, Nat.sub_zero, ZJL, ZJF (by
    rw [List.getElem?_eq_some_iff] at hv; exact hv.1), hv]; rfl
  obtain ⟨_, c2, _, _⟩ := hia.cell _ _ _ _ hc
  rw [a4]
  exact ⟨ZFu c2, by rw [show (0 : Int).toNat + i = i by simp]; exact c2⟩
theorem Zu4 {w0 w : World} : ∀ (l : List Nd) (h : Hl), OTs l h -> In w0 h w -> RTs w l /\ ∀ x ∈ l, Zkq x.h x.l
 | [], _, _, _ => ⟨by unfold RTs; trivial, fun x hx => nomatch hx⟩
 | x :: l, h, ho, hi => by
  rw [Zd6] at ho
  obtain ⟨a, b, d, rfl, h1, h2⟩ := ho
  obtain ⟨q1, q2⟩ := Zu4 l b h2 (Zof d hi)
  unfold RTs
  refine ⟨⟨ZIT x a h1 (Zg4 d hi), q1⟩, fun y hy => ?_⟩
  rcases List.mem_cons.1 hy with rfl | hy
  ·exact ZAO h1
  ·exact q2 y hy
end
def ZFD (n c g : SX) : List SX := [.f2 45 n (lnX g), .f2 45 c (ZhM (lnX g)), tgX g]
theorem ZIt {S : Sig Nd} (hS : ToSig S) {ρ : Go.Eng.Env Nd} {b n c : Nat} {g : SX} {v : Value} {h : Hl} (hv : SV.R S ρ (.one (slC (ai b) (ai n) (ai c) 4)) v)
  (hn : (ρ n).tI = ((ndU (g.den S ρ)).l.length : Nat)) (hc : (ρ c).tI = ((ndU (g.den S ρ)).l.length : Nat) + 2) (hb : (ndU (g.den S ρ)).h.getD 3 0 = (ρ b).tI) (ho : OT (ndU (g.den S ρ)) h) : v = opqV ((ndU (g.den S ρ)).h.drop 3) := by
 have hw := ZAO ho
 rw [Ztd hw, R_one S ρ hv, ZjJ, hw.1, hw.2.1, hb]
 show slV (ρ b).tI (ρ n).tI (ρ c).tI = _
 rw [hn, hc]
end
end Go.Proofs.YtlmkcakhhbckhaaGreatDoor
namespace Go.Proofs.YtlmkcakhhbckhaaGreatDoor
noncomputable section
open Go.Eng
def ZBL (x : UInt8) : List UInt8 := if x = 0 then [0, 255] else [x]
def Zdy (L : List UInt8) : List UInt8 := L.flatMap ZBL
structure ToaSig (S : Sig Nd) : Prop where
 te : TeSig S
 u643 : ∀ a b c d, S.usr 643 a b c d = .bytes (Zdy (a.tB.take b.tI.toNat))
 u644 : ∀ a b c d, S.usr 644 a b c d = .bytes (Zdy a.tB ++ [0, 1])
theorem ZGu {S : Sig Nd} (h : ToaSig S) (n : Int) : ToaSig (S.bd n) := ⟨te_bd h.te n, h.2, h.3⟩
def oiX (L k : SX) : SX := usY 643 L k z0
def orX (L : SX) : SX := usY 644 L z0 z0
/-! ### internal/bytealg.Count -/
def ZFC : Ctr := ⟨[.int, .int, .int, .bytes, .int], [.one (sl1 (ai 0) (ai 1) (ai 2)), .one (.int .u8 (ai 4))], [bAr (ai 0) (bA 3) (ai 2)], [.f2 45 (ai 1) (Zag (bA 3)), eLe z0 (ai 1), eLe z0 (ai 0)], [.int], .one (.int .i64 (ai 5)), [bAr (ai 0) (bA 3) (ai 2)], [eLe z0 (ai 5), eLe (ai 5) (ai 1)]⟩
theorem ZpK {P : Program} {w : World} : ∀ (bs : List UInt8) (p o : Nat) (acc : ByteArray), (∀ i b, bs[i]? = some b -> w.cell? ⟨p, o + i, none⟩ = some (.int .u8 (b.toNat : Nat))) -> (Extern.Bytes.loadBytes ⟨p, o, none⟩ bs.length acc).run P w = .ok ⟨acc.data ++ bs.toArray⟩ w
 | [], p, o, acc, _ => by simp [Extern.Bytes.loadBytes]
 | b :: bs, p, o, acc, h => by
  have h0 := h 0 b rfl
  have ih := ZpK (P := P) bs p (o + 1) (acc.push b) (fun i c hc => by
   have := h (i + 1) c (by simpa using hc)
   rw [show o + 1 + i = o + (i + 1) by omega]; exact this)
  simp only [Nat.add_zero] at h0
  have ea : (⟨p, o, none⟩ : Addr).add 1 = ⟨p, o + 1, none⟩ := by unfold Addr.add; simp
  simp only [ZJH, Extern.Bytes.loadBytes, Sem.run_bind, run_load, h0, Result.andThen_ok, ea]
  have e : ((b.toNat : Nat) : Int).toNat.toUInt8 = b := by simp
  rw [e, ih]
  congr 2
  simp [ByteArray.push]
theorem ZDY (S : Sig Nd) {P : Program} {f : FuncId} {fn : Func} (hf : P.funcs[f]? = some fn) (hname : (fn.name == "runtime.NumGoroutine") = false) (hb : fn.body.isNone = true)
  (hn : Extern.findNext fn = none) (he : Extern.find fn = some Extern.BytealgCount.count) : ZfJ S P f ZFC := by
 intro ch w0 F ρ w xs hx hq hsat
 match xs, hx with
 | [v1, v2], hx =>
  have hv1 := R_one S ρ hx.1
  have hv2 := R_one S ρ hx.2.1
  have r0 := hq (.f2 45 (ai 1) (Zag (bA 3))) (by simp [ZFC])
  have r1 := hq (eLe z0 (ai 0)) (by simp [ZFC])
  have r0 := ZbR r0
  rw [eLe_den] at r1
  have r0 : (ρ 1).tI = ((ρ 3).tB.length : Nat) := r0
  have r1 : 0 <= (ρ 0).tI := r1
  have hs0 := hsat
  obtain ⟨x, ⟨a, g, d, rfl, hp, hg⟩, hi⟩ := hsat
  have hp : Zg (bAD (ρ 0).tI (ρ 3).tB (ρ 2).tI) emp a := hp
  rw [star_emp] at hp
  obtain ⟨spare, _, _, _, hr⟩ := hp
  have hia := Zg4 d hi
  have hcell : ∀ i b, (ρ 3).tB[i]? = some b -> w.cell? ⟨(ρ 0).tI.toNat, 0 + i, none⟩ = some (.int .u8 (b.toNat : Nat)) := by
   intro i b hb'
   have hr : a = Zbu (ρ 0).tI.toNat 0 ((ρ 3).tB.map (fun b => Value.int .u8 (b.toNat : Nat)) ++ spare) false := hr
   have hlt := (List.getElem?_eq_some_iff.1 hb').1
   have hc : a (ρ 0).tI.toNat i = some (.val (.int .u8 (b.toNat : Nat)) false) := by
    rw [hr]
    unfold Zbu
    rw [if_pos ⟨rfl, Nat.zero_le _⟩, Nat.sub_zero, ZJF (by rw [ZJx]; exact hlt), ZJj, hb']; rfl
   obtain ⟨_, c2, _, _⟩ := hia.cell _ _ _ _ hc
   rw [Nat.zero_add]; exact c2
  have hload := ZpK (P := P) (w := w) (ρ 3).tB (ρ 0).tI.toNat 0 .empty hcell
  have hv1 : v1 = slV (ρ 0).tI (ρ 1).tI (ρ 2).tI := by rw [hv1]; exact ZjJ S ρ _ _ _ _
  have hv2 : v2 = .int .u8 (ρ 4).tI := hv2
  let k : Nat := Lib.countByte (ρ 3).tB (ρ 4).tI.toNat.toUInt8
  refine ⟨.int .i64 (k : Nat), w, ?_, ρ.upd 5 (.int (k : Nat)), Ext.upd _ _, .inr rfl, hs0, ?_⟩
  ·rw [run_callFunc_extern hf hname hb hn he, hv1, hv2]
   have key : (Extern.BytealgCount.count #[slV (ρ 0).tI (ρ 1).tI (ρ 2).tI, .int .u8 (ρ 4).tI]).run P w = .ok (.int .i64 (k : Nat)) w := by
    unfold slV
    rw [if_neg (by omega), r0, ZJu]
    change Sem.run P (do
     let b <- Extern.Bytes.loadBytes ⟨(ρ 0).tI.toNat, 0, none⟩ (ρ 3).tB.length .empty
     let c' <- Extern.Bytes.asByte (.int .u8 (ρ 4).tI)
     pure (goInt (b.foldl (fun n x => if x == c' then n + 1 else n) (0 : Nat)))) w = _
    simp only [Extern.Bytes.asByte, Sem.run_bind, hload, Sem.run_pure, Result.andThen]
    rw [Lib.foldl_data, Lib.count_foldl]
    simp [goInt, k]
   rw [show ([slV (ρ 0).tI (ρ 1).tI (ρ 2).tI, .int .u8 (ρ 4).tI] : List Value).toArray = #[slV (ρ 0).tI (ρ 1).tI (ρ 2).tI, .int .u8 (ρ 4).tI] from rfl, key]
   rfl
  ·intro x hx
   simp only [ZFC, List.mem_cons, List.not_mem_nil, or_false] at hx
   rcases hx with rfl | rfl
   ·rw [eLe_den]; exact Int.natCast_nonneg _
   ·rw [eLe_den]
    show ((k : Nat) : Int) <= (ρ 1).tI
    rw [r0]
    exact Int.ofNat_le.2 List.count_le_length
def Zlc : Ctr := ⟨[.int, .int, .int, .bytes], [.one (sl1 (ai 0) (ai 1) (ai 2))], [bAr (ai 0) (bA 3) (ai 2)], [.f2 45 (ai 1) (Zag (bA 3)), eLe (ai 1) big, eLe z0 (ai 0)], [.int, .int], .one (sl1 (ai 4) (Zag (orX (bA 3))) (ai 5)), [bAr (ai 4) (orX (bA 3)) (ai 5)], [eLe (Zag (orX (bA 3))) (ai 5)]⟩
def ordI1 : Inv := ⟨[.int, .int, .int, .bytes], [(16, .one (.int .i64 (di 0))), (3, .one (sl1 (di 1) (Zag (bA 1000003)) (di 2)))], [bAr (di 1) (bA 1000003) (di 2)], [eLe z0 (di 0), eLe (di 0) (ai 1), eqS (bA 1000003) (oiX (bA 3) (di 0)), eLe z0 (di 1)], .f2 41 (ai 1) (di 0)⟩
def ZG1 : Cx := { specs := [], anns := [(46, [(3, .inv ordI1)])], exts := [(90, [ZFC])] }
def ZBM : Ctr := Zlc
def orrI1 : Inv := ⟨[.int, .int, .int, .bytes], [(4, .one (.int .i64 (di 0))), (3, .one (sl1 (di 1) (Zag (bA 1000003)) (di 2)))], [bAr (di 1) (bA 1000003) (di 2)], [eLe z0 (di 0), eLe (di 0) (ai 1), eqS (bA 1000003) (oiX (bA 3) (di 0))], .f2 41 (ai 1) (di 0)⟩
def ZF1 : Cx := { specs := [], anns := [(51, [(2, .ghost ZBI []), (3, .inv orrI1)])] }
theorem ZnS {L : List UInt8} {i : Nat} (h : i < L.length) : Zdy (L.take (i + 1)) = Zdy (L.take i) ++ ZBL (L.getD i 0) := by
 unfold Zdy
 rw [List.take_add_one, List.flatMap_append, ZJn, ZJq h]
 simp
theorem Zek : ∀ L : List UInt8, (Zdy L).length <= 2 * L.length
 | [] => ZJd _
 | x :: L => by
  have ih := Zek L
  unfold Zdy at *
  rw [List.flatMap_cons, ZJs, ZJH]
  have : (ZBL x).length <= 2 := by unfold ZBL; split <;> simp
  omega
theorem ZsE {x : UInt8} (h : (x.toNat : Int) = 0) : x = 0 := by
 have e : x.toNat = 0 := by omega
 exact UInt8.toNat_inj.1 (by rw [e]; rfl)
theorem ZF6 (S : Sig Nd) : ZfJ S Tryz.prog 90 ZFC :=
 ZDY S (fn := Tryz.f90) Tryz.func90 (by kernel_rfl) (by kernel_rfl) (by kernel_rfl) (by kernel_rfl)
def ZEn : SX := .f2 40 (a 1) (a 5)
def Zzl : SX := .f2 40 ZEn (k 2)
def ZDn : SX := l z (a 11)
def ZC6 : SX := l (.f1 31 (b 10)) (.f1 31 (b 10))
def Zmp : SX := .f2 40 (.f1 31 (b 10)) (k 1)
def ZzY : SX := l z (a 12)
def Zzh : SX := .f2 111 (b 3) (a 7)
def ZCJ : SX := e Zzh z
def Zrl : SX := .f2 40 (.f1 31 (b 10)) (k 2)
def ZCG : SX := l (.f2 42 Zrl (k 1)) k0
def Zxn : SX := l z (a 15)
def ZrY : SX := e Zrl z
def Zik : SX := .f2 40 (a 7) (k 1)
def Zxg : SX := .f1 23 Zik
def Zv4 : SX := .f2 41 (a 1) Zik
def Zr4 : SX := l z Zv4
def ZwW : SX := t Zv4 (.f2 41 (a 1) (a 7))
def ZsF : SX := l z Zik
def Zxp : SX := l Zik (a 1)
def Zyv : SX := wB 643 (b 3) Zik
def ZtM : SX := j 644 (b 3)
def ZvN : SX := .f1 31 ZtM
def ZIk : VC := i (e (a 1) (.f1 31 (b 3))) (i (l (a 1) k3) (i (l z (a 0)) (n (l z (a 1)) (u 4 .int (i (l z (a 4)) (u 5 .int (i (l z (a 5)) (i (l (a 5) (a 1)) (n (.f1 23 ZEn) (n (.f1 23 Zzl) (n (l z Zzl) (n (l (.f2 42 Zzl (k 1)) k0) (u 6 .int (i (l z (a 6)) (n (.f2 155 (.byt []) (j 643 (b 3))) (u 7 .int (u 8 .int (u 9 .int (u 10 .bytes (i (l z (a 7)) (i (l (a 7) (a 1)) (i (.f2 155 (b 10) (wB 643 (b 3) (a 7))) (i (l z (a 8)) (.and (i (t (a 7) (a 1)) (n (t (a 7) (.f1 31 (b 3))) (u 11 .int (i ZDn (n ZC6 (n (l (.f2 42 Zmp (k 1)) k0) (u 12 .int (u 13 .int (i (l Zmp (a 13)) (i (.f2 50 ZzY (e Zmp z)) (.and (i ZCJ (u 14 .int (i (l z (a 14)) (n (l z Zmp) (n (l Zmp Zmp) (n ZCG (u 15 .int (u 16 .int (i (l Zrl (a 16)) (i (.f2 50 Zxn ZrY) (n Zxg (n Zr4 (n ZwW (n ZsF (n Zxp (n (.f2 155 (.f2 120 (b 10) (.f2 123 Zzh (.byt [255]))) Zyv) (n Zxn .tt))))))))))))))))) (i (.f1 2 ZCJ) (n Zxg (n Zr4 (n ZwW (n ZsF (n Zxp (n (.f2 155 (.f2 120 (b 10) (.f2 123 Zzh (.f1 153 z))) Zyv) (n ZzY .tt))))))))))))))))))) (i (l (a 1) (a 7)) (u 11 .int (i ZDn (n ZC6 (n ZCG (u 12 .int (u 13 .int (i (l Zrl (a 13)) (i (.f2 50 ZzY ZrY) (n (l ZvN (a 13)) (n (.f2 155 ZtM (.f2 120 (b 10) (.byt [0, 1]))) (n (e ZvN Zrl) .tt))))))))))))))))))))))))))))))))))))
theorem ZHg : ZeK Tryz.prog ZG1 12 46 Zlc = ZIk := by kernel_rfl
def ZEw : SX := l z (a 8)
def ZE0 : SX := l (.f1 31 (b 7)) (.f1 31 (b 7))
def Zm1 : SX := .f2 40 (.f1 31 (b 7)) (k 1)
def ZE2 : SX := l (.f2 42 Zm1 (k 1)) k0
def ZBX : SX := l Zm1 (a 10)
def ZDj : SX := .f2 50 (l z (a 9)) (e Zm1 z)
def Zzg : SX := .f2 111 (b 3) (a 4)
def ZDs : SX := e Zzg z
def ZCl : SX := l z (a 11)
def ZET : SX := l z Zm1
def ZwP : SX := l Zm1 Zm1
def ZjV : SX := .f2 40 (.f1 31 (b 7)) (k 2)
def ZwK : SX := l (.f2 42 ZjV (k 1)) k0
def ZvP : SX := l ZjV (a 13)
def Zvq : SX := .f2 50 (l z (a 12)) (e ZjV z)
def Zij : SX := .f2 40 (a 4) (k 1)
def ZtK : SX := .f1 23 Zij
def ZyB : SX := .f2 41 (a 1) Zij
def Zvr : SX := l z ZyB
def Zts : SX := t ZyB (.f2 41 (a 1) (a 4))
def ZwQ : SX := l z Zij
def Ztv : SX := l Zij (a 1)
def ZwX : SX := wB 643 (b 3) Zij
def ZxH : SX := j 644 (b 3)
def ZrU : SX := .f1 31 ZxH
def ZHF : VC := i (e (a 1) (.f1 31 (b 3))) (i (l (a 1) k3) (i (l z (a 0)) (n (l z (a 1)) (n (.f2 155 (.f1 153 z) (j 643 (b 3))) (u 4 .int (u 5 .int (u 6 .int (u 7 .bytes (i (l z (a 4)) (i (l (a 4) (a 1)) (i (.f2 155 (b 7) (wB 643 (b 3) (a 4))) (.and (i (t (a 4) (a 1)) (n (t (a 4) (.f1 31 (b 3))) (u 8 .int (i ZEw (n ZE0 (n ZE2 (u 9 .int (u 10 .int (i ZBX (i ZDj (.and (i ZDs (u 11 .int (i ZCl (n ZET (n ZwP (n ZwK (u 12 .int (u 13 .int (i ZvP (i Zvq (n ZtK (n Zvr (n Zts (n ZwQ (n Ztv (n (.f2 155 (.f2 120 (b 7) (.f2 123 Zzg (.byt [255]))) ZwX) .tt)))))))))))))))) (i (.f1 2 ZDs) (n ZtK (n Zvr (n Zts (n ZwQ (n Ztv (n (.f2 155 (.f2 120 (b 7) (.f2 123 Zzg (.f1 153 z))) ZwX) .tt)))))))))))))))))) (i (l (a 1) (a 4)) (u 8 .int (i ZEw (n ZE0 (n ZE2 (u 9 .int (u 10 .int (i ZBX (i ZDj (u 11 .int (i ZCl (n ZET (n ZwP (n ZwK (u 12 .int (u 13 .int (i ZvP (i Zvq (n (l ZrU (a 13)) (n (.f2 155 ZxH (.f2 120 (b 7) (.byt [0, 1]))) (n (e ZrU ZjV) .tt)))))))))))))))))))))))))))))))))
theorem ZHR : ZeK Tryz.prog ZF1 12 51 ZBM = ZHF := by kernel_rfl
theorem ZGp (S : Sig Nd) (hS : ToaSig S) : Zr S Tryz.prog 46 Zlc := by
 refine Zj S (C := ZG1) (fuel := 12) (Zai trivial ⟨⟨trivial, trivial⟩, trivial⟩ ⟨ZCw (by decide) (ZF6 S), trivial⟩) fun ρ => ?_
 rw [ZHg]
 simp only [ZIk, ZEn, Zzl, ZDn, ZC6, Zmp, ZzY, Zzh, ZCJ, Zrl, ZCG, Zxn, ZrY, Zik, Zxg, Zv4, Zr4, ZwW, ZsF, Zxp, Zyv, ZtM, ZvN, hS.u643, hS.u644, ZaA, ZJu, VC.den, SX.den, Env.upd, beq_iff_eq, ZJm, beq_eq_false_iff_ne, ne_eq, ZJl, ZJk, Int.reduceToNat, Nat.reduceEqDiff, reduceIte, sB]
 generalize (ρ 3).tB = L
 generalize (ρ 1).tI = l
 generalize (ρ 0).tI = b
 intro hl hb b0
 have full : ∀ i : Int, l <= i -> i <= l -> Zdy (L.take i.toNat) = Zdy L := fun i h1 h2 => by rw [ZJz (by omega)]
 have step : ∀ i : Int, 0 <= i -> i < l -> (((L.getD i.toNat 0).toNat : Int) = 0 -> Zdy (L.take (i + 1).toNat) = Zdy (L.take i.toNat) ++ [UInt8.ofNat (L.getD i.toNat 0).toNat, 255]) /\ (¬ ((L.getD i.toNat 0).toNat : Int) = 0 -> Zdy (L.take (i + 1).toNat) = Zdy (L.take i.toNat) ++ [UInt8.ofNat (L.getD i.toNat 0).toNat]) := by
  intro i i0 i1
  have st := ZnS (L := L) (i := i.toNat) (by omega)
  rw [show (i + 1).toNat = i.toNat + 1 by omega, st, UInt8.ofNat_toNat]
  refine ⟨fun h => ?_, fun h => ?_⟩
  ·rw [ZsE h]; rfl
  ·unfold ZBL
   rw [if_neg (fun e => h (by rw [e]; rfl))]
 have lo : ∀ i : Int, 0 <= i -> (Zdy (L.take i.toNat)).length <= 2 * L.length := fun i _ => by
  have := Zek (L.take i.toNat)
  rw [ZJp] at this; omega
 refine ⟨by omega, fun _ _ k k0 k1 => ⟨⟨by omega, by omega⟩, ⟨by omega, by omega⟩, by omega, by omega, fun _ _ => ⟨rfl, fun i b' _ X i0 i1 hX bb => ⟨fun hi => ?_, fun hi => ?_⟩⟩⟩⟩
 ·have lX := lo i i0
  rw [<- hX] at lX
  obtain ⟨s1, s2⟩ := step i i0 hi
  refine ⟨by omega, fun _ _ => ⟨by omega, by omega, fun p _ _ hp => ⟨fun hz => fun _ _ => ⟨by omega, by omega, by omega, fun q _ _ hq => ⟨⟨by omega, by omega⟩, by omega, by omega, by omega, by omega, ?_, by omega, trivial⟩⟩, fun hz => ⟨⟨by omega, by omega⟩, by omega, by omega, by omega, by omega, ?_, by omega, trivial⟩⟩⟩⟩
  ·rw [s1 hz, hX]
  ·rw [s2 hz, hX]
 ·have lX := lo i i0
  rw [<- hX] at lX
  rw [full i hi i1] at hX
  refine fun _ _ => ⟨by omega, by omega, fun _ _ hc _ => ⟨?_, by rw [hX], by rw [hX]; simp, trivial⟩⟩
  rw [<- hX]; simp only [ZJs, ZJH, List.length_nil]; omega
theorem ZHm (S : Sig Nd) (hS : ToaSig S) : Zr S Tryz.prog 51 ZBM := by
 refine Zj S (C := ZF1) (fuel := 12) (Zai trivial ⟨⟨⟨by decide, Zgb _⟩, trivial, trivial⟩, trivial⟩ trivial) fun ρ => ?_
 rw [ZHR]
 simp only [ZHF, ZEw, ZE0, Zm1, ZE2, ZBX, ZDj, Zzg, ZDs, ZCl, ZET, ZwP, ZjV, ZwK, ZvP, Zvq, Zij, ZtK, ZyB, Zvr, Zts, ZwQ, Ztv, ZwX, ZxH, ZrU, hS.u643, hS.u644, ZaA, ZJu, VC.den, SX.den, Env.upd, beq_iff_eq, ZJm, beq_eq_false_iff_ne, ne_eq, ZJl, ZJk, Int.reduceToNat, Nat.reduceEqDiff, reduceIte, sB]
 generalize (ρ 3).tB = L
 generalize (ρ 1).tI = l
 generalize (ρ 0).tI = b
 intro hl hb b0
 have full : ∀ i : Int, l <= i -> i <= l -> Zdy (L.take i.toNat) = Zdy L := fun i h1 h2 => by rw [ZJz (by omega)]
 have step : ∀ i : Int, 0 <= i -> i < l -> (((L.getD i.toNat 0).toNat : Int) = 0 -> Zdy (L.take (i + 1).toNat) = Zdy (L.take i.toNat) ++ [UInt8.ofNat (L.getD i.toNat 0).toNat, 255]) /\ (¬ ((L.getD i.toNat 0).toNat : Int) = 0 -> Zdy (L.take (i + 1).toNat) = Zdy (L.take i.toNat) ++ [UInt8.ofNat (L.getD i.toNat 0).toNat]) := by
  intro i i0 i1
  have st := ZnS (L := L) (i := i.toNat) (by omega)
  rw [show (i + 1).toNat = i.toNat + 1 by omega, st, UInt8.ofNat_toNat]
  refine ⟨fun h => ?_, fun h => ?_⟩
  ·rw [ZsE h]; rfl
  ·unfold ZBL
   rw [if_neg (fun e => h (by rw [e]; rfl))]
 have lo : ∀ i : Int, 0 <= i -> (Zdy (L.take i.toNat)).length <= 2 * L.length := fun i _ => by
  have := Zek (L.take i.toNat)
  rw [ZJp] at this; omega
 refine ⟨by omega, rfl, fun i b' _ X i0 i1 hX => ⟨fun hi => ?_, fun hi => ?_⟩⟩
 ·have lX := lo i i0
  rw [<- hX] at lX
  obtain ⟨s1, s2⟩ := step i i0 hi
  refine ⟨by omega, fun _ _ => ⟨by omega, by omega, fun p _ _ hp => ⟨fun hz => fun _ _ => ⟨by omega, by omega, by omega, fun q _ _ hq => ⟨⟨by omega, by omega⟩, by omega, by omega, by omega, by omega, ?_, trivial⟩⟩, fun hz => ⟨⟨by omega, by omega⟩, by omega, by omega, by omega, by omega, ?_, trivial⟩⟩⟩⟩
  ·rw [s1 hz, hX]
  ·rw [s2 hz, hX]
 ·have lX := lo i i0
  rw [<- hX] at lX
  rw [full i hi i1] at hX
  refine fun _ _ => ⟨by omega, by omega, fun _ _ _ _ => fun _ _ => ⟨by omega, by omega, by omega, fun _ _ hc _ => ⟨?_, by rw [hX], by rw [hX]; simp, trivial⟩⟩⟩
  rw [<- hX]; simp only [ZJs, ZJH, List.length_nil]; omega
end
end Go.Proofs.YtlmkcakhhbckhaaGreatDoor
