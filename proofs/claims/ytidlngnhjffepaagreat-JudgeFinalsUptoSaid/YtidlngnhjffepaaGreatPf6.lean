/- Part of a proof. -/
import Derived.Test.YtidlngnhjffepaaGreatPf5
import Derived.Sort.Walk0
import Derived.Shelf.Sort.Plain
import Derived.Shelf.Slices.In.SortNone
import Derived.Test.YtidlngnhjffepaaGreatProg
import Derived.Shelf.GgSortFunc.RowK
import Derived.Shelf.SlSortCmp.Insertion
import Derived.Shelf.GgSortFunc.InsertionK
import Derived.Test.YtidlngnhjffepaaGreatPf4
set_option linter.unusedSimpArgs false
set_option linter.unusedVariables false
set_option maxRecDepth 20000
namespace Go.Proofs.YtidlngnhjffepaaGreat
noncomputable section
open Go.Eng
structure RI (x : List Ent) (n : Nat) (B : Bk) : Prop where
 ft : B.fault = -1
 wt : B.what = 0
 tx : ∀ j < B.txs.length, B.txs.getD j tx0 = txN x (B.txs.getD j tx0).who n
 pos : ∀ j < B.txs.length, 0 < (B.txs.getD j tx0).who
 beg : ∀ w, ixL w B.txs < B.txs.length ↔ 0 <= Yl x 1 w n
 fal : ∀ j < B.txs.length, (j ∈ B.fal ↔ ZhL x (Zbs x (B.txs.getD j tx0).who n).2 n = true)
 kep : B.kept.map (fun k => (B.txs.getD k tx0).who) = ZM x n
 len : ZxY x n = B.kept.length
 com : ∀ k < B.kept.length, 0 <= Yl x 5 ((ZM x n).getD k 0) n /\ (ZM x (Yl x 5 ((ZM x n).getD k 0) n).toNat).length = k
 out : ∀ r, r ∈ B.out ↔ ∃ i < n, xk (xa x i) = 2 /\ xw (xa x i) = 0 /\ r = (i : Int) :: nr (xa x i)
structure Adv (x : List Ent) (n : Nat) (L L' : List Tx) : Prop where
 len : L'.length = L.length
 get : ∀ j < L.length, L'.getD j tx0 = ZhK (L.getD j tx0).who (L.getD j tx0) n (xa x n)
theorem ZDF (w : Int) (s : Tx) (h : s.who = w) (i : Int) (r : Ent) : (ZhK w s i r).who = w := by
 unfold ZhK
 repeat' split
 all_goals first | exact h | rfl | (rw [(ZeW _ _ _).2.2.2.1]; exact h)
theorem Adv.who {x : List Ent} {n : Nat} {L L' : List Tx} (h : Adv x n L L') {j : Nat} (hj : j < L.length) : (L'.getD j tx0).who = (L.getD j tx0).who := by
 rw [h.get j hj]; exact ZDF _ _ rfl _ _
theorem Yv {L : List Tx} {j : Nat} (hj : j < L.length) : L.getD j tx0 = L[j] := by rw [ZPR, ZPU hj, ZPM]
theorem Adv.map {x : List Ent} {n : Nat} {L L' : List Tx} (h : Adv x n L L') : L'.map (·.who) = L.map (·.who) := by
 apply List.ext_getElem
 ·simp [h.len]
 ·intro j h1 h2
  rw [ZP1] at h1 h2
  rw [List.getElem_map, List.getElem_map, <- Yv h1, <- Yv h2]
  exact h.who h2
theorem Zx1 {w : Int} : ∀ {L L' : List Tx}, L'.map (·.who) = L.map (·.who) -> ixL w L' = ixL w L
 | [], [], _ => rfl
 | t :: L, s :: L', h => by
  rw [ZP0, ZP0, List.cons.injEq] at h
  unfold ixL
  rw [h.1, Zx1 h.2]
 | [], _ :: _, h => by simp at h
 | _ :: _, [], h => by simp at h
theorem Zgq {x : List Ent} {k w : Int} {n : Nat} (h : ¬ (xk (xa x n) = k /\ xw (xa x n) = w)) : Yl x k w (n + 1) = Yl x k w n := by
 rw [Yk, if_neg h]
 split
 ·rfl
 ·have := (Zcy x k w n).1; omega
theorem Zmi {x : List Ent} {n : Nat} (h : ¬ xk (xa x n) = 5) : ZxY x (n + 1) = ZxY x n /\ ZM x (n + 1) = ZM x n := ⟨by show (if _ then _ else _) = _; rw [if_neg h], by rw [ZbF, if_neg h]⟩
theorem Zj3 {x : List Ent} {k w : Int} {n : Nat} (h : 0 <= Yl x k w n) : Yl x k w (n + 1) = Yl x k w n := by rw [Yk, if_pos h]
theorem RI.adv {x : List Ent} {n : Nat} {B B' : Bk} (h : RI x n B) (hf : B'.fault = -1) (hw : B'.what = 0) (ha : Adv x n B.txs B'.txs) (hk : ¬ xk (xa x n) = 1) (hk5 : ¬ xk (xa x n) = 5) (hkept : B'.kept = B.kept)
  (hfal : ∀ j < B.txs.length, (j ∈ B'.fal ↔ ZhL x (Zbs x (B.txs.getD j tx0).who (n + 1)).2 (n + 1) = true))
  (hout : ∀ r, r ∈ B'.out ↔ ∃ i < n + 1, xk (xa x i) = 2 /\ xw (xa x i) = 0 /\ r = (i : Int) :: nr (xa x i)) (hki : ∀ k ∈ B.kept, k < B.txs.length) : RI x (n + 1) B' := by
 have hwho := fun {j : Nat} (hj : j < B.txs.length) => ha.who hj
 obtain ⟨l1, l2⟩ := Zmi hk5
 refine ⟨hf, hw, fun j hj => ?_, fun j hj => ?_, fun w => ?_, fun j hj => ?_, ?_, ?_, fun k hk => ?_, hout⟩
 ·rw [ha.len] at hj
  rw [hwho hj, Zbi, <- h.tx j hj]; exact ha.get j hj
 ·rw [ha.len] at hj
  rw [hwho hj]; exact h.pos j hj
 ·rw [Zx1 ha.map, ha.len, Zgq (fun q => hk q.1)]; exact h.beg w
 ·rw [ha.len] at hj
  rw [hwho hj]; exact hfal j hj
 ·rw [hkept, l2, <- h.kep]
  apply List.map_congr_left
  intro k hk
  exact hwho (hki k hk)
 ·rw [hkept, l1]; exact h.len
 ·rw [hkept] at hk
  obtain ⟨c1, c2⟩ := h.com k hk
  rw [l2, Zj3 c1]; exact ⟨c1, c2⟩
theorem Zri {x : List Ent} {f : Int} {n : Nat} (hf : f < n) (hk : xk (xa x n) = 1 \/ xk (xa x n) = 2 \/ xk (xa x n) = 7) : ¬ ZhL x f (n + 1 : Nat) = true := by
 unfold ZhL
 rw [Zj]
 rintro ⟨_, h⟩
 obtain ⟨a, b, c⟩ := h n hf (by omega)
 omega
theorem ZC7 {x : List Ent} {f : Int} {n : Nat} (hk : xk (xa x n) ≠ 1 /\ xk (xa x n) ≠ 2 /\ xk (xa x n) ≠ 7) : ZhL x f (n + 1 : Nat) = true ↔ ZhL x f n = true := by
 unfold ZhL
 rw [Zj, Zj]
 constructor
 ·rintro ⟨a, b⟩
  exact ⟨a, fun i h1 h2 => b i h1 (by omega)⟩
 ·rintro ⟨a, b⟩
  refine ⟨a, fun i h1 h2 => ?_⟩
  rcases ZPL i n with p | p
  ·exact b i h1 (by omega)
  ·rw [show i = n by omega]; exact hk
theorem Zjk {x : List Ent} {w : Int} {n : Nat} (hk : ¬ xk (xa x n) = 7) : (Zbs x w (n + 1)).2 = (Zbs x w n).2 := by
 rw [ZcT]
 split
 ·rfl
 ·split
  ·rfl
  ·rw [if_neg (fun q => hk q.1)]
theorem ZjQ {x : List Ent} {n : Nat} {L : List Tx} (hn : (L.map (·.who)).Nodup) (hk : ¬ xk (xa x n) = 7) {j : Nat} (hj : ixL (xw (xa x n)) L = j) (hjl : j < L.length) {t : Tx} (ht : t = ZhK (xw (xa x n)) (L.getD j tx0) n (xa x n)) : Adv x n L (L.set j t) := by
 refine ⟨List.length_set, fun i hi => ?_⟩
 have hwj : (L.getD j tx0).who = xw (xa x n) := by rw [<- hj] at hjl ⊢; exact ZaN hjl
 by_cases hij : j = i
 ·subst hij
  rw [ZPR, List.getElem?_set_self hjl, ZPM, hwj]; exact ht
 ·rw [ZPR, List.getElem?_set_ne hij, <- ZPR]
  unfold ZhK
  rw [if_neg hk, if_neg (fun q => hij (by rw [<- hj, q]; exact Zeo hn hi))]
theorem ZCW {x : List Ent} {n : Nat} {L : List Tx} (hk : ¬ xk (xa x n) = 7) (hx : ∀ j < L.length, (L.getD j tx0).who ≠ xw (xa x n)) : Adv x n L L := by
 refine ⟨rfl, fun i hi => ?_⟩
 unfold ZhK
 rw [if_neg hk, if_neg (fun q => hx i hi q.symm)]
theorem ZHj {x : List Ent} {n : Nat} {L : List Tx} (hk : xk (xa x n) = 7) : Adv x n L (L.map fun t => { t with opn := false }) := by
 refine ⟨ZP1 _, fun i hi => ?_⟩
 unfold ZhK
 rw [if_pos hk]
 have := Yv (L := L.map fun t => { t with opn := false }) (j := i) (by rw [ZP1]; exact hi)
 rw [this, List.getElem_map, Yv hi]
theorem ZuT {x : List Ent} {n : Nat} {B : Bk} (h : RI x n B) (hk : ¬ (xk (xa x n) = 2 /\ xw (xa x n) = 0)) : ∀ r, r ∈ B.out ↔ ∃ i < n + 1, xk (xa x i) = 2 /\ xw (xa x i) = 0 /\ r = (i : Int) :: nr (xa x i) := fun r =>
 (h.out r).trans ⟨fun ⟨i, hi, q⟩ => ⟨i, by omega, q⟩, fun ⟨i, hi, q⟩ => ⟨i, ZD1 hi (fun e => by rw [e] at q; exact hk ⟨q.1, q.2.1⟩), q⟩⟩
theorem ZC3 {L : List Tx} {k : Nat} : k ∈ Zm4 L 0 ↔ k < L.length /\ (L.getD k tx0).opn = true := by
 rw [<- ZdK, YL]
 simp [Zx]
set_option maxHeartbeats 1000000 in
theorem ZJ4 {x : List Ent} {n : Nat} {B : Bk} (h : RI x n B) (hwf : WfB B n) (hn : NF x n) (hm : ZbL (xa x n) = true) :
  (Zm5 x n = true -> Zag B n (xa x n) = B.flt n 1) /\ (Zm5 x n = false -> Znc x n = true -> Zag B n (xa x n) = B.flt n 2) /\ (Zm5 x n = false -> Znc x n = false -> RI x (n + 1) (Zag B n (xa x n))) := by
 generalize hj : ixL (xw (xa x n)) B.txs = j
 have hb := h.beg (xw (xa x n))
 rw [hj] at hb
 have hwho : j < B.txs.length -> (B.txs.getD j tx0).who = xw (xa x n) := fun hl => by rw [<- hj] at hl ⊢; exact ZaN hl
 have hop : j < B.txs.length -> (B.txs.getD j tx0).opn = (Zbs x (xw (xa x n)) n).1 := fun hl => by rw [h.tx j hl, ZvY, hwho hl]
 have hno : ¬ j < B.txs.length -> Zbs x (xw (xa x n)) n = (false, -1) := fun hl => Zyt (fun q => hl (hb.2 q))
 have hnone : ¬ j < B.txs.length -> ∀ i < B.txs.length, (B.txs.getD i tx0).who ≠ xw (xa x n) := fun hl i hi e => by
  have := Zeo hwf.nd hi
  rw [e, hj] at this; exact hl (by omega)
 have hstay : xk (xa x n) ≠ 1 -> xk (xa x n) ≠ 2 -> xk (xa x n) ≠ 7 -> ∀ i < B.txs.length, (i ∈ B.fal ↔ ZhL x (Zbs x (B.txs.getD i tx0).who (n + 1)).2 ((n + 1 : Nat) : Int) = true) := fun a b c i hi => by
  rw [Zjk c, ZC7 ⟨a, b, c⟩]; exact h.fal i hi
 have hot := ZuT h
 have hout := ZgI x n
 have hkinds : xk (xa x n) = 1 \/ xk (xa x n) = 2 \/ xk (xa x n) = 3 \/ xk (xa x n) = 4 \/ xk (xa x n) = 5 \/ xk (xa x n) = 6 \/ xk (xa x n) = 7 := by
  refine Classical.byContradiction fun q => ?_
  have hm := hm
  unfold ZbL at hm
  dsimp only at hm
  rw [if_neg (by omega), if_neg (by omega), if_neg (by omega), if_neg (by omega), if_neg (by omega), if_neg (by omega)] at hm
  cases hm
 have wro5 : ¬ xk (xa x n) = 5 -> Znc x n = false := fun hk => by unfold Znc; simp [hk]
 by_cases k1 : xk (xa x n) = 1
 ·rw [if_pos k1] at hout
  rw [hout, wro5 (by omega)]
  refine ⟨fun q => st1a hj k1 (hb.2 (by simpa using q)), fun _ q => (nomatch q), fun q _ => ?_⟩
  have hb0 : ¬ 0 <= Yl x 1 (xw (xa x n)) n := by simpa using q
  have hjl : ¬ j < B.txs.length := fun hl => hb0 (hb.1 hl)
  have hwp : 0 < xw (xa x n) := by
   have hm := hm; unfold ZbL at hm; simp [k1] at hm; exact hm.1.1.1.1
  have hjle : j = B.txs.length := by have := ZFk (xw (xa x n)) B.txs; omega
  rw [st1b hj k1 hjl]
  obtain ⟨l1, l2⟩ := Zmi (x := x) (n := n) (by omega)
  have gold : ∀ i < B.txs.length, (B.txs ++ [(⟨xw (xa x n), n, -1, true, [], [], []⟩ : Tx)]).getD i tx0 = B.txs.getD i tx0 := fun i hi => by
   rw [ZPR, ZP9 hi, <- ZPR]
  have gnew : (B.txs ++ [(⟨xw (xa x n), n, -1, true, [], [], []⟩ : Tx)]).getD B.txs.length tx0 = ⟨xw (xa x n), n, -1, true, [], [], []⟩ := by
   rw [ZPR, ZQa (ZPH _), Nat.sub_self]; rfl
  refine ⟨h.ft, h.wt, fun i hi => ?_, fun i hi => ?_, fun w => ?_, fun i hi => ?_, ?_, ?_, fun k hk => ?_, hot (by omega)⟩
  ·rw [ZPW, ZPF] at hi
   rcases ZPL i B.txs.length with p | p
   ·rw [gold i p, Zbi, <- h.tx i p]
    unfold ZhK
    rw [if_neg (by omega), if_neg (fun e => hnone hjl i p e.symm)]
   ·rw [show i = B.txs.length by omega, gnew, Zbi]
    unfold ZhK
    rw [if_neg (by omega), if_pos rfl, if_pos k1]
  ·rw [ZPW, ZPF] at hi
   rcases ZPL i B.txs.length with p | p
   ·rw [gold i p]; exact h.pos i p
   ·rw [show i = B.txs.length by omega, gnew]; exact hwp
  ·rw [ZPW, ZPF]
   have app : ∀ (L : List Tx) (t : Tx), ixL w (L ++ [t]) = if ixL w L < L.length then ixL w L else if t.who = w then L.length else L.length + 1 := by
    intro L t
    induction L with
    | nil =>
     show (bif t.who == w then 0 else 0 + 1) = _
     by_cases e : t.who = w
     ·simp [e, ixL]
     ·rw [show (t.who == w) = false from beq_eq_false_iff_ne.2 e, if_neg e]; rfl
    | cons s L ih =>
     show (bif s.who == w then 0 else ixL w (L ++ [t]) + 1) = if (bif s.who == w then 0 else ixL w L + 1) < L.length + 1 then (bif s.who == w then 0 else ixL w L + 1) else if t.who = w then L.length + 1 else L.length + 1 + 1
     cases s.who == w
     ·show ixL w (L ++ [t]) + 1 = if ixL w L + 1 < L.length + 1 then ixL w L + 1 else _
      rw [ih]
      repeat' split
      all_goals omega
     ·rfl
   show ixL w (B.txs ++ [_]) < _ ↔ _
   rw [app, Yk]
   have hbw := h.beg w
   by_cases q1 : ixL w B.txs < B.txs.length
   ·rw [if_pos q1, if_pos (hbw.1 q1)]
    exact ⟨fun _ => hbw.1 q1, fun _ => by omega⟩
   ·rw [if_neg q1, if_neg (fun q => q1 (hbw.2 q))]
    by_cases q2 : xw (xa x n) = w
    ·rw [if_pos q2, if_pos ⟨k1, q2⟩]
     exact ⟨fun _ => by omega, fun _ => by omega⟩
    ·rw [if_neg (show ¬ (⟨xw (xa x n), n, -1, true, [], [], []⟩ : Tx).who = w from q2), if_neg (fun q => q2 q.2)]
     exact ⟨fun _ => by omega, fun _ => by omega⟩
  ·rw [ZPW, ZPF] at hi
   have hf : ∀ w, ¬ ZhL x (Zbs x w (n + 1)).2 ((n + 1 : Nat) : Int) = true := fun w => Zri (by rw [Zjk (by omega)]; exact (Zir x w n).2) (.inl k1)
   exact ⟨fun q => (nomatch q), fun q => absurd q (hf _)⟩
  ·rw [l2, <- h.kep]
   apply List.map_congr_left
   intro k hk
   rw [gold k (hwf.ki k hk)]
  ·rw [l1]; exact h.len
  ·obtain ⟨c1, c2⟩ := h.com k hk
   rw [l2, Zj3 c1]; exact ⟨c1, c2⟩
 ·by_cases k2 : xk (xa x n) = 2
  ·rw [if_neg k1, if_pos k2] at hout
   rw [hout, wro5 (by omega)]
   by_cases hw0 : xw (xa x n) = 0
   ·rw [hw0]
    refine ⟨fun q => by simp at q, fun _ q => (nomatch q), fun _ _ => ?_⟩
    rw [st2a hj k2 hw0]
    refine h.adv h.ft h.wt (ZCW (by omega) (fun i hi e => by have := h.pos i hi; omega)) k1 (by omega) rfl (fun i hi => ⟨fun q => (nomatch q), fun q => absurd q (Zri (by rw [Zjk (by omega)]; exact (Zir x _ n).2) (.inr (.inl k2)))⟩) (fun r => ?_) hwf.ki
    show r ∈ B.out ++ [_] ↔ _
    rw [ZQc, h.out r, ZPK]
    constructor
    ·rintro (⟨i, hi, q⟩ | rfl)
     ·exact ⟨i, by omega, q⟩
     ·exact ⟨n, by omega, k2, hw0, rfl⟩
    ·rintro ⟨i, hi, q⟩
     rcases ZPL i n with p | p
     ·exact .inl ⟨i, p, q⟩
     ·right; rw [q.2.2, show i = n by omega]
   ·have hwp : 0 < xw (xa x n) := by
     have hm := hm; unfold ZbL at hm; simp [k2] at hm; have := hm.1.1.1; omega
    have hd : decide (0 < xw (xa x n)) = true := by simpa using hwp
    rw [hd, Bool.true_and]
    refine ⟨fun q => ?_, fun _ q => (nomatch q), fun q _ => ?_⟩
    ·have q : (Zbs x (xw (xa x n)) n).1 = false := by simpa using q
     exact st2c hj k2 hw0 (fun hl => by rw [hop hl]; exact q)
    ·have q : (Zbs x (xw (xa x n)) n).1 = true := by simpa using q
     have hl : j < B.txs.length := Classical.byContradiction fun hl => by rw [hno hl] at q; cases q
     rw [st2b hj k2 hw0 hl (by rw [hop hl]; exact q)]
     refine h.adv h.ft h.wt (ZjQ hwf.nd (by omega) hj hl ?_) k1 (by omega) rfl (fun i hi => ⟨fun q => (nomatch q), fun q => absurd q (Zri (by rw [Zjk (by omega)]; exact (Zir x _ n).2) (.inr (.inl k2)))⟩) (hot (fun e => hw0 e.2)) hwf.ki
     unfold ZhK
     rw [if_neg (by omega), if_pos rfl, if_neg k1, if_pos k2]
  ·by_cases k3 : xk (xa x n) = 3 \/ xk (xa x n) = 4
   ·rw [if_neg k1, if_neg k2, if_pos (by omega)] at hout
    rw [hout, wro5 (by omega)]
    refine ⟨fun q => ?_, fun _ q => (nomatch q), fun q _ => ?_⟩
    ·have q : (Zbs x (xw (xa x n)) n).1 = false := by simpa using q
     exact ZOv hj k3 (fun hl => by rw [hop hl]; exact q)
    ·have q : (Zbs x (xw (xa x n)) n).1 = true := by simpa using q
     have hl : j < B.txs.length := Classical.byContradiction fun hl => by rw [hno hl] at q; cases q
     rw [st3a hj k3 hl (by rw [hop hl]; exact q)]
     refine h.adv h.ft h.wt (ZjQ hwf.nd (by omega) hj hl ?_) k1 (by omega) rfl (hstay k1 k2 (by omega)) (hot (by omega)) hwf.ki
     unfold ZhK
     rw [if_neg (by omega), if_pos rfl, if_neg k1, if_neg k2, if_pos k3]
   ·by_cases k6 : xk (xa x n) = 6
    ·rw [if_neg k1, if_neg k2, if_pos (by omega)] at hout
     rw [hout, wro5 (by omega)]
     refine ⟨fun q => ?_, fun _ q => (nomatch q), fun q _ => ?_⟩
     ·have q : (Zbs x (xw (xa x n)) n).1 = false := by simpa using q
      exact st6b hj k6 (fun hl => by rw [hop hl]; exact q)
     ·have q : (Zbs x (xw (xa x n)) n).1 = true := by simpa using q
      have hl : j < B.txs.length := Classical.byContradiction fun hl => by rw [hno hl] at q; cases q
      rw [st6a hj k6 hl (by rw [hop hl]; exact q)]
      refine h.adv h.ft h.wt (ZjQ hwf.nd (by omega) hj hl ?_) k1 (by omega) rfl (hstay k1 k2 (by omega)) (hot (by omega)) hwf.ki
      unfold ZhK
      rw [if_neg (by omega), if_pos rfl, if_neg k1, if_neg k2, if_neg k3, if_pos k6]
    ·by_cases k7 : xk (xa x n) = 7
     ·rw [if_neg k1, if_neg k2, if_neg (by omega), if_neg (by omega)] at hout
      rw [hout, wro5 (by omega)]
      refine ⟨fun q => (nomatch q), fun _ q => (nomatch q), fun _ _ => ?_⟩
      rw [st7 hj k7]
      refine h.adv h.ft h.wt (ZHj k7) k1 (by omega) rfl (fun i hi => ?_) (hot (by omega)) hwf.ki
      show i ∈ Zm4 B.txs 0 ↔ _
      rw [ZC3]
      have ho : (B.txs.getD i tx0).opn = (Zbs x (B.txs.getD i tx0).who n).1 := by rw [h.tx i hi, ZvY, ZFn]
      rw [ho, ZcT, if_neg (by omega), if_neg (by omega)]
      by_cases q : (Zbs x (B.txs.getD i tx0).who n).1 = true
      ·rw [if_pos ⟨k7, q⟩]
       refine ⟨fun _ => ?_, fun _ => ⟨hi, q⟩⟩
       unfold ZhL
       rw [Zj]
       exact ⟨by show (0 : Int) <= n; omega, fun a h1 h2 => by have h1 : (n : Int) < a := h1; omega⟩
      ·rw [if_neg (fun e => q e.2)]
       exact ⟨fun e => absurd e.2 q, fun e => absurd e (Zri (Zir x _ n).2 (.inr (.inr k7)))⟩
     ·have k5 : xk (xa x n) = 5 := by omega
      rw [if_neg k1, if_neg k2, if_neg (by omega), if_pos k5] at hout
      have hwp : 0 < xw (xa x n) := by
       have hm := hm; unfold ZbL at hm; simp [k5] at hm; exact hm.1.1.1.1.1
      have hcom : j < B.txs.length -> (B.txs.getD j tx0).com = Yl x 5 (xw (xa x n)) n := fun hl => by rw [h.tx j hl, hwho hl, Zgn hwp hn]
      have hfal : j < B.txs.length -> (j ∈ B.fal ↔ ZhL x (Zbs x (xw (xa x n)) n).2 n = true) := fun hl => by have := h.fal j hl; rw [hwho hl] at this; exact this
      have hwro : Znc x n = !decide (xt (xa x n) = B.kept.length + 1) := by unfold Znc; rw [h.len]; simp [k5]
      have good : Zm5 x n = false -> j < B.txs.length /\ ((j < B.txs.length /\ (B.txs.getD j tx0).opn = true) \/ j ∈ B.fal) /\ (B.txs.getD j tx0).com < 0 := fun q => by
       rw [hout, Bool.or_eq_false_iff] at q
       obtain ⟨q1, q2⟩ := q
       have q2 : ¬ 0 <= Yl x 5 (xw (xa x n)) n := by simpa using q2
       have hl : j < B.txs.length := Classical.byContradiction fun hl => by
        rw [hno hl] at q1
        have : ZhL x (-1) n = false := by rw [Zhq]; rfl
        simp [this] at q1
       refine ⟨hl, ?_, by rw [hcom hl]; omega⟩
       rw [hop hl, hfal hl]
       cases ho : (Zbs x (xw (xa x n)) n).1
       ·right
        rw [ho] at q1; simpa using q1
       ·exact .inl ⟨hl, rfl⟩
      refine ⟨fun q => ?_, fun q r => ?_, fun q r => ?_⟩
      ·refine ZLG hj k5 ?_
       rw [hout, Bool.or_eq_true] at q
       rcases q with q | q
       ·left
        simp only [Bool.and_eq_true, ZPQ] at q
        refine ⟨fun hl => by rw [hop hl]; exact q.1, fun hm => ?_⟩
        have hl := hwf.fi j hm
        rw [(hfal hl).1 hm] at q; cases q.2
       ·have q : 0 <= Yl x 5 (xw (xa x n)) n := by simpa using q
        by_cases hl : j < B.txs.length
        ·right; rw [hcom hl]; exact q
        ·left
         exact ⟨fun e => absurd e hl, fun hm => hl (hwf.fi j hm)⟩
      ·obtain ⟨_, g2, g3⟩ := good q
       rw [hwro] at r
       exact st5b hj k5 g2 g3 (by simpa using r)
      ·obtain ⟨hl, g2, g3⟩ := good q
       rw [hwro] at r
       have r : xt (xa x n) = B.kept.length + 1 := by simpa using r
       rw [st5c hj k5 g2 g3 r]
       have ha : Adv x n B.txs (B.txs.set j { B.txs.getD j tx0 with opn := false, com := n }) := ZjQ hwf.nd (by omega) hj hl (by
        unfold ZhK
        rw [if_neg (by omega), if_pos rfl, if_neg k1, if_neg k2, if_neg k3, if_neg k6, if_pos k5])
       have hlen : ZxY x (n + 1) = xt (xa x n) := by show (if _ then _ else _) = _; rw [if_pos k5]
       have hk' : ZM x (n + 1) = ZM x n ++ [xw (xa x n)] := by rw [ZbF, if_pos k5]
       have hkl : (ZM x n).length = B.kept.length := by rw [<- h.kep, ZP1]
       refine ⟨h.ft, h.wt, fun i hi => ?_, fun i hi => ?_, fun w => ?_, fun i hi => ?_, ?_, ?_, fun k hk => ?_, hot (by omega)⟩
       ·rw [ha.len] at hi
        rw [ha.who hi, Zbi, <- h.tx i hi]; exact ha.get i hi
       ·rw [ha.len] at hi
        rw [ha.who hi]; exact h.pos i hi
       ·rw [Zx1 ha.map, ha.len, Zgq (fun e => k1 e.1)]; exact h.beg w
       ·rw [ha.len] at hi
        rw [ha.who hi]; exact hstay k1 k2 k7 i hi
       ·show (B.kept ++ [j]).map _ = _
        rw [ZP7, hk', <- h.kep, List.map_singleton, ha.who hl, hwho hl]
        congr 1
        apply List.map_congr_left
        intro k hk
        exact ha.who (hwf.ki k hk)
       ·show _ = (((B.kept ++ [j]).length : Nat) : Int)
        rw [hlen, r, ZPW, ZPF]; omega
       ·have hk : k < (B.kept ++ [j]).length := hk
        rw [ZPW, ZPF] at hk
        rw [hk']
        rcases ZPL k B.kept.length with p | p
        ·have e : (ZM x n ++ [xw (xa x n)]).getD k 0 = (ZM x n).getD k 0 := by
          rw [ZPR, ZP9 (by omega), <- ZPR]
         obtain ⟨c1, c2⟩ := h.com k p
         rw [e, Zj3 c1]; exact ⟨c1, c2⟩
        ·have e : (ZM x n ++ [xw (xa x n)]).getD k 0 = xw (xa x n) := by
          rw [ZPR, ZQa (by omega), show k - (ZM x n).length = 0 by omega]; rfl
         rw [hcom hl] at g3
         rw [e, Yk, if_neg (by omega), if_pos ⟨k5, rfl⟩, ZPY]
         exact ⟨by omega, by omega⟩
theorem ZqB (x : List Ent) : ∀ n : Nat, (∀ i < n, ZbL (xa x i) = true) -> (NF x n -> RI x n (Z7 x n)) /\ (0 <= (ZcO x n).1 -> (Z7 x n).fault = (ZcO x n).1 /\ (Z7 x n).what = (ZcO x n).2)
 | 0, _ => by
  refine ⟨fun _ => ⟨rfl, rfl, fun j hj => absurd hj (Nat.not_lt_zero j), fun j hj => absurd hj (Nat.not_lt_zero j), fun w => ⟨fun h => absurd h (Nat.not_lt_zero _), fun h => absurd h (by show ¬ (0 : Int) <= -1; omega)⟩, fun j hj => absurd hj (Nat.not_lt_zero j), rfl, rfl,
   fun k hk => absurd hk (Nat.not_lt_zero k), fun r => ⟨fun h => (nomatch h), fun ⟨i, hi, _⟩ => absurd hi (Nat.not_lt_zero i)⟩⟩, fun h => absurd h (by show ¬ (0 : Int) <= -1; omega)⟩
 | n + 1, hm => by
  obtain ⟨i1, i2⟩ := ZqB x n (fun i hi => hm i (by omega))
  have e : Z7 x (n + 1) = if 0 <= (Z7 x n).fault then Z7 x n else Zag (Z7 x n) n (xa x n) := rfl
  by_cases h0 : 0 <= (ZcO x n).1
  ·have := i2 h0
   rw [e, if_pos (by rw [this.1]; exact h0), Zb2, if_pos h0]
   refine ⟨fun q => absurd (show 0 <= (ZcO x (n + 1)).1 by rw [Zb2, if_pos h0]; exact h0) q.1, fun _ => this⟩
  ·have hn : NF x n := ⟨h0, fun i hi => hm i (by omega)⟩
   have ri := i1 hn
   obtain ⟨s1, s2, s3⟩ := ZJ4 ri (ZiA x n) hn (hm n (by omega))
   rw [e, if_neg (by rw [ri.ft]; omega)]
   refine ⟨fun q => s3 q.pred.2.1 q.pred.2.2.1, ?_⟩
   rw [Zb2, if_neg h0]
   by_cases ho : Zm5 x n = true
   ·rw [if_pos ho, s1 ho]; exact fun _ => ⟨rfl, rfl⟩
   ·rw [if_neg ho]
    have ho : Zm5 x n = false := by simpa using ho
    by_cases hw : Znc x n = true
    ·rw [if_pos hw, s2 ho hw]; exact fun _ => ⟨rfl, rfl⟩
    ·rw [if_neg hw]; exact fun q => absurd q (by show ¬ (0 : Int) <= -1; omega)
theorem YC.congr {F G : Int -> Int -> Prop} {n : Int} {s : Int × Int} (h : YC F n s) (e : ∀ i r, F i r ↔ G i r) : YC G n s := by
 have : F = G := by funext i r; exact propext (e i r)
 rw [<- this]; exact h
theorem YC.note {F : Int -> Int -> Prop} {n : Int} {s : Int × Int} (h : YC F n s) {i0 r0 : Int} (hi : i0 < n) (hr : r0 ≠ 0) : YC (fun i r => F i r \/ (i = i0 /\ r = r0)) n (Zd6 s i0 r0) := by
 unfold Zd6
 rcases h with ⟨rfl, hno⟩ | ⟨h1, h2, h3⟩
 ·rw [if_pos hi]
  exact .inr ⟨hr, .inr ⟨rfl, rfl⟩, fun i r q => by
   rcases q with q | q
   ·exact absurd q (hno i r)
   ·rw [q.1]; exact ZP2 _⟩
 ·split
  ·rename_i q
   refine .inr ⟨hr, .inr ⟨rfl, rfl⟩, fun i r q2 => ?_⟩
   show i0 <= i
   rcases q2 with q2 | q2
   ·have := h3 i r q2; omega
   ·omega
  ·rename_i q
   refine .inr ⟨h1, .inl h2, fun i r q2 => ?_⟩
   rcases q2 with q2 | q2
   ·exact h3 i r q2
   ·omega
theorem Zqd {F : Int -> Int -> Prop} {n : Int} {s : Int × Int} (h : YC F n s) (l : List Int) (hl : ∀ i ∈ l, i < n) : ∀ m ≤ l.length, YC (fun i r => F i r \/ (r = 3 /\ i ∈ l.take m)) n (ZGF s l m)
 | 0, _ => h.congr fun i r => by simp
 | m + 1, hm => by
  have ih := Zqd h l hl m (by omega)
  have hlt : m < l.length := by omega
  have e : l.getD m 0 = l[m] := by rw [ZPR, ZPU hlt, ZPM]
  have := ih.note (i0 := l.getD m 0) (r0 := 3) (hl _ (by rw [e]; exact ZQe hlt)) (by decide)
  refine this.congr fun i r => ?_
  rw [<- List.take_append_getElem hlt, ZQc, ZPK, e]
  constructor
  ·rintro ((a | ⟨a, b⟩) | ⟨a, b⟩)
   ·exact .inl a
   ·exact .inr ⟨a, .inl b⟩
   ·exact .inr ⟨b, .inr a⟩
  ·rintro (a | ⟨a, b | b⟩)
   ·exact .inl (.inl a)
   ·exact .inl (.inr ⟨a, b⟩)
   ·exact .inr ⟨b, a⟩
theorem ZpR {F : Int -> Int -> Prop} {n : Int} {s : Int × Int} (h : YC F n s) (f : Ent -> Bool) (l : List (List Int)) (hl : ∀ r ∈ l, g0 r < n) : ∀ m ≤ l.length, YC (fun i r => F i r \/ (r = 4 /\ ∃ R ∈ l.take m, i = g0 R /\ f (R.drop 1) = false)) n (Zke f s l m)
 | 0, _ => h.congr fun i r => by simp
 | m + 1, hm => by
  have ih := ZpR h f l hl m (by omega)
  have hlt : m < l.length := by omega
  have e : l.getD m [] = l[m] := by rw [ZPR, ZPU hlt, ZPM]
  have e2 := (List.take_append_getElem hlt).symm
  unfold Zke
  rw [e]
  split
  ·rename_i q
   refine ih.congr fun i r => ?_
   rw [e2]
   constructor
   ·rintro (a | ⟨a, R, hR, b⟩)
    ·exact .inl a
    ·exact .inr ⟨a, R, List.mem_append.2 (.inl hR), b⟩
   ·rintro (a | ⟨a, R, hR, b⟩)
    ·exact .inl a
    ·rcases List.mem_append.1 hR with hR | hR
     ·exact .inr ⟨a, R, hR, b⟩
     ·rw [List.mem_singleton.1 hR, q] at b; cases b.2
  ·rename_i q
   have q : f ((l[m]).drop 1) = false := by simpa using q
   have := ih.note (i0 := g0 l[m]) (r0 := 4) (hl _ (ZQe hlt)) (by decide)
   refine this.congr fun i r => ?_
   rw [e2]
   constructor
   ·rintro ((a | ⟨a, R, hR, b⟩) | ⟨a, b⟩)
    ·exact .inl a
    ·exact .inr ⟨a, R, List.mem_append.2 (.inl hR), b⟩
    ·exact .inr ⟨b, l[m], List.mem_append.2 (.inr (List.mem_singleton.2 rfl)), a, q⟩
   ·rintro (a | ⟨a, R, hR, b⟩)
    ·exact .inl (.inl a)
    ·rcases List.mem_append.1 hR with hR | hR
     ·exact .inl (.inr ⟨a, R, hR, b⟩)
     ·rw [List.mem_singleton.1 hR] at b; exact .inr ⟨b.1, a⟩
theorem ZkC {f : Ent -> Bool} {L : List (List Int)} {place N : Int} (hs : L.Pairwise fun a b => g0 a <= g0 b) (hN : ∀ q < L.length, g0 (L.getD q []) < N) :
  ∀ (n p : Nat) {F : Int -> Int -> Prop} {s : Int × Int}, n = L.length - p -> p <= L.length -> YC F N s →
  p <= (Ztz f L place n p s).1 /\ (Ztz f L place n p s).1 <= L.length /\ (∀ q, p <= q -> q < (Ztz f L place n p s).1 -> g0 (L.getD q []) < place) /\ (∀ q, (Ztz f L place n p s).1 <= q -> q < L.length -> place <= g0 (L.getD q [])) ∧
  YC (fun i r => F i r \/ (r = 4 /\ ∃ q, p <= q /\ q < (Ztz f L place n p s).1 /\ i = g0 (L.getD q []) /\ f ((L.getD q []).drop 1) = false)) N (Ztz f L place n p s).2
 | 0, p, F, s, hn, hp, h => ⟨ZPH _, hp, fun q a b => absurd b (Nat.not_lt.2 a), fun q a b => by have a : p <= q := a; omega, h.congr fun i r => ⟨.inl, fun q => by
   rcases q with q | ⟨_, q, a, b, _⟩
   ·exact q
   ·have b : q < p := b; omega⟩⟩
 | n + 1, p, F, s, hn, hp, h => by
  unfold Ztz
  by_cases q : p < L.length /\ g0 (L.getD p []) < place
  ·rw [if_pos q]
   have hF : YC (fun i r => F i r \/ (r = 4 /\ i = g0 (L.getD p []) /\ f ((L.getD p []).drop 1) = false)) N (if f ((L.getD p []).drop 1) = true then s else Zd6 s (g0 (L.getD p [])) 4) := by
    split
    ·rename_i t
     exact h.congr fun i r => ⟨.inl, fun q => by
      rcases q with q | ⟨_, _, q⟩
      ·exact q
      ·rw [t] at q; cases q⟩
    ·rename_i t
     have t : f ((L.getD p []).drop 1) = false := by simpa using t
     exact (h.note (hN p q.1) (by decide)).congr fun i r => ⟨fun q => by
      rcases q with q | ⟨a, b⟩
      ·exact .inl q
      ·exact .inr ⟨b, a, t⟩, fun q => by
      rcases q with q | ⟨a, b, _⟩
      ·exact .inl q
      ·exact .inr ⟨b, a⟩⟩
   obtain ⟨a1, a2, a3, a4, a5⟩ := ZkC (f := f) (place := place) hs hN n (p + 1) (by omega) (by omega) hF
   generalize Ztz f L place n (p + 1) _ = e at *
   refine ⟨by omega, a2, fun t h1 h2 => ?_, a4, a5.congr fun i r => ?_⟩
   ·by_cases hte : t = p
    ·rw [hte]; exact q.2
    ·exact a3 t (by omega) h2
   ·constructor
    ·rintro ((b | ⟨b, c, d⟩) | ⟨b, t, c, d, g⟩)
     ·exact .inl b
     ·exact .inr ⟨b, p, ZPH _, by omega, c, d⟩
     ·exact .inr ⟨b, t, by omega, d, g⟩
    ·rintro (b | ⟨b, t, c, d, g⟩)
     ·exact .inl (.inl b)
     ·by_cases hte : t = p
      ·rw [hte] at g; exact .inl (.inr ⟨b, g⟩)
      ·exact .inr ⟨b, t, by omega, d, g⟩
  ·rw [if_neg q]
   refine ⟨ZPH _, hp, fun t a b => absurd b (Nat.not_lt.2 a), fun t a b => ?_, h.congr fun i r => ⟨.inl, fun q => by
    rcases q with q | ⟨_, t, a, b, _⟩
    ·exact q
    ·have b : t < p := b; omega⟩⟩
   have a : p <= t := a
   have hp2 : p < L.length := by omega
   have h0 : place <= g0 (L.getD p []) := by
    by_cases z : g0 (L.getD p []) < place
    ·exact absurd ⟨hp2, z⟩ q
    ·omega
   by_cases hte : t = p
   ·rw [hte]; exact h0
   ·have := (List.pairwise_iff_getElem.1 hs) p t hp2 b (by omega)
    rw [ZPR, ZPU hp2, ZPM] at h0
    rw [ZPR, ZPU b, ZPM]
    omega
/-! ### What stands, and what the reference lets stand -/
theorem ZfI (x : List Ent) {m n : Nat} (h : m <= n) : (ZM x m).length <= (ZM x n).length /\ ∀ i < (ZM x m).length, (ZM x n).getD i 0 = (ZM x m).getD i 0 := by
 induction n with
 | zero => rw [show m = 0 by omega]; exact ⟨ZPH _, fun i _ => rfl⟩
 | succ n ih =>
  rcases ZPL m (n + 1) with p | p
  ·obtain ⟨a, b⟩ := ih (by omega)
   rw [ZbF]
   split
   ·refine ⟨by rw [ZPW]; omega, fun i hi => ?_⟩
    rw [ZPR, ZP9 (by omega), <- ZPR]; exact b i hi
   ·exact ⟨a, b⟩
  ·rw [show m = n + 1 by omega]; exact ⟨ZPH _, fun i _ => rfl⟩
theorem Zo6 (x : List Ent) {ks ls : List Int} (key : List UInt8) : ∀ k : Nat, (∀ i < k, ks.getD i 0 = ls.getD i 0) -> Zch x ks key k = Zch x ls key k
 | 0, _ => rfl
 | k + 1, h => by
  rw [Zc4, Zc4, h k (by omega), Zo6 x key k (fun i hi => h i (by omega))]
structure Go (x : List Ent) (B : Bk) : Prop where
 nf : NF x x.length
 ri : RI x x.length B
 wf : WfB B x.length
theorem Go.may {x : List Ent} {B : Bk} (h : Go x B) (n : Nat) (hn : n < x.length) : ZbL (xa x n) = true := h.nf.2 n hn
theorem Go.tx {x : List Ent} {B : Bk} (h : Go x B) {t : Tx} (ht : t ∈ B.txs) : t = txN x t.who x.length /\ 0 < t.who := by
 obtain ⟨j, hj, rfl⟩ := List.getElem_of_mem ht
 have a := h.ri.tx j hj
 have b := h.ri.pos j hj
 rw [Yv hj] at a b
 exact ⟨a, b⟩
theorem Go.kw {x : List Ent} {B : Bk} (h : Go x B) {k : Nat} (hk : k < B.kept.length) : B.kept.getD k 0 < B.txs.length /\ (B.txs.getD (B.kept.getD k 0) tx0).who = (ZM x x.length).getD k 0 := by
 have e : B.kept.getD k 0 = B.kept[k] := by rw [ZPR, ZPU hk, ZPM]
 refine ⟨by rw [e]; exact h.wf.ki _ (ZQe hk), ?_⟩
 rw [<- h.ri.kep, ZPR (l := B.kept.map _), ZPN, ZPU hk, e]; rfl
theorem Go.kt {x : List Ent} {B : Bk} (h : Go x B) {k : Nat} (hk : k < B.kept.length) : B.txs.getD (B.kept.getD k 0) tx0 ∈ B.txs := by
 have := (h.kw hk).1
 rw [Yv this]; exact ZQe this
theorem ZqS {x : List Ent} {B : Bk} (h : Go x B) (key : List UInt8) : ∀ k ≤ B.kept.length,
  (stF B k (Zr key : Nat) = (false, vw 0) /\ Zch x (ZM x x.length) key k = ([], false)) \/ (stF B k (Zr key : Nat) = (true, Zch x (ZM x x.length) key k) /\ ((Zch x (ZM x x.length) key k).2 = false -> (Zch x (ZM x x.length) key k).1 = []))
 | 0, _ => .inl ⟨rfl, rfl⟩
 | k + 1, hk => by
  have ih := ZqS h key k (by omega)
  obtain ⟨t1, t2⟩ := h.tx (h.kt (k := k) (by omega))
  have hw := (h.kw (k := k) (by omega)).2
  have hc := ZvV t2 h.nf key
  rw [<- t1, hw] at hc
  have e1 : stF B (k + 1) (Zr key : Nat) = if Zx (B.txs.getD (B.kept.getD k 0) tx0).ch (Zr key : Nat) = true then (true, vw (YB 0 (B.txs.getD (B.kept.getD k 0) tx0).ch (Zr key : Nat))) else stF B k (Zr key : Nat) := rfl
  rw [e1, Zc4, hc.1]
  by_cases hl : 0 <= YF x ((ZM x x.length).getD k 0) key x.length
  ·rw [if_pos hl, if_pos (decide_eq_true hl), hc.2 hl]
   refine .inr ⟨rfl, fun q => ?_⟩
   obtain ⟨l1, _, l3⟩ := Zr0 x ((ZM x x.length).getD k 0) key x.length
   have q : ¬ xk (xa x (YF x ((ZM x x.length).getD k 0) key x.length).toNat) = 3 := by simpa using q
   exact Zpi (h.may _ (by omega)) (by have := l3 hl; omega)
  ·rw [if_neg hl, if_neg (fun q => hl (of_decide_eq_true q))]; exact ih
theorem ZDR {x : List Ent} {B : Bk} (h : Go x B) {k : Nat} (hk : k <= B.kept.length) {r : Ent} (hm : ZbL r = true) (h2 : xk r = 2) :
  Z2 (stF B k) r = ((Zcb r == (Zch x (ZM x x.length) (ZY r) k).2) && (Zao r == (Zch x (ZM x x.length) (ZY r) k).1)) := by
 have hs := ZqS h (ZY r) k hk
 unfold Z2
 show ((Zcb r == ((stF B k (Zr (ZY r) : Nat)).1 && (stF B k (Zr (ZY r) : Nat)).2.2)) && (!Zcb r || Zao r == (stF B k (Zr (ZY r) : Nat)).2.1)) = _
 cases hh : Zcb r
 ·have hv := Zog hm (.inl h2) hh
  rcases hs with ⟨a, b⟩ | ⟨a, b⟩
  ·rw [a, b, hv]; rfl
  ·rw [a, hv]
   generalize Zch x (ZM x x.length) (ZY r) k = v at *
   cases hv2 : v.2
   ·rw [b hv2]; rfl
   ·rfl
 ·rcases hs with ⟨a, b⟩ | ⟨a, b⟩
  ·rw [a, b]; rfl
  ·rw [a]; simp
theorem Za6 (f : Int -> Bool × (List UInt8 × Bool)) (r : Ent) : Z2 f (nr r) = Z2 f r := by unfold Z2; rw [ZJ2, ZgH, Zg3]
theorem Zyi {x : List Ent} {w : Int} : ∀ {n : Nat}, 0 <= Yl x 5 w n -> w ∈ ZM x n
 | 0, h => absurd h (by show ¬ (0 : Int) <= -1; omega)
 | n + 1, h => by
  rw [ZbF]
  rw [Yk] at h
  by_cases h0 : 0 <= Yl x 5 w n
  ·have := Zyi h0
   split
   ·exact List.mem_append.2 (.inl this)
   ·exact this
  ·rw [if_neg h0] at h
   by_cases h1 : xk (xa x n) = 5 /\ xw (xa x n) = w
   ·rw [if_pos h1.1, h1.2]; simp
   ·rw [if_neg h1] at h; exact absurd h (by omega)
def looF (x : List Ent) (B : Bk) (i r : Int) : Prop := r = 4 /\ ∃ R ∈ ZnN B [], i = g0 R /\ Z2 (stF B (ZM x i.toNat).length) (R.drop 1) = false
def kepF (B : Bk) (k : Nat) (i r : Int) : Prop := r = 4 /\ ∃ k' < k, ∃ R ∈ (B.txs.getD (B.kept.getD k' 0) tx0).rds, i = g0 R /\ Z2 (stF B k') (R.drop 1) = false
def refF (x : List Ent) (i r : Int) : Prop := ∃ n : Nat, n < x.length /\ i = n /\ xk (xa x n) = 2 /\ (ZhN x n (ZM x (ZkL x n))).1 = false /\ r = (ZhN x n (ZM x (ZkL x n))).2
theorem Zjz {B : Bk} {R : Ent} : R ∈ ZnN B [] ↔ R ∈ B.out \/ ∃ t ∈ B.txs, t.com < 0 /\ R ∈ t.rds := by
 unfold ZnN
 rw [ZQc, List.mem_flatMap]
 constructor
 ·rintro (a | ⟨t, a, b⟩)
  ·exact .inl a
  ·rw [List.mem_filter] at a
   exact .inr ⟨t, a.1, by simpa [Zx] using a.2, b⟩
 ·rintro (a | ⟨t, a, b, c⟩)
  ·exact .inl a
  ·exact .inr ⟨t, List.mem_filter.2 ⟨a, by simpa [Zx] using b⟩, c⟩
theorem ZbJ {x : List Ent} {B : Bk} (h : Go x B) : (ZM x x.length).length = B.kept.length := by rw [<- h.ri.kep, ZP1]
theorem ZEo {x : List Ent} {B : Bk} (h : Go x B) {n m k : Nat} (hn : n < x.length) (h2 : xk (xa x n) = 2) (hno : ¬ (0 <= YF x (xw (xa x n)) (ZY (xa x n)) n /\ 0 < xw (xa x n))) (hm : m <= x.length) (hk : (ZM x m).length = k) :
  ZhN x n (ZM x m) = (Z2 (stF B k) (xa x n), 4) := by
 have hkm := ZfI x hm
 rw [ZFT, if_neg hno, ZDR h (by rw [<- hk, <- ZbJ h]; exact hkm.1) (h.may n hn) h2, hk]
 rw [Zo6 x (ZY (xa x n)) k (ks := ZM x m) (ls := ZM x x.length) (fun i hi => (hkm.2 i (by omega)).symm)]
theorem ZLK {x : List Ent} {n : Nat} {ks : List Int} (h : 0 <= YF x (xw (xa x n)) (ZY (xa x n)) n /\ 0 < xw (xa x n)) : ZhN x n ks = (ZGw x n, 3) := by
 rw [ZFT, if_pos h]; rfl
theorem ZtF {x : List Ent} {w : Int} {n : Nat} : (Yl x 5 w n).toNat <= n := by have := (Zcy x 5 w n).2.1; omega
theorem ZKA {x : List Ent} {B : Bk} (h : Go x B) (i r : Int) : (ZCy B [] i r \/ looF x B i r \/ kepF B B.kept.length i r) ↔ refF x i r := by
 constructor
 ·rintro (⟨rfl, t, ht, _, hi⟩ | ⟨rfl, R, hR, hi, hs⟩ | ⟨rfl, k, hk, R, hR, hi, hs⟩)
  ·obtain ⟨t1, t2⟩ := h.tx ht
   rw [t1] at hi
   obtain ⟨n, a, b, c, d, e, f⟩ := ((Zd8 t2 h.nf).2 i).1 hi
   have hh : 0 <= YF x (xw (xa x n)) (ZY (xa x n)) n /\ 0 < xw (xa x n) := by rw [c]; exact ⟨d, t2⟩
   refine ⟨n, a, f, b, ?_, ?_⟩
   ·rw [ZLK hh]; exact e
   ·rw [ZLK hh]
  ·rcases Zjz.1 hR with hR | ⟨t, ht, hc, hR⟩
   ·obtain ⟨n, a, b, c, rfl⟩ := (h.ri.out R).1 hR
    have hi : i = n := hi
    subst hi
    rw [ZPY] at hs
    have hno : ¬ (0 <= YF x (xw (xa x n)) (ZY (xa x n)) n /\ 0 < xw (xa x n)) := by omega
    have he : ZkL x n = n := by rw [Zia, if_neg (by omega)]
    refine ⟨n, a, rfl, b, ?_, ?_⟩
    ·rw [he, ZEo h a b hno (by omega) rfl, <- Za6]; exact hs
    ·rw [he, ZEo h a b hno (by omega) rfl]
   ·obtain ⟨t1, t2⟩ := h.tx ht
    rw [t1] at hR
    obtain ⟨n, a, b, c, d, rfl⟩ := ((Zd8 t2 h.nf).1 R).1 hR
    have hi : i = n := hi
    subst hi
    rw [ZPY] at hs
    have hno : ¬ (0 <= YF x (xw (xa x n)) (ZY (xa x n)) n /\ 0 < xw (xa x n)) := by rw [c]; omega
    have hcom := Zgn t2 h.nf
    rw [<- t1] at hcom
    have he : ZkL x n = n := by rw [Zia, c, if_pos t2, <- hcom, if_neg (by omega)]
    refine ⟨n, a, rfl, b, ?_, ?_⟩
    ·rw [he, ZEo h a b hno (by omega) rfl, <- Za6]; exact hs
    ·rw [he, ZEo h a b hno (by omega) rfl]
  ·obtain ⟨t1, t2⟩ := h.tx (h.kt hk)
   have hw := (h.kw hk).2
   obtain ⟨c1, c2⟩ := h.ri.com k hk
   rw [<- hw] at c1 c2
   generalize (B.txs.getD (B.kept.getD k 0) tx0) = t at *
   rw [t1] at hR
   obtain ⟨n, a, b, c, d, rfl⟩ := ((Zd8 t2 h.nf).1 R).1 hR
   have hi : i = n := hi
   subst hi
   have hno : ¬ (0 <= YF x (xw (xa x n)) (ZY (xa x n)) n /\ 0 < xw (xa x n)) := by rw [c]; omega
   have he : ZkL x n = (Yl x 5 t.who x.length).toNat := by rw [Zia, c, if_pos t2, if_pos c1]
   refine ⟨n, a, rfl, b, ?_, ?_⟩
   ·rw [he, ZEo h a b hno ZtF c2, <- Za6]; exact hs
   ·rw [he, ZEo h a b hno ZtF c2]
 ·rintro ⟨n, hn, rfl, h2, hf, rfl⟩
  have hmn := h.may n hn
  by_cases hw0 : xw (xa x n) = 0
  ·have hno : ¬ (0 <= YF x (xw (xa x n)) (ZY (xa x n)) n /\ 0 < xw (xa x n)) := by omega
   have he : ZkL x n = n := by rw [Zia, if_neg (by omega)]
   rw [he, ZEo h hn h2 hno (by omega) rfl] at hf ⊢
   refine .inr (.inl ⟨rfl, (n : Int) :: nr (xa x n), Zjz.2 (.inl ((h.ri.out _).2 ⟨n, hn, h2, hw0, rfl⟩)), rfl, ?_⟩)
   rw [ZPY]
   show Z2 _ (nr (xa x n)) = false
   rw [Za6]; exact hf
  ·have hwp : 0 < xw (xa x n) := by
    have hm := hmn; unfold ZbL at hm; simp [h2] at hm; have := hm.1.1.1; omega
   have hbeg : 0 <= Yl x 1 (xw (xa x n)) x.length := Classical.byContradiction fun q => (ZiY hwp h.nf q).2.2 n hn rfl h2
   have hjl := (h.ri.beg _).2 hbeg
   have hwho := ZaN hjl
   have hmem : B.txs.getD (ixL (xw (xa x n)) B.txs) tx0 ∈ B.txs := by rw [Yv hjl]; exact ZQe hjl
   have t1 := (h.tx hmem).1
   have rd := Zd8 hwp h.nf
   have hcom := Zgn hwp h.nf
   rw [hwho] at t1
   by_cases hl : 0 <= YF x (xw (xa x n)) (ZY (xa x n)) n
   ·rw [ZLK ⟨hl, hwp⟩] at hf ⊢
    exact .inl ⟨rfl, _, hmem, rfl, by rw [t1]; exact (rd.2 _).2 ⟨n, hn, h2, rfl, hl, hf, rfl⟩⟩
   ·have hno : ¬ (0 <= YF x (xw (xa x n)) (ZY (xa x n)) n /\ 0 < xw (xa x n)) := fun q => hl q.1
    have hrd : (n : Int) :: nr (xa x n) ∈ (B.txs.getD (ixL (xw (xa x n)) B.txs) tx0).rds := by rw [t1]; exact (rd.1 _).2 ⟨n, hn, h2, rfl, by omega, rfl⟩
    by_cases hc : 0 <= Yl x 5 (xw (xa x n)) x.length
    ·obtain ⟨k, hk, hkw⟩ := List.getElem_of_mem (Zyi hc)
     rw [ZbJ h] at hk
     have hkg : (ZM x x.length).getD k 0 = xw (xa x n) := by
      rw [ZPR, ZPU (by rw [ZbJ h]; exact hk), ZPM]; exact hkw
     obtain ⟨k1, k2⟩ := h.kw hk
     have hix : B.kept.getD k 0 = ixL (xw (xa x n)) B.txs := by rw [<- hkg, <- k2, Zeo h.wf.nd k1]
     obtain ⟨_, c2⟩ := h.ri.com k hk
     rw [hkg] at c2
     have he : ZkL x n = (Yl x 5 (xw (xa x n)) x.length).toNat := by rw [Zia, if_pos hwp, if_pos hc]
     rw [he, ZEo h hn h2 hno ZtF c2] at hf ⊢
     refine .inr (.inr ⟨rfl, k, hk, _, by rw [hix]; exact hrd, rfl, ?_⟩)
     show Z2 _ (nr (xa x n)) = false
     rw [Za6]; exact hf
    ·have he : ZkL x n = n := by rw [Zia, if_pos hwp, if_neg hc]
     rw [he, ZEo h hn h2 hno (by omega) rfl] at hf ⊢
     refine .inr (.inl ⟨rfl, _, Zjz.2 (.inr ⟨_, hmem, by rw [t1, hcom]; omega, hrd⟩), rfl, ?_⟩)
     rw [ZPY]
     show Z2 _ (nr (xa x n)) = false
     rw [Za6]; exact hf
theorem Zrh (x : List Ent) : ∀ n : Nat, (0 <= (ZfH x n).1 -> ∃ m < n, ZfH x n = ((m : Int), (ZhN x m (ZM x (ZkL x m))).2) /\ xk (xa x m) = 2 /\ (ZhN x m (ZM x (ZkL x m))).1 = false /\ ∀ q < m, ¬ (xk (xa x q) = 2 /\ (ZhN x q (ZM x (ZkL x q))).1 = false)) ∧
  (¬ 0 <= (ZfH x n).1 -> ∀ q < n, ¬ (xk (xa x q) = 2 /\ (ZhN x q (ZM x (ZkL x q))).1 = false))
 | 0 => ⟨fun h => absurd h (by show ¬ (0 : Int) <= -1; omega), fun _ q hq => absurd hq (Nat.not_lt_zero q)⟩
 | n + 1 => by
  obtain ⟨i1, i2⟩ := Zrh x n
  rw [ZqT]
  by_cases h0 : 0 <= (ZfH x n).1
  ·rw [if_pos h0]
   obtain ⟨m, hm, a⟩ := i1 h0
   exact ⟨fun _ => ⟨m, by omega, a⟩, fun q => absurd h0 q⟩
  ·rw [if_neg h0]
   have i2 := i2 h0
   by_cases h2 : xk (xa x n) = 2
   ·rw [if_pos h2]
    by_cases ht : (ZhN x n (ZM x (ZkL x n))).1 = true
    ·rw [if_pos ht]
     refine ⟨fun h => absurd h (by show ¬ (0 : Int) <= -1; omega), fun _ q hq => ?_⟩
     rcases ZPL q n with p | p
     ·exact i2 q p
     ·rw [show q = n by omega, ht]; simp
    ·rw [if_neg ht]
     exact ⟨fun _ => ⟨n, by omega, rfl, h2, by simpa using ht, i2⟩, fun h => absurd (show (0 : Int) <= n by omega) h⟩
   ·rw [if_neg h2]
    refine ⟨fun h => absurd h (by show ¬ (0 : Int) <= -1; omega), fun _ q hq => ?_⟩
    rcases ZPL q n with p | p
    ·exact i2 q p
    ·rw [show q = n by omega]; exact fun e => h2 e.1
theorem Zv6 {x : List Ent} {s : Int × Int} (h : YC (refF x) x.length s) : (if s.2 = 0 then (-1, 0) else s) = ZfH x x.length := by
 obtain ⟨a1, a2⟩ := Zrh x x.length
 by_cases h0 : 0 <= (ZfH x x.length).1
 ·obtain ⟨m, hm, e, c, d, f⟩ := a1 h0
  have hr : refF x m (ZhN x m (ZM x (ZkL x m))).2 := ⟨m, hm, rfl, c, d, rfl⟩
  rcases h with ⟨rfl, hno⟩ | ⟨h1, h2, h3⟩
  ·exact absurd hr (hno _ _)
  ·rw [if_neg h1, e]
   obtain ⟨n, hn, e1, e2, e3, e4⟩ := h2
   have := h3 _ _ hr
   have hnm : n = m := by
    rcases Nat.lt_trichotomy n m with p | p | p
    ·exact absurd ⟨e2, e3⟩ (f n p)
    ·exact p
    ·omega
   subst hnm
   exact Prod.ext e1 e4
 ·have a2 := a2 h0
  rw [ZLB h0]
  rcases h with ⟨rfl, _⟩ | ⟨h1, ⟨n, hn, e1, e2, e3, e4⟩, h3⟩
  ·rfl
  ·exact absurd ⟨e2, e3⟩ (a2 n hn)
theorem ZGB {x : List Ent} (hc : Zb9 x = 0) (hf : (ZkM x).fault < 0) : Go x (ZkM x) := by
 have hm : ∀ i < x.length, ZbL (xa x i) = true := by
  unfold Zb9 at hc
  split at hc
  ·cases hc
  ·split at hc
   ·rename_i q
    unfold ZjV at q
    rw [Zj] at q; exact q
   ·cases hc
 obtain ⟨r1, r2⟩ := ZqB x x.length hm
 have h0 : ¬ 0 <= (ZcO x x.length).1 := fun q => by
  have := (r2 q).1
  unfold ZkM at hf
  omega
 exact ⟨⟨h0, hm⟩, r1 ⟨h0, hm⟩, ZiA x x.length⟩
theorem ZCH {x : List Ent} {B : Bk} (h : Go x B) {R : Ent} (hR : R ∈ ZnN B []) : ∃ n : Nat, n < x.length /\ xk (xa x n) = 2 /\ g0 R = n := by
 rcases Zjz.1 hR with hR | ⟨t, ht, hc, hR⟩
 ·obtain ⟨n, a, b, c, rfl⟩ := (h.ri.out R).1 hR
  exact ⟨n, a, b, rfl⟩
 ·obtain ⟨t1, t2⟩ := h.tx ht
  rw [t1] at hR
  obtain ⟨n, a, b, c, d, rfl⟩ := ((Zd8 t2 h.nf).1 R).1 hR
  exact ⟨n, a, b, rfl⟩
theorem ZtQ {x : List Ent} {B : Bk} (h : Go x B) {s0 : Int × Int} {L L0 : List (List Int)} (h0 : YC (ZCy B []) x.length s0) (hp : L0.Perm (ZnN B [])) (hs : SrtP L0 L) :
  let e := Zfw (Z2 (stF B B.kept.length)) L x.length (YW B L s0 B.kept.length).1 (YW B L s0 B.kept.length).2
  (if e.2.2 = 0 then (-1, 0) else e.2) = ZfH x x.length := by
 have hmem : ∀ R, R ∈ L ↔ R ∈ ZnN B [] := fun R => (hs.1.mem_iff).trans hp.mem_iff
 have hget : ∀ q < L.length, ∃ n : Nat, n < x.length /\ xk (xa x n) = 2 /\ g0 (L.getD q []) = n := fun q hq => ZCH h ((hmem _).1 (by
  rw [ZPR, ZPU hq, ZPM]; exact ZQe hq))
 have hN : ∀ q < L.length, g0 (L.getD q []) < x.length := fun q hq => by
  obtain ⟨n, a, _, b⟩ := hget q hq; omega
 have key : ∀ k ≤ B.kept.length, (YW B L s0 k).1 <= L.length /\ YC (fun i r => ZCy B [] i r \/ (r = 4 /\ ∃ q < (YW B L s0 k).1, i = g0 (L.getD q []) /\ Z2 (stF B (ZM x i.toNat).length) ((L.getD q []).drop 1) = false) \/ kepF B k i r) x.length (YW B L s0 k).2 ∧
   ∀ q, (YW B L s0 k).1 <= q -> q < L.length -> k <= (ZM x (g0 (L.getD q [])).toNat).length := by
  intro k
  induction k with
  | zero =>
   intro _
   refine ⟨Nat.zero_le _, h0.congr fun i r => ⟨.inl, fun q => ?_⟩, fun q _ _ => Nat.zero_le _⟩
   rcases q with q | ⟨_, q, hq, _⟩ | ⟨_, q, hq, _⟩
   ·exact q
   ·exact absurd hq (Nat.not_lt_zero q)
   ·exact absurd hq (Nat.not_lt_zero q)
  | succ k ih =>
   intro hk
   obtain ⟨j1, j2, j3⟩ := ih (by omega)
   obtain ⟨t1, t2⟩ := h.tx (h.kt (k := k) (by omega))
   have hw := (h.kw (k := k) (by omega)).2
   obtain ⟨c1, c2⟩ := h.ri.com k (by omega)
   rw [<- hw] at c1 c2
   have hcom := Zgn t2 h.nf
   rw [<- t1] at hcom
   rw [<- hcom] at c1 c2
   have hcf := (Zcy x 5 (B.txs.getD (B.kept.getD k 0) tx0).who x.length)
   rw [<- hcom] at hcf
   have hk5 := (hcf.2.2 c1).1
   have rd := Zd8 t2 h.nf
   rw [<- t1] at rd
   obtain ⟨a1, a2, a3, a4, a5⟩ := ZkC (f := Z2 (stF B k)) (place := (B.txs.getD (B.kept.getD k 0) tx0).com) hs.2 hN (L.length - (YW B L s0 k).1) (YW B L s0 k).1 rfl j1 j2
   have e0 : YW B L s0 (k + 1) = ((Zfw (Z2 (stF B k)) L (B.txs.getD (B.kept.getD k 0) tx0).com (YW B L s0 k).1 (YW B L s0 k).2).1, Zke (Z2 (stF B k)) (Zfw (Z2 (stF B k)) L (B.txs.getD (B.kept.getD k 0) tx0).com (YW B L s0 k).1 (YW B L s0 k).2).2 (B.txs.getD (B.kept.getD k 0) tx0).rds (B.txs.getD (B.kept.getD k 0) tx0).rds.length) := rfl
   rw [e0]
   have e1 : Ztz (Z2 (stF B k)) L (B.txs.getD (B.kept.getD k 0) tx0).com (L.length - (YW B L s0 k).1) (YW B L s0 k).1 (YW B L s0 k).2 = Zfw (Z2 (stF B k)) L (B.txs.getD (B.kept.getD k 0) tx0).com (YW B L s0 k).1 (YW B L s0 k).2 := rfl
   rw [e1] at a1 a2 a3 a4 a5
   generalize Zfw (Z2 (stF B k)) L (B.txs.getD (B.kept.getD k 0) tx0).com (YW B L s0 k).1 (YW B L s0 k).2 = e at *
   have hrd : ∀ R ∈ (B.txs.getD (B.kept.getD k 0) tx0).rds, g0 R < x.length := fun R hR => by
    obtain ⟨n, a, b, c, d, rfl⟩ := (rd.1 R).1 hR
    show (n : Int) < _; omega
   have a6 := ZpR a5 (Z2 (stF B k)) _ hrd _ (ZPH _)
   refine ⟨a2, a6.congr fun i r => ?_, fun q q1 q2 => ?_⟩
   ·rw [List.take_length]
    have kq : ∀ q, (YW B L s0 k).1 <= q -> q < e.1 -> (ZM x (g0 (L.getD q [])).toNat).length = k := fun q q1 q2 => by
     have b1 := j3 q q1 (by omega)
     have b2 := a3 q q1 q2
     have b3 := (ZfI x (m := (g0 (L.getD q [])).toNat) (n := (B.txs.getD (B.kept.getD k 0) tx0).com.toNat) (by omega)).1
     omega
    constructor
    ·rintro (((b | ⟨b, q, c, d⟩ | ⟨b, k', c, d⟩) | ⟨b, q, c1, c2, c3, c4⟩) | ⟨b, R, c, d⟩)
     ·exact .inl b
     ·exact .inr (.inl ⟨b, q, by omega, d⟩)
     ·exact .inr (.inr ⟨b, k', by omega, d⟩)
     ·exact .inr (.inl ⟨b, q, c2, c3, by rw [c3, kq q c1 c2]; exact c4⟩)
     ·exact .inr (.inr ⟨b, k, by omega, R, c, d⟩)
    ·rintro (b | ⟨b, q, c, d⟩ | ⟨b, k', c, R, d, g⟩)
     ·exact .inl (.inl (.inl b))
     ·rcases ZPL q (YW B L s0 k).1 with p | p
      ·exact .inl (.inl (.inr (.inl ⟨b, q, p, d⟩)))
      ·refine .inl (.inr ⟨b, q, p, c, d.1, ?_⟩)
       have := d.2
       rw [d.1, kq q p c] at this; exact this
     ·rcases ZPL k' k with p | p
      ·exact .inl (.inl (.inr (.inr ⟨b, k', p, R, d, g⟩)))
      ·have : k' = k := by omega
       subst this
       exact .inr ⟨b, R, d, g⟩
   ·have b1 := a4 q q1 q2
    obtain ⟨n, n1, n2, n3⟩ := hget q q2
    rw [n3] at b1 ⊢
    rw [ZPY]
    have hne : n ≠ (B.txs.getD (B.kept.getD k 0) tx0).com.toNat := fun e => by rw [<- e] at hk5; omega
    have b3 := (ZfI x (m := (B.txs.getD (B.kept.getD k 0) tx0).com.toNat + 1) (n := n) (by omega)).1
    have b4 : ZM x ((B.txs.getD (B.kept.getD k 0) tx0).com.toNat + 1) = ZM x (B.txs.getD (B.kept.getD k 0) tx0).com.toNat ++ [xw (xa x (B.txs.getD (B.kept.getD k 0) tx0).com.toNat)] := by rw [ZbF, if_pos hk5]
    rw [b4, ZPW, ZPF] at b3
    omega
 obtain ⟨j1, j2, j3⟩ := key B.kept.length (ZPH _)
 obtain ⟨a1, a2, a3, a4, a5⟩ := ZkC (f := Z2 (stF B B.kept.length)) (place := (x.length : Int)) hs.2 hN (L.length - (YW B L s0 B.kept.length).1) (YW B L s0 B.kept.length).1 rfl j1 j2
 have e1 : Ztz (Z2 (stF B B.kept.length)) L (x.length : Int) (L.length - (YW B L s0 B.kept.length).1) (YW B L s0 B.kept.length).1 (YW B L s0 B.kept.length).2 = Zfw (Z2 (stF B B.kept.length)) L (x.length : Int) (YW B L s0 B.kept.length).1 (YW B L s0 B.kept.length).2 := rfl
 rw [e1] at a1 a2 a3 a4 a5
 show (if (Zfw (Z2 (stF B B.kept.length)) L (x.length : Int) (YW B L s0 B.kept.length).1 (YW B L s0 B.kept.length).2).2.2 = 0 then ((-1 : Int), (0 : Int)) else _) = _
 generalize Zfw (Z2 (stF B B.kept.length)) L (x.length : Int) (YW B L s0 B.kept.length).1 (YW B L s0 B.kept.length).2 = e at *
 have hall : e.1 = L.length := by
  rcases ZPL e.1 L.length with p | p
  ·have := a4 e.1 (ZPH _) p
   have := hN e.1 p
   omega
  ·omega
 have kq : ∀ q, (YW B L s0 B.kept.length).1 <= q -> q < L.length -> (ZM x (g0 (L.getD q [])).toNat).length = B.kept.length := fun q q1 q2 => by
  have b1 := j3 q q1 q2
  have b2 := hN q q2
  have b3 := (ZfI x (m := (g0 (L.getD q [])).toNat) (n := x.length) (by omega)).1
  rw [ZbJ h] at b3
  omega
 refine Zv6 (a5.congr fun i r => ?_)
 rw [<- ZKA h, hall]
 have look : ∀ R, R ∈ L -> ∃ q, q < L.length /\ L.getD q [] = R := fun R hR => by
  obtain ⟨q, hq, rfl⟩ := List.getElem_of_mem hR
  exact ⟨q, hq, by rw [ZPR, ZPU hq, ZPM]⟩
 have lget : ∀ q, q < L.length -> L.getD q [] ∈ L := fun q hq => by
  rw [ZPR, ZPU hq, ZPM]; exact ZQe hq
 constructor
 ·rintro ((b | ⟨b, q, c, d⟩ | b) | ⟨b, q, c1, c2, c3, c4⟩)
  ·exact .inl b
  ·exact .inr (.inl ⟨b, _, (hmem _).1 (lget q (by omega)), d⟩)
  ·exact .inr (.inr b)
  ·exact .inr (.inl ⟨b, _, (hmem _).1 (lget q c2), c3, by rw [c3, kq q c1 c2]; exact c4⟩)
 ·rintro (b | ⟨b, R, c, d⟩ | b)
  ·exact .inl (.inl b)
  ·obtain ⟨q, hq, rfl⟩ := look R ((hmem _).2 c)
   rcases ZPL q (YW B L s0 B.kept.length).1 with p | p
   ·exact .inl (.inr (.inl ⟨b, q, p, d⟩))
   ·refine .inr ⟨b, q, p, hq, d.1, ?_⟩
    have := d.2
    rw [d.1, kq q p hq] at this; exact this
  ·exact .inl (.inr (.inr b))
theorem ZDn {B : Bk} {m : List (Int × Int)} (h : ∀ t ∈ B.txs, Zx m t.who = true) (n : Int) : YC (ZCy B m) n (n, 0) := .inl ⟨rfl, fun i r ⟨_, t, ht, q, _⟩ => by rw [h t ht] at q; cases q⟩
theorem ZCG {B : Bk} {m : List (Int × Int)} (h : ∀ t ∈ B.txs, Zx m t.who = true) : ZnN B m = B.out := by
 unfold ZnN
 rw [List.filter_eq_nil_iff.2 (fun t ht => by rw [h t ht]; simp)]
 simp
theorem ZO7 {L : List Tx} (hn : (L.map (·.who)).Nodup) {k : Int} {j : Nat} (hj : ixL k L = j) {t : Tx} (ht : t ∈ L) (hw : t.who = k) : t = L.getD j tx0 := by
 obtain ⟨i, hi, rfl⟩ := List.getElem_of_mem ht
 have := Zeo hn hi
 rw [Yv hi, hw, hj] at this
 rw [this, Yv hi]
theorem ZD3 {B : Bk} {left : List (Int × Int)} (hl : (left.map (·.1)).Nodup) (hn : (B.txs.map (·.who)).Nodup) {k : Int} {j : Nat} (hj : ixL k B.txs = j) (hjl : j < B.txs.length) (i r : Int) :
  ZCy B (Y0 left k) i r ↔ ZCy B left i r \/ (r = 3 /\ i ∈ (B.txs.getD j tx0).bad) := by
 have hm : B.txs.getD j tx0 ∈ B.txs := by rw [Yv hjl]; exact ZQe hjl
 have hw : (B.txs.getD j tx0).who = k := by rw [<- hj] at hjl ⊢; exact ZaN hjl
 constructor
 ·rintro ⟨a, t, ht, b, c⟩
  rw [mhas_del' hl] at b
  by_cases q : k = t.who
  ·right; rw [ZO7 hn hj ht q.symm] at c; exact ⟨a, c⟩
  ·rw [if_neg q] at b; exact .inl ⟨a, t, ht, b, c⟩
 ·rintro (⟨a, t, ht, b, c⟩ | ⟨a, c⟩)
  ·refine ⟨a, t, ht, ?_, c⟩
   rw [mhas_del' hl]; split
   ·rfl
   ·exact b
  ·exact ⟨a, _, hm, by rw [mhas_del' hl, if_pos hw.symm], c⟩
theorem ZlM {left : List (Int × Int)} (hl : (left.map (·.1)).Nodup) {k : Int} : ∀ {l : List Tx}, (∀ t ∈ l, t.who ≠ k) -> l.filter (fun t => !Zx (Y0 left k) t.who && decide (t.com < 0)) = l.filter fun t => !Zx left t.who && decide (t.com < 0) := fun {l} h =>
 List.filter_congr fun t ht => by rw [mhas_del' hl, if_neg (fun q => h t ht q.symm)]
theorem ZEW {B : Bk} {left : List (Int × Int)} (hl : (left.map (·.1)).Nodup) (hn : (B.txs.map (·.who)).Nodup) {k : Int} {j : Nat} (hj : ixL k B.txs = j) (hjl : j < B.txs.length) (hk : Zx left k = true) :
  (ZnN B (Y0 left k)).Perm (ZnN B left ++ if (B.txs.getD j tx0).com < 0 then (B.txs.getD j tx0).rds else []) := by
 have hw : (B.txs.getD j tx0).who = k := by rw [<- hj] at hjl ⊢; exact ZaN hjl
 have e := ZbX (d := tx0) hjl
 have h1 : ∀ t ∈ B.txs.take j, t.who ≠ k := fun t ht q => by
  obtain ⟨i, hi, rfl⟩ := List.getElem_of_mem ht
  rw [ZPT] at hi
  rw [List.getElem_take] at q
  have := Zeo hn (j := i) (by omega)
  rw [Yv (by omega), q, hj] at this; omega
 have h2 : ∀ t ∈ B.txs.drop (j + 1), t.who ≠ k := fun t ht q => by
  obtain ⟨i, hi, rfl⟩ := List.getElem_of_mem ht
  rw [ZP5] at hi
  rw [List.getElem_drop] at q
  have := Zeo hn (j := j + 1 + i) (by omega)
  rw [Yv (by omega), q, hj] at this; omega
 unfold ZnN
 have s1 := ZlM hl h1
 have s2 := ZlM hl h2
 generalize hA : B.txs.take j = A at *
 generalize hC : B.txs.drop (j + 1) = C at *
 generalize hT : B.txs.getD j tx0 = t at *
 rw [e, List.filter_append, List.filter_append, List.filter_append, List.filter_append, s1, s2]
 have f1 : [t].filter (fun t => !Zx left t.who && decide (t.com < 0)) = [] := by simp [hw, hk]
 have f2 : [t].filter (fun t => !Zx (Y0 left k) t.who && decide (t.com < 0)) = if t.com < 0 then [t] else [] := by
  have : Zx (Y0 left k) t.who = false := by rw [mhas_del' hl, if_pos hw.symm]
  by_cases q : t.com < 0
  ·rw [if_pos q]; simp [this, q]
  ·rw [if_neg q]; simp [this, q]
 rw [f1, f2]
 simp only [List.flatMap_append, List.nil_append]
 by_cases q : t.com < 0
 ·rw [if_pos q, if_pos q, List.flatMap_singleton, ZQf, ZQf]
  refine List.Perm.append_left _ (List.Perm.append_left _ ?_)
  exact List.perm_append_comm
 ·rw [if_neg q, if_neg q]; simp
theorem ZI4 {l : List Tx} {n : Nat} (h : ∀ t ∈ l, t.rds.length <= n) : (l.flatMap (·.rds)).length <= l.length * n := by
 induction l with
 | nil => simp
 | cons t l ih =>
  rw [List.flatMap_cons, ZPW, ZQb]
  have a := ih fun s hs => h s (List.mem_cons.2 (.inr hs))
  have b := h t (List.mem_cons.2 (.inl rfl))
  have : (l.length + 1) * n = l.length * n + n := by rw [Nat.add_mul, Nat.one_mul]
  omega
theorem ZHU {B : Bk} {n : Nat} (h : WfB B n) (hn : n <= 400) (left : List (Int × Int)) : (ZnN B left).length <= 160400 := by
 unfold ZnN
 rw [ZPW]
 have a := h.ol
 have b := ZI4 (l := B.txs.filter fun t => !Zx left t.who && decide (t.com < 0)) (n := n) (fun t ht => (h.rl t (List.mem_filter.1 ht).1).1)
 have c : (B.txs.filter fun t => !Zx left t.who && decide (t.com < 0)).length <= n := Nat.le_trans (List.length_filter_le _ _) h.lt
 have d := Nat.mul_le_mul c (ZPH n)
 have e := Nat.mul_le_mul hn hn
 omega
theorem ZMg {x : List Ent} {B : Bk} (h : Go x B) {t : Tx} (ht : t ∈ B.txs) : ∀ i ∈ t.bad, i < x.length := fun i hi => by
 obtain ⟨t1, t2⟩ := h.tx ht
 rw [t1] at hi
 obtain ⟨n, a, _, _, _, _, rfl⟩ := ((Zd8 t2 h.nf).2 i).1 hi
 omega
theorem ZFu {m : List (Int × Int)} {f : Int -> Bool × (List UInt8 × Bool)} (h : Zhs m f) (s : Int × Int) (l : List (List Int)) : ∀ j, Zke (Z3 m) s l j = Zke (Z2 f) s l j
 | 0 => rfl
 | j + 1 => by
  unfold Zke
  rw [ZFu h s l j, ZnF h]
theorem ZNp {m : List (Int × Int)} {f : Int -> Bool × (List UInt8 × Bool)} (h : Zhs m f) (L : List (List Int)) (pl : Int) (p : Nat) (s : Int × Int) : Zfw (Z3 m) L pl p s = Zfw (Z2 f) L pl p s := by
 have : Z3 m = Z2 f := by funext r; exact ZnF h r
 rw [this]
theorem Zgx {x : List Ent} (h : Zb9 x = 0) : x.length <= 400 := by
 unfold Zb9 at h
 split at h
 ·cases h
 ·omega
theorem ZG7 {x : List Ent} (h : Zb9 x ≠ 0) : Zlf x = (0, 0, Zb9 x) := by unfold Zlf; rw [if_pos h]
theorem ZmR {x : List Ent} (h : Zb9 x = 0) (hf : 0 <= (Z7 x x.length).fault) : Zlf x = ((Z7 x x.length).fault, (Z7 x x.length).what, 0) := by
 have hm : ∀ i < x.length, ZbL (xa x i) = true := by
  have hc := h
  unfold Zb9 at hc
  split at hc
  ·cases hc
  ·split at hc
   ·rename_i q
    unfold ZjV at q
    rw [Zj] at q; exact q
   ·cases hc
 obtain ⟨r1, r2⟩ := ZqB x x.length hm
 have h0 : 0 <= (ZcO x x.length).1 := Classical.byContradiction fun q => by
  have := (r1 ⟨q, hm⟩).ft
  omega
 obtain ⟨a, b⟩ := r2 h0
 unfold Zlf
 rw [if_neg (fun q => q h), if_pos h0, a, b]
theorem ZDi {x : List Ent} (h : Zb9 x = 0) (hg : Go x (ZkM x)) : Zlf x = ((ZfH x x.length).1, (ZfH x x.length).2, 0) := by
 unfold Zlf
 rw [if_neg (fun q => q h), if_neg hg.nf.1]
theorem ZBc {R : List (List Int)} {ks : List Nat} {n : Nat} (hn : n < ks.length) : ((Zbk R ks).getD n []).getD 0 0 = g0 (R.getD (ks.getD n 0) []) := by
 unfold Zbk
 rw [ZPR (l := ks.map _), ZPN, ZPU hn, ZPR (l := ks), ZPU hn]; rfl
theorem map_nil (B : Bk) : Zhs [] (stF B 0) := fun q => ⟨rfl, rfl⟩
/-! ### Keys in order -/
def txt (r : List Int) : List UInt8 := Yc (g0 r).toNat
def Ze2 (s : List UInt8) : List Int := [((Zr s : Nat) : Int)]
def leT (x y : List UInt8) : Bool := decide (x <= y)
def ZtA (l : List (List UInt8)) : List (List UInt8) := l.mergeSort leT
def Zh0 (R : List (List Int)) : List (List Int) := (ZtA (R.map txt)).map Ze2
def Ztl (m : List (Int × Int)) : List (List Int) := Zh0 (m.map fun p => [p.1])
def canM (m : List (Int × Int)) : Prop := (m.map (·.1)).Nodup /\ ∀ p ∈ m, ∃ s : List UInt8, p.1 = (Zr s : Nat)
def ZHr (m left : List (Int × Int)) (R : List (List Int)) : Prop := (R.map g0 ++ left.map (·.1)).Perm (m.map (·.1))
theorem Zks (s : List UInt8) : txt (Ze2 s) = s := by show Yc (Int.toNat (Zr s : Nat)) = s; rw [ZPY, Zm]
theorem ZLm : ∀ a b c : List UInt8, leT a b = true -> leT b c = true -> leT a c = true := fun a b c h1 h2 => decide_eq_true (List.le_trans (of_decide_eq_true h1) (of_decide_eq_true h2))
theorem ZHT : ∀ a b : List UInt8, (leT a b || leT b a) = true := fun a b => by
 rw [Bool.or_eq_true]
 rcases List.le_total a b with h | h
 ·exact .inl (decide_eq_true h)
 ·exact .inr (decide_eq_true h)
theorem ZbR (l : List (List UInt8)) : (ZtA l).Perm l := List.mergeSort_perm l leT
theorem ZnO (l : List (List UInt8)) : (ZtA l).Pairwise fun a b => a <= b := (List.pairwise_mergeSort ZLm ZHT l).imp fun h => of_decide_eq_true h
theorem Zr8 : ∀ {a b : List (List UInt8)}, a.Perm b -> (a.Pairwise fun x y => x <= y) -> (b.Pairwise fun x y => x <= y) -> a = b := fun h h1 h2 =>
 h.eq_of_pairwise (fun x y _ _ h3 h4 => List.le_antisymm h3 h4) h1 h2
theorem ZBg {a b : List (List UInt8)} (h : a.Perm b) : ZtA a = ZtA b := Zr8 ((ZbR a).trans (h.trans (ZbR b).symm)) (ZnO a) (ZnO b)
theorem ZkY (R : List (List Int)) : (Zh0 R).length = R.length := by
 unfold Zh0; rw [ZP1, (ZbR _).length_eq, ZP1]
theorem ZqD (m : List (Int × Int)) : (Ztl m).length = m.length := by unfold Ztl; rw [ZkY, ZP1]
theorem ZJm {m : List (Int × Int)} {R : List (List Int)} (h : ZHr m [] R) : Zh0 R = Ztl m := by
 unfold Ztl Zh0
 congr 1
 refine ZBg ?_
 have h1 : (R.map g0).Perm (m.map (·.1)) := by simpa [ZHr] using h
 have := h1.map fun k : Int => Yc k.toNat
 rw [List.map_map, List.map_map] at this
 rw [List.map_map]
 exact this
theorem ZEE {m left : List (Int × Int)} {R : List (List Int)} {k : Int} (h : ZHr m left R) (hk : Zx left k = true) : ZHr m (Y0 left k) (R ++ [[k]]) := by
 unfold ZHr at h ⊢
 refine List.Perm.trans ?_ h
 rw [ZP7, ZQf]
 refine List.Perm.append_left _ ?_
 have : ∀ l : List (Int × Int), Zx l k = true -> ((k :: (Y0 l k).map (·.1))).Perm (l.map (·.1)) := by
  intro l
  induction l with
  | nil => intro q; cases q
  | cons p l ih =>
   obtain ⟨a, b⟩ := p
   intro q
   by_cases e : a = k
   ·have e1 : Y0 ((a, b) :: l) k = l := by show (if a = k then l else _) = l; rw [if_pos e]
    rw [e1, <- e]; exact List.Perm.refl _
   ·have e1 : Y0 ((a, b) :: l) k = (a, b) :: Y0 l k := by show (if a = k then l else _) = _; rw [if_neg e]
    rw [e1]
    have q2 : Zx l k = true := by
     have : (if a = k then true else Zx l k) = true := q
     rw [if_neg e] at this; exact this
    exact (List.Perm.swap _ _ _).trans ((ih q2).cons _)
 exact this left hk
/-! ### The pairs -/
abbrev Kf := List UInt8 -> List UInt8 × Bool
def ZK9 (f : Kf) (s : List UInt8) : List Int := [((Zr s : Nat) : Int), ((Zr (f s).1 : Nat) : Int)]
def ZfW (f : Kf) (R : List (List Int)) : Nat -> List (List Int)
 | 0 => []
 | n + 1 => if (f (txt (R.getD n []))).2 = true then ZfW f R n ++ [ZK9 f (txt (R.getD n []))] else ZfW f R n
def mvF (m : List (Int × Int)) : Kf := fun s => vw (YB 0 m (Zr s : Nat))
def leF (x : List Ent) (ks : List Int) : Kf := fun s => Zch x ks s ks.length
theorem Zoy (f : Kf) (l : List (List UInt8)) : ∀ n ≤ l.length, ZfW f (l.map Ze2) n = ((l.take n).filter fun s => (f s).2).map (ZK9 f)
 | 0, _ => by simp [ZfW]
 | n + 1, hn => by
  have ih := Zoy f l n (by omega)
  have e : txt ((l.map Ze2).getD n []) = l[n] := by
   rw [ZPR, ZPN, ZPU (by omega)]; exact Zks _
  unfold ZfW
  rw [e, ih, List.take_succ_eq_append_getElem (by omega), List.filter_append, ZP7]
  by_cases h : (f l[n]).2 = true
  ·rw [if_pos h]; simp [h]
  ·rw [if_neg h]; simp [h]
theorem Zs1 {f g : Kf} {a b : List (List UInt8)} (ha : a.Pairwise fun x y => x <= y) (hb : b.Pairwise fun x y => x <= y) (na : a.Nodup) (nb : b.Nodup)
  (hm : ∀ s, (s ∈ a /\ (f s).2 = true) ↔ (s ∈ b /\ (g s).2 = true)) (he : ∀ s ∈ a, (f s).2 = true -> (f s).1 = (g s).1) : ZfW f (a.map Ze2) a.length = ZfW g (b.map Ze2) b.length := by
 rw [Zoy f a _ (ZPH _), Zoy g b _ (ZPH _), List.take_length, List.take_length]
 have e : (a.filter fun s => (f s).2) = b.filter fun s => (g s).2 := by
  refine Zr8 ?_ (ha.filter _) (hb.filter _)
  rw [List.perm_ext_iff_of_nodup (na.filter _) (nb.filter _)]
  intro s
  rw [List.mem_filter, List.mem_filter]; exact hm s
 rw [<- e]
 refine List.map_congr_left fun s hs => ?_
 rw [List.mem_filter] at hs
 unfold ZK9
 rw [he s hs.1 hs.2]
/-! ### The keys that were written -/
def ZhT : List (List UInt8) -> List UInt8 -> List (List UInt8)
 | [], k => [k]
 | a :: l, k => if Op.bytesLess a k = true then a :: ZhT l k else if a = k then a :: l else k :: a :: l
def Zd2 (x : List Ent) : Nat -> List (List UInt8)
 | 0 => []
 | n + 1 => if xk (xa x n) = 3 then ZhT (Zd2 x n) (ZY (xa x n)) else Zd2 x n
theorem Zpv (k s : List UInt8) : ∀ l, s ∈ ZhT l k ↔ s ∈ l \/ s = k
 | [] => by simp [ZhT]
 | a :: l => by
  unfold ZhT
  split
  ·rw [List.mem_cons, List.mem_cons, Zpv k s l]; exact or_assoc.symm
  ·split
   ·rename_i h; subst h; simp only [List.mem_cons]; constructor
    ·exact fun h => .inl h
    ·rintro (h | h); exact h; exact .inl h
   ·simp only [List.mem_cons]; constructor
    ·rintro (h | h); exact .inr h; exact .inl h
    ·rintro (h | h); exact .inr h; exact .inl h
theorem Zu5 (k : List UInt8) : ∀ {l : List (List UInt8)}, (l.Pairwise fun a b => a < b) -> (ZhT l k).Pairwise fun a b => a < b
 | [], _ => by simp [ZhT]
 | a :: l, h => by
  rw [List.pairwise_cons] at h
  unfold ZhT
  split
  ·rename_i hl
   rw [Go.Proofs.bytesLess_eq, decide_eq_true_eq] at hl
   refine List.pairwise_cons.2 ⟨fun b hb => ?_, Zu5 k h.2⟩
   rcases (Zpv k b l).1 hb with hb | rfl
   ·exact h.1 b hb
   ·exact hl
  ·split
   ·exact List.pairwise_cons.2 h
   ·rename_i hl hne
    rw [Go.Proofs.bytesLess_eq, decide_eq_true_eq] at hl
    have hka : k < a := by
     apply Decidable.byContradiction
     intro q
     exact hne (List.le_antisymm (List.not_lt.1 q) (List.not_lt.1 hl))
    refine List.pairwise_cons.2 ⟨fun b hb => ?_, List.pairwise_cons.2 h⟩
    rcases List.mem_cons.1 hb with rfl | hb
    ·exact hka
    ·exact List.lt_trans hka (h.1 b hb)
theorem ZfK (x : List Ent) : ∀ n, (Zd2 x n).Pairwise fun a b => a < b
 | 0 => List.Pairwise.nil
 | n + 1 => by
  unfold Zd2
  split
  ·exact Zu5 _ (ZfK x n)
  ·exact ZfK x n
theorem ZKu (x : List Ent) (n : Nat) : (Zd2 x n).Nodup := (ZfK x n).imp fun {a b} h e => by subst e; exact List.lt_irrefl _ h
theorem ZfY (x : List Ent) (s : List UInt8) : ∀ n, s ∈ Zd2 x n ↔ ∃ i < n, xk (xa x i) = 3 /\ ZY (xa x i) = s
 | 0 => by simp [Zd2]
 | n + 1 => by
  unfold Zd2
  split
  ·rename_i h
   rw [Zpv, ZfY x s n]
   constructor
   ·rintro (⟨i, hi, a⟩ | rfl)
    ·exact ⟨i, by omega, a⟩
    ·exact ⟨n, by omega, h, rfl⟩
   ·rintro ⟨i, hi, a⟩
    rcases ZPL i n with q | q
    ·exact .inl ⟨i, q, a⟩
    ·have : i = n := by omega
     subst this; exact .inr a.2.symm
  ·rename_i h
   rw [ZfY x s n]
   constructor
   ·rintro ⟨i, hi, a⟩; exact ⟨i, by omega, a⟩
   ·rintro ⟨i, hi, a⟩
    rcases ZPL i n with q | q
    ·exact ⟨i, q, a⟩
    ·have : i = n := by omega
     subst this; exact absurd a.1 h
theorem Zky (x : List Ent) : ∀ n, (Zd2 x n).length <= n
 | 0 => ZPH _
 | n + 1 => by
  have ih := Zky x n
  have hi : ∀ (l : List (List UInt8)) k, (ZhT l k).length <= l.length + 1 := by
   intro l k
   induction l with
   | nil => simp [ZhT]
   | cons a l ih =>
    unfold ZhT
    split
    ·simp only [ZQb]; omega
    ·split <;> simp
  unfold Zd2
  split
  ·have := hi (Zd2 x n) (ZY (xa x n)); omega
  ·omega
def ZKT (x : List Ent) : List (List Int) := ZfW (leF x (ZM x x.length)) ((Zd2 x x.length).map Ze2) (Zd2 x x.length).length
def Zkc (x : List Ent) : Int := if Zb9 x ≠ 0 then Zb9 x else if 0 <= (ZcO x x.length).1 then 280 else 0
def finR' (x : List Ent) : List (List Int) := if Zkc x = 0 then ZKT x else []
theorem Zpx {x : List Ent} {w : Int} {k : List UInt8} : ∀ {n : Nat}, 0 <= YF x w k n -> (YF x w k n).toNat < n /\ ZY (xa x (YF x w k n).toNat) = k
 | 0, h => absurd h (by show ¬ (0 : Int) <= -1; omega)
 | n + 1, h => by
  rw [ZbE] at h ⊢
  split
  ·rename_i q; exact ⟨by omega, by rw [ZPY]; exact q.2.2⟩
  ·rename_i q; rw [if_neg q] at h
   have := Zpx h
   exact ⟨by omega, this.2⟩
theorem ZAT {x : List Ent} {ks : List Int} {k : List UInt8} : ∀ {n : Nat}, (Zch x ks k n).2 = true -> k ∈ Zd2 x x.length
 | 0, h => by cases h
 | n + 1, h => by
  rw [Zc4] at h
  by_cases hl : 0 <= YF x (ks.getD n 0) k x.length
  ·rw [if_pos hl] at h
   have := Zpx hl
   exact (ZfY x k _).2 ⟨_, this.1, of_decide_eq_true h, this.2⟩
  ·rw [if_neg hl] at h; exact ZAT h
theorem Zsm {m : List (Int × Int)} {k : Int} : Zx m k = true ↔ k ∈ m.map (·.1) := by
 induction m with
 | nil => simp [Zx]
 | cons p l ih =>
  obtain ⟨a, b⟩ := p
  show (if a = k then true else Zx l k) = true ↔ _
  by_cases e : a = k
  ·simp [e]
  ·rw [if_neg e, ih]; simp [Ne.symm e]
theorem ZL6 {x : List Ent} {B : Bk} (h : Go x B) {m : List (Int × Int)} (hm : Zhs m (stF B B.kept.length)) (hc : canM m) : ZfW (mvF m) (Ztl m) (Ztl m).length = ZKT x := by
 unfold ZKT
 have e1 : Ztl m = (ZtA ((m.map fun p => [p.1]).map txt)).map Ze2 := rfl
 have e2 : (m.map fun p => [p.1]).map txt = (m.map (·.1)).map fun k => Yc k.toNat := by rw [List.map_map, List.map_map]; rfl
 have hin : ∀ s, s ∈ ZtA ((m.map fun p => [p.1]).map txt) ↔ Zx m (Zr s : Nat) = true := by
  intro s
  rw [(ZbR _).mem_iff, e2, Zsm, List.mem_map]
  constructor
  ·rintro ⟨k, hk, rfl⟩
   obtain ⟨p, hp, rfl⟩ := List.mem_map.1 hk
   obtain ⟨t, ht⟩ := hc.2 p hp
   rw [ht, ZPY, Zm, <- ht]; exact hk
  ·intro hk; exact ⟨_, hk, by rw [ZPY, Zm]⟩
 have hks : ∀ s : List UInt8, B.kept.length = (ZM x x.length).length := fun _ => (ZbJ h).symm
 have hag : ∀ s : List UInt8, Zx m (Zr s : Nat) = true -> mvF m s = leF x (ZM x x.length) s \/ False := by
  intro s hs
  have a := hm (Zr s : Nat)
  rw [hs] at a
  rcases ZqS h s B.kept.length (ZPH _) with q | q
  ·rw [q.1] at a; exact absurd a.1 (by simp)
  ·rw [q.1] at a
   left
   unfold mvF leF
   rw [a.2, <- hks s]
 rw [e1, ZP1]
 refine Zs1 (ZnO _) ((ZfK x _).imp fun h => List.le_of_lt h) ?_ (ZKu x _) ?_ ?_
 ·rw [(ZbR _).nodup_iff, e2]
  refine List.pairwise_map.2 ?_
  have hn := hc.1
  have hca : ∀ k : Int, k ∈ m.map (·.1) -> ∃ s : List UInt8, k = (Zr s : Nat) := fun k hk => by
   obtain ⟨p, hp, rfl⟩ := List.mem_map.1 hk; exact hc.2 p hp
  refine List.Pairwise.imp_of_mem (fun {a b} ha hb hab e => hab ?_) hn
  obtain ⟨s, rfl⟩ := hca a ha
  obtain ⟨t, rfl⟩ := hca b hb
  rw [ZPY, ZPY, Zm, Zm] at e
  rw [e]
 ·intro s
  rw [hin]
  constructor
  ·rintro ⟨a, b⟩
   rcases hag s a with e | e
   ·rw [e] at b; exact ⟨ZAT b, b⟩
   ·exact e.elim
  ·rintro ⟨_, b⟩
   have hs : Zx m (Zr s : Nat) = true := by
    have a := hm (Zr s : Nat)
    rcases ZqS h s B.kept.length (ZPH _) with q | q
    ·unfold leF at b
     rw [<- hks s, q.2] at b; cases b
    ·rw [q.1] at a; exact a.1
   refine ⟨hs, ?_⟩
   rcases hag s hs with e | e
   ·rw [e]; exact b
   ·exact e.elim
 ·intro s hs hb
  rcases hag s ((hin s).1 hs) with e | e
  ·rw [e]
  ·exact e.elim
end
end Go.Proofs.YtidlngnhjffepaaGreat
namespace Go.Proofs
open Go.Shelf
def Tryz.lays190_ren : Go.Shelf.Ren := ⟨fun | 190 => 57 | 125 => 74 | 258 => 77 | 128 => 94 | 129 => 95 | 302 => 96 | 303 => 97 | 304 => 98 | 305 => 99 | 306 => 100 | 307 => 101 | 308 => 102 | 309 => 103 | 310 => 104 | 333 => 119 | 329 => 115 | 330 => 116 | 334 => 120 | 335 => 121 | 336 => 122 | 344 => 127 | n => n, fun | 31 => 70 | 9 => 9 | 3 => 3 | 46 => 126 | 0 => 0 | 51 => 148 | 53 => 150 | 4 => 4 | 183 => 141 | 182 => 140 | 131 => 145 | 5 => 5 | 218 => 163 | 222 => 167 | 228 => 174 | 229 => 75 | n => n, fun | n => n⟩
theorem Tryz.lays190 : Go.Proofs.Lays.n190 Tryz.prog Tryz.lays190_ren := {
 mixed := by kernel_rfl
 f125 := Tryz.func74.trans (congrArg some (by kernel_rfl))
 f128 := Tryz.func94.trans (congrArg some (by kernel_rfl))
 f129 := Tryz.func95.trans (congrArg some (by kernel_rfl))
 f190 := Tryz.func57.trans (congrArg some (by kernel_rfl))
 f258 := Tryz.func77.trans (congrArg some (by kernel_rfl))
 f302 := Tryz.func96.trans (congrArg some (by kernel_rfl))
 f303 := Tryz.func97.trans (congrArg some (by kernel_rfl))
 f304 := Tryz.func98.trans (congrArg some (by kernel_rfl))
 f305 := Tryz.func99.trans (congrArg some (by kernel_rfl))
 f306 := Tryz.func100.trans (congrArg some (by kernel_rfl))
 f307 := Tryz.func101.trans (congrArg some (by kernel_rfl))
 f308 := Tryz.func102.trans (congrArg some (by kernel_rfl))
 f309 := Tryz.func103.trans (congrArg some (by kernel_rfl))
 f310 := Tryz.func104.trans (congrArg some (by kernel_rfl))
 f329 := Tryz.func115.trans (congrArg some (by kernel_rfl))
 f330 := Tryz.func116.trans (congrArg some (by kernel_rfl))
 f333 := Tryz.func119.trans (congrArg some (by kernel_rfl))
 f334 := Tryz.func120.trans (congrArg some (by kernel_rfl))
 f335 := Tryz.func121.trans (congrArg some (by kernel_rfl))
 f336 := Tryz.func122.trans (congrArg some (by kernel_rfl))
 f344 := Tryz.func127.trans (congrArg some (by kernel_rfl))
 t0 := Tryz.underlying0
 a0 := Tryz.isAgg0
 z0 := Tryz.sizeOf0
 v0 := Tryz.zeroValue0
 t3 := Tryz.underlying3
 a3 := Tryz.isAgg3
 z3 := Tryz.sizeOf3
 v3 := Tryz.zeroValue3
 t4 := Tryz.underlying4
 a4 := Tryz.isAgg4
 z4 := Tryz.sizeOf4
 v4 := Tryz.zeroValue4
 t5 := Tryz.underlying5
 a5 := Tryz.isAgg5
 z5 := Tryz.sizeOf5
 v5 := Tryz.zeroValue5
 t9 := Tryz.underlying9
 a9 := Tryz.isAgg9
 z9 := Tryz.sizeOf9
 v9 := Tryz.zeroValue9
 t31 := Tryz.underlying70
 a31 := Tryz.isAgg70
 z31 := Tryz.sizeOf70
 v31 := Tryz.zeroValue70
 t46 := Tryz.underlying126
 a46 := Tryz.isAgg126
 z46 := Tryz.sizeOf126
 v46 := Tryz.zeroValue126
 t51 := Tryz.underlying148
 a51 := Tryz.isAgg148
 z51 := Tryz.sizeOf148
 v51 := Tryz.zeroValue148
 t53 := Tryz.underlying150
 a53 := Tryz.isAgg150
 z53 := Tryz.sizeOf150
 v53 := Tryz.zeroValue150
 t131 := Tryz.underlying145
 a131 := Tryz.isAgg145
 z131 := Tryz.sizeOf145
 v131 := Tryz.zeroValue145
 t182 := Tryz.underlying140
 a182 := Tryz.isAgg140
 z182 := Tryz.sizeOf140
 v182 := Tryz.zeroValue140
 t183 := Tryz.underlying141
 a183 := Tryz.isAgg141
 z183 := Tryz.sizeOf141
 v183 := Tryz.zeroValue141
 t218 := Tryz.underlying163
 a218 := Tryz.isAgg163
 z218 := Tryz.sizeOf163
 v218 := Tryz.zeroValue163
 t222 := Tryz.underlying167
 a222 := Tryz.isAgg167
 z222 := Tryz.sizeOf167
 v222 := Tryz.zeroValue167
 t228 := Tryz.underlying174
 a228 := Tryz.isAgg174
 z228 := Tryz.sizeOf174
 v228 := Tryz.zeroValue174
 t229 := Tryz.underlying75
 a229 := Tryz.isAgg75
 z229 := Tryz.sizeOf75
 v229 := Tryz.zeroValue75 }
open Go.Sort Go.RowKit in
theorem Tryz.slices_Sort_string (blk off cap : Nat) (ss : List (List UInt8)) (w : World) (hH : Holds encStr w blk off ss.toArray) (hblk : blk < w.heap.size) (hsz : ss.length < 4611686018427387904) :
  Calls Tryz.prog 57 #[.slice (some ⟨blk, off, none⟩) ss.length cap] w fun e w' =>
   e = .returned (.tuple #[]) /\ ∃ n os, w' = grow (putRow encStr (Sort.ahead w n) blk off (ss.mergeSort fun x y => decide (x <= y)).toArray) os := Any.slices_Sort_string Tryz.lays190 blk off cap ss w hH hblk hsz
open Go.RowKit Go.Sort in
theorem Tryz.slices_Sort_string_none (p : Option Addr) (cap : Nat) (w : World) :
  Calls Tryz.prog 57 #[.slice p 0 cap] w fun e w' => e = .returned (.tuple #[]) /\ w' = w := Any.slices_Sort_string_none Tryz.lays190 p cap w
end Go.Proofs
namespace Go.Proofs.YtidlngnhjffepaaGreat
noncomputable section
open Go.Eng
open Go.Sort (grow flatK putRow putRowK HoldsK setMany ahead PermIn SortedIn)
open Go.Proofs (ltOf sortWorldK)
def rF : List Go.Eng.Fd := .int .i64 :: hF
def ZaB (x : List Int) : List Value := rowVals rF x
theorem ZbW (x : List Int) : (ZaB x).length = 7 := ZZ rF x
theorem ZfF (l : List (List Int)) : (l.flatMap ZaB).length = l.length * 7 := by
 induction l with
 | nil => rfl
 | cons a l ih => rw [List.flatMap_cons, ZPW, ih, ZbW, ZQb]; omega
theorem ZrC : ∀ (l : List (List Int)) (t : Nat), t < l.length * 7 -> (l.flatMap ZaB)[t]? = some ((ZaB (l.getD (t / 7) default))[t % 7]!)
 | [], t, h => by simp at h
 | x :: l, t, h => by
  rw [List.flatMap_cons]
  by_cases h7 : t < 7
  ·rw [ZP9 (by rw [ZbW]; exact h7), Nat.div_eq_of_lt h7, Nat.mod_eq_of_lt h7]
   have hl : t < (ZaB x).length := by rw [ZbW]; exact h7
   rw [ZPU hl]
   show some (ZaB x)[t] = some (ZaB x)[t]!
   rw [getElem!_pos _ t hl]
  ·rw [ZQa (by rw [ZbW]; omega), ZbW, ZrC l (t - 7) (by rw [ZQb] at h; omega)]
   have e1 : t / 7 = (t - 7) / 7 + 1 := by omega
   have e2 : t % 7 = (t - 7) % 7 := by omega
   rw [e1, e2]; rfl
theorem ZeJ (l : List (List Int)) : (flatK ZaB 7 l.toArray).toList = l.flatMap ZaB := by
 apply List.ext_getElem?
 intro t
 by_cases h : t < l.length * 7
 ·rw [ZrC l t h]
  have := Go.Sort.get_flatK ZaB 7 l.toArray t (by simpa using h)
  have hs : t < (flatK ZaB 7 l.toArray).size := by simpa using h
  rw [getElem!_pos _ t hs] at this
  rw [ZPG, Array.getElem?_eq_getElem hs, this]
  congr 2
  simp [Array.getElem!_eq_getD, Array.getD_eq_getD_getElem?, ZPR]
 ·rw [List.getElem?_eq_none (by simpa using h)]
  have hl : (l.flatMap ZaB).length = l.length * 7 := ZfF l
  rw [List.getElem?_eq_none (by omega)]
theorem Sat.push' {w0 w : World} {H : HProp} (h : Sat w0 H w) (x : Obj) : Sat w0 H { w with heap := w.heap.push x } := by
 obtain ⟨y, hy, hi⟩ := h
 exact ⟨y, hy, hi.push x⟩
theorem Sat.grow {w0 : World} {H : HProp} : ∀ (os : List Obj) {w : World}, Sat w0 H w -> Sat w0 H (grow w os.toArray)
 | [], w, h => by rw [show (([] : List Obj).toArray) = #[] from rfl, Go.Sort.grow_empty]; exact h
 | x :: os, w, h => by
  have := Sat.grow os (Sat.push' h x)
  have e : Go.Sort.grow { w with heap := w.heap.push x } os.toArray = Go.Sort.grow w (x :: os).toArray := by
   unfold Go.Sort.grow; simp
  rw [e] at this; exact this
theorem Sat.cells {w0 : World} {b o : Nat} {z : Bool} {H : HProp} : ∀ (new : List Value) (i : Nat) (cs : List Value) (w : World), Sat w0 (Zd (row b o cs z) H) w -> i + new.length <= cs.length →
  Sat w0 (Zd (row b o (cs.take i ++ new ++ cs.drop (i + new.length)) z) H) (w.setCells b (o + i) new)
 | [], i, cs, w, h, _ => by simpa [World.setCells] using h
 | v :: new, i, cs, w, h, hl => by
  simp only [ZQb] at hl
  have hs := h.store (i := i) (by omega) v
  have := Sat.cells new (i + 1) (cs.set i v) _ hs (by simp; omega)
  have e : (cs.set i v).take (i + 1) ++ new ++ (cs.set i v).drop (i + 1 + new.length) = cs.take i ++ (v :: new) ++ cs.drop (i + (v :: new).length) := by
   have e1 : (cs.set i v).take (i + 1) = cs.take i ++ [v] := by
    rw [List.take_add_one, List.take_set_of_le (ZPH i), List.getElem?_set_self (by omega)]
    rfl
   rw [e1, List.drop_set_of_lt (by omega), ZQb]
   simp [Nat.add_assoc, Nat.add_comm 1]
  rw [e] at this
  exact this
theorem Sat.put {w0 w : World} {b : Nat} {z : Bool} {H : HProp} {old new : List (List Int)} {spare : List Value} (h : Sat w0 (Zd (row b 0 (old.flatMap ZaB ++ spare) z) H) w) (hl : new.length = old.length) :
  Sat w0 (Zd (row b 0 (new.flatMap ZaB ++ spare) z) H) (putRowK ZaB 7 w b 0 new.toArray) := by
 have len : ∀ l : List (List Int), (l.flatMap ZaB).length = l.length * 7 := ZfF
 have hh : HoldsK ZaB 7 w b 0 old.toArray := by
  intro j hj
  rw [Go.Sort.size_flatK] at hj
  have hj' : j < (old.flatMap ZaB ++ spare).length := by rw [ZPW, len]; simp at hj; omega
  have := h.load hj'
  rw [List.getElem_append_left (by rw [len]; simpa using hj)] at this
  have e : (flatK ZaB 7 old.toArray)[j]! = (old.flatMap ZaB)[j]'(by rw [len]; simpa using hj) := by
   have hs : j < (flatK ZaB 7 old.toArray).size := by simpa using hj
   rw [getElem!_pos _ j hs, <- Array.getElem_toList]
   congr 1
   exact ZeJ old
  rw [e]
  exact this
 have e1 : putRowK ZaB 7 w b 0 old.toArray = w := Go.Sort.putRowK_self ZaB 7 w b 0 _ hh
 have e2 := Go.Sort.setCells_putRow w b 0 (new.flatMap ZaB) 0 (flatK ZaB 7 old.toArray) (by simp [len, hl])
 have e3 : setMany (flatK ZaB 7 old.toArray) 0 (new.flatMap ZaB) = flatK ZaB 7 new.toArray := by
  refine Go.Sort.ext_get! (by simp [hl]) fun t ht => ?_
  have ht' : t < old.length * 7 := by simpa using ht
  rw [Go.Sort.get_setMany _ _ _ _ (by simpa using ht'), if_pos (by rw [len]; omega), Nat.sub_zero]
  have hs : t < (flatK ZaB 7 new.toArray).size := by simp [hl]; exact ht'
  have ht2 : t < (new.flatMap ZaB).length := by rw [len]; omega
  rw [getElem!_pos _ t ht2, getElem!_pos _ t hs, <- Array.getElem_toList]
  congr 1
  exact (ZeJ new).symm
 rw [show putRow id w b 0 (flatK ZaB 7 old.toArray) = w from e1, e3] at e2
 have := Sat.cells (new.flatMap ZaB) 0 _ w h (by rw [ZPW, len, len]; omega)
 rw [e2, List.take_zero, List.nil_append, Nat.zero_add, show (new.flatMap ZaB).length = (old.flatMap ZaB).length by rw [len, len, hl], List.drop_left] at this
 exact this
theorem ltPage' (x y : List Int) : ltOf (fun x y : List Int => Go.Lib.compareInt (g0 x) (g0 y)) x y = decide (g0 x < g0 y) := by
 unfold ltOf Go.Lib.compareInt
 by_cases h1 : g0 x < g0 y
 ·simp [h1]
 ·by_cases h2 : g0 y < g0 x <;> simp [h1, h2]
theorem ZsM {R : List (List Int)} {d' : Array (List Int)} (hp : Go.Sort.PermIn 0 R.length R.toArray d')
  (hs : Go.Sort.SortedIn (ltOf fun x y : List Int => Go.Lib.compareInt (g0 x) (g0 y)) 0 R.length d') : d'.toList.length = R.length /\ SrtP R d'.toList := by
 obtain ⟨h1, h2, h3⟩ := hp
 have hsz : d'.size = R.length := by simpa using h1
 have h3 : d'.toList.Perm R := by
  have e1 : (d'.extract 0 R.length) = d' := by rw [<- hsz]; simp
  have e2 : (R.toArray.extract 0 R.length) = R.toArray := by simp
  rw [e1, e2] at h3
  simpa using h3
 refine ⟨by simpa using hsz, h3, ?_⟩
 rw [List.pairwise_iff_getElem]
 intro i j hi hj hij
 have := hs i j (Nat.zero_le _) hij (by rw [Array.length_toList] at hj; omega)
 rw [ltPage', decide_eq_false_iff_not, getElem!_pos _ _ (by simpa using hj), getElem!_pos _ _ (by simpa using hi)] at this
 simp only [Array.getElem_toList]
 omega
def ZEL (P : Program) (f g : FuncId) : Prop := ∀ (blk cap : Nat) (d : Array (List Int)) (w : World), HoldsK ZaB 7 w blk 0 d -> blk < w.heap.size -> d.size < 4611686018427387904 →
  Calls P f #[.slice (some ⟨blk, 0, none⟩) d.size cap, .func (.func g) #[] #[]] w fun e w' => e = .returned (.tuple #[]) ∧
   ∃ d' n os, PermIn 0 d.size d d' /\ SortedIn (ltOf fun x y : List Int => Go.Lib.compareInt (g0 x) (g0 y)) 0 d.size d' /\ w' = sortWorldK ZaB 7 w blk 0 n d' os
def SortNone (P : Program) (f : FuncId) : Prop := ∀ (p : Option Addr) (cap : Nat) (fv : Value) (w : World), Calls P f #[.slice p 0 cap, fv] w fun e w' => e = .returned (.tuple #[]) /\ w' = w
theorem ZgJ (R : List (List Int)) : R.flatMap (rowVals rF) = R.flatMap ZaB := rfl
theorem ZNQ (S : Sig GG) (hS : JsSig S) {P : Program} {f : FuncId} (hsome : ZEL P f 45) (hnone : SortNone P f) : ZA S P f ZcE := by
 intro ch w0 F ρ w xs hx hq hsat
 obtain ⟨v1, v2, rfl, hv1, hv2⟩ : ∃ v1 v2, xs = [v1, v2] /\ SV.R S ρ (.one (.slice (ai 0) z0 z0 z0 (ai 2) (ai 3) 7)) v1 /\ SV.R S ρ (.one (.fn 45)) v2 := by
  match xs, hx with
  | [v1, v2], hx => exact ⟨v1, v2, rfl, hx.1, hx.2.1⟩
 have hv1 := R_one S ρ hv1
 have hv2 := R_one S ρ hv2
 have q1 := hq (eLe z0 (ai 2)) (by simp [ZcE])
 have q2 := hq (.f2 45 (ai 2) (Zh (rA 1))) (by simp [ZcE])
 have q3 := hq (eLe (ai 2) (.int 140737488355328)) (by simp [ZcE])
 rw [Ze] at q1 q3
 have q2 : ((ai 2).den S ρ).tI = ((Zh (rA 1)).den S ρ).tI := by
  have : (ap2 45 ((ai 2).den S ρ) ((Zh (rA 1)).den S ρ)).tP := q2
  rw [p45] at this; exact this
 simp only [ZcE, Zq, star_assoc, Ch.den, rAr] at hsat
 rw [SX.den_wc, SX.den_wc, SX.den_wc] at hsat
 simp only [SX.den, ai, rA, Zh, Yd, U.co, U.tIi, z0] at q1 q2 q3 hsat
 subst hv1 hv2
 simp only [SC.den, SX.den, ai, U.co, U.tIi, z0, if_true, ZPO, Nat.zero_mul, Nat.zero_add, ite_self]
 generalize hb : (ρ 0).tI = b at *
 generalize hn : (ρ 2).tI = n at *
 generalize hR : (ρ 1).tR = R at *
 generalize hc : (ρ 4).tI = c at *
 obtain ⟨spare, hsat⟩ := Yy hsat
 obtain ⟨g1, hsat⟩ := Zs hsat
 obtain ⟨g2, hsat⟩ := Zs hsat
 obtain ⟨g3, hsat⟩ := Zs hsat
 have hlen := ZfF R
 simp only [rE, En.vals, En.stride, ZQb, List.length_nil, U.tIi, U.tRi] at g1 g2 g3 q2 hsat
 simp only [show (Go.Eng.Fd.int IntKind.i64 :: hF) = rF from rfl, ZgJ] at g1 g3 hsat
 by_cases hR0 : R = []
 ·subst hR0
  have hn0 : n = 0 := by simpa using q2
  subst hn0
  refine (hnone _ _ _ w).mono ?_
  rintro e w' ⟨rfl, rfl⟩
  refine ⟨ρ.upd 5 (.rows []), .tuple #[], Ext.upd _ _, rfl, .inr rfl, ?_, ?_⟩
  ·simp only [ZcE, Zq, star_assoc, Ch.den, rAr]
   rw [SX.den_wc, SX.den_wc, SX.den_wc]
   simp only [SX.den, ai, rA, U.co, U.tIi, Env.upd, if_true, Nat.reduceEqDiff, reduceIte, hb, hc, U.tRi]
   exact YI spare (Zv (by simpa [rE, En.vals, En.stride] using g1) (Zv g2 (Zv g3 (by simp only [rE, En.vals, List.flatMap_nil, U.tRi]; exact hsat))))
  ·intro x hx
   simp only [ZcE, List.mem_cons, List.not_mem_nil, or_false] at hx
   rcases hx with rfl | rfl
   ·show (ap2 45 ((Zh (rA 5)).den S _) ((Zh (rA 1)).den S _)).tP
    rw [p45]; simp [SX.den, Zh, rA, Yd, Env.upd, hR, U.co]
   ·simp only [srtX, usB, SX.den, hS.u580, rA, Env.upd, if_true, Nat.reduceEqDiff, reduceIte, U.co, hR, U.tRi, U.tPi, U.tQi, Zj]
    exact ⟨List.Perm.refl _, List.Pairwise.nil⟩
 ·have hRl : 0 < R.length := List.length_pos_iff.2 hR0
  have hb0 : 0 <= b := by
   rcases g3 with h | h
   ·exact h
   ·exfalso; rw [h, hlen] at g1; simp at g1; omega
  have hn' : n.toNat = R.length := by omega
  have hlt := hsat.row_lt (by intro e; have := congrArg List.length e; rw [ZPW, hlen] at this; simp at this; omega)
  have hold : HoldsK ZaB 7 w b.toNat 0 R.toArray := by
   intro j hj
   have hj0 := hj
   rw [Go.Sort.size_flatK] at hj
   have hj' : j < (R.flatMap ZaB ++ spare).length := by rw [ZPW, hlen]; simp at hj; omega
   have := hsat.load hj'
   rw [List.getElem_append_left (by rw [hlen]; simpa using hj)] at this
   rw [getElem!_pos _ j hj0, <- Array.getElem_toList]
   have e : (flatK ZaB 7 R.toArray).toList[j]'(by simpa using hj0) = (R.flatMap ZaB)[j]'(by rw [hlen]; simpa using hj) := by
    congr 1
    exact ZeJ _
   rw [e]
   exact this
  have hcall := hsome b.toNat (SX.den S ρ (ai 3)).tI.toNat R.toArray w hold hlt.2 (by simp; omega)
  rw [if_neg (by omega), hn']
  refine hcall.mono ?_
  rintro e w' ⟨rfl, d', m, os, hp, hs, rfl⟩
  obtain ⟨hyl, hys⟩ := ZsM (by simpa using hp) (by simpa using hs)
  refine ⟨ρ.upd 5 (.rows d'.toList), .tuple #[], Ext.upd _ _, rfl, .inr rfl, ?_, ?_⟩
  ·simp only [ZcE, Zq, star_assoc, Ch.den, rAr]
   rw [SX.den_wc, SX.den_wc, SX.den_wc]
   simp only [SX.den, ai, rA, U.co, U.tIi, Env.upd, if_true, Nat.reduceEqDiff, reduceIte, hb, hc, U.tRi]
   have hput : Sat w0 (Zd (row b.toNat 0 (d'.toList.flatMap ZaB ++ spare) true) (Zd (hpDen (S.wc ch) (ρ.upd 5 (.rows d'.toList)) w0 []) F)) (sortWorldK ZaB 7 w b.toNat 0 m d' os) := by
    have h1 := Sat.put (new := d'.toList) (hsat.drew (w.drawn + m)) (by simpa using hp.1)
    have h2 := Sat.grow os.toList h1
    exact h2
   refine YI spare (Zv ?_ (Zv g2 (Zv g3 ?_)))
   ·simp only [rE, En.vals, En.stride, ZQb, List.length_nil, U.tIi, U.tRi, show (Go.Eng.Fd.int IntKind.i64 :: hF) = rF from rfl, ZgJ]
    rw [ZfF, hyl, <- hlen]; exact g1
   ·simp only [rE, En.vals, U.tRi, show (Go.Eng.Fd.int IntKind.i64 :: hF) = rF from rfl, ZgJ]
    exact hput
  ·intro x hx
   simp only [ZcE, List.mem_cons, List.not_mem_nil, or_false] at hx
   rcases hx with rfl | rfl
   ·show (ap2 45 ((Zh (rA 5)).den S _) ((Zh (rA 1)).den S _)).tP
    rw [p45]; simp only [SX.den, Zh, rA, Yd, Env.upd, hR, U.co, if_true, Nat.reduceEqDiff, reduceIte, U.tRi, U.tIi, hyl]
   ·simp only [srtX, usB, SX.den, hS.u580, rA, Env.upd, if_true, Nat.reduceEqDiff, reduceIte, U.co, hR, U.tRi, U.tPi, U.tQi, Zj]
    exact hys
end
end Go.Proofs.YtidlngnhjffepaaGreat
namespace Go.Proofs.YtidlngnhjffepaaGreat
noncomputable section
open Go.Eng
open Go.Sort (grow putRow Holds ahead)
open Go.Proofs (encStr)
/-! ### Pairs in memory -/
def tx1 (w : List Int) : List UInt8 := Yc (w.getD 1 0).toNat
def itF (r w : List Int) : Prop := g1 r = ((txt w).length : Nat) /\ r.getD 4 0 = ((tx1 w).length : Nat) /\ g1 r <= g2 r /\ r.getD 4 0 <= r.getD 5 0 /\ 0 <= g0 r /\ 0 <= r.getD 3 0
def itP (r w : List Int) : HProp := fun h => itF r w /\ Zd (bAD (g0 r) (txt w) (g2 r)) (bAD (r.getD 3 0) (tx1 w) (r.getD 5 0)) h
def prH : List (List Int) -> List (List Int) -> HProp
 | [], [] => emp
 | r :: R, w :: W => Zd (itP r w) (prH R W)
 | _, _ => fun _ => False
def prO (k W : List (List Int)) : HProp :=
 let i := (g0 (k.getD 0 [])).toNat
 Zd (prH ((k.drop 1).take i) (W.take i)) (prH ((k.drop 1).drop (i + 1)) (W.drop (i + 1)))
structure FiSig (S : Sig GG) : Prop where
 js : JsSig S
 p110 : ∀ w0 k x, S.prd 110 w0 k x = prH k.tR x.tR
 p111 : ∀ w0 k x, S.prd 111 w0 k x = prO k.tR x.tR
 u600 : ∀ a b c d, S.usr 600 a b c d = .rows (Zh0 a.tR)
 u601 : ∀ a b c d, S.usr 601 a b c d = .rows (Ztl a.tM)
 u602 : ∀ a b c d, S.usr 602 a b c d = .rows (ZfW (mvF a.tM) b.tR c.tI.toNat)
 u603 : ∀ a b c d, S.usr 603 a b c d = .rows (finR' a.tR)
 u604 : ∀ a b c d, S.usr 604 a b c d = .int (Zkc a.tR)
 u605 : ∀ a b c d, S.usr 605 a b c d = .bool (Zn (ZHr a.tM b.tM c.tR))
 u610 : ∀ a b c d, S.usr 610 a b c d = .rows ((Zd2 a.tR b.tI.toNat).map Ze2)
 u611 : ∀ a b c d, S.usr 611 a b c d = .bool (Zn (∀ j : Nat, (j : Int) < c.tI -> Op.bytesLess (txt (a.tR.getD j [])) b.tB = true))
 u612 : ∀ a b c d, S.usr 612 a b c d = .rows (ZfW (leF a.tR b.tN) c.tR d.tI.toNat)
 u606 : ∀ a b c d, S.usr 606 a b c d = .bool (Zn (canM a.tM))
def sE : En := .rows [.str]
def sAr (b x c : SX) : Ch := .arr sE b x c
def ZgU : Ctr := ⟨[.int, .rows, .int, .int, .int], [.one (slC (ai 0) (ai 2) (ai 3) 1)], [sAr (ai 0) (rA 1) (ai 4)], [.f2 45 (ai 2) (Zh (rA 1)), eLe (ai 2) (.int 140737488355328)], [], .tup [], [sAr (ai 0) (usR 600 (rA 1) z0 z0) (ai 4)], []⟩
theorem ZjT (R : List (List Int)) : R.flatMap (rowVals [.str]) = (R.map txt).map encStr := by
 rw [List.map_map]
 induction R with
 | nil => rfl
 | cons r R ih => rw [List.flatMap_cons, ZP0, ih]; rfl
theorem Zjl (R : List (List Int)) : (Zh0 R).map txt = ZtA (R.map txt) := by
 unfold Zh0; rw [List.map_map]
 conv => rhs; rw [<- List.map_id (ZtA (R.map txt))]
 exact List.map_congr_left fun s _ => Zks s
theorem ZFc {a : Array Value} {v : Value} {j : Nat} (h : a[j]? = some v) : a[j]! = v := by rw [Array.getElem!_eq_getD, Array.getD_eq_getD_getElem?, h]; rfl
theorem Sat.putS {w0 w : World} {b : Nat} {z : Bool} {H : HProp} {old new : List (List UInt8)} {spare : List Value} (h : Sat w0 (Zd (row b 0 (old.map encStr ++ spare) z) H) w) (hl : new.length = old.length) :
  Sat w0 (Zd (row b 0 (new.map encStr ++ spare) z) H) (putRow encStr w b 0 new.toArray) := by
 have hh : Holds id w b 0 (old.map encStr).toArray := by
  intro j hj
  have hj1 : j < (old.map encStr).length := by simpa using hj
  have hj' : j < (old.map encStr ++ spare).length := by rw [ZPW]; omega
  have := h.load hj'
  rw [List.getElem_append_left hj1] at this
  rw [Nat.zero_add] at this ⊢
  refine ⟨?_, this.2⟩
  rw [this.1]
  congr 1
  exact (ZFc (by rw [List.getElem?_toArray, ZPU hj1])).symm
 have e1 : putRow id w b 0 (old.map encStr).toArray = w := Go.Sort.putRow_self id w b 0 _ hh
 have e2 := Go.Sort.setCells_putRow w b 0 (new.map encStr) 0 (old.map encStr).toArray (by simp [hl])
 have e3 : Go.Sort.setMany (old.map encStr).toArray 0 (new.map encStr) = (new.map encStr).toArray := by
  refine Go.Sort.ext_get! (by simp [hl]) fun t ht => ?_
  have ht' : t < old.length := by simpa using ht
  rw [Go.Sort.get_setMany _ _ _ _ (by simpa using ht'), if_pos (by simp; omega), Nat.sub_zero]
  have ht2 : t < (new.map encStr).length := by simp; omega
  rw [getElem!_pos _ t ht2, getElem!_pos _ t (by simpa using ht2)]
  simp
 have e4 : putRow encStr w b 0 new.toArray = putRow id w b 0 (new.map encStr).toArray := by
  unfold putRow
  congr 1
  funext c
  unfold Go.Sort.putCells
  congr 1
  funext k x
  simp only [List.size_toArray, ZP1, Nat.zero_add, Nat.sub_zero, Nat.zero_le, true_and, id]
  by_cases hk : k < new.length
  ·rw [if_pos hk, if_pos hk, getElem!_pos _ k (by simpa using hk), getElem!_pos _ k (by simpa using hk)]; simp
  ·rw [if_neg hk, if_neg hk]
 rw [e1, e3] at e2
 have := Sat.cells (new.map encStr) 0 _ w h (by simp; omega)
 rw [e2, List.take_zero, List.nil_append, Nat.zero_add, show (new.map encStr).length = (old.map encStr).length by simp [hl], List.drop_left] at this
 rw [e4]
 exact this
theorem ZMX (S : Sig GG) (hS : FiSig S) : ZA S Tryz.prog 57 ZgU := by
 intro ch w0 F ρ w xs hx hq hsat
 obtain ⟨v1, rfl, hv1⟩ : ∃ v1, xs = [v1] /\ SV.R S ρ (.one (slC (ai 0) (ai 2) (ai 3) 1)) v1 := by
  match xs, hx with
  | [v1], hx => exact ⟨v1, rfl, hx.1⟩
 have hv1 := R_one S ρ hv1
 have q2 := hq (.f2 45 (ai 2) (Zh (rA 1))) (by simp [ZgU])
 have q3 := hq (eLe (ai 2) (.int 140737488355328)) (by simp [ZgU])
 rw [Ze] at q3
 have q2 : ((ai 2).den S ρ).tI = ((Zh (rA 1)).den S ρ).tI := by
  have : (ap2 45 ((ai 2).den S ρ) ((Zh (rA 1)).den S ρ)).tP := q2
  rw [p45] at this; exact this
 simp only [ZgU, Zq, star_assoc, Ch.den, sAr] at hsat
 rw [SX.den_wc, SX.den_wc, SX.den_wc] at hsat
 simp only [SX.den, ai, rA, Zh, Yd, U.co, U.tIi, U.tRi] at q2 q3 hsat
 subst hv1
 rw [ZcQ]
 simp only [SX.den, ai, U.co, U.tIi]
 generalize hb : (ρ 0).tI = b at *
 generalize hn : (ρ 2).tI = n at *
 generalize hR : (ρ 1).tR = R at *
 generalize hc : (ρ 4).tI = c at *
 obtain ⟨spare, hsat⟩ := Yy hsat
 obtain ⟨g1, hsat⟩ := Zs hsat
 obtain ⟨g2, hsat⟩ := Zs hsat
 obtain ⟨g3, hsat⟩ := Zs hsat
 simp only [sE, En.vals, En.stride, En.nf, ZQb, List.length_nil, U.tIi, U.tRi, ZjT] at g1 g2 g3 hsat
 have fin : ∀ w', Sat w0 (Zd (row b.toNat 0 ((Zh0 R).flatMap (rowVals [.str]) ++ spare) true) (Zd (hpDen (S.wc ch) ρ w0 []) F)) w' →
   Sat w0 (Zd (hpDen (S.wc ch) ρ w0 ZgU.post) F) w' := by
  intro w' hw
  simp only [ZgU, Zq, star_assoc, Ch.den, sAr, usR]
  rw [SX.den_wc, SX.den_wc, SX.den_wc]
  simp only [SX.den, ai, rA, U.co, U.tIi, hS.u600, hb, hc, hR, U.tRi]
  refine YI spare (Zv ?_ (Zv g2 (Zv g3 hw)))
  simp only [sE, En.vals, En.stride, ZQb, List.length_nil, U.tRi, U.tIi, ZjT, Zjl, ZP1, (ZbR _).length_eq] at g1 ⊢
  exact g1
 by_cases hR0 : R = []
 ·subst hR0
  have hn0 : n = 0 := by simpa using q2
  subst hn0
  refine (Tryz.slices_Sort_string_none _ _ w).mono ?_
  rintro e w' ⟨rfl, rfl⟩
  refine ⟨ρ, .tuple #[], Ext.refl _ _, rfl, .inr rfl, fin _ ?_, fun x hx => nomatch hx⟩
  rw [ZjT, Zjl, show ZtA (([] : List (List Int)).map txt) = ([] : List (List Int)).map txt by simp [ZtA]]
  exact hsat
 ·have hRl : 0 < R.length := List.length_pos_iff.2 hR0
  have hb0 : 0 <= b := by
   rcases g3 with h | h
   ·exact h
   ·exfalso; rw [h] at g1; simp at g1; exact hR0 g1.1
  have hn' : n.toNat = (R.map txt).length := by rw [ZP1]; omega
  have hlt := hsat.row_lt (by intro e; have := congrArg List.length e; simp at this; exact hR0 this.1)
  have hold : Holds encStr w b.toNat 0 (R.map txt).toArray := by
   intro j hj
   have hj0 : j < (R.map txt).length := by simpa using hj
   have hj' : j < ((R.map txt).map encStr ++ spare).length := by simp at hj0 ⊢; omega
   have := hsat.load hj'
   rw [List.getElem_append_left (by simpa using hj0)] at this
   rw [getElem!_pos _ j (by simpa using hj0)]
   simpa using this
  have hcall := Tryz.slices_Sort_string b.toNat 0 (ρ 3).tI.toNat (R.map txt) w hold hlt.2 (by simp; omega)
  unfold slV
  rw [if_neg (by omega), hn']
  refine hcall.mono ?_
  rintro e w' ⟨rfl, m, os, rfl⟩
  refine ⟨ρ, .tuple #[], Ext.refl _ _, rfl, .inr rfl, fin _ ?_, fun x hx => nomatch hx⟩
  have h1 := Sat.putS (new := ZtA (R.map txt)) (hsat.drew (w.drawn + m)) (ZbR _).length_eq
  have h2 := Sat.grow os.toList h1
  rw [ZjT, Zjl]
  exact h2
def canC : Ctr := ⟨[.int, .amap], [.one (.map (ai 0))], [scC (ai 0) (mA 1)], [], [], .tup [], [scC (ai 0) (mA 1)], [usB 606 (mA 1) z0 z0]⟩
theorem ZOh (S : Sig GG) (hS : FiSig S) : YH S canC := by
 refine ZL S fun T w0 ρ h hu hp hd hr hpre => ⟨ρ, Ext.refl _ _, hpre, ?_⟩
 have hT := hS.u606
 rw [<- hu] at hT
 intro x hx
 simp only [canC, ZPK] at hx
 subst hx
 have e1 : hpDen T ρ w0 canC.pre = Zd ((scC (ai 0) (mA 1)).den T ρ w0) emp := rfl
 rw [e1, Zc] at hpre
 obtain ⟨_, es, clock, ⟨_, hn, hk, _⟩, _⟩ := hpre
 simp only [usB, SX.den, hT, YQ, U.tPi, U.tQi, Zj]
 exact ⟨hn, hk⟩
def ZCa : Ctr := ⟨[.int, .amap], [.one (.map (ai 0))], [scC (ai 0) (mA 1)], [eLe z0 (ai 0), eLe (.f1 33 (mA 1)) (.int 1048576)], [.int, .int], .one (slC (ai 2) (Zh (usR 601 (mA 1) z0 z0)) (ai 3) 1),
 [scC (ai 0) (mA 1), sAr (ai 2) (usR 601 (mA 1) z0 z0) (ai 3)], [eLe (Zh (usR 601 (mA 1) z0 z0)) (ai 3)]⟩
def risI (m it b c : Nat) : Inv := ⟨[.amap, .ints, .int, .int, .rows], [(3, .one (slC (di 2) (Zh (rA 1000004)) (di 3) 1))],
 [.itr .str .sb (ai m) (mA 1) (ai it) (mA 1000000) (iA 1000001), sAr (di 2) (rA 1000004) (di 3)],
 [usB 605 (mA 1) (mA 1000000) (rA 1000004), eLe (Zh (rA 1000004)) (di 3)], .f1 33 (mA 1000000)⟩
def ZMz : Cx := { specs := [(57, [ZgU])], anns := [(27, [(3, .inv (risI 0 3 2 1))])] }
def ZHt : SX := vR 601 (m 1)
def ZJh : SX := .f1 32 ZHt
def ZDI : SX := .f2 40 (.f1 32 (r 8)) (k 1)
def ZJz : SX := .f2 143 (m 4) (.f1 35 (b 9))
def ZLq : VC := i (l z (a 0)) (i (l (.f1 33 (m 1)) (k 1048576)) (n (l (.f2 42 (.f1 33 (m 1)) (k 16)) k1) (u 2 .int (i (l z (a 2)) (u 3 .int (i (l z (a 3)) (n (y 605 (m 1) (m 1) (.f1 154 z)) (u 4 .amap (u 5 .ints (u 6 .int (u 7 .int (u 8 .rows (i (y 605 (m 1) (m 4) (r 8)) (i (l (.f1 32 (r 8)) (a 7)) (.and (i (e (.f1 33 (m 4)) z) (n (e (.f1 32 (r 8)) (.f1 32 (r 8))) (n (l (.f1 32 (r 8)) k1) (n (l ZJh (a 7)) (n (.f2 155 ZHt (vR 600 (r 8))) (n (e ZJh (.f1 32 (r 8))) .tt)))))) (u 9 .bytes (i (.f2 141 (m 4) (.f1 35 (b 9))) (u 10 .int (i (l z (a 10)) (n (l (.f1 32 (r 8)) (.f1 32 (r 8))) (n (l (.f2 42 ZDI (k 16)) k1) (u 11 .int (u 12 .int (i (l ZDI (a 12)) (i (.f2 50 (l z (a 11)) (e ZDI z)) (n (t (.f1 33 ZJz) (.f1 33 (m 4))) (n (y 605 (m 1) ZJz (.f2 121 (r 8) (.f2 124 (.f2 122 (.f1 35 (b 9)) (.f1 152 z)) (.f1 154 z)))) .tt)))))))))))))))))))))))))))
theorem ZNF : YV Tryz.prog ZMz 12 27 ZCa = ZLq := by kernel_rfl
theorem ZPz (S : Sig GG) (hS : FiSig S) : ZA S Tryz.prog 27 ZCa := by
 refine Zg S (C := ZMz) (fuel := 12) (ZU ⟨Zi (by decide) (ZMX S hS), trivial⟩ ⟨⟨trivial, trivial⟩, trivial⟩ trivial) fun ρ => ?_
 rw [ZNF]
 simp only [ZLq, ZHt, ZJh, ZDI, ZJz, hS.u600, hS.u601, hS.u605, ZQ, ZPY, VC.den, SX.den, Env.upd, ZX, ZE, beq_iff_eq, ZPQ, beq_eq_false_iff_ne, ne_eq, ZPP, ZPO, Int.reduceToNat, Nat.reduceEqDiff, reduceIte, sB, sC]
 generalize (ρ 1).tM = m
 intro h1 h2
 refine ⟨by omega, fun b hb it hit => ⟨List.Perm.refl _, fun left cur ob oc R g1 g2 => ⟨fun hz => ?_, fun k hk => ?_⟩⟩⟩
 ·have hz : left = [] := ZP6 (by omega)
  subst hz
  have e := ZJm g1
  have hl : (Ztl m).length = R.length := by rw [<- e, ZkY]
  have hm := ZqD m
  exact ⟨trivial, by omega, by omega, e.symm, by omega, trivial⟩
 ·have hl := g1.length_eq
  have hd := Zdk hk
  simp only [ZPW, ZP1] at hl
  exact fun _ _ => ⟨ZP2 _, by omega, fun _ _ _ _ => ⟨by omega, ZEE g1 hk, trivial⟩⟩
end
end Go.Proofs.YtidlngnhjffepaaGreat
namespace Go.Proofs.YtidlngnhjffepaaGreat
noncomputable section
open Go.Eng
def bG : SX := usG 561 xX (Zh xX) z0
def bK (R : SX) : SX := usR 548 xX (Zh xX) R
def bO : SX := usR 549 xX (Zh xX) z0
def Zm0 : Ctr := ⟨hA ++ [.int], [.one (hS 0), .one (.ptr (ai 6) 0)], [hC 0 0, bkC (ai 6) xX], [eLe z0 (ai 6)], [.int, .int, .int, .int, .int, .rows], .tup [],
 [hC 0 0, .cel (ai 6) 0 (bkQ (ai 7) (ai 8) (Zh (bK (rA 12))) (ai 9) (ai 10) (Zh bO) (ai 11) (usI 550 xX (Zh xX) z0) (usI 551 xX (Zh xX) z0)), imC (ai 7) (wM (rA 12) bG), pAr (ai 8) (bK (rA 12)) (ai 9), rAr (ai 10) bO (ai 11), txC (rA 12) bG],
 [eLe z0 (ai 7), eLe (Zh (bK (rA 12))) (ai 9), .f2 50 (eLe z0 (ai 8)) (.f2 45 (Zh (bK (rA 12))) z0), eLe (Zh bO) (ai 11), .f2 50 (eLe z0 (ai 10)) (.f2 45 (Zh bO) z0), usB 558 (rA 12) bG z0, usB 560 (bK (rA 12)) (rA 12) z0, eLe (Zh (bK (rA 12))) (Zh xX), eLe (Zh bO) (Zh xX)]⟩
theorem ZrU {b c : Int} {x : List (List Int)} {fs : List Go.Eng.Fd} (hf : 0 < fs.length) {h : Hl} (hd : rAD (.rows fs) b x c h) : (x.length : Int) <= c /\ (0 <= b \/ (x.length : Int) = 0) := by
 have h1 := ZlC hf hd
 obtain ⟨sp, l1, l2, l3, l4⟩ := hd
 refine ⟨h1, ?_⟩
 rcases l3 with h | h
 ·exact .inl h
 ·right
  have h : c = 0 := h
  omega
theorem Zox (S : Sig GG) (hS : JtSig S) : YH S Zm0 := by
 refine ZL S fun T w0 ρ h hu hp hd hr hpre => ?_
 have hT := hS.of hu hp
 have e1 : hpDen T ρ w0 Zm0.pre = Zd ((hC 0 0).den T ρ w0) (Zd ((bkC (ai 6) xX).den T ρ w0) emp) := rfl
 have r0 := hr (eLe z0 (ai 6)) (by simp [Zm0])
 rw [Ze] at r0
 have r0 : 0 <= ((ai 6).den T ρ).tI := r0
 rw [e1, Zne hT, ZsX, if_neg (by omega), Zc] at hpre
 obtain ⟨p, q, d, rfl, hpp, ma, kb, kc, ob, oc, R, hq⟩ := hpre
 have hX0 : ∀ ρ : Go.Eng.Env GG, (xX.den T ρ).tR = ((rA 4).den T ρ).tR.take (ρ 2).tI.toNat := fun _ => rfl
 generalize hx : (xX.den T ρ).tR = X at hq
 let ρ' : Go.Eng.Env GG := (((((ρ.upd 7 (.int ma)).upd 8 (.int kb)).upd 9 (.int kc)).upd 10 (.int ob)).upd 11 (.int oc)).upd 12 (.rows R)
 have hlow : ∀ i, i < 7 -> ρ' i = ρ i := fun i hi => by
  show ((((((ρ.upd 7 (.int ma)).upd 8 (.int kb)).upd 9 (.int kc)).upd 10 (.int ob)).upd 11 (.int oc)).upd 12 (.rows R)) i = ρ i
  simp only [Env.upd]
  repeat rw [if_neg (by omega)]
 have hx' : (xX.den T ρ').tR = X := by rw [<- hx]; rfl
 have hL : ((Zh xX).den T ρ').tI.toNat = X.length := by
  show ((((xX.den T ρ').tR.length : Nat) : Int)).toNat = _
  rw [hx']; omega
 have hL2 : ((Zh xX).den T ρ').tI = (X.length : Nat) := by
  show (((xX.den T ρ').tR.length : Nat) : Int) = _
  rw [hx']
 have w1 : (bG.den T ρ') = .g (.tx (Z7 X X.length).txs) := by
  have : (bG.den T ρ') = U.co T .g (T.usr 561 (xX.den T ρ') ((Zh xX).den T ρ') (z0.den T ρ') (z0.den T ρ')) := rfl
  rw [this, hT.u561, hL, hx']; rfl
 have w2 : (wM (rA 12) bG).den T ρ' = .amap (ZeQ R (Z7 X X.length).txs) := by
  have : (wM (rA 12) bG).den T ρ' = U.co T .amap (T.usr 547 ((rA 12).den T ρ') (bG.den T ρ') (z0.den T ρ') (z0.den T ρ')) := rfl
  rw [this, hT.u547, w1]; rfl
 have w3 : (bK (rA 12)).den T ρ' = .rows (Zbk R (Z7 X X.length).kept) := by
  have : (bK (rA 12)).den T ρ' = U.co T .rows (T.usr 548 (xX.den T ρ') ((Zh xX).den T ρ') ((rA 12).den T ρ') (z0.den T ρ')) := rfl
  rw [this, hT.u548, hL, hx']; rfl
 have w4 : bO.den T ρ' = .rows (Z7 X X.length).out := by
  have : bO.den T ρ' = U.co T .rows (T.usr 549 (xX.den T ρ') ((Zh xX).den T ρ') (z0.den T ρ') (z0.den T ρ')) := rfl
  rw [this, hT.u549, hL, hx']; rfl
 have w7 : (usI 550 xX (Zh xX) z0).den T ρ' = .int (Z7 X X.length).fault := by
  have : (usI 550 xX (Zh xX) z0).den T ρ' = U.co T .int (T.usr 550 (xX.den T ρ') ((Zh xX).den T ρ') (z0.den T ρ') (z0.den T ρ')) := rfl
  rw [this, hT.u550, hL, hx']; rfl
 have w8 : (usI 551 xX (Zh xX) z0).den T ρ' = .int (Z7 X X.length).what := by
  have : (usI 551 xX (Zh xX) z0).den T ρ' = U.co T .int (T.usr 551 (xX.den T ρ') ((Zh xX).den T ρ') (z0.den T ρ') (z0.den T ρ')) := rfl
  rw [this, hT.u551, hL, hx']; rfl
 have hk : (Zbk R (Z7 X X.length).kept).length = (Z7 X X.length).kept.length := by unfold Zbk; rw [ZP1]
 have n3 : ((Zh (bK (rA 12))).den T ρ').tI = ((Z7 X X.length).kept.length : Nat) := by
  show ((((bK (rA 12)).den T ρ').tR.length : Nat) : Int) = _
  rw [w3, U.tRi, hk]
 have n4 : ((Zh bO).den T ρ').tI = ((Z7 X X.length).out.length : Nat) := by
  show (((bO.den T ρ').tR.length : Nat) : Int) = _
  rw [w4, U.tRi]
 have hwf := ZiA X X.length
 refine ⟨ρ', hlow, ?_, ?_⟩
 ·have e2 : hpDen T ρ' w0 Zm0.post = Zd ((hC 0 0).den T ρ' w0) (Zd ((Ch.cel (ai 6) 0 (bkQ (ai 7) (ai 8) (Zh (bK (rA 12))) (ai 9) (ai 10) (Zh bO) (ai 11) (usI 550 xX (Zh xX) z0) (usI 551 xX (Zh xX) z0))).den T ρ' w0) (Zd ((imC (ai 7) (wM (rA 12) bG)).den T ρ' w0)
   (Zd ((pAr (ai 8) (bK (rA 12)) (ai 9)).den T ρ' w0) (Zd ((rAr (ai 10) bO (ai 11)).den T ρ' w0) (Zd (T.prd 100 w0 ((rA 12).den T ρ') (bG.den T ρ')) emp))))) := rfl
  rw [e2, Zy8, Zue, ZuI, ZjX, Zc, hT.p100, n3, n4, w1, w2, w3, w4, w7, w8]
  refine ⟨p, q, d, rfl, hpp, ?_⟩
  simp only [U.tRi, U.tMi, U.tIi, ZQ]
  exact hq
 ·obtain ⟨_, _, _, hq⟩ := Zd1 hq
  obtain ⟨_, _, hm, hq⟩ := Zd1 hq
  obtain ⟨_, _, hka, hq⟩ := Zd1 hq
  obtain ⟨_, _, hoa, ht⟩ := Zd1 hq
  have k1 := ZrU (by decide) hka
  have k2 := ZrU (by decide) hoa
  have hl := Za7 ht
  rw [hk] at k1
  have p50' : ∀ a b c d : SX, ((Go.Eng.SX.f2 50 (eLe a b) (.f2 45 c d)).den T ρ').tP = ((a.den T ρ').tI <= (b.den T ρ').tI \/ (c.den T ρ').tI = (d.den T ρ').tI) := fun a b c d => by
   have e : (Go.Eng.SX.f2 50 (eLe a b) (.f2 45 c d)).den T ρ' = ap2 50 ((eLe a b).den T ρ') (ap2 45 (c.den T ρ') (d.den T ρ')) := rfl
   have e2 := Ze T ρ' a b
   have e3 : (((eLe a b).den T ρ').toBool = true) = ((a.den T ρ').tI <= (b.den T ρ').tI) := by
    have h1 := ZfS T ρ' a b
    rw [h1, U.tQi, decide_eq_true_eq]
   rw [e, p50, e3, ZpP, U.tQi, beq_iff_eq]
  have a7 : ((ai 7).den T ρ').tI = ma := rfl
  have a8 : ((ai 8).den T ρ').tI = kb := rfl
  have a9 : ((ai 9).den T ρ').tI = kc := rfl
  have a10 : ((ai 10).den T ρ').tI = ob := rfl
  have a11 : ((ai 11).den T ρ').tI = oc := rfl
  have az : (z0.den T ρ').tI = 0 := rfl
  intro x hx
  simp only [Zm0, List.mem_cons, List.not_mem_nil, or_false] at hx
  rcases hx with rfl | rfl | rfl | rfl | rfl | rfl | rfl | rfl | rfl
  ·rw [Ze, a7, az]; exact hm.1
  ·rw [Ze, n3, a9]; exact k1.1
  ·rw [p50', n3, a8, az]; exact k1.2
  ·rw [Ze, n4, a11]; exact k2.1
  ·rw [p50', n4, a10, az]; exact k2.2
  ·have : (usB 558 (rA 12) bG z0).den T ρ' = U.co T .bool (T.usr 558 ((rA 12).den T ρ') (bG.den T ρ') (z0.den T ρ') (z0.den T ρ')) := rfl
   rw [this, hT.u558, w1, YQ, U.tQi, U.tPi, Zj]
   exact ⟨hl, (ZgN ht).1, (ZgN ht).2⟩
  ·have : (usB 560 (bK (rA 12)) (rA 12) z0).den T ρ' = U.co T .bool (T.usr 560 ((bK (rA 12)).den T ρ') ((rA 12).den T ρ') (z0.den T ρ') (z0.den T ρ')) := rfl
   rw [this, hT.u560, w3, YQ, U.tQi, U.tPi, Zj]
   exact Zmx fun k hk => by have := hwf.ki k hk; omega
  ·rw [Ze, n3, hL2]; have := hwf.kl; omega
  ·rw [Ze, n4, hL2]; have := hwf.ol; omega
/-! ### Serial -/
theorem Zh8 {x : List Ent} (hc : Zb9 x = 0) (hf : 0 <= (Z7 x x.length).fault) : 0 <= (ZcO x x.length).1 := by
 have hm : ∀ i < x.length, ZbL (xa x i) = true := by
  unfold Zb9 at hc
  split at hc
  ·cases hc
  ·split at hc
   ·rename_i q
    unfold ZjV at q
    rw [Zj] at q; exact q
   ·cases hc
 obtain ⟨r1, r2⟩ := ZqB x x.length hm
 exact Classical.byContradiction fun q => by
  have := (r1 ⟨q, hm⟩).ft
  omega
theorem Zzn {x : List Ent} {B : Bk} (h : Go x B) : ¬ 0 <= (ZcO x x.length).1 := h.nf.1
def prE : En := .rows [.slice 1, .slice 1]
def ZsJ (b x c : SX) : Ch := .arr prE b x c
def prC (R W : SX) : Ch := .prd 110 R W
theorem Zhz : ∀ {R W : List (List Int)} {h : Hl}, prH R W h -> R.length = W.length
 | [], [], _, _ => rfl
 | r :: R, w :: W, h, hp => by
  obtain ⟨_, _, _, _, _, hb⟩ := hp
  rw [ZQb, ZQb, Zhz hb]
 | [], _ :: _, _, hp => hp.elim
 | _ :: _, [], _, hp => hp.elim
theorem Zj9 : ∀ {R W : List (List Int)} (R' W' : List (List Int)), R.length = W.length -> prH (R ++ R') (W ++ W') = Zd (prH R W) (prH R' W')
 | [], [], R', W', _ => by show prH R' W' = Zd emp _; rw [emp_star]
 | r :: R, w :: W, R', W', h => by
  show Zd _ (prH (R ++ R') (W ++ W')) = Zd (Zd _ _) _
  rw [Zj9 R' W' (by simpa using h), star_assoc]
theorem ZoQ (r w : List Int) : prH [r] [w] = itP r w := by show Zd _ emp = _; rw [Zc]
def ZEH : Ctr := ⟨[], [], [], [], [], .tup [], [prC Zbn Zbn], []⟩
def ZzC : Ctr := ⟨[.int, .int, .int, .int, .int, .int, .rows, .rows, .bytes, .bytes], [.one (slC (ai 0) (ai 1) (ai 2) 1), .one (slC (ai 3) (ai 4) (ai 5) 1)], [prC (rA 6) (rA 7), bAr (ai 0) (bA 8) (ai 2), bAr (ai 3) (bA 9) (ai 5)],
 [.f2 45 (ai 1) (Zm9 (bA 8)), .f2 45 (ai 4) (Zm9 (bA 9)), eLe (ai 1) (ai 2), eLe (ai 4) (ai 5), eLe z0 (ai 0), eLe z0 (ai 3)], [], .tup [],
 [prC (.f2 121 (rA 6) (.f2 124 (Zbm (ai 0) (ai 1) (ai 2) (ai 3) (ai 4) (ai 5)) Zbn)) (.f2 121 (rA 7) (.f2 124 (ZN (.f1 35 (bA 8)) (.f1 35 (bA 9))) Zbn))], []⟩
theorem Ziq (S : Sig GG) (hS : FiSig S) : YH S ZEH := by
 refine ZL S fun T w0 ρ h hu hp hd hr hpre => ⟨ρ, Ext.refl _ _, ?_, by intro x hx; exact nomatch hx⟩
 have hT := hS.p110
 rw [<- hp] at hT
 have e1 : hpDen T ρ w0 ZEH.pre = emp := rfl
 have e2 : hpDen T ρ w0 ZEH.post = Zd (T.prd 110 w0 (Zbn.den T ρ) (Zbn.den T ρ)) emp := rfl
 rw [e1] at hpre
 rw [e2, Zc, hT]
 exact hpre
theorem Zav {G : Type} {S : Sig G} {ρ : Go.Eng.Env G} {a b : SX} (h : ((SX.f2 45 a b).den S ρ).tP) : (a.den S ρ).tI = (b.den S ρ).tI := by
 have h : (ap2 45 (a.den S ρ) (b.den S ρ)).tP := h
 rw [p45] at h; exact h
theorem ZFL (S : Sig GG) (hS : FiSig S) : YH S ZzC := by
 refine ZL S fun T w0 ρ h hu hp hd hr hpre => ⟨ρ, Ext.refl _ _, ?_, by intro x hx; exact nomatch hx⟩
 have hT := hS.p110
 rw [<- hp] at hT
 have e1 : hpDen T ρ w0 ZzC.pre = Zd (T.prd 110 w0 ((rA 6).den T ρ) ((rA 7).den T ρ)) (Zd (bAD (ρ 0).tI (ρ 8).tB (ρ 2).tI) (Zd (bAD (ρ 3).tI (ρ 9).tB (ρ 5).tI) emp)) := rfl
 have e2 : hpDen T ρ w0 ZzC.post = Zd (T.prd 110 w0 ((SX.f2 121 (rA 6) (.f2 124 (Zbm (ai 0) (ai 1) (ai 2) (ai 3) (ai 4) (ai 5)) Zbn)).den T ρ) ((SX.f2 121 (rA 7) (.f2 124 (ZN (.f1 35 (bA 8)) (.f1 35 (bA 9))) Zbn)).den T ρ)) emp := rfl
 have q0 := Zav (hr (.f2 45 (ai 1) (Zm9 (bA 8))) (by simp [ZzC]))
 have q1 := Zav (hr (.f2 45 (ai 4) (Zm9 (bA 9))) (by simp [ZzC]))
 have q2 := hr (eLe (ai 1) (ai 2)) (by simp [ZzC])
 have q3 := hr (eLe (ai 4) (ai 5)) (by simp [ZzC])
 have q4 := hr (eLe z0 (ai 0)) (by simp [ZzC])
 have q5 := hr (eLe z0 (ai 3)) (by simp [ZzC])
 rw [Ze] at q2 q3 q4 q5
 simp only [SX.den, ai, z0, Zm9, bA, Zsl, Zp, ZG, U.tIi, U.tBi] at q0 q1 q2 q3 q4 q5
 rw [e1, Zc, hT] at hpre
 have k0 : ((rA 6).den T ρ).tR = (ρ 6).tR := rfl
 have k1 : ((rA 7).den T ρ).tR = (ρ 7).tR := rfl
 rw [k0, k1] at hpre
 have hl : (ρ 6).tR.length = (ρ 7).tR.length := by
  obtain ⟨_, _, _, _, ha, _⟩ := hpre; exact Zhz ha
 have k2 : ((SX.f2 121 (rA 6) (.f2 124 (Zbm (ai 0) (ai 1) (ai 2) (ai 3) (ai 4) (ai 5)) Zbn)).den T ρ).tR = (ρ 6).tR ++ [[(ρ 0).tI, (ρ 1).tI, (ρ 2).tI, (ρ 3).tI, (ρ 4).tI, (ρ 5).tI]] := rfl
 have k3 : ((SX.f2 121 (rA 7) (.f2 124 (ZN (.f1 35 (bA 8)) (.f1 35 (bA 9))) Zbn)).den T ρ).tR = (ρ 7).tR ++ [[((Zr (ρ 8).tB : Nat) : Int), ((Zr (ρ 9).tB : Nat) : Int)]] := rfl
 rw [e2, Zc, hT, k2, k3, Zj9 _ _ hl, ZoQ]
 refine Zt (fun _ h => h) (fun h' hh => ⟨?_, ?_⟩) h hpre
 ·unfold itF txt tx1
  simp only [g0, g1, g2, List.getD_cons_zero, List.getD_cons_succ, ZPY, Zm]
  exact ⟨q0, q1, q2, q3, q4, q5⟩
 ·unfold txt tx1
  simp only [g0, g2, List.getD_cons_zero, List.getD_cons_succ, ZPY, Zm]
  exact hh
theorem ZFo {α : Type} [DecidableEq α] : ∀ {a b : List α}, a.Nodup -> (∀ x ∈ a, x ∈ b) -> a.length <= b.length
 | [], b, _, _ => Nat.zero_le _
 | x :: a, b, h, hs => by
  rw [List.nodup_cons] at h
  have hx : x ∈ b := hs x ZPZ
  have ih : a.length <= (b.erase x).length := ZFo h.2 fun y hy => (List.mem_erase_of_ne (fun e => h.1 (by rw [<- e]; exact hy))).2 (hs y (ZPX _ hy))
  have hp : 0 < b.length := List.length_pos_of_mem hx
  rw [List.length_erase_of_mem hx] at ih
  rw [ZQb]; omega
theorem ZFP {x : List Ent} {B : Bk} (h : Go x B) (key : List UInt8) : ∀ k ≤ B.kept.length, (stF B k (Zr key : Nat)).1 = true -> ∃ i < x.length, ZY (xa x i) = key
 | 0, _, e => by cases e
 | k + 1, hk, e => by
  obtain ⟨t1, t2⟩ := h.tx (h.kt (k := k) (by omega))
  have hc := ZvV t2 h.nf key
  rw [<- t1] at hc
  have e1 : stF B (k + 1) (Zr key : Nat) = if Zx (B.txs.getD (B.kept.getD k 0) tx0).ch (Zr key : Nat) = true then (true, vw (YB 0 (B.txs.getD (B.kept.getD k 0) tx0).ch (Zr key : Nat))) else stF B k (Zr key : Nat) := rfl
  rw [e1] at e
  by_cases hm : Zx (B.txs.getD (B.kept.getD k 0) tx0).ch (Zr key : Nat) = true
  ·rw [hc.1] at hm
   have hl := Zpx (of_decide_eq_true hm)
   exact ⟨_, hl.1, hl.2⟩
  ·rw [if_neg hm] at e
   exact ZFP h key k (by omega) e
theorem ZIC {x : List Ent} {B : Bk} (h : Go x B) {m : List (Int × Int)} (hm : Zhs m (stF B B.kept.length)) (hc : canM m) : m.length <= x.length := by
 have h1 : (m.map (·.1)).length <= ((List.range x.length).map fun i => ((Zr (ZY (xa x i)) : Nat) : Int)).length := by
  refine ZFo hc.1 fun k hk => ?_
  have hh : Zx m k = true := Zsm.2 hk
  obtain ⟨p, hp, rfl⟩ := List.mem_map.1 hk
  obtain ⟨s, hs⟩ := hc.2 p hp
  rw [hs] at hh ⊢
  have a := hm (Zr s : Nat)
  rw [hh] at a
  obtain ⟨i, hi, e⟩ := ZFP h s _ (ZPH _) a.1.symm
  exact List.mem_map.2 ⟨i, List.mem_range.2 hi, by rw [e]⟩
 simpa using h1
theorem ZeR {x : List Ent} (h : Zkc x ≠ 0) : finR' x = [] := by unfold finR'; rw [if_neg h]
theorem ZpQ {x : List Ent} (h : Zkc x = 0) : finR' x = ZKT x := by unfold finR'; rw [if_pos h]
theorem ZF1 (m : List (Int × Int)) (R : List (List Int)) (n : Nat) : ZfW (mvF m) R (n + 1) = if (YB 0 m (Zr (Yc ((R.getD n []).getD 0 0).toNat) : Nat)).tmod 2 = 0 then
  ZfW (mvF m) R n ++ [[((Zr (Yc ((R.getD n []).getD 0 0).toNat) : Nat) : Int), ((Zr (Yc ((YB 0 m (Zr (Yc ((R.getD n []).getD 0 0).toNat) : Nat)).tdiv 2).toNat) : Nat) : Int)]] else ZfW (mvF m) R n := by
 show (if decide ((YB 0 m (Zr (Yc ((R.getD n []).getD 0 0).toNat) : Nat)).tmod 2 = 0) = true then _ else _) = _
 by_cases h : (YB 0 m (Zr (Yc ((R.getD n []).getD 0 0).toNat) : Nat)).tmod 2 = 0
 ·rw [if_pos h, if_pos (decide_eq_true h)]; rfl
 ·rw [if_neg h, if_neg (by rw [decide_eq_true_eq]; exact h)]
theorem Zob (f : Kf) (R : List (List Int)) : ∀ n, (ZfW f R n).length <= n
 | 0 => ZPH _
 | n + 1 => by
  have ih := Zob f R n
  unfold ZfW
  split
  ·rw [ZPW, ZPF]; omega
  ·omega
theorem ZMT {x : List Ent} (h : Zb9 x ≠ 0) : Zkc x = Zb9 x := by unfold Zkc; rw [if_pos h]
def finW : SX := usR 603 xX z0 z0
def ZrP : Ctr := ⟨hA, [.one (hS 0)], [hC 0 0], [eLe z0 (ai 2), eLe (ai 2) (Zh (rA 4)), eLe (ai 2) (ai 3), eLe (ai 2) (.int 1099511627776)], [.int, .rows, .int, .int], .tup [(false, [slC (ai 6) (Zh (rA 7)) (ai 8) 2]), (false, [.int .i64 (ai 9)])],
 [hC 0 0, ZsJ (ai 6) (rA 7) (ai 8), prC (rA 7) finW], [.f2 45 (ai 9) (usI 604 xX z0 z0), .f2 45 (Zh (rA 7)) (Zh finW), eLe (Zh (rA 7)) (ai 8), .f2 50 (eLe z0 (ai 6)) (.f2 45 (Zh (rA 7)) z0)]⟩
def fnkI (m R : Nat) : Inv := ⟨[.int, .amap], [(34, .one (.int .i64 (di 0)))], [scC (ai m) (mA 1000001)], [eLe z0 (di 0), eLe (di 0) (Zh (bK (rA R))), usB 596 xX (di 0) (mA 1000001)], .f2 41 (Zh (bK (rA R))) (di 0)⟩
def fnK (m : Nat) : SX := usR 601 (mA m) z0 z0
def fnoI (m : Nat) : Inv := ⟨[.int, .int, .rows, .int], [(48, .one (.int .i64 (di 0))), (9, .one (slC (di 1) (Zh (rA 1000002)) (di 3) 2))], [ZsJ (di 1) (rA 1000002) (di 3), prC (rA 1000002) (usR 602 (mA m) (fnK m) (di 0))],
 [eLe z0 (di 0), eLe (di 0) (Zh (fnK m)), .f2 45 (Zh (rA 1000002)) (Zh (usR 602 (mA m) (fnK m) (di 0))), eLe (Zh (rA 1000002)) (di 3), .f2 50 (eLe z0 (di 1)) (.f2 45 (Zh (rA 1000002)) z0)], .f2 41 (Zh (fnK m)) (di 0)⟩
def ZPr : Cx := { specs := [(25, [ZmX]), (26, [ZmM]), (27, [ZCa])], anns := [(12, [(3, .ghost ZEH []), (4, .ghost Zm0 [.tmp 0, .tmp 4]), (5, .ghost ZEH []), (8, .inv (fnkI 14 13)), (10, .ghost ZrY [.tmp 8]), (500010, .ghost ZkN [.tmp 8]), (12, .ghost ZEH []), (13, .ghost canC [.tmp 6]), (14, .inv (fnoI 16)), (500018, .ghost ZzC [.tmp 60, .tmp 63])])] }
def Zft : SX := .f2 115 (r 4) (a 2)
def ZJy : SX := l z (a 6)
def ZEq : SX := e (a 7) z
def ZCI : SX := v 604 Zft
def ZC9 : SX := vR 603 Zft
def ZH7 : SX := .f1 32 ZC9
def ZJn : SX := e z ZH7
def ZHL : SX := .f2 155 ZC9 (.f1 154 z)
def Znt : SX := .f1 32 Zft
def ZDt : SX := hR0 548 Zft Znt (r 13)
def Zdh : SX := .f1 32 ZDt
def Zp8 : SX := .f1 32 (wR 549 Zft Znt)
def Zih : SX := f 561 Zft Znt
def Zvu : SX := d 550 Zft Znt
def Zqh : SX := .f3 112 ZDt (a 15) z
def Zca : SX := d 566 (r 13) Zqh
def ZwC : SX := .f3 112 (r 13) Zca z
def Zul : SX := v 552 Zih
def Zxw : SX := .f1 32 (wR 545 Zih Zca)
def Zym : SX := .f1 30 (wN 546 Zih Zca)
def ZiD : SX := .f2 40 (a 15) (k 1)
def Zwf : SX := .f2 41 Zdh ZiD
def Zi5 : SX := vR 601 (m 16)
def Zfk : SX := .f1 32 Zi5
def ZzP : SX := wR 602 (m 16) Zi5
def ZlH : SX := hR0 602 (m 16) Zi5 (a 19)
def ZyP : SX := .f1 36 (.f3 112 Zi5 (a 19) z)
def ZBw : SX := .f1 35 ZyP
def ZxZ : SX := .f3 140 z (m 16) ZBw
def Zu9 : SX := e (.f2 44 ZxZ (k 2)) z
def ZrF : SX := .f1 31 ZyP
def Zvt : SX := .f1 36 (.f2 43 ZxZ (k 2))
def Zqp : SX := .f1 31 Zvt
def Zmf : SX := .f2 40 (.f1 32 (r 21)) (k 1)
def Zis : SX := .f2 40 (a 19) (k 1)
def Zv8 : SX := .f1 23 Zis
def Zxj : SX := .f2 41 Zfk Zis
def Zwv : SX := l z Zxj
def ZzF : SX := t Zxj (.f2 41 Zfk (a 19))
def Zt0 : SX := l z Zis
def ZCx : SX := l Zis Zfk
def Zrn : SX := hR0 602 (m 16) Zi5 Zis
def Zxk : SX := .f1 32 Zrn
def ZOM : VC := i (l z (a 2)) (i (l (a 2) (.f1 32 (r 4))) (i (l (a 2) (a 3)) (i (l (a 2) k0) (u 6 .int (u 7 .int (i (e (a 7) (v 523 Zft)) (i (.f2 48 ZJy ZEq) (.and (i (.f1 2 ZEq) (n (e (a 7) ZCI) (n ZJn (n ZHL .tt)))) (i ZEq (n ZJy (u 8 .int (u 9 .int (u 10 .int (u 11 .int (u 12 .int (u 13 .rows (i (l z (a 8)) (i (l Zdh (a 10)) (i (.f2 50 (l z (a 9)) (e Zdh z)) (i (l Zp8 (a 12)) (i (.f2 50 (l z (a 11)) (e Zp8 z)) (i (c 558 (r 13) Zih) (i (c 560 ZDt (r 13)) (i (l Zdh Znt) (i (l Zp8 Znt) (.and (i (l z Zvu) (n (e (k 280) ZCI) (n ZJn (n ZHL .tt)))) (i (t Zvu z) (u 14 .int (i (l z (a 14)) (n (y 596 Zft z (.f1 155 z)) (u 15 .int (u 16 .amap (i (l z (a 15)) (i (l (a 15) Zdh) (i (y 596 Zft (a 15) (m 16)) (.and (i (t (a 15) Zdh) (n (c 565 (r 13) Zqh) (i (e Zqh ZwC) (i (t Zca Zul) (i (l Zxw (.f3 112 (r 13) Zca (k 3))) (i (l Zym (.f3 112 (r 13) Zca (k 5))) (i (.f2 50 (l z (.f3 112 (r 13) Zca (k 2))) (e Zxw z)) (i (.f2 50 (l z (.f3 112 (r 13) Zca (k 4))) (e Zym z)) (i (l z (.f3 112 (r 13) Zca (k 1))) (i (l z ZwC) (i (e (.f1 32 (r 13)) Zul) (u 17 .amap (i (y 531 (m 16) (wM0 544 Zih Zca) (m 17)) (n (l z Zca) (n (.f1 23 ZiD) (n (l z Zwf) (n (t Zwf (.f2 41 Zdh (a 15))) (n (l z ZiD) (n (l ZiD Zdh) (n (y 596 Zft ZiD (m 17)) .tt)))))))))))))))))))) (i (l Zdh (a 15)) (i (p 606 (m 16)) (n (l (.f1 33 (m 16)) (k 1048576)) (u 17 .int (u 18 .int (i (l Zfk (a 18)) (n (e z (.f1 32 ZzP)) (n (.f2 155 ZzP (.f1 154 z)) (u 19 .int (u 20 .int (u 21 .rows (u 22 .int (i (l z (a 19)) (i (l (a 19) Zfk) (i (e (.f1 32 (r 21)) (.f1 32 ZlH)) (i (l (.f1 32 (r 21)) (a 22)) (i (.f2 50 (l z (a 20)) (e (.f1 32 (r 21)) z)) (.and (i (t (a 19) Zfk) (u 23 .int (i (l z (a 23)) (.and (i Zu9 (u 24 .int (u 25 .int (i (l ZrF (a 25)) (i (l z (a 24)) (u 26 .int (u 27 .int (i (l Zqp (a 27)) (i (l z (a 26)) (u 28 .int (i (l z (a 28)) (n (l (.f1 32 (r 21)) (.f1 32 (r 21))) (n (l (.f2 42 Zmf (k 48)) k1) (u 29 .int (u 30 .int (i (l Zmf (a 30)) (i (.f2 50 (l z (a 29)) (e Zmf z)) (n (e ZrF ZrF) (n (e Zqp Zqp) (n Zv8 (n Zwv (n ZzF (n Zt0 (n ZCx (n (e Zmf Zxk) (n (.f2 155 Zrn (.f2 121 ZlH (.f2 124 (.f2 122 ZBw (.f2 122 (.f1 35 Zvt) (.f1 152 z))) (.f1 154 z)))) .tt)))))))))))))))))))))))))) (i (.f1 2 Zu9) (n Zv8 (n Zwv (n ZzF (n Zt0 (n ZCx (n (e (.f1 32 (r 21)) Zxk) (n (.f2 155 Zrn ZlH) .tt)))))))))))) (i (l Zfk (a 19)) (n (e z ZCI) (n (e (.f1 32 (r 21)) ZH7) (n (.f2 155 ZC9 ZlH) .tt))))))))))))))))))))))))))))))))))))))))))))))))))))))))))
theorem ZL9 : YV Tryz.prog ZPr 12 12 ZrP = ZOM := by kernel_rfl
theorem ZFQ (S : Sig GG) (hS : FiSig S) : ZA S Tryz.prog 12 ZrP := by
 refine Zg S (C := ZPr) (fuel := 12) (ZU ⟨Zi (by decide) (Zz4 S hS.js.jt), Zi (by decide) (Zyx S hS.js.jt.jb), Zi (by decide) (ZPz S hS), trivial⟩ ⟨⟨⟨by decide, Ziq S hS⟩, ⟨by decide, Zox S hS.js.jt⟩, ⟨by decide, Ziq S hS⟩, trivial, ⟨by decide, ZcM S hS.js.jt⟩, ⟨by decide, Zcw S hS.js.jt⟩, ⟨by decide, Ziq S hS⟩, ⟨by decide, ZOh S hS⟩, trivial, ⟨by decide, ZFL S hS⟩, trivial⟩, trivial⟩ trivial) fun ρ => ?_
 rw [ZL9]
 simp only [ZOM, Zft, ZJy, ZEq, ZCI, ZC9, ZH7, ZJn, ZHL, Znt, ZDt, Zdh, Zp8, Zih, Zvu, Zqh, Zca, ZwC, Zul, Zxw, Zym, ZiD, Zwf, Zi5, Zfk, ZzP, ZlH, ZyP, ZBw, ZxZ, Zu9, ZrF, Zvt, Zqp, Zmf, Zis, Zv8, Zxj, Zwv, ZzF, Zt0, ZCx, Zrn, Zxk, hS.js.jt.jb.rf.u523, hS.js.jt.jb.u531, hS.js.jt.u544, hS.js.jt.u545, hS.js.jt.u546, hS.js.jt.u548, hS.js.jt.u549, hS.js.jt.u550, hS.js.jt.u552, hS.js.jt.u558, hS.js.jt.u560, hS.js.jt.u561, hS.js.jt.u565, hS.js.jt.u566, hS.js.u596, hS.u601, hS.u602, hS.u603, hS.u604, hS.u606, ZQ, ZPY, VC.den, SX.den, Env.upd, ZX, ZE, beq_iff_eq, ZPQ, beq_eq_false_iff_ne, ne_eq, ZPP, ZPO, Int.reduceToNat, Nat.reduceEqDiff, reduceIte, sB, sC]
 generalize hX : (ρ 4).tR.take (ρ 2).tI.toNat = X
 generalize hlen : (ρ 2).tI = l at *
 intro h1 h2 h3 h4
 have hl : l = (X.length : Nat) := by rw [<- hX, ZPT]; omega
 subst hl
 clear hX hlen
 simp only [ZPY, ZkM]
 intro b e he hb
 have hpl : ∀ (R : List (List Int)) (ks : List Nat), (Zbk R ks).length = ks.length := fun R ks => by unfold Zbk; rw [ZP1]
 simp only [hpl, Zkb, Zf2, ZPY]
 refine ⟨fun hne => ?_, fun h0 => ⟨?_, ?_⟩⟩
 ·have hn : Zb9 X ≠ 0 := by rw [<- he]; exact hne
  have hf := ZMT hn
  exact ⟨by rw [hf]; exact he, by rw [ZeR (by rw [hf]; exact hn)]; rfl, ZeR (by rw [hf]; exact hn), trivial⟩
 ·rw [h0] at hb; exact Za.1 (by rw [hb]; rfl)
 have hc : Zb9 X = 0 := by rw [<- he]; exact h0
 intro ma kb kc ob oc R q1 q2 q3 q4 q5 q6 q7 q8 q9
 refine ⟨fun hf => ?_, fun hf => ?_⟩
 ·have hT := ZmR hc hf
  have hg : Zkc X = 280 := by
   have ht : 0 <= (ZcO X X.length).1 := Zh8 hc hf
   unfold Zkc; rw [if_neg (by rw [hc]; exact fun h => h rfl), if_pos ht]
  have hb : finR' X = [] := ZeR (by rw [hg]; omega)
  exact ⟨hg.symm, by rw [hb]; rfl, hb, trivial⟩
 have hgo : Go X (Z7 X X.length) := ZGB hc hf
 have h400 := Zgx hc
 have hE : Zkc X = 0 := by
  have ht : ¬ 0 <= (ZcO X X.length).1 := Zzn hgo
  unfold Zkc; rw [if_neg (by rw [hc]; exact fun h => h rfl), if_neg ht]
 rw [ZpQ hE]
 have hkept : ∀ n < (Z7 X X.length).kept.length, (Z7 X X.length).kept.getD n 0 < R.length := fun n hn => by rw [q6.1]; exact (hgo.kw hn).1
 have hmst := @Zqv (Z7 X X.length)
 have hnl := fun m hm hcn => ZIC hgo (m := m) hm hcn
 have hfe := fun m hm hcn => ZL6 hgo (m := m) hm hcn
 generalize Z7 X X.length = B at *
 intro nb hnb
 refine ⟨map_nil B, fun k M j1 j2 j3 => ?_⟩
 obtain ⟨n, rfl⟩ := ZPJ j1
 have en : ((n : Int) + 1).toNat = n + 1 := by omega
 simp only [ZPY, en] at j3 ⊢
 refine ⟨fun hn => ?_, fun hn => ?_⟩
 ·have hn : n < B.kept.length := by omega
  have hJ := hkept n hn
  have hri := ZaP q6.2.1 hJ
  simp only [ZBc hn, hri, ZcA]
  refine ⟨⟨_, hJ, rfl⟩, fun _ _ _ _ _ _ _ _ _ M' hl => ⟨by omega, ⟨by omega, by omega⟩, by omega, by omega, by omega, by omega, hmst j3 rfl hl, trivial⟩⟩
 ·have hn : n = B.kept.length := by omega
  subst hn
  refine fun hcn => ⟨by have := hnl M j3 hcn; omega, fun kb' kc' p1 => ⟨rfl, rfl, fun i ob' R' oc' g1 g2 g3 g4 g5 => ?_⟩⟩
  have hfin := hfe M j3 hcn
  have hml := hnl M j3 hcn
  have hkl := ZqD M
  obtain ⟨m, rfl⟩ := ZPJ g1
  have em : ((m : Int) + 1).toNat = m + 1 := by omega
  simp only [ZPY, em] at g3 ⊢
  have hst := ZF1 M (Ztl M) m
  refine ⟨fun hm _ _ => ⟨fun hd _ _ _ _ _ _ _ _ _ _ => ⟨by omega, ?_, fun _ _ _ _ => ?_⟩, fun hd => ?_⟩, fun hm => ?_⟩
  ·have := Zob (mvF M) (Ztl M) m
   omega
  ·rw [if_pos hd] at hst
   rw [hst]
   exact ⟨trivial, trivial, ⟨by omega, by omega⟩, by omega, by omega, by omega, by omega, by simp; omega, rfl, trivial⟩
  ·rw [if_neg hd] at hst
   rw [hst]
   exact ⟨⟨by omega, by omega⟩, by omega, by omega, by omega, by omega, g3, rfl, trivial⟩
  ·have hm : m = (Ztl M).length := by omega
   subst hm
   rw [hfin] at g3 ⊢
   exact ⟨hE.symm, g3, rfl, trivial⟩
def emWC : Ctr := ⟨[], [], [], [], [], .tup [], [sAr (.int (-1)) Zbn z0], []⟩
theorem ZPa {G : Type} (S : Sig G) : YH S emWC := by
 refine ZL S fun T w0 ρ h hu hp hd hr hpre => ⟨ρ, Ext.refl _ _, ?_, by intro x hx; exact nomatch hx⟩
 have e1 : hpDen T ρ w0 emWC.pre = emp := rfl
 have e2 : hpDen T ρ w0 emWC.post = Zd (rAD sE (-1) [] 0) emp := rfl
 rw [e1] at hpre
 rw [e2, Zc, sE, Zci]; exact hpre
def kyW (n : SX) : SX := usR 610 (rA 4) n z0
def ZAo : Ctr := ⟨hA, [.one (hS 0)], [hC 0 0], hQ 0, [.int, .int], .one (slC (ai 6) (Zh (kyW (ai 2))) (ai 7) 1), [hC 0 0, sAr (ai 6) (kyW (ai 2)) (ai 7)], [eLe (Zh (kyW (ai 2))) (ai 7), .f2 50 (eLe z0 (ai 6)) (.f2 45 (Zh (kyW (ai 2))) z0), eLe (Zh (kyW (ai 2))) (ai 2)]⟩
def kysI : Inv := ⟨[.int, .int, .int], [(4, .one (.int .i64 (di 0))), (3, .one (slC (di 1) (Zh (kyW (di 0))) (di 2) 1))], [sAr (di 1) (kyW (di 0)) (di 2)], [eLe z0 (di 0), eLe (di 0) (ai 2), eLe (Zh (kyW (di 0))) (di 2), .f2 50 (eLe z0 (di 1)) (.f2 45 (Zh (kyW (di 0))) z0)], .f2 41 (ai 2) (di 0)⟩
def kynI (o : Nat) : Inv := ⟨[.int], [(5, .one (.int .i64 (di 0)))], [], [eLe z0 (di 0), eLe (di 0) (Zh (kyW (ai o))), usB 611 (kyW (ai o)) (strX (rA 4) (ai o) 2) (di 0)], .f2 41 (Zh (kyW (ai o))) (di 0)⟩
def ZN0 : Cx := { specs := [], anns := [(31, [(1, .ghost emWC []), (3, .inv kysI), (7, .inv (kynI 6))])] }
def frlW : SX := usR 603 (rA 4) z0 z0
def Zxg : Ctr := ⟨hA, [.one (hS 0)], [hC 0 0], hQ 0, [.int, .rows, .int, .int], .tup [(false, [slC (ai 6) (Zh (rA 7)) (ai 8) 2]), (false, [.int .i64 (ai 9)])],
 [hC 0 0, ZsJ (ai 6) (rA 7) (ai 8), prC (rA 7) frlW], [.f2 45 (ai 9) (usI 604 (rA 4) z0 z0), .f2 45 (Zh (rA 7)) (Zh frlW), eLe (Zh (rA 7)) (ai 8), .f2 50 (eLe z0 (ai 6)) (.f2 45 (Zh (rA 7)) z0)]⟩
def frX (n : SX) : SX := .us .rows 612 (rA 4) (usN 515 (rA 4) (ai 2) z0) (kyW (ai 2)) n
def frlI : Inv := ⟨[.int, .int, .rows, .int], [(10, .one (.int .i64 (di 0))), (9, .one (slC (di 1) (Zh (rA 1000002)) (di 3) 2))], [ZsJ (di 1) (rA 1000002) (di 3), prC (rA 1000002) (frX (di 0))],
 [eLe z0 (di 0), eLe (di 0) (Zh (kyW (ai 2))), .f2 45 (Zh (rA 1000002)) (Zh (frX (di 0))), eLe (Zh (rA 1000002)) (di 3), .f2 50 (eLe z0 (di 1)) (.f2 45 (Zh (rA 1000002)) z0)], .f2 41 (Zh (kyW (ai 2))) (di 0)⟩
def ZNR : Cx := { specs := [(28, [Zxh]), (29, [ZvN]), (30, [ZuX]), (31, [ZAo]), (32, [ZCf])], anns := [(13, [(3, .ghost ZEH []), (6, .ghost ZEH []), (10, .ghost ZEH []), (11, .inv frlI), (500015, .ghost ZzC [.tmp 53, .tmp 55])])] }
theorem ZnB {l : List (List UInt8)} {i : Nat} (h : i < l.length) : Yc ((((l.map Ze2).getD i []).getD 0 0).toNat) = l[i] := by
 have : (l.map Ze2).getD i [] = Ze2 l[i] := by rw [ZPR, ZPN, ZPU h]; rfl
 rw [this]; exact Zks _
theorem ZFg {k : List UInt8} : ∀ {l : List (List UInt8)} {p : Nat} (h : p < l.length), (∀ j (hj : j < p), Op.bytesLess (l[j]'(by omega)) k = true) -> ¬ Op.bytesLess l[p] k = true -> l[p] = k -> ZhT l k = l
 | [], p, h, _, _, _ => by simp at h
 | a :: l, 0, h, _, h2, h3 => by
  unfold ZhT
  have h2 : ¬ Op.bytesLess a k = true := h2
  have h3 : a = k := h3
  rw [if_neg h2, if_pos h3]
 | a :: l, p + 1, h, h1, h2, h3 => by
  unfold ZhT
  have h0 : Op.bytesLess a k = true := h1 0 (by omega)
  rw [if_pos h0, ZFg (l := l) (p := p) (by simpa using h) (fun j hj => h1 (j + 1) (by omega)) h2 h3]
theorem ZuG {k : List UInt8} : ∀ {l : List (List UInt8)} {p : Nat} (h : p <= l.length), (∀ j (hj : j < p), Op.bytesLess (l[j]'(by omega)) k = true) -> (∀ hp : p < l.length, ¬ Op.bytesLess l[p] k = true /\ l[p] ≠ k) -> ZhT l k = l.take p ++ k :: l.drop p
 | [], p, h, _, _ => by simp [ZhT]
 | a :: l, 0, h, _, h2 => by
  obtain ⟨x, y⟩ := h2 (by simp)
  unfold ZhT
  have x : ¬ Op.bytesLess a k = true := x
  have y : ¬ a = k := y
  rw [if_neg x, if_neg y]; rfl
 | a :: l, p + 1, h, h1, h2 => by
  unfold ZhT
  have h0 : Op.bytesLess a k = true := h1 0 (by omega)
  rw [if_pos h0, ZuG (l := l) (p := p) (by simpa using h) (fun j hj => h1 (j + 1) (by omega)) (fun hp => h2 (by simpa using hp))]; rfl
theorem finG_le' (x : List Ent) (ks : List Int) (R : List (List Int)) (n : Nat) : ZfW (leF x ks) R (n + 1) = if (Zch x ks (Yc ((R.getD n []).getD 0 0).toNat) ks.length).2 = true then
  ZfW (leF x ks) R n ++ [[((Zr (Yc ((R.getD n []).getD 0 0).toNat) : Nat) : Int), ((Zr (Zch x ks (Yc ((R.getD n []).getD 0 0).toNat) ks.length).1 : Nat) : Int)]] else ZfW (leF x ks) R n := rfl
theorem ZE9 (x : List Ent) (n : Nat) : Zd2 x (n + 1) = if (x.getD n []).getD 0 0 = 3 then ZhT (Zd2 x n) (Yc ((x.getD n []).getD 2 0).toNat) else Zd2 x n := rfl
def ZGp : SX := vR 610 (r 4)
def ZHD : SX := .f1 32 ZGp
def ZIc : SX := e ZHD z
def ZhO : SX := wR 610 (r 4) (a 6)
def Zfv : SX := .f1 32 ZhO
def ZER : SX := l z (a 7)
def ZHI : SX := e (.f3 112 (r 4) (a 6) z) (k 3)
def Ztb : SX := .f2 40 (a 6) (k 1)
def Zuf : SX := .f1 23 Ztb
def ZGI : SX := .f2 41 (a 2) Ztb
def ZlE : SX := l z ZGI
def ZmE : SX := t ZGI (.f2 41 (a 2) (a 6))
def Zlr : SX := l z Ztb
def Zlm : SX := l Ztb (a 2)
def Zrc : SX := wR 610 (r 4) Ztb
def Zig : SX := .f1 32 Zrc
def Zzg : SX := l Zig (a 8)
def ZA5 : SX := e Zig z
def ZBr : SX := .f2 50 ZER ZA5
def ZzD : SX := .f2 155 Zrc ZhO
def ZxR : SX := e Zig Zfv
def Zg2 : SX := .f1 36 (.f3 112 (r 4) (a 6) (k 2))
def ZBM : SX := t (a 9) Zfv
def Zy1 : SX := .f1 36 (.f3 112 ZhO (a 9) z)
def Zwc : SX := .f2 151 Zy1 Zg2
def Zcx : SX := .f2 40 (a 9) (k 1)
def ZvQ : SX := .f2 41 Zfv Zcx
def Zie : SX := .f2 41 Zfv (a 9)
def Zqf : SX := l z Zcx
def ZuZ : SX := .f2 150 Zy1 Zg2
def Zyw : SX := l z (a 8)
def ZtV : SX := l (a 9) (a 8)
def ZtK : SX := l (.f2 42 (a 9) (k 16)) k1
def ZuB : SX := l (a 9) (a 11)
def Zvs : SX := .f2 50 (l z (a 10)) (e (a 9) z)
def ZwX : SX := l z (a 12)
def Zvb : SX := .f2 115 ZhO (a 9)
def Zwt : SX := l (a 9) (.f1 32 Zvb)
def ZvR : SX := l (.f2 42 Zcx (k 16)) k1
def Zyr : SX := l Zcx (a 14)
def Zy4 : SX := .f2 50 (l z (a 13)) (e Zcx z)
def ZB4 : SX := .f2 115 Zvb (a 9)
def Zza : SX := l Zcx (.f2 40 (.f1 32 ZB4) (k 1))
def ZBO : SX := .f2 40 (a 9) Zie
def Zml : SX := .f2 40 ZBO (k 1)
def ZtU : SX := l (.f2 42 Zml (k 16)) k1
def ZtN : SX := l z Zie
def Zzl : SX := l Zie (.f2 41 (a 8) (a 9))
def Zu0 : SX := l ZBO Zfv
def ZAM : SX := l Zml (a 16)
def Zve : SX := l z (a 15)
def ZAP : SX := .f2 50 Zve (e Zml z)
def ZtL : SX := l Zig (a 16)
def Zum : SX := .f2 50 Zve ZA5
def ZvH : SX := .f2 155 Zrc (.f2 121 (.f2 115 (.f2 121 ZB4 (.f2 124 (.f2 122 (.f1 35 Zg2) (.f1 152 z)) (.f1 154 z))) Zcx) (.f2 115 (.f2 118 ZhO (a 9)) Zie))
def ZA4 : SX := e Zig Zml
def Zwp : SX := l Zfv (a 9)
def Zxo : SX := wR 610 (r 4) (a 2)
def Zlk : SX := .f1 32 Zxo
def ZPb : VC := i (l z (a 2)) (i (e (a 2) (.f1 32 (r 4))) (i (l (a 2) (a 3)) (i (l (a 2) k0) (n (l ZHD z) (n (.f2 50 (.bool false) ZIc) (n (.f2 155 ZGp (.f1 154 z)) (n ZIc (u 6 .int (u 7 .int (u 8 .int (i (l z (a 6)) (i (l (a 6) (a 2)) (i (l Zfv (a 8)) (i (.f2 50 ZER (e Zfv z)) (.and (i (t (a 6) (a 2)) (n (t (a 6) (.f1 32 (r 4))) (.and (i (.f1 2 ZHI) (n Zuf (n ZlE (n ZmE (n Zlr (n Zlm (n Zzg (n ZBr (n ZzD (n ZxR .tt)))))))))) (i ZHI (n (c 611 ZhO Zg2) (u 9 .int (i (l z (a 9)) (i (l (a 9) Zfv) (i (y 611 ZhO Zg2 (a 9)) (.and (i ZBM (.and (i Zwc (n (.f1 23 Zcx) (n (l z ZvQ) (n (t ZvQ Zie) (n Zqf (n (l Zcx Zfv) (n (y 611 ZhO Zg2 Zcx) .tt))))))) (i (.f1 2 Zwc) (.and (i ZBM (.and (i ZuZ (n Zuf (n ZlE (n ZmE (n Zlr (n Zlm (n Zzg (n ZBr (n ZzD (n ZxR .tt)))))))))) (i (.f1 2 ZuZ) (n Zyw (n ZtV (n ZtK (u 10 .int (u 11 .int (i ZuB (i Zvs (u 12 .int (i ZwX (n Zwt (n ZvR (u 13 .int (u 14 .int (i Zyr (i Zy4 (n Zqf (n Zza (n ZtU (n ZtN (n Zzl (n Zu0 (u 15 .int (u 16 .int (i ZAM (i ZAP (n Zuf (n ZlE (n ZmE (n Zlr (n Zlm (n ZtL (n Zum (n ZvH (n ZA4 .tt))))))))))))))))))))))))))))))))))))) .tt)))) (i Zwp (.and .tt (i Zwp (n Zyw (n ZtV (n ZtK (u 10 .int (u 11 .int (i ZuB (i Zvs (u 12 .int (i ZwX (n Zwt (n ZvR (u 13 .int (u 14 .int (i Zyr (i Zy4 (n Zqf (n Zza (n ZtU (n ZtN (n Zzl (n Zu0 (u 15 .int (u 16 .int (i ZAM (i ZAP (n Zuf (n ZlE (n ZmE (n Zlr (n Zlm (n ZtL (n Zum (n ZvH (n ZA4 .tt))))))))))))))))))))))))))))))))))))))))))))))) (i (l (a 2) (a 6)) (n (l Zlk (a 8)) (n (.f2 50 ZER (e Zlk z)) (n (l Zlk (a 2)) (n (.f2 155 Zxo ZhO) (n (e Zlk Zfv) .tt)))))))))))))))))))))
theorem ZMP : YV Tryz.prog ZN0 12 31 ZAo = ZPb := by kernel_rfl
def ZKa : SX := v 523 (r 4)
def ZIR : SX := e ZKa z
def ZEr : SX := v 604 (r 4)
def ZDp : SX := vR 603 (r 4)
def ZGq : SX := .f1 32 ZDp
def ZHw : SX := e z ZGq
def ZGU : SX := .f2 155 ZDp (.f1 154 z)
def ZG5 : SX := d 508 (r 4) (a 2)
def ZoU : SX := wN 515 (r 4) (a 2)
def Zlx : SX := .f1 30 ZoU
def Zi3 : SX := wR 610 (r 4) (a 2)
def Zdb : SX := .f1 32 Zi3
def Zwm : SX := hR0 612 (r 4) ZoU Zi3
def Zmr : SX := .us .rows 612 (r 4) ZoU Zi3 (a 10)
def ZlB : SX := .f1 36 (.f3 112 Zi3 (a 10) z)
def ZAw : SX := .us .bool 514 (r 4) ZoU ZlB Zlx
def Zr3 : SX := .f1 31 ZlB
def ZwY : SX := .us .bytes 513 (r 4) ZoU ZlB Zlx
def Zq5 : SX := .f1 31 ZwY
def ZmA : SX := .f2 40 (.f1 32 (r 12)) (k 1)
def ZiS : SX := .f2 40 (a 10) (k 1)
def Zuo : SX := .f1 23 ZiS
def Zvz : SX := .f2 41 Zdb ZiS
def Zzu : SX := l z Zvz
def ZB3 : SX := t Zvz (.f2 41 Zdb (a 10))
def ZBG : SX := l z ZiS
def Zw4 : SX := l ZiS Zdb
def Zsi : SX := .us .rows 612 (r 4) ZoU Zi3 ZiS
def Zwz : SX := .f1 32 Zsi
def ZPB : VC := i (l z (a 2)) (i (e (a 2) (.f1 32 (r 4))) (i (l (a 2) (a 3)) (i (l (a 2) k0) (.and (i (.f1 2 ZIR) (n (e ZKa ZEr) (n ZHw (n ZGU .tt)))) (i ZIR (n (c 511 (r 4) (a 2)) (.and (i (l z ZG5) (n (e (k 280) ZEr) (n ZHw (n ZGU .tt)))) (i (t ZG5 z) (n (l (a 2) (a 2)) (u 6 .int (u 7 .int (i (l Zlx (a 7)) (i (.f2 50 (l z (a 6)) (e Zlx z)) (u 8 .int (u 9 .int (i (l Zdb (a 9)) (i (.f2 50 (l z (a 8)) (e Zdb z)) (i (l Zdb (a 2)) (n (e z (.f1 32 Zwm)) (n (.f2 155 Zwm (.f1 154 z)) (u 10 .int (u 11 .int (u 12 .rows (u 13 .int (i (l z (a 10)) (i (l (a 10) Zdb) (i (e (.f1 32 (r 12)) (.f1 32 Zmr)) (i (l (.f1 32 (r 12)) (a 13)) (i (.f2 50 (l z (a 11)) (e (.f1 32 (r 12)) z)) (.and (i (t (a 10) Zdb) (n (e Zlx Zlx) (n (l Zlx k0) (.and (i ZAw (u 14 .int (u 15 .int (i (l Zr3 (a 15)) (i (l z (a 14)) (u 16 .int (u 17 .int (i (l Zq5 (a 17)) (i (l z (a 16)) (u 18 .int (i (l z (a 18)) (n (l (.f1 32 (r 12)) (.f1 32 (r 12))) (n (l (.f2 42 ZmA (k 48)) k1) (u 19 .int (u 20 .int (i (l ZmA (a 20)) (i (.f2 50 (l z (a 19)) (e ZmA z)) (n (e Zr3 Zr3) (n (e Zq5 Zq5) (n Zuo (n Zzu (n ZB3 (n ZBG (n Zw4 (n (e ZmA Zwz) (n (.f2 155 Zsi (.f2 121 Zmr (.f2 124 (.f2 122 (.f1 35 ZlB) (.f2 122 (.f1 35 ZwY) (.f1 152 z))) (.f1 154 z)))) .tt)))))))))))))))))))))))))) (i (.f1 2 ZAw) (n Zuo (n Zzu (n ZB3 (n ZBG (n Zw4 (n (e (.f1 32 (r 12)) Zwz) (n (.f2 155 Zsi Zmr) .tt)))))))))))) (i (l Zdb (a 10)) (n (e z ZEr) (n (e (.f1 32 (r 12)) ZGq) (n (.f2 155 ZDp Zmr) .tt))))))))))))))))))))))))))))))))))
theorem ZMu : YV Tryz.prog ZNR 12 13 Zxg = ZPB := by kernel_rfl
theorem ZOo (S : Sig GG) (hS : FiSig S) : ZA S Tryz.prog 31 ZAo := by
 refine Zg S (C := ZN0) (fuel := 12) (ZU trivial ⟨⟨⟨by decide, ZPa S⟩, trivial, trivial, trivial⟩, trivial⟩ trivial) fun ρ => ?_
 rw [ZMP]
 simp only [ZPb, ZGp, ZHD, ZIc, ZhO, Zfv, ZER, ZHI, Ztb, Zuf, ZGI, ZlE, ZmE, Zlr, Zlm, Zrc, Zig, Zzg, ZA5, ZBr, ZzD, ZxR, Zg2, ZBM, Zy1, Zwc, Zcx, ZvQ, Zie, Zqf, ZuZ, Zyw, ZtV, ZtK, ZuB, Zvs, ZwX, Zvb, Zwt, ZvR, Zyr, Zy4, ZB4, Zza, ZBO, Zml, ZtU, ZtN, Zzl, Zu0, ZAM, Zve, ZAP, ZtL, Zum, ZvH, ZA4, Zwp, Zxo, Zlk, hS.u610, hS.u611, ZQ, ZPY, VC.den, SX.den, Env.upd, ZX, ZE, beq_iff_eq, ZPQ, beq_eq_false_iff_ne, ne_eq, ZPP, ZPO, Int.reduceToNat, Nat.reduceEqDiff, reduceIte, sB, sC]
 generalize (ρ 4).tR = X
 generalize (ρ 2).tI = l
 intro h1 h2 h3 h4
 subst h2
 refine ⟨ZP2 _, .inr rfl, rfl, rfl, fun n ob oc i0 i1 g1 g2 => ?_⟩
 obtain ⟨n, rfl⟩ := ZPJ i0
 have en : ((n : Int) + 1).toNat = n + 1 := by omega
 have hs := ZE9 X n
 have hl := Zky X n
 simp only [ZPY, en, ZP1] at g1 g2 ⊢
 refine ⟨fun hn => ⟨by omega, fun hk => ?_, fun hk => ?_⟩, fun hn => ?_⟩
 ·rw [if_neg hk] at hs
  rw [hs]
  exact ⟨⟨by omega, by omega⟩, by omega, by omega, by omega, by omega, g1, g2, rfl, rfl, trivial⟩
 ·rw [if_pos hk] at hs
  rw [hs]
  generalize Yc ((X.getD n []).getD 2 0).toNat = k at *
  generalize Zd2 X n = L at *
  refine ⟨fun j hj => absurd hj (by omega), fun p p0 p1 p2 => ?_⟩
  obtain ⟨p, rfl⟩ := ZPJ p0
  have hall : ∀ j (hj : j < p), Op.bytesLess (L[j]'(by omega)) k = true := fun j hj => by
   have := p2 j (by omega)
   rw [show txt ((L.map Ze2).getD j []) = L[j]'(by omega) from ZnB (by omega)] at this
   exact this
  have hdt : ((L.map Ze2).take p).length = p := by rw [ZPT, ZP1]; omega
  have new : (∀ hp : p < L.length, ¬ Op.bytesLess L[p] k = true /\ L[p] ≠ k) -> (ZhT L k).map Ze2 = (((L.map Ze2).take p).take p ++ [[((Zr k : Nat) : Int)]]).take (p + 1) ++ ((L.map Ze2).drop p).take (L.length - p) /\ (ZhT L k).length = L.length + 1 := fun hq => by
   have := ZuG (by omega) hall hq
   rw [this]
   constructor
   ·rw [List.take_take, Nat.min_self, ZP3 (l := _ ++ _) (by rw [ZPW, hdt]; simp), ZP3 (i := L.length - p) (by simp)]
    simp [List.map_take, List.map_drop, Ze2]
   ·rw [ZPW, ZQb, ZPT, ZP5]; omega
  have ep : ((p : Int) + 1).toNat = p + 1 := by omega
  have elp : ((L.length : Int) - (p : Int)).toNat = L.length - p := by omega
  simp only [ZPY, ep, elp, ZvI, U.tRi, U.tIi] at *
  simp only [List.take_take, Nat.min_self, hdt] at new ⊢
  refine ⟨fun hp => ?_, fun hp => ⟨trivial, fun _ => ?_⟩⟩
  ·have hp : p < L.length := by omega
   rw [ZnB hp]
   refine ⟨fun hl => ?_, fun hl => ⟨fun _ => ⟨fun he => ?_, fun he => ?_⟩, trivial⟩⟩
   ·have hl : Op.bytesLess L[p] k = true := hl
    refine ⟨⟨by omega, by omega⟩, by omega, by omega, by omega, by omega, fun j hj => ?_, trivial⟩
    rw [show txt ((L.map Ze2).getD j []) = L[j]'(by omega) from ZnB (by omega)]
    rcases ZPL j p with q | q
    ·exact hall j q
    ·have : j = p := by omega
     subst this; exact hl
   ·have hl : ¬ Op.bytesLess L[p] k = true := by rw [show Op.bytesLess L[p] k = false from hl]; exact fun q => nomatch q
    have := ZFg hp hall hl he
    rw [this]
    exact ⟨⟨by omega, by omega⟩, by omega, by omega, by omega, by omega, g1, g2, rfl, rfl, trivial⟩
   ·have hl : ¬ Op.bytesLess L[p] k = true := by rw [show Op.bytesLess L[p] k = false from hl]; exact fun q => nomatch q
    obtain ⟨e1, e2⟩ := new fun _ => ⟨hl, he⟩
    refine ⟨by omega, by omega, by omega, fun _ _ _ _ _ _ => ⟨by omega, by omega, fun _ _ _ _ => ⟨by omega, by omega, by omega, by omega, by omega, by omega, fun _ _ _ _ => ⟨⟨by omega, by omega⟩, by omega, by omega, by omega, by omega, by omega, by omega, e1, by omega, trivial⟩⟩⟩⟩
  ·obtain ⟨e1, e2⟩ := new fun h => absurd h (by omega)
   refine ⟨by omega, by omega, by omega, fun _ _ _ _ _ _ => ⟨by omega, by omega, fun _ _ _ _ => ⟨by omega, by omega, by omega, by omega, by omega, by omega, fun _ _ _ _ => ⟨⟨by omega, by omega⟩, by omega, by omega, by omega, by omega, by omega, by omega, e1, by omega, trivial⟩⟩⟩⟩
 ·have : n = X.length := by omega
  subst this
  exact ⟨g1, g2, by omega, rfl, rfl, trivial⟩
theorem ZOC (S : Sig GG) (hS : FiSig S) : ZA S Tryz.prog 13 Zxg := by
 refine Zg S (C := ZNR) (fuel := 12) (ZU ⟨Zi (by decide) (chk_ok S hS.js.jt.jb.rf), Zi (by decide) (ZOK S hS.js.jt.jb.rf), Zi (by decide) (ZNv S hS.js.jt.jb.rf), Zi (by decide) (ZOo S hS), Zi (by decide) (ZNw S hS.js.jt.jb.rf), trivial⟩ ⟨⟨⟨by decide, Ziq S hS⟩, ⟨by decide, Ziq S hS⟩, ⟨by decide, Ziq S hS⟩, trivial, ⟨by decide, ZFL S hS⟩, trivial⟩, trivial⟩ trivial) fun ρ => ?_
 rw [ZMu]
 simp only [ZPB, ZKa, ZIR, ZEr, ZDp, ZGq, ZHw, ZGU, ZG5, ZoU, Zlx, Zi3, Zdb, Zwm, Zmr, ZlB, ZAw, Zr3, ZwY, Zq5, ZmA, ZiS, Zuo, Zvz, Zzu, ZB3, ZBG, Zw4, Zsi, Zwz, hS.js.jt.jb.rf.u508, hS.js.jt.jb.rf.u511, hS.js.jt.jb.rf.u513, hS.js.jt.jb.rf.u514, hS.js.jt.jb.rf.u515, hS.js.jt.jb.rf.u523, hS.u603, hS.u604, hS.u610, hS.u612, ZQ, ZPY, VC.den, SX.den, Env.upd, ZX, ZE, beq_iff_eq, ZPQ, beq_eq_false_iff_ne, ne_eq, ZPP, ZPO, Int.reduceToNat, Nat.reduceEqDiff, reduceIte, sB, sC]
 generalize (ρ 4).tR = X
 generalize (ρ 2).tI = l
 intro h1 h2 h3 h4
 subst h2
 simp only [ZPY, ZP1]
 refine ⟨fun hne => ?_, fun hc => ?_⟩
 ·have hf := ZMT hne
  exact ⟨hf.symm, by rw [ZeR (by rw [hf]; exact hne)]; rfl, ZeR (by rw [hf]; exact hne), trivial⟩
 ·have h400 := Zgx hc
  refine ⟨?_, fun ht => ?_, fun ht => ?_⟩
  ·have hc := hc
   unfold Zb9 at hc
   split at hc
   ·cases hc
   ·split at hc
    ·rename_i q; exact q
    ·cases hc
  ·have hg : Zkc X = 280 := by unfold Zkc; rw [if_neg (by rw [hc]; exact fun h => h rfl), if_pos ht]
   have hb : finR' X = [] := ZeR (by rw [hg]; omega)
   exact ⟨hg.symm, by rw [hb]; rfl, hb, trivial⟩
  ·have hE : Zkc X = 0 := by unfold Zkc; rw [if_neg (by rw [hc]; exact fun h => h rfl), if_neg (by omega)]
   rw [ZpQ hE]
   have hkn : ∀ n : Nat, (ZM X n).length <= n := fun n => by
    induction n with
    | zero => exact ZPH _
    | succ n ih =>
     rw [ZbF]
     split
     ·rw [ZPW, ZPF]; omega
     ·omega
   have hk1 := hkn X.length
   refine ⟨by omega, fun _ _ _ _ _ _ _ _ hkl => ⟨rfl, rfl, fun i ob R oc i0 i1 g1 g2 g3 => ?_⟩⟩
   obtain ⟨n, rfl⟩ := ZPJ i0
   have en : ((n : Int) + 1).toNat = n + 1 := by omega
   have hst := finG_le' X (ZM X X.length) ((Zd2 X X.length).map Ze2) n
   have hle := Zob (leF X (ZM X X.length)) ((Zd2 X X.length).map Ze2) n
   simp only [ZPY, en] at g1 ⊢
   refine ⟨fun hn => ⟨trivial, by omega, fun hd _ _ _ _ _ _ _ _ _ _ => ⟨by omega, by omega, fun _ _ _ _ => ?_⟩, fun hd => ?_⟩, fun hn => ?_⟩
   ·rw [if_pos hd] at hst
    rw [hst]
    exact ⟨trivial, trivial, ⟨by omega, by omega⟩, by omega, by omega, by omega, by omega, by simp; omega, rfl, trivial⟩
   ·rw [if_neg (by rw [hd]; exact fun q => nomatch q)] at hst
    rw [hst]
    exact ⟨⟨by omega, by omega⟩, by omega, by omega, by omega, by omega, g1, rfl, trivial⟩
   ·have hn : n = (Zd2 X X.length).length := by omega
    subst hn
    exact ⟨hE.symm, g1, rfl, trivial⟩
theorem Zq7 {R W : List (List Int)} {i : Nat} (hi : i < R.length) (hl : R.length = W.length) :
  prH R W = Zd (Zd (prH (R.take i) (W.take i)) (prH (R.drop (i + 1)) (W.drop (i + 1)))) (itP (R.getD i []) (W.getD i [])) := by
 conv => lhs; rw [ZbX (d := []) hi, ZbX (k := W) (d := []) (hl ▸ hi)]
 rw [Zj9 _ _ (by rw [ZPT, ZPT]; omega), Zj9 (R := [R.getD i []]) (W := [W.getD i []]) _ _ rfl, ZoQ, Zy (itP _ _), star_assoc]
def prF : List SX := [.f2 45 (Zh (rA 1)) (Zh (rA 2)), .f2 45 (nt (rA 1) (ai 0) 1) (.f1 31 (.f1 36 (nt (rA 2) (ai 0) 0))), .f2 45 (nt (rA 1) (ai 0) 4) (.f1 31 (.f1 36 (nt (rA 2) (ai 0) 1))), eLe (nt (rA 1) (ai 0) 1) (nt (rA 1) (ai 0) 2), eLe (nt (rA 1) (ai 0) 4) (nt (rA 1) (ai 0) 5), eLe z0 (nt (rA 1) (ai 0) 0), eLe z0 (nt (rA 1) (ai 0) 3)]
def prP : List Ch := [.prd 111 (Zu (ZoV (ai 0)) (rA 1)) (rA 2), bAr (nt (rA 1) (ai 0) 0) (.f1 36 (nt (rA 2) (ai 0) 0)) (nt (rA 1) (ai 0) 2), bAr (nt (rA 1) (ai 0) 3) (.f1 36 (nt (rA 2) (ai 0) 1)) (nt (rA 1) (ai 0) 5)]
def oiC : Ctr := ⟨[.int, .rows, .rows, .int, .int], [.one (.int .i64 (ai 0)), .one (slC (ai 3) (Zh (rA 1)) (ai 4) 2)], [prC (rA 1) (rA 2)], [eLe z0 (ai 0), eLt (ai 0) (Zh (rA 1))], [], .tup [], prP, prF⟩
def ciC : Ctr := ⟨[.int, .rows, .rows, .int, .int], [.one (.int .i64 (ai 0)), .one (slC (ai 3) (Zh (rA 1)) (ai 4) 2)], prP, [eLe z0 (ai 0), eLt (ai 0) (Zh (rA 1))] ++ prF, [], .tup [], [prC (rA 1) (rA 2)], []⟩
theorem Zuq (T : Sig GG) (hS : T.prd 111 = fun _ k x => prO k.tR x.tR) (ρ : Go.Eng.Env GG) (w0 : World) : hpDen T ρ w0 prP = Zd (prO ([(ρ 0).tI] :: (ρ 1).tR) (ρ 2).tR)
  (Zd (bAD (((ρ 1).tR.getD (ρ 0).tI.toNat []).getD 0 0) (Yc (((ρ 2).tR.getD (ρ 0).tI.toNat []).getD 0 0).toNat) (((ρ 1).tR.getD (ρ 0).tI.toNat []).getD 2 0))
   (bAD (((ρ 1).tR.getD (ρ 0).tI.toNat []).getD 3 0) (Yc (((ρ 2).tR.getD (ρ 0).tI.toNat []).getD 1 0).toNat) (((ρ 1).tR.getD (ρ 0).tI.toNat []).getD 5 0))) := by
 have e : hpDen T ρ w0 prP = Zd (T.prd 111 w0 (.rows ([(ρ 0).tI] :: (ρ 1).tR)) (.rows (ρ 2).tR)) (Zd (bAD (((ρ 1).tR.getD (ρ 0).tI.toNat []).getD 0 0) (Yc (((ρ 2).tR.getD (ρ 0).tI.toNat []).getD 0 0).toNat) (((ρ 1).tR.getD (ρ 0).tI.toNat []).getD 2 0))
   (Zd (bAD (((ρ 1).tR.getD (ρ 0).tI.toNat []).getD 3 0) (Yc (((ρ 2).tR.getD (ρ 0).tI.toNat []).getD 1 0).toNat) (((ρ 1).tR.getD (ρ 0).tI.toNat []).getD 5 0)) emp)) := rfl
 rw [e, Zc, hS]; rfl
theorem ZwN (T : Sig GG) (ρ : Go.Eng.Env GG) : (∀ x ∈ prF, (x.den T ρ).tP) ↔ ((ρ 1).tR.length = (ρ 2).tR.length /\ itF ((ρ 1).tR.getD (ρ 0).tI.toNat []) ((ρ 2).tR.getD (ρ 0).tI.toNat [])) := by
 have k : ∀ x ∈ prF, True := fun _ _ => trivial
 unfold prF itF txt tx1 g0 g1 g2
 simp only [List.mem_cons, List.not_mem_nil, or_false, forall_eq_or_imp, forall_eq]
 have e1 : ∀ a b : SX, ((SX.f2 45 a b).den T ρ).tP = ((a.den T ρ).tI = (b.den T ρ).tI) := fun a b => by
  show (ap2 45 (a.den T ρ) (b.den T ρ)).tP = _
  rw [p45]
 simp only [e1, Ze]
 have c1 : ((Zh (rA 1)).den T ρ).tI = ((ρ 1).tR.length : Nat) := rfl
 have c2 : ((Zh (rA 2)).den T ρ).tI = ((ρ 2).tR.length : Nat) := rfl
 have c3 : ∀ n, ((nt (rA 1) (ai 0) n).den T ρ).tI = ((ρ 1).tR.getD (ρ 0).tI.toNat []).getD n 0 := fun n => rfl
 have c4 : ∀ n, ((SX.f1 31 (.f1 36 (nt (rA 2) (ai 0) n))).den T ρ).tI = ((Yc (((ρ 2).tR.getD (ρ 0).tI.toNat []).getD n 0).toNat).length : Nat) := fun n => rfl
 have c5 : (z0.den T ρ).tI = 0 := rfl
 simp only [c1, c2, c3, c4, c5]
 constructor
 ·rintro ⟨a, b, c, d, e, f, g⟩; exact ⟨by omega, b, c, d, e, f, g⟩
 ·rintro ⟨a, b, c, d, e, f, g⟩; exact ⟨by omega, b, c, d, e, f, g⟩
theorem ZOU (S : Sig GG) (hS : FiSig S) : YH S oiC := by
 refine ZL S fun T w0 ρ h hu hp hd hr hpre => ⟨ρ, Ext.refl _ _, ?_⟩
 have e1 : hpDen T ρ w0 oiC.pre = Zd (T.prd 110 w0 ((rA 1).den T ρ) ((rA 2).den T ρ)) emp := rfl
 have r0 := hr (eLe z0 (ai 0)) (by simp [oiC])
 have r1 := hr (eLt (ai 0) (Zh (rA 1))) (by simp [oiC])
 rw [Ze] at r0
 rw [ZI] at r1
 have r0 : 0 <= (ρ 0).tI := r0
 have r1 : (ρ 0).tI < ((ρ 1).tR.length : Nat) := r1
 rw [e1, Zc, hp, hS.p110] at hpre
 have hpre : prH (ρ 1).tR (ρ 2).tR h := hpre
 have hl := Zhz hpre
 have hP : T.prd 111 = fun _ k x => prO k.tR x.tR := by rw [hp]; funext w0 k x; exact hS.p111 w0 k x
 rw [Zq7 (i := (ρ 0).tI.toNat) (by omega) hl] at hpre
 obtain ⟨a, b, d, rfl, ha, hf, hb⟩ := hpre
 refine ⟨?_, (ZwN T ρ).2 ⟨hl, hf⟩⟩
 show hpDen T ρ w0 prP _
 rw [Zuq T hP]
 exact ⟨a, b, d, rfl, ha, hb⟩
theorem ZPv (S : Sig GG) (hS : FiSig S) : YH S ciC := by
 refine ZL S fun T w0 ρ h hu hp hd hr hpre => ⟨ρ, Ext.refl _ _, ?_, fun x hx => nomatch hx⟩
 have e2 : hpDen T ρ w0 ciC.post = Zd (T.prd 110 w0 ((rA 1).den T ρ) ((rA 2).den T ρ)) emp := rfl
 have r0 := hr (eLe z0 (ai 0)) (by simp [ciC])
 have r1 := hr (eLt (ai 0) (Zh (rA 1))) (by simp [ciC])
 have r2 := (ZwN T ρ).1 fun x hx => hr x (by simp only [ciC]; exact List.mem_append_right _ hx)
 rw [Ze] at r0
 rw [ZI] at r1
 have r0 : 0 <= (ρ 0).tI := r0
 have r1 : (ρ 0).tI < ((ρ 1).tR.length : Nat) := r1
 have hP : T.prd 111 = fun _ k x => prO k.tR x.tR := by rw [hp]; funext w0 k x; exact hS.p111 w0 k x
 have hpre : hpDen T ρ w0 prP h := hpre
 rw [Zuq T hP] at hpre
 rw [e2, Zc, hp, hS.p110]
 show prH (ρ 1).tR (ρ 2).tR h
 rw [Zq7 (i := (ρ 0).tI.toNat) (by omega) r2.1]
 obtain ⟨a, b, d, rfl, ha, hb⟩ := hpre
 exact ⟨a, b, d, rfl, ha, r2.2, hb⟩
def Zvn : Ctr := ⟨[.int, .rows, .int, .rows, .int, .rows, .int, .rows], [.one (slC (ai 0) (Zh (rA 1)) (ai 2) 2), .one (slC (ai 4) (Zh (rA 5)) (ai 6) 2)], [ZsJ (ai 0) (rA 1) (ai 2), prC (rA 1) (rA 3), ZsJ (ai 4) (rA 5) (ai 6), prC (rA 5) (rA 7)],
 [.f2 45 (Zh (rA 1)) (Zh (rA 5)), eqS (rA 3) (rA 7), eLe (Zh (rA 1)) (.int 1048576)], [], .one (.bool (.bool true)), [ZsJ (ai 0) (rA 1) (ai 2), prC (rA 1) (rA 3), ZsJ (ai 4) (rA 5) (ai 6), prC (rA 5) (rA 7)], []⟩
def smpI : Inv := ⟨[.int], [(5, .one (.int .i64 (di 0)))], [], [eLe z0 (di 0), eLe (di 0) (Zh (rA 1))], .f2 41 (Zh (rA 1)) (di 0)⟩
def ZOL : Cx := { specs := [], anns := [(14, [(4, .inv smpI), (6, .ghost oiC [.tmp 5, .tmp 0]), (6, .ghost oiC [.tmp 5, .tmp 1]), (500006, .ghost ciC [.tmp 5, .tmp 0]), (500006, .ghost ciC [.tmp 5, .tmp 1])])] }
def ZJs : SX := e (.f1 32 (r 1)) (.f1 32 (r 5))
def Zsw : SX := .f3 112 (r 1) (a 8) (k 1)
def ZHv : SX := .f1 36 (.f3 112 (r 3) (a 8) z)
def ZJL : SX := .f1 31 ZHv
def ZsC : SX := .f3 112 (r 1) (a 8) (k 4)
def ZJB : SX := .f1 36 (.f3 112 (r 3) (a 8) (k 1))
def ZHz : SX := .f1 31 ZJB
def ZsO : SX := .f3 112 (r 5) (a 8) (k 1)
def ZHS : SX := .f1 36 (.f3 112 (r 7) (a 8) z)
def ZJq : SX := .f1 31 ZHS
def Zja : SX := .f3 112 (r 5) (a 8) (k 4)
def ZBq : SX := .f1 36 (.f3 112 (r 7) (a 8) (k 1))
def Zus : SX := .f1 31 ZBq
def Zyp : SX := .f1 2 (.f2 150 (.f2 114 ZHv Zsw) (.f2 114 ZHS ZsO))
def Zv7 : SX := e (.f1 32 (r 5)) (.f1 32 (r 1))
def ZwS : SX := .f1 2 (.f2 150 (.f2 114 ZJB ZsC) (.f2 114 ZBq Zja))
def Zy0 : SX := .f2 155 (.bool true) (.bool false)
def Zl2 : SX := .f2 40 (a 8) (k 1)
def ZvJ : SX := .f2 41 (.f1 32 (r 1)) Zl2
def ZLM : VC := i ZJs (i (.f2 155 (r 3) (r 7)) (i (l (.f1 32 (r 1)) (k 1048576)) (.and .tt (i ZJs (u 8 .int (i (l z (a 8)) (i (l (a 8) (.f1 32 (r 1))) (.and (i (t (a 8) (.f1 32 (r 1))) (i (e (.f1 32 (r 1)) (.f1 32 (r 3))) (i (e Zsw ZJL) (i (e ZsC ZHz) (i (l Zsw (.f3 112 (r 1) (a 8) (k 2))) (i (l ZsC (.f3 112 (r 1) (a 8) (k 5))) (i (l z (.f3 112 (r 1) (a 8) z)) (i (l z (.f3 112 (r 1) (a 8) (k 3))) (n (t (a 8) (.f1 32 (r 5))) (i (e (.f1 32 (r 5)) (.f1 32 (r 7))) (i (e ZsO ZJq) (i (e Zja Zus) (i (l ZsO (.f3 112 (r 5) (a 8) (k 2))) (i (l Zja (.f3 112 (r 5) (a 8) (k 5))) (i (l z (.f3 112 (r 5) (a 8) z)) (i (l z (.f3 112 (r 5) (a 8) (k 3))) (n (l z Zsw) (n (l Zsw ZJL) (n (l z ZsO) (n (l ZsO ZJq) (.and (i (.f1 2 Zyp) (n (l z ZsC) (n (l ZsC ZHz) (n (l z Zja) (n (l Zja Zus) (n Zv7 (.and (i ZwS (n Zy0 .tt)) (i (.f1 2 ZwS) (n (.f1 23 Zl2) (n (l z ZvJ) (n (t ZvJ (.f2 41 (.f1 32 (r 1)) (a 8))) (n (l z Zl2) (n (l Zl2 (.f1 32 (r 1))) .tt))))))))))))) (i Zyp (n Zv7 (n Zy0 .tt)))))))))))))))))))))))) (i (l (.f1 32 (r 1)) (a 8)) .tt)))))))))
theorem ZOk : YV Tryz.prog ZOL 12 14 Zvn = ZLM := by kernel_rfl
theorem ZLa (S : Sig GG) (hS : FiSig S) : ZA S Tryz.prog 14 Zvn := by
 refine Zg S (C := ZOL) (fuel := 12) (ZU trivial ⟨⟨trivial, ⟨by decide, ZOU S hS⟩, ⟨by decide, ZOU S hS⟩, ⟨by decide, ZPv S hS⟩, ⟨by decide, ZPv S hS⟩, trivial⟩, trivial⟩ trivial) fun ρ => ?_
 rw [ZOk]
 simp only [ZLM, ZJs, Zsw, ZHv, ZJL, ZsC, ZJB, ZHz, ZsO, ZHS, ZJq, Zja, ZBq, Zus, Zyp, Zv7, ZwS, Zy0, Zl2, ZvJ, ZQ, ZPY, VC.den, SX.den, Env.upd, ZX, ZE, beq_iff_eq, ZPQ, beq_eq_false_iff_ne, ne_eq, ZPP, ZPO, Int.reduceToNat, Nat.reduceEqDiff, reduceIte, sB, sC]
 generalize (ρ 1).tR = R
 generalize (ρ 5).tR = R2
 generalize (ρ 3).tR = W
 generalize (ρ 7).tR = W2
 intro h1 h2 h3
 subst h2
 refine ⟨trivial, fun _ x x0 x1 => ⟨fun hx a1 a2 a3 a4 a5 a6 a7 => ⟨by omega, fun b1 b2 b3 b4 b5 b6 b7 => ?_⟩, fun _ => trivial⟩⟩
 have e1 : (R.getD x.toNat []).getD 1 0 = (R2.getD x.toNat []).getD 1 0 := by rw [a2, b2]
 have e2 : (R.getD x.toNat []).getD 4 0 = (R2.getD x.toNat []).getD 4 0 := by rw [a3, b3]
 refine ⟨by omega, by omega, by omega, by omega, fun _ => ⟨by omega, by omega, by omega, by omega, by omega, fun hn => absurd (by rw [e2]) hn, fun _ => ⟨⟨by omega, by omega⟩, by omega, by omega, by omega, by omega, trivial⟩⟩, fun hn => absurd (by rw [e1]) hn⟩
def byt (n : Int) : UInt8 := UInt8.ofNat (n % 256).toNat
abbrev ZeE := List (Int × Int × Int × Int)
def InG (p : ZeE) (b v n : Int) : Prop := ∃ l c, (b, v, l, c) ∈ p /\ n <= l
def okC (b v l : Int) (p : ZeE) (b' v' n : Int) : Prop := (b' = b /\ v' = v /\ n <= l) \/ InG p b' v' n
def mkB (n i : Int) : UInt8 := byt (n + i.tdiv 251)
def mkL (n : Int) (k : Nat) : List UInt8 := (List.range k).map fun i : Nat => mkB n (i : Int)
structure MbSig {G : Type} (S : Sig G) : Prop where
 u700 : ∀ a b c d, S.usr 700 a b c d = .bytes (mkL a.tI b.tI.toNat)
theorem mk_at {x : List UInt8} {n m i : Int} (h : x.take m.toNat = mkL n m.toNat) (i0 : 0 <= i) (i1 : i < m) (hm : m <= x.length) : (((x.getD i.toNat 0).toNat : Nat) : Int) = IntKind.u8.wrap (n + i.tdiv 251) := by
 have e : (x.take m.toNat).getD i.toNat 0 = x.getD i.toNat 0 := by
  rw [ZPR, ZPR, List.getElem?_take_of_lt (by omega)]
 have hr : (mkL n m.toNat).getD i.toNat 0 = mkB n i := by
  unfold mkL
  rw [ZPR, ZPN, List.getElem?_range (by omega)]
  show mkB n ((i.toNat : Nat) : Int) = _
  rw [show ((i.toNat : Nat) : Int) = i by omega]
 rw [<- e, h, hr, w_u8]
 unfold mkB byt
 have h0 : 0 <= (n + i.tdiv 251) % 256 := Int.emod_nonneg _ (by decide)
 have h1 : (n + i.tdiv 251) % 256 < 256 := Int.emod_lt_of_pos _ (by decide)
 generalize (n + i.tdiv 251) % 256 = v at *
 rw [UInt8.toNat_ofNat_of_lt' (by show v.toNat < 256; omega)]; omega
def ZE7 (i j : Int) (r : List Int) : HProp := fun h => ∃ x : List UInt8, (0 <= g1 r /\ g1 r <= x.length /\ g1 r <= 4294967296 /\ (j < i -> x.take (g1 r).toNat = mkL j (g1 r).toNat)) /\ bAD (g0 r) x (g2 r) h
def Zif (i : Int) : Int -> List (List Int) -> HProp
 | _, [] => emp
 | j, r :: rs => Zd (ZE7 i j r) (Zif i (j + 1) rs)
def kp42 (k : List (List Int)) : HProp := Zif (g0 (k.getD 0 [])) (g1 (k.getD 0 [])) (((k.drop 1).take (g2 (k.getD 0 [])).toNat).drop (g1 (k.getD 0 [])).toNat)
def kp43 (k : List (List Int)) : HProp := Zd (Zif (g0 (k.getD 0 [])) 0 (((k.drop 1).take (g1 (k.getD 0 [])).toNat).take (g0 (k.getD 0 [])).toNat)) (Zif (g0 (k.getD 0 [])) (g0 (k.getD 0 []) + 1) (((k.drop 1).take (g1 (k.getD 0 [])).toNat).drop ((g0 (k.getD 0 [])).toNat + 1)))
def Zcg : ZeE -> HProp
 | [] => emp
 | (b, v, l, c) :: p => Zd (bAD b (mkL v l.toNat) c) (Zcg p)
def Zce (f : Int -> Int) (ok : Int -> Int -> Int -> Prop) : Int -> List (List Int) -> Prop
 | _, [] => True
 | j, r :: rs => (0 <= g1 r /\ g1 r <= 4294967400 /\ ok (g0 r) (f j) (g1 r)) /\ Zce f ok (j + 1) rs
def fG (j : Int) : Int := j.tdiv 5
def fL (j : Int) : Int := j
def kp46 (k Q : List (List Int)) : HProp := fun h => ∃ p : ZeE, (Zce fG (InG p) 0 ((k.drop 1).take (g0 (k.getD 0 [])).toNat) /\ Zce fL (InG p) 0 (Q.take (g1 (k.getD 0 [])).toNat)) /\ Zcg p h
def kp47 (k Q : List (List Int)) : HProp := fun h => ∃ p : ZeE, (Zce fG (okC (g1 (k.getD 0 [])) ((k.getD 0 []).getD 3 0) (g2 (k.getD 0 [])) p) 0 ((k.drop 1).take (g0 (k.getD 0 [])).toNat) ∧
 Zce fL (okC (g1 (k.getD 0 [])) ((k.getD 0 []).getD 3 0) (g2 (k.getD 0 [])) p) 0 (Q.take ((k.getD 0 []).getD 4 0).toNat)) /\ Zcg p h
def kp48 (k Q : List (List Int)) : HProp := fun h => ∃ p : ZeE, (Zce fG (InG ((g2 (k.getD 0 []), (k.getD 0 []).getD 3 0, (k.getD 0 []).getD 4 0, (k.getD 0 []).getD 5 0) :: p)) 0 ((k.drop 1).take (g0 (k.getD 0 [])).toNat) ∧
 Zce fL (InG ((g2 (k.getD 0 []), (k.getD 0 []).getD 3 0, (k.getD 0 []).getD 4 0, (k.getD 0 []).getD 5 0) :: p)) 0 (Q.take (g1 (k.getD 0 [])).toNat)) /\ Zcg p h
structure BySig (S : Sig GG) : Prop where
 fi : FiSig S
 p122 : ∀ w0 k x, S.prd 122 w0 k x = kp42 k.tR
 p123 : ∀ w0 k x, S.prd 123 w0 k x = kp43 k.tR
 p124 : ∀ w0 k x, S.prd 124 w0 k x = kp46 k.tR x.tR
 p125 : ∀ w0 k x, S.prd 125 w0 k x = kp47 k.tR x.tR
 p126 : ∀ w0 k x, S.prd 126 w0 k x = kp48 k.tR x.tR
 u700 : ∀ a b c d, S.usr 700 a b c d = .bytes (mkL a.tI b.tI.toNat)
theorem ZbP (i j n : Int) (P : List (List Int)) : kp42 ([i, j, n] :: P) = Zif i j ((P.take n.toNat).drop j.toNat) := rfl
theorem ZtI (i n : Int) (P : List (List Int)) : kp43 ([i, n] :: P) = Zd (Zif i 0 ((P.take n.toNat).take i.toNat)) (Zif i (i + 1) ((P.take n.toNat).drop (i.toNat + 1))) := rfl
theorem Zew (m j : Int) (G Q : List (List Int)) : kp46 ([m, j] :: G) Q = fun h => ∃ p : ZeE, (Zce fG (InG p) 0 (G.take m.toNat) /\ Zce fL (InG p) 0 (Q.take j.toNat)) /\ Zcg p h := rfl
theorem Zgh (m b l v j : Int) (G Q : List (List Int)) : kp47 ([m, b, l, v, j] :: G) Q = fun h => ∃ p : ZeE, (Zce fG (okC b v l p) 0 (G.take m.toNat) /\ Zce fL (okC b v l p) 0 (Q.take j.toNat)) /\ Zcg p h := rfl
theorem ZnC (m j b v l c : Int) (G Q : List (List Int)) : kp48 ([m, j, b, v, l, c] :: G) Q = fun h => ∃ p : ZeE, (Zce fG (InG ((b, v, l, c) :: p)) 0 (G.take m.toNat) /\ Zce fL (InG ((b, v, l, c) :: p)) 0 (Q.take j.toNat)) /\ Zcg p h := rfl
def c42 (i j n P : SX) : Ch := .prd 122 (Zu (ZaC i j n) P) z0
def c43 (i n P : SX) : Ch := .prd 123 (Zu (ZN i n) P) z0
def c46 (m j G P : SX) : Ch := .prd 124 (Zu (ZN m j) G) P
def c47 (m b l v j G P : SX) : Ch := .prd 125 (Zu (Zdx m b l v j) G) P
def c48 (m j b v l c G P : SX) : Ch := .prd 126 (Zu (Zbm m j b v l c) G) P
def bmX (v l : SX) : SX := usY 700 v l z0
def ZFX : Ctr := ⟨[.int, .int, .rows], [.one (.int .i64 (ai 0))], [c42 (ai 0) z0 (ai 1) (rA 2)], [eLe (.int 0) (ai 0), eLt (ai 0) (ai 1), eLe (ai 1) (Zh (rA 2))], [.bytes], .tup [],
 [c43 (ai 0) (ai 1) (rA 2), bAr (nt (rA 2) (ai 0) 0) (bA 3) (nt (rA 2) (ai 0) 2)], [eLe (.int 0) (nt (rA 2) (ai 0) 1), eLe (nt (rA 2) (ai 0) 1) (Zm9 (bA 3)), eLe (nt (rA 2) (ai 0) 1) (.int 4294967296)]⟩
def Zxp : Ctr := ⟨[.int, .int, .rows, .bytes], [], [c43 (ai 0) (ai 1) (rA 2), bAr (nt (rA 2) (ai 0) 0) (bA 3) (nt (rA 2) (ai 0) 2)],
 [eLe (.int 0) (ai 0), eLt (ai 0) (ai 1), eLe (ai 1) (Zh (rA 2)), eLe (.int 0) (nt (rA 2) (ai 0) 1), eLe (nt (rA 2) (ai 0) 1) (Zm9 (bA 3)), eLe (nt (rA 2) (ai 0) 1) (.int 4294967296), eqS (tkB (bA 3) (nt (rA 2) (ai 0) 1)) (bmX (ai 0) (nt (rA 2) (ai 0) 1))], [], .tup [],
 [c42 (SX.mk2 40 (ai 0) (.int 1)) z0 (ai 1) (rA 2)], []⟩
def ZNq : Ctr := ⟨[.int, .int, .rows], [], [c42 (ai 0) z0 (ai 1) (rA 2)], [eLe (ai 1) (ai 0)], [], .tup [], [c46 z0 z0 Zbn (rA 2), slA (.int (-1)) Zbn z0, c42 (ai 1) z0 (ai 1) (rA 2)], []⟩
def ZxE : Ctr := ⟨[.int, .rows, .int, .int, .rows, .int, .int, .int], [.one (.int .i64 (ai 2)), .one (sl1 (ai 5) (ai 6) (ai 7))], [c46 (ai 0) (ai 2) (rA 1) (rA 4), c42 (ai 3) (ai 2) (ai 3) (rA 4)],
 [eLe (.int 0) (ai 2), eLt (ai 2) (ai 3), eLe (ai 3) (Zh (rA 4)), .f2 45 (ai 5) (nt (rA 4) (ai 2) 0), .f2 45 (ai 6) (nt (rA 4) (ai 2) 1), .f2 45 (ai 7) (nt (rA 4) (ai 2) 2)], [], .tup [],
 [c47 (ai 0) (ai 5) (ai 6) (ai 2) (SX.mk2 40 (ai 2) (.int 1)) (rA 1) (rA 4), bAr (ai 5) (bmX (ai 2) (ai 6)) (ai 7), c42 (ai 3) (SX.mk2 40 (ai 2) (.int 1)) (ai 3) (rA 4)], [eLe (.int 0) (ai 6), eLe (ai 6) (.int 4294967296), eLe (ai 6) (ai 7)]⟩
def ZKV : Ctr := ⟨[.int, .int, .int, .int, .int, .rows, .rows, .int, .int, .bytes], [.one (sl1 (ai 1) (ai 7) (ai 8))], [c47 (ai 0) (ai 1) (ai 2) (ai 3) (ai 4) (rA 5) (rA 6), bAr (ai 1) (bA 9) (ai 8)],
 [.f2 45 (ai 7) (.f2 40 (ai 2) (.int 1)), eqS (bA 9) (bmX (ai 3) (ai 7))], [], .tup [], [c47 (ai 0) (ai 1) (ai 7) (ai 3) (ai 4) (rA 5) (rA 6), bAr (ai 1) (bmX (ai 3) (ai 7)) (ai 8)], []⟩
def ZKZ : Ctr := ⟨[.int, .int, .int, .int, .int, .rows, .rows, .int, .int, .bytes, .int, .int, .bytes], [.one (sl1 (ai 10) (ai 7) (ai 8))], [c47 (ai 0) (ai 1) (ai 2) (ai 3) (ai 4) (rA 5) (rA 6), bAr (ai 1) (bA 9) (ai 11), bAr (ai 10) (bA 12) (ai 8)],
 [.f2 45 (ai 7) (.f2 40 (ai 2) (.int 1)), eqS (bA 9) (bmX (ai 3) (ai 2)), eqS (bA 12) (bmX (ai 3) (ai 7))], [], .tup [], [c47 (ai 0) (ai 10) (ai 7) (ai 3) (ai 4) (rA 5) (rA 6), bAr (ai 10) (bmX (ai 3) (ai 7)) (ai 8)], []⟩
def ZEv : Ctr := ⟨[.int, .int, .int, .int, .int, .rows, .rows, .int], [.one (sl1 (ai 1) (ai 2) (ai 7))], [c47 (ai 0) (ai 1) (ai 2) (ai 3) (ai 4) (rA 5) (rA 6)],
 [eLe (.int 0) (ai 0), eLe (ai 0) (Zh (rA 5)), eLe (.int 0) (ai 2), eLe (ai 2) (.int 4294967400), .f2 45 (ai 3) (.f2 43 (ai 0) (.int 5))], [], .tup [], [c47 (SX.mk2 40 (ai 0) (.int 1)) (ai 1) (ai 2) (ai 3) (ai 4) (.f2 121 (tk (rA 5) (ai 0)) (.f2 124 (ZGr (ai 1) (ai 2) (ai 7)) Zbn)) (rA 6)], []⟩
def ZL7 : Ctr := ⟨[.int, .int, .int, .int, .int, .rows, .rows, .int, .bytes], [], [c47 (ai 0) (ai 1) (ai 2) (ai 3) (ai 4) (rA 5) (rA 6), bAr (ai 1) (bA 8) (ai 7)], [eqS (bA 8) (bmX (ai 3) (ai 2))], [], .tup [], [c46 (ai 0) (ai 4) (rA 5) (rA 6)], []⟩
def ZFR : Ctr := ⟨[.int, .int, .rows, .rows, .int], [.one (.int .i64 (ai 4))], [c46 (ai 0) (ai 1) (rA 2) (rA 3)], [eLe (.int 0) (ai 4), eLt (ai 4) (ai 0), eLe (ai 0) (Zh (rA 2))], [.int, .int], .tup [],
 [c48 (ai 0) (ai 1) (nt (rA 2) (ai 4) 0) (.f2 43 (ai 4) (.int 5)) (ai 5) (ai 6) (rA 2) (rA 3), bAr (nt (rA 2) (ai 4) 0) (bmX (.f2 43 (ai 4) (.int 5)) (ai 5)) (ai 6)],
 [eLe (.int 0) (nt (rA 2) (ai 4) 1), eLe (nt (rA 2) (ai 4) 1) (ai 5), eLe (nt (rA 2) (ai 4) 1) (.int 4294967400)]⟩
def ZFi : Ctr := ⟨[.int, .int, .rows, .rows, .int], [.one (.int .i64 (ai 4))], [c46 (ai 0) (ai 1) (rA 2) (rA 3)], [eLe (.int 0) (ai 4), eLt (ai 4) (ai 1), eLe (ai 1) (Zh (rA 3))], [.int, .int], .tup [],
 [c48 (ai 0) (ai 1) (nt (rA 3) (ai 4) 0) (ai 4) (ai 5) (ai 6) (rA 2) (rA 3), bAr (nt (rA 3) (ai 4) 0) (bmX (ai 4) (ai 5)) (ai 6)],
 [eLe (.int 0) (nt (rA 3) (ai 4) 1), eLe (nt (rA 3) (ai 4) 1) (ai 5), eLe (nt (rA 3) (ai 4) 1) (.int 4294967400)]⟩
def ZKR : Ctr := ⟨[.int, .int, .int, .int, .int, .int, .rows, .rows, .bytes], [], [c48 (ai 0) (ai 1) (ai 2) (ai 3) (ai 4) (ai 5) (rA 6) (rA 7), bAr (ai 2) (bA 8) (ai 5)], [eqS (bA 8) (bmX (ai 3) (ai 4))], [], .tup [], [c46 (ai 0) (ai 1) (rA 6) (rA 7)], []⟩
theorem Zs5 {G : Type} {S : Sig G} {b c : U G} {x : List UInt8} {h : Hl} (hd : ZK S .bytes b (.bytes x) c h) : (x.length : Int) <= c.tI := by
 have := ZeT hd
 have e1 : (En.bytes.vals (.bytes x : U G)).length = x.length := by simp [En.vals]
 have e2 : En.bytes.stride = 1 := rfl
 rw [e1, e2] at this; omega
theorem Zf0 {i : Int} : ∀ {a : List (List Int)} {j : Int} (b : List (List Int)), Zif i j (a ++ b) = Zd (Zif i j a) (Zif i (j + a.length) b)
 | [], j, b => by rw [List.nil_append]; show _ = Zd emp _; rw [emp_star]; simp
 | r :: a, j, b => by
  rw [List.cons_append]
  show Zd _ (Zif i (j + 1) (a ++ b)) = Zd (Zd _ (Zif i (j + 1) a)) _
  rw [Zf0 b, star_assoc, show j + 1 + (a.length : Int) = j + ((r :: a).length : Nat) by simp only [ZQb]; omega]
theorem ZdU {i i' : Int} : ∀ {l : List (List Int)} {j : Int} {h : Hl}, (∀ q : Int, j <= q -> q < j + l.length -> q < i' -> q < i) -> Zif i j l h -> Zif i' j l h
 | [], _, _, _, hx => hx
 | r :: l, j, h, hq, hx => by
  obtain ⟨a, b, d, rfl, ⟨x, ⟨q1, q2, q3, q4⟩, ha⟩, hb⟩ := hx
  have : ((r :: l).length : Int) = l.length + 1 := by simp
  exact ⟨a, b, d, rfl, ⟨x, ⟨q1, q2, q3, fun h => q4 (hq j (ZP2 _) (by omega) h)⟩, ha⟩, ZdU (fun q a b c => hq q (by omega) (by omega) c) hb⟩
theorem ZkZ {i j : Int} {k : List (List Int)} {q : Nat} (hq : q < k.length) : Zif i j k = Zd (Zd (Zif i j (k.take q)) (Zif i (j + q + 1) (k.drop (q + 1)))) (ZE7 i (j + q) (k.getD q [])) := by
 conv => lhs; rw [ZbX (d := []) hq]
 have hl : (k.take q).length = q := by rw [ZPT]; omega
 rw [Zf0, hl, List.singleton_append]
 show Zd _ (Zd _ (Zif i (j + q + 1) _)) = _
 rw [Zy (ZE7 _ _ _), star_assoc]
theorem ZS {f : Int -> Int} {p q : Int -> Int -> Int -> Prop} (hpq : ∀ b v n, p b v n -> q b v n) : ∀ {l : List (List Int)} {j : Int}, Zce f p j l -> Zce f q j l
 | [], _, _ => trivial
 | r :: l, j, h => ⟨⟨h.1.1, h.1.2.1, hpq _ _ _ h.1.2.2⟩, ZS hpq h.2⟩
theorem Zf5 {f : Int -> Int} {p : Int -> Int -> Int -> Prop} : ∀ {l : List (List Int)} {j : Int} {r : List Int}, Zce f p j l -> 0 <= g1 r -> g1 r <= 4294967400 -> p (g0 r) (f (j + l.length)) (g1 r) -> Zce f p j (l ++ [r])
 | [], j, r, _, h1, h2, h3 => ⟨⟨h1, h2, by simpa using h3⟩, trivial⟩
 | s :: l, j, r, h, h1, h2, h3 => ⟨h.1, Zf5 h.2 h1 h2 (by rw [show j + 1 + (l.length : Int) = j + ((s :: l).length : Nat) by simp only [ZQb]; omega]; exact h3)⟩
theorem Zjo {f : Int -> Int} {p : Int -> Int -> Int -> Prop} : ∀ {l : List (List Int)} {j : Int} {i : Nat}, Zce f p j l -> i < l.length -> 0 <= g1 (l.getD i []) /\ g1 (l.getD i []) <= 4294967400 /\ p (g0 (l.getD i [])) (f (j + i)) (g1 (l.getD i []))
 | r :: l, j, 0, h, _ => by simpa using h.1
 | r :: l, j, i + 1, h, hl => by
  rw [List.getD_cons_succ, show j + ((i + 1 : Nat) : Int) = j + 1 + i by omega]; exact Zjo h.2 (by simpa using hl)
 | [], _, _, _, hl => by simp at hl
theorem ZgS : ∀ (p q : ZeE), Zcg (p ++ q) = Zd (Zcg p) (Zcg q)
 | [], q => by rw [List.nil_append]; show _ = Zd emp _; rw [emp_star]
 | (b, v, l, c) :: p, q => by rw [List.cons_append]; show Zd _ (Zcg (p ++ q)) = Zd (Zd _ _) _; rw [ZgS p q, star_assoc]
theorem ZhG {p : ZeE} {x : Int × Int × Int × Int} (hx : x ∈ p) : ∃ q : ZeE, (∀ y, y ∈ p ↔ y ∈ x :: q) /\ ∀ h, Zcg p h -> Zcg (x :: q) h := by
 obtain ⟨a, b, rfl⟩ := List.append_of_mem hx
 obtain ⟨x1, x2, x3, x4⟩ := x
 refine ⟨a ++ b, fun y => by simp only [ZQc, List.mem_cons]; exact ⟨fun h => h.elim (fun h => .inr (.inl h)) (fun h => h.elim .inl fun h => .inr (.inr h)), fun h => h.elim (fun h => .inr (.inl h)) fun h => h.elim .inl fun h => .inr (.inr h)⟩, fun h hp => ?_⟩
 rw [ZgS] at hp
 show Zd _ (Zcg (a ++ b)) h
 rw [ZgS, <- star_assoc, Zy _ (Zcg a), star_assoc]
 exact hp
theorem ZHN {G : Type} (T : Sig G) : ZK T slT (.int (-1)) (.rows []) (.int 0) = emp := by
 funext h
 refine propext ⟨fun hx => ?_, fun hx => ⟨[], rfl, ZP2 0, .inr rfl, by rw [show slT.vals (.rows [] : U G) ++ [] = [] from rfl, Zcj]; exact hx⟩⟩
 obtain ⟨sp, l1, _, _, l4⟩ := hx
 have : sp = [] := ZP6 (by have : (slT.vals (.rows [] : U G)).length = 0 := rfl; rw [this] at l1; simpa using l1)
 subst this
 rw [show slT.vals (.rows [] : U G) ++ [] = [] from rfl, Zcj] at l4
 exact l4
theorem ZfC {p q : ZeE} (h : ∀ y, y ∈ p -> y ∈ q) (b v n : Int) : InG p b v n -> InG q b v n := fun ⟨l, c, h1, h2⟩ => ⟨l, c, h _ h1, h2⟩
theorem ZLl (S : Sig GG) (hK : BySig S) : YH S ZFX := by
 refine ZL S fun T w0 ρ h hu hp hd hr hpre => ?_
 have e1 : hpDen T ρ w0 ZFX.pre = Zd (T.prd 122 w0 ((Zu (ZaC (ai 0) z0 (ai 1)) (rA 2)).den T ρ) (z0.den T ρ)) emp := rfl
 have e2 : ∀ ρ', hpDen T ρ' w0 ZFX.post = Zd (T.prd 123 w0 ((Zu (ZN (ai 0) (ai 1)) (rA 2)).den T ρ') (z0.den T ρ')) (Zd (ZK T .bytes ((nt (rA 2) (ai 0) 0).den T ρ') ((bA 3).den T ρ') ((nt (rA 2) (ai 0) 2).den T ρ')) emp) := fun _ => rfl
 rw [e1, Zc, hp, hK.p122] at hpre
 have r0 := hr (eLe (.int 0) (ai 0)) (by simp [ZFX])
 have r1 := hr (eLt (ai 0) (ai 1)) (by simp [ZFX])
 have r2 := hr (eLe (ai 1) (Zh (rA 2))) (by simp [ZFX])
 simp only [eLe, eLt, SX.mk2, Zh, SX.den, ai, rA, Zp, Zw, U.tIi, U.tRi, p46, p47, Yd] at r0 r1 r2
 simp only [Zu, ZaC, ZN, Zjb, z0, SX.den, ai, rA, Zp, Zw, U.tIi, U.tRi, Yj, Yi, Yh, U.tNi, ZbP, ZPO, List.drop_zero] at hpre
 have hi : (ρ 0).tI.toNat < ((ρ 2).tR.take (ρ 1).tI.toNat).length := by rw [ZPT]; omega
 rw [ZkZ hi, show (0 : Int) + ((ρ 0).tI.toNat : Nat) = (ρ 0).tI by omega] at hpre
 obtain ⟨a, b, d, rfl, ha, x, ⟨q1, q2, q3, _⟩, hb⟩ := hpre
 rw [Z5 (by omega)] at q1 q2 q3 hb
 refine ⟨ρ.upd 3 (.bytes x), Ext.upd _ _, ?_, ?_⟩
 ·rw [e2, Zc, hp, hK.p123]
  simp only [Zu, ZN, Zjb, nt, SX.den, ai, rA, bA, Zp, ZG, Zw, Env.upd, Nat.reduceEqDiff, reduceIte, U.tIi, U.tBi, U.tRi, Yj, Yi, Yh, U.tNi, ZaO, ZtI]
  exact ⟨a, b, d, rfl, ha, hb⟩
 ·intro q hq
  simp only [ZFX, List.mem_cons, List.not_mem_nil, or_false] at hq
  rcases hq with rfl | rfl | rfl
  all_goals simp only [eLe, SX.mk2, nt, Zm9, SX.den, ai, rA, bA, Zp, ZG, Zw, Env.upd, Nat.reduceEqDiff, reduceIte, U.tIi, U.tBi, U.tRi, p47, Zsl, ZaO]
  ·exact q1
  ·exact q2
  ·exact q3
theorem ZOW (S : Sig GG) (hK : BySig S) : YH S Zxp := by
 refine ZL S fun T w0 ρ h hu hp hd hr hpre => ⟨ρ, Ext.refl _ _, ?_, by intro x hx; exact nomatch hx⟩
 have e1 : hpDen T ρ w0 Zxp.pre = Zd (T.prd 123 w0 ((Zu (ZN (ai 0) (ai 1)) (rA 2)).den T ρ) (z0.den T ρ)) (Zd (ZK T .bytes ((nt (rA 2) (ai 0) 0).den T ρ) ((bA 3).den T ρ) ((nt (rA 2) (ai 0) 2).den T ρ)) emp) := rfl
 have e2 : hpDen T ρ w0 Zxp.post = Zd (T.prd 122 w0 ((Zu (ZaC (SX.mk2 40 (ai 0) (.int 1)) z0 (ai 1)) (rA 2)).den T ρ) (z0.den T ρ)) emp := rfl
 rw [e1, Zc, hp, hK.p123] at hpre
 rw [e2, Zc, hp, hK.p122]
 have r0 := hr (eLe (.int 0) (ai 0)) (by simp [Zxp])
 have r1 := hr (eLt (ai 0) (ai 1)) (by simp [Zxp])
 have r2 := hr (eLe (ai 1) (Zh (rA 2))) (by simp [Zxp])
 have s1 := hr (eLe (.int 0) (nt (rA 2) (ai 0) 1)) (by simp [Zxp])
 have s2 := hr (eLe (nt (rA 2) (ai 0) 1) (Zm9 (bA 3))) (by simp [Zxp])
 have s3 := hr (eLe (nt (rA 2) (ai 0) 1) (.int 4294967296)) (by simp [Zxp])
 have s4 := hr (eqS (tkB (bA 3) (nt (rA 2) (ai 0) 1)) (bmX (ai 0) (nt (rA 2) (ai 0) 1))) (by simp [Zxp])
 simp only [eLe, eLt, eqS, SX.mk2, Zh, Zm9, tkB, bmX, usY, nt, SX.den, ai, rA, bA, hu, hK.u700, Zp, ZG, Zw, U.tIi, U.tBi, U.tRi, p46, p47, ZCF, Zsl, Yd, Zzm, ZaO, U.bytes.injEq] at r0 r1 r2 s1 s2 s3 s4
 have e40 : ((SX.mk2 40 (ai 0) (.int 1)).den T ρ).tI = (ρ 0).tI + 1 := by rw [SX.mk2_den]; rfl
 simp only [Zu, ZN, Zjb, nt, SX.den, ai, rA, bA, Zp, ZG, Zw, U.tIi, U.tBi, U.tRi, Yj, Yi, Yh, U.tNi, ZaO, ZtI] at hpre
 simp only [Zu, ZaC, ZN, Zjb, z0, SX.den, ai, rA, Zp, Zw, U.tIi, U.tRi, Yj, Yi, Yh, U.tNi, ZbP, ZPO, List.drop_zero] at e40 ⊢
 rw [e40]
 have hi : (ρ 0).tI.toNat < ((ρ 2).tR.take (ρ 1).tI.toNat).length := by rw [ZPT]; omega
 rw [ZkZ hi, show (0 : Int) + ((ρ 0).tI.toNat : Nat) = (ρ 0).tI by omega, Z5 (by omega)]
 obtain ⟨a, b, d, rfl, ha, hb⟩ := hpre
 refine ⟨a, b, d, rfl, Zt (fun h hh => ZdU (fun q _ hq _ => ?_) hh) (fun h hh => ZdU (fun q hq _ _ => by omega) hh) a ha, (ρ 3).tB, ⟨s1, s2, s3, fun _ => s4⟩, hb⟩
 rw [ZPT] at hq; omega
theorem ZN8 (S : Sig GG) (hK : BySig S) : YH S ZNq := by
 refine ZL S fun T w0 ρ h hu hp hd hr hpre => ⟨ρ, Ext.refl _ _, ?_, by intro x hx; exact nomatch hx⟩
 have e1 : hpDen T ρ w0 ZNq.pre = Zd (T.prd 122 w0 ((Zu (ZaC (ai 0) z0 (ai 1)) (rA 2)).den T ρ) (z0.den T ρ)) emp := rfl
 have e2 : hpDen T ρ w0 ZNq.post = Zd (T.prd 124 w0 ((Zu (ZN z0 z0) Zbn).den T ρ) ((rA 2).den T ρ)) (Zd (ZK T slT ((SX.int (-1)).den T ρ) (Zbn.den T ρ) (z0.den T ρ)) (Zd (T.prd 122 w0 ((Zu (ZaC (ai 1) z0 (ai 1)) (rA 2)).den T ρ) (z0.den T ρ)) emp)) := rfl
 have r0 := hr (eLe (ai 1) (ai 0)) (by simp [ZNq])
 simp only [eLe, SX.mk2, SX.den, ai, Zp, U.tIi, p47] at r0
 rw [e1, Zc, hp, hK.p122] at hpre
 rw [e2, Zc, hp, hK.p124, hK.p122]
 simp only [Zu, ZaC, ZN, Zjb, z0, SX.den, ai, rA, Zp, Zw, U.tIi, U.tRi, Yj, Yi, Yh, U.tNi, ZbP, ZPO, List.drop_zero] at hpre
 simp only [Zu, ZaC, ZN, Zjb, Zbn, z0, SX.den, ai, rA, Zp, Zw, Yj, Yi, Yh, ZoG, U.tNi, U.tIi, U.tRi, Zew, ZbP, ZPO, List.drop_zero]
 rw [ZHN, emp_star, Zy]
 exact ⟨h, Hl.none, Hl.disj_none _, (Hl.un_none _).symm, ZdU (fun q a b c => by omega) hpre, [], ⟨trivial, trivial⟩, rfl⟩
theorem ZPc (S : Sig GG) (hK : BySig S) : YH S ZxE := by
 refine ZL S fun T w0 ρ h hu hp hd hr hpre => ⟨ρ, Ext.refl _ _, ?_⟩
 have e1 : hpDen T ρ w0 ZxE.pre = Zd (T.prd 124 w0 ((Zu (ZN (ai 0) (ai 2)) (rA 1)).den T ρ) ((rA 4).den T ρ)) (Zd (T.prd 122 w0 ((Zu (ZaC (ai 3) (ai 2) (ai 3)) (rA 4)).den T ρ) (z0.den T ρ)) emp) := rfl
 have e2 : hpDen T ρ w0 ZxE.post = Zd (T.prd 125 w0 ((Zu (Zdx (ai 0) (ai 5) (ai 6) (ai 2) (SX.mk2 40 (ai 2) (.int 1))) (rA 1)).den T ρ) ((rA 4).den T ρ)) (Zd (ZK T .bytes ((ai 5).den T ρ) ((bmX (ai 2) (ai 6)).den T ρ) ((ai 7).den T ρ)) (Zd (T.prd 122 w0 ((Zu (ZaC (ai 3) (SX.mk2 40 (ai 2) (.int 1)) (ai 3)) (rA 4)).den T ρ) (z0.den T ρ)) emp)) := rfl
 rw [e1, Zc, hp, hK.p124, hK.p122] at hpre
 rw [e2, Zc, hp, hK.p125, hK.p122]
 have r0 := hr (eLe (.int 0) (ai 2)) (by simp [ZxE])
 have r1 := hr (eLt (ai 2) (ai 3)) (by simp [ZxE])
 have r2 := hr (eLe (ai 3) (Zh (rA 4))) (by simp [ZxE])
 have r3 := hr (.f2 45 (ai 5) (nt (rA 4) (ai 2) 0)) (by simp [ZxE])
 have r4 := hr (.f2 45 (ai 6) (nt (rA 4) (ai 2) 1)) (by simp [ZxE])
 have r5 := hr (.f2 45 (ai 7) (nt (rA 4) (ai 2) 2)) (by simp [ZxE])
 simp only [eLe, eLt, SX.mk2, Zh, nt, SX.den, ai, rA, Zp, Zw, U.tIi, U.tRi, p45, p46, p47, Yd, ZaO] at r0 r1 r2 r3 r4 r5
 have e40 : ((SX.mk2 40 (ai 2) (.int 1)).den T ρ).tI = (ρ 2).tI + 1 := by rw [SX.mk2_den]; rfl
 simp only [Zu, ZaC, ZN, Zjb, z0, SX.den, ai, rA, Zp, Zw, U.tIi, U.tRi, Yj, Yi, Yh, U.tNi, Zew, ZbP] at hpre
 simp only [Zu, Zdx, Zc7, ZaC, ZN, bmX, usY, hu, hK.u700, Zjb, z0, SX.den, ai, rA, Zp, ZG, Zw, U.tIi, U.tBi, U.tRi, Yj, Yi, Yh, U.tNi, Zgh, ZbP] at e40 ⊢
 rw [e40]
 have hi : (ρ 2).tI.toNat < ((ρ 4).tR.take (ρ 3).tI.toNat).length := by rw [ZPT]; omega
 have hsp : ((ρ 4).tR.take (ρ 3).tI.toNat).drop (ρ 2).tI.toNat = (ρ 4).tR.getD (ρ 2).tI.toNat [] :: ((ρ 4).tR.take (ρ 3).tI.toNat).drop ((ρ 2).tI + 1).toNat := by
  rw [List.drop_eq_getElem_cons hi, show ((ρ 2).tI + 1).toNat = (ρ 2).tI.toNat + 1 by omega]
  congr 1
  have : ((ρ 4).tR.take (ρ 3).tI.toNat).getD (ρ 2).tI.toNat [] = (ρ 4).tR.getD (ρ 2).tI.toNat [] := Z5 (by omega)
  rw [<- this, ZPR, ZPU hi]; rfl
 have hst : (ρ 4).tR.take ((ρ 2).tI + 1).toNat = (ρ 4).tR.take (ρ 2).tI.toNat ++ [(ρ 4).tR.getD (ρ 2).tI.toNat []] := by
  rw [show ((ρ 2).tI + 1).toNat = (ρ 2).tI.toNat + 1 by omega, List.take_add_one, ZPR, ZPU (by omega)]; rfl
 rw [hsp] at hpre
 rw [hst]
 obtain ⟨a, b, d, rfl, ⟨p, ⟨hg, hl⟩, ha⟩, b1, b2, d2, rfl, ⟨x, ⟨q1, q2, q3, q4⟩, hb1⟩, hb2⟩ := hpre
 have r3 : (ρ 5).tI = g0 ((ρ 4).tR.getD (ρ 2).tI.toNat []) := r3
 have r4 : (ρ 6).tI = g1 ((ρ 4).tR.getD (ρ 2).tI.toNat []) := r4
 have r5 : (ρ 7).tI = g2 ((ρ 4).tR.getD (ρ 2).tI.toNat []) := r5
 have hlen : ((ρ 4).tR.take (ρ 2).tI.toNat).length = (ρ 2).tI.toNat := by rw [ZPT]; omega
 have hnew := Zf5 (f := fL) (p := okC (ρ 5).tI (ρ 2).tI (ρ 6).tI p) (r := (ρ 4).tR.getD (ρ 2).tI.toNat []) (ZS (fun _ _ _ h => .inr h) hl) q1 (by omega) (.inl ⟨r3.symm, by rw [hlen]; unfold fL; omega, by omega⟩)
 rw [<- r4] at q1 q2 q3 q4
 rw [<- r3, <- r5] at hb1
 have hc : (x.length : Int) <= (ρ 7).tI := Zs5 (S := sig0) hb1
 refine ⟨⟨a, _, d, rfl, ⟨p, ⟨ZS (fun _ _ _ h => .inr h) hg, hnew⟩, ha⟩, b1, b2, d2, rfl, ?_, hb2⟩, ?_⟩
 ·have := ZCM (ρ 6).tI.toNat hb1
  rw [q4 r1] at this
  exact this
 ·intro q hq
  simp only [ZxE, List.mem_cons, List.not_mem_nil, or_false] at hq
  rcases hq with rfl | rfl | rfl
  all_goals simp only [eLe, SX.mk2, SX.den, ai, Zp, U.tIi, p47]
  all_goals omega
theorem ZK3 (S : Sig GG) (hK : BySig S) : YH S ZKV := by
 refine ZL S fun T w0 ρ h hu hp hd hr hpre => ⟨ρ, Ext.refl _ _, ?_, by intro x hx; exact nomatch hx⟩
 have e1 : hpDen T ρ w0 ZKV.pre = Zd (T.prd 125 w0 ((Zu (Zdx (ai 0) (ai 1) (ai 2) (ai 3) (ai 4)) (rA 5)).den T ρ) ((rA 6).den T ρ)) (Zd (ZK T .bytes ((ai 1).den T ρ) ((bA 9).den T ρ) ((ai 8).den T ρ)) emp) := rfl
 have e2 : hpDen T ρ w0 ZKV.post = Zd (T.prd 125 w0 ((Zu (Zdx (ai 0) (ai 1) (ai 7) (ai 3) (ai 4)) (rA 5)).den T ρ) ((rA 6).den T ρ)) (Zd (ZK T .bytes ((ai 1).den T ρ) ((bmX (ai 3) (ai 7)).den T ρ) ((ai 8).den T ρ)) emp) := rfl
 rw [e1, Zc, hp, hK.p125] at hpre
 rw [e2, Zc, hp, hK.p125]
 have r0 := hr (.f2 45 (ai 7) (.f2 40 (ai 2) (.int 1))) (by simp [ZKV])
 have r1 := hr (eqS (bA 9) (bmX (ai 3) (ai 7))) (by simp [ZKV])
 simp only [eqS, bmX, usY, SX.den, ai, bA, Zp, ZG, hu, hK.u700, U.tIi, U.tBi, p45, ZCF, Zxm, U.bytes.injEq] at r0 r1
 simp only [Zu, Zdx, Zc7, ZaC, ZN, bmX, usY, hu, hK.u700, Zjb, SX.den, ai, rA, bA, Zp, ZG, Zw, U.tIi, U.tBi, U.tRi, Yj, Yi, Yh, U.tNi, Zgh] at hpre ⊢
 rw [r1] at hpre
 obtain ⟨a, b, d, rfl, ⟨p, ⟨h1, h2⟩, ha⟩, hb⟩ := hpre
 have hm : ∀ b v n, okC (ρ 1).tI (ρ 3).tI (ρ 2).tI p b v n -> okC (ρ 1).tI (ρ 3).tI (ρ 7).tI p b v n := fun b v n h => h.elim (fun h => .inl ⟨h.1, h.2.1, by omega⟩) .inr
 exact ⟨a, b, d, rfl, ⟨p, ⟨ZS hm h1, ZS hm h2⟩, ha⟩, hb⟩
theorem ZMa (S : Sig GG) (hK : BySig S) : YH S ZKZ := by
 refine ZL S fun T w0 ρ h hu hp hd hr hpre => ⟨ρ, Ext.refl _ _, ?_, by intro x hx; exact nomatch hx⟩
 have e1 : hpDen T ρ w0 ZKZ.pre = Zd (T.prd 125 w0 ((Zu (Zdx (ai 0) (ai 1) (ai 2) (ai 3) (ai 4)) (rA 5)).den T ρ) ((rA 6).den T ρ)) (Zd (ZK T .bytes ((ai 1).den T ρ) ((bA 9).den T ρ) ((ai 11).den T ρ)) (Zd (ZK T .bytes ((ai 10).den T ρ) ((bA 12).den T ρ) ((ai 8).den T ρ)) emp)) := rfl
 have e2 : hpDen T ρ w0 ZKZ.post = Zd (T.prd 125 w0 ((Zu (Zdx (ai 0) (ai 10) (ai 7) (ai 3) (ai 4)) (rA 5)).den T ρ) ((rA 6).den T ρ)) (Zd (ZK T .bytes ((ai 10).den T ρ) ((bmX (ai 3) (ai 7)).den T ρ) ((ai 8).den T ρ)) emp) := rfl
 rw [e1, Zc, <- star_assoc, hp, hK.p125] at hpre
 rw [e2, Zc, hp, hK.p125]
 have r1 := hr (eqS (bA 9) (bmX (ai 3) (ai 2))) (by simp [ZKZ])
 have r2 := hr (eqS (bA 12) (bmX (ai 3) (ai 7))) (by simp [ZKZ])
 simp only [eqS, bmX, usY, SX.den, ai, bA, Zp, ZG, hu, hK.u700, U.tIi, U.tBi, ZCF, U.bytes.injEq] at r1 r2
 simp only [Zu, Zdx, Zc7, ZaC, ZN, bmX, usY, hu, hK.u700, Zjb, SX.den, ai, rA, bA, Zp, ZG, Zw, U.tIi, U.tBi, U.tRi, Yj, Yi, Yh, U.tNi, Zgh] at hpre ⊢
 rw [r1, r2] at hpre
 obtain ⟨a, b, d, rfl, ⟨a1, a2, d1, rfl, ⟨p, ⟨h1, h2⟩, ha1⟩, ha2⟩, hb⟩ := hpre
 have hm : ∀ b v n, okC (ρ 1).tI (ρ 3).tI (ρ 2).tI p b v n -> okC (ρ 10).tI (ρ 3).tI (ρ 7).tI (((ρ 1).tI, (ρ 3).tI, (ρ 2).tI, (ρ 11).tI) :: p) b v n := fun b v n h => by
  rcases h with ⟨rfl, rfl, h⟩ | ⟨l, c, h, h'⟩
  ·exact .inr ⟨_, _, ZPZ, h⟩
  ·exact .inr ⟨_, _, ZPX _ h, h'⟩
 refine ⟨_, b, d, rfl, ⟨((ρ 1).tI, (ρ 3).tI, (ρ 2).tI, (ρ 11).tI) :: p, ⟨ZS hm h1, ZS hm h2⟩, ?_⟩, hb⟩
 show Zd (bAD _ _ _) (Zcg p) _
 rw [Zy]
 exact ⟨a1, a2, d1, rfl, ha1, ha2⟩
theorem ZNS (S : Sig GG) (hK : BySig S) : YH S ZEv := by
 refine ZL S fun T w0 ρ h hu hp hd hr hpre => ⟨ρ, Ext.refl _ _, ?_, by intro x hx; exact nomatch hx⟩
 have e1 : hpDen T ρ w0 ZEv.pre = Zd (T.prd 125 w0 ((Zu (Zdx (ai 0) (ai 1) (ai 2) (ai 3) (ai 4)) (rA 5)).den T ρ) ((rA 6).den T ρ)) emp := rfl
 have e2 : hpDen T ρ w0 ZEv.post = Zd (T.prd 125 w0 ((Zu (Zdx (SX.mk2 40 (ai 0) (.int 1)) (ai 1) (ai 2) (ai 3) (ai 4)) (.f2 121 (tk (rA 5) (ai 0)) (.f2 124 (ZGr (ai 1) (ai 2) (ai 7)) Zbn))).den T ρ) ((rA 6).den T ρ)) emp := rfl
 rw [e1, Zc, hp, hK.p125] at hpre
 rw [e2, Zc, hp, hK.p125]
 have r0 := hr (eLe (.int 0) (ai 0)) (by simp [ZEv])
 have r1 := hr (eLe (ai 0) (Zh (rA 5))) (by simp [ZEv])
 have r2 := hr (eLe (.int 0) (ai 2)) (by simp [ZEv])
 have r3 := hr (eLe (ai 2) (.int 4294967400)) (by simp [ZEv])
 have r4 := hr (.f2 45 (ai 3) (.f2 43 (ai 0) (.int 5))) (by simp [ZEv])
 simp only [eLe, SX.mk2, Zh, SX.den, ai, rA, Zp, Zw, U.tIi, U.tRi, p45, p47, Yd, Zqt] at r0 r1 r2 r3 r4
 have e40 : ((SX.mk2 40 (ai 0) (.int 1)).den T ρ).tI = (ρ 0).tI + 1 := by rw [SX.mk2_den]; rfl
 simp only [Zu, Zdx, Zc7, ZaC, ZN, ZGr, tk, Zjb, Zbn, SX.den, ai, rA, Zp, Zw, U.tIi, U.tRi, Zwe, Zur, Yj, Yi, Yh, ZoG, U.tNi, Zgh] at e40 hpre ⊢
 rw [e40]
 obtain ⟨p, ⟨h1, h2⟩, ha⟩ := hpre
 have hl : ((ρ 5).tR.take (ρ 0).tI.toNat).length = (ρ 0).tI.toNat := by rw [ZPT]; omega
 refine ⟨p, ⟨?_, h2⟩, ha⟩
 rw [ZP3 (by rw [ZPW, hl]; show _ + 1 <= _; omega)]
 refine Zf5 h1 r2 r3 ?_
 rw [hl, show (0 : Int) + ((ρ 0).tI.toNat : Nat) = (ρ 0).tI by omega]
 exact .inl ⟨rfl, r4.symm, ZP2 _⟩
theorem ZOi (S : Sig GG) (hK : BySig S) : YH S ZL7 := by
 refine ZL S fun T w0 ρ h hu hp hd hr hpre => ⟨ρ, Ext.refl _ _, ?_, by intro x hx; exact nomatch hx⟩
 have e1 : hpDen T ρ w0 ZL7.pre = Zd (T.prd 125 w0 ((Zu (Zdx (ai 0) (ai 1) (ai 2) (ai 3) (ai 4)) (rA 5)).den T ρ) ((rA 6).den T ρ)) (Zd (ZK T .bytes ((ai 1).den T ρ) ((bA 8).den T ρ) ((ai 7).den T ρ)) emp) := rfl
 have e2 : hpDen T ρ w0 ZL7.post = Zd (T.prd 124 w0 ((Zu (ZN (ai 0) (ai 4)) (rA 5)).den T ρ) ((rA 6).den T ρ)) emp := rfl
 rw [e1, Zc, hp, hK.p125] at hpre
 rw [e2, Zc, hp, hK.p124]
 have r1 := hr (eqS (bA 8) (bmX (ai 3) (ai 2))) (by simp [ZL7])
 simp only [eqS, bmX, usY, SX.den, ai, bA, Zp, ZG, hu, hK.u700, U.tIi, U.tBi, ZCF, U.bytes.injEq] at r1
 simp only [Zu, Zdx, Zc7, ZaC, ZN, Zjb, SX.den, ai, rA, bA, Zp, ZG, Zw, U.tIi, U.tBi, U.tRi, Yj, Yi, Yh, U.tNi, Zgh, Zew] at hpre ⊢
 rw [r1] at hpre
 obtain ⟨a, b, d, rfl, ⟨p, ⟨h1, h2⟩, ha⟩, hb⟩ := hpre
 have hm : ∀ b v n, okC (ρ 1).tI (ρ 3).tI (ρ 2).tI p b v n -> InG (((ρ 1).tI, (ρ 3).tI, (ρ 2).tI, (ρ 7).tI) :: p) b v n := fun b v n h => by
  rcases h with ⟨rfl, rfl, h⟩ | ⟨l, c, h, h'⟩
  ·exact ⟨_, _, ZPZ, h⟩
  ·exact ⟨_, _, ZPX _ h, h'⟩
 refine ⟨((ρ 1).tI, (ρ 3).tI, (ρ 2).tI, (ρ 7).tI) :: p, ⟨ZS hm h1, ZS hm h2⟩, ?_⟩
 show Zd (bAD _ _ _) (Zcg p) _
 rw [Zy]
 exact ⟨a, b, d, rfl, ha, hb⟩
theorem ZGd (S : Sig GG) (hK : BySig S) : YH S ZFR := by
 refine ZL S fun T w0 ρ h hu hp hd hr hpre => ?_
 have e1 : hpDen T ρ w0 ZFR.pre = Zd (T.prd 124 w0 ((Zu (ZN (ai 0) (ai 1)) (rA 2)).den T ρ) ((rA 3).den T ρ)) emp := rfl
 have e2 : ∀ ρ', hpDen T ρ' w0 ZFR.post = Zd (T.prd 126 w0 ((Zu (Zbm (ai 0) (ai 1) (nt (rA 2) (ai 4) 0) (.f2 43 (ai 4) (.int 5)) (ai 5) (ai 6)) (rA 2)).den T ρ') ((rA 3).den T ρ')) (Zd (ZK T .bytes ((nt (rA 2) (ai 4) 0).den T ρ') ((bmX (.f2 43 (ai 4) (.int 5)) (ai 5)).den T ρ') ((ai 6).den T ρ')) emp) := fun _ => rfl
 rw [e1, Zc, hp, hK.p124] at hpre
 have r0 := hr (eLe (.int 0) (ai 4)) (by simp [ZFR])
 have r1 := hr (eLt (ai 4) (ai 0)) (by simp [ZFR])
 have r2 := hr (eLe (ai 0) (Zh (rA 2))) (by simp [ZFR])
 simp only [eLe, eLt, SX.mk2, Zh, SX.den, ai, rA, Zp, Zw, U.tIi, U.tRi, p46, p47, Yd] at r0 r1 r2
 simp only [Zu, ZN, Zjb, SX.den, ai, rA, Zp, Zw, U.tIi, U.tRi, Yj, Yi, Yh, U.tNi, Zew] at hpre
 obtain ⟨p, ⟨hg, hl⟩, hpool⟩ := hpre
 have hat := Zjo (i := (ρ 4).tI.toNat) hg (by rw [ZPT]; omega)
 rw [Z5 (by omega), show (0 : Int) + ((ρ 4).tI.toNat : Nat) = (ρ 4).tI by omega] at hat
 obtain ⟨q1, q2, l, c, hmem, hnl⟩ := hat
 obtain ⟨q, hiff, hpf⟩ := ZhG hmem
 obtain ⟨a, b, d, rfl, ha, hb⟩ := hpf _ hpool
 refine ⟨(ρ.upd 5 (.int l)).upd 6 (.int c), ?_, ?_, ?_⟩
 ·intro i hi
  have : i < 5 := hi
  simp only [Env.upd]
  repeat rw [if_neg (by omega)]
 ·rw [e2, Zc, hp, hK.p126]
  simp only [Zu, Zbm, Zc7, ZaC, ZN, Zjb, nt, bmX, usY, hu, hK.u700, SX.den, ai, rA, Zp, ZG, Zw, Env.upd, Nat.reduceEqDiff, reduceIte, U.tIi, U.tBi, U.tRi, Zqt, Yj, Yi, Yh, U.tNi, ZaO, ZnC]
  rw [Zy]
  exact ⟨a, b, d, rfl, ha, q, ⟨ZS (ZfC fun y => (hiff y).1) hg, ZS (ZfC fun y => (hiff y).1) hl⟩, hb⟩
 ·intro e he
  simp only [ZFR, List.mem_cons, List.not_mem_nil, or_false] at he
  rcases he with rfl | rfl | rfl
  all_goals simp only [eLe, SX.mk2, nt, SX.den, ai, rA, Zp, Zw, Env.upd, Nat.reduceEqDiff, reduceIte, U.tIi, U.tRi, p47, ZaO]
  ·exact q1
  ·exact hnl
  ·exact q2
theorem ZHM (S : Sig GG) (hK : BySig S) : YH S ZFi := by
 refine ZL S fun T w0 ρ h hu hp hd hr hpre => ?_
 have e1 : hpDen T ρ w0 ZFi.pre = Zd (T.prd 124 w0 ((Zu (ZN (ai 0) (ai 1)) (rA 2)).den T ρ) ((rA 3).den T ρ)) emp := rfl
 have e2 : ∀ ρ', hpDen T ρ' w0 ZFi.post = Zd (T.prd 126 w0 ((Zu (Zbm (ai 0) (ai 1) (nt (rA 3) (ai 4) 0) (ai 4) (ai 5) (ai 6)) (rA 2)).den T ρ') ((rA 3).den T ρ')) (Zd (ZK T .bytes ((nt (rA 3) (ai 4) 0).den T ρ') ((bmX (ai 4) (ai 5)).den T ρ') ((ai 6).den T ρ')) emp) := fun _ => rfl
 rw [e1, Zc, hp, hK.p124] at hpre
 have r0 := hr (eLe (.int 0) (ai 4)) (by simp [ZFi])
 have r1 := hr (eLt (ai 4) (ai 1)) (by simp [ZFi])
 have r2 := hr (eLe (ai 1) (Zh (rA 3))) (by simp [ZFi])
 simp only [eLe, eLt, SX.mk2, Zh, SX.den, ai, rA, Zp, Zw, U.tIi, U.tRi, p46, p47, Yd] at r0 r1 r2
 simp only [Zu, ZN, Zjb, SX.den, ai, rA, Zp, Zw, U.tIi, U.tRi, Yj, Yi, Yh, U.tNi, Zew] at hpre
 obtain ⟨p, ⟨hg, hl⟩, hpool⟩ := hpre
 have hat := Zjo (i := (ρ 4).tI.toNat) hl (by rw [ZPT]; omega)
 rw [Z5 (by omega), show (0 : Int) + ((ρ 4).tI.toNat : Nat) = (ρ 4).tI by omega] at hat
 obtain ⟨q1, q2, l, c, hmem, hnl⟩ := hat
 obtain ⟨q, hiff, hpf⟩ := ZhG hmem
 obtain ⟨a, b, d, rfl, ha, hb⟩ := hpf _ hpool
 refine ⟨(ρ.upd 5 (.int l)).upd 6 (.int c), ?_, ?_, ?_⟩
 ·intro i hi
  have : i < 5 := hi
  simp only [Env.upd]
  repeat rw [if_neg (by omega)]
 ·rw [e2, Zc, hp, hK.p126]
  simp only [Zu, Zbm, Zc7, ZaC, ZN, Zjb, nt, bmX, usY, hu, hK.u700, SX.den, ai, rA, Zp, ZG, Zw, Env.upd, Nat.reduceEqDiff, reduceIte, U.tIi, U.tBi, U.tRi, Zqt, Yj, Yi, Yh, U.tNi, ZaO, ZnC]
  rw [Zy]
  exact ⟨a, b, d, rfl, ha, q, ⟨ZS (ZfC fun y => (hiff y).1) hg, ZS (ZfC fun y => (hiff y).1) hl⟩, hb⟩
 ·intro e he
  simp only [ZFi, List.mem_cons, List.not_mem_nil, or_false] at he
  rcases he with rfl | rfl | rfl
  all_goals simp only [eLe, SX.mk2, nt, SX.den, ai, rA, Zp, Zw, Env.upd, Nat.reduceEqDiff, reduceIte, U.tIi, U.tRi, p47, ZaO]
  ·exact q1
  ·exact hnl
  ·exact q2
theorem Zzf (S : Sig GG) (hK : BySig S) : YH S ZKR := by
 refine ZL S fun T w0 ρ h hu hp hd hr hpre => ⟨ρ, Ext.refl _ _, ?_, by intro x hx; exact nomatch hx⟩
 have e1 : hpDen T ρ w0 ZKR.pre = Zd (T.prd 126 w0 ((Zu (Zbm (ai 0) (ai 1) (ai 2) (ai 3) (ai 4) (ai 5)) (rA 6)).den T ρ) ((rA 7).den T ρ)) (Zd (ZK T .bytes ((ai 2).den T ρ) ((bA 8).den T ρ) ((ai 5).den T ρ)) emp) := rfl
 have e2 : hpDen T ρ w0 ZKR.post = Zd (T.prd 124 w0 ((Zu (ZN (ai 0) (ai 1)) (rA 6)).den T ρ) ((rA 7).den T ρ)) emp := rfl
 rw [e1, Zc, hp, hK.p126] at hpre
 rw [e2, Zc, hp, hK.p124]
 have r1 := hr (eqS (bA 8) (bmX (ai 3) (ai 4))) (by simp [ZKR])
 simp only [eqS, bmX, usY, SX.den, ai, bA, Zp, ZG, hu, hK.u700, U.tIi, U.tBi, ZCF, U.bytes.injEq] at r1
 simp only [Zu, Zbm, Zc7, ZaC, ZN, Zjb, SX.den, ai, rA, bA, Zp, ZG, Zw, U.tIi, U.tBi, U.tRi, Yj, Yi, Yh, U.tNi, ZnC, Zew] at hpre ⊢
 rw [r1] at hpre
 obtain ⟨a, b, d, rfl, ⟨p, hrows, ha⟩, hb⟩ := hpre
 refine ⟨_, hrows, ?_⟩
 show Zd (bAD _ _ _) (Zcg p) _
 rw [Zy]
 exact ⟨a, b, d, rfl, ha, hb⟩
theorem Zzt (n : Int) (k : Nat) : (mkL n k).length = k := by simp [mkL]
theorem ZCQ (n : Int) (k : Nat) : mkL n (k + 1) = mkL n k ++ [mkB n k] := by
 unfold mkL; rw [List.range_succ, ZP7]; rfl
theorem Zjj (n : Int) {m k : Nat} (h : m <= k) : (mkL n k).take m = mkL n m := by
 unfold mkL
 rw [<- List.map_take, List.take_range, Nat.min_eq_left h]
theorem Zjx {n k : Int} (h : 0 <= k) : mkL n (k + 1).toNat = mkL n k.toNat ++ [mkB n k] := by
 rw [show (k + 1).toNat = k.toNat + 1 by omega, ZCQ, show ((k.toNat : Nat) : Int) = k by omega]
theorem Zv5 (v k : Int) : UInt8.ofNat (IntKind.u8.wrap (v + k.tdiv 251)).toNat = mkB v k := by rw [w_u8]; rfl
theorem ZLz {x : List UInt8} {v k : Int} (h : x.take k.toNat = mkL v k.toNat) (h0 : 0 <= k) (h1 : k < x.length) : (x.set k.toNat (UInt8.ofNat (IntKind.u8.wrap (v + k.tdiv 251)).toNat)).take (k + 1).toNat = mkL v (k + 1).toNat := by
 rw [Zv5, Zjx h0, <- h, show (k + 1).toNat = k.toNat + 1 by omega, List.take_add_one, List.take_set_of_le (ZPH _), List.getElem?_set_self (by omega)]; rfl
theorem mk_in {v l : Int} (h0 : 0 <= l) : (mkL v l.toNat).take l.toNat ++ UInt8.ofNat (IntKind.u8.wrap (v + l.tdiv 251)).toNat :: (mkL v l.toNat).drop (l + 1).toNat = mkL v (l + 1).toNat := by
 rw [Zv5, Zjx h0, List.drop_of_length_le (by rw [Zzt]; omega), Zjj v (ZPH _)]
theorem ZL2 {v l : Int} (h0 : 0 <= l) : (mkL v l.toNat).take l.toNat ++ [UInt8.ofNat (IntKind.u8.wrap (v + l.tdiv 251)).toNat] = mkL v (l + 1).toNat := by
 rw [Zv5, Zjx h0, Zjj v (ZPH _)]
theorem ZNB {v l n : Int} (h : n <= l) : (mkL v l.toNat).take n.toNat = mkL v n.toNat := Zjj v (by omega)
theorem mk_to {x : List UInt8} {v n m : Int} (h : x.take n.toNat = mkL v n.toNat) (h1 : m <= n) (h2 : n <= m) : x.take m.toNat = mkL v m.toNat := by
 rw [show m = n by omega]; exact h
theorem tdiv5 {i m : Int} (h0 : 0 <= m) (h : 5 * i <= m) (h1 : m <= 5 * i + 4) : i = m.tdiv 5 := by
 rw [Int.tdiv_eq_ediv_of_nonneg h0]; omega
def Zv4 : Ctr := ⟨[.int, .bytes, .int, .int, .int, .int], [.one (slC (ai 0) (ai 2) (ai 3) 1), .one (.int .i64 (ai 5))], [bAr (ai 0) (bA 1) (ai 4)],
 [eLe (.int 0) (ai 2), eLe (ai 2) (.f1 31 (bA 1)), eLe (ai 2) (.int 1099511627776), eLe (.int 0) (ai 5), eLe (ai 5) (.int 1099511627776), eqS (.f2 114 (bA 1) (ai 2)) (usY 700 (ai 5) (ai 2) z0)], [], .one (.bool (.bool true)), [bAr (ai 0) (bA 1) (ai 4)], []⟩
def ZNO : Inv := ⟨[.int], [(5, .one (.int .i64 (di 0)))], [], [eLe (.int 0) (di 0), eLe (di 0) (ai 2)], .f2 41 (ai 2) (di 0)⟩
def ZNr : Cx := { specs := [], anns := [(63, [(2, .inv ZNO)])] }
def ZGe : SX := .f2 43 (a 6) (k 251)
def ZJR : SX := .f2 40 (a 5) ZGe
def ZGm : SX := e (.f2 111 (b 1) (a 6)) (.f1 14 ZJR)
def ZCi : SX := .f2 40 (a 6) (k 1)
def ZJS : SX := .f2 41 (a 2) ZCi
def ZMF : VC := i (l z (a 2)) (i (l (a 2) (.f1 31 (b 1))) (i (l (a 2) k0) (i (l z (a 5)) (i (l (a 5) k0) (i (.f2 155 (.f2 114 (b 1) (a 2)) (wB 700 (a 5) (a 2))) (u 6 .int (i (l z (a 6)) (i (l (a 6) (a 2)) (.and (i (t (a 6) (a 2)) (n (t (a 6) (.f1 31 (b 1))) (n (.f1 23 ZGe) (n (.f1 23 ZJR) (.and (i (.f1 2 ZGm) (n (.f2 155 (.bool true) (.bool false)) .tt)) (i ZGm (n (.f1 23 ZCi) (n (l z ZJS) (n (t ZJS (.f2 41 (a 2) (a 6))) (n (l z ZCi) (n (l ZCi (a 2)) .tt))))))))))) (i (l (a 2) (a 6)) .tt))))))))))
theorem ZME : YV Tryz.prog ZNr 10 63 Zv4 = ZMF := by kernel_rfl
theorem ZOb (S : Sig GG) (hK : BySig S) : ZA S Tryz.prog 63 Zv4 := by
 refine Zg S (C := ZNr) (fuel := 10) (ZU trivial ⟨⟨trivial, trivial⟩, trivial⟩ trivial) fun ρ => ?_
 rw [ZME]
 simp only [ZMF, ZGe, ZJR, ZGm, ZCi, ZJS, hK.u700, VC.den, SX.den, Env.upd, ZBR, ZFF, beq_iff_eq, ZPQ, beq_eq_false_iff_ne, ne_eq, ZPP, ZFN, ZPO, Nat.reduceEqDiff, reduceIte, sB]
 intro a1 a2 a3 a4 a5 a6 i i0 i1
 have ht : 0 <= i.tdiv 251 /\ i.tdiv 251 <= i := by rw [Int.tdiv_eq_ediv_of_nonneg i0]; omega
 refine ⟨fun h => ?_, fun h => trivial⟩
 have hx := mk_at a6 i0 h a2
 repeat' (first | exact trivial | apply And.intro | intro _)
 all_goals first | omega | contradiction
def pbS : List SC := [sl1 (ai 2) (ai 1) (ai 3), sl1 (ai 5) (ai 6) (ai 7), sl1 (.int (-1)) z0 z0]
def Zwd : Ctr := ⟨[.int, .int, .int, .int, .rows, .int, .int, .int], [.one (.ptr (ai 0) 0)], [.cel (ai 0) 0 pbS, slA (ai 2) (rA 4) (ai 3), c42 z0 z0 (ai 1) (rA 4)], [eLe z0 (ai 1), eLe (ai 1) (Zh (rA 4)), eLe (ai 1) (ai 3), eLe (ai 1) (.int 1073741824)], [], .one (.bool (.bool true)), [.cel (ai 0) 0 pbS], []⟩
def bowI1 : Inv := ⟨[.int], [(3, .one (.int .i64 (di 0)))], [c42 (di 0) z0 (ai 1) (rA 4)], [eLe (.int 0) (di 0), eLe (di 0) (ai 1)], .f2 41 (ai 1) (di 0)⟩
def bowI2 : Inv := ⟨[.int, .bytes], [(5, .one (.int .i64 (di 0)))], [bAr (nt (rA 4) (ai 8) 0) (bA 1000001) (nt (rA 4) (ai 8) 2)],
 [eLe (.int 0) (di 0), eLe (di 0) (nt (rA 4) (ai 8) 1), .f2 45 (Zm9 (bA 1000001)) (Zm9 (bA 9)), eqS (tkB (bA 1000001) (di 0)) (bmX (ai 8) (di 0))], .f2 41 (nt (rA 4) (ai 8) 1) (di 0)⟩
def bowI3 : Inv := ⟨[.int, .int, .int, .int, .rows], [(7, .one (.int .i64 (di 0))), (6, .one (sl1 (di 1) (di 2) (di 3)))], [slA (di 1) (rA 1000004) (di 3), c46 (di 2) (di 0) (rA 1000004) (rA 4), c42 (ai 1) (di 0) (ai 1) (rA 4)],
 [eLe (.int 0) (di 0), eLe (di 0) (ai 1), .f2 45 (di 2) (.f2 42 (.int 5) (di 0)), eLe (di 2) (Zh (rA 1000004))], .f2 41 (ai 1) (di 0)⟩
def cntX (k : SX) : SX := .f2 40 (.f2 40 (.f2 51 k (.int 3)) (.f1 3 (.f2 46 (.int 8) k))) (.f1 3 (.f2 46 (.int 19) k))
def bowI4 (j m0 : Nat) : Inv := ⟨[.int, .int, .int, .int, .int, .int, .int, .rows], [(9, .one (.int .i64 (di 0))), (8, .one (sl1 (di 1) (di 2) (di 3))), (6, .one (sl1 (di 4) (di 5) (di 6)))],
 [slA (di 4) (rA 1000007) (di 6), c47 (di 5) (di 1) (di 2) (ai j) (SX.mk2 40 (ai j) (.int 1)) (rA 1000007) (rA 4), bAr (di 1) (bmX (ai j) (di 2)) (di 3)],
 [eLe (.int 0) (di 0), eLe (di 0) (.int 20), .f2 45 (di 2) (.f2 40 (nt (rA 4) (ai j) 1) (di 0)), .f2 45 (di 5) (.f2 40 (ai m0) (cntX (di 0))), eLe (di 5) (Zh (rA 1000007)), eLe (di 2) (di 3)], .f2 41 (.int 20) (di 0)⟩
def bowI5 (n : Nat) : Inv := ⟨[.int], [(10, .one (.int .i64 (di 0)))], [], [eLe (.int 0) (di 0), eLe (di 0) (ai n)], .f2 41 (ai n) (di 0)⟩
def bowI6 (m : Nat) : Inv := ⟨[.int], [(12, .one (.int .i64 (di 0)))], [], [eLe (.int 0) (di 0), eLe (di 0) (ai m)], .f2 41 (ai m) (di 0)⟩
def ZvP : SX := eLe (SX.mk2 40 (ai 16) (.int 1)) (ai 17)
def ZOH : Cx := { specs := [(63, [Zv4])], anns := [(34, [(2, .inv bowI1), (4, .ghost ZFX [.tmp 3]), (6, .inv bowI2), (3, .ghost Zxp []),
 (10, .ghost ZNq []), (11, .inv bowI3), (14, .ghost ZxE [.tmp 7, .tmp 8]), (15, .inv (bowI4 9 11)), (17, .split ZvP), (18, .iff ZvP), (18, .ghost ZKV [.tmp 8]), (18, .iff (ZcP ZvP)), (18, .ghost ZKZ [.tmp 8]),
 (19, .ghost ZEv [.tmp 8]), (12, .ghost ZL7 []), (21, .inv (bowI5 1)), (23, .ghost ZFi [.tmp 10]), (24, .ghost ZKR []), (27, .inv (bowI6 11)), (29, .ghost ZFR [.tmp 12]), (30, .ghost ZKR [])])] }
def ZeM : SX := .f3 112 (r 4) (a 8) (k 1)
def ZGV : SX := .f2 43 (a 10) (k 251)
def ZIW : SX := .f2 40 (a 8) ZGV
def ZnI : SX := .f2 40 (a 10) (k 1)
def ZIZ : SX := .f2 41 ZeM ZnI
def ZyK : SX := .f2 40 (a 8) (k 1)
def ZIL : SX := .f2 41 (a 1) ZyK
def ZI2 : SX := .f3 112 (r 4) (a 9) z
def Zl0 : SX := .f3 112 (r 4) (a 9) (k 1)
def ZEy : SX := .f3 112 (r 4) (a 9) (k 2)
def Zyd : SX := l z (a 14)
def Zb6 : SX := .f2 40 (a 16) (k 1)
def ZBX : SX := l z (a 16)
def Zvl : SX := .f2 43 (a 16) (k 251)
def ZBh : SX := .f1 23 Zvl
def ZB7 : SX := .f2 40 (a 9) Zvl
def Zwr : SX := .f1 23 ZB7
def ZzJ : SX := l z (a 22)
def ZiP : SX := wB 700 (a 9) (a 16)
def ZzS : SX := l (a 16) (.f1 31 ZiP)
def Zuv : SX := e Zb6 Zb6
def Zxy : SX := .f2 114 ZiP (a 16)
def ZBN : SX := .f1 14 ZB7
def Zwi : SX := wB 700 (a 9) Zb6
def ZBi : SX := l (k 3) (a 14)
def Zrw : SX := e (a 14) (k 8)
def ZBs : SX := .f1 2 Zrw
def ZqU : SX := e (a 14) (k 19)
def ZgO : SX := l z (a 19)
def Zhn : SX := l z Zb6
def ZgY : SX := l Zb6 k2
def Zgw : SX := e (a 9) (.f2 43 (a 19) (k 5))
def ZlT : SX := l z (a 23)
def Zgb : SX := .f2 40 (a 19) (k 1)
def Zhh : SX := l (.f2 42 Zgb (k 24)) k1
def Zrz : SX := l Zgb (a 25)
def Zwg : SX := e Zgb z
def ZqG : SX := .f2 50 (l z (a 24)) Zwg
def ZcL : SX := .f2 40 (a 14) (k 1)
def Zdc : SX := .f1 23 ZcL
def Zy6 : SX := .f2 41 (k 20) ZcL
def Zd3 : SX := l z Zy6
def Zea : SX := t Zy6 (.f2 41 (k 20) (a 14))
def Zdf : SX := l z ZcL
def ZdH : SX := l ZcL (k 20)
def Zee : SX := e Zb6 (.f2 40 Zl0 ZcL)
def Zvh : SX := .f2 40 (a 11) (.f2 40 (.f2 40 (.f2 51 ZcL (k 3)) (.f1 3 (t (k 8) ZcL))) (.f1 3 (t (k 19) ZcL)))
def ZhE : SX := e Zgb Zvh
def Zf7 : SX := l Zgb (.f2 40 (.f1 32 (.f2 115 (r 21) (a 19))) (k 1))
def ZAj : SX := .f1 2 ZqU
def Zuz : SX := e (a 19) Zvh
def Zux : SX := t (a 14) (k 3)
def ZyZ : SX := .f2 155 ZiP ZiP
def Zqz : SX := l z (a 25)
def Zqu : SX := l Zgb (a 27)
def ZpN : SX := .f2 50 (l z (a 26)) Zwg
def Zi9 : SX := .f2 40 (a 9) (k 1)
def Zye : SX := .f2 41 (a 1) Zi9
def ZeX : SX := .f3 112 (r 4) (a 14) (k 1)
def Zme : SX := wB 700 (a 14) (a 15)
def Zzv : SX := .f2 41 (a 1) ZcL
def Ze7 : SX := .f3 112 (r 13) (a 15) (k 1)
def ZiK : SX := .f2 43 (a 15) (k 5)
def ZlQ : SX := wB 700 ZiK (a 16)
def Zle : SX := .f2 40 (a 15) (k 1)
def ZB5 : SX := .f2 41 (a 11) Zle
def ZMv : VC := i (l z (a 1)) (i (l (a 1) (.f1 32 (r 4))) (i (l (a 1) (a 3)) (i (l (a 1) k3) (u 8 .int (i (l z (a 8)) (i (l (a 8) (a 1)) (.and (i (t (a 8) (a 1)) (u 9 .bytes (i (l z ZeM) (i (l ZeM (.f1 31 (b 9))) (i (l ZeM k4) (n (t (a 8) (.f1 32 (r 4))) (n (e (.f1 31 (b 9)) (.f1 31 (b 9))) (n (.f2 155 (.f2 114 (b 9) z) (j 700 (a 8))) (u 10 .int (u 11 .bytes (i (l z (a 10)) (i (l (a 10) ZeM) (i (e (.f1 31 (b 11)) (.f1 31 (b 9))) (i (.f2 155 (.f2 114 (b 11) (a 10)) (wB 700 (a 8) (a 10))) (.and (i (t (a 10) ZeM) (n (.f1 23 ZGV) (n (.f1 23 ZIW) (n (t (a 10) (.f1 31 (b 11))) (n (.f1 23 ZnI) (n (l z ZIZ) (n (t ZIZ (.f2 41 ZeM (a 10))) (n (l z ZnI) (n (l ZnI ZeM) (n (.f2 155 (.f2 114 (.f3 131 (b 11) (a 10) (.f1 14 ZIW)) ZnI) (wB 700 (a 8) ZnI)) .tt)))))))))) (i (l ZeM (a 10)) (n (l ZeM (.f1 31 (b 11))) (n (.f2 155 (.f2 114 (b 11) ZeM) (wB 700 (a 8) ZeM)) (n (.f1 23 ZyK) (n (l z ZIL) (n (t ZIL (.f2 41 (a 1) (a 8))) (n (l z ZyK) (n (l ZyK (a 1)) .tt))))))))))))))))))))))) (i (l (a 1) (a 8)) (u 9 .int (u 10 .int (u 11 .int (u 12 .int (u 13 .rows (i (l z (a 9)) (i (l (a 9) (a 1)) (i (e (a 11) (.f2 42 (k 5) (a 9))) (i (l (a 11) (.f1 32 (r 13))) (.and (i (t (a 9) (a 1)) (n (t (a 9) (.f1 32 (r 4))) (n (e ZI2 ZI2) (n (e Zl0 Zl0) (n (e ZEy ZEy) (i (l z Zl0) (i (l Zl0 k4) (i (l Zl0 ZEy) (n (e (a 11) (a 11)) (u 14 .int (u 15 .int (u 16 .int (u 17 .int (u 18 .int (u 19 .int (u 20 .int (u 21 .rows (i Zyd (i (l (a 14) (k 20)) (i (e (a 16) (.f2 40 Zl0 (a 14))) (i (e (a 19) (.f2 40 (a 11) (.f2 40 (.f2 40 (.f2 51 (a 14) (k 3)) (.f1 3 (t (k 8) (a 14)))) (.f1 3 (t (k 19) (a 14)))))) (i (l (a 19) (.f1 32 (r 21))) (i (l (a 16) (a 17)) (.and (i (t (a 14) (k 20)) (.and (i (l Zb6 (a 17)) (n ZBX (n ZBh (n Zwr (u 22 .int (i ZzJ (n ZzS (n Zuv (n (.f2 155 (.f2 120 Zxy (.f2 123 ZBN (.f2 117 ZiP Zb6))) Zwi) (.and (i ZBi (.and (i ZBs (.and (i ZqU (n ZgO (n Zhn (n ZgY (n Zgw (u 23 .int (i ZlT (n Zhh (u 24 .int (u 25 .int (i Zrz (i ZqG (n Zdc (n Zd3 (n Zea (n Zdf (n ZdH (n Zee (n ZhE (n Zf7 .tt)))))))))))))))))))) (i ZAj (n Zdc (n Zd3 (n Zea (n Zdf (n ZdH (n Zee (n Zuz .tt)))))))))) (i Zrw (n ZgO (n Zhn (n ZgY (n Zgw (u 23 .int (i ZlT (n Zhh (u 24 .int (u 25 .int (i Zrz (i ZqG (n Zdc (n Zd3 (n Zea (n Zdf (n ZdH (n Zee (n ZhE (n Zf7 .tt)))))))))))))))))))))) (i Zux (n ZgO (n Zhn (n ZgY (n Zgw (u 23 .int (i ZlT (n Zhh (u 24 .int (u 25 .int (i Zrz (i ZqG (n Zdc (n Zd3 (n Zea (n Zdf (n ZdH (n Zee (n ZhE (n Zf7 .tt)))))))))))))))))))))))))))))) (i (t (a 17) Zb6) (n ZBX (n ZBh (n Zwr (u 22 .int (i ZzJ (n (l (.f2 42 Zb6 (k 1)) k1) (n ZzS (u 23 .int (u 24 .int (i (l Zb6 (a 24)) (i ZlT (n Zuv (n ZyZ (n (.f2 155 (.f2 120 Zxy (.f2 123 ZBN (.f1 153 z))) Zwi) (.and (i ZBi (.and (i ZBs (.and (i ZqU (n ZgO (n Zhn (n ZgY (n Zgw (u 25 .int (i Zqz (n Zhh (u 26 .int (u 27 .int (i Zqu (i ZpN (n Zdc (n Zd3 (n Zea (n Zdf (n ZdH (n Zee (n ZhE (n Zf7 .tt)))))))))))))))))))) (i ZAj (n Zdc (n Zd3 (n Zea (n Zdf (n ZdH (n Zee (n Zuz .tt)))))))))) (i Zrw (n ZgO (n Zhn (n ZgY (n Zgw (u 25 .int (i Zqz (n Zhh (u 26 .int (u 27 .int (i Zqu (i ZpN (n Zdc (n Zd3 (n Zea (n Zdf (n ZdH (n Zee (n ZhE (n Zf7 .tt)))))))))))))))))))))) (i Zux (n ZgO (n Zhn (n ZgY (n Zgw (u 25 .int (i Zqz (n Zhh (u 26 .int (u 27 .int (i Zqu (i ZpN (n Zdc (n Zd3 (n Zea (n Zdf (n ZdH (n Zee (n ZhE (n Zf7 .tt)))))))))))))))))))))))))))))))))))))) (i (l (k 20) (a 14)) (n ZyZ (n (.f1 23 Zi9) (n (l z Zye) (n (t Zye (.f2 41 (a 1) (a 9))) (n (l z Zi9) (n (l Zi9 (a 1)) (n (e (a 19) (.f2 42 (k 5) Zi9)) .tt)))))))))))))))))))))))))))))))) (i (l (a 1) (a 9)) (u 14 .int (i Zyd (i (l (a 14) (a 1)) (.and (i (t (a 14) (a 1)) (n (t (a 14) (a 9)) (n (l (a 9) (.f1 32 (r 4))) (u 15 .int (u 16 .int (i (l z ZeX) (i (l ZeX (a 15)) (i (l ZeX k2) (n (t (a 14) (.f1 32 (r 4))) (n (l ZeX (.f1 31 Zme)) (n (l ZeX k0) (n (l (a 14) k0) (n (.f2 155 (.f2 114 Zme ZeX) (wB 700 (a 14) ZeX)) (n (.f2 155 Zme Zme) (n Zdc (n (l z Zzv) (n (t Zzv (.f2 41 (a 1) (a 14))) (n Zdf (n (l ZcL (a 1)) .tt))))))))))))))))))) (i (l (a 1) (a 14)) (n (l z (a 11)) (u 15 .int (i (l z (a 15)) (i (l (a 15) (a 11)) (.and (i (t (a 15) (a 11)) (u 16 .int (u 17 .int (i (l z Ze7) (i (l Ze7 (a 16)) (i (l Ze7 k2) (n (t (a 15) (.f1 32 (r 13))) (n (.f1 23 ZiK) (n (l Ze7 (.f1 31 ZlQ)) (n (l Ze7 k0) (n (l z ZiK) (n (l ZiK k0) (n (.f2 155 (.f2 114 ZlQ Ze7) (wB 700 ZiK Ze7)) (n (.f2 155 ZlQ ZlQ) (n (.f1 23 Zle) (n (l z ZB5) (n (t ZB5 (.f2 41 (a 11) (a 15))) (n (l z Zle) (n (l Zle (a 11)) .tt))))))))))))))))))) (i (l (a 11) (a 15)) .tt))))))))))))))))))))))))))))))
theorem ZK5 : YV Tryz.prog ZOH 12 34 Zwd = ZMv := by kernel_rfl
theorem ZOV (S : Sig GG) (hK : BySig S) : ZA S Tryz.prog 34 Zwd := by
 refine Zg S (C := ZOH) (fuel := 12) (ZU ⟨Zi (by decide) (ZOb S hK), trivial⟩ ⟨⟨trivial, ⟨by decide, ZLl S hK⟩, trivial, ⟨by decide, ZOW S hK⟩, ⟨by decide, ZN8 S hK⟩, trivial, ⟨by decide, ZPc S hK⟩, trivial, trivial, trivial, ⟨by decide, ZK3 S hK⟩, trivial, ⟨by decide, ZMa S hK⟩, ⟨by decide, ZNS S hK⟩, ⟨by decide, ZOi S hK⟩, trivial, ⟨by decide, ZHM S hK⟩, ⟨by decide, Zzf S hK⟩, trivial, ⟨by decide, ZGd S hK⟩, ⟨by decide, Zzf S hK⟩, trivial⟩, trivial⟩ trivial) fun ρ => ?_
 rw [ZK5]
 simp only [ZMv, ZeM, ZGV, ZIW, ZnI, ZIZ, ZyK, ZIL, ZI2, Zl0, ZEy, Zyd, Zb6, ZBX, Zvl, ZBh, ZB7, Zwr, ZzJ, ZiP, ZzS, Zuv, Zxy, ZBN, Zwi, ZBi, Zrw, ZBs, ZqU, ZgO, Zhn, ZgY, Zgw, ZlT, Zgb, Zhh, Zrz, Zwg, ZqG, ZcL, Zdc, Zy6, Zd3, Zea, Zdf, ZdH, Zee, Zvh, ZhE, Zf7, ZAj, Zuz, Zux, ZyZ, Zqz, Zqu, ZpN, Zi9, Zye, ZeX, Zme, Zzv, Ze7, ZiK, ZlQ, Zle, ZB5, hK.u700, VC.den, SX.den, Env.upd, ZBR, ZFF, beq_iff_eq, ZPQ, beq_eq_false_iff_ne, ne_eq, ZPP, ZFN, ZPO, Nat.reduceEqDiff, reduceIte, sB]
 repeat' (first | exact trivial | apply And.intro | intro _)
 all_goals try omega
 all_goals first
  | rfl
  | exact mk_in (by omega)
  | exact ZL2 (by omega)
  | exact ZNB (by omega)
  | exact ZLz (by assumption) (by omega) (by omega)
  | exact mk_to (by assumption) (by omega) (by omega)
  | (simp only [Zzt]; omega)
  | (simp only [ZPW, ZPT, ZQb, List.length_nil]; omega)
  | (simp only [ZMk, ZKL] at *; omega)
  | exact tdiv5 (by simp only [ZMk, ZKL] at *; omega) (by simp only [ZMk, ZKL] at *; omega) (by simp only [ZMk, ZKL] at *; omega)
  | (rw [Int.tdiv_eq_ediv_of_nonneg (by omega)]; omega)
end
end Go.Proofs.YtidlngnhjffepaaGreat
