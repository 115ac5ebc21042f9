/- Part of a proof. -/
import Derived.Test.YtidlngnhjffepaaGreatPo5
import Derived.Sort.Walk0
import Derived.Shelf.Sort.Plain
import Derived.Shelf.Slices.In.SortNone
import Derived.Test.YtidlngnhjffepaaGreatProg
import Derived.Shelf.GgSortFunc.RowK
import Derived.Shelf.SlSortCmp.Insertion
import Derived.Shelf.GgSortFunc.InsertionK
import Derived.Test.YtidlngnhjffepaaGreatPo4
import Derived.RangeFuncBox
import Derived.RangeFuncLeaves
import Derived.RangeFuncGives
import Derived.Maps.AppendAt
import Derived.Shelf.Abstract
import Derived.Shelf.SlIter.Collect
import Derived.WalkKit
import Derived.OwnWalkIn
import Derived.TacticsInMore
import Derived.LoopNIn
import Derived.LoopIn
import Derived.Shelf.SlMaps.Clone
set_option linter.unusedSimpArgs false
set_option linter.unusedVariables false
set_option maxRecDepth 20000
namespace Go.Proofs.YtidlngnhjffepaaGreat
noncomputable section
open Go.Eng
structure RI (x : List Ent) (n : Nat) (B : Bk) : Prop where
 ft : B.fault = -1
 wt : B.what = 0
 tx : ∀ j < B.txs.length, B.txs.getD j tx0 = txN x (B.txs.getD j tx0).who n
 pos : ∀ j < B.txs.length, 0 < (B.txs.getD j tx0).who
 beg : ∀ w, ixL w B.txs < B.txs.length ↔ 0 <= Yd x 1 w n
 fal : ∀ j < B.txs.length, (j ∈ B.fal ↔ Zhb x (Zbo x (B.txs.getD j tx0).who n).2 n = true)
 kep : B.kept.map (fun k => (B.txs.getD k tx0).who) = ZJ x n
 len : ZwO x n = B.kept.length
 com : ∀ k < B.kept.length, 0 <= Yd x 5 ((ZJ x n).getD k 0) n /\ (ZJ x (Yd x 5 ((ZJ x n).getD k 0) n).toNat).length = k
 out : ∀ r, r ∈ B.out ↔ ∃ i < n, xk (xa x i) = 2 /\ xw (xa x i) = 0 /\ r = (i : Int) :: nr (xa x i)
structure Adv (x : List Ent) (n : Nat) (L L' : List Tx) : Prop where
 len : L'.length = L.length
 get : ∀ j < L.length, L'.getD j tx0 = Zha (L.getD j tx0).who (L.getD j tx0) n (xa x n)
theorem ZCf (w : Int) (s : Tx) (h : s.who = w) (i : Int) (r : Ent) : (Zha w s i r).who = w := by
 unfold Zha
 repeat' split
 all_goals first | exact h | rfl | (rw [(ZeD _ _ _).2.2.2.1]; exact h)
theorem Adv.who {x : List Ent} {n : Nat} {L L' : List Tx} (h : Adv x n L L') {j : Nat} (hj : j < L.length) : (L'.getD j tx0).who = (L.getD j tx0).who := by
 rw [h.get j hj]; exact ZCf _ _ rfl _ _
theorem Yv {L : List Tx} {j : Nat} (hj : j < L.length) : L.getD j tx0 = L[j] := by rw [ZNY, ZN1 hj, ZNT]
theorem Adv.map {x : List Ent} {n : Nat} {L L' : List Tx} (h : Adv x n L L') : L'.map (·.who) = L.map (·.who) := by
 apply List.ext_getElem
 ·simp [h.len]
 ·intro j h1 h2
  rw [ZN8] at h1 h2
  rw [List.getElem_map, List.getElem_map, <- Yv h1, <- Yv h2]
  exact h.who h2
theorem ZwR {w : Int} : ∀ {L L' : List Tx}, L'.map (·.who) = L.map (·.who) -> ixL w L' = ixL w L
 | [], [], _ => rfl
 | t :: L, s :: L', h => by
  rw [ZN7, ZN7, List.cons.injEq] at h
  unfold ixL
  rw [h.1, ZwR h.2]
 | [], _ :: _, h => by simp at h
 | _ :: _, [], h => by simp at h
theorem ZfX {x : List Ent} {k w : Int} {n : Nat} (h : ¬ (xk (xa x n) = k /\ xw (xa x n) = w)) : Yd x k w (n + 1) = Yd x k w n := by
 rw [Ye, if_neg h]
 split
 ·rfl
 ·have := (Zb6 x k w n).1; omega
theorem Zlj {x : List Ent} {n : Nat} (h : ¬ xk (xa x n) = 5) : ZwO x (n + 1) = ZwO x n /\ ZJ x (n + 1) = ZJ x n := ⟨by show (if _ then _ else _) = _; rw [if_neg h], by rw [ZbC, if_neg h]⟩
theorem Zjf {x : List Ent} {k w : Int} {n : Nat} (h : 0 <= Yd x k w n) : Yd x k w (n + 1) = Yd x k w n := by rw [Ye, if_pos h]
theorem RI.adv {x : List Ent} {n : Nat} {B B' : Bk} (h : RI x n B) (hf : B'.fault = -1) (hw : B'.what = 0) (ha : Adv x n B.txs B'.txs) (hk : ¬ xk (xa x n) = 1) (hk5 : ¬ xk (xa x n) = 5) (hkept : B'.kept = B.kept)
  (hfal : ∀ j < B.txs.length, (j ∈ B'.fal ↔ Zhb x (Zbo x (B.txs.getD j tx0).who (n + 1)).2 (n + 1) = true))
  (hout : ∀ r, r ∈ B'.out ↔ ∃ i < n + 1, xk (xa x i) = 2 /\ xw (xa x i) = 0 /\ r = (i : Int) :: nr (xa x i)) (hki : ∀ k ∈ B.kept, k < B.txs.length) : RI x (n + 1) B' := by
 have hwho := fun {j : Nat} (hj : j < B.txs.length) => ha.who hj
 obtain ⟨l1, l2⟩ := Zlj hk5
 refine ⟨hf, hw, fun j hj => ?_, fun j hj => ?_, fun w => ?_, fun j hj => ?_, ?_, ?_, fun k hk => ?_, hout⟩
 ·rw [ha.len] at hj
  rw [hwho hj, Zbf, <- h.tx j hj]; exact ha.get j hj
 ·rw [ha.len] at hj
  rw [hwho hj]; exact h.pos j hj
 ·rw [ZwR ha.map, ha.len, ZfX (fun q => hk q.1)]; exact h.beg w
 ·rw [ha.len] at hj
  rw [hwho hj]; exact hfal j hj
 ·rw [hkept, l2, <- h.kep]
  apply List.map_congr_left
  intro k hk
  exact hwho (hki k hk)
 ·rw [hkept, l1]; exact h.len
 ·rw [hkept] at hk
  obtain ⟨c1, c2⟩ := h.com k hk
  rw [l2, Zjf c1]; exact ⟨c1, c2⟩
theorem Zqm {x : List Ent} {f : Int} {n : Nat} (hf : f < n) (hk : xk (xa x n) = 1 \/ xk (xa x n) = 2 \/ xk (xa x n) = 7) : ¬ Zhb x f (n + 1 : Nat) = true := by
 unfold Zhb
 rw [Zl]
 rintro ⟨_, h⟩
 obtain ⟨a, b, c⟩ := h n hf (by omega)
 omega
theorem ZBE {x : List Ent} {f : Int} {n : Nat} (hk : xk (xa x n) ≠ 1 /\ xk (xa x n) ≠ 2 /\ xk (xa x n) ≠ 7) : Zhb x f (n + 1 : Nat) = true ↔ Zhb x f n = true := by
 unfold Zhb
 rw [Zl, Zl]
 constructor
 ·rintro ⟨a, b⟩
  exact ⟨a, fun i h1 h2 => b i h1 (by omega)⟩
 ·rintro ⟨a, b⟩
  refine ⟨a, fun i h1 h2 => ?_⟩
  rcases ZNS i n with p | p
  ·exact b i h1 (by omega)
  ·rw [show i = n by omega]; exact hk
theorem ZiB {x : List Ent} {w : Int} {n : Nat} (hk : ¬ xk (xa x n) = 7) : (Zbo x w (n + 1)).2 = (Zbo x w n).2 := by
 rw [ZcL]
 split
 ·rfl
 ·split
  ·rfl
  ·rw [if_neg (fun q => hk q.1)]
theorem Zi4 {x : List Ent} {n : Nat} {L : List Tx} (hn : (L.map (·.who)).Nodup) (hk : ¬ xk (xa x n) = 7) {j : Nat} (hj : ixL (xw (xa x n)) L = j) (hjl : j < L.length) {t : Tx} (ht : t = Zha (xw (xa x n)) (L.getD j tx0) n (xa x n)) : Adv x n L (L.set j t) := by
 refine ⟨List.length_set, fun i hi => ?_⟩
 have hwj : (L.getD j tx0).who = xw (xa x n) := by rw [<- hj] at hjl ⊢; exact ZaK hjl
 by_cases hij : j = i
 ·subst hij
  rw [ZNY, List.getElem?_set_self hjl, ZNT, hwj]; exact ht
 ·rw [ZNY, List.getElem?_set_ne hij, <- ZNY]
  unfold Zha
  rw [if_neg hk, if_neg (fun q => hij (by rw [<- hj, q]; exact Zea hn hi))]
theorem ZBv {x : List Ent} {n : Nat} {L : List Tx} (hk : ¬ xk (xa x n) = 7) (hx : ∀ j < L.length, (L.getD j tx0).who ≠ xw (xa x n)) : Adv x n L L := by
 refine ⟨rfl, fun i hi => ?_⟩
 unfold Zha
 rw [if_neg hk, if_neg (fun q => hx i hi q.symm)]
theorem ZFH {x : List Ent} {n : Nat} {L : List Tx} (hk : xk (xa x n) = 7) : Adv x n L (L.map fun t => { t with opn := false }) := by
 refine ⟨ZN8 _, fun i hi => ?_⟩
 unfold Zha
 rw [if_pos hk]
 have := Yv (L := L.map fun t => { t with opn := false }) (j := i) (by rw [ZN8]; exact hi)
 rw [this, List.getElem_map, Yv hi]
theorem ZtJ {x : List Ent} {n : Nat} {B : Bk} (h : RI x n B) (hk : ¬ (xk (xa x n) = 2 /\ xw (xa x n) = 0)) : ∀ r, r ∈ B.out ↔ ∃ i < n + 1, xk (xa x i) = 2 /\ xw (xa x i) = 0 /\ r = (i : Int) :: nr (xa x i) := fun r =>
 (h.out r).trans ⟨fun ⟨i, hi, q⟩ => ⟨i, by omega, q⟩, fun ⟨i, hi, q⟩ => ⟨i, ZCD hi (fun e => by rw [e] at q; exact hk ⟨q.1, q.2.1⟩), q⟩⟩
theorem ZBB {L : List Tx} {k : Nat} : k ∈ Zl7 L 0 ↔ k < L.length /\ (L.getD k tx0).opn = true := by
 rw [<- ZdB, YL]
 simp [Zx]
set_option maxHeartbeats 1000000 in
theorem ZII {x : List Ent} {n : Nat} {B : Bk} (h : RI x n B) (hwf : WfB B n) (hn : NF x n) (hm : ZbI (xa x n) = true) :
  (Zl8 x n = true -> YG B n (xa x n) = B.flt n 1) /\ (Zl8 x n = false -> Zmd x n = true -> YG B n (xa x n) = B.flt n 2) /\ (Zl8 x n = false -> Zmd x n = false -> RI x (n + 1) (YG B n (xa x n))) := by
 generalize hj : ixL (xw (xa x n)) B.txs = j
 have hb := h.beg (xw (xa x n))
 rw [hj] at hb
 have hwho : j < B.txs.length -> (B.txs.getD j tx0).who = xw (xa x n) := fun hl => by rw [<- hj] at hl ⊢; exact ZaK hl
 have hop : j < B.txs.length -> (B.txs.getD j tx0).opn = (Zbo x (xw (xa x n)) n).1 := fun hl => by rw [h.tx j hl, ZuW, hwho hl]
 have hno : ¬ j < B.txs.length -> Zbo x (xw (xa x n)) n = (false, -1) := fun hl => Zxm (fun q => hl (hb.2 q))
 have hnone : ¬ j < B.txs.length -> ∀ i < B.txs.length, (B.txs.getD i tx0).who ≠ xw (xa x n) := fun hl i hi e => by
  have := Zea hwf.nd hi
  rw [e, hj] at this; exact hl (by omega)
 have hstay : xk (xa x n) ≠ 1 -> xk (xa x n) ≠ 2 -> xk (xa x n) ≠ 7 -> ∀ i < B.txs.length, (i ∈ B.fal ↔ Zhb x (Zbo x (B.txs.getD i tx0).who (n + 1)).2 ((n + 1 : Nat) : Int) = true) := fun a b c i hi => by
  rw [ZiB c, ZBE ⟨a, b, c⟩]; exact h.fal i hi
 have hot := ZtJ h
 have hout := Zgd x n
 have hkinds : xk (xa x n) = 1 \/ xk (xa x n) = 2 \/ xk (xa x n) = 3 \/ xk (xa x n) = 4 \/ xk (xa x n) = 5 \/ xk (xa x n) = 6 \/ xk (xa x n) = 7 := by
  refine Classical.byContradiction fun q => ?_
  have hm := hm
  unfold ZbI at hm
  dsimp only at hm
  rw [if_neg (by omega), if_neg (by omega), if_neg (by omega), if_neg (by omega), if_neg (by omega), if_neg (by omega)] at hm
  cases hm
 have wro5 : ¬ xk (xa x n) = 5 -> Zmd x n = false := fun hk => by unfold Zmd; simp [hk]
 by_cases k1 : xk (xa x n) = 1
 ·rw [if_pos k1] at hout
  rw [hout, wro5 (by omega)]
  refine ⟨fun q => st1a hj k1 (hb.2 (by simpa using q)), fun _ q => (nomatch q), fun q _ => ?_⟩
  have hb0 : ¬ 0 <= Yd x 1 (xw (xa x n)) n := by simpa using q
  have hjl : ¬ j < B.txs.length := fun hl => hb0 (hb.1 hl)
  have hwp : 0 < xw (xa x n) := by
   have hm := hm; unfold ZbI at hm; simp [k1] at hm; exact hm.1.1.1.1
  have hjle : j = B.txs.length := by have := ZDN (xw (xa x n)) B.txs; omega
  rw [st1b hj k1 hjl]
  obtain ⟨l1, l2⟩ := Zlj (x := x) (n := n) (by omega)
  have gold : ∀ i < B.txs.length, (B.txs ++ [(⟨xw (xa x n), n, -1, true, [], [], []⟩ : Tx)]).getD i tx0 = B.txs.getD i tx0 := fun i hi => by
   rw [ZNY, ZOg hi, <- ZNY]
  have gnew : (B.txs ++ [(⟨xw (xa x n), n, -1, true, [], [], []⟩ : Tx)]).getD B.txs.length tx0 = ⟨xw (xa x n), n, -1, true, [], [], []⟩ := by
   rw [ZNY, ZOh (ZNO _), Nat.sub_self]; rfl
  refine ⟨h.ft, h.wt, fun i hi => ?_, fun i hi => ?_, fun w => ?_, fun i hi => ?_, ?_, ?_, fun k hk => ?_, hot (by omega)⟩
  ·rw [ZN3, ZNM] at hi
   rcases ZNS i B.txs.length with p | p
   ·rw [gold i p, Zbf, <- h.tx i p]
    unfold Zha
    rw [if_neg (by omega), if_neg (fun e => hnone hjl i p e.symm)]
   ·rw [show i = B.txs.length by omega, gnew, Zbf]
    unfold Zha
    rw [if_neg (by omega), if_pos rfl, if_pos k1]
  ·rw [ZN3, ZNM] at hi
   rcases ZNS i B.txs.length with p | p
   ·rw [gold i p]; exact h.pos i p
   ·rw [show i = B.txs.length by omega, gnew]; exact hwp
  ·rw [ZN3, ZNM]
   have app : ∀ (L : List Tx) (t : Tx), ixL w (L ++ [t]) = if ixL w L < L.length then ixL w L else if t.who = w then L.length else L.length + 1 := by
    intro L t
    induction L with
    | nil =>
     show (bif t.who == w then 0 else 0 + 1) = _
     by_cases e : t.who = w
     ·simp [e, ixL]
     ·rw [show (t.who == w) = false from beq_eq_false_iff_ne.2 e, if_neg e]; rfl
    | cons s L ih =>
     show (bif s.who == w then 0 else ixL w (L ++ [t]) + 1) = if (bif s.who == w then 0 else ixL w L + 1) < L.length + 1 then (bif s.who == w then 0 else ixL w L + 1) else if t.who = w then L.length + 1 else L.length + 1 + 1
     cases s.who == w
     ·show ixL w (L ++ [t]) + 1 = if ixL w L + 1 < L.length + 1 then ixL w L + 1 else _
      rw [ih]
      repeat' split
      all_goals omega
     ·rfl
   show ixL w (B.txs ++ [_]) < _ ↔ _
   rw [app, Ye]
   have hbw := h.beg w
   by_cases q1 : ixL w B.txs < B.txs.length
   ·rw [if_pos q1, if_pos (hbw.1 q1)]
    exact ⟨fun _ => hbw.1 q1, fun _ => by omega⟩
   ·rw [if_neg q1, if_neg (fun q => q1 (hbw.2 q))]
    by_cases q2 : xw (xa x n) = w
    ·rw [if_pos q2, if_pos ⟨k1, q2⟩]
     exact ⟨fun _ => by omega, fun _ => by omega⟩
    ·rw [if_neg (show ¬ (⟨xw (xa x n), n, -1, true, [], [], []⟩ : Tx).who = w from q2), if_neg (fun q => q2 q.2)]
     exact ⟨fun _ => by omega, fun _ => by omega⟩
  ·rw [ZN3, ZNM] at hi
   have hf : ∀ w, ¬ Zhb x (Zbo x w (n + 1)).2 ((n + 1 : Nat) : Int) = true := fun w => Zqm (by rw [ZiB (by omega)]; exact (ZhM x w n).2) (.inl k1)
   exact ⟨fun q => (nomatch q), fun q => absurd q (hf _)⟩
  ·rw [l2, <- h.kep]
   apply List.map_congr_left
   intro k hk
   rw [gold k (hwf.ki k hk)]
  ·rw [l1]; exact h.len
  ·obtain ⟨c1, c2⟩ := h.com k hk
   rw [l2, Zjf c1]; exact ⟨c1, c2⟩
 ·by_cases k2 : xk (xa x n) = 2
  ·rw [if_neg k1, if_pos k2] at hout
   rw [hout, wro5 (by omega)]
   by_cases hw0 : xw (xa x n) = 0
   ·rw [hw0]
    refine ⟨fun q => by simp at q, fun _ q => (nomatch q), fun _ _ => ?_⟩
    rw [st2a hj k2 hw0]
    refine h.adv h.ft h.wt (ZBv (by omega) (fun i hi e => by have := h.pos i hi; omega)) k1 (by omega) rfl (fun i hi => ⟨fun q => (nomatch q), fun q => absurd q (Zqm (by rw [ZiB (by omega)]; exact (ZhM x _ n).2) (.inr (.inl k2)))⟩) (fun r => ?_) hwf.ki
    show r ∈ B.out ++ [_] ↔ _
    rw [ZOj, h.out r, ZNR]
    constructor
    ·rintro (⟨i, hi, q⟩ | rfl)
     ·exact ⟨i, by omega, q⟩
     ·exact ⟨n, by omega, k2, hw0, rfl⟩
    ·rintro ⟨i, hi, q⟩
     rcases ZNS i n with p | p
     ·exact .inl ⟨i, p, q⟩
     ·right; rw [q.2.2, show i = n by omega]
   ·have hwp : 0 < xw (xa x n) := by
     have hm := hm; unfold ZbI at hm; simp [k2] at hm; have := hm.1.1.1; omega
    have hd : decide (0 < xw (xa x n)) = true := by simpa using hwp
    rw [hd, Bool.true_and]
    refine ⟨fun q => ?_, fun _ q => (nomatch q), fun q _ => ?_⟩
    ·have q : (Zbo x (xw (xa x n)) n).1 = false := by simpa using q
     exact st2c hj k2 hw0 (fun hl => by rw [hop hl]; exact q)
    ·have q : (Zbo x (xw (xa x n)) n).1 = true := by simpa using q
     have hl : j < B.txs.length := Classical.byContradiction fun hl => by rw [hno hl] at q; cases q
     rw [st2b hj k2 hw0 hl (by rw [hop hl]; exact q)]
     refine h.adv h.ft h.wt (Zi4 hwf.nd (by omega) hj hl ?_) k1 (by omega) rfl (fun i hi => ⟨fun q => (nomatch q), fun q => absurd q (Zqm (by rw [ZiB (by omega)]; exact (ZhM x _ n).2) (.inr (.inl k2)))⟩) (hot (fun e => hw0 e.2)) hwf.ki
     unfold Zha
     rw [if_neg (by omega), if_pos rfl, if_neg k1, if_pos k2]
  ·by_cases k3 : xk (xa x n) = 3 \/ xk (xa x n) = 4
   ·rw [if_neg k1, if_neg k2, if_pos (by omega)] at hout
    rw [hout, wro5 (by omega)]
    refine ⟨fun q => ?_, fun _ q => (nomatch q), fun q _ => ?_⟩
    ·have q : (Zbo x (xw (xa x n)) n).1 = false := by simpa using q
     exact ZMQ hj k3 (fun hl => by rw [hop hl]; exact q)
    ·have q : (Zbo x (xw (xa x n)) n).1 = true := by simpa using q
     have hl : j < B.txs.length := Classical.byContradiction fun hl => by rw [hno hl] at q; cases q
     rw [st3a hj k3 hl (by rw [hop hl]; exact q)]
     refine h.adv h.ft h.wt (Zi4 hwf.nd (by omega) hj hl ?_) k1 (by omega) rfl (hstay k1 k2 (by omega)) (hot (by omega)) hwf.ki
     unfold Zha
     rw [if_neg (by omega), if_pos rfl, if_neg k1, if_neg k2, if_pos k3]
   ·by_cases k6 : xk (xa x n) = 6
    ·rw [if_neg k1, if_neg k2, if_pos (by omega)] at hout
     rw [hout, wro5 (by omega)]
     refine ⟨fun q => ?_, fun _ q => (nomatch q), fun q _ => ?_⟩
     ·have q : (Zbo x (xw (xa x n)) n).1 = false := by simpa using q
      exact st6b hj k6 (fun hl => by rw [hop hl]; exact q)
     ·have q : (Zbo x (xw (xa x n)) n).1 = true := by simpa using q
      have hl : j < B.txs.length := Classical.byContradiction fun hl => by rw [hno hl] at q; cases q
      rw [st6a hj k6 hl (by rw [hop hl]; exact q)]
      refine h.adv h.ft h.wt (Zi4 hwf.nd (by omega) hj hl ?_) k1 (by omega) rfl (hstay k1 k2 (by omega)) (hot (by omega)) hwf.ki
      unfold Zha
      rw [if_neg (by omega), if_pos rfl, if_neg k1, if_neg k2, if_neg k3, if_pos k6]
    ·by_cases k7 : xk (xa x n) = 7
     ·rw [if_neg k1, if_neg k2, if_neg (by omega), if_neg (by omega)] at hout
      rw [hout, wro5 (by omega)]
      refine ⟨fun q => (nomatch q), fun _ q => (nomatch q), fun _ _ => ?_⟩
      rw [st7 hj k7]
      refine h.adv h.ft h.wt (ZFH k7) k1 (by omega) rfl (fun i hi => ?_) (hot (by omega)) hwf.ki
      show i ∈ Zl7 B.txs 0 ↔ _
      rw [ZBB]
      have ho : (B.txs.getD i tx0).opn = (Zbo x (B.txs.getD i tx0).who n).1 := by rw [h.tx i hi, ZuW, ZDR]
      rw [ho, ZcL, if_neg (by omega), if_neg (by omega)]
      by_cases q : (Zbo x (B.txs.getD i tx0).who n).1 = true
      ·rw [if_pos ⟨k7, q⟩]
       refine ⟨fun _ => ?_, fun _ => ⟨hi, q⟩⟩
       unfold Zhb
       rw [Zl]
       exact ⟨by show (0 : Int) <= n; omega, fun a h1 h2 => by have h1 : (n : Int) < a := h1; omega⟩
      ·rw [if_neg (fun e => q e.2)]
       exact ⟨fun e => absurd e.2 q, fun e => absurd e (Zqm (ZhM x _ n).2 (.inr (.inr k7)))⟩
     ·have k5 : xk (xa x n) = 5 := by omega
      rw [if_neg k1, if_neg k2, if_neg (by omega), if_pos k5] at hout
      have hwp : 0 < xw (xa x n) := by
       have hm := hm; unfold ZbI at hm; simp [k5] at hm; exact hm.1.1.1.1.1
      have hcom : j < B.txs.length -> (B.txs.getD j tx0).com = Yd x 5 (xw (xa x n)) n := fun hl => by rw [h.tx j hl, hwho hl, ZfU hwp hn]
      have hfal : j < B.txs.length -> (j ∈ B.fal ↔ Zhb x (Zbo x (xw (xa x n)) n).2 n = true) := fun hl => by have := h.fal j hl; rw [hwho hl] at this; exact this
      have hwro : Zmd x n = !decide (xt (xa x n) = B.kept.length + 1) := by unfold Zmd; rw [h.len]; simp [k5]
      have good : Zl8 x n = false -> j < B.txs.length /\ ((j < B.txs.length /\ (B.txs.getD j tx0).opn = true) \/ j ∈ B.fal) /\ (B.txs.getD j tx0).com < 0 := fun q => by
       rw [hout, Bool.or_eq_false_iff] at q
       obtain ⟨q1, q2⟩ := q
       have q2 : ¬ 0 <= Yd x 5 (xw (xa x n)) n := by simpa using q2
       have hl : j < B.txs.length := Classical.byContradiction fun hl => by
        rw [hno hl] at q1
        have : Zhb x (-1) n = false := by rw [ZgS]; rfl
        simp [this] at q1
       refine ⟨hl, ?_, by rw [hcom hl]; omega⟩
       rw [hop hl, hfal hl]
       cases ho : (Zbo x (xw (xa x n)) n).1
       ·right
        rw [ho] at q1; simpa using q1
       ·exact .inl ⟨hl, rfl⟩
      refine ⟨fun q => ?_, fun q r => ?_, fun q r => ?_⟩
      ·refine ZKc hj k5 ?_
       rw [hout, Bool.or_eq_true] at q
       rcases q with q | q
       ·left
        simp only [Bool.and_eq_true, ZNX] at q
        refine ⟨fun hl => by rw [hop hl]; exact q.1, fun hm => ?_⟩
        have hl := hwf.fi j hm
        rw [(hfal hl).1 hm] at q; cases q.2
       ·have q : 0 <= Yd x 5 (xw (xa x n)) n := by simpa using q
        by_cases hl : j < B.txs.length
        ·right; rw [hcom hl]; exact q
        ·left
         exact ⟨fun e => absurd e hl, fun hm => hl (hwf.fi j hm)⟩
      ·obtain ⟨_, g2, g3⟩ := good q
       rw [hwro] at r
       exact st5b hj k5 g2 g3 (by simpa using r)
      ·obtain ⟨hl, g2, g3⟩ := good q
       rw [hwro] at r
       have r : xt (xa x n) = B.kept.length + 1 := by simpa using r
       rw [st5c hj k5 g2 g3 r]
       have ha : Adv x n B.txs (B.txs.set j { B.txs.getD j tx0 with opn := false, com := n }) := Zi4 hwf.nd (by omega) hj hl (by
        unfold Zha
        rw [if_neg (by omega), if_pos rfl, if_neg k1, if_neg k2, if_neg k3, if_neg k6, if_pos k5])
       have hlen : ZwO x (n + 1) = xt (xa x n) := by show (if _ then _ else _) = _; rw [if_pos k5]
       have hk' : ZJ x (n + 1) = ZJ x n ++ [xw (xa x n)] := by rw [ZbC, if_pos k5]
       have hkl : (ZJ x n).length = B.kept.length := by rw [<- h.kep, ZN8]
       refine ⟨h.ft, h.wt, fun i hi => ?_, fun i hi => ?_, fun w => ?_, fun i hi => ?_, ?_, ?_, fun k hk => ?_, hot (by omega)⟩
       ·rw [ha.len] at hi
        rw [ha.who hi, Zbf, <- h.tx i hi]; exact ha.get i hi
       ·rw [ha.len] at hi
        rw [ha.who hi]; exact h.pos i hi
       ·rw [ZwR ha.map, ha.len, ZfX (fun e => k1 e.1)]; exact h.beg w
       ·rw [ha.len] at hi
        rw [ha.who hi]; exact hstay k1 k2 k7 i hi
       ·show (B.kept ++ [j]).map _ = _
        rw [ZOe, hk', <- h.kep, List.map_singleton, ha.who hl, hwho hl]
        congr 1
        apply List.map_congr_left
        intro k hk
        exact ha.who (hwf.ki k hk)
       ·show _ = (((B.kept ++ [j]).length : Nat) : Int)
        rw [hlen, r, ZN3, ZNM]; omega
       ·have hk : k < (B.kept ++ [j]).length := hk
        rw [ZN3, ZNM] at hk
        rw [hk']
        rcases ZNS k B.kept.length with p | p
        ·have e : (ZJ x n ++ [xw (xa x n)]).getD k 0 = (ZJ x n).getD k 0 := by
          rw [ZNY, ZOg (by omega), <- ZNY]
         obtain ⟨c1, c2⟩ := h.com k p
         rw [e, Zjf c1]; exact ⟨c1, c2⟩
        ·have e : (ZJ x n ++ [xw (xa x n)]).getD k 0 = xw (xa x n) := by
          rw [ZNY, ZOh (by omega), show k - (ZJ x n).length = 0 by omega]; rfl
         rw [hcom hl] at g3
         rw [e, Ye, if_neg (by omega), if_pos ⟨k5, rfl⟩, ZN5]
         exact ⟨by omega, by omega⟩
theorem ZpG (x : List Ent) : ∀ n : Nat, (∀ i < n, ZbI (xa x i) = true) -> (NF x n -> RI x n (Z4 x n)) /\ (0 <= (ZcG x n).1 -> (Z4 x n).fault = (ZcG x n).1 /\ (Z4 x n).what = (ZcG x n).2)
 | 0, _ => by
  refine ⟨fun _ => ⟨rfl, rfl, fun j hj => absurd hj (Nat.not_lt_zero j), fun j hj => absurd hj (Nat.not_lt_zero j), fun w => ⟨fun h => absurd h (Nat.not_lt_zero _), fun h => absurd h (by show ¬ (0 : Int) <= -1; omega)⟩, fun j hj => absurd hj (Nat.not_lt_zero j), rfl, rfl,
   fun k hk => absurd hk (Nat.not_lt_zero k), fun r => ⟨fun h => (nomatch h), fun ⟨i, hi, _⟩ => absurd hi (Nat.not_lt_zero i)⟩⟩, fun h => absurd h (by show ¬ (0 : Int) <= -1; omega)⟩
 | n + 1, hm => by
  obtain ⟨i1, i2⟩ := ZpG x n (fun i hi => hm i (by omega))
  have e : Z4 x (n + 1) = if 0 <= (Z4 x n).fault then Z4 x n else YG (Z4 x n) n (xa x n) := rfl
  by_cases h0 : 0 <= (ZcG x n).1
  ·have := i2 h0
   rw [e, if_pos (by rw [this.1]; exact h0), ZbZ, if_pos h0]
   refine ⟨fun q => absurd (show 0 <= (ZcG x (n + 1)).1 by rw [ZbZ, if_pos h0]; exact h0) q.1, fun _ => this⟩
  ·have hn : NF x n := ⟨h0, fun i hi => hm i (by omega)⟩
   have ri := i1 hn
   obtain ⟨s1, s2, s3⟩ := ZII ri (ZhW x n) hn (hm n (by omega))
   rw [e, if_neg (by rw [ri.ft]; omega)]
   refine ⟨fun q => s3 q.pred.2.1 q.pred.2.2.1, ?_⟩
   rw [ZbZ, if_neg h0]
   by_cases ho : Zl8 x n = true
   ·rw [if_pos ho, s1 ho]; exact fun _ => ⟨rfl, rfl⟩
   ·rw [if_neg ho]
    have ho : Zl8 x n = false := by simpa using ho
    by_cases hw : Zmd x n = true
    ·rw [if_pos hw, s2 ho hw]; exact fun _ => ⟨rfl, rfl⟩
    ·rw [if_neg hw]; exact fun q => absurd q (by show ¬ (0 : Int) <= -1; omega)
theorem YD.congr {F G : Int -> Int -> Prop} {n : Int} {s : Int × Int} (h : YD F n s) (e : ∀ i r, F i r ↔ G i r) : YD G n s := by
 have : F = G := by funext i r; exact propext (e i r)
 rw [<- this]; exact h
theorem YD.note {F : Int -> Int -> Prop} {n : Int} {s : Int × Int} (h : YD F n s) {i0 r0 : Int} (hi : i0 < n) (hr : r0 ≠ 0) : YD (fun i r => F i r \/ (i = i0 /\ r = r0)) n (ZdW s i0 r0) := by
 unfold ZdW
 rcases h with ⟨rfl, hno⟩ | ⟨h1, h2, h3⟩
 ·rw [if_pos hi]
  exact .inr ⟨hr, .inr ⟨rfl, rfl⟩, fun i r q => by
   rcases q with q | q
   ·exact absurd q (hno i r)
   ·rw [q.1]; exact ZN9 _⟩
 ·split
  ·rename_i q
   refine .inr ⟨hr, .inr ⟨rfl, rfl⟩, fun i r q2 => ?_⟩
   show i0 <= i
   rcases q2 with q2 | q2
   ·have := h3 i r q2; omega
   ·omega
  ·rename_i q
   refine .inr ⟨h1, .inl h2, fun i r q2 => ?_⟩
   rcases q2 with q2 | q2
   ·exact h3 i r q2
   ·omega
theorem Zpi {F : Int -> Int -> Prop} {n : Int} {s : Int × Int} (h : YD F n s) (l : List Int) (hl : ∀ i ∈ l, i < n) : ∀ m ≤ l.length, YD (fun i r => F i r \/ (r = 3 /\ i ∈ l.take m)) n (ZE6 s l m)
 | 0, _ => h.congr fun i r => by simp
 | m + 1, hm => by
  have ih := Zpi h l hl m (by omega)
  have hlt : m < l.length := by omega
  have e : l.getD m 0 = l[m] := by rw [ZNY, ZN1 hlt, ZNT]
  have := ih.note (i0 := l.getD m 0) (r0 := 3) (hl _ (by rw [e]; exact ZOl hlt)) (by decide)
  refine this.congr fun i r => ?_
  rw [<- List.take_append_getElem hlt, ZOj, ZNR, e]
  constructor
  ·rintro ((a | ⟨a, b⟩) | ⟨a, b⟩)
   ·exact .inl a
   ·exact .inr ⟨a, .inl b⟩
   ·exact .inr ⟨b, .inr a⟩
  ·rintro (a | ⟨a, b | b⟩)
   ·exact .inl (.inl a)
   ·exact .inl (.inr ⟨a, b⟩)
   ·exact .inr ⟨b, a⟩
theorem ZoV {F : Int -> Int -> Prop} {n : Int} {s : Int × Int} (h : YD F n s) (f : Ent -> Bool) (l : List (List Int)) (hl : ∀ r ∈ l, g0 r < n) : ∀ m ≤ l.length, YD (fun i r => F i r \/ (r = 4 /\ ∃ R ∈ l.take m, i = g0 R /\ f (R.drop 1) = false)) n (Zjm f s l m)
 | 0, _ => h.congr fun i r => by simp
 | m + 1, hm => by
  have ih := ZoV h f l hl m (by omega)
  have hlt : m < l.length := by omega
  have e : l.getD m [] = l[m] := by rw [ZNY, ZN1 hlt, ZNT]
  have e2 := (List.take_append_getElem hlt).symm
  unfold Zjm
  rw [e]
  split
  ·rename_i q
   refine ih.congr fun i r => ?_
   rw [e2]
   constructor
   ·rintro (a | ⟨a, R, hR, b⟩)
    ·exact .inl a
    ·exact .inr ⟨a, R, List.mem_append.2 (.inl hR), b⟩
   ·rintro (a | ⟨a, R, hR, b⟩)
    ·exact .inl a
    ·rcases List.mem_append.1 hR with hR | hR
     ·exact .inr ⟨a, R, hR, b⟩
     ·rw [List.mem_singleton.1 hR, q] at b; cases b.2
  ·rename_i q
   have q : f ((l[m]).drop 1) = false := by simpa using q
   have := ih.note (i0 := g0 l[m]) (r0 := 4) (hl _ (ZOl hlt)) (by decide)
   refine this.congr fun i r => ?_
   rw [e2]
   constructor
   ·rintro ((a | ⟨a, R, hR, b⟩) | ⟨a, b⟩)
    ·exact .inl a
    ·exact .inr ⟨a, R, List.mem_append.2 (.inl hR), b⟩
    ·exact .inr ⟨b, l[m], List.mem_append.2 (.inr (List.mem_singleton.2 rfl)), a, q⟩
   ·rintro (a | ⟨a, R, hR, b⟩)
    ·exact .inl (.inl a)
    ·rcases List.mem_append.1 hR with hR | hR
     ·exact .inl (.inr ⟨a, R, hR, b⟩)
     ·rw [List.mem_singleton.1 hR] at b; exact .inr ⟨b.1, a⟩
theorem ZjI {f : Ent -> Bool} {L : List (List Int)} {place N : Int} (hs : L.Pairwise fun a b => g0 a <= g0 b) (hN : ∀ q < L.length, g0 (L.getD q []) < N) :
  ∀ (n p : Nat) {F : Int -> Int -> Prop} {s : Int × Int}, n = L.length - p -> p <= L.length -> YD F N s →
  p <= (Zso f L place n p s).1 /\ (Zso f L place n p s).1 <= L.length /\ (∀ q, p <= q -> q < (Zso f L place n p s).1 -> g0 (L.getD q []) < place) /\ (∀ q, (Zso f L place n p s).1 <= q -> q < L.length -> place <= g0 (L.getD q [])) ∧
  YD (fun i r => F i r \/ (r = 4 /\ ∃ q, p <= q /\ q < (Zso f L place n p s).1 /\ i = g0 (L.getD q []) /\ f ((L.getD q []).drop 1) = false)) N (Zso f L place n p s).2
 | 0, p, F, s, hn, hp, h => ⟨ZNO _, hp, fun q a b => absurd b (Nat.not_lt.2 a), fun q a b => by have a : p <= q := a; omega, h.congr fun i r => ⟨.inl, fun q => by
   rcases q with q | ⟨_, q, a, b, _⟩
   ·exact q
   ·have b : q < p := b; omega⟩⟩
 | n + 1, p, F, s, hn, hp, h => by
  unfold Zso
  by_cases q : p < L.length /\ g0 (L.getD p []) < place
  ·rw [if_pos q]
   have hF : YD (fun i r => F i r \/ (r = 4 /\ i = g0 (L.getD p []) /\ f ((L.getD p []).drop 1) = false)) N (if f ((L.getD p []).drop 1) = true then s else ZdW s (g0 (L.getD p [])) 4) := by
    split
    ·rename_i t
     exact h.congr fun i r => ⟨.inl, fun q => by
      rcases q with q | ⟨_, _, q⟩
      ·exact q
      ·rw [t] at q; cases q⟩
    ·rename_i t
     have t : f ((L.getD p []).drop 1) = false := by simpa using t
     exact (h.note (hN p q.1) (by decide)).congr fun i r => ⟨fun q => by
      rcases q with q | ⟨a, b⟩
      ·exact .inl q
      ·exact .inr ⟨b, a, t⟩, fun q => by
      rcases q with q | ⟨a, b, _⟩
      ·exact .inl q
      ·exact .inr ⟨b, a⟩⟩
   obtain ⟨a1, a2, a3, a4, a5⟩ := ZjI (f := f) (place := place) hs hN n (p + 1) (by omega) (by omega) hF
   generalize Zso f L place n (p + 1) _ = e at *
   refine ⟨by omega, a2, fun t h1 h2 => ?_, a4, a5.congr fun i r => ?_⟩
   ·by_cases hte : t = p
    ·rw [hte]; exact q.2
    ·exact a3 t (by omega) h2
   ·constructor
    ·rintro ((b | ⟨b, c, d⟩) | ⟨b, t, c, d, g⟩)
     ·exact .inl b
     ·exact .inr ⟨b, p, ZNO _, by omega, c, d⟩
     ·exact .inr ⟨b, t, by omega, d, g⟩
    ·rintro (b | ⟨b, t, c, d, g⟩)
     ·exact .inl (.inl b)
     ·by_cases hte : t = p
      ·rw [hte] at g; exact .inl (.inr ⟨b, g⟩)
      ·exact .inr ⟨b, t, by omega, d, g⟩
  ·rw [if_neg q]
   refine ⟨ZNO _, hp, fun t a b => absurd b (Nat.not_lt.2 a), fun t a b => ?_, h.congr fun i r => ⟨.inl, fun q => by
    rcases q with q | ⟨_, t, a, b, _⟩
    ·exact q
    ·have b : t < p := b; omega⟩⟩
   have a : p <= t := a
   have hp2 : p < L.length := by omega
   have h0 : place <= g0 (L.getD p []) := by
    by_cases z : g0 (L.getD p []) < place
    ·exact absurd ⟨hp2, z⟩ q
    ·omega
   by_cases hte : t = p
   ·rw [hte]; exact h0
   ·have := (List.pairwise_iff_getElem.1 hs) p t hp2 b (by omega)
    rw [ZNY, ZN1 hp2, ZNT] at h0
    rw [ZNY, ZN1 b, ZNT]
    omega
/-! ### What stands, and what the reference lets stand -/
theorem Zfm (x : List Ent) {m n : Nat} (h : m <= n) : (ZJ x m).length <= (ZJ x n).length /\ ∀ i < (ZJ x m).length, (ZJ x n).getD i 0 = (ZJ x m).getD i 0 := by
 induction n with
 | zero => rw [show m = 0 by omega]; exact ⟨ZNO _, fun i _ => rfl⟩
 | succ n ih =>
  rcases ZNS m (n + 1) with p | p
  ·obtain ⟨a, b⟩ := ih (by omega)
   rw [ZbC]
   split
   ·refine ⟨by rw [ZN3]; omega, fun i hi => ?_⟩
    rw [ZNY, ZOg (by omega), <- ZNY]; exact b i hi
   ·exact ⟨a, b⟩
  ·rw [show m = n + 1 by omega]; exact ⟨ZNO _, fun i _ => rfl⟩
theorem Zn3 (x : List Ent) {ks ls : List Int} (key : List UInt8) : ∀ k : Nat, (∀ i < k, ks.getD i 0 = ls.getD i 0) -> ZcY x ks key k = ZcY x ls key k
 | 0, _ => rfl
 | k + 1, h => by
  rw [ZcV, ZcV, h k (by omega), Zn3 x key k (fun i hi => h i (by omega))]
structure Go (x : List Ent) (B : Bk) : Prop where
 nf : NF x x.length
 ri : RI x x.length B
 wf : WfB B x.length
theorem Go.may {x : List Ent} {B : Bk} (h : Go x B) (n : Nat) (hn : n < x.length) : ZbI (xa x n) = true := h.nf.2 n hn
theorem Go.tx {x : List Ent} {B : Bk} (h : Go x B) {t : Tx} (ht : t ∈ B.txs) : t = txN x t.who x.length /\ 0 < t.who := by
 obtain ⟨j, hj, rfl⟩ := List.getElem_of_mem ht
 have a := h.ri.tx j hj
 have b := h.ri.pos j hj
 rw [Yv hj] at a b
 exact ⟨a, b⟩
theorem Go.kw {x : List Ent} {B : Bk} (h : Go x B) {k : Nat} (hk : k < B.kept.length) : B.kept.getD k 0 < B.txs.length /\ (B.txs.getD (B.kept.getD k 0) tx0).who = (ZJ x x.length).getD k 0 := by
 have e : B.kept.getD k 0 = B.kept[k] := by rw [ZNY, ZN1 hk, ZNT]
 refine ⟨by rw [e]; exact h.wf.ki _ (ZOl hk), ?_⟩
 rw [<- h.ri.kep, ZNY (l := B.kept.map _), ZNU, ZN1 hk, e]; rfl
theorem Go.kt {x : List Ent} {B : Bk} (h : Go x B) {k : Nat} (hk : k < B.kept.length) : B.txs.getD (B.kept.getD k 0) tx0 ∈ B.txs := by
 have := (h.kw hk).1
 rw [Yv this]; exact ZOl this
theorem ZpZ {x : List Ent} {B : Bk} (h : Go x B) (key : List UInt8) : ∀ k ≤ B.kept.length,
  (stF B k (Zs key : Nat) = (false, vw 0) /\ ZcY x (ZJ x x.length) key k = ([], false)) \/ (stF B k (Zs key : Nat) = (true, ZcY x (ZJ x x.length) key k) /\ ((ZcY x (ZJ x x.length) key k).2 = false -> (ZcY x (ZJ x x.length) key k).1 = []))
 | 0, _ => .inl ⟨rfl, rfl⟩
 | k + 1, hk => by
  have ih := ZpZ h key k (by omega)
  obtain ⟨t1, t2⟩ := h.tx (h.kt (k := k) (by omega))
  have hw := (h.kw (k := k) (by omega)).2
  have hc := ZuS t2 h.nf key
  rw [<- t1, hw] at hc
  have e1 : stF B (k + 1) (Zs key : Nat) = if Zx (B.txs.getD (B.kept.getD k 0) tx0).ch (Zs key : Nat) = true then (true, vw (YC 0 (B.txs.getD (B.kept.getD k 0) tx0).ch (Zs key : Nat))) else stF B k (Zs key : Nat) := rfl
  rw [e1, ZcV, hc.1]
  by_cases hl : 0 <= YA x ((ZJ x x.length).getD k 0) key x.length
  ·rw [if_pos hl, if_pos (decide_eq_true hl), hc.2 hl]
   refine .inr ⟨rfl, fun q => ?_⟩
   obtain ⟨l1, _, l3⟩ := ZqZ x ((ZJ x x.length).getD k 0) key x.length
   have q : ¬ xk (xa x (YA x ((ZJ x x.length).getD k 0) key x.length).toNat) = 3 := by simpa using q
   exact Zoh (h.may _ (by omega)) (by have := l3 hl; omega)
  ·rw [if_neg hl, if_neg (fun q => hl (of_decide_eq_true q))]; exact ih
theorem ZCs {x : List Ent} {B : Bk} (h : Go x B) {k : Nat} (hk : k <= B.kept.length) {r : Ent} (hm : ZbI r = true) (h2 : xk r = 2) :
  ZY (stF B k) r = ((ZbW r == (ZcY x (ZJ x x.length) (ZV r) k).2) && (ZaB r == (ZcY x (ZJ x x.length) (ZV r) k).1)) := by
 have hs := ZpZ h (ZV r) k hk
 unfold ZY
 show ((ZbW r == ((stF B k (Zs (ZV r) : Nat)).1 && (stF B k (Zs (ZV r) : Nat)).2.2)) && (!ZbW r || ZaB r == (stF B k (Zs (ZV r) : Nat)).2.1)) = _
 cases hh : ZbW r
 ·have hv := Znf hm (.inl h2) hh
  rcases hs with ⟨a, b⟩ | ⟨a, b⟩
  ·rw [a, b, hv]; rfl
  ·rw [a, hv]
   generalize ZcY x (ZJ x x.length) (ZV r) k = v at *
   cases hv2 : v.2
   ·rw [b hv2]; rfl
   ·rfl
 ·rcases hs with ⟨a, b⟩ | ⟨a, b⟩
  ·rw [a, b]; rfl
  ·rw [a]; simp
theorem Za3 (f : Int -> Bool × (List UInt8 × Bool)) (r : Ent) : ZY f (nr r) = ZY f r := by unfold ZY; rw [ZIG, Zgc, Zgv]
theorem Zw9 {x : List Ent} {w : Int} : ∀ {n : Nat}, 0 <= Yd x 5 w n -> w ∈ ZJ x n
 | 0, h => absurd h (by show ¬ (0 : Int) <= -1; omega)
 | n + 1, h => by
  rw [ZbC]
  rw [Ye] at h
  by_cases h0 : 0 <= Yd x 5 w n
  ·have := Zw9 h0
   split
   ·exact List.mem_append.2 (.inl this)
   ·exact this
  ·rw [if_neg h0] at h
   by_cases h1 : xk (xa x n) = 5 /\ xw (xa x n) = w
   ·rw [if_pos h1.1, h1.2]; simp
   ·rw [if_neg h1] at h; exact absurd h (by omega)
def looF (x : List Ent) (B : Bk) (i r : Int) : Prop := r = 4 /\ ∃ R ∈ ZmO B [], i = g0 R /\ ZY (stF B (ZJ x i.toNat).length) (R.drop 1) = false
def kepF (B : Bk) (k : Nat) (i r : Int) : Prop := r = 4 /\ ∃ k' < k, ∃ R ∈ (B.txs.getD (B.kept.getD k' 0) tx0).rds, i = g0 R /\ ZY (stF B k') (R.drop 1) = false
def refF (x : List Ent) (i r : Int) : Prop := ∃ n : Nat, n < x.length /\ i = n /\ xk (xa x n) = 2 /\ (Zg8 x n (ZJ x (ZjR x n))).1 = false /\ r = (Zg8 x n (ZJ x (ZjR x n))).2
theorem ZiO {B : Bk} {R : Ent} : R ∈ ZmO B [] ↔ R ∈ B.out \/ ∃ t ∈ B.txs, t.com < 0 /\ R ∈ t.rds := by
 unfold ZmO
 rw [ZOj, List.mem_flatMap]
 constructor
 ·rintro (a | ⟨t, a, b⟩)
  ·exact .inl a
  ·rw [List.mem_filter] at a
   exact .inr ⟨t, a.1, by simpa [Zx] using a.2, b⟩
 ·rintro (a | ⟨t, a, b, c⟩)
  ·exact .inl a
  ·exact .inr ⟨t, List.mem_filter.2 ⟨a, by simpa [Zx] using b⟩, c⟩
theorem ZbG {x : List Ent} {B : Bk} (h : Go x B) : (ZJ x x.length).length = B.kept.length := by rw [<- h.ri.kep, ZN8]
theorem ZCY {x : List Ent} {B : Bk} (h : Go x B) {n m k : Nat} (hn : n < x.length) (h2 : xk (xa x n) = 2) (hno : ¬ (0 <= YA x (xw (xa x n)) (ZV (xa x n)) n /\ 0 < xw (xa x n))) (hm : m <= x.length) (hk : (ZJ x m).length = k) :
  Zg8 x n (ZJ x m) = (ZY (stF B k) (xa x n), 4) := by
 have hkm := Zfm x hm
 rw [Zzq, if_neg hno, ZCs h (by rw [<- hk, <- ZbG h]; exact hkm.1) (h.may n hn) h2, hk]
 rw [Zn3 x (ZV (xa x n)) k (ks := ZJ x m) (ls := ZJ x x.length) (fun i hi => (hkm.2 i (by omega)).symm)]
theorem ZKg {x : List Ent} {n : Nat} {ks : List Int} (h : 0 <= YA x (xw (xa x n)) (ZV (xa x n)) n /\ 0 < xw (xa x n)) : Zg8 x n ks = (ZEW x n, 3) := by
 rw [Zzq, if_pos h]; rfl
theorem Zsv {x : List Ent} {w : Int} {n : Nat} : (Yd x 5 w n).toNat <= n := by have := (Zb6 x 5 w n).2.1; omega
theorem ZJk {x : List Ent} {B : Bk} (h : Go x B) (i r : Int) : (ZBb B [] i r \/ looF x B i r \/ kepF B B.kept.length i r) ↔ refF x i r := by
 constructor
 ·rintro (⟨rfl, t, ht, _, hi⟩ | ⟨rfl, R, hR, hi, hs⟩ | ⟨rfl, k, hk, R, hR, hi, hs⟩)
  ·obtain ⟨t1, t2⟩ := h.tx ht
   rw [t1] at hi
   obtain ⟨n, a, b, c, d, e, f⟩ := ((ZdX t2 h.nf).2 i).1 hi
   have hh : 0 <= YA x (xw (xa x n)) (ZV (xa x n)) n /\ 0 < xw (xa x n) := by rw [c]; exact ⟨d, t2⟩
   refine ⟨n, a, f, b, ?_, ?_⟩
   ·rw [ZKg hh]; exact e
   ·rw [ZKg hh]
  ·rcases ZiO.1 hR with hR | ⟨t, ht, hc, hR⟩
   ·obtain ⟨n, a, b, c, rfl⟩ := (h.ri.out R).1 hR
    have hi : i = n := hi
    subst hi
    rw [ZN5] at hs
    have hno : ¬ (0 <= YA x (xw (xa x n)) (ZV (xa x n)) n /\ 0 < xw (xa x n)) := by omega
    have he : ZjR x n = n := by rw [Zhw, if_neg (by omega)]
    refine ⟨n, a, rfl, b, ?_, ?_⟩
    ·rw [he, ZCY h a b hno (by omega) rfl, <- Za3]; exact hs
    ·rw [he, ZCY h a b hno (by omega) rfl]
   ·obtain ⟨t1, t2⟩ := h.tx ht
    rw [t1] at hR
    obtain ⟨n, a, b, c, d, rfl⟩ := ((ZdX t2 h.nf).1 R).1 hR
    have hi : i = n := hi
    subst hi
    rw [ZN5] at hs
    have hno : ¬ (0 <= YA x (xw (xa x n)) (ZV (xa x n)) n /\ 0 < xw (xa x n)) := by rw [c]; omega
    have hcom := ZfU t2 h.nf
    rw [<- t1] at hcom
    have he : ZjR x n = n := by rw [Zhw, c, if_pos t2, <- hcom, if_neg (by omega)]
    refine ⟨n, a, rfl, b, ?_, ?_⟩
    ·rw [he, ZCY h a b hno (by omega) rfl, <- Za3]; exact hs
    ·rw [he, ZCY h a b hno (by omega) rfl]
  ·obtain ⟨t1, t2⟩ := h.tx (h.kt hk)
   have hw := (h.kw hk).2
   obtain ⟨c1, c2⟩ := h.ri.com k hk
   rw [<- hw] at c1 c2
   generalize (B.txs.getD (B.kept.getD k 0) tx0) = t at *
   rw [t1] at hR
   obtain ⟨n, a, b, c, d, rfl⟩ := ((ZdX t2 h.nf).1 R).1 hR
   have hi : i = n := hi
   subst hi
   have hno : ¬ (0 <= YA x (xw (xa x n)) (ZV (xa x n)) n /\ 0 < xw (xa x n)) := by rw [c]; omega
   have he : ZjR x n = (Yd x 5 t.who x.length).toNat := by rw [Zhw, c, if_pos t2, if_pos c1]
   refine ⟨n, a, rfl, b, ?_, ?_⟩
   ·rw [he, ZCY h a b hno Zsv c2, <- Za3]; exact hs
   ·rw [he, ZCY h a b hno Zsv c2]
 ·rintro ⟨n, hn, rfl, h2, hf, rfl⟩
  have hmn := h.may n hn
  by_cases hw0 : xw (xa x n) = 0
  ·have hno : ¬ (0 <= YA x (xw (xa x n)) (ZV (xa x n)) n /\ 0 < xw (xa x n)) := by omega
   have he : ZjR x n = n := by rw [Zhw, if_neg (by omega)]
   rw [he, ZCY h hn h2 hno (by omega) rfl] at hf ⊢
   refine .inr (.inl ⟨rfl, (n : Int) :: nr (xa x n), ZiO.2 (.inl ((h.ri.out _).2 ⟨n, hn, h2, hw0, rfl⟩)), rfl, ?_⟩)
   rw [ZN5]
   show ZY _ (nr (xa x n)) = false
   rw [Za3]; exact hf
  ·have hwp : 0 < xw (xa x n) := by
    have hm := hmn; unfold ZbI at hm; simp [h2] at hm; have := hm.1.1.1; omega
   have hbeg : 0 <= Yd x 1 (xw (xa x n)) x.length := Classical.byContradiction fun q => (Zii hwp h.nf q).2.2 n hn rfl h2
   have hjl := (h.ri.beg _).2 hbeg
   have hwho := ZaK hjl
   have hmem : B.txs.getD (ixL (xw (xa x n)) B.txs) tx0 ∈ B.txs := by rw [Yv hjl]; exact ZOl hjl
   have t1 := (h.tx hmem).1
   have rd := ZdX hwp h.nf
   have hcom := ZfU hwp h.nf
   rw [hwho] at t1
   by_cases hl : 0 <= YA x (xw (xa x n)) (ZV (xa x n)) n
   ·rw [ZKg ⟨hl, hwp⟩] at hf ⊢
    exact .inl ⟨rfl, _, hmem, rfl, by rw [t1]; exact (rd.2 _).2 ⟨n, hn, h2, rfl, hl, hf, rfl⟩⟩
   ·have hno : ¬ (0 <= YA x (xw (xa x n)) (ZV (xa x n)) n /\ 0 < xw (xa x n)) := fun q => hl q.1
    have hrd : (n : Int) :: nr (xa x n) ∈ (B.txs.getD (ixL (xw (xa x n)) B.txs) tx0).rds := by rw [t1]; exact (rd.1 _).2 ⟨n, hn, h2, rfl, by omega, rfl⟩
    by_cases hc : 0 <= Yd x 5 (xw (xa x n)) x.length
    ·obtain ⟨k, hk, hkw⟩ := List.getElem_of_mem (Zw9 hc)
     rw [ZbG h] at hk
     have hkg : (ZJ x x.length).getD k 0 = xw (xa x n) := by
      rw [ZNY, ZN1 (by rw [ZbG h]; exact hk), ZNT]; exact hkw
     obtain ⟨k1, k2⟩ := h.kw hk
     have hix : B.kept.getD k 0 = ixL (xw (xa x n)) B.txs := by rw [<- hkg, <- k2, Zea h.wf.nd k1]
     obtain ⟨_, c2⟩ := h.ri.com k hk
     rw [hkg] at c2
     have he : ZjR x n = (Yd x 5 (xw (xa x n)) x.length).toNat := by rw [Zhw, if_pos hwp, if_pos hc]
     rw [he, ZCY h hn h2 hno Zsv c2] at hf ⊢
     refine .inr (.inr ⟨rfl, k, hk, _, by rw [hix]; exact hrd, rfl, ?_⟩)
     show ZY _ (nr (xa x n)) = false
     rw [Za3]; exact hf
    ·have he : ZjR x n = n := by rw [Zhw, if_pos hwp, if_neg hc]
     rw [he, ZCY h hn h2 hno (by omega) rfl] at hf ⊢
     refine .inr (.inl ⟨rfl, _, ZiO.2 (.inr ⟨_, hmem, by rw [t1, hcom]; omega, hrd⟩), rfl, ?_⟩)
     rw [ZN5]
     show ZY _ (nr (xa x n)) = false
     rw [Za3]; exact hf
theorem Zql (x : List Ent) : ∀ n : Nat, (0 <= (Zfl x n).1 -> ∃ m < n, Zfl x n = ((m : Int), (Zg8 x m (ZJ x (ZjR x m))).2) /\ xk (xa x m) = 2 /\ (Zg8 x m (ZJ x (ZjR x m))).1 = false /\ ∀ q < m, ¬ (xk (xa x q) = 2 /\ (Zg8 x q (ZJ x (ZjR x q))).1 = false)) ∧
  (¬ 0 <= (Zfl x n).1 -> ∀ q < n, ¬ (xk (xa x q) = 2 /\ (Zg8 x q (ZJ x (ZjR x q))).1 = false))
 | 0 => ⟨fun h => absurd h (by show ¬ (0 : Int) <= -1; omega), fun _ q hq => absurd hq (Nat.not_lt_zero q)⟩
 | n + 1 => by
  obtain ⟨i1, i2⟩ := Zql x n
  rw [Zp0]
  by_cases h0 : 0 <= (Zfl x n).1
  ·rw [if_pos h0]
   obtain ⟨m, hm, a⟩ := i1 h0
   exact ⟨fun _ => ⟨m, by omega, a⟩, fun q => absurd h0 q⟩
  ·rw [if_neg h0]
   have i2 := i2 h0
   by_cases h2 : xk (xa x n) = 2
   ·rw [if_pos h2]
    by_cases ht : (Zg8 x n (ZJ x (ZjR x n))).1 = true
    ·rw [if_pos ht]
     refine ⟨fun h => absurd h (by show ¬ (0 : Int) <= -1; omega), fun _ q hq => ?_⟩
     rcases ZNS q n with p | p
     ·exact i2 q p
     ·rw [show q = n by omega, ht]; simp
    ·rw [if_neg ht]
     exact ⟨fun _ => ⟨n, by omega, rfl, h2, by simpa using ht, i2⟩, fun h => absurd (show (0 : Int) <= n by omega) h⟩
   ·rw [if_neg h2]
    refine ⟨fun h => absurd h (by show ¬ (0 : Int) <= -1; omega), fun _ q hq => ?_⟩
    rcases ZNS q n with p | p
    ·exact i2 q p
    ·rw [show q = n by omega]; exact fun e => h2 e.1
theorem Zu3 {x : List Ent} {s : Int × Int} (h : YD (refF x) x.length s) : (if s.2 = 0 then (-1, 0) else s) = Zfl x x.length := by
 obtain ⟨a1, a2⟩ := Zql x x.length
 by_cases h0 : 0 <= (Zfl x x.length).1
 ·obtain ⟨m, hm, e, c, d, f⟩ := a1 h0
  have hr : refF x m (Zg8 x m (ZJ x (ZjR x m))).2 := ⟨m, hm, rfl, c, d, rfl⟩
  rcases h with ⟨rfl, hno⟩ | ⟨h1, h2, h3⟩
  ·exact absurd hr (hno _ _)
  ·rw [if_neg h1, e]
   obtain ⟨n, hn, e1, e2, e3, e4⟩ := h2
   have := h3 _ _ hr
   have hnm : n = m := by
    rcases Nat.lt_trichotomy n m with p | p | p
    ·exact absurd ⟨e2, e3⟩ (f n p)
    ·exact p
    ·omega
   subst hnm
   exact Prod.ext e1 e4
 ·have a2 := a2 h0
  rw [ZKa h0]
  rcases h with ⟨rfl, _⟩ | ⟨h1, ⟨n, hn, e1, e2, e3, e4⟩, h3⟩
  ·rfl
  ·exact absurd ⟨e2, e3⟩ (a2 n hn)
theorem ZE2 {x : List Ent} (hc : Zb5 x = 0) (hf : (ZjS x).fault < 0) : Go x (ZjS x) := by
 have hm : ∀ i < x.length, ZbI (xa x i) = true := by
  unfold Zb5 at hc
  split at hc
  ·cases hc
  ·split at hc
   ·rename_i q
    unfold Zi8 at q
    rw [Zl] at q; exact q
   ·cases hc
 obtain ⟨r1, r2⟩ := ZpG x x.length hm
 have h0 : ¬ 0 <= (ZcG x x.length).1 := fun q => by
  have := (r2 q).1
  unfold ZjS at hf
  omega
 exact ⟨⟨h0, hm⟩, r1 ⟨h0, hm⟩, ZhW x x.length⟩
theorem ZBj {x : List Ent} {B : Bk} (h : Go x B) {R : Ent} (hR : R ∈ ZmO B []) : ∃ n : Nat, n < x.length /\ xk (xa x n) = 2 /\ g0 R = n := by
 rcases ZiO.1 hR with hR | ⟨t, ht, hc, hR⟩
 ·obtain ⟨n, a, b, c, rfl⟩ := (h.ri.out R).1 hR
  exact ⟨n, a, b, rfl⟩
 ·obtain ⟨t1, t2⟩ := h.tx ht
  rw [t1] at hR
  obtain ⟨n, a, b, c, d, rfl⟩ := ((ZdX t2 h.nf).1 R).1 hR
  exact ⟨n, a, b, rfl⟩
theorem ZsC {x : List Ent} {B : Bk} (h : Go x B) {s0 : Int × Int} {L L0 : List (List Int)} (h0 : YD (ZBb B []) x.length s0) (hp : L0.Perm (ZmO B [])) (hs : SrtP L0 L) :
  let e := Zfa (ZY (stF B B.kept.length)) L x.length (YU B L s0 B.kept.length).1 (YU B L s0 B.kept.length).2
  (if e.2.2 = 0 then (-1, 0) else e.2) = Zfl x x.length := by
 have hmem : ∀ R, R ∈ L ↔ R ∈ ZmO B [] := fun R => (hs.1.mem_iff).trans hp.mem_iff
 have hget : ∀ q < L.length, ∃ n : Nat, n < x.length /\ xk (xa x n) = 2 /\ g0 (L.getD q []) = n := fun q hq => ZBj h ((hmem _).1 (by
  rw [ZNY, ZN1 hq, ZNT]; exact ZOl hq))
 have hN : ∀ q < L.length, g0 (L.getD q []) < x.length := fun q hq => by
  obtain ⟨n, a, _, b⟩ := hget q hq; omega
 have key : ∀ k ≤ B.kept.length, (YU B L s0 k).1 <= L.length /\ YD (fun i r => ZBb B [] i r \/ (r = 4 /\ ∃ q < (YU B L s0 k).1, i = g0 (L.getD q []) /\ ZY (stF B (ZJ x i.toNat).length) ((L.getD q []).drop 1) = false) \/ kepF B k i r) x.length (YU B L s0 k).2 ∧
   ∀ q, (YU B L s0 k).1 <= q -> q < L.length -> k <= (ZJ x (g0 (L.getD q [])).toNat).length := by
  intro k
  induction k with
  | zero =>
   intro _
   refine ⟨Nat.zero_le _, h0.congr fun i r => ⟨.inl, fun q => ?_⟩, fun q _ _ => Nat.zero_le _⟩
   rcases q with q | ⟨_, q, hq, _⟩ | ⟨_, q, hq, _⟩
   ·exact q
   ·exact absurd hq (Nat.not_lt_zero q)
   ·exact absurd hq (Nat.not_lt_zero q)
  | succ k ih =>
   intro hk
   obtain ⟨j1, j2, j3⟩ := ih (by omega)
   obtain ⟨t1, t2⟩ := h.tx (h.kt (k := k) (by omega))
   have hw := (h.kw (k := k) (by omega)).2
   obtain ⟨c1, c2⟩ := h.ri.com k (by omega)
   rw [<- hw] at c1 c2
   have hcom := ZfU t2 h.nf
   rw [<- t1] at hcom
   rw [<- hcom] at c1 c2
   have hcf := (Zb6 x 5 (B.txs.getD (B.kept.getD k 0) tx0).who x.length)
   rw [<- hcom] at hcf
   have hk5 := (hcf.2.2 c1).1
   have rd := ZdX t2 h.nf
   rw [<- t1] at rd
   obtain ⟨a1, a2, a3, a4, a5⟩ := ZjI (f := ZY (stF B k)) (place := (B.txs.getD (B.kept.getD k 0) tx0).com) hs.2 hN (L.length - (YU B L s0 k).1) (YU B L s0 k).1 rfl j1 j2
   have e0 : YU B L s0 (k + 1) = ((Zfa (ZY (stF B k)) L (B.txs.getD (B.kept.getD k 0) tx0).com (YU B L s0 k).1 (YU B L s0 k).2).1, Zjm (ZY (stF B k)) (Zfa (ZY (stF B k)) L (B.txs.getD (B.kept.getD k 0) tx0).com (YU B L s0 k).1 (YU B L s0 k).2).2 (B.txs.getD (B.kept.getD k 0) tx0).rds (B.txs.getD (B.kept.getD k 0) tx0).rds.length) := rfl
   rw [e0]
   have e1 : Zso (ZY (stF B k)) L (B.txs.getD (B.kept.getD k 0) tx0).com (L.length - (YU B L s0 k).1) (YU B L s0 k).1 (YU B L s0 k).2 = Zfa (ZY (stF B k)) L (B.txs.getD (B.kept.getD k 0) tx0).com (YU B L s0 k).1 (YU B L s0 k).2 := rfl
   rw [e1] at a1 a2 a3 a4 a5
   generalize Zfa (ZY (stF B k)) L (B.txs.getD (B.kept.getD k 0) tx0).com (YU B L s0 k).1 (YU B L s0 k).2 = e at *
   have hrd : ∀ R ∈ (B.txs.getD (B.kept.getD k 0) tx0).rds, g0 R < x.length := fun R hR => by
    obtain ⟨n, a, b, c, d, rfl⟩ := (rd.1 R).1 hR
    show (n : Int) < _; omega
   have a6 := ZoV a5 (ZY (stF B k)) _ hrd _ (ZNO _)
   refine ⟨a2, a6.congr fun i r => ?_, fun q q1 q2 => ?_⟩
   ·rw [List.take_length]
    have kq : ∀ q, (YU B L s0 k).1 <= q -> q < e.1 -> (ZJ x (g0 (L.getD q [])).toNat).length = k := fun q q1 q2 => by
     have b1 := j3 q q1 (by omega)
     have b2 := a3 q q1 q2
     have b3 := (Zfm x (m := (g0 (L.getD q [])).toNat) (n := (B.txs.getD (B.kept.getD k 0) tx0).com.toNat) (by omega)).1
     omega
    constructor
    ·rintro (((b | ⟨b, q, c, d⟩ | ⟨b, k', c, d⟩) | ⟨b, q, c1, c2, c3, c4⟩) | ⟨b, R, c, d⟩)
     ·exact .inl b
     ·exact .inr (.inl ⟨b, q, by omega, d⟩)
     ·exact .inr (.inr ⟨b, k', by omega, d⟩)
     ·exact .inr (.inl ⟨b, q, c2, c3, by rw [c3, kq q c1 c2]; exact c4⟩)
     ·exact .inr (.inr ⟨b, k, by omega, R, c, d⟩)
    ·rintro (b | ⟨b, q, c, d⟩ | ⟨b, k', c, R, d, g⟩)
     ·exact .inl (.inl (.inl b))
     ·rcases ZNS q (YU B L s0 k).1 with p | p
      ·exact .inl (.inl (.inr (.inl ⟨b, q, p, d⟩)))
      ·refine .inl (.inr ⟨b, q, p, c, d.1, ?_⟩)
       have := d.2
       rw [d.1, kq q p c] at this; exact this
     ·rcases ZNS k' k with p | p
      ·exact .inl (.inl (.inr (.inr ⟨b, k', p, R, d, g⟩)))
      ·have : k' = k := by omega
       subst this
       exact .inr ⟨b, R, d, g⟩
   ·have b1 := a4 q q1 q2
    obtain ⟨n, n1, n2, n3⟩ := hget q q2
    rw [n3] at b1 ⊢
    rw [ZN5]
    have hne : n ≠ (B.txs.getD (B.kept.getD k 0) tx0).com.toNat := fun e => by rw [<- e] at hk5; omega
    have b3 := (Zfm x (m := (B.txs.getD (B.kept.getD k 0) tx0).com.toNat + 1) (n := n) (by omega)).1
    have b4 : ZJ x ((B.txs.getD (B.kept.getD k 0) tx0).com.toNat + 1) = ZJ x (B.txs.getD (B.kept.getD k 0) tx0).com.toNat ++ [xw (xa x (B.txs.getD (B.kept.getD k 0) tx0).com.toNat)] := by rw [ZbC, if_pos hk5]
    rw [b4, ZN3, ZNM] at b3
    omega
 obtain ⟨j1, j2, j3⟩ := key B.kept.length (ZNO _)
 obtain ⟨a1, a2, a3, a4, a5⟩ := ZjI (f := ZY (stF B B.kept.length)) (place := (x.length : Int)) hs.2 hN (L.length - (YU B L s0 B.kept.length).1) (YU B L s0 B.kept.length).1 rfl j1 j2
 have e1 : Zso (ZY (stF B B.kept.length)) L (x.length : Int) (L.length - (YU B L s0 B.kept.length).1) (YU B L s0 B.kept.length).1 (YU B L s0 B.kept.length).2 = Zfa (ZY (stF B B.kept.length)) L (x.length : Int) (YU B L s0 B.kept.length).1 (YU B L s0 B.kept.length).2 := rfl
 rw [e1] at a1 a2 a3 a4 a5
 show (if (Zfa (ZY (stF B B.kept.length)) L (x.length : Int) (YU B L s0 B.kept.length).1 (YU B L s0 B.kept.length).2).2.2 = 0 then ((-1 : Int), (0 : Int)) else _) = _
 generalize Zfa (ZY (stF B B.kept.length)) L (x.length : Int) (YU B L s0 B.kept.length).1 (YU B L s0 B.kept.length).2 = e at *
 have hall : e.1 = L.length := by
  rcases ZNS e.1 L.length with p | p
  ·have := a4 e.1 (ZNO _) p
   have := hN e.1 p
   omega
  ·omega
 have kq : ∀ q, (YU B L s0 B.kept.length).1 <= q -> q < L.length -> (ZJ x (g0 (L.getD q [])).toNat).length = B.kept.length := fun q q1 q2 => by
  have b1 := j3 q q1 q2
  have b2 := hN q q2
  have b3 := (Zfm x (m := (g0 (L.getD q [])).toNat) (n := x.length) (by omega)).1
  rw [ZbG h] at b3
  omega
 refine Zu3 (a5.congr fun i r => ?_)
 rw [<- ZJk h, hall]
 have look : ∀ R, R ∈ L -> ∃ q, q < L.length /\ L.getD q [] = R := fun R hR => by
  obtain ⟨q, hq, rfl⟩ := List.getElem_of_mem hR
  exact ⟨q, hq, by rw [ZNY, ZN1 hq, ZNT]⟩
 have lget : ∀ q, q < L.length -> L.getD q [] ∈ L := fun q hq => by
  rw [ZNY, ZN1 hq, ZNT]; exact ZOl hq
 constructor
 ·rintro ((b | ⟨b, q, c, d⟩ | b) | ⟨b, q, c1, c2, c3, c4⟩)
  ·exact .inl b
  ·exact .inr (.inl ⟨b, _, (hmem _).1 (lget q (by omega)), d⟩)
  ·exact .inr (.inr b)
  ·exact .inr (.inl ⟨b, _, (hmem _).1 (lget q c2), c3, by rw [c3, kq q c1 c2]; exact c4⟩)
 ·rintro (b | ⟨b, R, c, d⟩ | b)
  ·exact .inl (.inl b)
  ·obtain ⟨q, hq, rfl⟩ := look R ((hmem _).2 c)
   rcases ZNS q (YU B L s0 B.kept.length).1 with p | p
   ·exact .inl (.inr (.inl ⟨b, q, p, d⟩))
   ·refine .inr ⟨b, q, p, hq, d.1, ?_⟩
    have := d.2
    rw [d.1, kq q p hq] at this; exact this
  ·exact .inl (.inr (.inr b))
theorem ZBV {B : Bk} {m : List (Int × Int)} (h : ∀ t ∈ B.txs, Zx m t.who = true) (n : Int) : YD (ZBb B m) n (n, 0) := .inl ⟨rfl, fun i r ⟨_, t, ht, q, _⟩ => by rw [h t ht] at q; cases q⟩
theorem ZBi {B : Bk} {m : List (Int × Int)} (h : ∀ t ∈ B.txs, Zx m t.who = true) : ZmO B m = B.out := by
 unfold ZmO
 rw [List.filter_eq_nil_iff.2 (fun t ht => by rw [h t ht]; simp)]
 simp
theorem ZNi {L : List Tx} (hn : (L.map (·.who)).Nodup) {k : Int} {j : Nat} (hj : ixL k L = j) {t : Tx} (ht : t ∈ L) (hw : t.who = k) : t = L.getD j tx0 := by
 obtain ⟨i, hi, rfl⟩ := List.getElem_of_mem ht
 have := Zea hn hi
 rw [Yv hi, hw, hj] at this
 rw [this, Yv hi]
theorem ZCF {B : Bk} {left : List (Int × Int)} (hl : (left.map (·.1)).Nodup) (hn : (B.txs.map (·.who)).Nodup) {k : Int} {j : Nat} (hj : ixL k B.txs = j) (hjl : j < B.txs.length) (i r : Int) :
  ZBb B (Y0 left k) i r ↔ ZBb B left i r \/ (r = 3 /\ i ∈ (B.txs.getD j tx0).bad) := by
 have hm : B.txs.getD j tx0 ∈ B.txs := by rw [Yv hjl]; exact ZOl hjl
 have hw : (B.txs.getD j tx0).who = k := by rw [<- hj] at hjl ⊢; exact ZaK hjl
 constructor
 ·rintro ⟨a, t, ht, b, c⟩
  rw [mhas_del' hl] at b
  by_cases q : k = t.who
  ·right; rw [ZNi hn hj ht q.symm] at c; exact ⟨a, c⟩
  ·rw [if_neg q] at b; exact .inl ⟨a, t, ht, b, c⟩
 ·rintro (⟨a, t, ht, b, c⟩ | ⟨a, c⟩)
  ·refine ⟨a, t, ht, ?_, c⟩
   rw [mhas_del' hl]; split
   ·rfl
   ·exact b
  ·exact ⟨a, _, hm, by rw [mhas_del' hl, if_pos hw.symm], c⟩
theorem ZkS {left : List (Int × Int)} (hl : (left.map (·.1)).Nodup) {k : Int} : ∀ {l : List Tx}, (∀ t ∈ l, t.who ≠ k) -> l.filter (fun t => !Zx (Y0 left k) t.who && decide (t.com < 0)) = l.filter fun t => !Zx left t.who && decide (t.com < 0) := fun {l} h =>
 List.filter_congr fun t ht => by rw [mhas_del' hl, if_neg (fun q => h t ht q.symm)]
theorem ZDu {B : Bk} {left : List (Int × Int)} (hl : (left.map (·.1)).Nodup) (hn : (B.txs.map (·.who)).Nodup) {k : Int} {j : Nat} (hj : ixL k B.txs = j) (hjl : j < B.txs.length) (hk : Zx left k = true) :
  (ZmO B (Y0 left k)).Perm (ZmO B left ++ if (B.txs.getD j tx0).com < 0 then (B.txs.getD j tx0).rds else []) := by
 have hw : (B.txs.getD j tx0).who = k := by rw [<- hj] at hjl ⊢; exact ZaK hjl
 have e := Zjp (d := tx0) hjl
 have h1 : ∀ t ∈ B.txs.take j, t.who ≠ k := fun t ht q => by
  obtain ⟨i, hi, rfl⟩ := List.getElem_of_mem ht
  rw [ZN0] at hi
  rw [List.getElem_take] at q
  have := Zea hn (j := i) (by omega)
  rw [Yv (by omega), q, hj] at this; omega
 have h2 : ∀ t ∈ B.txs.drop (j + 1), t.who ≠ k := fun t ht q => by
  obtain ⟨i, hi, rfl⟩ := List.getElem_of_mem ht
  rw [ZOc] at hi
  rw [List.getElem_drop] at q
  have := Zea hn (j := j + 1 + i) (by omega)
  rw [Yv (by omega), q, hj] at this; omega
 unfold ZmO
 have s1 := ZkS hl h1
 have s2 := ZkS hl h2
 generalize hA : B.txs.take j = A at *
 generalize hC : B.txs.drop (j + 1) = C at *
 generalize hT : B.txs.getD j tx0 = t at *
 rw [e, List.filter_append, List.filter_append, List.filter_append, List.filter_append, s1, s2]
 have f1 : [t].filter (fun t => !Zx left t.who && decide (t.com < 0)) = [] := by simp [hw, hk]
 have f2 : [t].filter (fun t => !Zx (Y0 left k) t.who && decide (t.com < 0)) = if t.com < 0 then [t] else [] := by
  have : Zx (Y0 left k) t.who = false := by rw [mhas_del' hl, if_pos hw.symm]
  by_cases q : t.com < 0
  ·rw [if_pos q]; simp [this, q]
  ·rw [if_neg q]; simp [this, q]
 rw [f1, f2]
 simp only [List.flatMap_append, List.nil_append]
 by_cases q : t.com < 0
 ·rw [if_pos q, if_pos q, List.flatMap_singleton, ZOm, ZOm]
  refine List.Perm.append_left _ (List.Perm.append_left _ ?_)
  exact List.perm_append_comm
 ·rw [if_neg q, if_neg q]; simp
theorem ZHJ {l : List Tx} {n : Nat} (h : ∀ t ∈ l, t.rds.length <= n) : (l.flatMap (·.rds)).length <= l.length * n := by
 induction l with
 | nil => simp
 | cons t l ih =>
  rw [List.flatMap_cons, ZN3, ZOi]
  have a := ih fun s hs => h s (List.mem_cons.2 (.inr hs))
  have b := h t (List.mem_cons.2 (.inl rfl))
  have : (l.length + 1) * n = l.length * n + n := by rw [Nat.add_mul, Nat.one_mul]
  omega
theorem ZGn {B : Bk} {n : Nat} (h : WfB B n) (hn : n <= 400) (left : List (Int × Int)) : (ZmO B left).length <= 160400 := by
 unfold ZmO
 rw [ZN3]
 have a := h.ol
 have b := ZHJ (l := B.txs.filter fun t => !Zx left t.who && decide (t.com < 0)) (n := n) (fun t ht => (h.rl t (List.mem_filter.1 ht).1).1)
 have c : (B.txs.filter fun t => !Zx left t.who && decide (t.com < 0)).length <= n := Nat.le_trans (List.length_filter_le _ _) h.lt
 have d := Nat.mul_le_mul c (ZNO n)
 have e := Nat.mul_le_mul hn hn
 omega
theorem ZKI {x : List Ent} {B : Bk} (h : Go x B) {t : Tx} (ht : t ∈ B.txs) : ∀ i ∈ t.bad, i < x.length := fun i hi => by
 obtain ⟨t1, t2⟩ := h.tx ht
 rw [t1] at hi
 obtain ⟨n, a, _, _, _, _, rfl⟩ := ((ZdX t2 h.nf).2 i).1 hi
 omega
theorem ZD1 {m : List (Int × Int)} {f : Int -> Bool × (List UInt8 × Bool)} (h : ZgU m f) (s : Int × Int) (l : List (List Int)) : ∀ j, Zjm (ZZ m) s l j = Zjm (ZY f) s l j
 | 0 => rfl
 | j + 1 => by
  unfold Zjm
  rw [ZD1 h s l j, ZmG h]
theorem ZLQ {m : List (Int × Int)} {f : Int -> Bool × (List UInt8 × Bool)} (h : ZgU m f) (L : List (List Int)) (pl : Int) (p : Nat) (s : Int × Int) : Zfa (ZZ m) L pl p s = Zfa (ZY f) L pl p s := by
 have : ZZ m = ZY f := by funext r; exact ZmG h r
 rw [this]
theorem ZiR {x : List Ent} (h : Zb5 x = 0) : x.length <= 400 := by
 unfold Zb5 at h
 split at h
 ·cases h
 ·omega
theorem ZFw {x : List Ent} (h : Zb5 x ≠ 0) : Zkn x = (0, 0, Zb5 x) := by unfold Zkn; rw [if_pos h]
theorem ZlP {x : List Ent} (h : Zb5 x = 0) (hf : 0 <= (Z4 x x.length).fault) : Zkn x = ((Z4 x x.length).fault, (Z4 x x.length).what, 0) := by
 have hm : ∀ i < x.length, ZbI (xa x i) = true := by
  have hc := h
  unfold Zb5 at hc
  split at hc
  ·cases hc
  ·split at hc
   ·rename_i q
    unfold Zi8 at q
    rw [Zl] at q; exact q
   ·cases hc
 obtain ⟨r1, r2⟩ := ZpG x x.length hm
 have h0 : 0 <= (ZcG x x.length).1 := Classical.byContradiction fun q => by
  have := (r1 ⟨q, hm⟩).ft
  omega
 obtain ⟨a, b⟩ := r2 h0
 unfold Zkn
 rw [if_neg (fun q => q h), if_pos h0, a, b]
theorem ZBQ {x : List Ent} (h : Zb5 x = 0) (hg : Go x (ZjS x)) : Zkn x = ((Zfl x x.length).1, (Zfl x x.length).2, 0) := by
 unfold Zkn
 rw [if_neg (fun q => q h), if_neg hg.nf.1]
theorem Zz1 {R : List (List Int)} {ks : List Nat} {n : Nat} (hn : n < ks.length) : ((Zbh R ks).getD n []).getD 0 0 = g0 (R.getD (ks.getD n 0) []) := by
 unfold Zbh
 rw [ZNY (l := ks.map _), ZNU, ZN1 hn, ZNY (l := ks), ZN1 hn]; rfl
theorem map_nil (B : Bk) : ZgU [] (stF B 0) := fun q => ⟨rfl, rfl⟩
/-! ### Keys in order -/
def txt (r : List Int) : List UInt8 := YW (g0 r).toNat
def ZBd (s : List UInt8) : List Int := [((Zs s : Nat) : Int)]
def leT (x y : List UInt8) : Bool := decide (x <= y)
def Zsp (l : List (List UInt8)) : List (List UInt8) := l.mergeSort leT
def Zhm (R : List (List Int)) : List (List Int) := (Zsp (R.map txt)).map ZBd
def Zsb (m : List (Int × Int)) : List (List Int) := Zhm (m.map fun p => [p.1])
def canM (m : List (Int × Int)) : Prop := (m.map (·.1)).Nodup /\ ∀ p ∈ m, ∃ s : List UInt8, p.1 = (Zs s : Nat)
def ZFR (m left : List (Int × Int)) (R : List (List Int)) : Prop := (R.map g0 ++ left.map (·.1)).Perm (m.map (·.1))
theorem ZAg (s : List UInt8) : txt (ZBd s) = s := by show YW (Int.toNat (Zs s : Nat)) = s; rw [ZN5, Zo]
theorem ZJY : ∀ a b c : List UInt8, leT a b = true -> leT b c = true -> leT a c = true := fun a b c h1 h2 => decide_eq_true (List.le_trans (of_decide_eq_true h1) (of_decide_eq_true h2))
theorem ZGm : ∀ a b : List UInt8, (leT a b || leT b a) = true := fun a b => by
 rw [Bool.or_eq_true]
 rcases List.le_total a b with h | h
 ·exact .inl (decide_eq_true h)
 ·exact .inr (decide_eq_true h)
theorem ZbO (l : List (List UInt8)) : (Zsp l).Perm l := List.mergeSort_perm l leT
theorem ZmQ (l : List (List UInt8)) : (Zsp l).Pairwise fun a b => a <= b := (List.pairwise_mergeSort ZJY ZGm l).imp fun h => of_decide_eq_true h
theorem Zq7 : ∀ {a b : List (List UInt8)}, a.Perm b -> (a.Pairwise fun x y => x <= y) -> (b.Pairwise fun x y => x <= y) -> a = b := fun h h1 h2 =>
 h.eq_of_pairwise (fun x y _ _ h3 h4 => List.le_antisymm h3 h4) h1 h2
theorem Zz5 {a b : List (List UInt8)} (h : a.Perm b) : Zsp a = Zsp b := Zq7 ((ZbO a).trans (h.trans (ZbO b).symm)) (ZmQ a) (ZmQ b)
theorem Zj5 (R : List (List Int)) : (Zhm R).length = R.length := by
 unfold Zhm; rw [ZN8, (ZbO _).length_eq, ZN8]
theorem ZpI (m : List (Int × Int)) : (Zsb m).length = m.length := by unfold Zsb; rw [Zj5, ZN8]
theorem ZH0 {m : List (Int × Int)} {R : List (List Int)} (h : ZFR m [] R) : Zhm R = Zsb m := by
 unfold Zsb Zhm
 congr 1
 refine Zz5 ?_
 have h1 : (R.map g0).Perm (m.map (·.1)) := by simpa [ZFR] using h
 have := h1.map fun k : Int => YW k.toNat
 rw [List.map_map, List.map_map] at this
 rw [List.map_map]
 exact this
theorem ZDc {m left : List (Int × Int)} {R : List (List Int)} {k : Int} (h : ZFR m left R) (hk : Zx left k = true) : ZFR m (Y0 left k) (R ++ [[k]]) := by
 unfold ZFR at h ⊢
 refine List.Perm.trans ?_ h
 rw [ZOe, ZOm]
 refine List.Perm.append_left _ ?_
 have : ∀ l : List (Int × Int), Zx l k = true -> ((k :: (Y0 l k).map (·.1))).Perm (l.map (·.1)) := by
  intro l
  induction l with
  | nil => intro q; cases q
  | cons p l ih =>
   obtain ⟨a, b⟩ := p
   intro q
   by_cases e : a = k
   ·have e1 : Y0 ((a, b) :: l) k = l := by show (if a = k then l else _) = l; rw [if_pos e]
    rw [e1, <- e]; exact List.Perm.refl _
   ·have e1 : Y0 ((a, b) :: l) k = (a, b) :: Y0 l k := by show (if a = k then l else _) = _; rw [if_neg e]
    rw [e1]
    have q2 : Zx l k = true := by
     have : (if a = k then true else Zx l k) = true := q
     rw [if_neg e] at this; exact this
    exact (List.Perm.swap _ _ _).trans ((ih q2).cons _)
 exact this left hk
/-! ### The pairs -/
abbrev Kf := List UInt8 -> List UInt8 × Bool
def rowP (f : Kf) (s : List UInt8) : List Int := [((Zs s : Nat) : Int), ((Zs (f s).1 : Nat) : Int)]
def ZjT (f : Kf) (R : List (List Int)) : Nat -> List (List Int)
 | 0 => []
 | n + 1 => if (f (txt (R.getD n []))).2 = true then ZjT f R n ++ [rowP f (txt (R.getD n []))] else ZjT f R n
def mvF (m : List (Int × Int)) : Kf := fun s => vw (YC 0 m (Zs s : Nat))
def leF (x : List Ent) (ks : List Int) : Kf := fun s => ZcY x ks s ks.length
theorem Znx (f : Kf) (l : List (List UInt8)) : ∀ n ≤ l.length, ZjT f (l.map ZBd) n = ((l.take n).filter fun s => (f s).2).map (rowP f)
 | 0, _ => by simp [ZjT]
 | n + 1, hn => by
  have ih := Znx f l n (by omega)
  have e : txt ((l.map ZBd).getD n []) = l[n] := by
   rw [ZNY, ZNU, ZN1 (by omega)]; exact ZAg _
  unfold ZjT
  rw [e, ih, List.take_succ_eq_append_getElem (by omega), List.filter_append, ZOe]
  by_cases h : (f l[n]).2 = true
  ·rw [if_pos h]; simp [h]
  ·rw [if_neg h]; simp [h]
theorem ZrU {f g : Kf} {a b : List (List UInt8)} (ha : a.Pairwise fun x y => x <= y) (hb : b.Pairwise fun x y => x <= y) (na : a.Nodup) (nb : b.Nodup)
  (hm : ∀ s, (s ∈ a /\ (f s).2 = true) ↔ (s ∈ b /\ (g s).2 = true)) (he : ∀ s ∈ a, (f s).2 = true -> (f s).1 = (g s).1) : ZjT f (a.map ZBd) a.length = ZjT g (b.map ZBd) b.length := by
 rw [Znx f a _ (ZNO _), Znx g b _ (ZNO _), List.take_length, List.take_length]
 have e : (a.filter fun s => (f s).2) = b.filter fun s => (g s).2 := by
  refine Zq7 ?_ (ha.filter _) (hb.filter _)
  rw [List.perm_ext_iff_of_nodup (na.filter _) (nb.filter _)]
  intro s
  rw [List.mem_filter, List.mem_filter]; exact hm s
 rw [<- e]
 refine List.map_congr_left fun s hs => ?_
 rw [List.mem_filter] at hs
 unfold rowP
 rw [he s hs.1 hs.2]
/-! ### The keys that were written -/
def ZDS : List (List UInt8) -> List UInt8 -> List (List UInt8)
 | [], k => [k]
 | a :: l, k => if Op.bytesLess a k = true then a :: ZDS l k else if a = k then a :: l else k :: a :: l
def ZrX (x : List Ent) : Nat -> List (List UInt8)
 | 0 => []
 | n + 1 => if xk (xa x n) = 3 then ZDS (ZrX x n) (ZV (xa x n)) else ZrX x n
theorem Zow (k s : List UInt8) : ∀ l, s ∈ ZDS l k ↔ s ∈ l \/ s = k
 | [] => by simp [ZDS]
 | a :: l => by
  unfold ZDS
  split
  ·rw [List.mem_cons, List.mem_cons, Zow k s l]; exact or_assoc.symm
  ·split
   ·rename_i h; subst h; simp only [List.mem_cons]; constructor
    ·exact fun h => .inl h
    ·rintro (h | h); exact h; exact .inl h
   ·simp only [List.mem_cons]; constructor
    ·rintro (h | h); exact .inr h; exact .inl h
    ·rintro (h | h); exact .inr h; exact .inl h
theorem ZtY (k : List UInt8) : ∀ {l : List (List UInt8)}, (l.Pairwise fun a b => a < b) -> (ZDS l k).Pairwise fun a b => a < b
 | [], _ => by simp [ZDS]
 | a :: l, h => by
  rw [List.pairwise_cons] at h
  unfold ZDS
  split
  ·rename_i hl
   rw [Go.Proofs.bytesLess_eq, decide_eq_true_eq] at hl
   refine List.pairwise_cons.2 ⟨fun b hb => ?_, ZtY k h.2⟩
   rcases (Zow k b l).1 hb with hb | rfl
   ·exact h.1 b hb
   ·exact hl
  ·split
   ·exact List.pairwise_cons.2 h
   ·rename_i hl hne
    rw [Go.Proofs.bytesLess_eq, decide_eq_true_eq] at hl
    have hka : k < a := by
     apply Decidable.byContradiction
     intro q
     exact hne (List.le_antisymm (List.not_lt.1 q) (List.not_lt.1 hl))
    refine List.pairwise_cons.2 ⟨fun b hb => ?_, List.pairwise_cons.2 h⟩
    rcases List.mem_cons.1 hb with rfl | hb
    ·exact hka
    ·exact List.lt_trans hka (h.1 b hb)
theorem Zfo (x : List Ent) : ∀ n, (ZrX x n).Pairwise fun a b => a < b
 | 0 => List.Pairwise.nil
 | n + 1 => by
  unfold ZrX
  split
  ·exact ZtY _ (Zfo x n)
  ·exact Zfo x n
theorem ZJa (x : List Ent) (n : Nat) : (ZrX x n).Nodup := (Zfo x n).imp fun {a b} h e => by subst e; exact List.lt_irrefl _ h
theorem ZjN (x : List Ent) (s : List UInt8) : ∀ n, s ∈ ZrX x n ↔ ∃ i < n, xk (xa x i) = 3 /\ ZV (xa x i) = s
 | 0 => by simp [ZrX]
 | n + 1 => by
  unfold ZrX
  split
  ·rename_i h
   rw [Zow, ZjN x s n]
   constructor
   ·rintro (⟨i, hi, a⟩ | rfl)
    ·exact ⟨i, by omega, a⟩
    ·exact ⟨n, by omega, h, rfl⟩
   ·rintro ⟨i, hi, a⟩
    rcases ZNS i n with q | q
    ·exact .inl ⟨i, q, a⟩
    ·have : i = n := by omega
     subst this; exact .inr a.2.symm
  ·rename_i h
   rw [ZjN x s n]
   constructor
   ·rintro ⟨i, hi, a⟩; exact ⟨i, by omega, a⟩
   ·rintro ⟨i, hi, a⟩
    rcases ZNS i n with q | q
    ·exact ⟨i, q, a⟩
    ·have : i = n := by omega
     subst this; exact absurd a.1 h
def ZMv (x : List Ent) : List (List Int) := ZjT (leF x (ZJ x x.length)) ((ZrX x x.length).map ZBd) (ZrX x x.length).length
def Zqn (x : List Ent) : Int := if Zb5 x ≠ 0 then Zb5 x else if 0 <= (ZcG x x.length).1 then 280 else 0
def finR' (x : List Ent) : List (List Int) := if Zqn x = 0 then ZMv x else []
theorem Zoy {x : List Ent} {w : Int} {k : List UInt8} : ∀ {n : Nat}, 0 <= YA x w k n -> (YA x w k n).toNat < n /\ ZV (xa x (YA x w k n).toNat) = k
 | 0, h => absurd h (by show ¬ (0 : Int) <= -1; omega)
 | n + 1, h => by
  rw [ZbA] at h ⊢
  split
  ·rename_i q; exact ⟨by omega, by rw [ZN5]; exact q.2.2⟩
  ·rename_i q; rw [if_neg q] at h
   have := Zoy h
   exact ⟨by omega, this.2⟩
theorem ZzG {x : List Ent} {ks : List Int} {k : List UInt8} : ∀ {n : Nat}, (ZcY x ks k n).2 = true -> k ∈ ZrX x x.length
 | 0, h => by cases h
 | n + 1, h => by
  rw [ZcV] at h
  by_cases hl : 0 <= YA x (ks.getD n 0) k x.length
  ·rw [if_pos hl] at h
   have := Zoy hl
   exact (ZjN x k _).2 ⟨_, this.1, of_decide_eq_true h, this.2⟩
  ·rw [if_neg hl] at h; exact ZzG h
theorem Zrn {m : List (Int × Int)} {k : Int} : Zx m k = true ↔ k ∈ m.map (·.1) := by
 induction m with
 | nil => simp [Zx]
 | cons p l ih =>
  obtain ⟨a, b⟩ := p
  show (if a = k then true else Zx l k) = true ↔ _
  by_cases e : a = k
  ·simp [e]
  ·rw [if_neg e, ih]; simp [Ne.symm e]
theorem ZKy {x : List Ent} {B : Bk} (h : Go x B) {m : List (Int × Int)} (hm : ZgU m (stF B B.kept.length)) (hc : canM m) : ZjT (mvF m) (Zsb m) (Zsb m).length = ZMv x := by
 unfold ZMv
 have e1 : Zsb m = (Zsp ((m.map fun p => [p.1]).map txt)).map ZBd := rfl
 have e2 : (m.map fun p => [p.1]).map txt = (m.map (·.1)).map fun k => YW k.toNat := by rw [List.map_map, List.map_map]; rfl
 have hin : ∀ s, s ∈ Zsp ((m.map fun p => [p.1]).map txt) ↔ Zx m (Zs s : Nat) = true := by
  intro s
  rw [(ZbO _).mem_iff, e2, Zrn, List.mem_map]
  constructor
  ·rintro ⟨k, hk, rfl⟩
   obtain ⟨p, hp, rfl⟩ := List.mem_map.1 hk
   obtain ⟨t, ht⟩ := hc.2 p hp
   rw [ht, ZN5, Zo, <- ht]; exact hk
  ·intro hk; exact ⟨_, hk, by rw [ZN5, Zo]⟩
 have hks : ∀ s : List UInt8, B.kept.length = (ZJ x x.length).length := fun _ => (ZbG h).symm
 have hag : ∀ s : List UInt8, Zx m (Zs s : Nat) = true -> mvF m s = leF x (ZJ x x.length) s \/ False := by
  intro s hs
  have a := hm (Zs s : Nat)
  rw [hs] at a
  rcases ZpZ h s B.kept.length (ZNO _) with q | q
  ·rw [q.1] at a; exact absurd a.1 (by simp)
  ·rw [q.1] at a
   left
   unfold mvF leF
   rw [a.2, <- hks s]
 rw [e1, ZN8]
 refine ZrU (ZmQ _) ((Zfo x _).imp fun h => List.le_of_lt h) ?_ (ZJa x _) ?_ ?_
 ·rw [(ZbO _).nodup_iff, e2]
  refine List.pairwise_map.2 ?_
  have hn := hc.1
  have hca : ∀ k : Int, k ∈ m.map (·.1) -> ∃ s : List UInt8, k = (Zs s : Nat) := fun k hk => by
   obtain ⟨p, hp, rfl⟩ := List.mem_map.1 hk; exact hc.2 p hp
  refine List.Pairwise.imp_of_mem (fun {a b} ha hb hab e => hab ?_) hn
  obtain ⟨s, rfl⟩ := hca a ha
  obtain ⟨t, rfl⟩ := hca b hb
  rw [ZN5, ZN5, Zo, Zo] at e
  rw [e]
 ·intro s
  rw [hin]
  constructor
  ·rintro ⟨a, b⟩
   rcases hag s a with e | e
   ·rw [e] at b; exact ⟨ZzG b, b⟩
   ·exact e.elim
  ·rintro ⟨_, b⟩
   have hs : Zx m (Zs s : Nat) = true := by
    have a := hm (Zs s : Nat)
    rcases ZpZ h s B.kept.length (ZNO _) with q | q
    ·unfold leF at b
     rw [<- hks s, q.2] at b; cases b
    ·rw [q.1] at a; exact a.1
   refine ⟨hs, ?_⟩
   rcases hag s hs with e | e
   ·rw [e]; exact b
   ·exact e.elim
 ·intro s hs hb
  rcases hag s ((hin s).1 hs) with e | e
  ·rw [e]
  ·exact e.elim
end
end Go.Proofs.YtidlngnhjffepaaGreat
namespace Go.Proofs
open Go.Shelf
def Tryz.lays190_ren : Go.Shelf.Ren := ⟨fun | 190 => 57 | 125 => 74 | 258 => 77 | 128 => 94 | 129 => 95 | 302 => 96 | 303 => 97 | 304 => 98 | 305 => 99 | 306 => 100 | 307 => 101 | 308 => 102 | 309 => 103 | 310 => 104 | 333 => 119 | 329 => 115 | 330 => 116 | 334 => 120 | 335 => 121 | 336 => 122 | 344 => 127 | n => n, fun | 31 => 70 | 9 => 9 | 3 => 3 | 46 => 126 | 0 => 0 | 51 => 148 | 53 => 150 | 4 => 4 | 183 => 141 | 182 => 140 | 131 => 145 | 5 => 5 | 218 => 163 | 222 => 167 | 228 => 174 | 229 => 75 | n => n, fun | n => n⟩
theorem Tryz.lays190 : Go.Proofs.Lays.n190 Tryz.prog Tryz.lays190_ren := {
 mixed := by kernel_rfl
 f125 := Tryz.func74.trans (congrArg some (by kernel_rfl))
 f128 := Tryz.func94.trans (congrArg some (by kernel_rfl))
 f129 := Tryz.func95.trans (congrArg some (by kernel_rfl))
 f190 := Tryz.func57.trans (congrArg some (by kernel_rfl))
 f258 := Tryz.func77.trans (congrArg some (by kernel_rfl))
 f302 := Tryz.func96.trans (congrArg some (by kernel_rfl))
 f303 := Tryz.func97.trans (congrArg some (by kernel_rfl))
 f304 := Tryz.func98.trans (congrArg some (by kernel_rfl))
 f305 := Tryz.func99.trans (congrArg some (by kernel_rfl))
 f306 := Tryz.func100.trans (congrArg some (by kernel_rfl))
 f307 := Tryz.func101.trans (congrArg some (by kernel_rfl))
 f308 := Tryz.func102.trans (congrArg some (by kernel_rfl))
 f309 := Tryz.func103.trans (congrArg some (by kernel_rfl))
 f310 := Tryz.func104.trans (congrArg some (by kernel_rfl))
 f329 := Tryz.func115.trans (congrArg some (by kernel_rfl))
 f330 := Tryz.func116.trans (congrArg some (by kernel_rfl))
 f333 := Tryz.func119.trans (congrArg some (by kernel_rfl))
 f334 := Tryz.func120.trans (congrArg some (by kernel_rfl))
 f335 := Tryz.func121.trans (congrArg some (by kernel_rfl))
 f336 := Tryz.func122.trans (congrArg some (by kernel_rfl))
 f344 := Tryz.func127.trans (congrArg some (by kernel_rfl))
 t0 := Tryz.underlying0
 a0 := Tryz.isAgg0
 z0 := Tryz.sizeOf0
 v0 := Tryz.zeroValue0
 t3 := Tryz.underlying3
 a3 := Tryz.isAgg3
 z3 := Tryz.sizeOf3
 v3 := Tryz.zeroValue3
 t4 := Tryz.underlying4
 a4 := Tryz.isAgg4
 z4 := Tryz.sizeOf4
 v4 := Tryz.zeroValue4
 t5 := Tryz.underlying5
 a5 := Tryz.isAgg5
 z5 := Tryz.sizeOf5
 v5 := Tryz.zeroValue5
 t9 := Tryz.underlying9
 a9 := Tryz.isAgg9
 z9 := Tryz.sizeOf9
 v9 := Tryz.zeroValue9
 t31 := Tryz.underlying70
 a31 := Tryz.isAgg70
 z31 := Tryz.sizeOf70
 v31 := Tryz.zeroValue70
 t46 := Tryz.underlying126
 a46 := Tryz.isAgg126
 z46 := Tryz.sizeOf126
 v46 := Tryz.zeroValue126
 t51 := Tryz.underlying148
 a51 := Tryz.isAgg148
 z51 := Tryz.sizeOf148
 v51 := Tryz.zeroValue148
 t53 := Tryz.underlying150
 a53 := Tryz.isAgg150
 z53 := Tryz.sizeOf150
 v53 := Tryz.zeroValue150
 t131 := Tryz.underlying145
 a131 := Tryz.isAgg145
 z131 := Tryz.sizeOf145
 v131 := Tryz.zeroValue145
 t182 := Tryz.underlying140
 a182 := Tryz.isAgg140
 z182 := Tryz.sizeOf140
 v182 := Tryz.zeroValue140
 t183 := Tryz.underlying141
 a183 := Tryz.isAgg141
 z183 := Tryz.sizeOf141
 v183 := Tryz.zeroValue141
 t218 := Tryz.underlying163
 a218 := Tryz.isAgg163
 z218 := Tryz.sizeOf163
 v218 := Tryz.zeroValue163
 t222 := Tryz.underlying167
 a222 := Tryz.isAgg167
 z222 := Tryz.sizeOf167
 v222 := Tryz.zeroValue167
 t228 := Tryz.underlying174
 a228 := Tryz.isAgg174
 z228 := Tryz.sizeOf174
 v228 := Tryz.zeroValue174
 t229 := Tryz.underlying75
 a229 := Tryz.isAgg75
 z229 := Tryz.sizeOf75
 v229 := Tryz.zeroValue75 }
open Go.Sort Go.RowKit in
theorem Tryz.slices_Sort_string (blk off cap : Nat) (ss : List (List UInt8)) (w : World) (hH : Holds encStr w blk off ss.toArray) (hblk : blk < w.heap.size) (hsz : ss.length < 4611686018427387904) :
  Calls Tryz.prog 57 #[.slice (some ⟨blk, off, none⟩) ss.length cap] w fun e w' =>
   e = .returned (.tuple #[]) /\ ∃ n os, w' = grow (putRow encStr (Sort.ahead w n) blk off (ss.mergeSort fun x y => decide (x <= y)).toArray) os := Any.slices_Sort_string Tryz.lays190 blk off cap ss w hH hblk hsz
open Go.RowKit Go.Sort in
theorem Tryz.slices_Sort_string_none (p : Option Addr) (cap : Nat) (w : World) :
  Calls Tryz.prog 57 #[.slice p 0 cap] w fun e w' => e = .returned (.tuple #[]) /\ w' = w := Any.slices_Sort_string_none Tryz.lays190 p cap w
end Go.Proofs
namespace Go.Proofs.YtidlngnhjffepaaGreat
noncomputable section
open Go.Eng
open Go.Sort (grow flatK putRow putRowK HoldsK setMany ahead PermIn SortedIn)
open Go.Proofs (ltOf sortWorldK)
def rF : List Go.Eng.Fd := .int .i64 :: hF
def Zay (x : List Int) : List Value := rowVals rF x
theorem ZbT (x : List Int) : (Zay x).length = 7 := ZU rF x
theorem Zfj (l : List (List Int)) : (l.flatMap Zay).length = l.length * 7 := by
 induction l with
 | nil => rfl
 | cons a l ih => rw [List.flatMap_cons, ZN3, ih, ZbT, ZOi]; omega
theorem ZqC : ∀ (l : List (List Int)) (t : Nat), t < l.length * 7 -> (l.flatMap Zay)[t]? = some ((Zay (l.getD (t / 7) default))[t % 7]!)
 | [], t, h => by simp at h
 | x :: l, t, h => by
  rw [List.flatMap_cons]
  by_cases h7 : t < 7
  ·rw [ZOg (by rw [ZbT]; exact h7), Nat.div_eq_of_lt h7, Nat.mod_eq_of_lt h7]
   have hl : t < (Zay x).length := by rw [ZbT]; exact h7
   rw [ZN1 hl]
   show some (Zay x)[t] = some (Zay x)[t]!
   rw [getElem!_pos _ t hl]
  ·rw [ZOh (by rw [ZbT]; omega), ZbT, ZqC l (t - 7) (by rw [ZOi] at h; omega)]
   have e1 : t / 7 = (t - 7) / 7 + 1 := by omega
   have e2 : t % 7 = (t - 7) % 7 := by omega
   rw [e1, e2]; rfl
theorem Zet (l : List (List Int)) : (flatK Zay 7 l.toArray).toList = l.flatMap Zay := by
 apply List.ext_getElem?
 intro t
 by_cases h : t < l.length * 7
 ·rw [ZqC l t h]
  have := Go.Sort.get_flatK Zay 7 l.toArray t (by simpa using h)
  have hs : t < (flatK Zay 7 l.toArray).size := by simpa using h
  rw [getElem!_pos _ t hs] at this
  rw [ZNN, Array.getElem?_eq_getElem hs, this]
  congr 2
  simp [Array.getElem!_eq_getD, Array.getD_eq_getD_getElem?, ZNY]
 ·rw [List.getElem?_eq_none (by simpa using h)]
  have hl : (l.flatMap Zay).length = l.length * 7 := Zfj l
  rw [List.getElem?_eq_none (by omega)]
theorem Sat.push' {w0 w : World} {H : HProp} (h : Sat w0 H w) (x : Obj) : Sat w0 H { w with heap := w.heap.push x } := by
 obtain ⟨y, hy, hi⟩ := h
 exact ⟨y, hy, hi.push x⟩
theorem Sat.grow {w0 : World} {H : HProp} : ∀ (os : List Obj) {w : World}, Sat w0 H w -> Sat w0 H (grow w os.toArray)
 | [], w, h => by rw [show (([] : List Obj).toArray) = #[] from rfl, Go.Sort.grow_empty]; exact h
 | x :: os, w, h => by
  have := Sat.grow os (Sat.push' h x)
  have e : Go.Sort.grow { w with heap := w.heap.push x } os.toArray = Go.Sort.grow w (x :: os).toArray := by
   unfold Go.Sort.grow; simp
  rw [e] at this; exact this
theorem Sat.cells {w0 : World} {b o : Nat} {z : Bool} {H : HProp} : ∀ (new : List Value) (i : Nat) (cs : List Value) (w : World), Sat w0 (Zc (row b o cs z) H) w -> i + new.length <= cs.length →
  Sat w0 (Zc (row b o (cs.take i ++ new ++ cs.drop (i + new.length)) z) H) (w.setCells b (o + i) new)
 | [], i, cs, w, h, _ => by simpa [World.setCells] using h
 | v :: new, i, cs, w, h, hl => by
  simp only [ZOi] at hl
  have hs := h.store (i := i) (by omega) v
  have := Sat.cells new (i + 1) (cs.set i v) _ hs (by simp; omega)
  have e : (cs.set i v).take (i + 1) ++ new ++ (cs.set i v).drop (i + 1 + new.length) = cs.take i ++ (v :: new) ++ cs.drop (i + (v :: new).length) := by
   have e1 : (cs.set i v).take (i + 1) = cs.take i ++ [v] := by
    rw [List.take_add_one, List.take_set_of_le (ZNO i), List.getElem?_set_self (by omega)]
    rfl
   rw [e1, List.drop_set_of_lt (by omega), ZOi]
   simp [Nat.add_assoc, Nat.add_comm 1]
  rw [e] at this
  exact this
theorem Sat.put {w0 w : World} {b : Nat} {z : Bool} {H : HProp} {old new : List (List Int)} {spare : List Value} (h : Sat w0 (Zc (row b 0 (old.flatMap Zay ++ spare) z) H) w) (hl : new.length = old.length) :
  Sat w0 (Zc (row b 0 (new.flatMap Zay ++ spare) z) H) (putRowK Zay 7 w b 0 new.toArray) := by
 have len : ∀ l : List (List Int), (l.flatMap Zay).length = l.length * 7 := Zfj
 have hh : HoldsK Zay 7 w b 0 old.toArray := by
  intro j hj
  rw [Go.Sort.size_flatK] at hj
  have hj' : j < (old.flatMap Zay ++ spare).length := by rw [ZN3, len]; simp at hj; omega
  have := h.load hj'
  rw [List.getElem_append_left (by rw [len]; simpa using hj)] at this
  have e : (flatK Zay 7 old.toArray)[j]! = (old.flatMap Zay)[j]'(by rw [len]; simpa using hj) := by
   have hs : j < (flatK Zay 7 old.toArray).size := by simpa using hj
   rw [getElem!_pos _ j hs, <- Array.getElem_toList]
   congr 1
   exact Zet old
  rw [e]
  exact this
 have e1 : putRowK Zay 7 w b 0 old.toArray = w := Go.Sort.putRowK_self Zay 7 w b 0 _ hh
 have e2 := Go.Sort.setCells_putRow w b 0 (new.flatMap Zay) 0 (flatK Zay 7 old.toArray) (by simp [len, hl])
 have e3 : setMany (flatK Zay 7 old.toArray) 0 (new.flatMap Zay) = flatK Zay 7 new.toArray := by
  refine Go.Sort.ext_get! (by simp [hl]) fun t ht => ?_
  have ht' : t < old.length * 7 := by simpa using ht
  rw [Go.Sort.get_setMany _ _ _ _ (by simpa using ht'), if_pos (by rw [len]; omega), Nat.sub_zero]
  have hs : t < (flatK Zay 7 new.toArray).size := by simp [hl]; exact ht'
  have ht2 : t < (new.flatMap Zay).length := by rw [len]; omega
  rw [getElem!_pos _ t ht2, getElem!_pos _ t hs, <- Array.getElem_toList]
  congr 1
  exact (Zet new).symm
 rw [show putRow id w b 0 (flatK Zay 7 old.toArray) = w from e1, e3] at e2
 have := Sat.cells (new.flatMap Zay) 0 _ w h (by rw [ZN3, len, len]; omega)
 rw [e2, List.take_zero, List.nil_append, Nat.zero_add, show (new.flatMap Zay).length = (old.flatMap Zay).length by rw [len, len, hl], List.drop_left] at this
 exact this
theorem ltPage' (x y : List Int) : ltOf (fun x y : List Int => Go.Lib.compareInt (g0 x) (g0 y)) x y = decide (g0 x < g0 y) := by
 unfold ltOf Go.Lib.compareInt
 by_cases h1 : g0 x < g0 y
 ·simp [h1]
 ·by_cases h2 : g0 y < g0 x <;> simp [h1, h2]
theorem ZrI {R : List (List Int)} {d' : Array (List Int)} (hp : Go.Sort.PermIn 0 R.length R.toArray d')
  (hs : Go.Sort.SortedIn (ltOf fun x y : List Int => Go.Lib.compareInt (g0 x) (g0 y)) 0 R.length d') : d'.toList.length = R.length /\ SrtP R d'.toList := by
 obtain ⟨h1, h2, h3⟩ := hp
 have hsz : d'.size = R.length := by simpa using h1
 have h3 : d'.toList.Perm R := by
  have e1 : (d'.extract 0 R.length) = d' := by rw [<- hsz]; simp
  have e2 : (R.toArray.extract 0 R.length) = R.toArray := by simp
  rw [e1, e2] at h3
  simpa using h3
 refine ⟨by simpa using hsz, h3, ?_⟩
 rw [List.pairwise_iff_getElem]
 intro i j hi hj hij
 have := hs i j (Nat.zero_le _) hij (by rw [Array.length_toList] at hj; omega)
 rw [ltPage', decide_eq_false_iff_not, getElem!_pos _ _ (by simpa using hj), getElem!_pos _ _ (by simpa using hi)] at this
 simp only [Array.getElem_toList]
 omega
def ZDl (P : Program) (f g : FuncId) : Prop := ∀ (blk cap : Nat) (d : Array (List Int)) (w : World), HoldsK Zay 7 w blk 0 d -> blk < w.heap.size -> d.size < 4611686018427387904 →
  Calls P f #[.slice (some ⟨blk, 0, none⟩) d.size cap, .func (.func g) #[] #[]] w fun e w' => e = .returned (.tuple #[]) ∧
   ∃ d' n os, PermIn 0 d.size d d' /\ SortedIn (ltOf fun x y : List Int => Go.Lib.compareInt (g0 x) (g0 y)) 0 d.size d' /\ w' = sortWorldK Zay 7 w blk 0 n d' os
def SortNone (P : Program) (f : FuncId) : Prop := ∀ (p : Option Addr) (cap : Nat) (fv : Value) (w : World), Calls P f #[.slice p 0 cap, fv] w fun e w' => e = .returned (.tuple #[]) /\ w' = w
theorem Zge (R : List (List Int)) : R.flatMap (rowVals rF) = R.flatMap Zay := rfl
theorem ZMc (S : Sig GG) (hS : JsSig S) {P : Program} {f : FuncId} (hsome : ZDl P f 45) (hnone : SortNone P f) : Zy S P f Zcx := by
 intro ch w0 F ρ w xs hx hq hsat
 obtain ⟨v1, v2, rfl, hv1, hv2⟩ : ∃ v1 v2, xs = [v1, v2] /\ SV.R S ρ (.one (.slice (ai 0) z0 z0 z0 (ai 2) (ai 3) 7)) v1 /\ SV.R S ρ (.one (.fn 45)) v2 := by
  match xs, hx with
  | [v1, v2], hx => exact ⟨v1, v2, rfl, hx.1, hx.2.1⟩
 have hv1 := R_one S ρ hv1
 have hv2 := R_one S ρ hv2
 have q1 := hq (eLe z0 (ai 2)) (by simp [Zcx])
 have q2 := hq (.f2 45 (ai 2) (Zj (rA 1))) (by simp [Zcx])
 have q3 := hq (eLe (ai 2) (.int 140737488355328)) (by simp [Zcx])
 rw [Zh] at q1 q3
 have q2 : ((ai 2).den S ρ).tI = ((Zj (rA 1)).den S ρ).tI := by
  have : (ap2 45 ((ai 2).den S ρ) ((Zj (rA 1)).den S ρ)).tP := q2
  rw [p45] at this; exact this
 simp only [Zcx, Zp, star_assoc, Ch.den, rAr] at hsat
 rw [SX.den_wc, SX.den_wc, SX.den_wc] at hsat
 simp only [SX.den, ai, rA, Zj, Yf, U.co, U.tIi, z0] at q1 q2 q3 hsat
 subst hv1 hv2
 simp only [SC.den, SX.den, ai, U.co, U.tIi, z0, if_true, ZNV, Nat.zero_mul, Nat.zero_add, ite_self]
 generalize hb : (ρ 0).tI = b at *
 generalize hn : (ρ 2).tI = n at *
 generalize hR : (ρ 1).tR = R at *
 generalize hc : (ρ 4).tI = c at *
 obtain ⟨spare, hsat⟩ := Yy hsat
 obtain ⟨g1, hsat⟩ := Zq hsat
 obtain ⟨g2, hsat⟩ := Zq hsat
 obtain ⟨g3, hsat⟩ := Zq hsat
 have hlen := Zfj R
 simp only [rE, En.vals, En.stride, ZOi, List.length_nil, U.tIi, U.tRi] at g1 g2 g3 q2 hsat
 simp only [show (Go.Eng.Fd.int IntKind.i64 :: hF) = rF from rfl, Zge] at g1 g3 hsat
 by_cases hR0 : R = []
 ·subst hR0
  have hn0 : n = 0 := by simpa using q2
  subst hn0
  refine (hnone _ _ _ w).mono ?_
  rintro e w' ⟨rfl, rfl⟩
  refine ⟨ρ.upd 5 (.rows []), .tuple #[], Ext.upd _ _, rfl, .inr rfl, ?_, ?_⟩
  ·simp only [Zcx, Zp, star_assoc, Ch.den, rAr]
   rw [SX.den_wc, SX.den_wc, SX.den_wc]
   simp only [SX.den, ai, rA, U.co, U.tIi, Env.upd, if_true, Nat.reduceEqDiff, reduceIte, hb, hc, U.tRi]
   exact YI spare (Zw (by simpa [rE, En.vals, En.stride] using g1) (Zw g2 (Zw g3 (by simp only [rE, En.vals, List.flatMap_nil, U.tRi]; exact hsat))))
  ·intro x hx
   simp only [Zcx, List.mem_cons, List.not_mem_nil, or_false] at hx
   rcases hx with rfl | rfl
   ·show (ap2 45 ((Zj (rA 5)).den S _) ((Zj (rA 1)).den S _)).tP
    rw [p45]; simp [SX.den, Zj, rA, Yf, Env.upd, hR, U.co]
   ·simp only [srtX, usB, SX.den, hS.u580, rA, Env.upd, if_true, Nat.reduceEqDiff, reduceIte, U.co, hR, U.tRi, U.tPi, U.tQi, Zl]
    exact ⟨List.Perm.refl _, List.Pairwise.nil⟩
 ·have hRl : 0 < R.length := List.length_pos_iff.2 hR0
  have hb0 : 0 <= b := by
   rcases g3 with h | h
   ·exact h
   ·exfalso; rw [h, hlen] at g1; simp at g1; omega
  have hn' : n.toNat = R.length := by omega
  have hlt := hsat.row_lt (by intro e; have := congrArg List.length e; rw [ZN3, hlen] at this; simp at this; omega)
  have hold : HoldsK Zay 7 w b.toNat 0 R.toArray := by
   intro j hj
   have hj0 := hj
   rw [Go.Sort.size_flatK] at hj
   have hj' : j < (R.flatMap Zay ++ spare).length := by rw [ZN3, hlen]; simp at hj; omega
   have := hsat.load hj'
   rw [List.getElem_append_left (by rw [hlen]; simpa using hj)] at this
   rw [getElem!_pos _ j hj0, <- Array.getElem_toList]
   have e : (flatK Zay 7 R.toArray).toList[j]'(by simpa using hj0) = (R.flatMap Zay)[j]'(by rw [hlen]; simpa using hj) := by
    congr 1
    exact Zet _
   rw [e]
   exact this
  have hcall := hsome b.toNat (SX.den S ρ (ai 3)).tI.toNat R.toArray w hold hlt.2 (by simp; omega)
  rw [if_neg (by omega), hn']
  refine hcall.mono ?_
  rintro e w' ⟨rfl, d', m, os, hp, hs, rfl⟩
  obtain ⟨hyl, hys⟩ := ZrI (by simpa using hp) (by simpa using hs)
  refine ⟨ρ.upd 5 (.rows d'.toList), .tuple #[], Ext.upd _ _, rfl, .inr rfl, ?_, ?_⟩
  ·simp only [Zcx, Zp, star_assoc, Ch.den, rAr]
   rw [SX.den_wc, SX.den_wc, SX.den_wc]
   simp only [SX.den, ai, rA, U.co, U.tIi, Env.upd, if_true, Nat.reduceEqDiff, reduceIte, hb, hc, U.tRi]
   have hput : Sat w0 (Zc (row b.toNat 0 (d'.toList.flatMap Zay ++ spare) true) (Zc (hpDen (S.wc ch) (ρ.upd 5 (.rows d'.toList)) w0 []) F)) (sortWorldK Zay 7 w b.toNat 0 m d' os) := by
    have h1 := Sat.put (new := d'.toList) (hsat.drew (w.drawn + m)) (by simpa using hp.1)
    have h2 := Sat.grow os.toList h1
    exact h2
   refine YI spare (Zw ?_ (Zw g2 (Zw g3 ?_)))
   ·simp only [rE, En.vals, En.stride, ZOi, List.length_nil, U.tIi, U.tRi, show (Go.Eng.Fd.int IntKind.i64 :: hF) = rF from rfl, Zge]
    rw [Zfj, hyl, <- hlen]; exact g1
   ·simp only [rE, En.vals, U.tRi, show (Go.Eng.Fd.int IntKind.i64 :: hF) = rF from rfl, Zge]
    exact hput
  ·intro x hx
   simp only [Zcx, List.mem_cons, List.not_mem_nil, or_false] at hx
   rcases hx with rfl | rfl
   ·show (ap2 45 ((Zj (rA 5)).den S _) ((Zj (rA 1)).den S _)).tP
    rw [p45]; simp only [SX.den, Zj, rA, Yf, Env.upd, hR, U.co, if_true, Nat.reduceEqDiff, reduceIte, U.tRi, U.tIi, hyl]
   ·simp only [srtX, usB, SX.den, hS.u580, rA, Env.upd, if_true, Nat.reduceEqDiff, reduceIte, U.co, hR, U.tRi, U.tPi, U.tQi, Zl]
    exact hys
end
end Go.Proofs.YtidlngnhjffepaaGreat
namespace Go.Proofs.YtidlngnhjffepaaGreat
noncomputable section
open Go.Eng
open Go.Sort (grow putRow Holds ahead)
open Go.Proofs (encStr)
/-! ### Pairs in memory -/
def tx1 (w : List Int) : List UInt8 := YW (w.getD 1 0).toNat
def itF (r w : List Int) : Prop := g1 r = ((txt w).length : Nat) /\ r.getD 4 0 = ((tx1 w).length : Nat) /\ g1 r <= g2 r /\ r.getD 4 0 <= r.getD 5 0 /\ 0 <= g0 r /\ 0 <= r.getD 3 0
def itP (r w : List Int) : HProp := fun h => itF r w /\ Zc (bAD (g0 r) (txt w) (g2 r)) (bAD (r.getD 3 0) (tx1 w) (r.getD 5 0)) h
def prH : List (List Int) -> List (List Int) -> HProp
 | [], [] => emp
 | r :: R, w :: W => Zc (itP r w) (prH R W)
 | _, _ => fun _ => False
def prO (k W : List (List Int)) : HProp :=
 let i := (g0 (k.getD 0 [])).toNat
 Zc (prH ((k.drop 1).take i) (W.take i)) (prH ((k.drop 1).drop (i + 1)) (W.drop (i + 1)))
structure FiSig (S : Sig GG) : Prop where
 js : JsSig S
 p110 : ∀ w0 k x, S.prd 110 w0 k x = prH k.tR x.tR
 p111 : ∀ w0 k x, S.prd 111 w0 k x = prO k.tR x.tR
 u600 : ∀ a b c d, S.usr 600 a b c d = .rows (Zhm a.tR)
 u601 : ∀ a b c d, S.usr 601 a b c d = .rows (Zsb a.tM)
 u602 : ∀ a b c d, S.usr 602 a b c d = .rows (ZjT (mvF a.tM) b.tR c.tI.toNat)
 u603 : ∀ a b c d, S.usr 603 a b c d = .rows (finR' a.tR)
 u604 : ∀ a b c d, S.usr 604 a b c d = .int (Zqn a.tR)
 u605 : ∀ a b c d, S.usr 605 a b c d = .bool (Zn (ZFR a.tM b.tM c.tR))
 u610 : ∀ a b c d, S.usr 610 a b c d = .rows ((ZrX a.tR b.tI.toNat).map ZBd)
 u611 : ∀ a b c d, S.usr 611 a b c d = .bool (Zn (∀ j : Nat, (j : Int) < c.tI -> Op.bytesLess (txt (a.tR.getD j [])) b.tB = true))
 u612 : ∀ a b c d, S.usr 612 a b c d = .rows (ZjT (leF a.tR b.tN) c.tR d.tI.toNat)
 u606 : ∀ a b c d, S.usr 606 a b c d = .bool (Zn (canM a.tM))
def sE : En := .rows [.str]
def sAr (b x c : SX) : Ch := .arr sE b x c
def Zgp : Ctr := ⟨[.int, .rows, .int, .int, .int], [.one (slC (ai 0) (ai 2) (ai 3) 1)], [sAr (ai 0) (rA 1) (ai 4)], [.f2 45 (ai 2) (Zj (rA 1)), eLe (ai 2) (.int 140737488355328)], [], .tup [], [sAr (ai 0) (usR 600 (rA 1) z0 z0) (ai 4)], []⟩
theorem Zi7 (R : List (List Int)) : R.flatMap (rowVals [.str]) = (R.map txt).map encStr := by
 rw [List.map_map]
 induction R with
 | nil => rfl
 | cons r R ih => rw [List.flatMap_cons, ZN7, ih]; rfl
theorem ZiC (R : List (List Int)) : (Zhm R).map txt = Zsp (R.map txt) := by
 unfold Zhm; rw [List.map_map]
 conv => rhs; rw [<- List.map_id (Zsp (R.map txt))]
 exact List.map_congr_left fun s _ => ZAg s
theorem ZDG {a : Array Value} {v : Value} {j : Nat} (h : a[j]? = some v) : a[j]! = v := by rw [Array.getElem!_eq_getD, Array.getD_eq_getD_getElem?, h]; rfl
theorem Sat.putS {w0 w : World} {b : Nat} {z : Bool} {H : HProp} {old new : List (List UInt8)} {spare : List Value} (h : Sat w0 (Zc (row b 0 (old.map encStr ++ spare) z) H) w) (hl : new.length = old.length) :
  Sat w0 (Zc (row b 0 (new.map encStr ++ spare) z) H) (putRow encStr w b 0 new.toArray) := by
 have hh : Holds id w b 0 (old.map encStr).toArray := by
  intro j hj
  have hj1 : j < (old.map encStr).length := by simpa using hj
  have hj' : j < (old.map encStr ++ spare).length := by rw [ZN3]; omega
  have := h.load hj'
  rw [List.getElem_append_left hj1] at this
  rw [Nat.zero_add] at this ⊢
  refine ⟨?_, this.2⟩
  rw [this.1]
  congr 1
  exact (ZDG (by rw [List.getElem?_toArray, ZN1 hj1])).symm
 have e1 : putRow id w b 0 (old.map encStr).toArray = w := Go.Sort.putRow_self id w b 0 _ hh
 have e2 := Go.Sort.setCells_putRow w b 0 (new.map encStr) 0 (old.map encStr).toArray (by simp [hl])
 have e3 : Go.Sort.setMany (old.map encStr).toArray 0 (new.map encStr) = (new.map encStr).toArray := by
  refine Go.Sort.ext_get! (by simp [hl]) fun t ht => ?_
  have ht' : t < old.length := by simpa using ht
  rw [Go.Sort.get_setMany _ _ _ _ (by simpa using ht'), if_pos (by simp; omega), Nat.sub_zero]
  have ht2 : t < (new.map encStr).length := by simp; omega
  rw [getElem!_pos _ t ht2, getElem!_pos _ t (by simpa using ht2)]
  simp
 have e4 : putRow encStr w b 0 new.toArray = putRow id w b 0 (new.map encStr).toArray := by
  unfold putRow
  congr 1
  funext c
  unfold Go.Sort.putCells
  congr 1
  funext k x
  simp only [List.size_toArray, ZN8, Nat.zero_add, Nat.sub_zero, Nat.zero_le, true_and, id]
  by_cases hk : k < new.length
  ·rw [if_pos hk, if_pos hk, getElem!_pos _ k (by simpa using hk), getElem!_pos _ k (by simpa using hk)]; simp
  ·rw [if_neg hk, if_neg hk]
 rw [e1, e3] at e2
 have := Sat.cells (new.map encStr) 0 _ w h (by simp; omega)
 rw [e2, List.take_zero, List.nil_append, Nat.zero_add, show (new.map encStr).length = (old.map encStr).length by simp [hl], List.drop_left] at this
 rw [e4]
 exact this
theorem ZLo (S : Sig GG) (hS : FiSig S) : Zy S Tryz.prog 57 Zgp := by
 intro ch w0 F ρ w xs hx hq hsat
 obtain ⟨v1, rfl, hv1⟩ : ∃ v1, xs = [v1] /\ SV.R S ρ (.one (slC (ai 0) (ai 2) (ai 3) 1)) v1 := by
  match xs, hx with
  | [v1], hx => exact ⟨v1, rfl, hx.1⟩
 have hv1 := R_one S ρ hv1
 have q2 := hq (.f2 45 (ai 2) (Zj (rA 1))) (by simp [Zgp])
 have q3 := hq (eLe (ai 2) (.int 140737488355328)) (by simp [Zgp])
 rw [Zh] at q3
 have q2 : ((ai 2).den S ρ).tI = ((Zj (rA 1)).den S ρ).tI := by
  have : (ap2 45 ((ai 2).den S ρ) ((Zj (rA 1)).den S ρ)).tP := q2
  rw [p45] at this; exact this
 simp only [Zgp, Zp, star_assoc, Ch.den, sAr] at hsat
 rw [SX.den_wc, SX.den_wc, SX.den_wc] at hsat
 simp only [SX.den, ai, rA, Zj, Yf, U.co, U.tIi, U.tRi] at q2 q3 hsat
 subst hv1
 rw [ZcI]
 simp only [SX.den, ai, U.co, U.tIi]
 generalize hb : (ρ 0).tI = b at *
 generalize hn : (ρ 2).tI = n at *
 generalize hR : (ρ 1).tR = R at *
 generalize hc : (ρ 4).tI = c at *
 obtain ⟨spare, hsat⟩ := Yy hsat
 obtain ⟨g1, hsat⟩ := Zq hsat
 obtain ⟨g2, hsat⟩ := Zq hsat
 obtain ⟨g3, hsat⟩ := Zq hsat
 simp only [sE, En.vals, En.stride, En.nf, ZOi, List.length_nil, U.tIi, U.tRi, Zi7] at g1 g2 g3 hsat
 have fin : ∀ w', Sat w0 (Zc (row b.toNat 0 ((Zhm R).flatMap (rowVals [.str]) ++ spare) true) (Zc (hpDen (S.wc ch) ρ w0 []) F)) w' →
   Sat w0 (Zc (hpDen (S.wc ch) ρ w0 Zgp.post) F) w' := by
  intro w' hw
  simp only [Zgp, Zp, star_assoc, Ch.den, sAr, usR]
  rw [SX.den_wc, SX.den_wc, SX.den_wc]
  simp only [SX.den, ai, rA, U.co, U.tIi, hS.u600, hb, hc, hR, U.tRi]
  refine YI spare (Zw ?_ (Zw g2 (Zw g3 hw)))
  simp only [sE, En.vals, En.stride, ZOi, List.length_nil, U.tRi, U.tIi, Zi7, ZiC, ZN8, (ZbO _).length_eq] at g1 ⊢
  exact g1
 by_cases hR0 : R = []
 ·subst hR0
  have hn0 : n = 0 := by simpa using q2
  subst hn0
  refine (Tryz.slices_Sort_string_none _ _ w).mono ?_
  rintro e w' ⟨rfl, rfl⟩
  refine ⟨ρ, .tuple #[], Ext.refl _ _, rfl, .inr rfl, fin _ ?_, fun x hx => nomatch hx⟩
  rw [Zi7, ZiC, show Zsp (([] : List (List Int)).map txt) = ([] : List (List Int)).map txt by simp [Zsp]]
  exact hsat
 ·have hRl : 0 < R.length := List.length_pos_iff.2 hR0
  have hb0 : 0 <= b := by
   rcases g3 with h | h
   ·exact h
   ·exfalso; rw [h] at g1; simp at g1; exact hR0 g1.1
  have hn' : n.toNat = (R.map txt).length := by rw [ZN8]; omega
  have hlt := hsat.row_lt (by intro e; have := congrArg List.length e; simp at this; exact hR0 this.1)
  have hold : Holds encStr w b.toNat 0 (R.map txt).toArray := by
   intro j hj
   have hj0 : j < (R.map txt).length := by simpa using hj
   have hj' : j < ((R.map txt).map encStr ++ spare).length := by simp at hj0 ⊢; omega
   have := hsat.load hj'
   rw [List.getElem_append_left (by simpa using hj0)] at this
   rw [getElem!_pos _ j (by simpa using hj0)]
   simpa using this
  have hcall := Tryz.slices_Sort_string b.toNat 0 (ρ 3).tI.toNat (R.map txt) w hold hlt.2 (by simp; omega)
  unfold slV
  rw [if_neg (by omega), hn']
  refine hcall.mono ?_
  rintro e w' ⟨rfl, m, os, rfl⟩
  refine ⟨ρ, .tuple #[], Ext.refl _ _, rfl, .inr rfl, fin _ ?_, fun x hx => nomatch hx⟩
  have h1 := Sat.putS (new := Zsp (R.map txt)) (hsat.drew (w.drawn + m)) (ZbO _).length_eq
  have h2 := Sat.grow os.toList h1
  rw [Zi7, ZiC]
  exact h2
def canC : Ctr := ⟨[.int, .amap], [.one (.map (ai 0))], [scC (ai 0) (mA 1)], [], [], .tup [], [scC (ai 0) (mA 1)], [usB 606 (mA 1) z0 z0]⟩
theorem ZMC (S : Sig GG) (hS : FiSig S) : Zbm S canC := by
 refine Yp S fun T w0 ρ h hu hp hd hr hpre => ⟨ρ, Ext.refl _ _, hpre, ?_⟩
 have hT := hS.u606
 rw [<- hu] at hT
 intro x hx
 simp only [canC, ZNR] at hx
 subst hx
 have e1 : hpDen T ρ w0 canC.pre = Zc ((scC (ai 0) (mA 1)).den T ρ w0) emp := rfl
 rw [e1, Zf] at hpre
 obtain ⟨_, es, clock, ⟨_, hn, hk, _⟩, _⟩ := hpre
 simp only [usB, SX.den, hT, YZ, U.tPi, U.tQi, Zl]
 exact ⟨hn, hk⟩
def ZAN : Ctr := ⟨[.int, .amap], [.one (.map (ai 0))], [scC (ai 0) (mA 1)], [eLe z0 (ai 0), eLe (.f1 33 (mA 1)) (.int 1048576)], [.int, .int], .one (slC (ai 2) (Zj (usR 601 (mA 1) z0 z0)) (ai 3) 1),
 [scC (ai 0) (mA 1), sAr (ai 2) (usR 601 (mA 1) z0 z0) (ai 3)], [eLe (Zj (usR 601 (mA 1) z0 z0)) (ai 3)]⟩
def risI (m it b c : Nat) : Inv := ⟨[.amap, .ints, .int, .int, .rows], [(3, .one (slC (di 2) (Zj (rA 1000004)) (di 3) 1))],
 [.itr .str .sb (ai m) (mA 1) (ai it) (mA 1000000) (iA 1000001), sAr (di 2) (rA 1000004) (di 3)],
 [usB 605 (mA 1) (mA 1000000) (rA 1000004), eLe (Zj (rA 1000004)) (di 3)], .f1 33 (mA 1000000)⟩
def ZK3 : Cx := { specs := [(57, [Zgp])], anns := [(27, [(3, .inv (risI 0 3 2 1))])] }
def ZFT : SX := vR 601 (m 1)
def ZHV : SX := .f1 32 ZFT
def ZCh : SX := .f2 40 (.f1 32 (r 8)) (k 1)
def ZId : SX := .f2 143 (m 4) (.f1 35 (b 9))
def ZJ1 : VC := i (l z (a 0)) (i (l (.f1 33 (m 1)) (k 1048576)) (n (l (.f2 42 (.f1 33 (m 1)) (k 16)) k1) (u 2 .int (i (l z (a 2)) (u 3 .int (i (l z (a 3)) (n (y 605 (m 1) (m 1) (.f1 154 z)) (u 4 .amap (u 5 .ints (u 6 .int (u 7 .int (u 8 .rows (i (y 605 (m 1) (m 4) (r 8)) (i (l (.f1 32 (r 8)) (a 7)) (.and (i (e (.f1 33 (m 4)) z) (n (e (.f1 32 (r 8)) (.f1 32 (r 8))) (n (l (.f1 32 (r 8)) k1) (n (l ZHV (a 7)) (n (.f2 155 ZFT (vR 600 (r 8))) (n (e ZHV (.f1 32 (r 8))) .tt)))))) (u 9 .bytes (i (.f2 141 (m 4) (.f1 35 (b 9))) (u 10 .int (i (l z (a 10)) (n (l (.f1 32 (r 8)) (.f1 32 (r 8))) (n (l (.f2 42 ZCh (k 16)) k1) (u 11 .int (u 12 .int (i (l ZCh (a 12)) (i (.f2 50 (l z (a 11)) (e ZCh z)) (n (t (.f1 33 ZId) (.f1 33 (m 4))) (n (y 605 (m 1) ZId (.f2 121 (r 8) (.f2 124 (.f2 122 (.f1 35 (b 9)) (.f1 152 z)) (.f1 154 z)))) .tt)))))))))))))))))))))))))))
theorem ZL5 : Yq Tryz.prog ZK3 12 27 ZAN = ZJ1 := by kernel_rfl
theorem ZNG (S : Sig GG) (hS : FiSig S) : Zy S Tryz.prog 27 ZAN := by
 refine Ze S (C := ZK3) (fuel := 12) (ZQ ⟨Zg (by decide) (ZLo S hS), trivial⟩ ⟨⟨trivial, trivial⟩, trivial⟩ trivial) fun ρ => ?_
 rw [ZL5]
 simp only [ZJ1, ZFT, ZHV, ZCh, ZId, hS.u600, hS.u601, hS.u605, ZI, ZN5, VC.den, SX.den, Env.upd, ZS, ZD, beq_iff_eq, ZNX, beq_eq_false_iff_ne, ne_eq, ZNW, ZNV, Int.reduceToNat, Nat.reduceEqDiff, reduceIte, sB, sC]
 generalize (ρ 1).tM = m
 intro h1 h2
 refine ⟨by omega, fun b hb it hit => ⟨List.Perm.refl _, fun left cur ob oc R g1 g2 => ⟨fun hz => ?_, fun k hk => ?_⟩⟩⟩
 ·have hz : left = [] := ZOd (by omega)
  subst hz
  have e := ZH0 g1
  have hl : (Zsb m).length = R.length := by rw [<- e, Zj5]
  have hm := ZpI m
  exact ⟨trivial, by omega, by omega, e.symm, by omega, trivial⟩
 ·have hl := g1.length_eq
  have hd := Zda hk
  simp only [ZN3, ZN8] at hl
  exact fun _ _ => ⟨ZN9 _, by omega, fun _ _ _ _ => ⟨by omega, ZDc g1 hk, trivial⟩⟩
end
end Go.Proofs.YtidlngnhjffepaaGreat
namespace Go.Proofs.YtidlngnhjffepaaGreat
noncomputable section
open Go.Eng
def bG : SX := usG 561 xX (Zj xX) z0
def bK (R : SX) : SX := usR 548 xX (Zj xX) R
def bO : SX := usR 549 xX (Zj xX) z0
def Zl2 : Ctr := ⟨hA ++ [.int], [.one (hS 0), .one (.ptr (ai 6) 0)], [hC 0 0, bkC (ai 6) xX], [eLe z0 (ai 6)], [.int, .int, .int, .int, .int, .rows], .tup [],
 [hC 0 0, .cel (ai 6) 0 (bkQ (ai 7) (ai 8) (Zj (bK (rA 12))) (ai 9) (ai 10) (Zj bO) (ai 11) (usI 550 xX (Zj xX) z0) (usI 551 xX (Zj xX) z0)), imC (ai 7) (wM (rA 12) bG), pAr (ai 8) (bK (rA 12)) (ai 9), rAr (ai 10) bO (ai 11), txC (rA 12) bG],
 [eLe z0 (ai 7), eLe (Zj (bK (rA 12))) (ai 9), .f2 50 (eLe z0 (ai 8)) (.f2 45 (Zj (bK (rA 12))) z0), eLe (Zj bO) (ai 11), .f2 50 (eLe z0 (ai 10)) (.f2 45 (Zj bO) z0), usB 558 (rA 12) bG z0, usB 560 (bK (rA 12)) (rA 12) z0, eLe (Zj (bK (rA 12))) (Zj xX), eLe (Zj bO) (Zj xX)]⟩
theorem ZqS {b c : Int} {x : List (List Int)} {fs : List Go.Eng.Fd} (hf : 0 < fs.length) {h : Hl} (hd : rAD (.rows fs) b x c h) : (x.length : Int) <= c /\ (0 <= b \/ (x.length : Int) = 0) := by
 have h1 := ZDU hf hd
 obtain ⟨sp, l1, l2, l3, l4⟩ := hd
 refine ⟨h1, ?_⟩
 rcases l3 with h | h
 ·exact .inl h
 ·right
  have h : c = 0 := h
  omega
theorem Znw (S : Sig GG) (hS : JtSig S) : Zbm S Zl2 := by
 refine Yp S fun T w0 ρ h hu hp hd hr hpre => ?_
 have hT := hS.of hu hp
 have e1 : hpDen T ρ w0 Zl2.pre = Zc ((hC 0 0).den T ρ w0) (Zc ((bkC (ai 6) xX).den T ρ w0) emp) := rfl
 have r0 := hr (eLe z0 (ai 6)) (by simp [Zl2])
 rw [Zh] at r0
 have r0 : 0 <= ((ai 6).den T ρ).tI := r0
 rw [e1, Zmg hT, ZrS, if_neg (by omega), Zf] at hpre
 obtain ⟨p, q, d, rfl, hpp, ma, kb, kc, ob, oc, R, hq⟩ := hpre
 have hX0 : ∀ ρ : Go.Eng.Env GG, (xX.den T ρ).tR = ((rA 4).den T ρ).tR.take (ρ 2).tI.toNat := fun _ => rfl
 generalize hx : (xX.den T ρ).tR = X at hq
 let ρ' : Go.Eng.Env GG := (((((ρ.upd 7 (.int ma)).upd 8 (.int kb)).upd 9 (.int kc)).upd 10 (.int ob)).upd 11 (.int oc)).upd 12 (.rows R)
 have hlow : ∀ i, i < 7 -> ρ' i = ρ i := fun i hi => by
  show ((((((ρ.upd 7 (.int ma)).upd 8 (.int kb)).upd 9 (.int kc)).upd 10 (.int ob)).upd 11 (.int oc)).upd 12 (.rows R)) i = ρ i
  simp only [Env.upd]
  repeat rw [if_neg (by omega)]
 have hx' : (xX.den T ρ').tR = X := by rw [<- hx]; rfl
 have hL : ((Zj xX).den T ρ').tI.toNat = X.length := by
  show ((((xX.den T ρ').tR.length : Nat) : Int)).toNat = _
  rw [hx']; omega
 have hL2 : ((Zj xX).den T ρ').tI = (X.length : Nat) := by
  show (((xX.den T ρ').tR.length : Nat) : Int) = _
  rw [hx']
 have w1 : (bG.den T ρ') = .g (.tx (Z4 X X.length).txs) := by
  have : (bG.den T ρ') = U.co T .g (T.usr 561 (xX.den T ρ') ((Zj xX).den T ρ') (z0.den T ρ') (z0.den T ρ')) := rfl
  rw [this, hT.u561, hL, hx']; rfl
 have w2 : (wM (rA 12) bG).den T ρ' = .amap (Zez R (Z4 X X.length).txs) := by
  have : (wM (rA 12) bG).den T ρ' = U.co T .amap (T.usr 547 ((rA 12).den T ρ') (bG.den T ρ') (z0.den T ρ') (z0.den T ρ')) := rfl
  rw [this, hT.u547, w1]; rfl
 have w3 : (bK (rA 12)).den T ρ' = .rows (Zbh R (Z4 X X.length).kept) := by
  have : (bK (rA 12)).den T ρ' = U.co T .rows (T.usr 548 (xX.den T ρ') ((Zj xX).den T ρ') ((rA 12).den T ρ') (z0.den T ρ')) := rfl
  rw [this, hT.u548, hL, hx']; rfl
 have w4 : bO.den T ρ' = .rows (Z4 X X.length).out := by
  have : bO.den T ρ' = U.co T .rows (T.usr 549 (xX.den T ρ') ((Zj xX).den T ρ') (z0.den T ρ') (z0.den T ρ')) := rfl
  rw [this, hT.u549, hL, hx']; rfl
 have w7 : (usI 550 xX (Zj xX) z0).den T ρ' = .int (Z4 X X.length).fault := by
  have : (usI 550 xX (Zj xX) z0).den T ρ' = U.co T .int (T.usr 550 (xX.den T ρ') ((Zj xX).den T ρ') (z0.den T ρ') (z0.den T ρ')) := rfl
  rw [this, hT.u550, hL, hx']; rfl
 have w8 : (usI 551 xX (Zj xX) z0).den T ρ' = .int (Z4 X X.length).what := by
  have : (usI 551 xX (Zj xX) z0).den T ρ' = U.co T .int (T.usr 551 (xX.den T ρ') ((Zj xX).den T ρ') (z0.den T ρ') (z0.den T ρ')) := rfl
  rw [this, hT.u551, hL, hx']; rfl
 have hk : (Zbh R (Z4 X X.length).kept).length = (Z4 X X.length).kept.length := by unfold Zbh; rw [ZN8]
 have n3 : ((Zj (bK (rA 12))).den T ρ').tI = ((Z4 X X.length).kept.length : Nat) := by
  show ((((bK (rA 12)).den T ρ').tR.length : Nat) : Int) = _
  rw [w3, U.tRi, hk]
 have n4 : ((Zj bO).den T ρ').tI = ((Z4 X X.length).out.length : Nat) := by
  show (((bO.den T ρ').tR.length : Nat) : Int) = _
  rw [w4, U.tRi]
 have hwf := ZhW X X.length
 refine ⟨ρ', hlow, ?_, ?_⟩
 ·have e2 : hpDen T ρ' w0 Zl2.post = Zc ((hC 0 0).den T ρ' w0) (Zc ((Ch.cel (ai 6) 0 (bkQ (ai 7) (ai 8) (Zj (bK (rA 12))) (ai 9) (ai 10) (Zj bO) (ai 11) (usI 550 xX (Zj xX) z0) (usI 551 xX (Zj xX) z0))).den T ρ' w0) (Zc ((imC (ai 7) (wM (rA 12) bG)).den T ρ' w0)
   (Zc ((pAr (ai 8) (bK (rA 12)) (ai 9)).den T ρ' w0) (Zc ((rAr (ai 10) bO (ai 11)).den T ρ' w0) (Zc (T.prd 100 w0 ((rA 12).den T ρ') (bG.den T ρ')) emp))))) := rfl
  rw [e2, Zx3, Zs5, Ztx, Zi9, Zf, hT.p100, n3, n4, w1, w2, w3, w4, w7, w8]
  refine ⟨p, q, d, rfl, hpp, ?_⟩
  simp only [U.tRi, U.tMi, U.tIi, ZI]
  exact hq
 ·obtain ⟨_, _, _, hq⟩ := ZdT hq
  obtain ⟨_, _, hm, hq⟩ := ZdT hq
  obtain ⟨_, _, hka, hq⟩ := ZdT hq
  obtain ⟨_, _, hoa, ht⟩ := ZdT hq
  have k1 := ZqS (by decide) hka
  have k2 := ZqS (by decide) hoa
  have hl := Za4 ht
  rw [hk] at k1
  have p50' : ∀ a b c d : SX, ((Go.Eng.SX.f2 50 (eLe a b) (.f2 45 c d)).den T ρ').tP = ((a.den T ρ').tI <= (b.den T ρ').tI \/ (c.den T ρ').tI = (d.den T ρ').tI) := fun a b c d => by
   have e : (Go.Eng.SX.f2 50 (eLe a b) (.f2 45 c d)).den T ρ' = ap2 50 ((eLe a b).den T ρ') (ap2 45 (c.den T ρ') (d.den T ρ')) := rfl
   have e2 := Zh T ρ' a b
   have e3 : (((eLe a b).den T ρ').toBool = true) = ((a.den T ρ').tI <= (b.den T ρ').tI) := by
    have h1 := Zfv T ρ' a b
    rw [h1, U.tQi, decide_eq_true_eq]
   rw [e, p50, e3, ZoU, U.tQi, beq_iff_eq]
  have a7 : ((ai 7).den T ρ').tI = ma := rfl
  have a8 : ((ai 8).den T ρ').tI = kb := rfl
  have a9 : ((ai 9).den T ρ').tI = kc := rfl
  have a10 : ((ai 10).den T ρ').tI = ob := rfl
  have a11 : ((ai 11).den T ρ').tI = oc := rfl
  have az : (z0.den T ρ').tI = 0 := rfl
  intro x hx
  simp only [Zl2, List.mem_cons, List.not_mem_nil, or_false] at hx
  rcases hx with rfl | rfl | rfl | rfl | rfl | rfl | rfl | rfl | rfl
  ·rw [Zh, a7, az]; exact hm.1
  ·rw [Zh, n3, a9]; exact k1.1
  ·rw [p50', n3, a8, az]; exact k1.2
  ·rw [Zh, n4, a11]; exact k2.1
  ·rw [p50', n4, a10, az]; exact k2.2
  ·have : (usB 558 (rA 12) bG z0).den T ρ' = U.co T .bool (T.usr 558 ((rA 12).den T ρ') (bG.den T ρ') (z0.den T ρ') (z0.den T ρ')) := rfl
   rw [this, hT.u558, w1, YZ, U.tQi, U.tPi, Zl]
   exact ⟨hl, (Zgi ht).1, (Zgi ht).2⟩
  ·have : (usB 560 (bK (rA 12)) (rA 12) z0).den T ρ' = U.co T .bool (T.usr 560 ((bK (rA 12)).den T ρ') ((rA 12).den T ρ') (z0.den T ρ') (z0.den T ρ')) := rfl
   rw [this, hT.u560, w3, YZ, U.tQi, U.tPi, Zl]
   exact Zlw fun k hk => by have := hwf.ki k hk; omega
  ·rw [Zh, n3, hL2]; have := hwf.kl; omega
  ·rw [Zh, n4, hL2]; have := hwf.ol; omega
/-! ### Serial -/
theorem Zht {x : List Ent} (hc : Zb5 x = 0) (hf : 0 <= (Z4 x x.length).fault) : 0 <= (ZcG x x.length).1 := by
 have hm : ∀ i < x.length, ZbI (xa x i) = true := by
  unfold Zb5 at hc
  split at hc
  ·cases hc
  ·split at hc
   ·rename_i q
    unfold Zi8 at q
    rw [Zl] at q; exact q
   ·cases hc
 obtain ⟨r1, r2⟩ := ZpG x x.length hm
 exact Classical.byContradiction fun q => by
  have := (r1 ⟨q, hm⟩).ft
  omega
theorem Zyg {x : List Ent} {B : Bk} (h : Go x B) : ¬ 0 <= (ZcG x x.length).1 := h.nf.1
def prE : En := .rows [.slice 1, .slice 1]
def pAr2 (b x c : SX) : Ch := .arr prE b x c
def prC (R W : SX) : Ch := .prd 110 R W
theorem Zog : ∀ {R W : List (List Int)} {h : Hl}, prH R W h -> R.length = W.length
 | [], [], _, _ => rfl
 | r :: R, w :: W, h, hp => by
  obtain ⟨_, _, _, _, _, hb⟩ := hp
  rw [ZOi, ZOi, Zog hb]
 | [], _ :: _, _, hp => hp.elim
 | _ :: _, [], _, hp => hp.elim
theorem Zye : ∀ {R W : List (List Int)} (R' W' : List (List Int)), R.length = W.length -> prH (R ++ R') (W ++ W') = Zc (prH R W) (prH R' W')
 | [], [], R', W', _ => by show prH R' W' = Zc emp _; rw [emp_star]
 | r :: R, w :: W, R', W', h => by
  show Zc _ (prH (R ++ R') (W ++ W')) = Zc (Zc _ _) _
  rw [Zye R' W' (by simpa using h), star_assoc]
theorem ZyB (r w : List Int) : prH [r] [w] = itP r w := by show Zc _ emp = _; rw [Zf]
def ZJA : Ctr := ⟨[], [], [], [], [], .tup [], [prC Zdu Zdu], []⟩
def ZBg : Ctr := ⟨[.int, .int, .int, .int, .int, .int, .rows, .rows, .bytes, .bytes], [.one (slC (ai 0) (ai 1) (ai 2) 1), .one (slC (ai 3) (ai 4) (ai 5) 1)], [prC (rA 6) (rA 7), bAr (ai 0) (bA 8) (ai 2), bAr (ai 3) (bA 9) (ai 5)],
 [.f2 45 (ai 1) (ZDf (bA 8)), .f2 45 (ai 4) (ZDf (bA 9)), eLe (ai 1) (ai 2), eLe (ai 4) (ai 5), eLe z0 (ai 0), eLe z0 (ai 3)], [], .tup [],
 [prC (.f2 121 (rA 6) (.f2 124 (Zca (ai 0) (ai 1) (ai 2) (ai 3) (ai 4) (ai 5)) Zdu)) (.f2 121 (rA 7) (.f2 124 (ZT (.f1 35 (bA 8)) (.f1 35 (bA 9))) Zdu))], []⟩
theorem ZuB (S : Sig GG) (hS : FiSig S) : Zbm S ZJA := by
 refine Yp S fun T w0 ρ h hu hp hd hr hpre => ⟨ρ, Ext.refl _ _, ?_, by intro x hx; exact nomatch hx⟩
 have hT := hS.p110
 rw [<- hp] at hT
 have e1 : hpDen T ρ w0 ZJA.pre = emp := rfl
 have e2 : hpDen T ρ w0 ZJA.post = Zc (T.prd 110 w0 (Zdu.den T ρ) (Zdu.den T ρ)) emp := rfl
 rw [e1] at hpre
 rw [e2, Zf, hT]
 exact hpre
theorem Zn5 {G : Type} {S : Sig G} {ρ : Go.Eng.Env G} {a b : SX} (h : ((SX.f2 45 a b).den S ρ).tP) : (a.den S ρ).tI = (b.den S ρ).tI := by
 have h : (ap2 45 (a.den S ρ) (b.den S ρ)).tP := h
 rw [p45] at h; exact h
theorem ZMK (S : Sig GG) (hS : FiSig S) : Zbm S ZBg := by
 refine Yp S fun T w0 ρ h hu hp hd hr hpre => ⟨ρ, Ext.refl _ _, ?_, by intro x hx; exact nomatch hx⟩
 have hT := hS.p110
 rw [<- hp] at hT
 have e1 : hpDen T ρ w0 ZBg.pre = Zc (T.prd 110 w0 ((rA 6).den T ρ) ((rA 7).den T ρ)) (Zc (bAD (ρ 0).tI (ρ 8).tB (ρ 2).tI) (Zc (bAD (ρ 3).tI (ρ 9).tB (ρ 5).tI) emp)) := rfl
 have e2 : hpDen T ρ w0 ZBg.post = Zc (T.prd 110 w0 ((SX.f2 121 (rA 6) (.f2 124 (Zca (ai 0) (ai 1) (ai 2) (ai 3) (ai 4) (ai 5)) Zdu)).den T ρ) ((SX.f2 121 (rA 7) (.f2 124 (ZT (.f1 35 (bA 8)) (.f1 35 (bA 9))) Zdu)).den T ρ)) emp := rfl
 have q0 := Zn5 (hr (.f2 45 (ai 1) (ZDf (bA 8))) (by simp [ZBg]))
 have q1 := Zn5 (hr (.f2 45 (ai 4) (ZDf (bA 9))) (by simp [ZBg]))
 have q2 := hr (eLe (ai 1) (ai 2)) (by simp [ZBg])
 have q3 := hr (eLe (ai 4) (ai 5)) (by simp [ZBg])
 have q4 := hr (eLe z0 (ai 0)) (by simp [ZBg])
 have q5 := hr (eLe z0 (ai 3)) (by simp [ZBg])
 rw [Zh] at q2 q3 q4 q5
 simp only [SX.den, ai, z0, ZDf, bA, ZEp, Zt, Zo7, U.tIi, U.tBi] at q0 q1 q2 q3 q4 q5
 rw [e1, Zf, hT] at hpre
 have k0 : ((rA 6).den T ρ).tR = (ρ 6).tR := rfl
 have k1 : ((rA 7).den T ρ).tR = (ρ 7).tR := rfl
 rw [k0, k1] at hpre
 have hl : (ρ 6).tR.length = (ρ 7).tR.length := by
  obtain ⟨_, _, _, _, ha, _⟩ := hpre; exact Zog ha
 have k2 : ((SX.f2 121 (rA 6) (.f2 124 (Zca (ai 0) (ai 1) (ai 2) (ai 3) (ai 4) (ai 5)) Zdu)).den T ρ).tR = (ρ 6).tR ++ [[(ρ 0).tI, (ρ 1).tI, (ρ 2).tI, (ρ 3).tI, (ρ 4).tI, (ρ 5).tI]] := rfl
 have k3 : ((SX.f2 121 (rA 7) (.f2 124 (ZT (.f1 35 (bA 8)) (.f1 35 (bA 9))) Zdu)).den T ρ).tR = (ρ 7).tR ++ [[((Zs (ρ 8).tB : Nat) : Int), ((Zs (ρ 9).tB : Nat) : Int)]] := rfl
 rw [e2, Zf, hT, k2, k3, Zye _ _ hl, ZyB]
 refine Zv (fun _ h => h) (fun h' hh => ⟨?_, ?_⟩) h hpre
 ·unfold itF txt tx1
  simp only [g0, g1, g2, List.getD_cons_zero, List.getD_cons_succ, ZN5, Zo]
  exact ⟨q0, q1, q2, q3, q4, q5⟩
 ·unfold txt tx1
  simp only [g0, g2, List.getD_cons_zero, List.getD_cons_succ, ZN5, Zo]
  exact hh
theorem ZDT {α : Type} [DecidableEq α] : ∀ {a b : List α}, a.Nodup -> (∀ x ∈ a, x ∈ b) -> a.length <= b.length
 | [], b, _, _ => Nat.zero_le _
 | x :: a, b, h, hs => by
  rw [List.nodup_cons] at h
  have hx : x ∈ b := hs x ZN6
  have ih : a.length <= (b.erase x).length := ZDT h.2 fun y hy => (List.mem_erase_of_ne (fun e => h.1 (by rw [<- e]; exact hy))).2 (hs y (ZN4 _ hy))
  have hp : 0 < b.length := List.length_pos_of_mem hx
  rw [List.length_erase_of_mem hx] at ih
  rw [ZOi]; omega
theorem ZEh {x : List Ent} {B : Bk} (h : Go x B) (key : List UInt8) : ∀ k ≤ B.kept.length, (stF B k (Zs key : Nat)).1 = true -> ∃ i < x.length, ZV (xa x i) = key
 | 0, _, e => by cases e
 | k + 1, hk, e => by
  obtain ⟨t1, t2⟩ := h.tx (h.kt (k := k) (by omega))
  have hc := ZuS t2 h.nf key
  rw [<- t1] at hc
  have e1 : stF B (k + 1) (Zs key : Nat) = if Zx (B.txs.getD (B.kept.getD k 0) tx0).ch (Zs key : Nat) = true then (true, vw (YC 0 (B.txs.getD (B.kept.getD k 0) tx0).ch (Zs key : Nat))) else stF B k (Zs key : Nat) := rfl
  rw [e1] at e
  by_cases hm : Zx (B.txs.getD (B.kept.getD k 0) tx0).ch (Zs key : Nat) = true
  ·rw [hc.1] at hm
   have hl := Zoy (of_decide_eq_true hm)
   exact ⟨_, hl.1, hl.2⟩
  ·rw [if_neg hm] at e
   exact ZEh h key k (by omega) e
theorem ZHc {x : List Ent} {B : Bk} (h : Go x B) {m : List (Int × Int)} (hm : ZgU m (stF B B.kept.length)) (hc : canM m) : m.length <= x.length := by
 have h1 : (m.map (·.1)).length <= ((List.range x.length).map fun i => ((Zs (ZV (xa x i)) : Nat) : Int)).length := by
  refine ZDT hc.1 fun k hk => ?_
  have hh : Zx m k = true := Zrn.2 hk
  obtain ⟨p, hp, rfl⟩ := List.mem_map.1 hk
  obtain ⟨s, hs⟩ := hc.2 p hp
  rw [hs] at hh ⊢
  have a := hm (Zs s : Nat)
  rw [hh] at a
  obtain ⟨i, hi, e⟩ := ZEh h s _ (ZNO _) a.1.symm
  exact List.mem_map.2 ⟨i, List.mem_range.2 hi, by rw [e]⟩
 simpa using h1
theorem Zn1 {x : List Ent} (h : Zqn x ≠ 0) : finR' x = [] := by unfold finR'; rw [if_neg h]
theorem ZBr {x : List Ent} (h : Zqn x = 0) : finR' x = ZMv x := by unfold finR'; rw [if_pos h]
theorem ZEs (m : List (Int × Int)) (R : List (List Int)) (n : Nat) : ZjT (mvF m) R (n + 1) = if (YC 0 m (Zs (YW ((R.getD n []).getD 0 0).toNat) : Nat)).tmod 2 = 0 then
  ZjT (mvF m) R n ++ [[((Zs (YW ((R.getD n []).getD 0 0).toNat) : Nat) : Int), ((Zs (YW ((YC 0 m (Zs (YW ((R.getD n []).getD 0 0).toNat) : Nat)).tdiv 2).toNat) : Nat) : Int)]] else ZjT (mvF m) R n := by
 show (if decide ((YC 0 m (Zs (YW ((R.getD n []).getD 0 0).toNat) : Nat)).tmod 2 = 0) = true then _ else _) = _
 by_cases h : (YC 0 m (Zs (YW ((R.getD n []).getD 0 0).toNat) : Nat)).tmod 2 = 0
 ·rw [if_pos h, if_pos (decide_eq_true h)]; rfl
 ·rw [if_neg h, if_neg (by rw [decide_eq_true_eq]; exact h)]
theorem ZvZ (f : Kf) (R : List (List Int)) : ∀ n, (ZjT f R n).length <= n
 | 0 => ZNO _
 | n + 1 => by
  have ih := ZvZ f R n
  unfold ZjT
  split
  ·rw [ZN3, ZNM]; omega
  ·omega
theorem ser_e {x : List Ent} (h : Zb5 x ≠ 0) : Zqn x = Zb5 x := by unfold Zqn; rw [if_pos h]
def finW : SX := usR 603 xX z0 z0
def ZzH : Ctr := ⟨hA, [.one (hS 0)], [hC 0 0], [eLe z0 (ai 2), eLe (ai 2) (Zj (rA 4)), eLe (ai 2) (ai 3), eLe (ai 2) (.int 1099511627776)], [.int, .rows, .int, .int], .tup [(false, [slC (ai 6) (Zj (rA 7)) (ai 8) 2]), (false, [.int .i64 (ai 9)])],
 [hC 0 0, pAr2 (ai 6) (rA 7) (ai 8), prC (rA 7) finW], [.f2 45 (ai 9) (usI 604 xX z0 z0), .f2 45 (Zj (rA 7)) (Zj finW), eLe (Zj (rA 7)) (ai 8), .f2 50 (eLe z0 (ai 6)) (.f2 45 (Zj (rA 7)) z0)]⟩
def fnkI (m R : Nat) : Inv := ⟨[.int, .amap], [(34, .one (.int .i64 (di 0)))], [scC (ai m) (mA 1000001)], [eLe z0 (di 0), eLe (di 0) (Zj (bK (rA R))), usB 596 xX (di 0) (mA 1000001)], .f2 41 (Zj (bK (rA R))) (di 0)⟩
def fnK (m : Nat) : SX := usR 601 (mA m) z0 z0
def fnoI (m : Nat) : Inv := ⟨[.int, .int, .rows, .int], [(48, .one (.int .i64 (di 0))), (9, .one (slC (di 1) (Zj (rA 1000002)) (di 3) 2))], [pAr2 (di 1) (rA 1000002) (di 3), prC (rA 1000002) (usR 602 (mA m) (fnK m) (di 0))],
 [eLe z0 (di 0), eLe (di 0) (Zj (fnK m)), .f2 45 (Zj (rA 1000002)) (Zj (usR 602 (mA m) (fnK m) (di 0))), eLe (Zj (rA 1000002)) (di 3), .f2 50 (eLe z0 (di 1)) (.f2 45 (Zj (rA 1000002)) z0)], .f2 41 (Zj (fnK m)) (di 0)⟩
def ZNB : Cx := { specs := [(25, [ZlZ]), (26, [ZlI]), (27, [ZAN])], anns := [(12, [(3, .ghost ZJA []), (4, .ghost Zl2 [.tmp 0, .tmp 4]), (5, .ghost ZJA []), (8, .inv (fnkI 14 13)), (10, .ghost ZqW [.tmp 8]), (500010, .ghost ZjV [.tmp 8]), (12, .ghost ZJA []), (13, .ghost canC [.tmp 6]), (14, .inv (fnoI 16)), (500018, .ghost ZBg [.tmp 60, .tmp 63])])] }
def Ze8 : SX := .f2 115 (r 4) (a 2)
def ZIc : SX := l z (a 6)
def ZC0 : SX := e (a 7) z
def ZBk : SX := v 604 Ze8
def ZBG : SX := vR 603 Ze8
def ZGG : SX := .f1 32 ZBG
def ZH1 : SX := e z ZGG
def ZGd : SX := .f2 155 ZBG (.f1 154 z)
def Zmw : SX := .f1 32 Ze8
def ZB1 : SX := hR0 548 Ze8 Zmw (r 13)
def Zc7 : SX := .f1 32 ZB1
def Zpd : SX := .f1 32 (wR 549 Ze8 Zmw)
def ZhB : SX := f 561 Ze8 Zmw
def Zum : SX := d 550 Ze8 Zmw
def Zpn : SX := .f3 112 ZB1 (a 15) z
def Zb8 : SX := d 566 (r 13) Zpn
def Zvx : SX := .f3 112 (r 13) Zb8 z
def Zte : SX := v 552 ZhB
def Zwm : SX := .f1 32 (wR 545 ZhB Zb8)
def Zxf : SX := .f1 30 (wN 546 ZhB Zb8)
def ZhZ : SX := .f2 40 (a 15) (k 1)
def Zvb : SX := .f2 41 Zc7 ZhZ
def Ziq : SX := vR 601 (m 16)
def ZeY : SX := .f1 32 Ziq
def ZyF : SX := wR 602 (m 16) Ziq
def ZkN : SX := hR0 602 (m 16) Ziq (a 19)
def ZxK : SX := .f1 36 (.f3 112 Ziq (a 19) z)
def ZAk : SX := .f1 35 ZxK
def ZwP : SX := .f3 140 z (m 16) ZAk
def Zt5 : SX := e (.f2 44 ZwP (k 2)) z
def ZqE : SX := .f1 31 ZxK
def Zul : SX := .f1 36 (.f2 43 ZwP (k 2))
def Zpw : SX := .f1 31 Zul
def Zlg : SX := .f2 40 (.f1 32 (r 21)) (k 1)
def ZhN : SX := .f2 40 (a 19) (k 1)
def Zu5 : SX := .f1 23 ZhN
def Zv7 : SX := .f2 41 ZeY ZhN
def Zvo : SX := l z Zv7
def Zyu : SX := t Zv7 (.f2 41 ZeY (a 19))
def ZsN : SX := l z ZhN
def ZBa : SX := l ZhN ZeY
def Zqs : SX := hR0 602 (m 16) Ziq ZhN
def Zv9 : SX := .f1 32 Zqs
def ZM0 : VC := i (l z (a 2)) (i (l (a 2) (.f1 32 (r 4))) (i (l (a 2) (a 3)) (i (l (a 2) k0) (u 6 .int (u 7 .int (i (e (a 7) (v 523 Ze8)) (i (.f2 48 ZIc ZC0) (.and (i (.f1 2 ZC0) (n (e (a 7) ZBk) (n ZH1 (n ZGd .tt)))) (i ZC0 (n ZIc (u 8 .int (u 9 .int (u 10 .int (u 11 .int (u 12 .int (u 13 .rows (i (l z (a 8)) (i (l Zc7 (a 10)) (i (.f2 50 (l z (a 9)) (e Zc7 z)) (i (l Zpd (a 12)) (i (.f2 50 (l z (a 11)) (e Zpd z)) (i (c 558 (r 13) ZhB) (i (c 560 ZB1 (r 13)) (i (l Zc7 Zmw) (i (l Zpd Zmw) (.and (i (l z Zum) (n (e (k 280) ZBk) (n ZH1 (n ZGd .tt)))) (i (t Zum z) (u 14 .int (i (l z (a 14)) (n (y 596 Ze8 z (.f1 155 z)) (u 15 .int (u 16 .amap (i (l z (a 15)) (i (l (a 15) Zc7) (i (y 596 Ze8 (a 15) (m 16)) (.and (i (t (a 15) Zc7) (n (c 565 (r 13) Zpn) (i (e Zpn Zvx) (i (t Zb8 Zte) (i (l Zwm (.f3 112 (r 13) Zb8 (k 3))) (i (l Zxf (.f3 112 (r 13) Zb8 (k 5))) (i (.f2 50 (l z (.f3 112 (r 13) Zb8 (k 2))) (e Zwm z)) (i (.f2 50 (l z (.f3 112 (r 13) Zb8 (k 4))) (e Zxf z)) (i (l z (.f3 112 (r 13) Zb8 (k 1))) (i (l z Zvx) (i (e (.f1 32 (r 13)) Zte) (u 17 .amap (i (y 531 (m 16) (wM0 544 ZhB Zb8) (m 17)) (n (l z Zb8) (n (.f1 23 ZhZ) (n (l z Zvb) (n (t Zvb (.f2 41 Zc7 (a 15))) (n (l z ZhZ) (n (l ZhZ Zc7) (n (y 596 Ze8 ZhZ (m 17)) .tt)))))))))))))))))))) (i (l Zc7 (a 15)) (i (p 606 (m 16)) (n (l (.f1 33 (m 16)) (k 1048576)) (u 17 .int (u 18 .int (i (l ZeY (a 18)) (n (e z (.f1 32 ZyF)) (n (.f2 155 ZyF (.f1 154 z)) (u 19 .int (u 20 .int (u 21 .rows (u 22 .int (i (l z (a 19)) (i (l (a 19) ZeY) (i (e (.f1 32 (r 21)) (.f1 32 ZkN)) (i (l (.f1 32 (r 21)) (a 22)) (i (.f2 50 (l z (a 20)) (e (.f1 32 (r 21)) z)) (.and (i (t (a 19) ZeY) (u 23 .int (i (l z (a 23)) (.and (i Zt5 (u 24 .int (u 25 .int (i (l ZqE (a 25)) (i (l z (a 24)) (u 26 .int (u 27 .int (i (l Zpw (a 27)) (i (l z (a 26)) (u 28 .int (i (l z (a 28)) (n (l (.f1 32 (r 21)) (.f1 32 (r 21))) (n (l (.f2 42 Zlg (k 48)) k1) (u 29 .int (u 30 .int (i (l Zlg (a 30)) (i (.f2 50 (l z (a 29)) (e Zlg z)) (n (e ZqE ZqE) (n (e Zpw Zpw) (n Zu5 (n Zvo (n Zyu (n ZsN (n ZBa (n (e Zlg Zv9) (n (.f2 155 Zqs (.f2 121 ZkN (.f2 124 (.f2 122 ZAk (.f2 122 (.f1 35 Zul) (.f1 152 z))) (.f1 154 z)))) .tt)))))))))))))))))))))))))) (i (.f1 2 Zt5) (n Zu5 (n Zvo (n Zyu (n ZsN (n ZBa (n (e (.f1 32 (r 21)) Zv9) (n (.f2 155 Zqs ZkN) .tt)))))))))))) (i (l ZeY (a 19)) (n (e z ZBk) (n (e (.f1 32 (r 21)) ZGG) (n (.f2 155 ZBG ZkN) .tt))))))))))))))))))))))))))))))))))))))))))))))))))))))))))
theorem ZKC : Yq Tryz.prog ZNB 12 12 ZzH = ZM0 := by kernel_rfl
theorem ZM7 (S : Sig GG) (hS : FiSig S) : Zy S Tryz.prog 12 ZzH := by
 refine Ze S (C := ZNB) (fuel := 12) (ZQ ⟨Zg (by decide) (ZyT S hS.js.jt), Zg (by decide) (Zxp S hS.js.jt.jb), Zg (by decide) (ZNG S hS), trivial⟩ ⟨⟨⟨by decide, ZuB S hS⟩, ⟨by decide, Znw S hS.js.jt⟩, ⟨by decide, ZuB S hS⟩, trivial, ⟨by decide, ZcE S hS.js.jt⟩, ⟨by decide, Zcr S hS.js.jt⟩, ⟨by decide, ZuB S hS⟩, ⟨by decide, ZMC S hS⟩, trivial, ⟨by decide, ZMK S hS⟩, trivial⟩, trivial⟩ trivial) fun ρ => ?_
 rw [ZKC]
 simp only [ZM0, Ze8, ZIc, ZC0, ZBk, ZBG, ZGG, ZH1, ZGd, Zmw, ZB1, Zc7, Zpd, ZhB, Zum, Zpn, Zb8, Zvx, Zte, Zwm, Zxf, ZhZ, Zvb, Ziq, ZeY, ZyF, ZkN, ZxK, ZAk, ZwP, Zt5, ZqE, Zul, Zpw, Zlg, ZhN, Zu5, Zv7, Zvo, Zyu, ZsN, ZBa, Zqs, Zv9, hS.js.jt.jb.rf.u523, hS.js.jt.jb.u531, hS.js.jt.u544, hS.js.jt.u545, hS.js.jt.u546, hS.js.jt.u548, hS.js.jt.u549, hS.js.jt.u550, hS.js.jt.u552, hS.js.jt.u558, hS.js.jt.u560, hS.js.jt.u561, hS.js.jt.u565, hS.js.jt.u566, hS.js.u596, hS.u601, hS.u602, hS.u603, hS.u604, hS.u606, ZI, ZN5, VC.den, SX.den, Env.upd, ZS, ZD, beq_iff_eq, ZNX, beq_eq_false_iff_ne, ne_eq, ZNW, ZNV, Int.reduceToNat, Nat.reduceEqDiff, reduceIte, sB, sC]
 generalize hX : (ρ 4).tR.take (ρ 2).tI.toNat = X
 generalize hlen : (ρ 2).tI = l at *
 intro h1 h2 h3 h4
 have hl : l = (X.length : Nat) := by rw [<- hX, ZN0]; omega
 subst hl
 clear hX hlen
 simp only [ZN5, ZjS]
 intro b e he hb
 have hpl : ∀ (R : List (List Int)) (ks : List Nat), (Zbh R ks).length = ks.length := fun R ks => by unfold Zbh; rw [ZN8]
 simp only [hpl, Zjk, ZfB, ZN5]
 refine ⟨fun hne => ?_, fun h0 => ⟨?_, ?_⟩⟩
 ·have hn : Zb5 X ≠ 0 := by rw [<- he]; exact hne
  have hf := ser_e hn
  exact ⟨by rw [hf]; exact he, by rw [Zn1 (by rw [hf]; exact hn)]; rfl, Zn1 (by rw [hf]; exact hn), trivial⟩
 ·rw [h0] at hb; exact Za.1 (by rw [hb]; rfl)
 have hc : Zb5 X = 0 := by rw [<- he]; exact h0
 intro ma kb kc ob oc R q1 q2 q3 q4 q5 q6 q7 q8 q9
 refine ⟨fun hf => ?_, fun hf => ?_⟩
 ·have hT := ZlP hc hf
  have hg : Zqn X = 280 := by
   have ht : 0 <= (ZcG X X.length).1 := Zht hc hf
   unfold Zqn; rw [if_neg (by rw [hc]; exact fun h => h rfl), if_pos ht]
  have hb : finR' X = [] := Zn1 (by rw [hg]; omega)
  exact ⟨hg.symm, by rw [hb]; rfl, hb, trivial⟩
 have hgo : Go X (Z4 X X.length) := ZE2 hc hf
 have h400 := ZiR hc
 have hE : Zqn X = 0 := by
  have ht : ¬ 0 <= (ZcG X X.length).1 := Zyg hgo
  unfold Zqn; rw [if_neg (by rw [hc]; exact fun h => h rfl), if_neg ht]
 rw [ZBr hE]
 have hkept : ∀ n < (Z4 X X.length).kept.length, (Z4 X X.length).kept.getD n 0 < R.length := fun n hn => by rw [q6.1]; exact (hgo.kw hn).1
 have hmst := @ZpA (Z4 X X.length)
 have hnl := fun m hm hcn => ZHc hgo (m := m) hm hcn
 have hfe := fun m hm hcn => ZKy hgo (m := m) hm hcn
 generalize Z4 X X.length = B at *
 intro nb hnb
 refine ⟨map_nil B, fun k M j1 j2 j3 => ?_⟩
 obtain ⟨n, rfl⟩ := ZNQ j1
 have en : ((n : Int) + 1).toNat = n + 1 := by omega
 simp only [ZN5, en] at j3 ⊢
 refine ⟨fun hn => ?_, fun hn => ?_⟩
 ·have hn : n < B.kept.length := by omega
  have hJ := hkept n hn
  have hri := ZaL q6.2.1 hJ
  simp only [Zz1 hn, hri, Zct]
  refine ⟨⟨_, hJ, rfl⟩, fun _ _ _ _ _ _ _ _ _ M' hl => ⟨by omega, ⟨by omega, by omega⟩, by omega, by omega, by omega, by omega, hmst j3 rfl hl, trivial⟩⟩
 ·have hn : n = B.kept.length := by omega
  subst hn
  refine fun hcn => ⟨by have := hnl M j3 hcn; omega, fun kb' kc' p1 => ⟨rfl, rfl, fun i ob' R' oc' g1 g2 g3 g4 g5 => ?_⟩⟩
  have hfin := hfe M j3 hcn
  have hml := hnl M j3 hcn
  have hkl := ZpI M
  obtain ⟨m, rfl⟩ := ZNQ g1
  have em : ((m : Int) + 1).toNat = m + 1 := by omega
  simp only [ZN5, em] at g3 ⊢
  have hst := ZEs M (Zsb M) m
  refine ⟨fun hm _ _ => ⟨fun hd _ _ _ _ _ _ _ _ _ _ => ⟨by omega, ?_, fun _ _ _ _ => ?_⟩, fun hd => ?_⟩, fun hm => ?_⟩
  ·have := ZvZ (mvF M) (Zsb M) m
   omega
  ·rw [if_pos hd] at hst
   rw [hst]
   exact ⟨trivial, trivial, ⟨by omega, by omega⟩, by omega, by omega, by omega, by omega, by simp; omega, rfl, trivial⟩
  ·rw [if_neg hd] at hst
   rw [hst]
   exact ⟨⟨by omega, by omega⟩, by omega, by omega, by omega, by omega, g3, rfl, trivial⟩
  ·have hm : m = (Zsb M).length := by omega
   subst hm
   rw [hfin] at g3 ⊢
   exact ⟨hE.symm, g3, rfl, trivial⟩
end
end Go.Proofs.YtidlngnhjffepaaGreat
namespace Go.Proofs.YtidlngnhjffepaaGreat.colV
open Go.RowKit Go.Maps Go.Sort Go.Shelf Go.Proofs
abbrev encPt (p : Nat) : Value := .pointer (some ⟨p, 0, none⟩)
def SeqB {α : Type} (F : Fence) (n : Nat) (P : Program) (g : Nat) (lb : Array Value) (enc : α -> Value) (S : List α -> Prop) (N : Nat) (w : World) : Prop :=
 ∀ (l : Nat) (J : List α -> World -> Prop) (W : World), Below w.heap.size w W →
  (∀ pre x W1, J pre W1 -> pre.length < N -> YieldAt F (n - 1) P l #[enc x] W1 fun e W' => e = .returned (.bool true) /\ J (pre ++ [x]) W' /\ Below w.heap.size W1 W') →
  J [] W -> CallsIn F n P g (#[.func (.yield l) #[] #[]] ++ lb) W fun e W' => (∃ v, e = .returned v) /\ ∃ xs, S xs /\ J xs W'
def ZiA : Code := (Code.region 2 #[{ dst := some 5, op := Op.assign (Operand.tmp 7), type := 66, pos := "iter.go:51", after := #[], guard := none }] false)
def Zvk : Code := (Code.block 1 (Code.region 3 #[{ dst := some 8, op := Op.load 60 (Operand.tmp 2), type := 60, pos := "iter.go:52", after := #[], guard := none }, { dst := some 9, op := Op.move (Operand.tmp 5), type := 66, pos := "iter.go:52", after := #[], guard := none }, { dst := some 10, op := Op.buildSlice 60 1 #[(0, Operand.tmp 9)], type := 60, pos := "iter.go:52", after := #[{ on := 1, ground := Ground.data }], guard := none }, { dst := some 11, op := Op.call { callee := Callee.builtin Builtin.append, args := #[Operand.tmp 8, Operand.tmp 10], argTypes := #[60, 60] }, type := 60, pos := "iter.go:52", after := #[{ on := 0, ground := Ground.data }, { on := 2, ground := Ground.data }], guard := none }, { dst := none, op := Op.store 60 (Operand.tmp 2) (Operand.tmp 11), type := 0, pos := "iter.go:52", after := #[{ on := 3, ground := Ground.data }, { on := 3, ground := Ground.chain }, { on := 0, ground := Ground.phase }, { on := 1, ground := Ground.phase }, { on := 2, ground := Ground.phase }, { on := 3, ground := Ground.phase }], guard := none }] false))
def ZgK (fn : FuncId) (sv : Value) (Bs D : Nat) (st : LoopState) (pend : Option Code) : Loop :=
 { state := st, pending := pend, fn, tmps := #[.slice none 0 0, sv, .pointer (some ⟨Bs, 0, none⟩), undef, .slice none 0 0, undef, sv, undef, undef, undef, undef, undef, undef], params := #[7], assign := ZiA, body := Zvk, defers := D }
structure ApAt (w0 : World) (fn : FuncId) (sv : Value) (Bs l D : Nat) (ss : List Nat) (W : World) : Prop where
 box : ∃ v, W.heap[Bs]? = some (.cells #[v] 60 (0, 0)) /\ W.ownsRow w0.heap.size 66 1 v ss.length (ss.map encPt) /\ (v = .slice none 0 0 ↔ ss = [])
 L : W.heap[l]? = some (.loop (ZgK fn sv Bs D .ready none))
 K : W.heap[D]? = some (.deferred (some []))
 below : Below w0.heap.size w0 W
theorem Yb (W : World) (l : Nat) (o : Obj) : W.grownBy (W.putObj l o) (some l) :=
 ⟨rfl, rfl, rfl, by simp, fun k _ hk => World.putObj_heap_other (fun e => hk (by rw [e]))⟩
theorem Zfc (W : World) (b : Nat) (v : Value) : W.grownBy (W.setCell ⟨b, 0, none⟩ v) (some b) :=
 ⟨rfl, rfl, rfl, (KeepsWalks.setCell W _ v).size, fun k _ hk => Below.heap_setCell _ _ _ k (fun e => hk (by rw [e]))⟩
theorem ZaH {W : World} {base : Nat} {e : TypeId} {size : Nat} {v : Value} {k : Nat} {xs : List Value} (h : W.ownsRow base e size v k xs) {j : Nat} {o : Obj} (hj : W.heap[j]? = some o) (hno : ∀ cur, o ≠ .cells cur e (0, 0)) :
  v.ownBlock = none \/ v.ownBlock ≠ some j := by
 rcases h.2 with ⟨rfl, _⟩ | ⟨g, cap, cur, rfl, _, hgb, _⟩
 ·exact .inl rfl
 ·refine .inr fun e' => ?_
  have : g = j := by simpa [Value.ownBlock] using e'
  subst this; rw [hgb] at hj; cases hj; exact hno cur rfl
theorem Zdi {W : World} {B : Nat} {v : Value} {t : TypeId} (h : W.heap[B]? = some (.cells #[v] t (0, 0))) : W.cell? ⟨B, 0, none⟩ = some v /\ W.frozen? ⟨B, 0, none⟩ = false := by
 constructor <;> simp [World.cell?, World.frozen?, h]
theorem Ze7 {W : World} {B : Nat} {v : Value} {t : TypeId} (v' : Value) (h : W.heap[B]? = some (.cells #[v] t (0, 0))) : (W.setCell ⟨B, 0, none⟩ v').heap[B]? = some (.cells #[v'] t (0, 0)) := by
 obtain ⟨hlt, hk⟩ := Array.getElem?_eq_some_iff.1 h
 show (W.heap.modify B _)[B]? = _
 rw [Array.getElem?_eq_getElem (by rw [Array.size_modify]; exact hlt), Array.getElem_modify_self, hk]
 rfl
theorem Zfd {W : World} {base : Nat} {e : TypeId} {size : Nat} {v : Value} {k : Nat} {xs : List Value} (h : W.ownsRow base e size v k xs) : ∀ (j : Nat) (o : Obj), v.ownBlock = some j -> W.heap[j]? = some o -> o.isWalk = false := by
 intro j o hj ho
 rcases h.2 with ⟨rfl, _⟩ | ⟨g, cap, cur, rfl, _, hgb, _⟩
 ·simp [Value.ownBlock] at hj
 ·have : g = j := by simpa [Value.ownBlock] using hj
  subst this; rw [hgb] at ho; cases ho; rfl
theorem Tryz.info66 : (Tryz.prog.info? 66).map (fun i => (i.zero, i.size, i.bytes)) = some (some (.pointer none), 1, 8) := by kernel_rfl
set_option maxRecDepth 100000 in
set_option maxHeartbeats 2000000 in
theorem ZHO (F : Fence) (m : Nat) (w0 : World) (fn : FuncId) (hfn : F.fn fn) (sv : Value) (Bs l D : Nat) (hBl : Bs ≠ l) (hDl : D ≠ l) (hDB : D ≠ Bs) (h0B : w0.heap.size <= Bs) (h0l : w0.heap.size <= l)
  (N : Nat) (hN : N <= maxLen) (hNb : N * 8 <= 140737488355328) (ss : List Nat) (x : Nat) (W : World) (h : ApAt w0 fn sv Bs l D ss W) (hlen : ss.length < N) :
  YieldAt F m Tryz.prog l #[encPt x] W fun e W' => e = .returned (.bool true) /\ ApAt w0 fn sv Bs l D (ss ++ [x]) W' /\ KeepsWalks W W' := by
 obtain ⟨i0, hi, hz0, hz1, hz2⟩ := info_parts Tryz.info66
 obtain ⟨v, hv, hrow, _⟩ := h.box
 refine ⟨fn, #[.slice none 0 0, sv, .pointer (some ⟨Bs, 0, none⟩), undef, .slice none 0 0, undef, sv, encPt x, undef, undef, undef, undef, undef], ZiA, Zvk, by simpa [ZgK] using run_yield (P := Tryz.prog) (args := #[encPt x]) h.L rfl, roundIn_of_wpIn hfn ?_⟩
 have hl : l < W.heap.size := (Array.getElem?_eq_some_iff.1 h.L).1
 have hbr := run_beginRound (P := Tryz.prog) h.L rfl
 obtain ⟨W2, hW2⟩ : ∃ W2, W.putObj l (.loop { ZgK fn sv Bs D .ready none with state := .busy }) = W2 := ⟨_, rfl⟩
 rw [hW2] at hbr
 have hg2 : W.grownBy W2 (some l) := by rw [<- hW2]; exact Yb _ _ _
 have hk2 : KeepsWalks W W2 := by rw [<- hW2]; exact KeepsWalks.putObj _ h.L rfl
 have hv2 : W2.heap[Bs]? = some (.cells #[v] 60 (0, 0)) := by rw [<- hW2]; exact (World.putObj_heap_other hBl).trans hv
 have hK2 : W2.heap[D]? = some (.deferred (some [])) := by rw [<- hW2]; exact (World.putObj_heap_other hDl).trans h.K
 have hL2 : W2.heap[l]? = some (.loop { ZgK fn sv Bs D .ready none with state := .busy }) := by rw [<- hW2]; exact World.putObj_heap_same hl
 have hrow2 : W2.ownsRow w0.heap.size 66 1 v ss.length (ss.map encPt) := hrow.kept hg2 (ZaH hrow h.L (fun cur e => by cases e))
 have hb2 : Below w0.heap.size w0 W2 := h.below.grown hg2 h.below.size (fun k e => by cases e; exact h0l)
 obtain ⟨hc2, hf2⟩ := Zdi hv2
 have hBlt : Bs < W2.heap.size := (Array.getElem?_eq_some_iff.1 hv2).1
 have hl2 : l < W2.heap.size := (Array.getElem?_eq_some_iff.1 hL2).1
 have hDlt : D < W2.heap.size := (Array.getElem?_eq_some_iff.1 hK2).1
 have ne_of : ∀ {j : Nat} {o : Obj}, W2.heap[j]? = some o -> (∀ cur, o ≠ .cells cur 66 (0, 0)) -> some j ≠ v.ownBlock := fun hj hno => by
  rcases ZaH hrow2 hj hno with e | e
  ·rw [e]; simp
  ·exact fun e' => e e'.symm
 clear hW2
 unfold ZiA
 gi_wp2_with gi_round_op_a
 unfold Zvk
 gi_wp2_with (first
  | (
   gi_at_builtin; refine wpListIn_append_own _ rfl _ _ 60 rfl w0.heap.size 66 i0 (.pointer none) 1 8 Tryz.underlying60 hi hz0 hz1 hz2 rfl (by decide) _ _ _ rfl (hrow2.alloc _) ⟨W2.heap.size, 0, none⟩ 1 1 [encPt x] rfl rfl (cell_one_new _ _ _) (by simp [Value.oneCell', encPt]) (by omega) (by omega) (by have := hb2.size; simp; omega) ?_; intro v' w3 hown' hg3 hnil3
   have hv3 : w3.heap[Bs]? = some (.cells #[v] 60 (0, 0)) := (hg3.block Bs (by simp; omega) (ne_of hv2 (fun cur e => by cases e))).trans ((Below.heap_alloc _ _ Bs hBlt).trans hv2)
   obtain ⟨hc3, hf3⟩ := Zdi hv3
   obtain ⟨g', cap', cur', rfl, hbase', hgb', hr1, hr2, hr3, hr4⟩ : ∃ g' cap' cur', v' = .slice (some ⟨g', 0, none⟩) (ss.length + 1) cap' /\ w0.heap.size <= g' /\ w3.heap[g']? = some (.cells cur' 66 (0, 0)) /\ ss.length + 1 <= cap' /\ cap' <= maxLen /\ cur'.size = cap' * 1 /\ cur'.toList.take ((ss.length + 1) * 1) = ss.map encPt ++ [encPt x] := by
    rcases hown'.2 with ⟨_, h0⟩ | h'
    ·exact absurd h0 (by omega)
    ·exact h'
   go_frame)
  | gi_round_op_a)
 have hg3' : (W2.alloc (.cells #[encPt x] 66)).grownBy w3 v.ownBlock := hg3
 have hL3 : w3.heap[l]? = some (.loop { ZgK fn sv Bs D .ready none with state := .busy }) := (hg3'.block l (by simp; omega) (ne_of hL2 (fun cur e => by cases e))).trans ((Below.heap_alloc _ _ l hl2).trans hL2)
 have hK3 : w3.heap[D]? = some (.deferred (some [])) := (hg3'.block D (by simp; omega) (ne_of hK2 (fun cur e => by cases e))).trans ((Below.heap_alloc _ _ D hDlt).trans hK2)
 obtain ⟨w4, hw4⟩ : ∃ w4, w3.setCell ⟨Bs, 0, none⟩ (.slice (some ⟨g', 0, none⟩) (ss.length + 1) cap') = w4 := ⟨_, rfl⟩
 rw [hw4]
 have hg4 : w3.grownBy w4 (some Bs) := by rw [<- hw4]; exact Zfc _ _ _
 have hv4 : w4.heap[Bs]? = some (.cells #[.slice (some ⟨g', 0, none⟩) (ss.length + 1) cap'] 60 (0, 0)) := by rw [<- hw4]; exact Ze7 _ hv3
 have hL4 : w4.heap[l]? = some (.loop { ZgK fn sv Bs D .ready none with state := .busy }) := (hg4.block l (Array.getElem?_eq_some_iff.1 hL3).1 (fun e => hBl (by cases e; rfl))).trans hL3
 have hK4 : w4.heap[D]? = some (.deferred (some [])) := (hg4.block D (Array.getElem?_eq_some_iff.1 hK3).1 (fun e => hDB (by cases e; rfl))).trans hK3
 have hrow4 := hown'.kept hg4 (ZaH hown' hv3 (fun cur e => by cases e))
 have hl4 : l < w4.heap.size := (Array.getElem?_eq_some_iff.1 hL4).1
 have hb3 : Below w0.heap.size w0 w3 := (hb2.alloc hb2.size _).grown hg3' (by have := hb2.size; simp; omega) (fun k e => (hrow2.lt k e).1)
 have hb4 : Below w0.heap.size w0 w4 := hb3.grown hg4 hb3.size (fun k e => by cases e; exact h0B)
 have hk4 : KeepsWalks W w4 := ((hk2.trans (KeepsWalks.alloc _ _)).trans (KeepsWalks.of_grownBy hg3' (Zfd (hrow2.alloc _)))).trans (by rw [<- hw4]; exact KeepsWalks.setCell _ _ _)
 clear hw4
 refine ⟨_, _, run_endRound none hL4, rfl, ⟨⟨_, (World.putObj_heap_other hBl).trans hv4, ?_, by simp⟩, World.putObj_heap_same hl4, (World.putObj_heap_other hDl).trans hK4, hb4.grown (Yb _ _ _) hb4.size (fun k e => by cases e; exact h0l)⟩, hk4.trans (KeepsWalks.putObj _ hL4 rfl)⟩
 have := hrow4.kept (Yb w4 l (.loop { { ZgK fn sv Bs D .ready none with state := .busy } with state := if (none : Option Code).isNone then .ready else .done, pending := none })) (ZaH hrow4 hL4 (fun cur e => by cases e))
 simpa using this
theorem ZBX {n : Nat} {w0 W W' : World} (h1 : Below n w0 W) (h2 : Below n w0 W') (h3 : W.heap.size <= W'.heap.size) : Below n W W' :=
 ⟨h2.os.trans h1.os.symm, h2.tape.trans h1.tape.symm, h2.output.trans h1.output.symm, h3, fun k hk => (h2.block k hk).trans (h1.block k hk).symm⟩
theorem ZBR (F : Fence) (m : Nat) (w0 : World) (fn : FuncId) (hfn : F.fn fn) (sv : Value) (Bs l D : Nat) (hBl : Bs ≠ l) (hDl : D ≠ l) (hDB : D ≠ Bs) (h0B : w0.heap.size <= Bs) (h0l : w0.heap.size <= l)
  (N : Nat) (hN : N <= maxLen) (hNb : N * 8 <= 140737488355328) (ss : List Nat) (x : Nat) (W : World) (h : ApAt w0 fn sv Bs l D ss W) (hlen : ss.length < N) :
  YieldAt F m Tryz.prog l #[encPt x] W fun e W' => e = .returned (.bool true) /\ ApAt w0 fn sv Bs l D (ss ++ [x]) W' /\ Below w0.heap.size W W' := by
 obtain ⟨f, tm, a, b, hy, hR⟩ := ZHO F m w0 fn hfn sv Bs l D hBl hDl hDB h0B h0l N hN hNb ss x W h hlen
 exact ⟨f, tm, a, b, hy, hR.mono fun e W' ⟨q1, q2, q3⟩ => ⟨q1, q2, ZBX h.below q2.below q3.size⟩⟩
set_option maxRecDepth 100000 in
set_option maxHeartbeats 2000000 in
theorem Zld (F : Fence) (n : Nat) (h11 : F.fn 80) (hro : F.round = none) (hn : 2 <= n) (g : Nat) (lb : Array Value) (hFg : F.fn g) (eg : ∀ args w, (callFunc g args).run Tryz.prog w = .ok (.enter g args) w)
  (S : List Nat -> Prop) (N : Nat) (hN : N <= maxLen) (hNb : N * 8 <= 140737488355328) (w : World) (hseq : SeqB F (n - 1) Tryz.prog g lb encPt S N w) :
  CallsIn F n Tryz.prog 80 #[.slice none 0 0, .func (.func g) #[] lb] w fun e w' => ∃ (v : Value) (ss : List Nat), e = .returned v /\ S ss /\ w'.ownsRow w.heap.size 66 1 v ss.length (ss.map encPt) /\ (v = .slice none 0 0 ↔ ss = []) /\ Below w.heap.size w w' := by
 have h1 : 1 <= n := by omega
 refine callsIn_of_wp_marks Tryz.func80 rfl h11 ?_ hro
 simp only [Tryz.ntmps80, List.size_toArray, ZOi, List.length_nil, Nat.reduceAdd, Nat.reduceSub, Array.replicate_succ, Array.replicate_zero, List.push_toArray, List.append_toArray, List.nil_append, List.cons_append]
 gi_wp2
 refine wpIn_rangeFunc ?_
 intro fn hfn
 rw [hro]
 obtain ⟨W0, hW0⟩ : ∃ W0, w.alloc (.cells #[.slice none 0 0] 60) = W0 := ⟨_, rfl⟩
 have hs0 : W0.heap.size = w.heap.size + 1 := by rw [<- hW0]; simp
 have hv0 : W0.heap[w.heap.size]? = some (.cells #[.slice none 0 0] 60 (0, 0)) := by rw [<- hW0]; exact World.alloc_heap_new w _
 have hb0 : Below w.heap.size w W0 := by rw [<- hW0]; exact (Below.refl _ w).alloc (ZNO _) _
 rw [hW0]
 obtain ⟨W1, hW1⟩ : ∃ W1, (W0.alloc (.deferred (some []))).alloc (.loop (ZgK fn (.func (.func g) #[] lb) w.heap.size W0.heap.size .ready none)) = W1 := ⟨_, rfl⟩
 have hold : ∀ k, k < W0.heap.size -> W1.heap[k]? = W0.heap[k]? := fun k hk => by
  rw [<- hW1]; exact (Below.heap_alloc _ _ k (by simp; omega)).trans (Below.heap_alloc _ _ k hk)
 have hb1 : Below w.heap.size w W1 := by rw [<- hW1]; exact (hb0.alloc hb0.size _).alloc (by have := hb0.size; simp; omega) _
 have hs1 : W1.heap.size = W0.heap.size + 2 := by rw [<- hW1]; simp
 have hM : ApAt w fn (.func (.func g) #[] lb) w.heap.size (W0.heap.size + 1) W0.heap.size [] W1 :=
  ⟨⟨_, (hold w.heap.size (by omega)).trans hv0, ⟨rfl, .inl ⟨rfl, rfl⟩⟩, by simp⟩,
   by rw [<- hW1]; have := World.alloc_heap_new (W0.alloc (.deferred (some []))) (.loop (ZgK fn (.func (.func g) #[] lb) w.heap.size W0.heap.size .ready none)); rwa [World.size_alloc] at this,
   by rw [<- hW1]; exact (Below.heap_alloc _ _ _ (by simp)).trans (World.alloc_heap_new W0 _), hb1⟩
 refine ⟨W0.heap.size + 1, [{ target := .collected W0.heap.size, args := #[] }], W1, { target := .fn (.func g) lb, args := #[.func (.yield (W0.heap.size + 1)) #[] #[]] }, W1, g,
  #[.func (.yield (W0.heap.size + 1)) #[] #[]] ++ lb, W1, ?_, ?_, ?_, ?_, fun _ => h1, ?_⟩
 ·rw [<- hW1]; exact run_enterLoop_outer _ _ _ _ _
 ·simp [resolve, go_sem]
 ·intro f' hf'; simp [Target.leads] at hf'; subst hf'; exact hFg
 ·simp [invoke, go_sem, eg]
 ·refine (hseq (W0.heap.size + 1) (ApAt w fn (.func (.func g) #[] lb) w.heap.size (W0.heap.size + 1) W0.heap.size) W1 hb1
   (fun pre x W hJ hl => ZBR F (n - 1 - 1) w fn hfn _ w.heap.size (W0.heap.size + 1) W0.heap.size (by omega) (by omega) (by omega) (ZNO _) (by omega) N hN hNb pre x W hJ hl) hM).mono ?_
  rintro e W2 ⟨⟨v0, rfl⟩, ss, hS, h2⟩
  obtain ⟨v, hv, hrow, hnil⟩ := h2.box
  have hend := run_endLoop (P := Tryz.prog) h2.L (by simp [ZgK])
  obtain ⟨W3, hW3⟩ : ∃ W3, W2.putObj (W0.heap.size + 1) (.loop { ZgK fn (.func (.func g) #[] lb) w.heap.size W0.heap.size .ready none with state := .exhausted }) = W3 := ⟨_, rfl⟩
  rw [hW3] at hend
  have hg3 : W2.grownBy W3 (some (W0.heap.size + 1)) := by rw [<- hW3]; exact Yb _ _ _
  have hv3 : W3.heap[w.heap.size]? = some (.cells #[v] 60 (0, 0)) := by rw [<- hW3]; exact (World.putObj_heap_other (by omega)).trans hv
  have hK3 : W3.heap[W0.heap.size]? = some (.deferred (some [])) := by rw [<- hW3]; exact (World.putObj_heap_other (by omega)).trans h2.K
  have hrow3 := hrow.kept hg3 (ZaH hrow h2.L (fun cur e => by cases e))
  have hb3 : Below w.heap.size w W3 := h2.below.grown hg3 h2.below.size (fun k e => by cases e; omega)
  obtain ⟨hc3, hf3⟩ := Zdi hv3
  clear hW3
  refine ⟨none, W3, hend, ?_⟩
  gi_wp2
  rw [<- hs0]
  refine ⟨by simp, .inl ⟨_, _, rfl, run_takeDeferred hK3, ?_⟩⟩
  exact ⟨_, results_tmp rfl _ _ _, v, ss, rfl, hS, hrow3.kept (Yb _ _ _) (ZaH hrow3 hK3 (fun cur e => by cases e)), hnil, hb3.grown (Yb _ _ _) hb3.size (fun k e => by cases e; omega)⟩
set_option maxHeartbeats 1000000 in
theorem Zro (F : Fence) (n : Nat) (h8 : F.fn 64) (h11 : F.fn 80) (hro : F.round = none) (hn : 3 <= n) (g : Nat) (lb : Array Value) (hFg : F.fn g) (eg : ∀ args w, (callFunc g args).run Tryz.prog w = .ok (.enter g args) w)
  (S : List Nat -> Prop) (N : Nat) (hN : N <= maxLen) (hNb : N * 8 <= 140737488355328) (w : World) (hseq : SeqB F (n - 1 - 1) Tryz.prog g lb encPt S N w) :
  CallsIn F n Tryz.prog 64 #[.func (.func g) #[] lb] w fun e w' => ∃ (v : Value) (ss : List Nat), e = .returned v /\ S ss /\ w'.ownsRow w.heap.size 66 1 v ss.length (ss.map encPt) /\ (v = .slice none 0 0 ↔ ss = []) /\ Below w.heap.size w w' := by
 have h1 : 1 <= n := by omega
 refine callsIn_of_wp Tryz.func64 rfl h8 ?_ hro
 simp only [Tryz.ntmps64, List.size_toArray, ZOi, List.length_nil, Nat.reduceAdd, Nat.reduceSub, Array.replicate_succ, Array.replicate_zero, List.push_toArray, List.append_toArray, List.nil_append, List.cons_append]
 gi_wp2_with (gi_at_call 80; refine (Zld F (n - 1) h11 hro (by omega) g lb hFg eg S N hN hNb _ hseq).mono ?_; rintro e w' ⟨v, ss, rfl, hS, hrow, hnil, hb⟩)
 go_ret
 exact ⟨v, ss, rfl, hS, hrow, hnil, hb⟩
set_option maxHeartbeats 1000000 in
attribute [local go_sem] Oper.semAt_some
set_option maxRecDepth 100000 in
set_option maxHeartbeats 2000000 in
theorem Zsf (n : Nat) (hn : 1 <= n) (l Bs n₀ : Nat) (a : Option Addr) (len cap : Nat) (zs : List Nat) (hreach : len * 8 <= 140737488351232) (J : List Nat -> World -> Prop)
  (hY : ∀ pre x W, J pre W -> pre.length < len -> YieldAt Fence.wide (n - 1) Tryz.prog l #[encPt x] W fun e W' => e = .returned (.bool true) /\ J (pre ++ [x]) W' /\ Below n₀ W W')
  (W : World) (hBs : W.cell? ⟨Bs, 0, none⟩ = some (.slice a len cap)) (hl : len = zs.length) (hc : ∀ j (hj : j < zs.length), ∃ b, a = some ⟨b, 0, none⟩ /\ b < n₀ /\ W.cell? ⟨b, 0 + j, none⟩ = some (encPt zs[j])) (h0 : J [] W) :
  CallsIn Fence.wide n Tryz.prog 66 #[.func (.yield l) #[] #[], .pointer (some ⟨Bs, 0, none⟩)] W fun e W' => (∃ v, e = .returned v) /\ J zs W' := by
 refine callsIn_of_wp Tryz.func66 rfl trivial ?_ rfl
 simp only [Tryz.ntmps66, List.size_toArray, ZOi, List.length_nil, Nat.reduceAdd, Nat.reduceSub, Array.replicate_succ, Array.replicate_zero, List.push_toArray, List.append_toArray, List.nil_append, List.cons_append]
 gi_wp2
 gi_loopw [7] (fun i wr => ∃ k : Nat, k <= len /\ i = .int .i64 k /\ J (zs.take k) wr /\ Below n₀ W wr)
  (fun i _ => len - (intOf i).toNat)
 case atStart => exact ⟨0, Nat.zero_le _, rfl, h0, Below.refl _ _⟩
 case round =>
  obtain ⟨k, hk, rfl, hJs, hnx⟩ := hrel
  by_cases hlt : k < len
  ·have hkz : k < zs.length := by omega
   obtain ⟨b, rfl, hb, hcell⟩ := hc k hkz
   have hcx' : wr.cell? ⟨b, 0 + k, none⟩ = some (encPt zs[k]) := (hnx.cell (p := ⟨b, 0 + k, none⟩) hb).trans hcell
   obtain ⟨fn, tmps, assign, body, hy, hR⟩ := hY _ zs[k] wr hJs (by rw [ZN0]; omega)
   rw [Nat.zero_add] at hcx'
   gi_wp2
   refine hR.mono ?_
   rintro e W3 ⟨rfl, hJ3, hk3⟩
   gi_wp2
   go_roundw
   case rel => exact ⟨k + 1, by omega, by simp, by rw [List.take_succ_eq_append_getElem hkz]; exact hJ3, hnx.trans hk3⟩
   case measure => simp [intOf]; omega
  ·obtain rfl : k = len := by omega
   gi_wp2
   go_end0
   rw [hl, List.take_length] at hJs
   exact ⟨⟨_, rfl⟩, hJs⟩
theorem collected (Bs : Nat) (a : Option Addr) (cap : Nat) (zs : List Nat) (hreach : zs.length * 8 <= 140737488351232) (w : World) (hB : Bs < w.heap.size) (hBs : w.cell? ⟨Bs, 0, none⟩ = some (.slice a zs.length cap))
  (hc : ∀ j (hj : j < zs.length), ∃ b, a = some ⟨b, 0, none⟩ /\ b < w.heap.size /\ w.cell? ⟨b, 0 + j, none⟩ = some (encPt zs[j])) :
  Calls Tryz.prog 64 #[.func (.func 66) #[] #[.pointer (some ⟨Bs, 0, none⟩)]] w fun e w' => ∃ (v : Value), e = .returned v /\ w'.ownsRow w.heap.size 66 1 v zs.length (zs.map encPt) /\ (v = .slice none 0 0 ↔ zs = []) /\ Below w.heap.size w w' := by
 refine (callsIn_wide (n := 5)).1 ?_
 have hs : SeqB Fence.wide 3 Tryz.prog 66 #[.pointer (some ⟨Bs, 0, none⟩)] encPt (fun ss => ss = zs) zs.length w := fun l J W hW hY h0 =>
  (Zsf 3 (by omega) l Bs w.heap.size a zs.length cap zs hreach J hY W ((hW.cell (p := ⟨Bs, 0, none⟩) hB).trans hBs) rfl (fun j hj => by
   obtain ⟨b, h1, h2, h3⟩ := hc j hj; exact ⟨b, h1, h2, (hW.cell (p := ⟨b, 0 + j, none⟩) h2).trans h3⟩) h0).mono fun e W' ⟨q1, q2⟩ => ⟨q1, zs, rfl, q2⟩
 have hm : zs.length <= maxLen := by
  have : maxLen = 9223372036854775807 := by decide
  omega
 have h := Zro Fence.wide 5 trivial trivial rfl (by omega) 66 #[.pointer (some ⟨Bs, 0, none⟩)] trivial (enters_of Tryz.func66 (by kernel_rfl) rfl) (fun ss => ss = zs) zs.length hm (by omega) w hs
 refine h.mono ?_
 rintro e w' ⟨v, ss, rfl, rfl, h1, h2, h3⟩
 exact ⟨v, rfl, h1, h2, h3⟩
end Go.Proofs.YtidlngnhjffepaaGreat.colV
namespace Go.Proofs.YtidlngnhjffepaaGreat
open Go.Shelf Go.RowKit Go.Maps Go.Proofs
set_option maxRecDepth 100000 in
set_option maxHeartbeats 2000000 in
theorem Zsk (b : Nat) (es : Array MapEntry) (clock : Nat) (w : World) (hb : w.heap[b]? = some (.map es clock)) :
  Calls Tryz.prog 69 #[.map (some b)] w fun e w' => e = .returned (.map (some w.heap.size)) /\ w' = w.alloc (.map es clock) := by
 have hq := fun w => run_eql_map_nil_sl (P := Tryz.prog) w 65 _ _ (some b) Tryz.underlying65
 go_enter Tryz.func69, Tryz.ntmps69
 go_wp2
 rw [run_callFunc_extern Tryz.func84 (by kernel_rfl) (by kernel_rfl) (by kernel_rfl) (e := Extern.MapsClone.clone) (by kernel_rfl), run_maps_clone_sl w 65 hb]
 simp only [Result.andThen]
 rw [Oper.upon_value]
 go_wp2
 rw [run_typeAssert_map_sl _ 65 _ _ _ _ Tryz.underlying65]
 simp only [Result.andThen]
 rw [Oper.upon_value]
 go_wp2
 go_ret
 exact ⟨rfl, rfl⟩
end Go.Proofs.YtidlngnhjffepaaGreat
namespace Go.Proofs.YtidlngnhjffepaaGreat
noncomputable section
open Go.Eng
open Go.RowKit (Below)
theorem ZAu {w0 w w' : World} {H : HProp} (h : Sat w0 H w) (hb : Below w.heap.size w w') : Sat w0 H w' := by
 obtain ⟨x, hx, hi⟩ := h
 have h0 := hi.below.size
 refine ⟨x, hx, fun b o v z e => ?_, fun b o y e => ?_, hi.below.trans (hb.mono h0)⟩
 ·have hlt := hi.lt e
  have q := hi.cell _ _ _ _ e
  have hk := hb.block b hlt
  refine ⟨q.1, ?_, ?_, fun hz => ?_⟩
  ·have := q.2.1; unfold World.cell? at this ⊢; rw [hk]; exact this
  ·have := q.2.2.1; unfold World.frozen? at this ⊢; rw [hk]; exact this
  ·rw [hk]; exact q.2.2.2 hz
 ·have hlt := hi.lt e
  have q := hi.obj _ _ _ e
  exact ⟨q.1, q.2.1, by rw [hb.block b hlt]; exact q.2.2.1, q.2.2.2⟩
theorem ZCv {w0 w w' : World} {H : HProp} (h : Sat w0 H w) (hb : Below w.heap.size w w') {g : Nat} (hg : w.heap.size <= g) {cur : Array Value} {t : TypeId} (hc : w'.heap[g]? = some (.cells cur t (0, 0))) : Sat w0 (Zc (row g 0 cur.toList true) H) w' := by
 have h2 := ZAu h hb
 obtain ⟨x, hx, hi⟩ := h
 obtain ⟨hn, hcell⟩ : (∀ j, x g j = none) /\ True := by
  refine ⟨fun j => ?_, trivial⟩
  cases e : x g j with
  | none => rfl
  | some r => exact absurd (hi.lt e) (by omega)
 have hi2 : In w0 x w' := by
  have h0 := hi.below.size
  refine ⟨fun b o v z e => ?_, fun b o y e => ?_, hi.below.trans (hb.mono h0)⟩
  ·have hlt := hi.lt e
   have q := hi.cell _ _ _ _ e
   have hk := hb.block b hlt
   refine ⟨q.1, ?_, ?_, fun hz => ?_⟩
   ·have := q.2.1; unfold World.cell? at this ⊢; rw [hk]; exact this
   ·have := q.2.2.1; unfold World.frozen? at this ⊢; rw [hk]; exact this
   ·rw [hk]; exact q.2.2.2 hz
  ·have hlt := hi.lt e
   have q := hi.obj _ _ _ e
   exact ⟨q.1, q.2.1, by rw [hb.block b hlt]; exact q.2.2.1, q.2.2.2⟩
 have h0 := hi.below.size
 refine ⟨Hl.un (Zbn g 0 cur.toList true) x, ⟨_, x, ?_, rfl, rfl, hx⟩, fun b o v z e => ?_, fun b o y e => ?_, hi2.below⟩
 ·intro i j
  by_cases hig : i = g
  ·right; rw [hig]; exact hn j
  ·left; unfold Zbn; rw [if_neg (fun q => hig q.1)]
 ·unfold Hl.un at e
  cases hr : Zbn g 0 cur.toList true b o with
  | none => rw [hr] at e; exact hi2.cell _ _ _ _ e
  | some r =>
   rw [hr] at e
   injection e with e
   subst e
   unfold Zbn at hr
   by_cases hbg : b = g /\ 0 <= o
   ·rw [if_pos hbg] at hr
    obtain ⟨rfl, _⟩ := hbg
    rw [Nat.sub_zero] at hr
    cases hq : cur.toList[o]? with
    | none => rw [hq] at hr; cases hr
    | some u =>
     rw [hq] at hr
     injection hr with hr
     injection hr with e1 e2
     subst e1
     refine ⟨by omega, ?_, ?_, fun _ => ⟨_, _, hc⟩⟩
     ·unfold World.cell?; simp only [hc]
      rw [ZNN] at hq
      exact hq
     ·unfold World.frozen?; simp [hc]
   ·rw [if_neg hbg] at hr; cases hr
 ·unfold Hl.un at e
  cases hr : Zbn g 0 cur.toList true b o with
  | none => rw [hr] at e; exact hi2.obj _ _ _ e
  | some r =>
   rw [hr] at e
   injection e with e
   subst e
   unfold Zbn at hr
   split at hr
   ·cases hq : cur.toList[o - 0]? with
    | none => rw [hq] at hr; cases hr
    | some u => rw [hq] at hr; injection hr with hr; cases hr
   ·cases hr
def Zdx : Ctr := ⟨[.int, .int, .rows, .int, .int], [.one (.cap (.fn 66) (.ptr (ai 0) 0))], [.cel (ai 0) 0 [slC (ai 1) (Zj (rA 2)) (ai 3) 1], pAr (ai 1) (rA 2) (ai 4)],
 [usB 620 (rA 2) z0 z0, eLe (Zj (rA 2)) (.int 1000000)], [.int, .int], .one (slC (ai 5) (Zj (rA 2)) (ai 6) 1), [.cel (ai 0) 0 [slC (ai 1) (Zj (rA 2)) (ai 3) 1], pAr (ai 1) (rA 2) (ai 4), pAr (ai 5) (rA 2) (ai 6)],
 [eLe (Zj (rA 2)) (ai 6), .f2 50 (eLe z0 (ai 5)) (.f2 45 (Zj (rA 2)) z0)]⟩
def ZrY (ρ : Go.Eng.Env GG) (a c : Int) : Go.Eng.Env GG := (ρ.upd 5 (.int a)).upd 6 (.int c)
theorem Zb1 (ρ : Go.Eng.Env GG) (a c : Int) : Ext 5 ρ (ZrY ρ a c) := fun i hi => by
 unfold ZrY Go.Eng.Env.upd; rw [if_neg (by omega), if_neg (by omega)]
theorem ZMl (ρ : Go.Eng.Env GG) (a c : Int) : ZrY ρ a c 0 = ρ 0 := Zb1 ρ a c 0 (by decide)
theorem ZLP (ρ : Go.Eng.Env GG) (a c : Int) : ZrY ρ a c 1 = ρ 1 := Zb1 ρ a c 1 (by decide)
theorem ZkM (ρ : Go.Eng.Env GG) (a c : Int) : ZrY ρ a c 2 = ρ 2 := Zb1 ρ a c 2 (by decide)
theorem ZLJ (ρ : Go.Eng.Env GG) (a c : Int) : ZrY ρ a c 3 = ρ 3 := Zb1 ρ a c 3 (by decide)
theorem ZM2 (ρ : Go.Eng.Env GG) (a c : Int) : ZrY ρ a c 4 = ρ 4 := Zb1 ρ a c 4 (by decide)
theorem Zo0 (ρ : Go.Eng.Env GG) (a c : Int) : ZrY ρ a c 5 = .int a := rfl
theorem ZpW (ρ : Go.Eng.Env GG) (a c : Int) : ZrY ρ a c 6 = .int c := rfl
theorem ZqT {R : List (List Int)} (h : ∀ r ∈ R, 0 <= g0 r) : pE.vals (U.rows R : U GG) = (R.map fun r => (g0 r).toNat).map colV.encPt := by
 show R.flatMap (rowVals [.ptr]) = _
 induction R with
 | nil => rfl
 | cons r R ih =>
  rw [List.flatMap_cons, ZN7, ZN7, ih (fun q hq => h q (ZN4 _ hq))]
  have h0 := h r ZN6
  have : rowVals [.ptr] r = [colV.encPt (g0 r).toNat] := by
   show [if r.getD 0 0 < 0 then Value.pointer none else _] = _
   rw [if_neg (by unfold g0 at h0; omega)]; rfl
  rw [this]; rfl
theorem ZNt (S : Sig GG) (h620 : ∀ a b c d, S.usr 620 a b c d = .bool (Zn (∀ r ∈ a.tR, 0 <= g0 r))) : Zy S Tryz.prog 64 Zdx := by
 intro ch w0 F ρ w xs hx hq hsat
 obtain ⟨v, rfl, hv⟩ : ∃ v, xs = [v] /\ SV.R S ρ (.one (.cap (.fn 66) (.ptr (ai 0) 0))) v := by
  match xs, hx with
  | [v], hx => exact ⟨v, rfl, hx.1⟩
 have hv := R_one S ρ hv
 have q1 := hq (usB 620 (rA 2) z0 z0) (by simp [Zdx])
 have q2 := hq (eLe (Zj (rA 2)) (.int 1000000)) (by simp [Zdx])
 rw [Zh] at q2
 simp only [Zdx, Zp, star_assoc, Ch.den, pAr] at hsat
 rw [SX.den_wc, SX.den_wc, SX.den_wc, SX.den_wc] at hsat
 simp only [usB, SX.den, h620, YZ, Zt, ZC, U.tPi, U.tQi, Zl, U.tRi, U.tIi, ai, rA, Zj, Yf] at q1 q2 hsat
 generalize hR : (ρ 2).tR = R at *
 obtain ⟨g1, hsat⟩ := Zq hsat
 have hb0 : 0 <= (ρ 0).tI := g1.resolve_right (by simp)
 have hrow0 := hsat
 have hld := (hrow0.load (i := 0) (by simp)).1
 have hlt := hrow0.row_lt (by simp)
 have hbox : SC.den (S.wc ch) ρ (slC (.at .int 1) (.f1 32 (.at .rows 2)) (.at .int 3) 1) = slV (ρ 1).tI R.length (ρ 3).tI := by
  rw [ZcI]; simp only [SX.den, Zt, ZC, Yf, U.tIi, U.tRi, hR]
 simp only [ZN7, List.map_nil, List.getElem_cons_zero] at hld
 rw [hbox] at hld
 have hsat2 := hsat
 rw [Zm] at hsat2
 obtain ⟨spare, hsat2⟩ := Yy hsat2
 obtain ⟨e1, hsat2⟩ := Zq hsat2
 obtain ⟨e2, hsat2⟩ := Zq hsat2
 obtain ⟨e3, hsat2⟩ := Zq hsat2
 rw [ZqT q1] at e1 hsat2
 simp only [U.tIi] at e1 e2 e3 hsat2
 subst hv
 have hvd : SC.den S ρ (.cap (.fn 66) (.ptr (ai 0) 0)) = .func (.func 66) #[] #[.pointer (some ⟨(ρ 0).tI.toNat, 0, none⟩)] := by
  simp only [SC.den, SX.den, ai, Zt, U.tIi]
  rw [if_neg (by omega)]; rfl
 rw [hvd]
 have hzl : (R.map fun r => (g0 r).toNat).length = R.length := ZN8 ..
 have hcall := colV.collected (ρ 0).tI.toNat (if (ρ 1).tI < 0 then none else some ⟨(ρ 1).tI.toNat, 0, none⟩) (ρ 3).tI.toNat (R.map fun r => (g0 r).toNat) (by rw [hzl]; omega) w hlt.2
  (by rw [hzl]; unfold slV at hld; simpa using hld) (fun j hj => by
   have hb1 : 0 <= (ρ 1).tI := by
    rcases e3 with h | h
    ·exact h
    ·exfalso; rw [h] at e1; simp at e1 hj; have := e1.1; rw [this] at hj; simp at hj
   have hj2 : j < (((R.map fun r => (g0 r).toNat).map colV.encPt) ++ spare).length := by rw [ZN3, ZN8]; omega
   have hl := hsat2.load hj2
   have hlt2 := hsat2.row_lt (by intro e; rw [e] at hj2; simp at hj2)
   refine ⟨(ρ 1).tI.toNat, by rw [if_neg (by omega)], hlt2.2, ?_⟩
   rw [hl.1, List.getElem_append_left (by rw [ZN8]; exact hj), List.getElem_map])
 refine hcall.mono ?_
 rintro e w' ⟨v, rfl, ⟨hl, hor⟩, hnil, hbel⟩
 have fin : ∀ (a c : Int), Sat w0 (Zc (ZO S pE (.int a) (.rows R) (.int c)) (Zc (fun h => (0 <= (ρ 0).tI \/ ([slC (.at .int 1) (.f1 32 (.at .rows 2)) (.at .int 3) 1] : List SC) = []) /\ row (ρ 0).tI.toNat 0 (List.map (SC.den (S.wc ch) ρ) [slC (.at .int 1) (.f1 32 (.at .rows 2)) (.at .int 3) 1]) true h) (Zc (ZO S pE (.int (ρ 1).tI) (.rows R) (.int (ρ 4).tI)) (Zc (hpDen (S.wc ch) ρ w0 []) F)))) w' →
   Sat w0 (Zc (hpDen (S.wc ch) (ZrY ρ a c) w0 Zdx.post) F) w' := by
  intro a c h
  simp only [Zdx, Zp, star_assoc, Ch.den, pAr]
  repeat rw [SX.den_wc]
  simp only [ZN7, List.map_nil, SX.den, SX.den_wc, ZcI, ai, rA, Zj, Yf, Zt, ZC, U.tIi, U.tRi, ZMl, ZLP, ZkM, ZLJ, ZM2, Zo0, ZpW, hR] at h ⊢
  rw [Zm (ZO _ _ _ _ _), Zm (ZO _ _ (.int a) _ _)] at h
  exact h
 have fc : ∀ (a c : Int), (R.length : Int) <= c -> (0 <= a \/ R.length = 0) -> ∀ x ∈ Zdx.facts, (x.den S (ZrY ρ a c)).tP := by
  intro a c h1 h2 x hx
  simp only [Zdx, List.mem_cons, List.not_mem_nil, or_false] at hx
  rcases hx with rfl | rfl
  ·rw [Zh]
   simp only [SX.den, rA, ai, Zj, Zt, ZC, ZkM, ZpW, Yf, U.tIi, U.tRi, hR]; exact h1
  ·simp only [eLe, SX.mk2, SX.den, rA, ai, Zj, z0, Zt, ZC, ZkM, Zo0, Yf, p50, p45, p47, U.tIi, U.tRi, hR]
   rcases h2 with h2 | h2
   ·exact .inl (by simp [ap2, h2])
   ·exact .inr (by simp [ap2, h2])
 rcases hor with ⟨rfl, hz⟩ | ⟨gb, cap, cur, rfl, hgb, hcur, hnc, hcm, hcs, htk⟩
 ·have hR0 : R = [] := by
   have : R.length = 0 := by rw [<- hzl]; exact hz
   exact ZOd this
  subst hR0
  refine ⟨ZrY ρ (-1) 0, _, Zb1 ρ _ _, rfl, .inr ?_, fin _ _ ?_, fc _ _ (ZN9 _) (.inr rfl)⟩
  ·show _ = SC.den S _ (slC (ai 5) (Zj (rA 2)) (ai 6) 1)
   rw [ZcI]
   simp only [SX.den, ai, rA, Zj, Zt, ZC, ZkM, Zo0, ZpW, Yf, U.tIi, U.tRi, hR]; rfl
  ·have h2 := ZAu hsat hbel
   refine YI [] (Zw rfl (Zw (ZN9 _) (Zw (.inr rfl) ?_)))
   rw [show (En.vals pE (U.rows [] : U GG) ++ []) = [] from rfl, Zcg, emp_star]
   have h3 : Sat w0 (Zc (row (ρ 0).tI.toNat 0 (List.map (SC.den (S.wc ch) ρ) [slC (SX.at Srt.int 1) (SX.f1 32 (SX.at Srt.rows 2)) (SX.at Srt.int 3) 1]) true) (Zc (ZO S pE (.int (ρ 1).tI) (.rows []) (.int (ρ 4).tI)) (Zc (hpDen (S.wc ch) ρ w0 []) F))) w' := h2
   exact Zw g1 h3
 ·refine ⟨ZrY ρ gb cap, _, Zb1 ρ _ _, rfl, .inr ?_, fin _ _ ?_, fc _ _ (by omega) (.inl (by omega))⟩
  ·show _ = SC.den S _ (slC (ai 5) (Zj (rA 2)) (ai 6) 1)
   rw [ZcI]
   simp only [SX.den, ai, rA, Zj, Zt, ZC, ZkM, Zo0, ZpW, Yf, U.tIi, U.tRi, hR]
   unfold slV
   rw [if_neg (by omega), hzl]; simp
  ·have h2 := ZCv hsat hbel hgb hcur
   have hvs : cur.toList = En.vals pE (U.rows R : U GG) ++ cur.toList.drop (R.length * 1) := by
    rw [ZqT q1, <- htk, hzl, List.take_append_drop]
   refine YI (cur.toList.drop (R.length * 1)) (Zw ?_ (Zw (show 0 <= ((cap : Nat) : Int) by omega) (Zw (.inl (show 0 <= ((gb : Nat) : Int) by omega)) ?_)))
   ·rw [<- ZN3, <- hvs]
    show cur.toList.length = cap * 1
    rw [Array.length_toList]; exact hcs
   ·rw [<- hvs]
    have h3 : Sat w0 (Zc (row gb 0 cur.toList true) (Zc (row (ρ 0).tI.toNat 0 (List.map (SC.den (S.wc ch) ρ) [slC (SX.at Srt.int 1) (SX.f1 32 (SX.at Srt.rows 2)) (SX.at Srt.int 3) 1]) true) (Zc (ZO S pE (.int (ρ 1).tI) (.rows R) (.int (ρ 4).tI)) (Zc (hpDen (S.wc ch) ρ w0 []) F)))) w' := h2
    rw [Zm] at h3 ⊢
    exact Zw g1 h3
def Zk8 : Ctr := ⟨[.int, .amap], [.one (.map (ai 0))], [scC (ai 0) (mA 1)], [], [.int], .one (.map (ai 2)), [scC (ai 0) (mA 1), scC (ai 2) (mA 1)], [eLe z0 (ai 2)]⟩
theorem ZM6 {G : Type} (S : Sig G) : Zy S Tryz.prog 69 Zk8 := by
 intro ch w0 F ρ w xs hx hq hsat
 obtain ⟨v, rfl, hv⟩ : ∃ v, xs = [v] /\ SV.R S ρ (.one (.map (ai 0))) v := by
  match xs, hx with
  | [v], hx => exact ⟨v, rfl, hx.1⟩
 have hv := R_one S ρ hv
 simp only [Zk8, Zp, star_assoc, Ch.den, scC] at hsat
 repeat rw [SX.den_wc] at hsat
 simp only [SX.den, ai, mA, Zt, Zku, U.tIi, U.tMi] at hsat
 obtain ⟨g1, hsat⟩ := Zq hsat
 obtain ⟨es, hsat⟩ := Yy hsat
 obtain ⟨clock, hsat⟩ := Yy hsat
 obtain ⟨g2, hsat⟩ := Zq hsat
 obtain ⟨_, hlt, hobj, _⟩ := hsat.obj
 subst hv
 have hvd : SC.den S ρ (.map (ai 0)) = .map (some (ρ 0).tI.toNat) := by
  simp only [SC.den, SX.den, ai, Zt, U.tIi]
  rw [if_neg (by omega)]
 rw [hvd]
 refine (Zsk (ρ 0).tI.toNat es clock w hobj).mono ?_
 rintro e w' ⟨rfl, rfl⟩
 refine ⟨ρ.upd 2 (.int (w.heap.size : Nat)), _, Ext.upd _ _, rfl, .inr ?_, ?_, ?_⟩
 ·show Value.map (some w.heap.size) = Value.map (if (((w.heap.size : Nat) : Int) < 0) then none else some (((w.heap.size : Nat) : Int).toNat))
  rw [if_neg (by omega), ZN5]
 ·have h2 := Sat.newObj hsat (.map es clock) rfl
  simp only [Zk8, Zp, star_assoc, Ch.den, scC]
  repeat rw [SX.den_wc]
  simp only [SX.den, ai, mA, Env.upd, if_true, Nat.reduceEqDiff, reduceIte, Zt, Zku, U.tIi, U.tMi]
  refine Zw g1 (YI es (YI clock (Zw g2 ?_)))
  rw [Zm]
  refine Zw (by omega) (YI es (YI clock (Zw g2 ?_)))
  rw [ZN5]
  exact h2
 ·intro x hx
  simp only [Zk8, List.mem_cons, List.not_mem_nil, or_false] at hx
  subst hx
  rw [Zh]
  simp only [SX.den, ai, z0, Env.upd, if_true, Zt, U.tIi]; omega
end
end Go.Proofs.YtidlngnhjffepaaGreat
namespace Go.Proofs.YtidlngnhjffepaaGreat
noncomputable section
open Go.Eng
/-! ### Plain words -/
def ZBc (RT : List (List Int)) (L : List Tx) (r : List Int) : Int := (atT L (ZcT (g0 r) RT : Nat)).who
def leW (RT : List (List Int)) (L : List Tx) (r s : List Int) : Prop := ZBc RT L r <= ZBc RT L s
def ZEa (RT : List (List Int)) (L : List Tx) (P : List (List Int)) : Prop := P.Pairwise (leW RT L)
def ndP (P : List (List Int)) : Prop := (P.map g0).Nodup
def ZJt (k P RT : List (List Int)) (L : List Tx) : Prop := (k.drop 1).Perm P /\ ZEa RT L ((k.drop 1).take (g0 (k.getD 0 [])).toNat)
def ZJB (k P RT : List (List Int)) (L : List Tx) : Prop := (k.drop 1).Perm P /\ ∃ A B C x, k.drop 1 = A ++ x :: B ++ C /\ (A.length : Int) = g1 (k.getD 0 []) /\ ((A.length : Int) + B.length) = g0 (k.getD 0 []) /\ ZEa RT L (A ++ B) /\ ∀ b ∈ B, leW RT L x b
structure OdSig (S : Sig GG) : Prop where
 fi : FiSig S
 u620 : ∀ a b c d, S.usr 620 a b c d = .bool (Zn (∀ r ∈ a.tR, 0 <= g0 r))
 u621 : ∀ a b c d, S.usr 621 a b c d = .bool (Zn (ndP a.tR))
 u622 : ∀ a b c d, S.usr 622 a b c d = .bool (Zn (a.tR.Perm b.tR /\ ZEa c.tR (ZK d) a.tR))
 u623 : ∀ a b c d, S.usr 623 a b c d = .bool (Zn (ZJt a.tR b.tR c.tR (ZK d)))
 u624 : ∀ a b c d, S.usr 624 a b c d = .bool (Zn (ZJB a.tR b.tR c.tR (ZK d)))
def ZEg : Ctr := ⟨[.int, .int, .rows, .g], [.one (.ptr (ai 0) 0), .one (.ptr (ai 1) 0)], [txC (rA 2) (gA 3)], [usB 565 (rA 2) (ai 0) z0, usB 565 (rA 2) (ai 1) z0, .f1 2 (.f2 45 (ai 0) (ai 1))], [], .tup [],
 [.cel (ai 0) 0 (txQ (rA 2) (gA 3) (ixB (rA 2) (ai 0))), .cel (ai 1) 0 (txQ (rA 2) (gA 3) (ixB (rA 2) (ai 1))), twC (ai 0) (ai 1) (rA 2) (gA 3)], [eLe z0 (ai 0), eLe z0 (ai 1)]⟩
theorem Zu8 : ∀ {R : List (List Int)} {L : List Tx} {h : Hl}, Zec R L h -> ∀ b, Zn4 R b -> 0 <= b
 | [], [], _, _, b, hb => by obtain ⟨k, hk, _⟩ := hb; simp at hk
 | r :: R, t :: L, h, hx, b, hb => by
  obtain ⟨p, q, _, _, hp, hq⟩ := hx
  obtain ⟨k, hk, rfl⟩ := hb
  cases k with
  | zero => exact (Zdc hp).2.2.2.2.2
  | succ k => exact Zu8 hq _ ⟨k, by simpa using hk, rfl⟩
 | [], _ :: _, _, hx, _, _ => hx.elim
 | _ :: _, [], _, hx, _, _ => hx.elim
theorem ZKX (S : Sig GG) (hS : JtSig S) : Zbm S ZEg := by
 refine Yp S fun T w0 ρ h hu hp hd hr hpre => ⟨ρ, Ext.refl _ _, ?_⟩
 have hT := hS.of hu hp
 have e1 : hpDen T ρ w0 ZEg.pre = Zc (T.prd 100 w0 ((rA 2).den T ρ) ((gA 3).den T ρ)) emp := rfl
 have e2 : hpDen T ρ w0 ZEg.post = Zc ((Ch.cel (ai 0) 0 (txQ (rA 2) (gA 3) (ixB (rA 2) (ai 0)))).den T ρ w0) (Zc ((Ch.cel (ai 1) 0 (txQ (rA 2) (gA 3) (ixB (rA 2) (ai 1)))).den T ρ w0) (Zc (T.prd 102 w0 ((Zz (ZT (ai 0) (ai 1)) (rA 2)).den T ρ) ((gA 3).den T ρ)) emp)) := rfl
 have r0 := hr (usB 565 (rA 2) (ai 0) z0) (by simp [ZEg])
 have r1 := hr (usB 565 (rA 2) (ai 1) z0) (by simp [ZEg])
 have r2 := hr (.f1 2 (.f2 45 (ai 0) (ai 1))) (by simp [ZEg])
 simp only [usB, SX.den, hT.u565, YZ, U.tPi, U.tQi, Zl] at r0 r1
 have r2 : (ap1 2 (ap2 45 ((ai 0).den T ρ) ((ai 1).den T ρ))).tP := r2
 rw [ZFc] at r2
 have ib : ∀ b : SX, ((ixB (rA 2) b).den T ρ).tI = (ZcT (b.den T ρ).tI ((rA 2).den T ρ).tR : Nat) := fun b => by
  simp only [ixB, usI, SX.den, hT.u566, Zt, U.tIi]
 have k2 : ((Zz (ZT (ai 0) (ai 1)) (rA 2)).den T ρ).tR = [((ai 0).den T ρ).tI, ((ai 1).den T ρ).tI] :: ((rA 2).den T ρ).tR := rfl
 have a0 := ZbU (YX r0)
 have a1 := ZbU (YX r1)
 rw [e1, Zf, hT.p100] at hpre
 have gd := Zu8 hpre
 refine ⟨?_, ?_⟩
 ·rw [e2, Zf, Zej hT ρ w0 (ai 0) (rA 2) (gA 3) (ixB (rA 2) (ai 0)) _ (by rw [ib]) (by rw [a0]),
   Zej hT ρ w0 (ai 1) (rA 2) (gA 3) (ixB (rA 2) (ai 1)) _ (by rw [ib]) (by rw [a1]), hT.p102, k2]
  generalize ((ai 0).den T ρ).tI = v at *
  generalize ((ai 1).den T ρ).tI = y at *
  generalize ((rA 2).den T ρ).tR = R at *
  generalize ZK ((gA 3).den T ρ) = L at *
  have hl := Za4 hpre
  have hne : ZcT v R ≠ ZcT y R := fun e => r2 (by rw [<- a0, <- a1, e])
  obtain ⟨A, hA⟩ := ZqH hl (YX r0) (YX r1) hne
  have hq2 := hpre
  rw [hA] at hq2
  obtain ⟨s, t, d2, rfl, hs, ht⟩ := hq2
  have hw : ZJv (g0 ([v, y] :: R |>.getD 0 [])) (g1 ([v, y] :: R |>.getD 0 [])) (([v, y] :: R).drop 1) L s := by
   intro h' hd' hh'
   show Zec R L _
   rw [hA]
   exact ⟨s, h', hd', rfl, hs, hh'⟩
  have : Zc (Zc (Zhe R L (ZcT v R)) (Zhe R L (ZcT y R))) (ZJv (g0 ([v, y] :: R |>.getD 0 [])) (g1 ([v, y] :: R |>.getD 0 [])) (([v, y] :: R).drop 1) L) (Hl.un s t) := ⟨t, s, d2.symm, Hl.un_comm d2, ht, hw⟩
  rw [star_assoc] at this
  exact this
 ·intro x hx
  simp only [ZEg, List.mem_cons, List.not_mem_nil, or_false] at hx
  rcases hx with rfl | rfl
  ·rw [Zh]; exact gd _ r0
  ·rw [Zh]; exact gd _ r1
def whoX (p : SX) : SX := usI 540 (gA 3) (ixB (rA 2) p) z0
def Zxg : Ctr := ⟨[.int, .int, .rows, .g], [.one (.ptr (ai 0) 0), .one (.ptr (ai 1) 0)], [txC (rA 2) (gA 3)], [usB 565 (rA 2) (ai 0) z0, usB 565 (rA 2) (ai 1) z0, .f1 2 (.f2 45 (ai 0) (ai 1))], [.int], .one (.int .i64 (ai 4)), [txC (rA 2) (gA 3)],
 [.f2 48 (eLt (ai 4) z0) (eLt (whoX (ai 0)) (whoX (ai 1)))]⟩
def ZKd : Cx := { specs := [], anns := [(37, [(1, .ghost ZEg [.tmp 0, .tmp 1]), (500001, .ghost ZB6 [.tmp 0])])] }
def sF : SC := .fn 37
def isQ : List SX := [eLe z0 (ai 2), .f2 45 (ai 2) (Zj (rA 1)), eLe (ai 2) (.int 12), usB 560 (rA 1) (rA 5) z0, usB 621 (rA 1) z0 z0]
def isA : List Srt := [.int, .rows, .int, .int, .int, .rows, .g]
def isP (k : Nat) : List Ch := [pAr (ai 0) (rA k) (ai 4), txC (rA 5) (gA 6)]
def isF : List SX := [.us .bool 622 (rA 7) (rA 1) (rA 5) (gA 6)]
def ZwQ : Ctr := ⟨isA, [.one (slC (ai 0) (ai 2) (ai 3) 1), .one (.int .i64 z0), .one (.int .i64 (ai 2)), .one sF], isP 1, isQ, [.rows], .tup [], isP 7, isF⟩
def isoI : Inv := ⟨[.int, .rows], [(8, .one (.int .i64 (di 0)))], [pAr (ai 0) (rA 1000001) (ai 4), txC (rA 5) (gA 6)], [eLe (.int 1) (di 0), .f2 45 (Zj (rA 1000001)) (ai 2), .us .bool 623 (Zz (Zss (di 0)) (rA 1000001)) (rA 1) (rA 5) (gA 6)], .f2 41 (.int 13) (di 0)⟩
def isoJ : Inv := ⟨[.int, .rows], [(9, .one (.int .i64 (di 0)))], [pAr (ai 0) (rA 1000001) (ai 4), txC (rA 5) (gA 6)], [eLe z0 (di 0), eLe (di 0) (ai 7), .f2 45 (Zj (rA 1000001)) (ai 2), .us .bool 624 (Zz (ZT (ai 7) (di 0)) (rA 1000001)) (rA 1) (rA 5) (gA 6)], di 0⟩
def ZLe : Cx := { specs := [(37, [Zxg])], anns := [(105, [(1, .inv isoI), (4, .inv isoJ)])] }
def ZyG : Ctr := ⟨isA ++ [.int], [.one (slC (ai 0) (ai 2) (ai 3) 1), .one (.int .i64 z0), .one (.int .i64 (ai 2)), .one (.int .i64 (ai 7)), .one sF], isP 1, isQ, [.rows], .tup [], isP 8, [.us .bool 622 (rA 8) (rA 1) (rA 5) (gA 6)]⟩
def ZJ3 : Cx := { specs := [(105, [ZwQ])], anns := [] }
def ZwH : Ctr := ⟨isA, [.one (slC (ai 0) (ai 2) (ai 3) 1), .one sF], isP 1, isQ, [.rows], .tup [], isP 7, isF⟩
def ZMp : Cx := { specs := [(81, [ZyG])], anns := [] }
theorem ZIs {α : Type} (A D : List α) (y d : α) : (A ++ y :: D).getD A.length d = y := by
 induction A with
 | nil => rfl
 | cons a A ih => exact ih
theorem ZGO {α : Type} (A D : List α) (y x d : α) : (A ++ y :: x :: D).getD (A.length + 1) d = x := by
 induction A with
 | nil => rfl
 | cons a A ih => exact ih
theorem ZF5 {α : Type} (A D : List α) (y z : α) : (A ++ y :: D).set A.length z = A ++ z :: D := by
 induction A with
 | nil => rfl
 | cons a A ih => simp only [List.cons_append, ZOi, List.set_cons_succ, ih]
theorem ZJl {α : Type} (A D : List α) (y x z : α) : (A ++ y :: x :: D).set (A.length + 1) z = A ++ y :: z :: D := by
 induction A with
 | nil => rfl
 | cons a A ih => simp only [List.cons_append, ZOi, List.set_cons_succ, ih]
theorem ZB2 {P RT : List (List Int)} {L : List Tx} : ZJt ([1] :: P) P RT L := ⟨List.Perm.refl _, by
 show (P.take 1).Pairwise _
 cases P with
 | nil => simp
 | cons a P => simp⟩
theorem ZID {i : Int} {Q P RT : List (List Int)} {L : List Tx} (h : ZJt ([i] :: Q) P RT L) (i0 : 1 <= i) (i1 : i < Q.length) : ZJB ([i, i] :: Q) P RT L := by
 obtain ⟨h1, h2⟩ := h
 obtain ⟨n, rfl⟩ := ZNQ (show 0 <= i by omega)
 have hn : n < Q.length := by omega
 refine ⟨h1, Q.take n, [], Q.drop (n + 1), Q[n], ?_, ?_, ?_, ?_, fun b hb => nomatch hb⟩
 ·show Q = _
  rw [ZOm, List.cons_append, List.nil_append, <- List.drop_eq_getElem_cons hn, List.take_append_drop]
 ·show ((Q.take n).length : Int) = (n : Int)
  rw [ZN0]; omega
 ·show ((Q.take n).length : Int) + 0 = (n : Int)
  rw [ZN0]; omega
 ·rw [List.append_nil]
  have : ((g0 (([(n : Int)] :: Q).getD 0 [])).toNat) = n := by show ((n : Int)).toNat = n; omega
  rw [this] at h2; exact h2
theorem ZDe {i j : Int} {Q P RT : List (List Int)} {L : List Tx} (h : ZJB ([i, j] :: Q) P RT L) (hj : 0 < j) (hv : ∀ r ∈ P, ∃ b, r = [b] /\ Zn4 RT b) (hn : ndP P) :
  Zn4 RT (g0 (Q.getD j.toNat [])) /\ Zn4 RT (g0 (Q.getD (j + -1).toNat [])) /\ ¬ g0 (Q.getD j.toNat []) = g0 (Q.getD (j + -1).toNat []) ∧
  (ZBc RT L (Q.getD j.toNat []) < ZBc RT L (Q.getD (j + -1).toNat []) -> ZJB ([i, j + -1] :: (Q.set j.toNat [g0 (Q.getD (j + -1).toNat [])]).set (j + -1).toNat [g0 (Q.getD j.toNat [])]) P RT L) ∧
  (¬ ZBc RT L (Q.getD j.toNat []) < ZBc RT L (Q.getD (j + -1).toNat []) -> ZJt ([i + 1] :: Q) P RT L) := by
 obtain ⟨h1, A, B, C, x, h2, h3, h4, h5, h6⟩ := h
 have h1 : Q.Perm P := h1
 have h2 : Q = A ++ x :: B ++ C := h2
 have h3 : (A.length : Int) = j := h3
 have h4 : (A.length : Int) + B.length = i := h4
 obtain ⟨A', y, rfl⟩ : ∃ A' y, A = A' ++ [y] := by
  rcases List.eq_nil_or_concat A with rfl | ⟨A', y, e⟩
  ·simp at h3; omega
  ·exact ⟨A', y, by rw [e, List.concat_eq_append]⟩
 rw [ZN3, ZNM] at h3 h4
 have e1 : j.toNat = A'.length + 1 := by omega
 have e2 : (j + -1).toNat = A'.length := by omega
 have hQ : Q = A' ++ y :: x :: (B ++ C) := by rw [h2]; simp
 have gx : Q.getD j.toNat [] = x := by rw [e1, hQ, ZGO]
 have gy : Q.getD (j + -1).toNat [] = y := by rw [e2, hQ, ZIs]
 have hx : x ∈ Q := by rw [hQ]; simp
 have hy : y ∈ Q := by rw [hQ]; simp
 obtain ⟨bx, ex, hbx⟩ := hv x (h1.mem_iff.1 hx)
 obtain ⟨by', ey, hby⟩ := hv y (h1.mem_iff.1 hy)
 have sx : [g0 x] = x := by rw [ex]; rfl
 have sy : [g0 y] = y := by rw [ey]; rfl
 have hnq : (Q.map g0).Nodup := (h1.map g0).nodup_iff.2 hn
 rw [gx, gy]
 refine ⟨by rw [ex]; exact hbx, by rw [ey]; exact hby, fun e => ?_, fun hlt => ?_, fun hge => ?_⟩
 ·rw [hQ, ZOe, ZN7, ZN7, List.nodup_append] at hnq
  have := (List.nodup_cons.1 hnq.2.1).1
  exact this (by rw [<- e]; exact ZN6)
 ·rw [sx, sy, e1, e2, hQ, ZJl, ZF5]
  refine ⟨?_, A', y :: B, C, x, by simp, by show (A'.length : Int) = j + -1; omega, by show (A'.length : Int) + ((y :: B).length : Nat) = i; rw [ZOi]; omega, ?_, ?_⟩
  ·show (A' ++ x :: y :: (B ++ C)).Perm P
   rw [hQ] at h1
   exact ((List.Perm.swap _ _ _).append_left _).trans h1
  ·have : A' ++ [y] ++ B = A' ++ y :: B := by simp
   rw [this] at h5; exact h5
  ·intro b hb
   rcases List.mem_cons.1 hb with rfl | hb
   ·exact Int.le_of_lt hlt
   ·exact h6 b hb
 ·refine ⟨h1, ?_⟩
  have e3 : (g0 (([i + 1] :: Q).getD 0 [])).toNat = (A' ++ [y] ++ x :: B).length := by
   show (i + 1).toNat = _
   simp only [ZN3, ZOi, List.length_nil]; omega
  rw [e3]
  show ZEa RT L (Q.take _)
  rw [h2, List.take_left']
  ·have h5' := List.pairwise_append.1 h5
   refine List.pairwise_append.2 ⟨h5'.1, List.pairwise_cons.2 ⟨fun b hb => h6 b hb, h5'.2.1⟩, fun a ha b hb => ?_⟩
   have hyx : leW RT L y x := by unfold leW; omega
   have hay : leW RT L a y := by
    rcases List.mem_append.1 ha with ha | ha
    ·exact (List.pairwise_append.1 h5'.1).2.2 a ha y (by simp)
    ·rw [ZNR] at ha; subst ha; exact ZN9 _
   rcases List.mem_cons.1 hb with rfl | hb
   ·exact Int.le_trans hay hyx
   ·exact h5'.2.2 a ha b hb
  ·rfl
theorem ZAG {i j : Int} {Q P RT : List (List Int)} {L : List Tx} (h : ZJB ([i, j] :: Q) P RT L) (hj : j <= 0) (h0 : 0 <= j) : ZJt ([i + 1] :: Q) P RT L := by
 obtain ⟨h1, A, B, C, x, h2, h3, h4, h5, h6⟩ := h
 have h3 : (A.length : Int) = j := h3
 have h4 : (A.length : Int) + B.length = i := h4
 have hA : A = [] := ZOd (by omega)
 subst hA
 refine ⟨h1, ?_⟩
 have h2 : Q = x :: B ++ C := h2
 have e3 : (g0 (([i + 1] :: Q).getD 0 [])).toNat = (x :: B).length := by
  show (i + 1).toNat = _
  rw [ZOi]; simp at h4; omega
 rw [e3]
 show ZEa RT L (Q.take _)
 rw [h2, List.take_left' rfl]
 exact List.pairwise_cons.2 ⟨fun b hb => h6 b hb, h5⟩
theorem ZDg {x : Int} (h0 : 0 <= x) (h1 : x <= 12) : IntKind.u64.wrap x = x := ZaM (by simp [IntKind.min, IntKind.max, IntKind.bits, IntKind.signed]; omega)
theorem Zuq {x : Int} (h0 : 0 <= x) (h1 : x <= 12) : IntKind.u8.wrap x = x := ZaM (by simp [IntKind.min, IntKind.max, IntKind.bits, IntKind.signed]; omega)
def Zuv : SX := d 540 (g 3) (d 566 (r 2) (a 0))
def ZyN : SX := d 540 (g 3) (d 566 (r 2) (a 1))
def ZCt : SX := t Zuv ZyN
def ZHg : SX := .f2 48 (.bool false) ZCt
def ZLY : VC := i (c 565 (r 2) (a 0)) (i (c 565 (r 2) (a 1)) (i (.f1 2 (e (a 0) (a 1))) (i (l z (a 0)) (i (l z (a 1)) (.and (i ZCt (n (.f2 48 (.bool true) ZCt) .tt)) (i (l ZyN Zuv) (.and (i (t ZyN Zuv) (n ZHg .tt)) (i (l Zuv ZyN) (n ZHg .tt)))))))))
theorem ZLT : Yq Tryz.prog ZKd 12 37 Zxg = ZLY := by kernel_rfl
def ZFE : SX := .f2 122 (a 7) (.f1 152 z)
def Zhk : SX := .f2 40 (a 9) (k (-1))
def ZwI : SX := .f3 112 (r 10) (a 9) z
def ZzO : SX := .f3 112 (r 10) Zhk z
def ZGv : SX := t (a 11) z
def ZvT : SX := .f2 40 (a 7) (k 1)
def ZHw : SX := .f1 23 ZvT
def ZFK : SX := .f2 41 (k 13) ZvT
def ZHb : SX := l z ZFK
def ZIr : SX := t ZFK (.f2 41 (k 13) (a 7))
def ZAR : SX := l (k 1) ZvT
def Zzc : SX := .us .bool 623 (.f2 124 (.f2 122 ZvT (.f1 152 z)) (r 10)) (r 1) (r 5) (g 6)
def ZKY : VC := i (l z (a 2)) (i (e (a 2) (.f1 32 (r 1))) (i (l (a 2) (k 12)) (i (c 560 (r 1) (r 5)) (i (p 621 (r 1)) (n (e (.f1 32 (r 1)) (a 2)) (n (.us .bool 623 (.f2 124 (.f2 122 (k 1) (.f1 152 z)) (r 1)) (r 1) (r 5) (g 6)) (u 7 .int (u 8 .rows (i (l (k 1) (a 7)) (i (e (.f1 32 (r 8)) (a 2)) (i (.us .bool 623 (.f2 124 ZFE (r 8)) (r 1) (r 5) (g 6)) (.and (i (t (a 7) (a 2)) (n (l z (a 7)) (n (l (a 7) (a 7)) (n (.us .bool 624 (.f2 124 (.f2 122 (a 7) ZFE) (r 8)) (r 1) (r 5) (g 6)) (u 9 .int (u 10 .rows (i (l z (a 9)) (i (l (a 9) (a 7)) (i (e (.f1 32 (r 10)) (a 2)) (i (.us .bool 624 (.f2 124 (.f2 122 (a 7) (.f2 122 (a 9) (.f1 152 z))) (r 10)) (r 1) (r 5) (g 6)) (.and (i (t z (a 9)) (n (t (a 9) (a 2)) (n (t (a 9) (.f1 32 (r 10))) (n (.f1 23 Zhk) (n (l z Zhk) (n (t Zhk (a 2)) (n (t Zhk (.f1 32 (r 10))) (n (c 565 (r 5) ZwI) (n (c 565 (r 5) ZzO) (n (.f1 2 (e ZwI ZzO)) (u 11 .int (i (.f2 48 ZGv (t (d 540 (g 6) (d 566 (r 5) ZwI)) (d 540 (g 6) (d 566 (r 5) ZzO)))) (.and (i ZGv (n (t Zhk (a 9)) (n (l Zhk (a 7)) (n (.us .bool 624 (.f2 124 (.f2 122 (a 7) (.f2 122 Zhk (.f1 152 z))) (.f3 132 (.f3 132 (r 10) (a 9) (.f2 122 ZzO (.f1 152 z))) Zhk (.f2 122 ZwI (.f1 152 z)))) (r 1) (r 5) (g 6)) .tt)))) (i (l z (a 11)) (n ZHw (n ZHb (n ZIr (n ZAR (n Zzc .tt))))))))))))))))))) (i (l (a 9) z) (n ZHw (n ZHb (n ZIr (n ZAR (n Zzc .tt))))))))))))))))) (i (l (a 2) (a 7)) (n (.us .bool 622 (r 8) (r 1) (r 5) (g 6)) .tt))))))))))))))
theorem ZMP : Yq Tryz.prog ZLe 12 105 ZwQ = ZKY := by kernel_rfl
def ZFf : SX := l (a 2) (k 12)
def ZMW : VC := i (l z (a 2)) (i (e (a 2) (.f1 32 (r 1))) (i ZFf (i (c 560 (r 1) (r 5)) (i (p 621 (r 1)) (n (.f1 23 (a 2)) (.and (i ZFf (u 8 .rows (i (.us .bool 622 (r 8) (r 1) (r 5) (g 6)) .tt))) .tt))))))
theorem ZLK : Yq Tryz.prog ZJ3 12 81 ZyG = ZMW := by kernel_rfl
def Zkb : SX := .f2 107 (.f1 17 (a 2)) (k 32)
def Zvi : SX := .f2 107 Zkb (k 16)
def ZDa : SX := .f1 14 (.f2 107 Zvi (k 8))
def Zjw : SX := .us .bool 622 (r 7) (r 1) (r 5) (g 6)
def ZC8 : SX := .f1 14 Zvi
def ZBZ : SX := .f1 14 (.f2 107 Zkb (k 8))
def ZDn : SX := .f1 14 Zkb
def Zxq : SX := .f2 107 (.f1 17 (a 2)) (k 16)
def ZDC : SX := .f1 14 (.f2 107 Zxq (k 8))
def ZCn : SX := .f1 14 Zxq
def Zq1 : SX := .f1 14 (.f2 107 (.f1 17 (a 2)) (k 8))
def ZqI : SX := .f1 14 (.f1 17 (a 2))
def ZMq : VC := i (l z (a 2)) (i (e (a 2) (.f1 32 (r 1))) (i (l (a 2) (k 12)) (i (c 560 (r 1) (r 5)) (i (p 621 (r 1)) (.and (i (l k2 (.f1 17 (a 2))) (.and (i (l (k 65536) Zkb) (.and (i (l (k 256) Zvi) (n (l z ZDa) (n (t ZDa (k 256)) (n (.f1 23 (.f2 40 (.f2 111 (.byt [0, 1, 2, 2, 3, 3, 3, 3, 4, 4, 4, 4, 4, 4, 4, 4, 5, 5, 5, 5, 5, 5, 5, 5, 5, 5, 5, 5, 5, 5, 5, 5, 6, 6, 6, 6, 6, 6, 6, 6, 6, 6, 6, 6, 6, 6, 6, 6, 6, 6, 6, 6, 6, 6, 6, 6, 6, 6, 6, 6, 6, 6, 6, 6, 7, 7, 7, 7, 7, 7, 7, 7, 7, 7, 7, 7, 7, 7, 7, 7, 7, 7, 7, 7, 7, 7, 7, 7, 7, 7, 7, 7, 7, 7, 7, 7, 7, 7, 7, 7, 7, 7, 7, 7, 7, 7, 7, 7, 7, 7, 7, 7, 7, 7, 7, 7, 7, 7, 7, 7, 7, 7, 7, 7, 7, 7, 7, 7, 8, 8, 8, 8, 8, 8, 8, 8, 8, 8, 8, 8, 8, 8, 8, 8, 8, 8, 8, 8, 8, 8, 8, 8, 8, 8, 8, 8, 8, 8, 8, 8, 8, 8, 8, 8, 8, 8, 8, 8, 8, 8, 8, 8, 8, 8, 8, 8, 8, 8, 8, 8, 8, 8, 8, 8, 8, 8, 8, 8, 8, 8, 8, 8, 8, 8, 8, 8, 8, 8, 8, 8, 8, 8, 8, 8, 8, 8, 8, 8, 8, 8, 8, 8, 8, 8, 8, 8, 8, 8, 8, 8, 8, 8, 8, 8, 8, 8, 8, 8, 8, 8, 8, 8, 8, 8, 8, 8, 8, 8, 8, 8, 8, 8, 8, 8, 8, 8, 8, 8, 8, 8, 8, 8, 8, 8, 8, 8]) ZDa) (k 56))) (u 7 .rows (i Zjw .tt)))))) (i (t Zvi (k 256)) (n (l z ZC8) (n (t ZC8 (k 256)) (n (.f1 23 (.f2 40 (.f2 111 (.byt [0, 1, 2, 2, 3, 3, 3, 3, 4, 4, 4, 4, 4, 4, 4, 4, 5, 5, 5, 5, 5, 5, 5, 5, 5, 5, 5, 5, 5, 5, 5, 5, 6, 6, 6, 6, 6, 6, 6, 6, 6, 6, 6, 6, 6, 6, 6, 6, 6, 6, 6, 6, 6, 6, 6, 6, 6, 6, 6, 6, 6, 6, 6, 6, 7, 7, 7, 7, 7, 7, 7, 7, 7, 7, 7, 7, 7, 7, 7, 7, 7, 7, 7, 7, 7, 7, 7, 7, 7, 7, 7, 7, 7, 7, 7, 7, 7, 7, 7, 7, 7, 7, 7, 7, 7, 7, 7, 7, 7, 7, 7, 7, 7, 7, 7, 7, 7, 7, 7, 7, 7, 7, 7, 7, 7, 7, 7, 7, 8, 8, 8, 8, 8, 8, 8, 8, 8, 8, 8, 8, 8, 8, 8, 8, 8, 8, 8, 8, 8, 8, 8, 8, 8, 8, 8, 8, 8, 8, 8, 8, 8, 8, 8, 8, 8, 8, 8, 8, 8, 8, 8, 8, 8, 8, 8, 8, 8, 8, 8, 8, 8, 8, 8, 8, 8, 8, 8, 8, 8, 8, 8, 8, 8, 8, 8, 8, 8, 8, 8, 8, 8, 8, 8, 8, 8, 8, 8, 8, 8, 8, 8, 8, 8, 8, 8, 8, 8, 8, 8, 8, 8, 8, 8, 8, 8, 8, 8, 8, 8, 8, 8, 8, 8, 8, 8, 8, 8, 8, 8, 8, 8, 8, 8, 8, 8, 8, 8, 8, 8, 8, 8, 8, 8, 8, 8, 8]) ZC8) (k 48))) (u 7 .rows (i Zjw .tt)))))))) (i (t Zkb (k 65536)) (.and (i (l (k 256) Zkb) (n (l z ZBZ) (n (t ZBZ (k 256)) (n (.f1 23 (.f2 40 (.f2 111 (.byt [0, 1, 2, 2, 3, 3, 3, 3, 4, 4, 4, 4, 4, 4, 4, 4, 5, 5, 5, 5, 5, 5, 5, 5, 5, 5, 5, 5, 5, 5, 5, 5, 6, 6, 6, 6, 6, 6, 6, 6, 6, 6, 6, 6, 6, 6, 6, 6, 6, 6, 6, 6, 6, 6, 6, 6, 6, 6, 6, 6, 6, 6, 6, 6, 7, 7, 7, 7, 7, 7, 7, 7, 7, 7, 7, 7, 7, 7, 7, 7, 7, 7, 7, 7, 7, 7, 7, 7, 7, 7, 7, 7, 7, 7, 7, 7, 7, 7, 7, 7, 7, 7, 7, 7, 7, 7, 7, 7, 7, 7, 7, 7, 7, 7, 7, 7, 7, 7, 7, 7, 7, 7, 7, 7, 7, 7, 7, 7, 8, 8, 8, 8, 8, 8, 8, 8, 8, 8, 8, 8, 8, 8, 8, 8, 8, 8, 8, 8, 8, 8, 8, 8, 8, 8, 8, 8, 8, 8, 8, 8, 8, 8, 8, 8, 8, 8, 8, 8, 8, 8, 8, 8, 8, 8, 8, 8, 8, 8, 8, 8, 8, 8, 8, 8, 8, 8, 8, 8, 8, 8, 8, 8, 8, 8, 8, 8, 8, 8, 8, 8, 8, 8, 8, 8, 8, 8, 8, 8, 8, 8, 8, 8, 8, 8, 8, 8, 8, 8, 8, 8, 8, 8, 8, 8, 8, 8, 8, 8, 8, 8, 8, 8, 8, 8, 8, 8, 8, 8, 8, 8, 8, 8, 8, 8, 8, 8, 8, 8, 8, 8, 8, 8, 8, 8, 8, 8]) ZBZ) (k 40))) (u 7 .rows (i Zjw .tt)))))) (i (t Zkb (k 256)) (n (l z ZDn) (n (t ZDn (k 256)) (n (.f1 23 (.f2 40 (.f2 111 (.byt [0, 1, 2, 2, 3, 3, 3, 3, 4, 4, 4, 4, 4, 4, 4, 4, 5, 5, 5, 5, 5, 5, 5, 5, 5, 5, 5, 5, 5, 5, 5, 5, 6, 6, 6, 6, 6, 6, 6, 6, 6, 6, 6, 6, 6, 6, 6, 6, 6, 6, 6, 6, 6, 6, 6, 6, 6, 6, 6, 6, 6, 6, 6, 6, 7, 7, 7, 7, 7, 7, 7, 7, 7, 7, 7, 7, 7, 7, 7, 7, 7, 7, 7, 7, 7, 7, 7, 7, 7, 7, 7, 7, 7, 7, 7, 7, 7, 7, 7, 7, 7, 7, 7, 7, 7, 7, 7, 7, 7, 7, 7, 7, 7, 7, 7, 7, 7, 7, 7, 7, 7, 7, 7, 7, 7, 7, 7, 7, 8, 8, 8, 8, 8, 8, 8, 8, 8, 8, 8, 8, 8, 8, 8, 8, 8, 8, 8, 8, 8, 8, 8, 8, 8, 8, 8, 8, 8, 8, 8, 8, 8, 8, 8, 8, 8, 8, 8, 8, 8, 8, 8, 8, 8, 8, 8, 8, 8, 8, 8, 8, 8, 8, 8, 8, 8, 8, 8, 8, 8, 8, 8, 8, 8, 8, 8, 8, 8, 8, 8, 8, 8, 8, 8, 8, 8, 8, 8, 8, 8, 8, 8, 8, 8, 8, 8, 8, 8, 8, 8, 8, 8, 8, 8, 8, 8, 8, 8, 8, 8, 8, 8, 8, 8, 8, 8, 8, 8, 8, 8, 8, 8, 8, 8, 8, 8, 8, 8, 8, 8, 8, 8, 8, 8, 8, 8, 8]) ZDn) (k 32))) (u 7 .rows (i Zjw .tt)))))))))) (i (t (.f1 17 (a 2)) k2) (.and (i (l (k 65536) (.f1 17 (a 2))) (.and (i (l (k 256) Zxq) (n (l z ZDC) (n (t ZDC (k 256)) (n (.f1 23 (.f2 40 (.f2 111 (.byt [0, 1, 2, 2, 3, 3, 3, 3, 4, 4, 4, 4, 4, 4, 4, 4, 5, 5, 5, 5, 5, 5, 5, 5, 5, 5, 5, 5, 5, 5, 5, 5, 6, 6, 6, 6, 6, 6, 6, 6, 6, 6, 6, 6, 6, 6, 6, 6, 6, 6, 6, 6, 6, 6, 6, 6, 6, 6, 6, 6, 6, 6, 6, 6, 7, 7, 7, 7, 7, 7, 7, 7, 7, 7, 7, 7, 7, 7, 7, 7, 7, 7, 7, 7, 7, 7, 7, 7, 7, 7, 7, 7, 7, 7, 7, 7, 7, 7, 7, 7, 7, 7, 7, 7, 7, 7, 7, 7, 7, 7, 7, 7, 7, 7, 7, 7, 7, 7, 7, 7, 7, 7, 7, 7, 7, 7, 7, 7, 8, 8, 8, 8, 8, 8, 8, 8, 8, 8, 8, 8, 8, 8, 8, 8, 8, 8, 8, 8, 8, 8, 8, 8, 8, 8, 8, 8, 8, 8, 8, 8, 8, 8, 8, 8, 8, 8, 8, 8, 8, 8, 8, 8, 8, 8, 8, 8, 8, 8, 8, 8, 8, 8, 8, 8, 8, 8, 8, 8, 8, 8, 8, 8, 8, 8, 8, 8, 8, 8, 8, 8, 8, 8, 8, 8, 8, 8, 8, 8, 8, 8, 8, 8, 8, 8, 8, 8, 8, 8, 8, 8, 8, 8, 8, 8, 8, 8, 8, 8, 8, 8, 8, 8, 8, 8, 8, 8, 8, 8, 8, 8, 8, 8, 8, 8, 8, 8, 8, 8, 8, 8, 8, 8, 8, 8, 8, 8]) ZDC) (k 24))) (u 7 .rows (i Zjw .tt)))))) (i (t Zxq (k 256)) (n (l z ZCn) (n (t ZCn (k 256)) (n (.f1 23 (.f2 40 (.f2 111 (.byt [0, 1, 2, 2, 3, 3, 3, 3, 4, 4, 4, 4, 4, 4, 4, 4, 5, 5, 5, 5, 5, 5, 5, 5, 5, 5, 5, 5, 5, 5, 5, 5, 6, 6, 6, 6, 6, 6, 6, 6, 6, 6, 6, 6, 6, 6, 6, 6, 6, 6, 6, 6, 6, 6, 6, 6, 6, 6, 6, 6, 6, 6, 6, 6, 7, 7, 7, 7, 7, 7, 7, 7, 7, 7, 7, 7, 7, 7, 7, 7, 7, 7, 7, 7, 7, 7, 7, 7, 7, 7, 7, 7, 7, 7, 7, 7, 7, 7, 7, 7, 7, 7, 7, 7, 7, 7, 7, 7, 7, 7, 7, 7, 7, 7, 7, 7, 7, 7, 7, 7, 7, 7, 7, 7, 7, 7, 7, 7, 8, 8, 8, 8, 8, 8, 8, 8, 8, 8, 8, 8, 8, 8, 8, 8, 8, 8, 8, 8, 8, 8, 8, 8, 8, 8, 8, 8, 8, 8, 8, 8, 8, 8, 8, 8, 8, 8, 8, 8, 8, 8, 8, 8, 8, 8, 8, 8, 8, 8, 8, 8, 8, 8, 8, 8, 8, 8, 8, 8, 8, 8, 8, 8, 8, 8, 8, 8, 8, 8, 8, 8, 8, 8, 8, 8, 8, 8, 8, 8, 8, 8, 8, 8, 8, 8, 8, 8, 8, 8, 8, 8, 8, 8, 8, 8, 8, 8, 8, 8, 8, 8, 8, 8, 8, 8, 8, 8, 8, 8, 8, 8, 8, 8, 8, 8, 8, 8, 8, 8, 8, 8, 8, 8, 8, 8, 8, 8]) ZCn) (k 16))) (u 7 .rows (i Zjw .tt)))))))) (i (t (.f1 17 (a 2)) (k 65536)) (.and (i (l (k 256) (.f1 17 (a 2))) (n (l z Zq1) (n (t Zq1 (k 256)) (n (.f1 23 (.f2 40 (.f2 111 (.byt [0, 1, 2, 2, 3, 3, 3, 3, 4, 4, 4, 4, 4, 4, 4, 4, 5, 5, 5, 5, 5, 5, 5, 5, 5, 5, 5, 5, 5, 5, 5, 5, 6, 6, 6, 6, 6, 6, 6, 6, 6, 6, 6, 6, 6, 6, 6,
 6, 6, 6, 6, 6, 6, 6, 6, 6, 6, 6, 6, 6, 6, 6, 6, 6, 7, 7, 7, 7, 7, 7, 7, 7, 7, 7, 7, 7, 7, 7, 7, 7, 7, 7, 7, 7, 7, 7, 7, 7, 7, 7, 7, 7, 7, 7, 7, 7, 7, 7, 7, 7, 7, 7, 7, 7, 7, 7, 7, 7, 7, 7, 7, 7, 7, 7, 7, 7, 7, 7, 7, 7, 7, 7, 7, 7, 7, 7, 7, 7, 8, 8, 8, 8, 8, 8, 8, 8, 8, 8, 8, 8, 8, 8, 8, 8, 8, 8, 8, 8, 8, 8, 8, 8, 8, 8, 8, 8, 8, 8, 8, 8, 8, 8, 8, 8, 8, 8, 8, 8, 8, 8, 8, 8, 8, 8, 8, 8, 8, 8, 8, 8, 8, 8, 8, 8, 8, 8, 8, 8, 8, 8, 8, 8, 8, 8, 8, 8, 8, 8, 8, 8, 8, 8, 8, 8, 8, 8, 8, 8, 8, 8, 8, 8, 8, 8, 8, 8, 8, 8, 8, 8, 8, 8, 8, 8, 8, 8, 8, 8, 8, 8, 8, 8, 8, 8, 8, 8, 8, 8, 8, 8, 8, 8, 8, 8, 8, 8, 8, 8, 8, 8, 8, 8, 8, 8, 8, 8]) Zq1) (k 8))) (u 7 .rows (i Zjw .tt)))))) (i (t (.f1 17 (a 2)) (k 256)) (n (l z ZqI) (n (t ZqI (k 256)) (n (.f1 23 (.f2 111 (.byt [0, 1, 2, 2, 3, 3, 3, 3, 4, 4, 4, 4, 4, 4, 4, 4, 5, 5, 5, 5, 5, 5, 5, 5, 5, 5, 5, 5, 5, 5, 5, 5, 6, 6, 6, 6, 6, 6, 6, 6, 6, 6, 6, 6, 6, 6, 6, 6, 6, 6, 6, 6, 6, 6, 6, 6, 6, 6, 6, 6, 6, 6, 6, 6, 7, 7, 7, 7, 7, 7, 7, 7, 7, 7, 7, 7, 7, 7, 7, 7, 7, 7, 7, 7, 7, 7, 7, 7, 7, 7, 7, 7, 7, 7, 7, 7, 7, 7, 7, 7, 7, 7, 7, 7, 7, 7, 7, 7, 7, 7, 7, 7, 7, 7, 7, 7, 7, 7, 7, 7, 7, 7, 7, 7, 7, 7, 7, 7, 8, 8, 8, 8, 8, 8, 8, 8, 8, 8, 8, 8, 8, 8, 8, 8, 8, 8, 8, 8, 8, 8, 8, 8, 8, 8, 8, 8, 8, 8, 8, 8, 8, 8, 8, 8, 8, 8, 8, 8, 8, 8, 8, 8, 8, 8, 8, 8, 8, 8, 8, 8, 8, 8, 8, 8, 8, 8, 8, 8, 8, 8, 8, 8, 8, 8, 8, 8, 8, 8, 8, 8, 8, 8, 8, 8, 8, 8, 8, 8, 8, 8, 8, 8, 8, 8, 8, 8, 8, 8, 8, 8, 8, 8, 8, 8, 8, 8, 8, 8, 8, 8, 8, 8, 8, 8, 8, 8, 8, 8, 8, 8, 8, 8, 8, 8, 8, 8, 8, 8, 8, 8, 8, 8, 8, 8, 8, 8]) ZqI)) (u 7 .rows (i Zjw .tt)))))))))))))))
theorem ZM1 : Yq Tryz.prog ZMp 12 65 ZwH = ZMq := by kernel_rfl
theorem ZMu (S : Sig GG) (hS : OdSig S) : Zy S Tryz.prog 37 Zxg := by
 refine Ze S (C := ZKd) (fuel := 12) (ZQ trivial ⟨⟨⟨by decide, ZKX S hS.fi.js.jt⟩, ⟨by decide, ZqB S hS.fi.js.jt⟩, trivial⟩, trivial⟩ trivial) fun ρ => ?_
 rw [ZLT]
 simp only [ZLY, Zuv, ZyN, ZCt, ZHg, hS.fi.js.jt.u540, hS.fi.js.jt.u565, hS.fi.js.jt.u566, ZI, ZN5, VC.den, SX.den, Env.upd, ZS, ZD, beq_iff_eq, ZNX, beq_eq_false_iff_ne, ne_eq, ZNW, ZNV, Int.reduceToNat, Nat.reduceEqDiff, reduceIte, sB, sC]
 intro h1 h2 h3 h4 h5
 refine ⟨fun h => ⟨?_, trivial⟩, fun h => ⟨fun h' => ⟨?_, trivial⟩, fun h' => ⟨?_, trivial⟩⟩⟩
 ·unfold ltB; simp; omega
 ·unfold ltB; simp; omega
 ·unfold ltB; simp; omega
theorem ZJZ (S : Sig GG) (hS : OdSig S) : Zy S Tryz.prog 105 ZwQ := by
 refine Ze S (C := ZLe) (fuel := 12) (ZQ ⟨Zg (by decide) (ZMu S hS), trivial⟩ ⟨⟨trivial, trivial, trivial⟩, trivial⟩ trivial) fun ρ => ?_
 rw [ZMP]
 simp only [ZKY, ZFE, Zhk, ZwI, ZzO, ZGv, ZvT, ZHw, ZFK, ZHb, ZIr, ZAR, Zzc, hS.fi.js.jt.u540, hS.fi.js.jt.u560, hS.fi.js.jt.u565, hS.fi.js.jt.u566, hS.u621, hS.u622, hS.u623, hS.u624, ZI, ZN5, VC.den, SX.den, Env.upd, ZS, ZD, beq_iff_eq, ZNX, beq_eq_false_iff_ne, ne_eq, ZNW, ZNV, Int.reduceToNat, Nat.reduceEqDiff, reduceIte, sB, sC]
 generalize (ρ 1).tR = P
 generalize (ρ 5).tR = RT
 generalize ZK (U.co S Srt.g (ρ 6)) = L
 generalize (ρ 2).tI = n
 intro h0 h1 h2 hv hn
 subst h1
 refine ⟨rfl, ZB2, fun i Q i0 hl g1 => ⟨fun hi => ⟨by omega, ZN9 _, ZID g1 i0 (by omega), fun j Q2 j0 j1 hl2 g2 => ⟨fun hj => ?_, fun hj => ?_⟩⟩, fun hi => ⟨?_, trivial⟩⟩⟩
 ·obtain ⟨t1, t2, t3, t4, t5⟩ := ZDe g2 hj hv hn
  refine ⟨by omega, by omega, ⟨by omega, by omega⟩, by omega, by omega, by omega, t1, t2, t3, fun r hr => ⟨fun hneg => ⟨by omega, by omega, t4 ?_, trivial⟩, fun hpos => ⟨⟨by omega, by omega⟩, by omega, by omega, by omega, t5 ?_, trivial⟩⟩⟩
  ·have : ltB r 0 = true := by unfold ltB; simp; omega
   rw [this] at hr
   have := Zmj.mp hr.symm
   exact this
  ·intro hlt
   have : ltB r 0 = false := by unfold ltB; simp; omega
   rw [this] at hr
   have hf : ltB (ZBc RT L (Q2.getD j.toNat [])) (ZBc RT L (Q2.getD (j + -1).toNat [])) = false := hr.symm
   have ht : ltB (ZBc RT L (Q2.getD j.toNat [])) (ZBc RT L (Q2.getD (j + -1).toNat [])) = true := Zmj.mpr hlt
   rw [ht] at hf; cases hf
 ·exact ⟨⟨by omega, by omega⟩, by omega, by omega, by omega, ZAG g2 hj j0, trivial⟩
 ·obtain ⟨q1, q2⟩ := g1
  refine ⟨q1, ?_⟩
  have q2 : ZEa RT L (Q.take i.toNat) := q2
  rw [ZOa (by omega)] at q2
  exact q2
theorem ZMs (S : Sig GG) (hS : OdSig S) : Zy S Tryz.prog 81 ZyG := by
 refine Ze S (C := ZJ3) (fuel := 12) (ZQ ⟨Zg (by decide) (ZJZ S hS), trivial⟩ trivial trivial) fun ρ => ?_
 rw [ZLK]
 simp only [ZMW, ZFf, hS.fi.js.jt.u560, hS.u621, hS.u622, ZI, ZN5, VC.den, SX.den, Env.upd, ZS, ZD, beq_iff_eq, ZNX, beq_eq_false_iff_ne, ne_eq, ZNW, ZNV, Int.reduceToNat, Nat.reduceEqDiff, reduceIte, sB, sC]
 intro h0 h1 h2 hv hn
 exact ⟨⟨by omega, by omega⟩, fun _ _ _ => trivial, trivial⟩
theorem ZL8 (S : Sig GG) (hS : OdSig S) : Zy S Tryz.prog 65 ZwH := by
 refine Ze S (C := ZMp) (fuel := 12) (ZQ ⟨Zg (by decide) (ZMs S hS), trivial⟩ trivial trivial) fun ρ => ?_
 rw [ZM1]
 simp only [ZMq, Zkb, Zvi, ZDa, Zjw, ZC8, ZBZ, ZDn, Zxq, ZDC, ZCn, Zq1, ZqI, hS.fi.js.jt.u560, hS.u621, hS.u622, ZI, ZN5, VC.den, SX.den, Env.upd, ZS, ZD, beq_iff_eq, ZNX, beq_eq_false_iff_ne, ne_eq, ZNW, ZNV, Int.reduceToNat, Nat.reduceEqDiff, reduceIte, sB, sC]
 generalize (ρ 2).tI = n
 intro h0 h1 h2 hv hn
 have e17 : (ap1 17 (U.int n : U GG)) = .int n := by show U.int (IntKind.u64.wrap n) = _; rw [ZDg h0 h2]
 have e14 : (ap1 14 (U.int n : U GG)) = .int n := by show U.int (IntKind.u8.wrap n) = _; rw [Zuq h0 h2]
 simp only [e17, e14, U.tIi]
 refine ⟨fun h => absurd h (by omega), fun _ => ⟨fun h => absurd h (by omega), fun _ => ⟨fun h => absurd h (by omega), fun _ => ⟨by omega, by omega, ⟨by omega, ?_⟩, fun _ _ => trivial⟩⟩⟩⟩
 exact Int.le_trans (Int.ofNat_le.2 (Nat.le_of_lt (UInt8.toNat_lt _))) (by decide)
def Y3 (RT : List (List Int)) (L : List Tx) (b : Int) : Tx := atT L (ZcT b RT : Nat)
def okU (RT : List (List Int)) (L : List Tx) (t : Int) (u : List Int) : Prop := g0 u ≠ t -> ¬ (Y3 RT L (g0 u)).com < (Y3 RT L t).beg
def ZJ5 (k RT : List (List Int)) (M : List (Int × Int)) (L : List Tx) : Prop :=
 (∀ u ∈ k.drop 1, okU RT L (g0 (k.getD 0 [])) u) /\ (Y3 RT L (g0 (k.getD 0 []))).bad = [] /\ ∀ r ∈ (Y3 RT L (g0 (k.getD 0 []))).rds, ZZ M (r.drop 1) = true
structure OfSig (S : Sig GG) : Prop where
 od : OdSig S
 u630 : ∀ a b c d, S.usr 630 a b c d = .bool (Zn (∀ j : Nat, (j : Int) < c.tI -> ZZ b.tM ((a.tR.getD j []).drop 1) = true))
 u631 : ∀ a b c d, S.usr 631 a b c d = .bool (Zn (ZJ5 a.tR b.tR c.tM (ZK d)))
 u633 : ∀ a b c d, S.usr 633 a b c d = .bool (Zn (∀ t ∈ ZK a, t.rds.length <= 1000000))
 u632 : ∀ a b c d, S.usr 632 a b c d = .bool (Zn (∀ j : Nat, (j : Int) < d.tI -> okU b.tR (ZK c) (g0 (a.tR.getD 0 [])) ((a.tR.drop 1).getD j [])))
def Zxh : Ctr := ⟨[.int, .int, .rows, .int, .int, .rows, .g], [.one (.cap (.fn 66) (.ptr (ai 0) 0)), .one sF], [.cel (ai 0) 0 [slC (ai 1) (Zj (rA 2)) (ai 3) 1], pAr (ai 1) (rA 2) (ai 4), txC (rA 5) (gA 6)],
 [usB 620 (rA 2) z0 z0, eLe (Zj (rA 2)) (.int 12), usB 560 (rA 2) (rA 5) z0, usB 621 (rA 2) z0 z0], [.int, .int, .rows], .one (slC (ai 7) (Zj (rA 2)) (ai 8) 1), [pAr (ai 1) (rA 2) (ai 4), txC (rA 5) (gA 6), pAr (ai 7) (rA 9) (ai 8)],
 [.us .bool 622 (rA 9) (rA 2) (rA 5) (gA 6), eLe (Zj (rA 2)) (ai 8), .f2 50 (eLe z0 (ai 7)) (.f2 45 (Zj (rA 2)) z0), .f2 45 (Zj (rA 9)) (Zj (rA 2))]⟩
def ZMj : Cx := { specs := [(64, [Zdx]), (65, [ZwH])], anns := [] }
def ftA : List Srt := [.int, .int, .amap, .int, .rows, .int, .int, .rows, .g]
def ftK : SX := Zz (Zss (ai 0)) (rA 4)
def ftX : SX := .us .bool 631 ftK (rA 7) (mA 2) (gA 8)
def Zz3 : Ctr := ⟨ftA, [.one (.ptr (ai 0) 0), .one (.map (ai 1)), .one (slC (ai 3) (Zj (rA 4)) (ai 5) 1)], [scC (ai 1) (mA 2), pAr (ai 3) (rA 4) (ai 6), txC (rA 7) (gA 8)],
 [usB 565 (rA 7) (ai 0) z0, usB 560 (rA 4) (rA 7) z0, eLe (Zj (rA 4)) (.int 1000), eLe (Zj (rA 4)) (ai 5), eLe z0 (ai 1), usB 633 (gA 8) z0 z0], [.bool], .one (.bool (qA 9)), [scC (ai 1) (mA 2), pAr (ai 3) (rA 4) (ai 6), txC (rA 7) (gA 8)], [.f2 48 (qA 9) ftX]⟩
def ftsI : Inv := ⟨[.int], [(11, .one (.int .i64 (di 0)))], [], [eLe z0 (di 0), eLe (di 0) (Zj (rA 4)), .us .bool 632 ftK (rA 7) (gA 8) (di 0)], .f2 41 (Zj (rA 4)) (di 0)⟩
def ftsE : SX := .f2 45 (nt (rA 4) (ai 10) 0) (ai 0)
def ftR : SX := usR 545 (gA 8) (ixB (rA 7) (ai 0)) z0
def ftsJ : Inv := ⟨[.int], [(8, .one (.int .i64 (di 0)))], [], [eLe z0 (di 0), eLe (di 0) (Zj ftR), usB 630 ftR (mA 2) (di 0)], .f2 41 (Zj ftR) (di 0)⟩
def ZKr : Cx := { specs := [(47, [Zie])], anns := [(68, [(1, .ghost ZLz []), (2, .inv ftsI), (4, .split ftsE), (4, .iff (ZcH ftsE)), (4, .ghost ZCG [.tmp 9, .tmp 11, .tmp 0]), (500004, .iff (ZcH ftsE)), (500004, .ghost ZB6 [.tmp 0]), (7, .ghost ZqW [.tmp 0]), (500007, .ghost ZjV [.tmp 0])]), (113, [(2, .inv ftsJ)])] }
def ZK4 : VC := i (p 620 (r 2)) (i (l (.f1 32 (r 2)) (k 12)) (i (c 560 (r 2) (r 5)) (i (p 621 (r 2)) (n (l (.f1 32 (r 2)) (k 1000000)) (u 7 .int (u 8 .int (i (l (.f1 32 (r 2)) (a 8)) (i (.f2 50 (l z (a 7)) (e (.f1 32 (r 2)) z)) (n (e (.f1 32 (r 2)) (.f1 32 (r 2))) (u 9 .rows (i (.us .bool 622 (r 9) (r 2) (r 5) (g 6)) (n (e (.f1 32 (r 9)) (.f1 32 (r 2))) .tt))))))))))))
theorem ZLS : Yq Tryz.prog ZMj 12 35 Zxh = ZK4 := by kernel_rfl
def ZAo : SX := .f2 124 (.f2 122 (a 0) (.f1 152 z)) (r 4)
def Zr4 : SX := .f3 112 (r 4) (a 10) z
def ZGa : SX := e Zr4 (a 0)
def ZrM : SX := .f2 40 (a 10) (k 1)
def ZFn : SX := .f1 23 ZrM
def ZIo : SX := .f2 41 (.f1 32 (r 4)) ZrM
def ZHU : SX := l z ZIo
def ZHT : SX := t ZIo (.f2 41 (.f1 32 (r 4)) (a 10))
def ZGX : SX := l z ZrM
def ZFD : SX := l ZrM (.f1 32 (r 4))
def ZxY : SX := .us .bool 632 ZAo (r 7) (g 8) ZrM
def ZsZ : SX := d 542 (g 8) (d 566 (r 7) Zr4)
def Zb3 : SX := d 566 (r 7) (a 0)
def Zwe : SX := d 541 (g 8) Zb3
def Zq6 : SX := .us .bool 631 ZAo (r 7) (m 2) (g 8)
def ZAt : SX := .f2 48 (.bool false) Zq6
def ZuH : SX := .f3 112 (r 7) Zb3 z
def ZyQ : SX := v 552 (g 8)
def ZcD : SX := wR 545 (g 8) Zb3
def ZdM : SX := .f1 32 ZcD
def ZAp : SX := .f1 30 (wN 546 (g 8) Zb3)
def Zrl : SX := e ZAp z
def Zrh : SX := l z Zb3
def ZhT : SX := .f2 40 (a 11) (k 1)
def ZtC : SX := .f2 41 ZdM ZhT
def ZNJ : VC := i (c 565 (r 7) (a 0)) (i (c 560 (r 4) (r 7)) (i (l (.f1 32 (r 4)) (k 1000)) (i (l (.f1 32 (r 4)) (a 5)) (i (l z (a 1)) (i (p 633 (g 8)) (u 9 .int (i (l z (a 9)) (i (c 558 (r 7) (g 8)) (n (y 632 ZAo (r 7) (g 8)) (u 10 .int (i (l z (a 10)) (i (l (a 10) (.f1 32 (r 4))) (i (.us .bool 632 ZAo (r 7) (g 8) (a 10)) (.and (i (t (a 10) (.f1 32 (r 4))) (.and (i ZGa (n (l z Zr4) (n ZFn (n ZHU (n ZHT (n ZGX (n ZFD (n ZxY .tt)))))))) (i (.f1 2 ZGa) (n (c 565 (r 7) Zr4) (n (.f1 2 (e (a 0) Zr4)) (.and (i (t ZsZ Zwe) (n ZAt .tt)) (i (l Zwe ZsZ) (n ZFn (n ZHU (n ZHT (n ZGX (n ZFD (n ZxY .tt))))))))))))) (i (l (.f1 32 (r 4)) (a 10)) (i (e (a 0) ZuH) (i (t Zb3 ZyQ) (i (l ZdM (.f3 112 (r 7) Zb3 (k 3))) (i (l ZAp (.f3 112 (r 7) Zb3 (k 5))) (i (.f2 50 (l z (.f3 112 (r 7) Zb3 (k 2))) (e ZdM z)) (i (.f2 50 (l z (.f3 112 (r 7) Zb3 (k 4))) Zrl) (i (l z (.f3 112 (r 7) Zb3 (k 1))) (i (l z ZuH) (i (e (.f1 32 (r 7)) ZyQ) (.and (i Zrl (n (c 630 ZcD (m 2)) (u 11 .int (i (l z (a 11)) (i (l (a 11) ZdM) (i (y 630 ZcD (m 2) (a 11)) (.and (i (t (a 11) ZdM) (u 12 .int (i (l z (a 12)) (u 13 .bool (i (.f2 48 (q 13) (c 530 (m 2) (.f2 122 (.f3 112 ZcD (a 11) (k 1)) (.f2 122 (.f3 112 ZcD (a 11) (k 2)) (.f2 122 (.f1 35 (.f1 36 (.f3 112 ZcD (a 11) (k 3)))) (.f2 122 (.f1 35 (.f1 36 (.f3 112 ZcD (a 11) (k 4)))) (.f2 122 (.f1 3 (.f1 2 (e (.f3 112 ZcD (a 11) (k 5)) z))) (.f2 122 (.f3 112 ZcD (a 11) (k 6)) (.f1 152 z))))))))) (.and (i (.f1 2 (q 13)) (n Zrh (n (.f2 48 (t (a 11) z) Zq6) .tt))) (i (.f1 2 (.f1 2 (q 13))) (n (.f1 23 ZhT) (n (l z ZtC) (n (t ZtC (.f2 41 ZdM (a 11))) (n (l z ZhT) (n (l ZhT ZdM) (n (y 630 ZcD (m 2) ZhT) .tt))))))))))))) (i (l ZdM (a 11)) (n Zrh (n (.f2 48 (.bool true) Zq6) .tt)))))))))) (i (.f1 2 Zrl) (n Zrh (n ZAt .tt))))))))))))))))))))))))))))
theorem ZKN : Yq Tryz.prog ZKr 12 68 Zz3 = ZNJ := by kernel_rfl
theorem ZKb (S : Sig GG) (hS : OfSig S) : Zy S Tryz.prog 35 Zxh := by
 refine Ze S (C := ZMj) (fuel := 12) (ZQ ⟨Zg (by decide) (ZNt S hS.od.u620), Zg (by decide) (ZL8 S hS.od), trivial⟩ trivial trivial) fun ρ => ?_
 rw [ZLS]
 simp only [ZK4, hS.od.fi.js.jt.u560, hS.od.u620, hS.od.u621, hS.od.u622, ZI, ZN5, VC.den, SX.den, Env.upd, ZS, ZD, beq_iff_eq, ZNX, beq_eq_false_iff_ne, ne_eq, ZNW, ZNV, Int.reduceToNat, Nat.reduceEqDiff, reduceIte, sB, sC]
 generalize (ρ 2).tR = P
 intro h1 h2 h3 h4
 refine ⟨by omega, fun b c _ _ => ⟨trivial, fun Q hQ => ⟨?_, trivial⟩⟩⟩
 have := hQ.1.length_eq
 omega
theorem ZMz (S : Sig GG) (hS : OfSig S) : Zy S Tryz.prog 68 Zz3 := by
 refine Ze S (C := ZKr) (fuel := 12) (ZQ ⟨Zg (by decide) (Zpo S hS.od.fi.js.jt.jb), trivial⟩ ⟨⟨⟨by decide, ZDM S hS.od.fi.js.jt⟩, trivial, trivial, trivial, ⟨by decide, ZzI S hS.od.fi.js.jt⟩, trivial, ⟨by decide, ZqB S hS.od.fi.js.jt⟩, ⟨by decide, ZcE S hS.od.fi.js.jt⟩, ⟨by decide, Zcr S hS.od.fi.js.jt⟩, trivial⟩, ⟨trivial, trivial⟩, trivial⟩ trivial) fun ρ => ?_
 rw [ZKN]
 simp only [ZNJ, ZAo, Zr4, ZGa, ZrM, ZFn, ZIo, ZHU, ZHT, ZGX, ZFD, ZxY, ZsZ, Zb3, Zwe, Zq6, ZAt, ZuH, ZyQ, ZcD, ZdM, ZAp, Zrl, Zrh, ZhT, ZtC, hS.od.fi.js.jt.jb.u530, hS.od.fi.js.jt.u541, hS.od.fi.js.jt.u542, hS.od.fi.js.jt.u545, hS.od.fi.js.jt.u546, hS.od.fi.js.jt.u552, hS.od.fi.js.jt.u558, hS.od.fi.js.jt.u560, hS.od.fi.js.jt.u565, hS.od.fi.js.jt.u566, hS.u630, hS.u631, hS.u632, hS.u633, ZI, ZN5, VC.den, SX.den, Env.upd, ZS, ZD, beq_iff_eq, ZNX, beq_eq_false_iff_ne, ne_eq, ZNW, ZNV, Int.reduceToNat, Nat.reduceEqDiff, reduceIte, sB, sC]
 simp only [Zjk, ZfB]
 generalize (ρ 4).tR = P
 generalize (ρ 7).tR = RT
 generalize (ρ 2).tM = M
 generalize ZK (U.co S Srt.g (ρ 8)) = L
 generalize (ρ 0).tI = t
 generalize (ρ 5).tI = c5
 generalize (ρ 1).tI = mb
 intro ht hv h1 h2 h3 hrl bx hbx hpl
 have bl0 : ∀ b, Zn4 RT b -> 0 <= b := fun b hb => by
  obtain ⟨k, hk, rfl⟩ := hb
  exact hpl.2.2 _ (by rw [ZNY, ZN1 hk]; exact ZOl hk)
 refine ⟨fun j hj => absurd hj (by omega), fun i i0 i1 g1 => ?_⟩
 obtain ⟨n, rfl⟩ := ZNQ i0
 have en : ((n : Int) + 1).toNat = n + 1 := by omega
 have gd : ∀ (j : Nat) (hj : j < P.length), P.getD j [] = P[j] := fun j hj => by rw [ZNY, ZN1 hj]; rfl
 have hb : n < P.length -> Zn4 RT (g0 (P.getD n [])) := fun hn => by
  obtain ⟨b, e, hb⟩ := hv P[n] (ZOl hn)
  rw [gd n hn, e]; exact hb
 have step : okU RT L t (P.getD n []) -> ∀ j : Nat, (j : Int) < (n : Int) + 1 -> okU RT L t (P.getD j []) := fun ho j hj => by
  rcases ZNS j n with q | q
  ·exact g1 j (by omega)
  ·have : j = n := by omega
   subst this; exact ho
 have nofit : ∀ n : Nat, n < P.length -> ¬ okU RT L t (P.getD n []) -> false = Zn (ZJ5 ([t] :: P) RT M L) := fun n hn h => by
  refine (Zr fun hf => h ?_).symm
  exact hf.1 (P.getD n []) (by rw [gd n hn]; exact ZOl hn)
 simp only [ZN5]
 refine ⟨fun hn => ?_, fun hn => ?_⟩
 ·have hn : n < P.length := by omega
  have hbn := hb hn
  refine ⟨fun he => ⟨bl0 _ hbn, ⟨by omega, by omega⟩, by omega, by omega, by omega, by omega, step (fun hne => absurd he hne), trivial⟩, fun hne => ⟨hbn, fun e => hne e.symm, fun hlt => ⟨?_, trivial⟩, fun hge => ⟨⟨by omega, by omega⟩, by omega, by omega, by omega, by omega, step (fun _ => ?_), trivial⟩⟩⟩
  ·exact nofit n hn fun ho => ho hne hlt
  ·unfold Y3
   show ¬ (atT L (ZcT ((P.getD n []).getD 0 0) RT : Nat)).com < _
   omega
 ·have hall : ∀ u ∈ P, okU RT L t u := fun u hu => by
   obtain ⟨j, hj, rfl⟩ := List.getElem_of_mem hu
   rw [<- gd j hj]; exact g1 j (by omega)
  intro _ _ _ _ _ _ _ _ _
  generalize hT : atT L (ZcT t RT : Nat) = T at *
  have hT2 : Y3 RT L t = T := hT
  have hTl : T.rds.length <= 1000000 := by
   rw [<- hT]
   unfold atT
   rw [ZN5]
   rcases ZNS (ZcT t RT) L.length with q | q
   ·rw [Yv q]; exact hrl _ (ZOl q)
   ·rw [ZNY, List.getElem?_eq_none q]; exact Nat.zero_le _
  have gr : ∀ (j : Nat) (hj : j < T.rds.length), T.rds.getD j [] = T.rds[j] := fun j hj => by rw [ZNY, ZN1 hj]; rfl
  refine ⟨fun hb0 => ⟨fun j hj => absurd hj (by omega), fun i i0 i1 g2 => ?_⟩, fun hb0 => ⟨by omega, ?_, trivial⟩⟩
  ·obtain ⟨m, rfl⟩ := ZNQ i0
   simp only [ZN5]
   refine ⟨fun hm b hbb v hv2 => ⟨fun hno => ⟨by omega, ?_, trivial⟩, fun hyes => ⟨⟨by omega, by omega⟩, by omega, by omega, by omega, by omega, fun j hj => ?_, trivial⟩⟩, fun hm => ⟨by omega, ?_, trivial⟩⟩
   ·have hv3 : ZZ M ((T.rds.getD m []).drop 1) = false := by rw [<- hv2]; simpa using hno
    have : ltB (m : Int) 0 = false := by unfold ltB; simp
    rw [this]
    refine (Zr fun hf => ?_).symm
    have h := hf.2.2
    have hh := h (T.rds.getD m []) (by show _ ∈ (Y3 RT L t).rds; rw [hT2, gr m (by omega)]; exact ZOl (by omega))
    rw [hv3] at hh; cases hh
   ·have hv3 : ZZ M ((T.rds.getD m []).drop 1) = true := by rw [<- hv2]; simpa using hyes
    rcases ZNS j m with q | q
    ·exact g2 j (by omega)
    ·have : j = m := by omega
     subst this; exact hv3
   ·refine (Zu ⟨hall, ?_, fun r hr => ?_⟩).symm
    ·show (Y3 RT L t).bad = []
     rw [hT2]; exact ZOd (by omega)
    ·have hr : r ∈ (Y3 RT L t).rds := hr
     rw [hT2] at hr
     obtain ⟨j, hj, rfl⟩ := List.getElem_of_mem hr
     rw [<- gr j hj]; exact g2 j (by omega)
  ·refine (Zr fun hf => hb0 ?_).symm
   have h := hf.2.1
   have h : (Y3 RT L t).bad = [] := h
   rw [hT2] at h
   rw [h]; rfl
end
end Go.Proofs.YtidlngnhjffepaaGreat
