/- Part of a proof. -/
import Derived.Test.YtidlngnhjffepaaPq5
import Derived.Sort.Walk0
import Derived.Shelf.Sort.Plain
import Derived.Shelf.Slices.In.SortNone
import Derived.Test.YtidlngnhjffepaaProg
import Derived.Shelf.GgSortFunc.RowK
import Derived.Shelf.SlSortCmp.Insertion
import Derived.Shelf.GgSortFunc.InsertionK
import Derived.Test.YtidlngnhjffepaaPq4
import Derived.RangeFuncBox
import Derived.RangeFuncLeaves
import Derived.RangeFuncGives
import Derived.Maps.AppendAt
import Derived.Shelf.Abstract
import Derived.Shelf.SlIter.Collect
import Derived.WalkKit
import Derived.OwnWalkIn
import Derived.TacticsInMore
import Derived.LoopNIn
import Derived.LoopIn
import Derived.Shelf.SlMaps.Clone
set_option linter.unusedSimpArgs false
set_option linter.unusedVariables false
set_option maxRecDepth 20000
namespace Go.Proofs.Ytidlngnhjffepaa
noncomputable section
open Go.Eng
theorem Ys.congr {F G : Int -> Int -> Prop} {n : Int} {s : Int × Int} (h : Ys F n s) (e : ∀ i r, F i r ↔ G i r) : Ys G n s := by
 have : F = G := by funext i r; exact propext (e i r)
 rw [<- this]; exact h
theorem Ys.note {F : Int -> Int -> Prop} {n : Int} {s : Int × Int} (h : Ys F n s) {i0 r0 : Int} (hi : i0 < n) (hr : r0 ≠ 0) : Ys (fun i r => F i r \/ (i = i0 /\ r = r0)) n (ZdD s i0 r0) := by
 unfold ZdD
 rcases h with ⟨rfl, hno⟩ | ⟨h1, h2, h3⟩
 ·rw [if_pos hi]
  exact .inr ⟨hr, .inr ⟨rfl, rfl⟩, fun i r q => by
   rcases q with q | q
   ·exact absurd q (hno i r)
   ·rw [q.1]; exact ZGS _⟩
 ·split
  ·rename_i q
   refine .inr ⟨hr, .inr ⟨rfl, rfl⟩, fun i r q2 => ?_⟩
   show i0 <= i
   rcases q2 with q2 | q2
   ·have := h3 i r q2; omega
   ·omega
  ·rename_i q
   refine .inr ⟨h1, .inl h2, fun i r q2 => ?_⟩
   rcases q2 with q2 | q2
   ·exact h3 i r q2
   ·omega
theorem ZnO {F : Int -> Int -> Prop} {n : Int} {s : Int × Int} (h : Ys F n s) (l : List Int) (hl : ∀ i ∈ l, i < n) : ∀ m ≤ l.length, Ys (fun i r => F i r \/ (r = 3 /\ i ∈ l.take m)) n (ZAp s l m)
 | 0, _ => h.congr fun i r => by simp
 | m + 1, hm => by
  have ih := ZnO h l hl m (by omega)
  have hlt : m < l.length := by omega
  have e : l.getD m 0 = l[m] := by rw [ZGH, ZGK hlt, ZGC]
  have := ih.note (i0 := l.getD m 0) (r0 := 3) (hl _ (by rw [e]; exact ZG4 hlt)) (by decide)
  refine this.congr fun i r => ?_
  rw [<- List.take_append_getElem hlt, ZG2, ZGA, e]
  constructor
  ·rintro ((a | ⟨a, b⟩) | ⟨a, b⟩)
   ·exact .inl a
   ·exact .inr ⟨a, .inl b⟩
   ·exact .inr ⟨b, .inr a⟩
  ·rintro (a | ⟨a, b | b⟩)
   ·exact .inl (.inl a)
   ·exact .inl (.inr ⟨a, b⟩)
   ·exact .inr ⟨b, a⟩
theorem Znr {F : Int -> Int -> Prop} {n : Int} {s : Int × Int} (h : Ys F n s) (f : Ent -> Bool) (l : List (List Int)) (hl : ∀ r ∈ l, g0 r < n) : ∀ m ≤ l.length, Ys (fun i r => F i r \/ (r = 4 /\ ∃ R ∈ l.take m, i = g0 R /\ f (R.drop 1) = false)) n (Zix f s l m)
 | 0, _ => h.congr fun i r => by simp
 | m + 1, hm => by
  have ih := Znr h f l hl m (by omega)
  have hlt : m < l.length := by omega
  have e : l.getD m [] = l[m] := by rw [ZGH, ZGK hlt, ZGC]
  have e2 := (List.take_append_getElem hlt).symm
  unfold Zix
  rw [e]
  split
  ·rename_i q
   refine ih.congr fun i r => ?_
   rw [e2]
   constructor
   ·rintro (a | ⟨a, R, hR, b⟩)
    ·exact .inl a
    ·exact .inr ⟨a, R, List.mem_append.2 (.inl hR), b⟩
   ·rintro (a | ⟨a, R, hR, b⟩)
    ·exact .inl a
    ·rcases List.mem_append.1 hR with hR | hR
     ·exact .inr ⟨a, R, hR, b⟩
     ·rw [List.mem_singleton.1 hR, q] at b; cases b.2
  ·rename_i q
   have q : f ((l[m]).drop 1) = false := by simpa using q
   have := ih.note (i0 := g0 l[m]) (r0 := 4) (hl _ (ZG4 hlt)) (by decide)
   refine this.congr fun i r => ?_
   rw [e2]
   constructor
   ·rintro ((a | ⟨a, R, hR, b⟩) | ⟨a, b⟩)
    ·exact .inl a
    ·exact .inr ⟨a, R, List.mem_append.2 (.inl hR), b⟩
    ·exact .inr ⟨b, l[m], List.mem_append.2 (.inr (List.mem_singleton.2 rfl)), a, q⟩
   ·rintro (a | ⟨a, R, hR, b⟩)
    ·exact .inl (.inl a)
    ·rcases List.mem_append.1 hR with hR | hR
     ·exact .inl (.inr ⟨a, R, hR, b⟩)
     ·rw [List.mem_singleton.1 hR] at b; exact .inr ⟨b.1, a⟩
theorem ZiP {f : Ent -> Bool} {L : List (List Int)} {place N : Int} (hs : L.Pairwise fun a b => g0 a <= g0 b) (hN : ∀ q < L.length, g0 (L.getD q []) < N) :
  ∀ (n p : Nat) {F : Int -> Int -> Prop} {s : Int × Int}, n = L.length - p -> p <= L.length -> Ys F N s →
  p <= (Zqq f L place n p s).1 /\ (Zqq f L place n p s).1 <= L.length /\ (∀ q, p <= q -> q < (Zqq f L place n p s).1 -> g0 (L.getD q []) < place) /\ (∀ q, (Zqq f L place n p s).1 <= q -> q < L.length -> place <= g0 (L.getD q [])) ∧
  Ys (fun i r => F i r \/ (r = 4 /\ ∃ q, p <= q /\ q < (Zqq f L place n p s).1 /\ i = g0 (L.getD q []) /\ f ((L.getD q []).drop 1) = false)) N (Zqq f L place n p s).2
 | 0, p, F, s, hn, hp, h => ⟨ZGx _, hp, fun q a b => absurd b (Nat.not_lt.2 a), fun q a b => by have a : p <= q := a; omega, h.congr fun i r => ⟨.inl, fun q => by
   rcases q with q | ⟨_, q, a, b, _⟩
   ·exact q
   ·have b : q < p := b; omega⟩⟩
 | n + 1, p, F, s, hn, hp, h => by
  unfold Zqq
  by_cases q : p < L.length /\ g0 (L.getD p []) < place
  ·rw [if_pos q]
   have hF : Ys (fun i r => F i r \/ (r = 4 /\ i = g0 (L.getD p []) /\ f ((L.getD p []).drop 1) = false)) N (if f ((L.getD p []).drop 1) = true then s else ZdD s (g0 (L.getD p [])) 4) := by
    split
    ·rename_i t
     exact h.congr fun i r => ⟨.inl, fun q => by
      rcases q with q | ⟨_, _, q⟩
      ·exact q
      ·rw [t] at q; cases q⟩
    ·rename_i t
     have t : f ((L.getD p []).drop 1) = false := by simpa using t
     exact (h.note (hN p q.1) (by decide)).congr fun i r => ⟨fun q => by
      rcases q with q | ⟨a, b⟩
      ·exact .inl q
      ·exact .inr ⟨b, a, t⟩, fun q => by
      rcases q with q | ⟨a, b, _⟩
      ·exact .inl q
      ·exact .inr ⟨b, a⟩⟩
   obtain ⟨a1, a2, a3, a4, a5⟩ := ZiP (f := f) (place := place) hs hN n (p + 1) (by omega) (by omega) hF
   generalize Zqq f L place n (p + 1) _ = e at *
   refine ⟨by omega, a2, fun t h1 h2 => ?_, a4, a5.congr fun i r => ?_⟩
   ·by_cases hte : t = p
    ·rw [hte]; exact q.2
    ·exact a3 t (by omega) h2
   ·constructor
    ·rintro ((b | ⟨b, c, d⟩) | ⟨b, t, c, d, g⟩)
     ·exact .inl b
     ·exact .inr ⟨b, p, ZGx _, by omega, c, d⟩
     ·exact .inr ⟨b, t, by omega, d, g⟩
    ·rintro (b | ⟨b, t, c, d, g⟩)
     ·exact .inl (.inl b)
     ·by_cases hte : t = p
      ·rw [hte] at g; exact .inl (.inr ⟨b, g⟩)
      ·exact .inr ⟨b, t, by omega, d, g⟩
  ·rw [if_neg q]
   refine ⟨ZGx _, hp, fun t a b => absurd b (Nat.not_lt.2 a), fun t a b => ?_, h.congr fun i r => ⟨.inl, fun q => by
    rcases q with q | ⟨_, t, a, b, _⟩
    ·exact q
    ·have b : t < p := b; omega⟩⟩
   have a : p <= t := a
   have hp2 : p < L.length := by omega
   have h0 : place <= g0 (L.getD p []) := by
    by_cases z : g0 (L.getD p []) < place
    ·exact absurd ⟨hp2, z⟩ q
    ·omega
   by_cases hte : t = p
   ·rw [hte]; exact h0
   ·have := (List.pairwise_iff_getElem.1 hs) p t hp2 b (by omega)
    rw [ZGH, ZGK hp2, ZGC] at h0
    rw [ZGH, ZGK b, ZGC]
    omega
/-! ### What stands, and what the reference lets stand -/
theorem Zdo (x : List Ent) {m n : Nat} (h : m <= n) : (Zv x m).length <= (Zv x n).length /\ ∀ i < (Zv x m).length, (Zv x n).getD i 0 = (Zv x m).getD i 0 := by
 induction n with
 | zero => rw [show m = 0 by omega]; exact ⟨ZGx _, fun i _ => rfl⟩
 | succ n ih =>
  rcases ZGB m (n + 1) with p | p
  ·obtain ⟨a, b⟩ := ih (by omega)
   rw [Yi]
   split
   ·refine ⟨by rw [ZGM]; omega, fun i hi => ?_⟩
    rw [ZGH, ZGZ (by omega), <- ZGH]; exact b i hi
   ·exact ⟨a, b⟩
  ·rw [show m = n + 1 by omega]; exact ⟨ZGx _, fun i _ => rfl⟩
theorem ZmK (x : List Ent) {ks ls : List Int} (key : List UInt8) : ∀ k : Nat, (∀ i < k, ks.getD i 0 = ls.getD i 0) -> Zb5 x ks key k = Zb5 x ls key k
 | 0, _ => rfl
 | k + 1, h => by
  rw [ZbT, ZbT, h k (by omega), ZmK x key k (fun i hi => h i (by omega))]
structure Go (x : List Ent) (B : Bk) : Prop where
 nf : NF x x.length
 ri : RI x x.length B
 wf : WfB B x.length
theorem Go.may {x : List Ent} {B : Bk} (h : Go x B) (n : Nat) (hn : n < x.length) : ZbX (xa x n) = true := h.nf.2 n hn
theorem Go.tx {x : List Ent} {B : Bk} (h : Go x B) {t : Tx} (ht : t ∈ B.txs) : t = txN x t.who x.length /\ 0 < t.who := by
 obtain ⟨j, hj, rfl⟩ := List.getElem_of_mem ht
 have a := h.ri.tx j hj
 have b := h.ri.pos j hj
 rw [Yl hj] at a b
 exact ⟨a, b⟩
theorem Go.kw {x : List Ent} {B : Bk} (h : Go x B) {k : Nat} (hk : k < B.kept.length) : B.kept.getD k 0 < B.txs.length /\ (B.txs.getD (B.kept.getD k 0) tx0).who = (Zv x x.length).getD k 0 := by
 have e : B.kept.getD k 0 = B.kept[k] := by rw [ZGH, ZGK hk, ZGC]
 refine ⟨by rw [e]; exact h.wf.ki _ (ZG4 hk), ?_⟩
 rw [<- h.ri.kep, ZGH (l := B.kept.map _), ZGD, ZGK hk, e]; rfl
theorem Go.kt {x : List Ent} {B : Bk} (h : Go x B) {k : Nat} (hk : k < B.kept.length) : B.txs.getD (B.kept.getD k 0) tx0 ∈ B.txs := by
 have := (h.kw hk).1
 rw [Yl this]; exact ZG4 this
theorem Zon {x : List Ent} {B : Bk} (h : Go x B) (key : List UInt8) : ∀ k ≤ B.kept.length,
  (stF B k (Zq key : Nat) = (false, vw 0) /\ Zb5 x (Zv x x.length) key k = ([], false)) \/ (stF B k (Zq key : Nat) = (true, Zb5 x (Zv x x.length) key k) /\ ((Zb5 x (Zv x x.length) key k).2 = false -> (Zb5 x (Zv x x.length) key k).1 = []))
 | 0, _ => .inl ⟨rfl, rfl⟩
 | k + 1, hk => by
  have ih := Zon h key k (by omega)
  obtain ⟨t1, t2⟩ := h.tx (h.kt (k := k) (by omega))
  have hw := (h.kw (k := k) (by omega)).2
  have hc := Zr4 t2 h.nf key
  rw [<- t1, hw] at hc
  have e1 : stF B (k + 1) (Zq key : Nat) = if Zt (B.txs.getD (B.kept.getD k 0) tx0).ch (Zq key : Nat) = true then (true, vw (Yr 0 (B.txs.getD (B.kept.getD k 0) tx0).ch (Zq key : Nat))) else stF B k (Zq key : Nat) := rfl
  rw [e1, ZbT, hc.1]
  by_cases hl : 0 <= Ye x ((Zv x x.length).getD k 0) key x.length
  ·rw [if_pos hl, if_pos (decide_eq_true hl), hc.2 hl]
   refine .inr ⟨rfl, fun q => ?_⟩
   obtain ⟨l1, _, l3⟩ := Zpk x ((Zv x x.length).getD k 0) key x.length
   have q : ¬ xk (xa x (Ye x ((Zv x x.length).getD k 0) key x.length).toNat) = 3 := by simpa using q
   exact ZmV (h.may _ (by omega)) (by have := l3 hl; omega)
  ·rw [if_neg hl, if_neg (fun q => hl (of_decide_eq_true q))]; exact ih
theorem Zyd {x : List Ent} {B : Bk} (h : Go x B) {k : Nat} (hk : k <= B.kept.length) {r : Ent} (hm : ZbX r = true) (h2 : xk r = 2) :
  ZQ (stF B k) r = ((Zcu r == (Zb5 x (Zv x x.length) (ZJ r) k).2) && (ZaU r == (Zb5 x (Zv x x.length) (ZJ r) k).1)) := by
 have hs := Zon h (ZJ r) k hk
 unfold ZQ
 show ((Zcu r == ((stF B k (Zq (ZJ r) : Nat)).1 && (stF B k (Zq (ZJ r) : Nat)).2.2)) && (!Zcu r || ZaU r == (stF B k (Zq (ZJ r) : Nat)).2.1)) = _
 cases hh : Zcu r
 ·have hv := ZlX hm (.inl h2) hh
  rcases hs with ⟨a, b⟩ | ⟨a, b⟩
  ·rw [a, b, hv]; rfl
  ·rw [a, hv]
   generalize Zb5 x (Zv x x.length) (ZJ r) k = v at *
   cases hv2 : v.2
   ·rw [b hv2]; rfl
   ·rfl
 ·rcases hs with ⟨a, b⟩ | ⟨a, b⟩
  ·rw [a, b]; rfl
  ·rw [a]; simp
theorem ZaZ (f : Int -> Bool × (List UInt8 × Bool)) (r : Ent) : ZQ f (nr r) = ZQ f r := by unfold ZQ; rw [ZCW, Zid, Zf7]
theorem ZtQ {x : List Ent} {w : Int} : ∀ {n : Nat}, 0 <= ZA x 5 w n -> w ∈ Zv x n
 | 0, h => absurd h (by show ¬ (0 : Int) <= -1; omega)
 | n + 1, h => by
  rw [Yi]
  rw [ZK] at h
  by_cases h0 : 0 <= ZA x 5 w n
  ·have := ZtQ h0
   split
   ·exact List.mem_append.2 (.inl this)
   ·exact this
  ·rw [if_neg h0] at h
   by_cases h1 : xk (xa x n) = 5 /\ xw (xa x n) = w
   ·rw [if_pos h1.1, h1.2]; simp
   ·rw [if_neg h1] at h; exact absurd h (by omega)
def looF (x : List Ent) (B : Bk) (i r : Int) : Prop := r = 4 /\ ∃ R ∈ Zly B [], i = g0 R /\ ZQ (stF B (Zv x i.toNat).length) (R.drop 1) = false
def kepF (B : Bk) (k : Nat) (i r : Int) : Prop := r = 4 /\ ∃ k' < k, ∃ R ∈ (B.txs.getD (B.kept.getD k' 0) tx0).rds, i = g0 R /\ ZQ (stF B k') (R.drop 1) = false
def refF (x : List Ent) (i r : Int) : Prop := ∃ n : Nat, n < x.length /\ i = n /\ xk (xa x n) = 2 /\ (Zdd x n (Zv x (Zhz x n))).1 = false /\ r = (Zdd x n (Zv x (Zhz x n))).2
theorem ZhZ {B : Bk} {R : Ent} : R ∈ Zly B [] ↔ R ∈ B.out \/ ∃ t ∈ B.txs, t.com < 0 /\ R ∈ t.rds := by
 unfold Zly
 rw [ZG2, List.mem_flatMap]
 constructor
 ·rintro (a | ⟨t, a, b⟩)
  ·exact .inl a
  ·rw [List.mem_filter] at a
   exact .inr ⟨t, a.1, by simpa [Zt] using a.2, b⟩
 ·rintro (a | ⟨t, a, b, c⟩)
  ·exact .inl a
  ·exact .inr ⟨t, List.mem_filter.2 ⟨a, by simpa [Zt] using b⟩, c⟩
theorem YN {x : List Ent} {B : Bk} (h : Go x B) : (Zv x x.length).length = B.kept.length := by rw [<- h.ri.kep, ZGR]
theorem ZyB {x : List Ent} {B : Bk} (h : Go x B) {n m k : Nat} (hn : n < x.length) (h2 : xk (xa x n) = 2) (hno : ¬ (0 <= Ye x (xw (xa x n)) (ZJ (xa x n)) n /\ 0 < xw (xa x n))) (hm : m <= x.length) (hk : (Zv x m).length = k) :
  Zdd x n (Zv x m) = (ZQ (stF B k) (xa x n), 4) := by
 have hkm := Zdo x hm
 rw [ZzK, if_neg hno, Zyd h (by rw [<- hk, <- YN h]; exact hkm.1) (h.may n hn) h2, hk]
 rw [ZmK x (ZJ (xa x n)) k (ks := Zv x m) (ls := Zv x x.length) (fun i hi => (hkm.2 i (by omega)).symm)]
theorem ZDY {x : List Ent} {n : Nat} {ks : List Int} (h : 0 <= Ye x (xw (xa x n)) (ZJ (xa x n)) n /\ 0 < xw (xa x n)) : Zdd x n ks = (ZAg x n, 3) := by
 rw [ZzK, if_pos h]; rfl
theorem Znd {x : List Ent} {w : Int} {n : Nat} : (ZA x 5 w n).toNat <= n := by have := (Zbu x 5 w n).2.1; omega
theorem ZDk {x : List Ent} {B : Bk} (h : Go x B) (i r : Int) : (Zxd B [] i r \/ looF x B i r \/ kepF B B.kept.length i r) ↔ refF x i r := by
 constructor
 ·rintro (⟨rfl, t, ht, _, hi⟩ | ⟨rfl, R, hR, hi, hs⟩ | ⟨rfl, k, hk, R, hR, hi, hs⟩)
  ·obtain ⟨t1, t2⟩ := h.tx ht
   rw [t1] at hi
   obtain ⟨n, a, b, c, d, e, f⟩ := ((ZdE t2 h.nf).2 i).1 hi
   have hh : 0 <= Ye x (xw (xa x n)) (ZJ (xa x n)) n /\ 0 < xw (xa x n) := by rw [c]; exact ⟨d, t2⟩
   refine ⟨n, a, f, b, ?_, ?_⟩
   ·rw [ZDY hh]; exact e
   ·rw [ZDY hh]
  ·rcases ZhZ.1 hR with hR | ⟨t, ht, hc, hR⟩
   ·obtain ⟨n, a, b, c, rfl⟩ := (h.ri.out R).1 hR
    have hi : i = n := hi
    subst hi
    rw [ZGO] at hs
    have hno : ¬ (0 <= Ye x (xw (xa x n)) (ZJ (xa x n)) n /\ 0 < xw (xa x n)) := by omega
    have he : Zhz x n = n := by rw [Zeo, if_neg (by omega)]
    refine ⟨n, a, rfl, b, ?_, ?_⟩
    ·rw [he, ZyB h a b hno (by omega) rfl, <- ZaZ]; exact hs
    ·rw [he, ZyB h a b hno (by omega) rfl]
   ·obtain ⟨t1, t2⟩ := h.tx ht
    rw [t1] at hR
    obtain ⟨n, a, b, c, d, rfl⟩ := ((ZdE t2 h.nf).1 R).1 hR
    have hi : i = n := hi
    subst hi
    rw [ZGO] at hs
    have hno : ¬ (0 <= Ye x (xw (xa x n)) (ZJ (xa x n)) n /\ 0 < xw (xa x n)) := by rw [c]; omega
    have hcom := Zfx t2 h.nf
    rw [<- t1] at hcom
    have he : Zhz x n = n := by rw [Zeo, c, if_pos t2, <- hcom, if_neg (by omega)]
    refine ⟨n, a, rfl, b, ?_, ?_⟩
    ·rw [he, ZyB h a b hno (by omega) rfl, <- ZaZ]; exact hs
    ·rw [he, ZyB h a b hno (by omega) rfl]
  ·obtain ⟨t1, t2⟩ := h.tx (h.kt hk)
   have hw := (h.kw hk).2
   obtain ⟨c1, c2⟩ := h.ri.com k hk
   rw [<- hw] at c1 c2
   generalize (B.txs.getD (B.kept.getD k 0) tx0) = t at *
   rw [t1] at hR
   obtain ⟨n, a, b, c, d, rfl⟩ := ((ZdE t2 h.nf).1 R).1 hR
   have hi : i = n := hi
   subst hi
   have hno : ¬ (0 <= Ye x (xw (xa x n)) (ZJ (xa x n)) n /\ 0 < xw (xa x n)) := by rw [c]; omega
   have he : Zhz x n = (ZA x 5 t.who x.length).toNat := by rw [Zeo, c, if_pos t2, if_pos c1]
   refine ⟨n, a, rfl, b, ?_, ?_⟩
   ·rw [he, ZyB h a b hno Znd c2, <- ZaZ]; exact hs
   ·rw [he, ZyB h a b hno Znd c2]
 ·rintro ⟨n, hn, rfl, h2, hf, rfl⟩
  have hmn := h.may n hn
  by_cases hw0 : xw (xa x n) = 0
  ·have hno : ¬ (0 <= Ye x (xw (xa x n)) (ZJ (xa x n)) n /\ 0 < xw (xa x n)) := by omega
   have he : Zhz x n = n := by rw [Zeo, if_neg (by omega)]
   rw [he, ZyB h hn h2 hno (by omega) rfl] at hf ⊢
   refine .inr (.inl ⟨rfl, (n : Int) :: nr (xa x n), ZhZ.2 (.inl ((h.ri.out _).2 ⟨n, hn, h2, hw0, rfl⟩)), rfl, ?_⟩)
   rw [ZGO]
   show ZQ _ (nr (xa x n)) = false
   rw [ZaZ]; exact hf
  ·have hwp : 0 < xw (xa x n) := by
    have hm := hmn; unfold ZbX at hm; simp [h2] at hm; have := hm.1.1.1; omega
   have hbeg : 0 <= ZA x 1 (xw (xa x n)) x.length := Classical.byContradiction fun q => (Zgn hwp h.nf q).2.2 n hn rfl h2
   have hjl := (h.ri.beg _).2 hbeg
   have hwho := ZaE hjl
   have hmem : B.txs.getD (ixL (xw (xa x n)) B.txs) tx0 ∈ B.txs := by rw [Yl hjl]; exact ZG4 hjl
   have t1 := (h.tx hmem).1
   have rd := ZdE hwp h.nf
   have hcom := Zfx hwp h.nf
   rw [hwho] at t1
   by_cases hl : 0 <= Ye x (xw (xa x n)) (ZJ (xa x n)) n
   ·rw [ZDY ⟨hl, hwp⟩] at hf ⊢
    exact .inl ⟨rfl, _, hmem, rfl, by rw [t1]; exact (rd.2 _).2 ⟨n, hn, h2, rfl, hl, hf, rfl⟩⟩
   ·have hno : ¬ (0 <= Ye x (xw (xa x n)) (ZJ (xa x n)) n /\ 0 < xw (xa x n)) := fun q => hl q.1
    have hrd : (n : Int) :: nr (xa x n) ∈ (B.txs.getD (ixL (xw (xa x n)) B.txs) tx0).rds := by rw [t1]; exact (rd.1 _).2 ⟨n, hn, h2, rfl, by omega, rfl⟩
    by_cases hc : 0 <= ZA x 5 (xw (xa x n)) x.length
    ·obtain ⟨k, hk, hkw⟩ := List.getElem_of_mem (ZtQ hc)
     rw [YN h] at hk
     have hkg : (Zv x x.length).getD k 0 = xw (xa x n) := by
      rw [ZGH, ZGK (by rw [YN h]; exact hk), ZGC]; exact hkw
     obtain ⟨k1, k2⟩ := h.kw hk
     have hix : B.kept.getD k 0 = ixL (xw (xa x n)) B.txs := by rw [<- hkg, <- k2, ZdU h.wf.nd k1]
     obtain ⟨_, c2⟩ := h.ri.com k hk
     rw [hkg] at c2
     have he : Zhz x n = (ZA x 5 (xw (xa x n)) x.length).toNat := by rw [Zeo, if_pos hwp, if_pos hc]
     rw [he, ZyB h hn h2 hno Znd c2] at hf ⊢
     refine .inr (.inr ⟨rfl, k, hk, _, by rw [hix]; exact hrd, rfl, ?_⟩)
     show ZQ _ (nr (xa x n)) = false
     rw [ZaZ]; exact hf
    ·have he : Zhz x n = n := by rw [Zeo, if_pos hwp, if_neg hc]
     rw [he, ZyB h hn h2 hno (by omega) rfl] at hf ⊢
     refine .inr (.inl ⟨rfl, _, ZhZ.2 (.inr ⟨_, hmem, by rw [t1, hcom]; omega, hrd⟩), rfl, ?_⟩)
     rw [ZGO]
     show ZQ _ (nr (xa x n)) = false
     rw [ZaZ]; exact hf
theorem ZdF (x : List Ent) : ∀ n : Nat, (0 <= (ZbD x n).1 -> ∃ m < n, ZbD x n = ((m : Int), (Zdd x m (Zv x (Zhz x m))).2) /\ xk (xa x m) = 2 /\ (Zdd x m (Zv x (Zhz x m))).1 = false /\ ∀ q < m, ¬ (xk (xa x q) = 2 /\ (Zdd x q (Zv x (Zhz x q))).1 = false)) ∧
  (¬ 0 <= (ZbD x n).1 -> ∀ q < n, ¬ (xk (xa x q) = 2 /\ (Zdd x q (Zv x (Zhz x q))).1 = false))
 | 0 => ⟨fun h => absurd h (by show ¬ (0 : Int) <= -1; omega), fun _ q hq => absurd hq (Nat.not_lt_zero q)⟩
 | n + 1 => by
  obtain ⟨i1, i2⟩ := ZdF x n
  rw [Zoo]
  by_cases h0 : 0 <= (ZbD x n).1
  ·rw [if_pos h0]
   obtain ⟨m, hm, a⟩ := i1 h0
   exact ⟨fun _ => ⟨m, by omega, a⟩, fun q => absurd h0 q⟩
  ·rw [if_neg h0]
   have i2 := i2 h0
   by_cases h2 : xk (xa x n) = 2
   ·rw [if_pos h2]
    by_cases ht : (Zdd x n (Zv x (Zhz x n))).1 = true
    ·rw [if_pos ht]
     refine ⟨fun h => absurd h (by show ¬ (0 : Int) <= -1; omega), fun _ q hq => ?_⟩
     rcases ZGB q n with p | p
     ·exact i2 q p
     ·rw [show q = n by omega, ht]; simp
    ·rw [if_neg ht]
     exact ⟨fun _ => ⟨n, by omega, rfl, h2, by simpa using ht, i2⟩, fun h => absurd (show (0 : Int) <= n by omega) h⟩
   ·rw [if_neg h2]
    refine ⟨fun h => absurd h (by show ¬ (0 : Int) <= -1; omega), fun _ q hq => ?_⟩
    rcases ZGB q n with p | p
    ·exact i2 q p
    ·rw [show q = n by omega]; exact fun e => h2 e.1
theorem Zsd {x : List Ent} {s : Int × Int} (h : Ys (refF x) x.length s) : (if s.2 = 0 then (-1, 0) else s) = ZbD x x.length := by
 obtain ⟨a1, a2⟩ := ZdF x x.length
 by_cases h0 : 0 <= (ZbD x x.length).1
 ·obtain ⟨m, hm, e, c, d, f⟩ := a1 h0
  have hr : refF x m (Zdd x m (Zv x (Zhz x m))).2 := ⟨m, hm, rfl, c, d, rfl⟩
  rcases h with ⟨rfl, hno⟩ | ⟨h1, h2, h3⟩
  ·exact absurd hr (hno _ _)
  ·rw [if_neg h1, e]
   obtain ⟨n, hn, e1, e2, e3, e4⟩ := h2
   have := h3 _ _ hr
   have hnm : n = m := by
    rcases Nat.lt_trichotomy n m with p | p | p
    ·exact absurd ⟨e2, e3⟩ (f n p)
    ·exact p
    ·omega
   subst hnm
   exact Prod.ext e1 e4
 ·have a2 := a2 h0
  rw [Zq6 h0]
  rcases h with ⟨rfl, _⟩ | ⟨h1, ⟨n, hn, e1, e2, e3, e4⟩, h3⟩
  ·rfl
  ·exact absurd ⟨e2, e3⟩ (a2 n hn)
theorem ZAl {x : List Ent} (hc : ZaA x = 0) (hf : (ZiY x).fault < 0) : Go x (ZiY x) := by
 have hm : ∀ i < x.length, ZbX (xa x i) = true := by
  unfold ZaA at hc
  split at hc
  ·cases hc
  ·split at hc
   ·rename_i q
    unfold Zih at q
    rw [Zh] at q; exact q
   ·cases hc
 obtain ⟨r1, r2⟩ := Zhg x x.length hm
 have h0 : ¬ 0 <= (ZaB x x.length).1 := fun q => by
  have := (r2 q).1
  unfold ZiY at hf
  omega
 exact ⟨⟨h0, hm⟩, r1 ⟨h0, hm⟩, ZeD x x.length⟩
theorem Zxm {x : List Ent} {B : Bk} (h : Go x B) {R : Ent} (hR : R ∈ Zly B []) : ∃ n : Nat, n < x.length /\ xk (xa x n) = 2 /\ g0 R = n := by
 rcases ZhZ.1 hR with hR | ⟨t, ht, hc, hR⟩
 ·obtain ⟨n, a, b, c, rfl⟩ := (h.ri.out R).1 hR
  exact ⟨n, a, b, rfl⟩
 ·obtain ⟨t1, t2⟩ := h.tx ht
  rw [t1] at hR
  obtain ⟨n, a, b, c, d, rfl⟩ := ((ZdE t2 h.nf).1 R).1 hR
  exact ⟨n, a, b, rfl⟩
theorem ZqD {x : List Ent} {B : Bk} (h : Go x B) {s0 : Int × Int} {L L0 : List (List Int)} (h0 : Ys (Zxd B []) x.length s0) (hp : L0.Perm (Zly B [])) (hs : SrtP L0 L) :
  let e := ZeT (ZQ (stF B B.kept.length)) L x.length (YJ B L s0 B.kept.length).1 (YJ B L s0 B.kept.length).2
  (if e.2.2 = 0 then (-1, 0) else e.2) = ZbD x x.length := by
 have hmem : ∀ R, R ∈ L ↔ R ∈ Zly B [] := fun R => (hs.1.mem_iff).trans hp.mem_iff
 have hget : ∀ q < L.length, ∃ n : Nat, n < x.length /\ xk (xa x n) = 2 /\ g0 (L.getD q []) = n := fun q hq => Zxm h ((hmem _).1 (by
  rw [ZGH, ZGK hq, ZGC]; exact ZG4 hq))
 have hN : ∀ q < L.length, g0 (L.getD q []) < x.length := fun q hq => by
  obtain ⟨n, a, _, b⟩ := hget q hq; omega
 have key : ∀ k ≤ B.kept.length, (YJ B L s0 k).1 <= L.length /\ Ys (fun i r => Zxd B [] i r \/ (r = 4 /\ ∃ q < (YJ B L s0 k).1, i = g0 (L.getD q []) /\ ZQ (stF B (Zv x i.toNat).length) ((L.getD q []).drop 1) = false) \/ kepF B k i r) x.length (YJ B L s0 k).2 ∧
   ∀ q, (YJ B L s0 k).1 <= q -> q < L.length -> k <= (Zv x (g0 (L.getD q [])).toNat).length := by
  intro k
  induction k with
  | zero =>
   intro _
   refine ⟨Nat.zero_le _, h0.congr fun i r => ⟨.inl, fun q => ?_⟩, fun q _ _ => Nat.zero_le _⟩
   rcases q with q | ⟨_, q, hq, _⟩ | ⟨_, q, hq, _⟩
   ·exact q
   ·exact absurd hq (Nat.not_lt_zero q)
   ·exact absurd hq (Nat.not_lt_zero q)
  | succ k ih =>
   intro hk
   obtain ⟨j1, j2, j3⟩ := ih (by omega)
   obtain ⟨t1, t2⟩ := h.tx (h.kt (k := k) (by omega))
   have hw := (h.kw (k := k) (by omega)).2
   obtain ⟨c1, c2⟩ := h.ri.com k (by omega)
   rw [<- hw] at c1 c2
   have hcom := Zfx t2 h.nf
   rw [<- t1] at hcom
   rw [<- hcom] at c1 c2
   have hcf := (Zbu x 5 (B.txs.getD (B.kept.getD k 0) tx0).who x.length)
   rw [<- hcom] at hcf
   have hk5 := (hcf.2.2 c1).1
   have rd := ZdE t2 h.nf
   rw [<- t1] at rd
   obtain ⟨a1, a2, a3, a4, a5⟩ := ZiP (f := ZQ (stF B k)) (place := (B.txs.getD (B.kept.getD k 0) tx0).com) hs.2 hN (L.length - (YJ B L s0 k).1) (YJ B L s0 k).1 rfl j1 j2
   have e0 : YJ B L s0 (k + 1) = ((ZeT (ZQ (stF B k)) L (B.txs.getD (B.kept.getD k 0) tx0).com (YJ B L s0 k).1 (YJ B L s0 k).2).1, Zix (ZQ (stF B k)) (ZeT (ZQ (stF B k)) L (B.txs.getD (B.kept.getD k 0) tx0).com (YJ B L s0 k).1 (YJ B L s0 k).2).2 (B.txs.getD (B.kept.getD k 0) tx0).rds (B.txs.getD (B.kept.getD k 0) tx0).rds.length) := rfl
   rw [e0]
   have e1 : Zqq (ZQ (stF B k)) L (B.txs.getD (B.kept.getD k 0) tx0).com (L.length - (YJ B L s0 k).1) (YJ B L s0 k).1 (YJ B L s0 k).2 = ZeT (ZQ (stF B k)) L (B.txs.getD (B.kept.getD k 0) tx0).com (YJ B L s0 k).1 (YJ B L s0 k).2 := rfl
   rw [e1] at a1 a2 a3 a4 a5
   generalize ZeT (ZQ (stF B k)) L (B.txs.getD (B.kept.getD k 0) tx0).com (YJ B L s0 k).1 (YJ B L s0 k).2 = e at *
   have hrd : ∀ R ∈ (B.txs.getD (B.kept.getD k 0) tx0).rds, g0 R < x.length := fun R hR => by
    obtain ⟨n, a, b, c, d, rfl⟩ := (rd.1 R).1 hR
    show (n : Int) < _; omega
   have a6 := Znr a5 (ZQ (stF B k)) _ hrd _ (ZGx _)
   refine ⟨a2, a6.congr fun i r => ?_, fun q q1 q2 => ?_⟩
   ·rw [List.take_length]
    have kq : ∀ q, (YJ B L s0 k).1 <= q -> q < e.1 -> (Zv x (g0 (L.getD q [])).toNat).length = k := fun q q1 q2 => by
     have b1 := j3 q q1 (by omega)
     have b2 := a3 q q1 q2
     have b3 := (Zdo x (m := (g0 (L.getD q [])).toNat) (n := (B.txs.getD (B.kept.getD k 0) tx0).com.toNat) (by omega)).1
     omega
    constructor
    ·rintro (((b | ⟨b, q, c, d⟩ | ⟨b, k', c, d⟩) | ⟨b, q, c1, c2, c3, c4⟩) | ⟨b, R, c, d⟩)
     ·exact .inl b
     ·exact .inr (.inl ⟨b, q, by omega, d⟩)
     ·exact .inr (.inr ⟨b, k', by omega, d⟩)
     ·exact .inr (.inl ⟨b, q, c2, c3, by rw [c3, kq q c1 c2]; exact c4⟩)
     ·exact .inr (.inr ⟨b, k, by omega, R, c, d⟩)
    ·rintro (b | ⟨b, q, c, d⟩ | ⟨b, k', c, R, d, g⟩)
     ·exact .inl (.inl (.inl b))
     ·rcases ZGB q (YJ B L s0 k).1 with p | p
      ·exact .inl (.inl (.inr (.inl ⟨b, q, p, d⟩)))
      ·refine .inl (.inr ⟨b, q, p, c, d.1, ?_⟩)
       have := d.2
       rw [d.1, kq q p c] at this; exact this
     ·rcases ZGB k' k with p | p
      ·exact .inl (.inl (.inr (.inr ⟨b, k', p, R, d, g⟩)))
      ·have : k' = k := by omega
       subst this
       exact .inr ⟨b, R, d, g⟩
   ·have b1 := a4 q q1 q2
    obtain ⟨n, n1, n2, n3⟩ := hget q q2
    rw [n3] at b1 ⊢
    rw [ZGO]
    have hne : n ≠ (B.txs.getD (B.kept.getD k 0) tx0).com.toNat := fun e => by rw [<- e] at hk5; omega
    have b3 := (Zdo x (m := (B.txs.getD (B.kept.getD k 0) tx0).com.toNat + 1) (n := n) (by omega)).1
    have b4 : Zv x ((B.txs.getD (B.kept.getD k 0) tx0).com.toNat + 1) = Zv x (B.txs.getD (B.kept.getD k 0) tx0).com.toNat ++ [xw (xa x (B.txs.getD (B.kept.getD k 0) tx0).com.toNat)] := by rw [Yi, if_pos hk5]
    rw [b4, ZGM, ZGv] at b3
    omega
 obtain ⟨j1, j2, j3⟩ := key B.kept.length (ZGx _)
 obtain ⟨a1, a2, a3, a4, a5⟩ := ZiP (f := ZQ (stF B B.kept.length)) (place := (x.length : Int)) hs.2 hN (L.length - (YJ B L s0 B.kept.length).1) (YJ B L s0 B.kept.length).1 rfl j1 j2
 have e1 : Zqq (ZQ (stF B B.kept.length)) L (x.length : Int) (L.length - (YJ B L s0 B.kept.length).1) (YJ B L s0 B.kept.length).1 (YJ B L s0 B.kept.length).2 = ZeT (ZQ (stF B B.kept.length)) L (x.length : Int) (YJ B L s0 B.kept.length).1 (YJ B L s0 B.kept.length).2 := rfl
 rw [e1] at a1 a2 a3 a4 a5
 show (if (ZeT (ZQ (stF B B.kept.length)) L (x.length : Int) (YJ B L s0 B.kept.length).1 (YJ B L s0 B.kept.length).2).2.2 = 0 then ((-1 : Int), (0 : Int)) else _) = _
 generalize ZeT (ZQ (stF B B.kept.length)) L (x.length : Int) (YJ B L s0 B.kept.length).1 (YJ B L s0 B.kept.length).2 = e at *
 have hall : e.1 = L.length := by
  rcases ZGB e.1 L.length with p | p
  ·have := a4 e.1 (ZGx _) p
   have := hN e.1 p
   omega
  ·omega
 have kq : ∀ q, (YJ B L s0 B.kept.length).1 <= q -> q < L.length -> (Zv x (g0 (L.getD q [])).toNat).length = B.kept.length := fun q q1 q2 => by
  have b1 := j3 q q1 q2
  have b2 := hN q q2
  have b3 := (Zdo x (m := (g0 (L.getD q [])).toNat) (n := x.length) (by omega)).1
  rw [YN h] at b3
  omega
 refine Zsd (a5.congr fun i r => ?_)
 rw [<- ZDk h, hall]
 have look : ∀ R, R ∈ L -> ∃ q, q < L.length /\ L.getD q [] = R := fun R hR => by
  obtain ⟨q, hq, rfl⟩ := List.getElem_of_mem hR
  exact ⟨q, hq, by rw [ZGH, ZGK hq, ZGC]⟩
 have lget : ∀ q, q < L.length -> L.getD q [] ∈ L := fun q hq => by
  rw [ZGH, ZGK hq, ZGC]; exact ZG4 hq
 constructor
 ·rintro ((b | ⟨b, q, c, d⟩ | b) | ⟨b, q, c1, c2, c3, c4⟩)
  ·exact .inl b
  ·exact .inr (.inl ⟨b, _, (hmem _).1 (lget q (by omega)), d⟩)
  ·exact .inr (.inr b)
  ·exact .inr (.inl ⟨b, _, (hmem _).1 (lget q c2), c3, by rw [c3, kq q c1 c2]; exact c4⟩)
 ·rintro (b | ⟨b, R, c, d⟩ | b)
  ·exact .inl (.inl b)
  ·obtain ⟨q, hq, rfl⟩ := look R ((hmem _).2 c)
   rcases ZGB q (YJ B L s0 B.kept.length).1 with p | p
   ·exact .inl (.inr (.inl ⟨b, q, p, d⟩))
   ·refine .inr ⟨b, q, p, hq, d.1, ?_⟩
    have := d.2
    rw [d.1, kq q p hq] at this; exact this
  ·exact .inl (.inr (.inr b))
theorem ZxO {B : Bk} {m : List (Int × Int)} (h : ∀ t ∈ B.txs, Zt m t.who = true) (n : Int) : Ys (Zxd B m) n (n, 0) := .inl ⟨rfl, fun i r ⟨_, t, ht, q, _⟩ => by rw [h t ht] at q; cases q⟩
theorem Zxl {B : Bk} {m : List (Int × Int)} (h : ∀ t ∈ B.txs, Zt m t.who = true) : Zly B m = B.out := by
 unfold Zly
 rw [List.filter_eq_nil_iff.2 (fun t ht => by rw [h t ht]; simp)]
 simp
theorem ZF6 {L : List Tx} (hn : (L.map (·.who)).Nodup) {k : Int} {j : Nat} (hj : ixL k L = j) {t : Tx} (ht : t ∈ L) (hw : t.who = k) : t = L.getD j tx0 := by
 obtain ⟨i, hi, rfl⟩ := List.getElem_of_mem ht
 have := ZdU hn hi
 rw [Yl hi, hw, hj] at this
 rw [this, Yl hi]
theorem Zym {B : Bk} {left : List (Int × Int)} (hl : (left.map (·.1)).Nodup) (hn : (B.txs.map (·.who)).Nodup) {k : Int} {j : Nat} (hj : ixL k B.txs = j) (hjl : j < B.txs.length) (i r : Int) :
  Zxd B (YQ left k) i r ↔ Zxd B left i r \/ (r = 3 /\ i ∈ (B.txs.getD j tx0).bad) := by
 have hm : B.txs.getD j tx0 ∈ B.txs := by rw [Yl hjl]; exact ZG4 hjl
 have hw : (B.txs.getD j tx0).who = k := by rw [<- hj] at hjl ⊢; exact ZaE hjl
 constructor
 ·rintro ⟨a, t, ht, b, c⟩
  rw [mhas_del' hl] at b
  by_cases q : k = t.who
  ·right; rw [ZF6 hn hj ht q.symm] at c; exact ⟨a, c⟩
  ·rw [if_neg q] at b; exact .inl ⟨a, t, ht, b, c⟩
 ·rintro (⟨a, t, ht, b, c⟩ | ⟨a, c⟩)
  ·refine ⟨a, t, ht, ?_, c⟩
   rw [mhas_del' hl]; split
   ·rfl
   ·exact b
  ·exact ⟨a, _, hm, by rw [mhas_del' hl, if_pos hw.symm], c⟩
theorem ZjT {left : List (Int × Int)} (hl : (left.map (·.1)).Nodup) {k : Int} : ∀ {l : List Tx}, (∀ t ∈ l, t.who ≠ k) -> l.filter (fun t => !Zt (YQ left k) t.who && decide (t.com < 0)) = l.filter fun t => !Zt left t.who && decide (t.com < 0) := fun {l} h =>
 List.filter_congr fun t ht => by rw [mhas_del' hl, if_neg (fun q => h t ht q.symm)]
theorem Zy0 {B : Bk} {left : List (Int × Int)} (hl : (left.map (·.1)).Nodup) (hn : (B.txs.map (·.who)).Nodup) {k : Int} {j : Nat} (hj : ixL k B.txs = j) (hjl : j < B.txs.length) (hk : Zt left k = true) :
  (Zly B (YQ left k)).Perm (Zly B left ++ if (B.txs.getD j tx0).com < 0 then (B.txs.getD j tx0).rds else []) := by
 have hw : (B.txs.getD j tx0).who = k := by rw [<- hj] at hjl ⊢; exact ZaE hjl
 have e := ZoN (d := tx0) hjl
 have h1 : ∀ t ∈ B.txs.take j, t.who ≠ k := fun t ht q => by
  obtain ⟨i, hi, rfl⟩ := List.getElem_of_mem ht
  rw [ZGJ] at hi
  rw [List.getElem_take] at q
  have := ZdU hn (j := i) (by omega)
  rw [Yl (by omega), q, hj] at this; omega
 have h2 : ∀ t ∈ B.txs.drop (j + 1), t.who ≠ k := fun t ht q => by
  obtain ⟨i, hi, rfl⟩ := List.getElem_of_mem ht
  rw [ZGV] at hi
  rw [List.getElem_drop] at q
  have := ZdU hn (j := j + 1 + i) (by omega)
  rw [Yl (by omega), q, hj] at this; omega
 unfold Zly
 have s1 := ZjT hl h1
 have s2 := ZjT hl h2
 generalize hA : B.txs.take j = A at *
 generalize hC : B.txs.drop (j + 1) = C at *
 generalize hT : B.txs.getD j tx0 = t at *
 rw [e, List.filter_append, List.filter_append, List.filter_append, List.filter_append, s1, s2]
 have f1 : [t].filter (fun t => !Zt left t.who && decide (t.com < 0)) = [] := by simp [hw, hk]
 have f2 : [t].filter (fun t => !Zt (YQ left k) t.who && decide (t.com < 0)) = if t.com < 0 then [t] else [] := by
  have : Zt (YQ left k) t.who = false := by rw [mhas_del' hl, if_pos hw.symm]
  by_cases q : t.com < 0
  ·rw [if_pos q]; simp [this, q]
  ·rw [if_neg q]; simp [this, q]
 rw [f1, f2]
 simp only [List.flatMap_append, List.nil_append]
 by_cases q : t.com < 0
 ·rw [if_pos q, if_pos q, List.flatMap_singleton, ZG5, ZG5]
  refine List.Perm.append_left _ (List.Perm.append_left _ ?_)
  exact List.perm_append_comm
 ·rw [if_neg q, if_neg q]; simp
theorem ZCf {l : List Tx} {n : Nat} (h : ∀ t ∈ l, t.rds.length <= n) : (l.flatMap (·.rds)).length <= l.length * n := by
 induction l with
 | nil => simp
 | cons t l ih =>
  rw [List.flatMap_cons, ZGM, ZG1]
  have a := ih fun s hs => h s (List.mem_cons.2 (.inr hs))
  have b := h t (List.mem_cons.2 (.inl rfl))
  have : (l.length + 1) * n = l.length * n + n := by rw [Nat.add_mul, Nat.one_mul]
  omega
theorem ZBj {B : Bk} {n : Nat} (h : WfB B n) (hn : n <= 400) (left : List (Int × Int)) : (Zly B left).length <= 160400 := by
 unfold Zly
 rw [ZGM]
 have a := h.ol
 have b := ZCf (l := B.txs.filter fun t => !Zt left t.who && decide (t.com < 0)) (n := n) (fun t ht => (h.rl t (List.mem_filter.1 ht).1).1)
 have c : (B.txs.filter fun t => !Zt left t.who && decide (t.com < 0)).length <= n := Nat.le_trans (List.length_filter_le _ _) h.lt
 have d := Nat.mul_le_mul c (ZGx n)
 have e := Nat.mul_le_mul hn hn
 omega
theorem ZEl {x : List Ent} {B : Bk} (h : Go x B) {t : Tx} (ht : t ∈ B.txs) : ∀ i ∈ t.bad, i < x.length := fun i hi => by
 obtain ⟨t1, t2⟩ := h.tx ht
 rw [t1] at hi
 obtain ⟨n, a, _, _, _, _, rfl⟩ := ((ZdE t2 h.nf).2 i).1 hi
 omega
theorem Zzr {m : List (Int × Int)} {f : Int -> Bool × (List UInt8 × Bool)} (h : Zgt m f) (s : Int × Int) (l : List (List Int)) : ∀ j, Zix (ZR m) s l j = Zix (ZQ f) s l j
 | 0 => rfl
 | j + 1 => by
  unfold Zix
  rw [Zzr h s l j, Zls h]
theorem ZE6 {m : List (Int × Int)} {f : Int -> Bool × (List UInt8 × Bool)} (h : Zgt m f) (L : List (List Int)) (pl : Int) (p : Nat) (s : Int × Int) : ZeT (ZR m) L pl p s = ZeT (ZQ f) L pl p s := by
 have : ZR m = ZQ f := by funext r; exact Zls h r
 rw [this]
theorem ZfF {x : List Ent} (h : ZaA x = 0) : x.length <= 400 := by
 unfold ZaA at h
 split at h
 ·cases h
 ·omega
theorem ZrM {x : List Ent} (h : ZaA x ≠ 0) : Ze1 x = (0, 0, ZaA x) := by unfold Ze1; rw [if_pos h]
theorem ZkM {x : List Ent} (h : ZaA x = 0) (hf : 0 <= (ZV x x.length).fault) : Ze1 x = ((ZV x x.length).fault, (ZV x x.length).what, 0) := by
 have hm : ∀ i < x.length, ZbX (xa x i) = true := by
  have hc := h
  unfold ZaA at hc
  split at hc
  ·cases hc
  ·split at hc
   ·rename_i q
    unfold Zih at q
    rw [Zh] at q; exact q
   ·cases hc
 obtain ⟨r1, r2⟩ := Zhg x x.length hm
 have h0 : 0 <= (ZaB x x.length).1 := Classical.byContradiction fun q => by
  have := (r1 ⟨q, hm⟩).ft
  omega
 obtain ⟨a, b⟩ := r2 h0
 unfold Ze1
 rw [if_neg (fun q => q h), if_pos h0, a, b]
theorem ZxK {x : List Ent} (h : ZaA x = 0) (hg : Go x (ZiY x)) : Ze1 x = ((ZbD x x.length).1, (ZbD x x.length).2, 0) := by
 unfold Ze1
 rw [if_neg (fun q => q h), if_neg hg.nf.1]
theorem Zv8 {R : List (List Int)} {ks : List Nat} {n : Nat} (hn : n < ks.length) : ((Zbf R ks).getD n []).getD 0 0 = g0 (R.getD (ks.getD n 0) []) := by
 unfold Zbf
 rw [ZGH (l := ks.map _), ZGD, ZGK hn, ZGH (l := ks), ZGK hn]; rfl
theorem map_nil (B : Bk) : Zgt [] (stF B 0) := fun q => ⟨rfl, rfl⟩
/-! ### Keys in order -/
def txt (r : List Int) : List UInt8 := Za6 (g0 r).toNat
def Zxf (s : List UInt8) : List Int := [((Zq s : Nat) : Int)]
def leT (x y : List UInt8) : Bool := decide (x <= y)
def Zqr (l : List (List UInt8)) : List (List UInt8) := l.mergeSort leT
def ZgR (R : List (List Int)) : List (List Int) := (Zqr (R.map txt)).map Zxf
def Zqg (m : List (Int × Int)) : List (List Int) := ZgR (m.map fun p => [p.1])
def canM (m : List (Int × Int)) : Prop := (m.map (·.1)).Nodup /\ ∀ p ∈ m, ∃ s : List UInt8, p.1 = (Zq s : Nat)
def ZAX (m left : List (Int × Int)) (R : List (List Int)) : Prop := (R.map g0 ++ left.map (·.1)).Perm (m.map (·.1))
theorem Zwk (s : List UInt8) : txt (Zxf s) = s := by show Za6 (Int.toNat (Zq s : Nat)) = s; rw [ZGO, Zn]
theorem ZDH : ∀ a b c : List UInt8, leT a b = true -> leT b c = true -> leT a c = true := fun a b c h1 h2 => decide_eq_true (List.le_trans (of_decide_eq_true h1) (of_decide_eq_true h2))
theorem ZBi : ∀ a b : List UInt8, (leT a b || leT b a) = true := fun a b => by
 rw [Bool.or_eq_true]
 rcases List.le_total a b with h | h
 ·exact .inl (decide_eq_true h)
 ·exact .inr (decide_eq_true h)
theorem ZbJ (l : List (List UInt8)) : (Zqr l).Perm l := List.mergeSort_perm l leT
theorem Zlz (l : List (List UInt8)) : (Zqr l).Pairwise fun a b => a <= b := (List.pairwise_mergeSort ZDH ZBi l).imp fun h => of_decide_eq_true h
theorem Zpq : ∀ {a b : List (List UInt8)}, a.Perm b -> (a.Pairwise fun x y => x <= y) -> (b.Pairwise fun x y => x <= y) -> a = b := fun h h1 h2 =>
 h.eq_of_pairwise (fun x y _ _ h3 h4 => List.le_antisymm h3 h4) h1 h2
theorem Zwc {a b : List (List UInt8)} (h : a.Perm b) : Zqr a = Zqr b := Zpq ((ZbJ a).trans (h.trans (ZbJ b).symm)) (Zlz a) (Zlz b)
theorem Zja (R : List (List Int)) : (ZgR R).length = R.length := by
 unfold ZgR; rw [ZGR, (ZbJ _).length_eq, ZGR]
theorem Zn8 (m : List (Int × Int)) : (Zqg m).length = m.length := by unfold Zqg; rw [Zja, ZGR]
theorem ZCv {m : List (Int × Int)} {R : List (List Int)} (h : ZAX m [] R) : ZgR R = Zqg m := by
 unfold Zqg ZgR
 congr 1
 refine Zwc ?_
 have h1 : (R.map g0).Perm (m.map (·.1)) := by simpa [ZAX] using h
 have := h1.map fun k : Int => Za6 k.toNat
 rw [List.map_map, List.map_map] at this
 rw [List.map_map]
 exact this
theorem ZyN {m left : List (Int × Int)} {R : List (List Int)} {k : Int} (h : ZAX m left R) (hk : Zt left k = true) : ZAX m (YQ left k) (R ++ [[k]]) := by
 unfold ZAX at h ⊢
 refine List.Perm.trans ?_ h
 rw [ZGX, ZG5]
 refine List.Perm.append_left _ ?_
 have : ∀ l : List (Int × Int), Zt l k = true -> ((k :: (YQ l k).map (·.1))).Perm (l.map (·.1)) := by
  intro l
  induction l with
  | nil => intro q; cases q
  | cons p l ih =>
   obtain ⟨a, b⟩ := p
   intro q
   by_cases e : a = k
   ·have e1 : YQ ((a, b) :: l) k = l := by show (if a = k then l else _) = l; rw [if_pos e]
    rw [e1, <- e]; exact List.Perm.refl _
   ·have e1 : YQ ((a, b) :: l) k = (a, b) :: YQ l k := by show (if a = k then l else _) = _; rw [if_neg e]
    rw [e1]
    have q2 : Zt l k = true := by
     have : (if a = k then true else Zt l k) = true := q
     rw [if_neg e] at this; exact this
    exact (List.Perm.swap _ _ _).trans ((ih q2).cons _)
 exact this left hk
/-! ### The pairs -/
abbrev Kf := List UInt8 -> List UInt8 × Bool
def rowP (f : Kf) (s : List UInt8) : List Int := [((Zq s : Nat) : Int), ((Zq (f s).1 : Nat) : Int)]
def ZiZ (f : Kf) (R : List (List Int)) : Nat -> List (List Int)
 | 0 => []
 | n + 1 => if (f (txt (R.getD n []))).2 = true then ZiZ f R n ++ [rowP f (txt (R.getD n []))] else ZiZ f R n
def mvF (m : List (Int × Int)) : Kf := fun s => vw (Yr 0 m (Zq s : Nat))
def leF (x : List Ent) (ks : List Int) : Kf := fun s => Zb5 x ks s ks.length
theorem Zmg (f : Kf) (l : List (List UInt8)) : ∀ n ≤ l.length, ZiZ f (l.map Zxf) n = ((l.take n).filter fun s => (f s).2).map (rowP f)
 | 0, _ => by simp [ZiZ]
 | n + 1, hn => by
  have ih := Zmg f l n (by omega)
  have e : txt ((l.map Zxf).getD n []) = l[n] := by
   rw [ZGH, ZGD, ZGK (by omega)]; exact Zwk _
  unfold ZiZ
  rw [e, ih, List.take_succ_eq_append_getElem (by omega), List.filter_append, ZGX]
  by_cases h : (f l[n]).2 = true
  ·rw [if_pos h]; simp [h]
  ·rw [if_neg h]; simp [h]
theorem Zp0 {f g : Kf} {a b : List (List UInt8)} (ha : a.Pairwise fun x y => x <= y) (hb : b.Pairwise fun x y => x <= y) (na : a.Nodup) (nb : b.Nodup)
  (hm : ∀ s, (s ∈ a /\ (f s).2 = true) ↔ (s ∈ b /\ (g s).2 = true)) (he : ∀ s ∈ a, (f s).2 = true -> (f s).1 = (g s).1) : ZiZ f (a.map Zxf) a.length = ZiZ g (b.map Zxf) b.length := by
 rw [Zmg f a _ (ZGx _), Zmg g b _ (ZGx _), List.take_length, List.take_length]
 have e : (a.filter fun s => (f s).2) = b.filter fun s => (g s).2 := by
  refine Zpq ?_ (ha.filter _) (hb.filter _)
  rw [List.perm_ext_iff_of_nodup (na.filter _) (nb.filter _)]
  intro s
  rw [List.mem_filter, List.mem_filter]; exact hm s
 rw [<- e]
 refine List.map_congr_left fun s hs => ?_
 rw [List.mem_filter] at hs
 unfold rowP
 rw [he s hs.1 hs.2]
/-! ### The keys that were written -/
def Zzh : List (List UInt8) -> List UInt8 -> List (List UInt8)
 | [], k => [k]
 | a :: l, k => if Op.bytesLess a k = true then a :: Zzh l k else if a = k then a :: l else k :: a :: l
def Zp3 (x : List Ent) : Nat -> List (List UInt8)
 | 0 => []
 | n + 1 => if xk (xa x n) = 3 then Zzh (Zp3 x n) (ZJ (xa x n)) else Zp3 x n
theorem Zm8 (k s : List UInt8) : ∀ l, s ∈ Zzh l k ↔ s ∈ l \/ s = k
 | [] => by simp [Zzh]
 | a :: l => by
  unfold Zzh
  split
  ·rw [List.mem_cons, List.mem_cons, Zm8 k s l]; exact or_assoc.symm
  ·split
   ·rename_i h; subst h; simp only [List.mem_cons]; constructor
    ·exact fun h => .inl h
    ·rintro (h | h); exact h; exact .inl h
   ·simp only [List.mem_cons]; constructor
    ·rintro (h | h); exact .inr h; exact .inl h
    ·rintro (h | h); exact .inr h; exact .inl h
theorem Zrx (k : List UInt8) : ∀ {l : List (List UInt8)}, (l.Pairwise fun a b => a < b) -> (Zzh l k).Pairwise fun a b => a < b
 | [], _ => by simp [Zzh]
 | a :: l, h => by
  rw [List.pairwise_cons] at h
  unfold Zzh
  split
  ·rename_i hl
   rw [Go.Proofs.bytesLess_eq, decide_eq_true_eq] at hl
   refine List.pairwise_cons.2 ⟨fun b hb => ?_, Zrx k h.2⟩
   rcases (Zm8 k b l).1 hb with hb | rfl
   ·exact h.1 b hb
   ·exact hl
  ·split
   ·exact List.pairwise_cons.2 h
   ·rename_i hl hne
    rw [Go.Proofs.bytesLess_eq, decide_eq_true_eq] at hl
    have hka : k < a := by
     apply Decidable.byContradiction
     intro q
     exact hne (List.le_antisymm (List.not_lt.1 q) (List.not_lt.1 hl))
    refine List.pairwise_cons.2 ⟨fun b hb => ?_, List.pairwise_cons.2 h⟩
    rcases List.mem_cons.1 hb with rfl | hb
    ·exact hka
    ·exact List.lt_trans hka (h.1 b hb)
theorem Ze4 (x : List Ent) : ∀ n, (Zp3 x n).Pairwise fun a b => a < b
 | 0 => List.Pairwise.nil
 | n + 1 => by
  unfold Zp3
  split
  ·exact Zrx _ (Ze4 x n)
  ·exact Ze4 x n
theorem ZDf (x : List Ent) (n : Nat) : (Zp3 x n).Nodup := (Ze4 x n).imp fun {a b} h e => by subst e; exact List.lt_irrefl _ h
theorem ZiU (x : List Ent) (s : List UInt8) : ∀ n, s ∈ Zp3 x n ↔ ∃ i < n, xk (xa x i) = 3 /\ ZJ (xa x i) = s
 | 0 => by simp [Zp3]
 | n + 1 => by
  unfold Zp3
  split
  ·rename_i h
   rw [Zm8, ZiU x s n]
   constructor
   ·rintro (⟨i, hi, a⟩ | rfl)
    ·exact ⟨i, by omega, a⟩
    ·exact ⟨n, by omega, h, rfl⟩
   ·rintro ⟨i, hi, a⟩
    rcases ZGB i n with q | q
    ·exact .inl ⟨i, q, a⟩
    ·have : i = n := by omega
     subst this; exact .inr a.2.symm
  ·rename_i h
   rw [ZiU x s n]
   constructor
   ·rintro ⟨i, hi, a⟩; exact ⟨i, by omega, a⟩
   ·rintro ⟨i, hi, a⟩
    rcases ZGB i n with q | q
    ·exact ⟨i, q, a⟩
    ·have : i = n := by omega
     subst this; exact absurd a.1 h
def ZFy (x : List Ent) : List (List Int) := ZiZ (leF x (Zv x x.length)) ((Zp3 x x.length).map Zxf) (Zp3 x x.length).length
def Ziw (x : List Ent) : Int := if ZaA x ≠ 0 then ZaA x else if 0 <= (ZaB x x.length).1 then 280 else 0
def finR' (x : List Ent) : List (List Int) := if Ziw x = 0 then ZFy x else []
theorem Zna {x : List Ent} {w : Int} {k : List UInt8} : ∀ {n : Nat}, 0 <= Ye x w k n -> (Ye x w k n).toNat < n /\ ZJ (xa x (Ye x w k n).toNat) = k
 | 0, h => absurd h (by show ¬ (0 : Int) <= -1; omega)
 | n + 1, h => by
  rw [Zbz] at h ⊢
  split
  ·rename_i q; exact ⟨by omega, by rw [ZGO]; exact q.2.2⟩
  ·rename_i q; rw [if_neg q] at h
   have := Zna h
   exact ⟨by omega, this.2⟩
theorem ZvS {x : List Ent} {ks : List Int} {k : List UInt8} : ∀ {n : Nat}, (Zb5 x ks k n).2 = true -> k ∈ Zp3 x x.length
 | 0, h => by cases h
 | n + 1, h => by
  rw [ZbT] at h
  by_cases hl : 0 <= Ye x (ks.getD n 0) k x.length
  ·rw [if_pos hl] at h
   have := Zna hl
   exact (ZiU x k _).2 ⟨_, this.1, of_decide_eq_true h, this.2⟩
  ·rw [if_neg hl] at h; exact ZvS h
theorem ZpB {m : List (Int × Int)} {k : Int} : Zt m k = true ↔ k ∈ m.map (·.1) := by
 induction m with
 | nil => simp [Zt]
 | cons p l ih =>
  obtain ⟨a, b⟩ := p
  show (if a = k then true else Zt l k) = true ↔ _
  by_cases e : a = k
  ·simp [e]
  ·rw [if_neg e, ih]; simp [Ne.symm e]
theorem ZEg {x : List Ent} {B : Bk} (h : Go x B) {m : List (Int × Int)} (hm : Zgt m (stF B B.kept.length)) (hc : canM m) : ZiZ (mvF m) (Zqg m) (Zqg m).length = ZFy x := by
 unfold ZFy
 have e1 : Zqg m = (Zqr ((m.map fun p => [p.1]).map txt)).map Zxf := rfl
 have e2 : (m.map fun p => [p.1]).map txt = (m.map (·.1)).map fun k => Za6 k.toNat := by rw [List.map_map, List.map_map]; rfl
 have hin : ∀ s, s ∈ Zqr ((m.map fun p => [p.1]).map txt) ↔ Zt m (Zq s : Nat) = true := by
  intro s
  rw [(ZbJ _).mem_iff, e2, ZpB, List.mem_map]
  constructor
  ·rintro ⟨k, hk, rfl⟩
   obtain ⟨p, hp, rfl⟩ := List.mem_map.1 hk
   obtain ⟨t, ht⟩ := hc.2 p hp
   rw [ht, ZGO, Zn, <- ht]; exact hk
  ·intro hk; exact ⟨_, hk, by rw [ZGO, Zn]⟩
 have hks : ∀ s : List UInt8, B.kept.length = (Zv x x.length).length := fun _ => (YN h).symm
 have hag : ∀ s : List UInt8, Zt m (Zq s : Nat) = true -> mvF m s = leF x (Zv x x.length) s \/ False := by
  intro s hs
  have a := hm (Zq s : Nat)
  rw [hs] at a
  rcases Zon h s B.kept.length (ZGx _) with q | q
  ·rw [q.1] at a; exact absurd a.1 (by simp)
  ·rw [q.1] at a
   left
   unfold mvF leF
   rw [a.2, <- hks s]
 rw [e1, ZGR]
 refine Zp0 (Zlz _) ((Ze4 x _).imp fun h => List.le_of_lt h) ?_ (ZDf x _) ?_ ?_
 ·rw [(ZbJ _).nodup_iff, e2]
  refine List.pairwise_map.2 ?_
  have hn := hc.1
  have hca : ∀ k : Int, k ∈ m.map (·.1) -> ∃ s : List UInt8, k = (Zq s : Nat) := fun k hk => by
   obtain ⟨p, hp, rfl⟩ := List.mem_map.1 hk; exact hc.2 p hp
  refine List.Pairwise.imp_of_mem (fun {a b} ha hb hab e => hab ?_) hn
  obtain ⟨s, rfl⟩ := hca a ha
  obtain ⟨t, rfl⟩ := hca b hb
  rw [ZGO, ZGO, Zn, Zn] at e
  rw [e]
 ·intro s
  rw [hin]
  constructor
  ·rintro ⟨a, b⟩
   rcases hag s a with e | e
   ·rw [e] at b; exact ⟨ZvS b, b⟩
   ·exact e.elim
  ·rintro ⟨_, b⟩
   have hs : Zt m (Zq s : Nat) = true := by
    have a := hm (Zq s : Nat)
    rcases Zon h s B.kept.length (ZGx _) with q | q
    ·unfold leF at b
     rw [<- hks s, q.2] at b; cases b
    ·rw [q.1] at a; exact a.1
   refine ⟨hs, ?_⟩
   rcases hag s hs with e | e
   ·rw [e]; exact b
   ·exact e.elim
 ·intro s hs hb
  rcases hag s ((hin s).1 hs) with e | e
  ·rw [e]
  ·exact e.elim
end
end Go.Proofs.Ytidlngnhjffepaa
namespace Go.Proofs
open Go.Shelf
def Try.lays190_ren : Go.Shelf.Ren := ⟨fun | 190 => 41 | 125 => 38 | 258 => 61 | 128 => 59 | 129 => 60 | 302 => 72 | 303 => 73 | 304 => 74 | 305 => 75 | 306 => 76 | 307 => 77 | 308 => 78 | 309 => 79 | 310 => 80 | 333 => 91 | 329 => 68 | 330 => 69 | 334 => 92 | 335 => 93 | 336 => 94 | 344 => 98 | n => n, fun | 31 => 77 | 9 => 9 | 3 => 3 | 46 => 94 | 0 => 0 | 51 => 116 | 53 => 118 | 4 => 4 | 183 => 110 | 182 => 109 | 131 => 52 | 5 => 5 | 218 => 125 | 222 => 129 | 228 => 143 | 229 => 144 | n => n, fun | n => n⟩
theorem Try.lays190 : Go.Proofs.Lays.n190 Try.prog Try.lays190_ren := {
 mixed := by kernel_rfl
 f125 := Try.func38.trans (congrArg some (by kernel_rfl))
 f128 := Try.func59.trans (congrArg some (by kernel_rfl))
 f129 := Try.func60.trans (congrArg some (by kernel_rfl))
 f190 := Try.func41.trans (congrArg some (by kernel_rfl))
 f258 := Try.func61.trans (congrArg some (by kernel_rfl))
 f302 := Try.func72.trans (congrArg some (by kernel_rfl))
 f303 := Try.func73.trans (congrArg some (by kernel_rfl))
 f304 := Try.func74.trans (congrArg some (by kernel_rfl))
 f305 := Try.func75.trans (congrArg some (by kernel_rfl))
 f306 := Try.func76.trans (congrArg some (by kernel_rfl))
 f307 := Try.func77.trans (congrArg some (by kernel_rfl))
 f308 := Try.func78.trans (congrArg some (by kernel_rfl))
 f309 := Try.func79.trans (congrArg some (by kernel_rfl))
 f310 := Try.func80.trans (congrArg some (by kernel_rfl))
 f329 := Try.func68.trans (congrArg some (by kernel_rfl))
 f330 := Try.func69.trans (congrArg some (by kernel_rfl))
 f333 := Try.func91.trans (congrArg some (by kernel_rfl))
 f334 := Try.func92.trans (congrArg some (by kernel_rfl))
 f335 := Try.func93.trans (congrArg some (by kernel_rfl))
 f336 := Try.func94.trans (congrArg some (by kernel_rfl))
 f344 := Try.func98.trans (congrArg some (by kernel_rfl))
 t0 := Try.underlying0
 a0 := Try.isAgg0
 z0 := Try.sizeOf0
 v0 := Try.zeroValue0
 t3 := Try.underlying3
 a3 := Try.isAgg3
 z3 := Try.sizeOf3
 v3 := Try.zeroValue3
 t4 := Try.underlying4
 a4 := Try.isAgg4
 z4 := Try.sizeOf4
 v4 := Try.zeroValue4
 t5 := Try.underlying5
 a5 := Try.isAgg5
 z5 := Try.sizeOf5
 v5 := Try.zeroValue5
 t9 := Try.underlying9
 a9 := Try.isAgg9
 z9 := Try.sizeOf9
 v9 := Try.zeroValue9
 t31 := Try.underlying77
 a31 := Try.isAgg77
 z31 := Try.sizeOf77
 v31 := Try.zeroValue77
 t46 := Try.underlying94
 a46 := Try.isAgg94
 z46 := Try.sizeOf94
 v46 := Try.zeroValue94
 t51 := Try.underlying116
 a51 := Try.isAgg116
 z51 := Try.sizeOf116
 v51 := Try.zeroValue116
 t53 := Try.underlying118
 a53 := Try.isAgg118
 z53 := Try.sizeOf118
 v53 := Try.zeroValue118
 t131 := Try.underlying52
 a131 := Try.isAgg52
 z131 := Try.sizeOf52
 v131 := Try.zeroValue52
 t182 := Try.underlying109
 a182 := Try.isAgg109
 z182 := Try.sizeOf109
 v182 := Try.zeroValue109
 t183 := Try.underlying110
 a183 := Try.isAgg110
 z183 := Try.sizeOf110
 v183 := Try.zeroValue110
 t218 := Try.underlying125
 a218 := Try.isAgg125
 z218 := Try.sizeOf125
 v218 := Try.zeroValue125
 t222 := Try.underlying129
 a222 := Try.isAgg129
 z222 := Try.sizeOf129
 v222 := Try.zeroValue129
 t228 := Try.underlying143
 a228 := Try.isAgg143
 z228 := Try.sizeOf143
 v228 := Try.zeroValue143
 t229 := Try.underlying144
 a229 := Try.isAgg144
 z229 := Try.sizeOf144
 v229 := Try.zeroValue144 }
open Go.Sort Go.RowKit in
theorem Try.slices_Sort_string (blk off cap : Nat) (ss : List (List UInt8)) (w : World) (hH : Holds encStr w blk off ss.toArray) (hblk : blk < w.heap.size) (hsz : ss.length < 4611686018427387904) :
  Calls Try.prog 41 #[.slice (some ⟨blk, off, none⟩) ss.length cap] w fun e w' =>
   e = .returned (.tuple #[]) /\ ∃ n os, w' = grow (putRow encStr (Sort.ahead w n) blk off (ss.mergeSort fun x y => decide (x <= y)).toArray) os := Any.slices_Sort_string Try.lays190 blk off cap ss w hH hblk hsz
open Go.RowKit Go.Sort in
theorem Try.slices_Sort_string_none (p : Option Addr) (cap : Nat) (w : World) :
  Calls Try.prog 41 #[.slice p 0 cap] w fun e w' => e = .returned (.tuple #[]) /\ w' = w := Any.slices_Sort_string_none Try.lays190 p cap w
end Go.Proofs
namespace Go.Proofs.Ytidlngnhjffepaa
noncomputable section
open Go.Eng
open Go.Sort (grow flatK putRow putRowK HoldsK setMany ahead PermIn SortedIn)
open Go.Proofs (ltOf sortWorldK)
def rF : List Go.Eng.Fd := .int .i64 :: hF
def Zar (x : List Int) : List Value := rowVals rF x
theorem ZbO (x : List Int) : (Zar x).length = 7 := ZN rF x
theorem Ze0 (l : List (List Int)) : (l.flatMap Zar).length = l.length * 7 := by
 induction l with
 | nil => rfl
 | cons a l ih => rw [List.flatMap_cons, ZGM, ih, ZbO, ZG1]; omega
theorem ZoU : ∀ (l : List (List Int)) (t : Nat), t < l.length * 7 -> (l.flatMap Zar)[t]? = some ((Zar (l.getD (t / 7) default))[t % 7]!)
 | [], t, h => by simp at h
 | x :: l, t, h => by
  rw [List.flatMap_cons]
  by_cases h7 : t < 7
  ·rw [ZGZ (by rw [ZbO]; exact h7), Nat.div_eq_of_lt h7, Nat.mod_eq_of_lt h7]
   have hl : t < (Zar x).length := by rw [ZbO]; exact h7
   rw [ZGK hl]
   show some (Zar x)[t] = some (Zar x)[t]!
   rw [getElem!_pos _ t hl]
  ·rw [ZG0 (by rw [ZbO]; omega), ZbO, ZoU l (t - 7) (by rw [ZG1] at h; omega)]
   have e1 : t / 7 = (t - 7) / 7 + 1 := by omega
   have e2 : t % 7 = (t - 7) % 7 := by omega
   rw [e1, e2]; rfl
theorem Zec (l : List (List Int)) : (flatK Zar 7 l.toArray).toList = l.flatMap Zar := by
 apply List.ext_getElem?
 intro t
 by_cases h : t < l.length * 7
 ·rw [ZoU l t h]
  have := Go.Sort.get_flatK Zar 7 l.toArray t (by simpa using h)
  have hs : t < (flatK Zar 7 l.toArray).size := by simpa using h
  rw [getElem!_pos _ t hs] at this
  rw [ZGw, Array.getElem?_eq_getElem hs, this]
  congr 2
  simp [Array.getElem!_eq_getD, Array.getD_eq_getD_getElem?, ZGH]
 ·rw [List.getElem?_eq_none (by simpa using h)]
  have hl : (l.flatMap Zar).length = l.length * 7 := Ze0 l
  rw [List.getElem?_eq_none (by omega)]
theorem Sat.push' {w0 w : World} {H : HProp} (h : Sat w0 H w) (x : Obj) : Sat w0 H { w with heap := w.heap.push x } := by
 obtain ⟨y, hy, hi⟩ := h
 exact ⟨y, hy, hi.push x⟩
theorem Sat.grow {w0 : World} {H : HProp} : ∀ (os : List Obj) {w : World}, Sat w0 H w -> Sat w0 H (grow w os.toArray)
 | [], w, h => by rw [show (([] : List Obj).toArray) = #[] from rfl, Go.Sort.grow_empty]; exact h
 | x :: os, w, h => by
  have := Sat.grow os (Sat.push' h x)
  have e : Go.Sort.grow { w with heap := w.heap.push x } os.toArray = Go.Sort.grow w (x :: os).toArray := by
   unfold Go.Sort.grow; simp
  rw [e] at this; exact this
theorem Sat.cells {w0 : World} {b o : Nat} {z : Bool} {H : HProp} : ∀ (new : List Value) (i : Nat) (cs : List Value) (w : World), Sat w0 (Zd (row b o cs z) H) w -> i + new.length <= cs.length →
  Sat w0 (Zd (row b o (cs.take i ++ new ++ cs.drop (i + new.length)) z) H) (w.setCells b (o + i) new)
 | [], i, cs, w, h, _ => by simpa [World.setCells] using h
 | v :: new, i, cs, w, h, hl => by
  simp only [ZG1] at hl
  have hs := h.store (i := i) (by omega) v
  have := Sat.cells new (i + 1) (cs.set i v) _ hs (by simp; omega)
  have e : (cs.set i v).take (i + 1) ++ new ++ (cs.set i v).drop (i + 1 + new.length) = cs.take i ++ (v :: new) ++ cs.drop (i + (v :: new).length) := by
   have e1 : (cs.set i v).take (i + 1) = cs.take i ++ [v] := by
    rw [List.take_add_one, List.take_set_of_le (ZGx i), List.getElem?_set_self (by omega)]
    rfl
   rw [e1, List.drop_set_of_lt (by omega), ZG1]
   simp [Nat.add_assoc, Nat.add_comm 1]
  rw [e] at this
  exact this
theorem Sat.put {w0 w : World} {b : Nat} {z : Bool} {H : HProp} {old new : List (List Int)} {spare : List Value} (h : Sat w0 (Zd (row b 0 (old.flatMap Zar ++ spare) z) H) w) (hl : new.length = old.length) :
  Sat w0 (Zd (row b 0 (new.flatMap Zar ++ spare) z) H) (putRowK Zar 7 w b 0 new.toArray) := by
 have len : ∀ l : List (List Int), (l.flatMap Zar).length = l.length * 7 := Ze0
 have hh : HoldsK Zar 7 w b 0 old.toArray := by
  intro j hj
  rw [Go.Sort.size_flatK] at hj
  have hj' : j < (old.flatMap Zar ++ spare).length := by rw [ZGM, len]; simp at hj; omega
  have := h.load hj'
  rw [List.getElem_append_left (by rw [len]; simpa using hj)] at this
  have e : (flatK Zar 7 old.toArray)[j]! = (old.flatMap Zar)[j]'(by rw [len]; simpa using hj) := by
   have hs : j < (flatK Zar 7 old.toArray).size := by simpa using hj
   rw [getElem!_pos _ j hs, <- Array.getElem_toList]
   congr 1
   exact Zec old
  rw [e]
  exact this
 have e1 : putRowK Zar 7 w b 0 old.toArray = w := Go.Sort.putRowK_self Zar 7 w b 0 _ hh
 have e2 := Go.Sort.setCells_putRow w b 0 (new.flatMap Zar) 0 (flatK Zar 7 old.toArray) (by simp [len, hl])
 have e3 : setMany (flatK Zar 7 old.toArray) 0 (new.flatMap Zar) = flatK Zar 7 new.toArray := by
  refine Go.Sort.ext_get! (by simp [hl]) fun t ht => ?_
  have ht' : t < old.length * 7 := by simpa using ht
  rw [Go.Sort.get_setMany _ _ _ _ (by simpa using ht'), if_pos (by rw [len]; omega), Nat.sub_zero]
  have hs : t < (flatK Zar 7 new.toArray).size := by simp [hl]; exact ht'
  have ht2 : t < (new.flatMap Zar).length := by rw [len]; omega
  rw [getElem!_pos _ t ht2, getElem!_pos _ t hs, <- Array.getElem_toList]
  congr 1
  exact (Zec new).symm
 rw [show putRow id w b 0 (flatK Zar 7 old.toArray) = w from e1, e3] at e2
 have := Sat.cells (new.flatMap Zar) 0 _ w h (by rw [ZGM, len, len]; omega)
 rw [e2, List.take_zero, List.nil_append, Nat.zero_add, show (new.flatMap Zar).length = (old.flatMap Zar).length by rw [len, len, hl], List.drop_left] at this
 exact this
theorem ltPage' (x y : List Int) : ltOf (fun x y : List Int => Go.Lib.compareInt (g0 x) (g0 y)) x y = decide (g0 x < g0 y) := by
 unfold ltOf Go.Lib.compareInt
 by_cases h1 : g0 x < g0 y
 ·simp [h1]
 ·by_cases h2 : g0 y < g0 x <;> simp [h1, h2]
theorem ZpP {R : List (List Int)} {d' : Array (List Int)} (hp : Go.Sort.PermIn 0 R.length R.toArray d')
  (hs : Go.Sort.SortedIn (ltOf fun x y : List Int => Go.Lib.compareInt (g0 x) (g0 y)) 0 R.length d') : d'.toList.length = R.length /\ SrtP R d'.toList := by
 obtain ⟨h1, h2, h3⟩ := hp
 have hsz : d'.size = R.length := by simpa using h1
 have h3 : d'.toList.Perm R := by
  have e1 : (d'.extract 0 R.length) = d' := by rw [<- hsz]; simp
  have e2 : (R.toArray.extract 0 R.length) = R.toArray := by simp
  rw [e1, e2] at h3
  simpa using h3
 refine ⟨by simpa using hsz, h3, ?_⟩
 rw [List.pairwise_iff_getElem]
 intro i j hi hj hij
 have := hs i j (Nat.zero_le _) hij (by rw [Array.length_toList] at hj; omega)
 rw [ltPage', decide_eq_false_iff_not, getElem!_pos _ _ (by simpa using hj), getElem!_pos _ _ (by simpa using hi)] at this
 simp only [Array.getElem_toList]
 omega
def ZyU (P : Program) (f g : FuncId) : Prop := ∀ (blk cap : Nat) (d : Array (List Int)) (w : World), HoldsK Zar 7 w blk 0 d -> blk < w.heap.size -> d.size < 4611686018427387904 →
  Calls P f #[.slice (some ⟨blk, 0, none⟩) d.size cap, .func (.func g) #[] #[]] w fun e w' => e = .returned (.tuple #[]) ∧
   ∃ d' n os, PermIn 0 d.size d d' /\ SortedIn (ltOf fun x y : List Int => Go.Lib.compareInt (g0 x) (g0 y)) 0 d.size d' /\ w' = sortWorldK Zar 7 w blk 0 n d' os
def SortNone (P : Program) (f : FuncId) : Prop := ∀ (p : Option Addr) (cap : Nat) (fv : Value) (w : World), Calls P f #[.slice p 0 cap, fv] w fun e w' => e = .returned (.tuple #[]) /\ w' = w
theorem ZfR (R : List (List Int)) : R.flatMap (rowVals rF) = R.flatMap Zar := rfl
theorem ZFo (S : Sig GG) (hS : JsSig S) {P : Program} {f : FuncId} (hsome : ZyU P f 21) (hnone : SortNone P f) : ZH S P f Zcm := by
 intro ch w0 F ρ w xs hx hq hsat
 obtain ⟨v1, v2, rfl, hv1, hv2⟩ : ∃ v1 v2, xs = [v1, v2] /\ SV.R S ρ (.one (.slice (ai 0) z0 z0 z0 (ai 2) (ai 3) 7)) v1 /\ SV.R S ρ (.one (.fn 21)) v2 := by
  match xs, hx with
  | [v1, v2], hx => exact ⟨v1, v2, rfl, hx.1, hx.2.1⟩
 have hv1 := R_one S ρ hv1
 have hv2 := R_one S ρ hv2
 have q1 := hq (eLe z0 (ai 2)) (by simp [Zcm])
 have q2 := hq (.f2 45 (ai 2) (Zk (rA 1))) (by simp [Zcm])
 have q3 := hq (eLe (ai 2) (.int 140737488355328)) (by simp [Zcm])
 rw [Ze] at q1 q3
 have q2 : ((ai 2).den S ρ).tI = ((Zk (rA 1)).den S ρ).tI := by
  have : (ap2 45 ((ai 2).den S ρ) ((Zk (rA 1)).den S ρ)).tP := q2
  rw [p45] at this; exact this
 simp only [Zcm, Zo, star_assoc, Ch.den, rAr] at hsat
 rw [SX.den_wc, SX.den_wc, SX.den_wc] at hsat
 simp only [SX.den, ai, rA, Zk, YB, U.co, U.tIi, z0] at q1 q2 q3 hsat
 subst hv1 hv2
 simp only [SC.den, SX.den, ai, U.co, U.tIi, z0, if_true, ZGE, Nat.zero_mul, Nat.zero_add, ite_self]
 generalize hb : (ρ 0).tI = b at *
 generalize hn : (ρ 2).tI = n at *
 generalize hR : (ρ 1).tR = R at *
 generalize hc : (ρ 4).tI = c at *
 obtain ⟨spare, hsat⟩ := Yo hsat
 obtain ⟨g1, hsat⟩ := Zr hsat
 obtain ⟨g2, hsat⟩ := Zr hsat
 obtain ⟨g3, hsat⟩ := Zr hsat
 have hlen := Ze0 R
 simp only [rE, En.vals, En.stride, ZG1, List.length_nil, U.tIi, U.tRi] at g1 g2 g3 q2 hsat
 simp only [show (Go.Eng.Fd.int IntKind.i64 :: hF) = rF from rfl, ZfR] at g1 g3 hsat
 by_cases hR0 : R = []
 ·subst hR0
  have hn0 : n = 0 := by simpa using q2
  subst hn0
  refine (hnone _ _ _ w).mono ?_
  rintro e w' ⟨rfl, rfl⟩
  refine ⟨ρ.upd 5 (.rows []), .tuple #[], Ext.upd _ _, rfl, .inr rfl, ?_, ?_⟩
  ·simp only [Zcm, Zo, star_assoc, Ch.den, rAr]
   rw [SX.den_wc, SX.den_wc, SX.den_wc]
   simp only [SX.den, ai, rA, U.co, U.tIi, Env.upd, if_true, Nat.reduceEqDiff, reduceIte, hb, hc, U.tRi]
   exact Yw spare (Zs (by simpa [rE, En.vals, En.stride] using g1) (Zs g2 (Zs g3 (by simp only [rE, En.vals, List.flatMap_nil, U.tRi]; exact hsat))))
  ·intro x hx
   simp only [Zcm, List.mem_cons, List.not_mem_nil, or_false] at hx
   rcases hx with rfl | rfl
   ·show (ap2 45 ((Zk (rA 5)).den S _) ((Zk (rA 1)).den S _)).tP
    rw [p45]; simp [SX.den, Zk, rA, YB, Env.upd, hR, U.co]
   ·simp only [srtX, usB, SX.den, hS.u580, rA, Env.upd, if_true, Nat.reduceEqDiff, reduceIte, U.co, hR, U.tRi, U.tPi, U.tQi, Zh]
    exact ⟨List.Perm.refl _, List.Pairwise.nil⟩
 ·have hRl : 0 < R.length := List.length_pos_iff.2 hR0
  have hb0 : 0 <= b := by
   rcases g3 with h | h
   ·exact h
   ·exfalso; rw [h, hlen] at g1; simp at g1; omega
  have hn' : n.toNat = R.length := by omega
  have hlt := hsat.row_lt (by intro e; have := congrArg List.length e; rw [ZGM, hlen] at this; simp at this; omega)
  have hold : HoldsK Zar 7 w b.toNat 0 R.toArray := by
   intro j hj
   have hj0 := hj
   rw [Go.Sort.size_flatK] at hj
   have hj' : j < (R.flatMap Zar ++ spare).length := by rw [ZGM, hlen]; simp at hj; omega
   have := hsat.load hj'
   rw [List.getElem_append_left (by rw [hlen]; simpa using hj)] at this
   rw [getElem!_pos _ j hj0, <- Array.getElem_toList]
   have e : (flatK Zar 7 R.toArray).toList[j]'(by simpa using hj0) = (R.flatMap Zar)[j]'(by rw [hlen]; simpa using hj) := by
    congr 1
    exact Zec _
   rw [e]
   exact this
  have hcall := hsome b.toNat (SX.den S ρ (ai 3)).tI.toNat R.toArray w hold hlt.2 (by simp; omega)
  rw [if_neg (by omega), hn']
  refine hcall.mono ?_
  rintro e w' ⟨rfl, d', m, os, hp, hs, rfl⟩
  obtain ⟨hyl, hys⟩ := ZpP (by simpa using hp) (by simpa using hs)
  refine ⟨ρ.upd 5 (.rows d'.toList), .tuple #[], Ext.upd _ _, rfl, .inr rfl, ?_, ?_⟩
  ·simp only [Zcm, Zo, star_assoc, Ch.den, rAr]
   rw [SX.den_wc, SX.den_wc, SX.den_wc]
   simp only [SX.den, ai, rA, U.co, U.tIi, Env.upd, if_true, Nat.reduceEqDiff, reduceIte, hb, hc, U.tRi]
   have hput : Sat w0 (Zd (row b.toNat 0 (d'.toList.flatMap Zar ++ spare) true) (Zd (hpDen (S.wc ch) (ρ.upd 5 (.rows d'.toList)) w0 []) F)) (sortWorldK Zar 7 w b.toNat 0 m d' os) := by
    have h1 := Sat.put (new := d'.toList) (hsat.drew (w.drawn + m)) (by simpa using hp.1)
    have h2 := Sat.grow os.toList h1
    exact h2
   refine Yw spare (Zs ?_ (Zs g2 (Zs g3 ?_)))
   ·simp only [rE, En.vals, En.stride, ZG1, List.length_nil, U.tIi, U.tRi, show (Go.Eng.Fd.int IntKind.i64 :: hF) = rF from rfl, ZfR]
    rw [Ze0, hyl, <- hlen]; exact g1
   ·simp only [rE, En.vals, U.tRi, show (Go.Eng.Fd.int IntKind.i64 :: hF) = rF from rfl, ZfR]
    exact hput
  ·intro x hx
   simp only [Zcm, List.mem_cons, List.not_mem_nil, or_false] at hx
   rcases hx with rfl | rfl
   ·show (ap2 45 ((Zk (rA 5)).den S _) ((Zk (rA 1)).den S _)).tP
    rw [p45]; simp only [SX.den, Zk, rA, YB, Env.upd, hR, U.co, if_true, Nat.reduceEqDiff, reduceIte, U.tRi, U.tIi, hyl]
   ·simp only [srtX, usB, SX.den, hS.u580, rA, Env.upd, if_true, Nat.reduceEqDiff, reduceIte, U.co, hR, U.tRi, U.tPi, U.tQi, Zh]
    exact hys
end
end Go.Proofs.Ytidlngnhjffepaa
namespace Go.Proofs.Ytidlngnhjffepaa
noncomputable section
open Go.Eng
open Go.Sort (grow putRow Holds ahead)
open Go.Proofs (encStr)
/-! ### Pairs in memory -/
def tx1 (w : List Int) : List UInt8 := Za6 (w.getD 1 0).toNat
def itF (r w : List Int) : Prop := g1 r = ((txt w).length : Nat) /\ r.getD 4 0 = ((tx1 w).length : Nat) /\ g1 r <= g2 r /\ r.getD 4 0 <= r.getD 5 0 /\ 0 <= g0 r /\ 0 <= r.getD 3 0
def itP (r w : List Int) : HProp := fun h => itF r w /\ Zd (bAD (g0 r) (txt w) (g2 r)) (bAD (r.getD 3 0) (tx1 w) (r.getD 5 0)) h
def prH : List (List Int) -> List (List Int) -> HProp
 | [], [] => emp
 | r :: R, w :: W => Zd (itP r w) (prH R W)
 | _, _ => fun _ => False
def prO (k W : List (List Int)) : HProp :=
 let i := (g0 (k.getD 0 [])).toNat
 Zd (prH ((k.drop 1).take i) (W.take i)) (prH ((k.drop 1).drop (i + 1)) (W.drop (i + 1)))
structure FiSig (S : Sig GG) : Prop where
 js : JsSig S
 p110 : ∀ w0 k x, S.prd 110 w0 k x = prH k.tR x.tR
 p111 : ∀ w0 k x, S.prd 111 w0 k x = prO k.tR x.tR
 u600 : ∀ a b c d, S.usr 600 a b c d = .rows (ZgR a.tR)
 u601 : ∀ a b c d, S.usr 601 a b c d = .rows (Zqg a.tM)
 u602 : ∀ a b c d, S.usr 602 a b c d = .rows (ZiZ (mvF a.tM) b.tR c.tI.toNat)
 u603 : ∀ a b c d, S.usr 603 a b c d = .rows (finR' a.tR)
 u604 : ∀ a b c d, S.usr 604 a b c d = .int (Ziw a.tR)
 u605 : ∀ a b c d, S.usr 605 a b c d = .bool (Zl (ZAX a.tM b.tM c.tR))
 u610 : ∀ a b c d, S.usr 610 a b c d = .rows ((Zp3 a.tR b.tI.toNat).map Zxf)
 u611 : ∀ a b c d, S.usr 611 a b c d = .bool (Zl (∀ j : Nat, (j : Int) < c.tI -> Op.bytesLess (txt (a.tR.getD j [])) b.tB = true))
 u612 : ∀ a b c d, S.usr 612 a b c d = .rows (ZiZ (leF a.tR b.tN) c.tR d.tI.toNat)
 u606 : ∀ a b c d, S.usr 606 a b c d = .bool (Zl (canM a.tM))
def sE : En := .rows [.str]
def sAr (b x c : SX) : Ch := .arr sE b x c
def Zf0 : Ctr := ⟨[.int, .rows, .int, .int, .int], [.one (slC (ai 0) (ai 2) (ai 3) 1)], [sAr (ai 0) (rA 1) (ai 4)], [.f2 45 (ai 2) (Zk (rA 1)), eLe (ai 2) (.int 140737488355328)], [], .tup [], [sAr (ai 0) (usR 600 (rA 1) z0 z0) (ai 4)], []⟩
theorem Zig (R : List (List Int)) : R.flatMap (rowVals [.str]) = (R.map txt).map encStr := by
 rw [List.map_map]
 induction R with
 | nil => rfl
 | cons r R ih => rw [List.flatMap_cons, ZGQ, ih]; rfl
theorem ZhQ (R : List (List Int)) : (ZgR R).map txt = Zqr (R.map txt) := by
 unfold ZgR; rw [List.map_map]
 conv => rhs; rw [<- List.map_id (Zqr (R.map txt))]
 exact List.map_congr_left fun s _ => Zwk s
theorem Zy7 {a : Array Value} {v : Value} {j : Nat} (h : a[j]? = some v) : a[j]! = v := by rw [Array.getElem!_eq_getD, Array.getD_eq_getD_getElem?, h]; rfl
theorem Sat.putS {w0 w : World} {b : Nat} {z : Bool} {H : HProp} {old new : List (List UInt8)} {spare : List Value} (h : Sat w0 (Zd (row b 0 (old.map encStr ++ spare) z) H) w) (hl : new.length = old.length) :
  Sat w0 (Zd (row b 0 (new.map encStr ++ spare) z) H) (putRow encStr w b 0 new.toArray) := by
 have hh : Holds id w b 0 (old.map encStr).toArray := by
  intro j hj
  have hj1 : j < (old.map encStr).length := by simpa using hj
  have hj' : j < (old.map encStr ++ spare).length := by rw [ZGM]; omega
  have := h.load hj'
  rw [List.getElem_append_left hj1] at this
  rw [Nat.zero_add] at this ⊢
  refine ⟨?_, this.2⟩
  rw [this.1]
  congr 1
  exact (Zy7 (by rw [List.getElem?_toArray, ZGK hj1])).symm
 have e1 : putRow id w b 0 (old.map encStr).toArray = w := Go.Sort.putRow_self id w b 0 _ hh
 have e2 := Go.Sort.setCells_putRow w b 0 (new.map encStr) 0 (old.map encStr).toArray (by simp [hl])
 have e3 : Go.Sort.setMany (old.map encStr).toArray 0 (new.map encStr) = (new.map encStr).toArray := by
  refine Go.Sort.ext_get! (by simp [hl]) fun t ht => ?_
  have ht' : t < old.length := by simpa using ht
  rw [Go.Sort.get_setMany _ _ _ _ (by simpa using ht'), if_pos (by simp; omega), Nat.sub_zero]
  have ht2 : t < (new.map encStr).length := by simp; omega
  rw [getElem!_pos _ t ht2, getElem!_pos _ t (by simpa using ht2)]
  simp
 have e4 : putRow encStr w b 0 new.toArray = putRow id w b 0 (new.map encStr).toArray := by
  unfold putRow
  congr 1
  funext c
  unfold Go.Sort.putCells
  congr 1
  funext k x
  simp only [List.size_toArray, ZGR, Nat.zero_add, Nat.sub_zero, Nat.zero_le, true_and, id]
  by_cases hk : k < new.length
  ·rw [if_pos hk, if_pos hk, getElem!_pos _ k (by simpa using hk), getElem!_pos _ k (by simpa using hk)]; simp
  ·rw [if_neg hk, if_neg hk]
 rw [e1, e3] at e2
 have := Sat.cells (new.map encStr) 0 _ w h (by simp; omega)
 rw [e2, List.take_zero, List.nil_append, Nat.zero_add, show (new.map encStr).length = (old.map encStr).length by simp [hl], List.drop_left] at this
 rw [e4]
 exact this
theorem ZEP (S : Sig GG) (hS : FiSig S) : ZH S Try.prog 41 Zf0 := by
 intro ch w0 F ρ w xs hx hq hsat
 obtain ⟨v1, rfl, hv1⟩ : ∃ v1, xs = [v1] /\ SV.R S ρ (.one (slC (ai 0) (ai 2) (ai 3) 1)) v1 := by
  match xs, hx with
  | [v1], hx => exact ⟨v1, rfl, hx.1⟩
 have hv1 := R_one S ρ hv1
 have q2 := hq (.f2 45 (ai 2) (Zk (rA 1))) (by simp [Zf0])
 have q3 := hq (eLe (ai 2) (.int 140737488355328)) (by simp [Zf0])
 rw [Ze] at q3
 have q2 : ((ai 2).den S ρ).tI = ((Zk (rA 1)).den S ρ).tI := by
  have : (ap2 45 ((ai 2).den S ρ) ((Zk (rA 1)).den S ρ)).tP := q2
  rw [p45] at this; exact this
 simp only [Zf0, Zo, star_assoc, Ch.den, sAr] at hsat
 rw [SX.den_wc, SX.den_wc, SX.den_wc] at hsat
 simp only [SX.den, ai, rA, Zk, YB, U.co, U.tIi, U.tRi] at q2 q3 hsat
 subst hv1
 rw [Zcv]
 simp only [SX.den, ai, U.co, U.tIi]
 generalize hb : (ρ 0).tI = b at *
 generalize hn : (ρ 2).tI = n at *
 generalize hR : (ρ 1).tR = R at *
 generalize hc : (ρ 4).tI = c at *
 obtain ⟨spare, hsat⟩ := Yo hsat
 obtain ⟨g1, hsat⟩ := Zr hsat
 obtain ⟨g2, hsat⟩ := Zr hsat
 obtain ⟨g3, hsat⟩ := Zr hsat
 simp only [sE, En.vals, En.stride, En.nf, ZG1, List.length_nil, U.tIi, U.tRi, Zig] at g1 g2 g3 hsat
 have fin : ∀ w', Sat w0 (Zd (row b.toNat 0 ((ZgR R).flatMap (rowVals [.str]) ++ spare) true) (Zd (hpDen (S.wc ch) ρ w0 []) F)) w' →
   Sat w0 (Zd (hpDen (S.wc ch) ρ w0 Zf0.post) F) w' := by
  intro w' hw
  simp only [Zf0, Zo, star_assoc, Ch.den, sAr, usR]
  rw [SX.den_wc, SX.den_wc, SX.den_wc]
  simp only [SX.den, ai, rA, U.co, U.tIi, hS.u600, hb, hc, hR, U.tRi]
  refine Yw spare (Zs ?_ (Zs g2 (Zs g3 hw)))
  simp only [sE, En.vals, En.stride, ZG1, List.length_nil, U.tRi, U.tIi, Zig, ZhQ, ZGR, (ZbJ _).length_eq] at g1 ⊢
  exact g1
 by_cases hR0 : R = []
 ·subst hR0
  have hn0 : n = 0 := by simpa using q2
  subst hn0
  refine (Try.slices_Sort_string_none _ _ w).mono ?_
  rintro e w' ⟨rfl, rfl⟩
  refine ⟨ρ, .tuple #[], Ext.refl _ _, rfl, .inr rfl, fin _ ?_, fun x hx => nomatch hx⟩
  rw [Zig, ZhQ, show Zqr (([] : List (List Int)).map txt) = ([] : List (List Int)).map txt by simp [Zqr]]
  exact hsat
 ·have hRl : 0 < R.length := List.length_pos_iff.2 hR0
  have hb0 : 0 <= b := by
   rcases g3 with h | h
   ·exact h
   ·exfalso; rw [h] at g1; simp at g1; exact hR0 g1.1
  have hn' : n.toNat = (R.map txt).length := by rw [ZGR]; omega
  have hlt := hsat.row_lt (by intro e; have := congrArg List.length e; simp at this; exact hR0 this.1)
  have hold : Holds encStr w b.toNat 0 (R.map txt).toArray := by
   intro j hj
   have hj0 : j < (R.map txt).length := by simpa using hj
   have hj' : j < ((R.map txt).map encStr ++ spare).length := by simp at hj0 ⊢; omega
   have := hsat.load hj'
   rw [List.getElem_append_left (by simpa using hj0)] at this
   rw [getElem!_pos _ j (by simpa using hj0)]
   simpa using this
  have hcall := Try.slices_Sort_string b.toNat 0 (ρ 3).tI.toNat (R.map txt) w hold hlt.2 (by simp; omega)
  unfold slV
  rw [if_neg (by omega), hn']
  refine hcall.mono ?_
  rintro e w' ⟨rfl, m, os, rfl⟩
  refine ⟨ρ, .tuple #[], Ext.refl _ _, rfl, .inr rfl, fin _ ?_, fun x hx => nomatch hx⟩
  have h1 := Sat.putS (new := Zqr (R.map txt)) (hsat.drew (w.drawn + m)) (ZbJ _).length_eq
  have h2 := Sat.grow os.toList h1
  rw [Zig, ZhQ]
  exact h2
def canC : Ctr := ⟨[.int, .amap], [.one (.map (ai 0))], [scC (ai 0) (mA 1)], [], [], .tup [], [scC (ai 0) (mA 1)], [usB 606 (mA 1) z0 z0]⟩
theorem ZFE (S : Sig GG) (hS : FiSig S) : ZcQ S canC := by
 refine ZaR S fun T w0 ρ h hu hp hd hr hpre => ⟨ρ, Ext.refl _ _, hpre, ?_⟩
 have hT := hS.u606
 rw [<- hu] at hT
 intro x hx
 simp only [canC, ZGA] at hx
 subst hx
 have e1 : hpDen T ρ w0 canC.pre = Zd ((scC (ai 0) (mA 1)).den T ρ w0) emp := rfl
 rw [e1, Zi] at hpre
 obtain ⟨_, es, clock, ⟨_, hn, hk, _⟩, _⟩ := hpre
 simp only [usB, SX.den, hT, YP, U.tPi, U.tQi, Zh]
 exact ⟨hn, hk⟩
def ZwM : Ctr := ⟨[.int, .amap], [.one (.map (ai 0))], [scC (ai 0) (mA 1)], [eLe z0 (ai 0), eLe (.f1 33 (mA 1)) (.int 1048576)], [.int, .int], .one (slC (ai 2) (Zk (usR 601 (mA 1) z0 z0)) (ai 3) 1),
 [scC (ai 0) (mA 1), sAr (ai 2) (usR 601 (mA 1) z0 z0) (ai 3)], [eLe (Zk (usR 601 (mA 1) z0 z0)) (ai 3)]⟩
def risI (m it b c : Nat) : Inv := ⟨[.amap, .ints, .int, .int, .rows], [(3, .one (slC (di 2) (Zk (rA 1000004)) (di 3) 1))],
 [.itr .str .sb (ai m) (mA 1) (ai it) (mA 1000000) (iA 1000001), sAr (di 2) (rA 1000004) (di 3)],
 [usB 605 (mA 1) (mA 1000000) (rA 1000004), eLe (Zk (rA 1000004)) (di 3)], .f1 33 (mA 1000000)⟩
def ZEz : Cx := { specs := [(41, [Zf0])], anns := [(26, [(3, .inv (risI 0 3 2 1))])] }
def ZAZ : SX := vR 601 (m 1)
def ZCr : SX := .f1 32 ZAZ
def Zx5 : SX := .f2 40 (.f1 32 (r 8)) (k 1)
def ZCF : SX := .f2 143 (m 4) (.f1 35 (b 9))
def ZDK : VC := i (l z (a 0)) (i (l (.f1 33 (m 1)) (k 1048576)) (n (l (.f2 42 (.f1 33 (m 1)) (k 16)) k1) (u 2 .int (i (l z (a 2)) (u 3 .int (i (l z (a 3)) (n (y 605 (m 1) (m 1) (.f1 154 z)) (u 4 .amap (u 5 .ints (u 6 .int (u 7 .int (u 8 .rows (i (y 605 (m 1) (m 4) (r 8)) (i (l (.f1 32 (r 8)) (a 7)) (.and (i (e (.f1 33 (m 4)) z) (n (e (.f1 32 (r 8)) (.f1 32 (r 8))) (n (l (.f1 32 (r 8)) k1) (n (l ZCr (a 7)) (n (.f2 155 ZAZ (vR 600 (r 8))) (n (e ZCr (.f1 32 (r 8))) .tt)))))) (u 9 .bytes (i (.f2 141 (m 4) (.f1 35 (b 9))) (u 10 .int (i (l z (a 10)) (n (l (.f1 32 (r 8)) (.f1 32 (r 8))) (n (l (.f2 42 Zx5 (k 16)) k1) (u 11 .int (u 12 .int (i (l Zx5 (a 12)) (i (.f2 50 (l z (a 11)) (e Zx5 z)) (n (t (.f1 33 ZCF) (.f1 33 (m 4))) (n (y 605 (m 1) ZCF (.f2 121 (r 8) (.f2 124 (.f2 122 (.f1 35 (b 9)) (.f1 152 z)) (.f1 154 z)))) .tt)))))))))))))))))))))))))))
theorem ZFg : Zb4 Try.prog ZEz 12 26 ZwM = ZDK := by kernel_rfl
theorem ZGq (S : Sig GG) (hS : FiSig S) : ZH S Try.prog 26 ZwM := by
 refine Zp S (C := ZEz) (fuel := 12) (Zab ⟨Zm (by decide) (ZEP S hS), trivial⟩ ⟨⟨trivial, trivial⟩, trivial⟩ trivial) fun ρ => ?_
 rw [ZFg]
 simp only [ZDK, ZAZ, ZCr, Zx5, ZCF, hS.u600, hS.u601, hS.u605, ZT, ZGO, VC.den, SX.den, Env.upd, Y3, ZY, beq_iff_eq, ZGG, beq_eq_false_iff_ne, ne_eq, ZGF, ZGE, Int.reduceToNat, Nat.reduceEqDiff, reduceIte, sB]
 generalize (ρ 1).tM = m
 intro h1 h2
 refine ⟨by omega, fun b hb it hit => ⟨List.Perm.refl _, fun left cur ob oc R g1 g2 => ⟨fun hz => ?_, fun k hk => ?_⟩⟩⟩
 ·have hz : left = [] := ZGW (by omega)
  subst hz
  have e := ZCv g1
  have hl : (Zqg m).length = R.length := by rw [<- e, Zja]
  have hm := Zn8 m
  exact ⟨trivial, by omega, by omega, e.symm, by omega, trivial⟩
 ·have hl := g1.length_eq
  have hd := ZcV hk
  simp only [ZGM, ZGR] at hl
  exact fun _ _ => ⟨ZGS _, by omega, fun _ _ _ _ => ⟨by omega, ZyN g1 hk, trivial⟩⟩
end
end Go.Proofs.Ytidlngnhjffepaa
namespace Go.Proofs.Ytidlngnhjffepaa
noncomputable section
open Go.Eng
def bG : SX := usG 561 xX (Zk xX) z0
def bK (R : SX) : SX := usR 548 xX (Zk xX) R
def bO : SX := usR 549 xX (Zk xX) z0
def ZkU : Ctr := ⟨hA ++ [.int], [.one (hS 0), .one (.ptr (ai 6) 0)], [hC 0 0, bkC (ai 6) xX], [eLe z0 (ai 6)], [.int, .int, .int, .int, .int, .rows], .tup [],
 [hC 0 0, .cel (ai 6) 0 (bkQ (ai 7) (ai 8) (Zk (bK (rA 12))) (ai 9) (ai 10) (Zk bO) (ai 11) (usI 550 xX (Zk xX) z0) (usI 551 xX (Zk xX) z0)), imC (ai 7) (wM (rA 12) bG), pAr (ai 8) (bK (rA 12)) (ai 9), rAr (ai 10) bO (ai 11), txC (rA 12) bG],
 [eLe z0 (ai 7), eLe (Zk (bK (rA 12))) (ai 9), .f2 50 (eLe z0 (ai 8)) (.f2 45 (Zk (bK (rA 12))) z0), eLe (Zk bO) (ai 11), .f2 50 (eLe z0 (ai 10)) (.f2 45 (Zk bO) z0), usB 558 (rA 12) bG z0, usB 560 (bK (rA 12)) (rA 12) z0, eLe (Zk (bK (rA 12))) (Zk xX), eLe (Zk bO) (Zk xX)]⟩
theorem Zpd {b c : Int} {x : List (List Int)} {fs : List Go.Eng.Fd} (hf : 0 < fs.length) {h : Hl} (hd : rAD (.rows fs) b x c h) : (x.length : Int) <= c /\ (0 <= b \/ (x.length : Int) = 0) := by
 have h1 := Zzk hf hd
 obtain ⟨sp, l1, l2, l3, l4⟩ := hd
 refine ⟨h1, ?_⟩
 rcases l3 with h | h
 ·exact .inl h
 ·right
  have h : c = 0 := h
  omega
theorem Zmf (S : Sig GG) (hS : JtSig S) : ZcQ S ZkU := by
 refine ZaR S fun T w0 ρ h hu hp hd hr hpre => ?_
 have hT := hS.of hu hp
 have e1 : hpDen T ρ w0 ZkU.pre = Zd ((hC 0 0).den T ρ w0) (Zd ((bkC (ai 6) xX).den T ρ w0) emp) := rfl
 have r0 := hr (eLe z0 (ai 6)) (by simp [ZkU])
 rw [Ze] at r0
 have r0 : 0 <= ((ai 6).den T ρ).tI := r0
 rw [e1, Zk2 hT, ZpX, if_neg (by omega), Zi] at hpre
 obtain ⟨p, q, d, rfl, hpp, ma, kb, kc, ob, oc, R, hq⟩ := hpre
 have hX0 : ∀ ρ : Go.Eng.Env GG, (xX.den T ρ).tR = ((rA 4).den T ρ).tR.take (ρ 2).tI.toNat := fun _ => rfl
 generalize hx : (xX.den T ρ).tR = X at hq
 let ρ' : Go.Eng.Env GG := (((((ρ.upd 7 (.int ma)).upd 8 (.int kb)).upd 9 (.int kc)).upd 10 (.int ob)).upd 11 (.int oc)).upd 12 (.rows R)
 have hlow : ∀ i, i < 7 -> ρ' i = ρ i := fun i hi => by
  show ((((((ρ.upd 7 (.int ma)).upd 8 (.int kb)).upd 9 (.int kc)).upd 10 (.int ob)).upd 11 (.int oc)).upd 12 (.rows R)) i = ρ i
  simp only [Env.upd]
  repeat rw [if_neg (by omega)]
 have hx' : (xX.den T ρ').tR = X := by rw [<- hx]; rfl
 have hL : ((Zk xX).den T ρ').tI.toNat = X.length := by
  show ((((xX.den T ρ').tR.length : Nat) : Int)).toNat = _
  rw [hx']; omega
 have hL2 : ((Zk xX).den T ρ').tI = (X.length : Nat) := by
  show (((xX.den T ρ').tR.length : Nat) : Int) = _
  rw [hx']
 have w1 : (bG.den T ρ') = .g (.tx (ZV X X.length).txs) := by
  have : (bG.den T ρ') = U.co T .g (T.usr 561 (xX.den T ρ') ((Zk xX).den T ρ') (z0.den T ρ') (z0.den T ρ')) := rfl
  rw [this, hT.u561, hL, hx']; rfl
 have w2 : (wM (rA 12) bG).den T ρ' = .amap (Zei R (ZV X X.length).txs) := by
  have : (wM (rA 12) bG).den T ρ' = U.co T .amap (T.usr 547 ((rA 12).den T ρ') (bG.den T ρ') (z0.den T ρ') (z0.den T ρ')) := rfl
  rw [this, hT.u547, w1]; rfl
 have w3 : (bK (rA 12)).den T ρ' = .rows (Zbf R (ZV X X.length).kept) := by
  have : (bK (rA 12)).den T ρ' = U.co T .rows (T.usr 548 (xX.den T ρ') ((Zk xX).den T ρ') ((rA 12).den T ρ') (z0.den T ρ')) := rfl
  rw [this, hT.u548, hL, hx']; rfl
 have w4 : bO.den T ρ' = .rows (ZV X X.length).out := by
  have : bO.den T ρ' = U.co T .rows (T.usr 549 (xX.den T ρ') ((Zk xX).den T ρ') (z0.den T ρ') (z0.den T ρ')) := rfl
  rw [this, hT.u549, hL, hx']; rfl
 have w7 : (usI 550 xX (Zk xX) z0).den T ρ' = .int (ZV X X.length).fault := by
  have : (usI 550 xX (Zk xX) z0).den T ρ' = U.co T .int (T.usr 550 (xX.den T ρ') ((Zk xX).den T ρ') (z0.den T ρ') (z0.den T ρ')) := rfl
  rw [this, hT.u550, hL, hx']; rfl
 have w8 : (usI 551 xX (Zk xX) z0).den T ρ' = .int (ZV X X.length).what := by
  have : (usI 551 xX (Zk xX) z0).den T ρ' = U.co T .int (T.usr 551 (xX.den T ρ') ((Zk xX).den T ρ') (z0.den T ρ') (z0.den T ρ')) := rfl
  rw [this, hT.u551, hL, hx']; rfl
 have hk : (Zbf R (ZV X X.length).kept).length = (ZV X X.length).kept.length := by unfold Zbf; rw [ZGR]
 have n3 : ((Zk (bK (rA 12))).den T ρ').tI = ((ZV X X.length).kept.length : Nat) := by
  show ((((bK (rA 12)).den T ρ').tR.length : Nat) : Int) = _
  rw [w3, U.tRi, hk]
 have n4 : ((Zk bO).den T ρ').tI = ((ZV X X.length).out.length : Nat) := by
  show (((bO.den T ρ').tR.length : Nat) : Int) = _
  rw [w4, U.tRi]
 have hwf := ZeD X X.length
 refine ⟨ρ', hlow, ?_, ?_⟩
 ·have e2 : hpDen T ρ' w0 ZkU.post = Zd ((hC 0 0).den T ρ' w0) (Zd ((Ch.cel (ai 6) 0 (bkQ (ai 7) (ai 8) (Zk (bK (rA 12))) (ai 9) (ai 10) (Zk bO) (ai 11) (usI 550 xX (Zk xX) z0) (usI 551 xX (Zk xX) z0))).den T ρ' w0) (Zd ((imC (ai 7) (wM (rA 12) bG)).den T ρ' w0)
   (Zd ((pAr (ai 8) (bK (rA 12)) (ai 9)).den T ρ' w0) (Zd ((rAr (ai 10) bO (ai 11)).den T ρ' w0) (Zd (T.prd 100 w0 ((rA 12).den T ρ') (bG.den T ρ')) emp))))) := rfl
  rw [e2, Zut, ZqX, Zre, Zii, Zi, hT.p100, n3, n4, w1, w2, w3, w4, w7, w8]
  refine ⟨p, q, d, rfl, hpp, ?_⟩
  simp only [U.tRi, U.tMi, U.tIi, ZT]
  exact hq
 ·obtain ⟨_, _, _, hq⟩ := ZdA hq
  obtain ⟨_, _, hm, hq⟩ := ZdA hq
  obtain ⟨_, _, hka, hq⟩ := ZdA hq
  obtain ⟨_, _, hoa, ht⟩ := ZdA hq
  have k1 := Zpd (by decide) hka
  have k2 := Zpd (by decide) hoa
  have hl := Za0 ht
  rw [hk] at k1
  have p50' : ∀ a b c d : SX, ((Go.Eng.SX.f2 50 (eLe a b) (.f2 45 c d)).den T ρ').tP = ((a.den T ρ').tI <= (b.den T ρ').tI \/ (c.den T ρ').tI = (d.den T ρ').tI) := fun a b c d => by
   have e : (Go.Eng.SX.f2 50 (eLe a b) (.f2 45 c d)).den T ρ' = ap2 50 ((eLe a b).den T ρ') (ap2 45 (c.den T ρ') (d.den T ρ')) := rfl
   have e2 := Ze T ρ' a b
   have e3 : (((eLe a b).den T ρ').toBool = true) = ((a.den T ρ').tI <= (b.den T ρ').tI) := by
    have h1 := Zfb T ρ' a b
    rw [h1, U.tQi, decide_eq_true_eq]
   rw [e, p50, e3, Znq, U.tQi, beq_iff_eq]
  have a7 : ((ai 7).den T ρ').tI = ma := rfl
  have a8 : ((ai 8).den T ρ').tI = kb := rfl
  have a9 : ((ai 9).den T ρ').tI = kc := rfl
  have a10 : ((ai 10).den T ρ').tI = ob := rfl
  have a11 : ((ai 11).den T ρ').tI = oc := rfl
  have az : (z0.den T ρ').tI = 0 := rfl
  intro x hx
  simp only [ZkU, List.mem_cons, List.not_mem_nil, or_false] at hx
  rcases hx with rfl | rfl | rfl | rfl | rfl | rfl | rfl | rfl | rfl
  ·rw [Ze, a7, az]; exact hm.1
  ·rw [Ze, n3, a9]; exact k1.1
  ·rw [p50', n3, a8, az]; exact k1.2
  ·rw [Ze, n4, a11]; exact k2.1
  ·rw [p50', n4, a10, az]; exact k2.2
  ·have : (usB 558 (rA 12) bG z0).den T ρ' = U.co T .bool (T.usr 558 ((rA 12).den T ρ') (bG.den T ρ') (z0.den T ρ') (z0.den T ρ')) := rfl
   rw [this, hT.u558, w1, YP, U.tQi, U.tPi, Zh]
   exact ⟨hl, (ZfV ht).1, (ZfV ht).2⟩
  ·have : (usB 560 (bK (rA 12)) (rA 12) z0).den T ρ' = U.co T .bool (T.usr 560 ((bK (rA 12)).den T ρ') ((rA 12).den T ρ') (z0.den T ρ') (z0.den T ρ')) := rfl
   rw [this, hT.u560, w3, YP, U.tQi, U.tPi, Zh]
   exact Zkt fun k hk => by have := hwf.ki k hk; omega
  ·rw [Ze, n3, hL2]; have := hwf.kl; omega
  ·rw [Ze, n4, hL2]; have := hwf.ol; omega
/-! ### Serial -/
theorem ZgX {x : List Ent} (hc : ZaA x = 0) (hf : 0 <= (ZV x x.length).fault) : 0 <= (ZaB x x.length).1 := by
 have hm : ∀ i < x.length, ZbX (xa x i) = true := by
  unfold ZaA at hc
  split at hc
  ·cases hc
  ·split at hc
   ·rename_i q
    unfold Zih at q
    rw [Zh] at q; exact q
   ·cases hc
 obtain ⟨r1, r2⟩ := Zhg x x.length hm
 exact Classical.byContradiction fun q => by
  have := (r1 ⟨q, hm⟩).ft
  omega
theorem ZuE {x : List Ent} {B : Bk} (h : Go x B) : ¬ 0 <= (ZaB x x.length).1 := h.nf.1
def prE : En := .rows [.slice 1, .slice 1]
def pAr2 (b x c : SX) : Ch := .arr prE b x c
def prC (R W : SX) : Ch := .prd 110 R W
theorem ZmU : ∀ {R W : List (List Int)} {h : Hl}, prH R W h -> R.length = W.length
 | [], [], _, _ => rfl
 | r :: R, w :: W, h, hp => by
  obtain ⟨_, _, _, _, _, hb⟩ := hp
  rw [ZG1, ZG1, ZmU hb]
 | [], _ :: _, _, hp => hp.elim
 | _ :: _, [], _, hp => hp.elim
theorem ZuD : ∀ {R W : List (List Int)} (R' W' : List (List Int)), R.length = W.length -> prH (R ++ R') (W ++ W') = Zd (prH R W) (prH R' W')
 | [], [], R', W', _ => by show prH R' W' = Zd emp _; rw [emp_star]
 | r :: R, w :: W, R', W', h => by
  show Zd _ (prH (R ++ R') (W ++ W')) = Zd (Zd _ _) _
  rw [ZuD R' W' (by simpa using h), star_assoc]
theorem ZuZ (r w : List Int) : prH [r] [w] = itP r w := by show Zd _ emp = _; rw [Zi]
def ZDv : Ctr := ⟨[], [], [], [], [], .tup [], [prC ZgO ZgO], []⟩
def Zxi : Ctr := ⟨[.int, .int, .int, .int, .int, .int, .rows, .rows, .bytes, .bytes], [.one (slC (ai 0) (ai 1) (ai 2) 1), .one (slC (ai 3) (ai 4) (ai 5) 1)], [prC (rA 6) (rA 7), bAr (ai 0) (bA 8) (ai 2), bAr (ai 3) (bA 9) (ai 5)],
 [.f2 45 (ai 1) (ZyQ (bA 8)), .f2 45 (ai 4) (ZyQ (bA 9)), eLe (ai 1) (ai 2), eLe (ai 4) (ai 5), eLe z0 (ai 0), eLe z0 (ai 3)], [], .tup [],
 [prC (.f2 121 (rA 6) (.f2 124 (ZeQ (ai 0) (ai 1) (ai 2) (ai 3) (ai 4) (ai 5)) ZgO)) (.f2 121 (rA 7) (.f2 124 (Zbt (.f1 35 (bA 8)) (.f1 35 (bA 9))) ZgO))], []⟩
theorem ZrZ (S : Sig GG) (hS : FiSig S) : ZcQ S ZDv := by
 refine ZaR S fun T w0 ρ h hu hp hd hr hpre => ⟨ρ, Ext.refl _ _, ?_, by intro x hx; exact nomatch hx⟩
 have hT := hS.p110
 rw [<- hp] at hT
 have e1 : hpDen T ρ w0 ZDv.pre = emp := rfl
 have e2 : hpDen T ρ w0 ZDv.post = Zd (T.prd 110 w0 (ZgO.den T ρ) (ZgO.den T ρ)) emp := rfl
 rw [e1] at hpre
 rw [e2, Zi, hT]
 exact hpre
theorem ZmM {G : Type} {S : Sig G} {ρ : Go.Eng.Env G} {a b : SX} (h : ((SX.f2 45 a b).den S ρ).tP) : (a.den S ρ).tI = (b.den S ρ).tI := by
 have h : (ap2 45 (a.den S ρ) (b.den S ρ)).tP := h
 rw [p45] at h; exact h
theorem ZFJ (S : Sig GG) (hS : FiSig S) : ZcQ S Zxi := by
 refine ZaR S fun T w0 ρ h hu hp hd hr hpre => ⟨ρ, Ext.refl _ _, ?_, by intro x hx; exact nomatch hx⟩
 have hT := hS.p110
 rw [<- hp] at hT
 have e1 : hpDen T ρ w0 Zxi.pre = Zd (T.prd 110 w0 ((rA 6).den T ρ) ((rA 7).den T ρ)) (Zd (bAD (ρ 0).tI (ρ 8).tB (ρ 2).tI) (Zd (bAD (ρ 3).tI (ρ 9).tB (ρ 5).tI) emp)) := rfl
 have e2 : hpDen T ρ w0 Zxi.post = Zd (T.prd 110 w0 ((SX.f2 121 (rA 6) (.f2 124 (ZeQ (ai 0) (ai 1) (ai 2) (ai 3) (ai 4) (ai 5)) ZgO)).den T ρ) ((SX.f2 121 (rA 7) (.f2 124 (Zbt (.f1 35 (bA 8)) (.f1 35 (bA 9))) ZgO)).den T ρ)) emp := rfl
 have q0 := ZmM (hr (.f2 45 (ai 1) (ZyQ (bA 8))) (by simp [Zxi]))
 have q1 := ZmM (hr (.f2 45 (ai 4) (ZyQ (bA 9))) (by simp [Zxi]))
 have q2 := hr (eLe (ai 1) (ai 2)) (by simp [Zxi])
 have q3 := hr (eLe (ai 4) (ai 5)) (by simp [Zxi])
 have q4 := hr (eLe z0 (ai 0)) (by simp [Zxi])
 have q5 := hr (eLe z0 (ai 3)) (by simp [Zxi])
 rw [Ze] at q2 q3 q4 q5
 simp only [SX.den, ai, z0, ZyQ, bA, ZzS, ZU, ZnC, U.tIi, U.tBi] at q0 q1 q2 q3 q4 q5
 rw [e1, Zi, hT] at hpre
 have k0 : ((rA 6).den T ρ).tR = (ρ 6).tR := rfl
 have k1 : ((rA 7).den T ρ).tR = (ρ 7).tR := rfl
 rw [k0, k1] at hpre
 have hl : (ρ 6).tR.length = (ρ 7).tR.length := by
  obtain ⟨_, _, _, _, ha, _⟩ := hpre; exact ZmU ha
 have k2 : ((SX.f2 121 (rA 6) (.f2 124 (ZeQ (ai 0) (ai 1) (ai 2) (ai 3) (ai 4) (ai 5)) ZgO)).den T ρ).tR = (ρ 6).tR ++ [[(ρ 0).tI, (ρ 1).tI, (ρ 2).tI, (ρ 3).tI, (ρ 4).tI, (ρ 5).tI]] := rfl
 have k3 : ((SX.f2 121 (rA 7) (.f2 124 (Zbt (.f1 35 (bA 8)) (.f1 35 (bA 9))) ZgO)).den T ρ).tR = (ρ 7).tR ++ [[((Zq (ρ 8).tB : Nat) : Int), ((Zq (ρ 9).tB : Nat) : Int)]] := rfl
 rw [e2, Zi, hT, k2, k3, ZuD _ _ hl, ZuZ]
 refine Zx (fun _ h => h) (fun h' hh => ⟨?_, ?_⟩) h hpre
 ·unfold itF txt tx1
  simp only [g0, g1, g2, List.getD_cons_zero, List.getD_cons_succ, ZGO, Zn]
  exact ⟨q0, q1, q2, q3, q4, q5⟩
 ·unfold txt tx1
  simp only [g0, g2, List.getD_cons_zero, List.getD_cons_succ, ZGO, Zn]
  exact hh
theorem Zzj {α : Type} [DecidableEq α] : ∀ {a b : List α}, a.Nodup -> (∀ x ∈ a, x ∈ b) -> a.length <= b.length
 | [], b, _, _ => Nat.zero_le _
 | x :: a, b, h, hs => by
  rw [List.nodup_cons] at h
  have hx : x ∈ b := hs x ZGP
  have ih : a.length <= (b.erase x).length := Zzj h.2 fun y hy => (List.mem_erase_of_ne (fun e => h.1 (by rw [<- e]; exact hy))).2 (hs y (ZGN _ hy))
  have hp : 0 < b.length := List.length_pos_of_mem hx
  rw [List.length_erase_of_mem hx] at ih
  rw [ZG1]; omega
theorem ZzH {x : List Ent} {B : Bk} (h : Go x B) (key : List UInt8) : ∀ k ≤ B.kept.length, (stF B k (Zq key : Nat)).1 = true -> ∃ i < x.length, ZJ (xa x i) = key
 | 0, _, e => by cases e
 | k + 1, hk, e => by
  obtain ⟨t1, t2⟩ := h.tx (h.kt (k := k) (by omega))
  have hc := Zr4 t2 h.nf key
  rw [<- t1] at hc
  have e1 : stF B (k + 1) (Zq key : Nat) = if Zt (B.txs.getD (B.kept.getD k 0) tx0).ch (Zq key : Nat) = true then (true, vw (Yr 0 (B.txs.getD (B.kept.getD k 0) tx0).ch (Zq key : Nat))) else stF B k (Zq key : Nat) := rfl
  rw [e1] at e
  by_cases hm : Zt (B.txs.getD (B.kept.getD k 0) tx0).ch (Zq key : Nat) = true
  ·rw [hc.1] at hm
   have hl := Zna (of_decide_eq_true hm)
   exact ⟨_, hl.1, hl.2⟩
  ·rw [if_neg hm] at e
   exact ZzH h key k (by omega) e
theorem ZBR {x : List Ent} {B : Bk} (h : Go x B) {m : List (Int × Int)} (hm : Zgt m (stF B B.kept.length)) (hc : canM m) : m.length <= x.length := by
 have h1 : (m.map (·.1)).length <= ((List.range x.length).map fun i => ((Zq (ZJ (xa x i)) : Nat) : Int)).length := by
  refine Zzj hc.1 fun k hk => ?_
  have hh : Zt m k = true := ZpB.2 hk
  obtain ⟨p, hp, rfl⟩ := List.mem_map.1 hk
  obtain ⟨s, hs⟩ := hc.2 p hp
  rw [hs] at hh ⊢
  have a := hm (Zq s : Nat)
  rw [hh] at a
  obtain ⟨i, hi, e⟩ := ZzH h s _ (ZGx _) a.1.symm
  exact List.mem_map.2 ⟨i, List.mem_range.2 hi, by rw [e]⟩
 simpa using h1
theorem ZmJ {x : List Ent} (h : Ziw x ≠ 0) : finR' x = [] := by unfold finR'; rw [if_neg h]
theorem Zxu {x : List Ent} (h : Ziw x = 0) : finR' x = ZFy x := by unfold finR'; rw [if_pos h]
theorem ZzW (m : List (Int × Int)) (R : List (List Int)) (n : Nat) : ZiZ (mvF m) R (n + 1) = if (Yr 0 m (Zq (Za6 ((R.getD n []).getD 0 0).toNat) : Nat)).tmod 2 = 0 then
  ZiZ (mvF m) R n ++ [[((Zq (Za6 ((R.getD n []).getD 0 0).toNat) : Nat) : Int), ((Zq (Za6 ((Yr 0 m (Zq (Za6 ((R.getD n []).getD 0 0).toNat) : Nat)).tdiv 2).toNat) : Nat) : Int)]] else ZiZ (mvF m) R n := by
 show (if decide ((Yr 0 m (Zq (Za6 ((R.getD n []).getD 0 0).toNat) : Nat)).tmod 2 = 0) = true then _ else _) = _
 by_cases h : (Yr 0 m (Zq (Za6 ((R.getD n []).getD 0 0).toNat) : Nat)).tmod 2 = 0
 ·rw [if_pos h, if_pos (decide_eq_true h)]; rfl
 ·rw [if_neg h, if_neg (by rw [decide_eq_true_eq]; exact h)]
theorem Zs1 (f : Kf) (R : List (List Int)) : ∀ n, (ZiZ f R n).length <= n
 | 0 => ZGx _
 | n + 1 => by
  have ih := Zs1 f R n
  unfold ZiZ
  split
  ·rw [ZGM, ZGv]; omega
  ·omega
theorem ZEN {x : List Ent} (h : ZaA x ≠ 0) : Ziw x = ZaA x := by unfold Ziw; rw [if_pos h]
def finW : SX := usR 603 xX z0 z0
def Zo7 : Ctr := ⟨hA, [.one (hS 0)], [hC 0 0], [eLe z0 (ai 2), eLe (ai 2) (Zk (rA 4)), eLe (ai 2) (ai 3), eLe (ai 2) (.int 9223372036854775807)], [.int, .rows, .int, .int], .tup [(false, [slC (ai 6) (Zk (rA 7)) (ai 8) 2]), (false, [.int .i64 (ai 9)])],
 [hC 0 0, pAr2 (ai 6) (rA 7) (ai 8), prC (rA 7) finW], [.f2 45 (ai 9) (usI 604 xX z0 z0), .f2 45 (Zk (rA 7)) (Zk finW), eLe (Zk (rA 7)) (ai 8), .f2 50 (eLe z0 (ai 6)) (.f2 45 (Zk (rA 7)) z0)]⟩
def fnkI (m R : Nat) : Inv := ⟨[.int, .amap], [(34, .one (.int .i64 (di 0)))], [scC (ai m) (mA 1000001)], [eLe z0 (di 0), eLe (di 0) (Zk (bK (rA R))), usB 596 xX (di 0) (mA 1000001)], .f2 41 (Zk (bK (rA R))) (di 0)⟩
def fnK (m : Nat) : SX := usR 601 (mA m) z0 z0
def fnoI (m : Nat) : Inv := ⟨[.int, .int, .rows, .int], [(48, .one (.int .i64 (di 0))), (9, .one (slC (di 1) (Zk (rA 1000002)) (di 3) 2))], [pAr2 (di 1) (rA 1000002) (di 3), prC (rA 1000002) (usR 602 (mA m) (fnK m) (di 0))],
 [eLe z0 (di 0), eLe (di 0) (Zk (fnK m)), .f2 45 (Zk (rA 1000002)) (Zk (usR 602 (mA m) (fnK m) (di 0))), eLe (Zk (rA 1000002)) (di 3), .f2 50 (eLe z0 (di 1)) (.f2 45 (Zk (rA 1000002)) z0)], .f2 41 (Zk (fnK m)) (di 0)⟩
def ZGk : Cx := { specs := [(17, [ZkR]), (25, [ZkG]), (26, [ZwM])], anns := [(8, [(3, .ghost ZDv []), (4, .ghost ZkU [.tmp 0, .tmp 4]), (5, .ghost ZDv []), (8, .inv (fnkI 14 13)), (10, .ghost Zpi [.tmp 8]), (500010, .ghost Zi0 [.tmp 8]), (12, .ghost ZDv []), (13, .ghost canC [.tmp 6]), (14, .inv (fnoI 16)), (500018, .ghost Zxi [.tmp 60, .tmp 63])])] }
def ZeR : SX := .f2 115 (r 4) (a 2)
def ZCE : SX := l z (a 6)
def ZyD : SX := e (a 7) z
def Zxn : SX := v 604 ZeR
def ZxG : SX := vR 603 ZeR
def ZBr : SX := .f1 32 ZxG
def ZCw : SX := e z ZBr
def ZBe : SX := .f2 155 ZxG (.f1 154 z)
def Zlh : SX := .f1 32 ZeR
def ZxT : SX := hR0 548 ZeR Zlh (r 13)
def ZcS : SX := .f1 32 ZxT
def ZnJ : SX := .f1 32 (wR 549 ZeR Zlh)
def Zg3 : SX := f 561 ZeR Zlh
def ZrP : SX := d 550 ZeR Zlh
def ZnR : SX := .f3 112 ZxT (a 15) z
def Zb0 : SX := d 566 (r 13) ZnR
def ZsA : SX := .f3 112 (r 13) Zb0 z
def Zq3 : SX := v 552 Zg3
def Ztk : SX := .f1 32 (wR 545 Zg3 Zb0)
def ZtT : SX := .f1 30 (wN 546 Zg3 Zb0)
def Zhk : SX := .f2 40 (a 15) (k 1)
def Zsh : SX := .f2 41 ZcS Zhk
def ZhF : SX := vR 601 (m 16)
def ZeH : SX := .f1 32 ZhF
def Zu2 : SX := wR 602 (m 16) ZhF
def ZjN : SX := hR0 602 (m 16) ZhF (a 19)
def Zuh : SX := .f1 36 (.f3 112 ZhF (a 19) z)
def Zwo : SX := .f1 35 Zuh
def ZtC : SX := .f3 140 z (m 16) Zwo
def ZrB : SX := e (.f2 44 ZtC (k 2)) z
def ZoV : SX := .f1 31 Zuh
def ZrO : SX := .f1 36 (.f2 43 ZtC (k 2))
def Zn0 : SX := .f1 31 ZrO
def Zke : SX := .f2 40 (.f1 32 (r 21)) (k 1)
def Zhb : SX := .f2 40 (a 19) (k 1)
def Zse : SX := .f1 23 Zhb
def Zs6 : SX := .f2 41 ZeH Zhb
def Zss : SX := l z Zs6
def ZuS : SX := t Zs6 (.f2 41 ZeH (a 19))
def ZqN : SX := l z Zhb
def Zxa : SX := l Zhb ZeH
def ZoJ : SX := hR0 602 (m 16) ZhF Zhb
def Zs7 : SX := .f1 32 ZoJ
def ZFV : VC := i (l z (a 2)) (i (l (a 2) (.f1 32 (r 4))) (i (l (a 2) (a 3)) (i (l (a 2) (k 9223372036854775807)) (u 6 .int (u 7 .int (i (e (a 7) (v 523 ZeR)) (i (.f2 48 ZCE ZyD) (.and (i (.f1 2 ZyD) (n (e (a 7) Zxn) (n ZCw (n ZBe .tt)))) (i ZyD (n ZCE (u 8 .int (u 9 .int (u 10 .int (u 11 .int (u 12 .int (u 13 .rows (i (l z (a 8)) (i (l ZcS (a 10)) (i (.f2 50 (l z (a 9)) (e ZcS z)) (i (l ZnJ (a 12)) (i (.f2 50 (l z (a 11)) (e ZnJ z)) (i (c 558 (r 13) Zg3) (i (c 560 ZxT (r 13)) (i (l ZcS Zlh) (i (l ZnJ Zlh) (.and (i (l z ZrP) (n (e (k 280) Zxn) (n ZCw (n ZBe .tt)))) (i (t ZrP z) (u 14 .int (i (l z (a 14)) (n (y 596 ZeR z (.f1 155 z)) (u 15 .int (u 16 .amap (i (l z (a 15)) (i (l (a 15) ZcS) (i (y 596 ZeR (a 15) (m 16)) (.and (i (t (a 15) ZcS) (n (c 565 (r 13) ZnR) (i (e ZnR ZsA) (i (t Zb0 Zq3) (i (l Ztk (.f3 112 (r 13) Zb0 (k 3))) (i (l ZtT (.f3 112 (r 13) Zb0 (k 5))) (i (.f2 50 (l z (.f3 112 (r 13) Zb0 (k 2))) (e Ztk z)) (i (.f2 50 (l z (.f3 112 (r 13) Zb0 (k 4))) (e ZtT z)) (i (l z (.f3 112 (r 13) Zb0 (k 1))) (i (l z ZsA) (i (e (.f1 32 (r 13)) Zq3) (u 17 .amap (i (y 531 (m 16) (wM0 544 Zg3 Zb0) (m 17)) (n (l z Zb0) (n (.f1 23 Zhk) (n (l z Zsh) (n (t Zsh (.f2 41 ZcS (a 15))) (n (l z Zhk) (n (l Zhk ZcS) (n (y 596 ZeR Zhk (m 17)) .tt)))))))))))))))))))) (i (l ZcS (a 15)) (i (p 606 (m 16)) (n (l (.f1 33 (m 16)) (k 1048576)) (u 17 .int (u 18 .int (i (l ZeH (a 18)) (n (e z (.f1 32 Zu2)) (n (.f2 155 Zu2 (.f1 154 z)) (u 19 .int (u 20 .int (u 21 .rows (u 22 .int (i (l z (a 19)) (i (l (a 19) ZeH) (i (e (.f1 32 (r 21)) (.f1 32 ZjN)) (i (l (.f1 32 (r 21)) (a 22)) (i (.f2 50 (l z (a 20)) (e (.f1 32 (r 21)) z)) (.and (i (t (a 19) ZeH) (u 23 .int (i (l z (a 23)) (.and (i ZrB (u 24 .int (u 25 .int (i (l ZoV (a 25)) (i (l z (a 24)) (u 26 .int (u 27 .int (i (l Zn0 (a 27)) (i (l z (a 26)) (u 28 .int (i (l z (a 28)) (n (l (.f1 32 (r 21)) (.f1 32 (r 21))) (n (l (.f2 42 Zke (k 48)) k1) (u 29 .int (u 30 .int (i (l Zke (a 30)) (i (.f2 50 (l z (a 29)) (e Zke z)) (n (e ZoV ZoV) (n (e Zn0 Zn0) (n Zse (n Zss (n ZuS (n ZqN (n Zxa (n (e Zke Zs7) (n (.f2 155 ZoJ (.f2 121 ZjN (.f2 124 (.f2 122 Zwo (.f2 122 (.f1 35 ZrO) (.f1 152 z))) (.f1 154 z)))) .tt)))))))))))))))))))))))))) (i (.f1 2 ZrB) (n Zse (n Zss (n ZuS (n ZqN (n Zxa (n (e (.f1 32 (r 21)) Zs7) (n (.f2 155 ZoJ ZjN) .tt)))))))))))) (i (l ZeH (a 19)) (n (e z Zxn) (n (e (.f1 32 (r 21)) ZBr) (n (.f2 155 ZxG ZjN) .tt))))))))))))))))))))))))))))))))))))))))))))))))))))))))))
theorem ZEi : Zb4 Try.prog ZGk 12 8 Zo7 = ZFV := by kernel_rfl
theorem ZzI (S : Sig GG) (hS : FiSig S) : ZH S Try.prog 8 Zo7 := by
 refine Zp S (C := ZGk) (fuel := 12) (Zab ⟨Zm (by decide) (Zvg S hS.js.jt), Zm (by decide) (Zt2 S hS.js.jt.jb), Zm (by decide) (ZGq S hS), trivial⟩ ⟨⟨⟨by decide, ZrZ S hS⟩, ⟨by decide, Zmf S hS.js.jt⟩, ⟨by decide, ZrZ S hS⟩, trivial, ⟨by decide, Zcs S hS.js.jt⟩, ⟨by decide, Zcg S hS.js.jt⟩, ⟨by decide, ZrZ S hS⟩, ⟨by decide, ZFE S hS⟩, trivial, ⟨by decide, ZFJ S hS⟩, trivial⟩, trivial⟩ trivial) fun ρ => ?_
 rw [ZEi]
 simp only [ZFV, ZeR, ZCE, ZyD, Zxn, ZxG, ZBr, ZCw, ZBe, Zlh, ZxT, ZcS, ZnJ, Zg3, ZrP, ZnR, Zb0, ZsA, Zq3, Ztk, ZtT, Zhk, Zsh, ZhF, ZeH, Zu2, ZjN, Zuh, Zwo, ZtC, ZrB, ZoV, ZrO, Zn0, Zke, Zhb, Zse, Zs6, Zss, ZuS, ZqN, Zxa, ZoJ, Zs7, hS.js.jt.jb.rf.u523, hS.js.jt.jb.u531, hS.js.jt.u544, hS.js.jt.u545, hS.js.jt.u546, hS.js.jt.u548, hS.js.jt.u549, hS.js.jt.u550, hS.js.jt.u552, hS.js.jt.u558, hS.js.jt.u560, hS.js.jt.u561, hS.js.jt.u565, hS.js.jt.u566, hS.js.u596, hS.u601, hS.u602, hS.u603, hS.u604, hS.u606, ZT, ZGO, VC.den, SX.den, Env.upd, Y3, ZY, beq_iff_eq, ZGG, beq_eq_false_iff_ne, ne_eq, ZGF, ZGE, Int.reduceToNat, Nat.reduceEqDiff, reduceIte, sB]
 generalize hX : (ρ 4).tR.take (ρ 2).tI.toNat = X
 generalize hlen : (ρ 2).tI = l at *
 intro h1 h2 h3 h4
 have hl : l = (X.length : Nat) := by rw [<- hX, ZGJ]; omega
 subst hl
 clear hX hlen
 simp only [ZGO, ZiY]
 intro b e he hb
 have hpl : ∀ (R : List (List Int)) (ks : List Nat), (Zbf R ks).length = ks.length := fun R ks => by unfold Zbf; rw [ZGR]
 simp only [hpl, Ziv, Zfg, ZGO]
 refine ⟨fun hne => ?_, fun h0 => ⟨?_, ?_⟩⟩
 ·have hn : ZaA X ≠ 0 := by rw [<- he]; exact hne
  have hf := ZEN hn
  exact ⟨by rw [hf]; exact he, by rw [ZmJ (by rw [hf]; exact hn)]; rfl, ZmJ (by rw [hf]; exact hn), trivial⟩
 ·rw [h0] at hb; exact Za.1 (by rw [hb]; rfl)
 have hc : ZaA X = 0 := by rw [<- he]; exact h0
 intro ma kb kc ob oc R q1 q2 q3 q4 q5 q6 q7 q8 q9
 refine ⟨fun hf => ?_, fun hf => ?_⟩
 ·have hT := ZkM hc hf
  have hg : Ziw X = 280 := by
   have ht : 0 <= (ZaB X X.length).1 := ZgX hc hf
   unfold Ziw; rw [if_neg (by rw [hc]; exact fun h => h rfl), if_pos ht]
  have hb : finR' X = [] := ZmJ (by rw [hg]; omega)
  exact ⟨hg.symm, by rw [hb]; rfl, hb, trivial⟩
 have hgo : Go X (ZV X X.length) := ZAl hc hf
 have h400 := ZfF hc
 have hE : Ziw X = 0 := by
  have ht : ¬ 0 <= (ZaB X X.length).1 := ZuE hgo
  unfold Ziw; rw [if_neg (by rw [hc]; exact fun h => h rfl), if_neg ht]
 rw [Zxu hE]
 have hkept : ∀ n < (ZV X X.length).kept.length, (ZV X X.length).kept.getD n 0 < R.length := fun n hn => by rw [q6.1]; exact (hgo.kw hn).1
 have hmst := @Zn4 (ZV X X.length)
 have hnl := fun m hm hcn => ZBR hgo (m := m) hm hcn
 have hfe := fun m hm hcn => ZEg hgo (m := m) hm hcn
 generalize ZV X X.length = B at *
 intro nb hnb
 refine ⟨map_nil B, fun k M j1 j2 j3 => ?_⟩
 obtain ⟨n, rfl⟩ := ZGz j1
 have en : ((n : Int) + 1).toNat = n + 1 := by omega
 simp only [ZGO, en] at j3 ⊢
 refine ⟨fun hn => ?_, fun hn => ?_⟩
 ·have hn : n < B.kept.length := by omega
  have hJ := hkept n hn
  have hri := ZaG q6.2.1 hJ
  simp only [Zv8 hn, hri, Zci]
  refine ⟨⟨_, hJ, rfl⟩, fun _ _ _ _ _ _ _ _ _ M' hl => ⟨by omega, ⟨by omega, by omega⟩, by omega, by omega, by omega, by omega, hmst j3 rfl hl, trivial⟩⟩
 ·have hn : n = B.kept.length := by omega
  subst hn
  refine fun hcn => ⟨by have := hnl M j3 hcn; omega, fun kb' kc' p1 => ⟨rfl, rfl, fun i ob' R' oc' g1 g2 g3 g4 g5 => ?_⟩⟩
  have hfin := hfe M j3 hcn
  have hml := hnl M j3 hcn
  have hkl := Zn8 M
  obtain ⟨m, rfl⟩ := ZGz g1
  have em : ((m : Int) + 1).toNat = m + 1 := by omega
  simp only [ZGO, em] at g3 ⊢
  have hst := ZzW M (Zqg M) m
  refine ⟨fun hm _ _ => ⟨fun hd _ _ _ _ _ _ _ _ _ _ => ⟨by omega, ?_, fun _ _ _ _ => ?_⟩, fun hd => ?_⟩, fun hm => ?_⟩
  ·have := Zs1 (mvF M) (Zqg M) m
   omega
  ·rw [if_pos hd] at hst
   rw [hst]
   exact ⟨trivial, trivial, ⟨by omega, by omega⟩, by omega, by omega, by omega, by omega, by simp; omega, rfl, trivial⟩
  ·rw [if_neg hd] at hst
   rw [hst]
   exact ⟨⟨by omega, by omega⟩, by omega, by omega, by omega, by omega, g3, rfl, trivial⟩
  ·have hm : m = (Zqg M).length := by omega
   subst hm
   rw [hfin] at g3 ⊢
   exact ⟨hE.symm, g3, rfl, trivial⟩
end
end Go.Proofs.Ytidlngnhjffepaa
namespace Go.Proofs.Ytidlngnhjffepaa.colV
open Go.RowKit Go.Maps Go.Sort Go.Shelf Go.Proofs
abbrev encPt (p : Nat) : Value := .pointer (some ⟨p, 0, none⟩)
def SeqB {α : Type} (F : Fence) (n : Nat) (P : Program) (g : Nat) (lb : Array Value) (enc : α -> Value) (S : List α -> Prop) (N : Nat) (w : World) : Prop :=
 ∀ (l : Nat) (J : List α -> World -> Prop) (W : World), Below w.heap.size w W →
  (∀ pre x W1, J pre W1 -> pre.length < N -> YieldAt F (n - 1) P l #[enc x] W1 fun e W' => e = .returned (.bool true) /\ J (pre ++ [x]) W' /\ Below w.heap.size W1 W') →
  J [] W -> CallsIn F n P g (#[.func (.yield l) #[] #[]] ++ lb) W fun e W' => (∃ v, e = .returned v) /\ ∃ xs, S xs /\ J xs W'
def ZhO : Code := (Code.region 2 #[{ dst := some 5, op := Op.assign (Operand.tmp 7), type := 66, pos := "iter.go:51", after := #[], guard := none }] false)
def Zso : Code := (Code.block 1 (Code.region 3 #[{ dst := some 8, op := Op.load 58 (Operand.tmp 2), type := 58, pos := "iter.go:52", after := #[], guard := none }, { dst := some 9, op := Op.move (Operand.tmp 5), type := 66, pos := "iter.go:52", after := #[], guard := none }, { dst := some 10, op := Op.buildSlice 58 1 #[(0, Operand.tmp 9)], type := 58, pos := "iter.go:52", after := #[{ on := 1, ground := Ground.data }], guard := none }, { dst := some 11, op := Op.call { callee := Callee.builtin Builtin.append, args := #[Operand.tmp 8, Operand.tmp 10], argTypes := #[58, 58] }, type := 58, pos := "iter.go:52", after := #[{ on := 0, ground := Ground.data }, { on := 2, ground := Ground.data }], guard := none }, { dst := none, op := Op.store 58 (Operand.tmp 2) (Operand.tmp 11), type := 0, pos := "iter.go:52", after := #[{ on := 3, ground := Ground.data }, { on := 3, ground := Ground.chain }, { on := 0, ground := Ground.phase }, { on := 1, ground := Ground.phase }, { on := 2, ground := Ground.phase }, { on := 3, ground := Ground.phase }], guard := none }] false))
def Zgl (fn : FuncId) (sv : Value) (Bs D : Nat) (st : LoopState) (pend : Option Code) : Loop :=
 { state := st, pending := pend, fn, tmps := #[.slice none 0 0, sv, .pointer (some ⟨Bs, 0, none⟩), undef, .slice none 0 0, undef, sv, undef, undef, undef, undef, undef, undef], params := #[7], assign := ZhO, body := Zso, defers := D }
structure ApAt (w0 : World) (fn : FuncId) (sv : Value) (Bs l D : Nat) (ss : List Nat) (W : World) : Prop where
 box : ∃ v, W.heap[Bs]? = some (.cells #[v] 58 (0, 0)) /\ W.ownsRow w0.heap.size 66 1 v ss.length (ss.map encPt) /\ (v = .slice none 0 0 ↔ ss = [])
 L : W.heap[l]? = some (.loop (Zgl fn sv Bs D .ready none))
 K : W.heap[D]? = some (.deferred (some []))
 below : Below w0.heap.size w0 W
theorem Z4 (W : World) (l : Nat) (o : Obj) : W.grownBy (W.putObj l o) (some l) :=
 ⟨rfl, rfl, rfl, by simp, fun k _ hk => World.putObj_heap_other (fun e => hk (by rw [e]))⟩
theorem ZeU (W : World) (b : Nat) (v : Value) : W.grownBy (W.setCell ⟨b, 0, none⟩ v) (some b) :=
 ⟨rfl, rfl, rfl, (KeepsWalks.setCell W _ v).size, fun k _ hk => Below.heap_setCell _ _ _ k (fun e => hk (by rw [e]))⟩
theorem Zay {W : World} {base : Nat} {e : TypeId} {size : Nat} {v : Value} {k : Nat} {xs : List Value} (h : W.ownsRow base e size v k xs) {j : Nat} {o : Obj} (hj : W.heap[j]? = some o) (hno : ∀ cur, o ≠ .cells cur e (0, 0)) :
  v.ownBlock = none \/ v.ownBlock ≠ some j := by
 rcases h.2 with ⟨rfl, _⟩ | ⟨g, cap, cur, rfl, _, hgb, _⟩
 ·exact .inl rfl
 ·refine .inr fun e' => ?_
  have : g = j := by simpa [Value.ownBlock] using e'
  subst this; rw [hgb] at hj; cases hj; exact hno cur rfl
theorem Zc2 {W : World} {B : Nat} {v : Value} {t : TypeId} (h : W.heap[B]? = some (.cells #[v] t (0, 0))) : W.cell? ⟨B, 0, none⟩ = some v /\ W.frozen? ⟨B, 0, none⟩ = false := by
 constructor <;> simp [World.cell?, World.frozen?, h]
theorem ZeP {W : World} {B : Nat} {v : Value} {t : TypeId} (v' : Value) (h : W.heap[B]? = some (.cells #[v] t (0, 0))) : (W.setCell ⟨B, 0, none⟩ v').heap[B]? = some (.cells #[v'] t (0, 0)) := by
 obtain ⟨hlt, hk⟩ := Array.getElem?_eq_some_iff.1 h
 show (W.heap.modify B _)[B]? = _
 rw [Array.getElem?_eq_getElem (by rw [Array.size_modify]; exact hlt), Array.getElem_modify_self, hk]
 rfl
theorem ZeV {W : World} {base : Nat} {e : TypeId} {size : Nat} {v : Value} {k : Nat} {xs : List Value} (h : W.ownsRow base e size v k xs) : ∀ (j : Nat) (o : Obj), v.ownBlock = some j -> W.heap[j]? = some o -> o.isWalk = false := by
 intro j o hj ho
 rcases h.2 with ⟨rfl, _⟩ | ⟨g, cap, cur, rfl, _, hgb, _⟩
 ·simp [Value.ownBlock] at hj
 ·have : g = j := by simpa [Value.ownBlock] using hj
  subst this; rw [hgb] at ho; cases ho; rfl
theorem Try.info66 : (Try.prog.info? 66).map (fun i => (i.zero, i.size, i.bytes)) = some (some (.pointer none), 1, 8) := by kernel_rfl
set_option maxRecDepth 100000 in
set_option maxHeartbeats 2000000 in
theorem ZCj (F : Fence) (m : Nat) (w0 : World) (fn : FuncId) (hfn : F.fn fn) (sv : Value) (Bs l D : Nat) (hBl : Bs ≠ l) (hDl : D ≠ l) (hDB : D ≠ Bs) (h0B : w0.heap.size <= Bs) (h0l : w0.heap.size <= l)
  (N : Nat) (hN : N <= maxLen) (hNb : N * 8 <= 140737488355328) (ss : List Nat) (x : Nat) (W : World) (h : ApAt w0 fn sv Bs l D ss W) (hlen : ss.length < N) :
  YieldAt F m Try.prog l #[encPt x] W fun e W' => e = .returned (.bool true) /\ ApAt w0 fn sv Bs l D (ss ++ [x]) W' /\ KeepsWalks W W' := by
 obtain ⟨i0, hi, hz0, hz1, hz2⟩ := info_parts Try.info66
 obtain ⟨v, hv, hrow, _⟩ := h.box
 refine ⟨fn, #[.slice none 0 0, sv, .pointer (some ⟨Bs, 0, none⟩), undef, .slice none 0 0, undef, sv, encPt x, undef, undef, undef, undef, undef], ZhO, Zso, by simpa [Zgl] using run_yield (P := Try.prog) (args := #[encPt x]) h.L rfl, roundIn_of_wpIn hfn ?_⟩
 have hl : l < W.heap.size := (Array.getElem?_eq_some_iff.1 h.L).1
 have hbr := run_beginRound (P := Try.prog) h.L rfl
 obtain ⟨W2, hW2⟩ : ∃ W2, W.putObj l (.loop { Zgl fn sv Bs D .ready none with state := .busy }) = W2 := ⟨_, rfl⟩
 rw [hW2] at hbr
 have hg2 : W.grownBy W2 (some l) := by rw [<- hW2]; exact Z4 _ _ _
 have hk2 : KeepsWalks W W2 := by rw [<- hW2]; exact KeepsWalks.putObj _ h.L rfl
 have hv2 : W2.heap[Bs]? = some (.cells #[v] 58 (0, 0)) := by rw [<- hW2]; exact (World.putObj_heap_other hBl).trans hv
 have hK2 : W2.heap[D]? = some (.deferred (some [])) := by rw [<- hW2]; exact (World.putObj_heap_other hDl).trans h.K
 have hL2 : W2.heap[l]? = some (.loop { Zgl fn sv Bs D .ready none with state := .busy }) := by rw [<- hW2]; exact World.putObj_heap_same hl
 have hrow2 : W2.ownsRow w0.heap.size 66 1 v ss.length (ss.map encPt) := hrow.kept hg2 (Zay hrow h.L (fun cur e => by cases e))
 have hb2 : Below w0.heap.size w0 W2 := h.below.grown hg2 h.below.size (fun k e => by cases e; exact h0l)
 obtain ⟨hc2, hf2⟩ := Zc2 hv2
 have hBlt : Bs < W2.heap.size := (Array.getElem?_eq_some_iff.1 hv2).1
 have hl2 : l < W2.heap.size := (Array.getElem?_eq_some_iff.1 hL2).1
 have hDlt : D < W2.heap.size := (Array.getElem?_eq_some_iff.1 hK2).1
 have ne_of : ∀ {j : Nat} {o : Obj}, W2.heap[j]? = some o -> (∀ cur, o ≠ .cells cur 66 (0, 0)) -> some j ≠ v.ownBlock := fun hj hno => by
  rcases Zay hrow2 hj hno with e | e
  ·rw [e]; simp
  ·exact fun e' => e e'.symm
 clear hW2
 unfold ZhO
 gi_wp2_with gi_round_op_a
 unfold Zso
 gi_wp2_with (first
  | (
   gi_at_builtin; refine wpListIn_append_own _ rfl _ _ 58 rfl w0.heap.size 66 i0 (.pointer none) 1 8 Try.underlying58 hi hz0 hz1 hz2 rfl (by decide) _ _ _ rfl (hrow2.alloc _) ⟨W2.heap.size, 0, none⟩ 1 1 [encPt x] rfl rfl (cell_one_new _ _ _) (by simp [Value.oneCell', encPt]) (by omega) (by omega) (by have := hb2.size; simp; omega) ?_; intro v' w3 hown' hg3 hnil3
   have hv3 : w3.heap[Bs]? = some (.cells #[v] 58 (0, 0)) := (hg3.block Bs (by simp; omega) (ne_of hv2 (fun cur e => by cases e))).trans ((Below.heap_alloc _ _ Bs hBlt).trans hv2)
   obtain ⟨hc3, hf3⟩ := Zc2 hv3
   obtain ⟨g', cap', cur', rfl, hbase', hgb', hr1, hr2, hr3, hr4⟩ : ∃ g' cap' cur', v' = .slice (some ⟨g', 0, none⟩) (ss.length + 1) cap' /\ w0.heap.size <= g' /\ w3.heap[g']? = some (.cells cur' 66 (0, 0)) /\ ss.length + 1 <= cap' /\ cap' <= maxLen /\ cur'.size = cap' * 1 /\ cur'.toList.take ((ss.length + 1) * 1) = ss.map encPt ++ [encPt x] := by
    rcases hown'.2 with ⟨_, h0⟩ | h'
    ·exact absurd h0 (by omega)
    ·exact h'
   go_frame)
  | gi_round_op_a)
 have hg3' : (W2.alloc (.cells #[encPt x] 66)).grownBy w3 v.ownBlock := hg3
 have hL3 : w3.heap[l]? = some (.loop { Zgl fn sv Bs D .ready none with state := .busy }) := (hg3'.block l (by simp; omega) (ne_of hL2 (fun cur e => by cases e))).trans ((Below.heap_alloc _ _ l hl2).trans hL2)
 have hK3 : w3.heap[D]? = some (.deferred (some [])) := (hg3'.block D (by simp; omega) (ne_of hK2 (fun cur e => by cases e))).trans ((Below.heap_alloc _ _ D hDlt).trans hK2)
 obtain ⟨w4, hw4⟩ : ∃ w4, w3.setCell ⟨Bs, 0, none⟩ (.slice (some ⟨g', 0, none⟩) (ss.length + 1) cap') = w4 := ⟨_, rfl⟩
 rw [hw4]
 have hg4 : w3.grownBy w4 (some Bs) := by rw [<- hw4]; exact ZeU _ _ _
 have hv4 : w4.heap[Bs]? = some (.cells #[.slice (some ⟨g', 0, none⟩) (ss.length + 1) cap'] 58 (0, 0)) := by rw [<- hw4]; exact ZeP _ hv3
 have hL4 : w4.heap[l]? = some (.loop { Zgl fn sv Bs D .ready none with state := .busy }) := (hg4.block l (Array.getElem?_eq_some_iff.1 hL3).1 (fun e => hBl (by cases e; rfl))).trans hL3
 have hK4 : w4.heap[D]? = some (.deferred (some [])) := (hg4.block D (Array.getElem?_eq_some_iff.1 hK3).1 (fun e => hDB (by cases e; rfl))).trans hK3
 have hrow4 := hown'.kept hg4 (Zay hown' hv3 (fun cur e => by cases e))
 have hl4 : l < w4.heap.size := (Array.getElem?_eq_some_iff.1 hL4).1
 have hb3 : Below w0.heap.size w0 w3 := (hb2.alloc hb2.size _).grown hg3' (by have := hb2.size; simp; omega) (fun k e => (hrow2.lt k e).1)
 have hb4 : Below w0.heap.size w0 w4 := hb3.grown hg4 hb3.size (fun k e => by cases e; exact h0B)
 have hk4 : KeepsWalks W w4 := ((hk2.trans (KeepsWalks.alloc _ _)).trans (KeepsWalks.of_grownBy hg3' (ZeV (hrow2.alloc _)))).trans (by rw [<- hw4]; exact KeepsWalks.setCell _ _ _)
 clear hw4
 refine ⟨_, _, run_endRound none hL4, rfl, ⟨⟨_, (World.putObj_heap_other hBl).trans hv4, ?_, by simp⟩, World.putObj_heap_same hl4, (World.putObj_heap_other hDl).trans hK4, hb4.grown (Z4 _ _ _) hb4.size (fun k e => by cases e; exact h0l)⟩, hk4.trans (KeepsWalks.putObj _ hL4 rfl)⟩
 have := hrow4.kept (Z4 w4 l (.loop { { Zgl fn sv Bs D .ready none with state := .busy } with state := if (none : Option Code).isNone then .ready else .done, pending := none })) (Zay hrow4 hL4 (fun cur e => by cases e))
 simpa using this
theorem ZxP {n : Nat} {w0 W W' : World} (h1 : Below n w0 W) (h2 : Below n w0 W') (h3 : W.heap.size <= W'.heap.size) : Below n W W' :=
 ⟨h2.os.trans h1.os.symm, h2.tape.trans h1.tape.symm, h2.output.trans h1.output.symm, h3, fun k hk => (h2.block k hk).trans (h1.block k hk).symm⟩
theorem ZxL (F : Fence) (m : Nat) (w0 : World) (fn : FuncId) (hfn : F.fn fn) (sv : Value) (Bs l D : Nat) (hBl : Bs ≠ l) (hDl : D ≠ l) (hDB : D ≠ Bs) (h0B : w0.heap.size <= Bs) (h0l : w0.heap.size <= l)
  (N : Nat) (hN : N <= maxLen) (hNb : N * 8 <= 140737488355328) (ss : List Nat) (x : Nat) (W : World) (h : ApAt w0 fn sv Bs l D ss W) (hlen : ss.length < N) :
  YieldAt F m Try.prog l #[encPt x] W fun e W' => e = .returned (.bool true) /\ ApAt w0 fn sv Bs l D (ss ++ [x]) W' /\ Below w0.heap.size W W' := by
 obtain ⟨f, tm, a, b, hy, hR⟩ := ZCj F m w0 fn hfn sv Bs l D hBl hDl hDB h0B h0l N hN hNb ss x W h hlen
 exact ⟨f, tm, a, b, hy, hR.mono fun e W' ⟨q1, q2, q3⟩ => ⟨q1, q2, ZxP h.below q2.below q3.size⟩⟩
set_option maxRecDepth 100000 in
set_option maxHeartbeats 2000000 in
theorem Zkb (F : Fence) (n : Nat) (h11 : F.fn 62) (hro : F.round = none) (hn : 2 <= n) (g : Nat) (lb : Array Value) (hFg : F.fn g) (eg : ∀ args w, (callFunc g args).run Try.prog w = .ok (.enter g args) w)
  (S : List Nat -> Prop) (N : Nat) (hN : N <= maxLen) (hNb : N * 8 <= 140737488355328) (w : World) (hseq : SeqB F (n - 1) Try.prog g lb encPt S N w) :
  CallsIn F n Try.prog 62 #[.slice none 0 0, .func (.func g) #[] lb] w fun e w' => ∃ (v : Value) (ss : List Nat), e = .returned v /\ S ss /\ w'.ownsRow w.heap.size 66 1 v ss.length (ss.map encPt) /\ (v = .slice none 0 0 ↔ ss = []) /\ Below w.heap.size w w' := by
 have h1 : 1 <= n := by omega
 refine callsIn_of_wp_marks Try.func62 rfl h11 ?_ hro
 simp only [Try.ntmps62, List.size_toArray, ZG1, List.length_nil, Nat.reduceAdd, Nat.reduceSub, Array.replicate_succ, Array.replicate_zero, List.push_toArray, List.append_toArray, List.nil_append, List.cons_append]
 gi_wp2
 refine wpIn_rangeFunc ?_
 intro fn hfn
 rw [hro]
 obtain ⟨W0, hW0⟩ : ∃ W0, w.alloc (.cells #[.slice none 0 0] 58) = W0 := ⟨_, rfl⟩
 have hs0 : W0.heap.size = w.heap.size + 1 := by rw [<- hW0]; simp
 have hv0 : W0.heap[w.heap.size]? = some (.cells #[.slice none 0 0] 58 (0, 0)) := by rw [<- hW0]; exact World.alloc_heap_new w _
 have hb0 : Below w.heap.size w W0 := by rw [<- hW0]; exact (Below.refl _ w).alloc (ZGx _) _
 rw [hW0]
 obtain ⟨W1, hW1⟩ : ∃ W1, (W0.alloc (.deferred (some []))).alloc (.loop (Zgl fn (.func (.func g) #[] lb) w.heap.size W0.heap.size .ready none)) = W1 := ⟨_, rfl⟩
 have hold : ∀ k, k < W0.heap.size -> W1.heap[k]? = W0.heap[k]? := fun k hk => by
  rw [<- hW1]; exact (Below.heap_alloc _ _ k (by simp; omega)).trans (Below.heap_alloc _ _ k hk)
 have hb1 : Below w.heap.size w W1 := by rw [<- hW1]; exact (hb0.alloc hb0.size _).alloc (by have := hb0.size; simp; omega) _
 have hs1 : W1.heap.size = W0.heap.size + 2 := by rw [<- hW1]; simp
 have hM : ApAt w fn (.func (.func g) #[] lb) w.heap.size (W0.heap.size + 1) W0.heap.size [] W1 :=
  ⟨⟨_, (hold w.heap.size (by omega)).trans hv0, ⟨rfl, .inl ⟨rfl, rfl⟩⟩, by simp⟩,
   by rw [<- hW1]; have := World.alloc_heap_new (W0.alloc (.deferred (some []))) (.loop (Zgl fn (.func (.func g) #[] lb) w.heap.size W0.heap.size .ready none)); rwa [World.size_alloc] at this,
   by rw [<- hW1]; exact (Below.heap_alloc _ _ _ (by simp)).trans (World.alloc_heap_new W0 _), hb1⟩
 refine ⟨W0.heap.size + 1, [{ target := .collected W0.heap.size, args := #[] }], W1, { target := .fn (.func g) lb, args := #[.func (.yield (W0.heap.size + 1)) #[] #[]] }, W1, g,
  #[.func (.yield (W0.heap.size + 1)) #[] #[]] ++ lb, W1, ?_, ?_, ?_, ?_, fun _ => h1, ?_⟩
 ·rw [<- hW1]; exact run_enterLoop_outer _ _ _ _ _
 ·simp [resolve, go_sem]
 ·intro f' hf'; simp [Target.leads] at hf'; subst hf'; exact hFg
 ·simp [invoke, go_sem, eg]
 ·refine (hseq (W0.heap.size + 1) (ApAt w fn (.func (.func g) #[] lb) w.heap.size (W0.heap.size + 1) W0.heap.size) W1 hb1
   (fun pre x W hJ hl => ZxL F (n - 1 - 1) w fn hfn _ w.heap.size (W0.heap.size + 1) W0.heap.size (by omega) (by omega) (by omega) (ZGx _) (by omega) N hN hNb pre x W hJ hl) hM).mono ?_
  rintro e W2 ⟨⟨v0, rfl⟩, ss, hS, h2⟩
  obtain ⟨v, hv, hrow, hnil⟩ := h2.box
  have hend := run_endLoop (P := Try.prog) h2.L (by simp [Zgl])
  obtain ⟨W3, hW3⟩ : ∃ W3, W2.putObj (W0.heap.size + 1) (.loop { Zgl fn (.func (.func g) #[] lb) w.heap.size W0.heap.size .ready none with state := .exhausted }) = W3 := ⟨_, rfl⟩
  rw [hW3] at hend
  have hg3 : W2.grownBy W3 (some (W0.heap.size + 1)) := by rw [<- hW3]; exact Z4 _ _ _
  have hv3 : W3.heap[w.heap.size]? = some (.cells #[v] 58 (0, 0)) := by rw [<- hW3]; exact (World.putObj_heap_other (by omega)).trans hv
  have hK3 : W3.heap[W0.heap.size]? = some (.deferred (some [])) := by rw [<- hW3]; exact (World.putObj_heap_other (by omega)).trans h2.K
  have hrow3 := hrow.kept hg3 (Zay hrow h2.L (fun cur e => by cases e))
  have hb3 : Below w.heap.size w W3 := h2.below.grown hg3 h2.below.size (fun k e => by cases e; omega)
  obtain ⟨hc3, hf3⟩ := Zc2 hv3
  clear hW3
  refine ⟨none, W3, hend, ?_⟩
  gi_wp2
  rw [<- hs0]
  refine ⟨by simp, .inl ⟨_, _, rfl, run_takeDeferred hK3, ?_⟩⟩
  exact ⟨_, results_tmp rfl _ _ _, v, ss, rfl, hS, hrow3.kept (Z4 _ _ _) (Zay hrow3 hK3 (fun cur e => by cases e)), hnil, hb3.grown (Z4 _ _ _) hb3.size (fun k e => by cases e; omega)⟩
set_option maxHeartbeats 1000000 in
theorem ZpC (F : Fence) (n : Nat) (h8 : F.fn 42) (h11 : F.fn 62) (hro : F.round = none) (hn : 3 <= n) (g : Nat) (lb : Array Value) (hFg : F.fn g) (eg : ∀ args w, (callFunc g args).run Try.prog w = .ok (.enter g args) w)
  (S : List Nat -> Prop) (N : Nat) (hN : N <= maxLen) (hNb : N * 8 <= 140737488355328) (w : World) (hseq : SeqB F (n - 1 - 1) Try.prog g lb encPt S N w) :
  CallsIn F n Try.prog 42 #[.func (.func g) #[] lb] w fun e w' => ∃ (v : Value) (ss : List Nat), e = .returned v /\ S ss /\ w'.ownsRow w.heap.size 66 1 v ss.length (ss.map encPt) /\ (v = .slice none 0 0 ↔ ss = []) /\ Below w.heap.size w w' := by
 have h1 : 1 <= n := by omega
 refine callsIn_of_wp Try.func42 rfl h8 ?_ hro
 simp only [Try.ntmps42, List.size_toArray, ZG1, List.length_nil, Nat.reduceAdd, Nat.reduceSub, Array.replicate_succ, Array.replicate_zero, List.push_toArray, List.append_toArray, List.nil_append, List.cons_append]
 gi_wp2_with (gi_at_call 62; refine (Zkb F (n - 1) h11 hro (by omega) g lb hFg eg S N hN hNb _ hseq).mono ?_; rintro e w' ⟨v, ss, rfl, hS, hrow, hnil, hb⟩)
 go_ret
 exact ⟨v, ss, rfl, hS, hrow, hnil, hb⟩
set_option maxHeartbeats 1000000 in
attribute [local go_sem] Oper.semAt_some
set_option maxRecDepth 100000 in
set_option maxHeartbeats 2000000 in
theorem Zqk (n : Nat) (hn : 1 <= n) (l Bs n₀ : Nat) (a : Option Addr) (len cap : Nat) (zs : List Nat) (hreach : len * 8 <= 140737488351232) (J : List Nat -> World -> Prop)
  (hY : ∀ pre x W, J pre W -> pre.length < len -> YieldAt Fence.wide (n - 1) Try.prog l #[encPt x] W fun e W' => e = .returned (.bool true) /\ J (pre ++ [x]) W' /\ Below n₀ W W')
  (W : World) (hBs : W.cell? ⟨Bs, 0, none⟩ = some (.slice a len cap)) (hl : len = zs.length) (hc : ∀ j (hj : j < zs.length), ∃ b, a = some ⟨b, 0, none⟩ /\ b < n₀ /\ W.cell? ⟨b, 0 + j, none⟩ = some (encPt zs[j])) (h0 : J [] W) :
  CallsIn Fence.wide n Try.prog 44 #[.func (.yield l) #[] #[], .pointer (some ⟨Bs, 0, none⟩)] W fun e W' => (∃ v, e = .returned v) /\ J zs W' := by
 refine callsIn_of_wp Try.func44 rfl trivial ?_ rfl
 simp only [Try.ntmps44, List.size_toArray, ZG1, List.length_nil, Nat.reduceAdd, Nat.reduceSub, Array.replicate_succ, Array.replicate_zero, List.push_toArray, List.append_toArray, List.nil_append, List.cons_append]
 gi_wp2
 gi_loopw [7] (fun i wr => ∃ k : Nat, k <= len /\ i = .int .i64 k /\ J (zs.take k) wr /\ Below n₀ W wr)
  (fun i _ => len - (intOf i).toNat)
 case atStart => exact ⟨0, Nat.zero_le _, rfl, h0, Below.refl _ _⟩
 case round =>
  obtain ⟨k, hk, rfl, hJs, hnx⟩ := hrel
  by_cases hlt : k < len
  ·have hkz : k < zs.length := by omega
   obtain ⟨b, rfl, hb, hcell⟩ := hc k hkz
   have hcx' : wr.cell? ⟨b, 0 + k, none⟩ = some (encPt zs[k]) := (hnx.cell (p := ⟨b, 0 + k, none⟩) hb).trans hcell
   obtain ⟨fn, tmps, assign, body, hy, hR⟩ := hY _ zs[k] wr hJs (by rw [ZGJ]; omega)
   rw [Nat.zero_add] at hcx'
   gi_wp2
   refine hR.mono ?_
   rintro e W3 ⟨rfl, hJ3, hk3⟩
   gi_wp2
   go_roundw
   case rel => exact ⟨k + 1, by omega, by simp, by rw [List.take_succ_eq_append_getElem hkz]; exact hJ3, hnx.trans hk3⟩
   case measure => simp [intOf]; omega
  ·obtain rfl : k = len := by omega
   gi_wp2
   go_end0
   rw [hl, List.take_length] at hJs
   exact ⟨⟨_, rfl⟩, hJs⟩
theorem collected (Bs : Nat) (a : Option Addr) (cap : Nat) (zs : List Nat) (hreach : zs.length * 8 <= 140737488351232) (w : World) (hB : Bs < w.heap.size) (hBs : w.cell? ⟨Bs, 0, none⟩ = some (.slice a zs.length cap))
  (hc : ∀ j (hj : j < zs.length), ∃ b, a = some ⟨b, 0, none⟩ /\ b < w.heap.size /\ w.cell? ⟨b, 0 + j, none⟩ = some (encPt zs[j])) :
  Calls Try.prog 42 #[.func (.func 44) #[] #[.pointer (some ⟨Bs, 0, none⟩)]] w fun e w' => ∃ (v : Value), e = .returned v /\ w'.ownsRow w.heap.size 66 1 v zs.length (zs.map encPt) /\ (v = .slice none 0 0 ↔ zs = []) /\ Below w.heap.size w w' := by
 refine (callsIn_wide (n := 5)).1 ?_
 have hs : SeqB Fence.wide 3 Try.prog 44 #[.pointer (some ⟨Bs, 0, none⟩)] encPt (fun ss => ss = zs) zs.length w := fun l J W hW hY h0 =>
  (Zqk 3 (by omega) l Bs w.heap.size a zs.length cap zs hreach J hY W ((hW.cell (p := ⟨Bs, 0, none⟩) hB).trans hBs) rfl (fun j hj => by
   obtain ⟨b, h1, h2, h3⟩ := hc j hj; exact ⟨b, h1, h2, (hW.cell (p := ⟨b, 0 + j, none⟩) h2).trans h3⟩) h0).mono fun e W' ⟨q1, q2⟩ => ⟨q1, zs, rfl, q2⟩
 have hm : zs.length <= maxLen := by
  have : maxLen = 9223372036854775807 := by decide
  omega
 have h := ZpC Fence.wide 5 trivial trivial rfl (by omega) 44 #[.pointer (some ⟨Bs, 0, none⟩)] trivial (enters_of Try.func44 (by kernel_rfl) rfl) (fun ss => ss = zs) zs.length hm (by omega) w hs
 refine h.mono ?_
 rintro e w' ⟨v, ss, rfl, rfl, h1, h2, h3⟩
 exact ⟨v, rfl, h1, h2, h3⟩
end Go.Proofs.Ytidlngnhjffepaa.colV
namespace Go.Proofs.Ytidlngnhjffepaa
open Go.Shelf Go.RowKit Go.Maps Go.Proofs
set_option maxRecDepth 100000 in
set_option maxHeartbeats 2000000 in
theorem Zqn (b : Nat) (es : Array MapEntry) (clock : Nat) (w : World) (hb : w.heap[b]? = some (.map es clock)) :
  Calls Try.prog 46 #[.map (some b)] w fun e w' => e = .returned (.map (some w.heap.size)) /\ w' = w.alloc (.map es clock) := by
 have hq := fun w => run_eql_map_nil_sl (P := Try.prog) w 68 _ _ (some b) Try.underlying68
 go_enter Try.func46, Try.ntmps46
 go_wp2
 rw [run_callFunc_extern Try.func66 (by kernel_rfl) (by kernel_rfl) (by kernel_rfl) (e := Extern.MapsClone.clone) (by kernel_rfl), run_maps_clone_sl w 68 hb]
 simp only [Result.andThen]
 rw [Oper.upon_value]
 go_wp2
 rw [run_typeAssert_map_sl _ 68 _ _ _ _ Try.underlying68]
 simp only [Result.andThen]
 rw [Oper.upon_value]
 go_wp2
 go_ret
 exact ⟨rfl, rfl⟩
end Go.Proofs.Ytidlngnhjffepaa
namespace Go.Proofs.Ytidlngnhjffepaa
noncomputable section
open Go.Eng
open Go.RowKit (Below)
theorem Zwx {w0 w w' : World} {H : HProp} (h : Sat w0 H w) (hb : Below w.heap.size w w') : Sat w0 H w' := by
 obtain ⟨x, hx, hi⟩ := h
 have h0 := hi.below.size
 refine ⟨x, hx, fun b o v z e => ?_, fun b o y e => ?_, hi.below.trans (hb.mono h0)⟩
 ·have hlt := hi.lt e
  have q := hi.cell _ _ _ _ e
  have hk := hb.block b hlt
  refine ⟨q.1, ?_, ?_, fun hz => ?_⟩
  ·have := q.2.1; unfold World.cell? at this ⊢; rw [hk]; exact this
  ·have := q.2.2.1; unfold World.frozen? at this ⊢; rw [hk]; exact this
  ·rw [hk]; exact q.2.2.2 hz
 ·have hlt := hi.lt e
  have q := hi.obj _ _ _ e
  exact ⟨q.1, q.2.1, by rw [hb.block b hlt]; exact q.2.2.1, q.2.2.2⟩
theorem Zyg {w0 w w' : World} {H : HProp} (h : Sat w0 H w) (hb : Below w.heap.size w w') {g : Nat} (hg : w.heap.size <= g) {cur : Array Value} {t : TypeId} (hc : w'.heap[g]? = some (.cells cur t (0, 0))) : Sat w0 (Zd (row g 0 cur.toList true) H) w' := by
 have h2 := Zwx h hb
 obtain ⟨x, hx, hi⟩ := h
 obtain ⟨hn, hcell⟩ : (∀ j, x g j = none) /\ True := by
  refine ⟨fun j => ?_, trivial⟩
  cases e : x g j with
  | none => rfl
  | some r => exact absurd (hi.lt e) (by omega)
 have hi2 : In w0 x w' := by
  have h0 := hi.below.size
  refine ⟨fun b o v z e => ?_, fun b o y e => ?_, hi.below.trans (hb.mono h0)⟩
  ·have hlt := hi.lt e
   have q := hi.cell _ _ _ _ e
   have hk := hb.block b hlt
   refine ⟨q.1, ?_, ?_, fun hz => ?_⟩
   ·have := q.2.1; unfold World.cell? at this ⊢; rw [hk]; exact this
   ·have := q.2.2.1; unfold World.frozen? at this ⊢; rw [hk]; exact this
   ·rw [hk]; exact q.2.2.2 hz
  ·have hlt := hi.lt e
   have q := hi.obj _ _ _ e
   exact ⟨q.1, q.2.1, by rw [hb.block b hlt]; exact q.2.2.1, q.2.2.2⟩
 have h0 := hi.below.size
 refine ⟨Hl.un (Zbk g 0 cur.toList true) x, ⟨_, x, ?_, rfl, rfl, hx⟩, fun b o v z e => ?_, fun b o y e => ?_, hi2.below⟩
 ·intro i j
  by_cases hig : i = g
  ·right; rw [hig]; exact hn j
  ·left; unfold Zbk; rw [if_neg (fun q => hig q.1)]
 ·unfold Hl.un at e
  cases hr : Zbk g 0 cur.toList true b o with
  | none => rw [hr] at e; exact hi2.cell _ _ _ _ e
  | some r =>
   rw [hr] at e
   injection e with e
   subst e
   unfold Zbk at hr
   by_cases hbg : b = g /\ 0 <= o
   ·rw [if_pos hbg] at hr
    obtain ⟨rfl, _⟩ := hbg
    rw [Nat.sub_zero] at hr
    cases hq : cur.toList[o]? with
    | none => rw [hq] at hr; cases hr
    | some u =>
     rw [hq] at hr
     injection hr with hr
     injection hr with e1 e2
     subst e1
     refine ⟨by omega, ?_, ?_, fun _ => ⟨_, _, hc⟩⟩
     ·unfold World.cell?; simp only [hc]
      rw [ZGw] at hq
      exact hq
     ·unfold World.frozen?; simp [hc]
   ·rw [if_neg hbg] at hr; cases hr
 ·unfold Hl.un at e
  cases hr : Zbk g 0 cur.toList true b o with
  | none => rw [hr] at e; exact hi2.obj _ _ _ e
  | some r =>
   rw [hr] at e
   injection e with e
   subst e
   unfold Zbk at hr
   split at hr
   ·cases hq : cur.toList[o - 0]? with
    | none => rw [hq] at hr; cases hr
    | some u => rw [hq] at hr; injection hr with hr; cases hr
   ·cases hr
def Zdh : Ctr := ⟨[.int, .int, .rows, .int, .int], [.one (.cap (.fn 44) (.ptr (ai 0) 0))], [.cel (ai 0) 0 [slC (ai 1) (Zk (rA 2)) (ai 3) 1], pAr (ai 1) (rA 2) (ai 4)],
 [usB 620 (rA 2) z0 z0, eLe (Zk (rA 2)) (.int 1000000)], [.int, .int], .one (slC (ai 5) (Zk (rA 2)) (ai 6) 1), [.cel (ai 0) 0 [slC (ai 1) (Zk (rA 2)) (ai 3) 1], pAr (ai 1) (rA 2) (ai 4), pAr (ai 5) (rA 2) (ai 6)],
 [eLe (Zk (rA 2)) (ai 6), .f2 50 (eLe z0 (ai 5)) (.f2 45 (Zk (rA 2)) z0)]⟩
def Zp4 (ρ : Go.Eng.Env GG) (a c : Int) : Go.Eng.Env GG := (ρ.upd 5 (.int a)).upd 6 (.int c)
theorem ZbV (ρ : Go.Eng.Env GG) (a c : Int) : Ext 5 ρ (Zp4 ρ a c) := fun i hi => by
 unfold Zp4 Go.Eng.Env.upd; rw [if_neg (by omega), if_neg (by omega)]
theorem ZFs (ρ : Go.Eng.Env GG) (a c : Int) : Zp4 ρ a c 0 = ρ 0 := ZbV ρ a c 0 (by decide)
theorem ZE5 (ρ : Go.Eng.Env GG) (a c : Int) : Zp4 ρ a c 1 = ρ 1 := ZbV ρ a c 1 (by decide)
theorem ZjM (ρ : Go.Eng.Env GG) (a c : Int) : Zp4 ρ a c 2 = ρ 2 := ZbV ρ a c 2 (by decide)
theorem ZE0 (ρ : Go.Eng.Env GG) (a c : Int) : Zp4 ρ a c 3 = ρ 3 := ZbV ρ a c 3 (by decide)
theorem ZFX (ρ : Go.Eng.Env GG) (a c : Int) : Zp4 ρ a c 4 = ρ 4 := ZbV ρ a c 4 (by decide)
theorem Znu (ρ : Go.Eng.Env GG) (a c : Int) : Zp4 ρ a c 5 = .int a := rfl
theorem Zom (ρ : Go.Eng.Env GG) (a c : Int) : Zp4 ρ a c 6 = .int c := rfl
theorem Zpe {R : List (List Int)} (h : ∀ r ∈ R, 0 <= g0 r) : pE.vals (U.rows R : U GG) = (R.map fun r => (g0 r).toNat).map colV.encPt := by
 show R.flatMap (rowVals [.ptr]) = _
 induction R with
 | nil => rfl
 | cons r R ih =>
  rw [List.flatMap_cons, ZGQ, ZGQ, ih (fun q hq => h q (ZGN _ hq))]
  have h0 := h r ZGP
  have : rowVals [.ptr] r = [colV.encPt (g0 r).toNat] := by
   show [if r.getD 0 0 < 0 then Value.pointer none else _] = _
   rw [if_neg (by unfold g0 at h0; omega)]; rfl
  rw [this]; rfl
theorem ZGe (S : Sig GG) (h620 : ∀ a b c d, S.usr 620 a b c d = .bool (Zl (∀ r ∈ a.tR, 0 <= g0 r))) : ZH S Try.prog 42 Zdh := by
 intro ch w0 F ρ w xs hx hq hsat
 obtain ⟨v, rfl, hv⟩ : ∃ v, xs = [v] /\ SV.R S ρ (.one (.cap (.fn 44) (.ptr (ai 0) 0))) v := by
  match xs, hx with
  | [v], hx => exact ⟨v, rfl, hx.1⟩
 have hv := R_one S ρ hv
 have q1 := hq (usB 620 (rA 2) z0 z0) (by simp [Zdh])
 have q2 := hq (eLe (Zk (rA 2)) (.int 1000000)) (by simp [Zdh])
 rw [Ze] at q2
 simp only [Zdh, Zo, star_assoc, Ch.den, pAr] at hsat
 rw [SX.den_wc, SX.den_wc, SX.den_wc, SX.den_wc] at hsat
 simp only [usB, SX.den, h620, YP, ZU, Zag, U.tPi, U.tQi, Zh, U.tRi, U.tIi, ai, rA, Zk, YB] at q1 q2 hsat
 generalize hR : (ρ 2).tR = R at *
 obtain ⟨g1, hsat⟩ := Zr hsat
 have hb0 : 0 <= (ρ 0).tI := g1.resolve_right (by simp)
 have hrow0 := hsat
 have hld := (hrow0.load (i := 0) (by simp)).1
 have hlt := hrow0.row_lt (by simp)
 have hbox : SC.den (S.wc ch) ρ (slC (.at .int 1) (.f1 32 (.at .rows 2)) (.at .int 3) 1) = slV (ρ 1).tI R.length (ρ 3).tI := by
  rw [Zcv]; simp only [SX.den, ZU, Zag, YB, U.tIi, U.tRi, hR]
 simp only [ZGQ, List.map_nil, List.getElem_cons_zero] at hld
 rw [hbox] at hld
 have hsat2 := hsat
 rw [Zj] at hsat2
 obtain ⟨spare, hsat2⟩ := Yo hsat2
 obtain ⟨e1, hsat2⟩ := Zr hsat2
 obtain ⟨e2, hsat2⟩ := Zr hsat2
 obtain ⟨e3, hsat2⟩ := Zr hsat2
 rw [Zpe q1] at e1 hsat2
 simp only [U.tIi] at e1 e2 e3 hsat2
 subst hv
 have hvd : SC.den S ρ (.cap (.fn 44) (.ptr (ai 0) 0)) = .func (.func 44) #[] #[.pointer (some ⟨(ρ 0).tI.toNat, 0, none⟩)] := by
  simp only [SC.den, SX.den, ai, ZU, U.tIi]
  rw [if_neg (by omega)]; rfl
 rw [hvd]
 have hzl : (R.map fun r => (g0 r).toNat).length = R.length := ZGR ..
 have hcall := colV.collected (ρ 0).tI.toNat (if (ρ 1).tI < 0 then none else some ⟨(ρ 1).tI.toNat, 0, none⟩) (ρ 3).tI.toNat (R.map fun r => (g0 r).toNat) (by rw [hzl]; omega) w hlt.2
  (by rw [hzl]; unfold slV at hld; simpa using hld) (fun j hj => by
   have hb1 : 0 <= (ρ 1).tI := by
    rcases e3 with h | h
    ·exact h
    ·exfalso; rw [h] at e1; simp at e1 hj; have := e1.1; rw [this] at hj; simp at hj
   have hj2 : j < (((R.map fun r => (g0 r).toNat).map colV.encPt) ++ spare).length := by rw [ZGM, ZGR]; omega
   have hl := hsat2.load hj2
   have hlt2 := hsat2.row_lt (by intro e; rw [e] at hj2; simp at hj2)
   refine ⟨(ρ 1).tI.toNat, by rw [if_neg (by omega)], hlt2.2, ?_⟩
   rw [hl.1, List.getElem_append_left (by rw [ZGR]; exact hj), List.getElem_map])
 refine hcall.mono ?_
 rintro e w' ⟨v, rfl, ⟨hl, hor⟩, hnil, hbel⟩
 have fin : ∀ (a c : Int), Sat w0 (Zd (YL S pE (.int a) (.rows R) (.int c)) (Zd (fun h => (0 <= (ρ 0).tI \/ ([slC (.at .int 1) (.f1 32 (.at .rows 2)) (.at .int 3) 1] : List SC) = []) /\ row (ρ 0).tI.toNat 0 (List.map (SC.den (S.wc ch) ρ) [slC (.at .int 1) (.f1 32 (.at .rows 2)) (.at .int 3) 1]) true h) (Zd (YL S pE (.int (ρ 1).tI) (.rows R) (.int (ρ 4).tI)) (Zd (hpDen (S.wc ch) ρ w0 []) F)))) w' →
   Sat w0 (Zd (hpDen (S.wc ch) (Zp4 ρ a c) w0 Zdh.post) F) w' := by
  intro a c h
  simp only [Zdh, Zo, star_assoc, Ch.den, pAr]
  repeat rw [SX.den_wc]
  simp only [ZGQ, List.map_nil, SX.den, SX.den_wc, Zcv, ai, rA, Zk, YB, ZU, Zag, U.tIi, U.tRi, ZFs, ZE5, ZjM, ZE0, ZFX, Znu, Zom, hR] at h ⊢
  rw [Zj (YL _ _ _ _ _), Zj (YL _ _ (.int a) _ _)] at h
  exact h
 have fc : ∀ (a c : Int), (R.length : Int) <= c -> (0 <= a \/ R.length = 0) -> ∀ x ∈ Zdh.facts, (x.den S (Zp4 ρ a c)).tP := by
  intro a c h1 h2 x hx
  simp only [Zdh, List.mem_cons, List.not_mem_nil, or_false] at hx
  rcases hx with rfl | rfl
  ·rw [Ze]
   simp only [SX.den, rA, ai, Zk, ZU, Zag, ZjM, Zom, YB, U.tIi, U.tRi, hR]; exact h1
  ·simp only [eLe, SX.mk2, SX.den, rA, ai, Zk, z0, ZU, Zag, ZjM, Znu, YB, p50, p45, p47, U.tIi, U.tRi, hR]
   rcases h2 with h2 | h2
   ·exact .inl (by simp [ap2, h2])
   ·exact .inr (by simp [ap2, h2])
 rcases hor with ⟨rfl, hz⟩ | ⟨gb, cap, cur, rfl, hgb, hcur, hnc, hcm, hcs, htk⟩
 ·have hR0 : R = [] := by
   have : R.length = 0 := by rw [<- hzl]; exact hz
   exact ZGW this
  subst hR0
  refine ⟨Zp4 ρ (-1) 0, _, ZbV ρ _ _, rfl, .inr ?_, fin _ _ ?_, fc _ _ (ZGS _) (.inr rfl)⟩
  ·show _ = SC.den S _ (slC (ai 5) (Zk (rA 2)) (ai 6) 1)
   rw [Zcv]
   simp only [SX.den, ai, rA, Zk, ZU, Zag, ZjM, Znu, Zom, YB, U.tIi, U.tRi, hR]; rfl
  ·have h2 := Zwx hsat hbel
   refine Yw [] (Zs rfl (Zs (ZGS _) (Zs (.inr rfl) ?_)))
   rw [show (En.vals pE (U.rows [] : U GG) ++ []) = [] from rfl, ZdZ, emp_star]
   have h3 : Sat w0 (Zd (row (ρ 0).tI.toNat 0 (List.map (SC.den (S.wc ch) ρ) [slC (SX.at Srt.int 1) (SX.f1 32 (SX.at Srt.rows 2)) (SX.at Srt.int 3) 1]) true) (Zd (YL S pE (.int (ρ 1).tI) (.rows []) (.int (ρ 4).tI)) (Zd (hpDen (S.wc ch) ρ w0 []) F))) w' := h2
   exact Zs g1 h3
 ·refine ⟨Zp4 ρ gb cap, _, ZbV ρ _ _, rfl, .inr ?_, fin _ _ ?_, fc _ _ (by omega) (.inl (by omega))⟩
  ·show _ = SC.den S _ (slC (ai 5) (Zk (rA 2)) (ai 6) 1)
   rw [Zcv]
   simp only [SX.den, ai, rA, Zk, ZU, Zag, ZjM, Znu, Zom, YB, U.tIi, U.tRi, hR]
   unfold slV
   rw [if_neg (by omega), hzl]; simp
  ·have h2 := Zyg hsat hbel hgb hcur
   have hvs : cur.toList = En.vals pE (U.rows R : U GG) ++ cur.toList.drop (R.length * 1) := by
    rw [Zpe q1, <- htk, hzl, List.take_append_drop]
   refine Yw (cur.toList.drop (R.length * 1)) (Zs ?_ (Zs (show 0 <= ((cap : Nat) : Int) by omega) (Zs (.inl (show 0 <= ((gb : Nat) : Int) by omega)) ?_)))
   ·rw [<- ZGM, <- hvs]
    show cur.toList.length = cap * 1
    rw [Array.length_toList]; exact hcs
   ·rw [<- hvs]
    have h3 : Sat w0 (Zd (row gb 0 cur.toList true) (Zd (row (ρ 0).tI.toNat 0 (List.map (SC.den (S.wc ch) ρ) [slC (SX.at Srt.int 1) (SX.f1 32 (SX.at Srt.rows 2)) (SX.at Srt.int 3) 1]) true) (Zd (YL S pE (.int (ρ 1).tI) (.rows R) (.int (ρ 4).tI)) (Zd (hpDen (S.wc ch) ρ w0 []) F)))) w' := h2
    rw [Zj] at h3 ⊢
    exact Zs g1 h3
def Zj6 : Ctr := ⟨[.int, .amap], [.one (.map (ai 0))], [scC (ai 0) (mA 1)], [], [.int], .one (.map (ai 2)), [scC (ai 0) (mA 1), scC (ai 2) (mA 1)], [eLe z0 (ai 2)]⟩
theorem ZF1 {G : Type} (S : Sig G) : ZH S Try.prog 46 Zj6 := by
 intro ch w0 F ρ w xs hx hq hsat
 obtain ⟨v, rfl, hv⟩ : ∃ v, xs = [v] /\ SV.R S ρ (.one (.map (ai 0))) v := by
  match xs, hx with
  | [v], hx => exact ⟨v, rfl, hx.1⟩
 have hv := R_one S ρ hv
 simp only [Zj6, Zo, star_assoc, Ch.den, scC] at hsat
 repeat rw [SX.den_wc] at hsat
 simp only [SX.den, ai, mA, ZU, Zjr, U.tIi, U.tMi] at hsat
 obtain ⟨g1, hsat⟩ := Zr hsat
 obtain ⟨es, hsat⟩ := Yo hsat
 obtain ⟨clock, hsat⟩ := Yo hsat
 obtain ⟨g2, hsat⟩ := Zr hsat
 obtain ⟨_, hlt, hobj, _⟩ := hsat.obj
 subst hv
 have hvd : SC.den S ρ (.map (ai 0)) = .map (some (ρ 0).tI.toNat) := by
  simp only [SC.den, SX.den, ai, ZU, U.tIi]
  rw [if_neg (by omega)]
 rw [hvd]
 refine (Zqn (ρ 0).tI.toNat es clock w hobj).mono ?_
 rintro e w' ⟨rfl, rfl⟩
 refine ⟨ρ.upd 2 (.int (w.heap.size : Nat)), _, Ext.upd _ _, rfl, .inr ?_, ?_, ?_⟩
 ·show Value.map (some w.heap.size) = Value.map (if (((w.heap.size : Nat) : Int) < 0) then none else some (((w.heap.size : Nat) : Int).toNat))
  rw [if_neg (by omega), ZGO]
 ·have h2 := Sat.newObj hsat (.map es clock) rfl
  simp only [Zj6, Zo, star_assoc, Ch.den, scC]
  repeat rw [SX.den_wc]
  simp only [SX.den, ai, mA, Env.upd, if_true, Nat.reduceEqDiff, reduceIte, ZU, Zjr, U.tIi, U.tMi]
  refine Zs g1 (Yw es (Yw clock (Zs g2 ?_)))
  rw [Zj]
  refine Zs (by omega) (Yw es (Yw clock (Zs g2 ?_)))
  rw [ZGO]
  exact h2
 ·intro x hx
  simp only [Zj6, List.mem_cons, List.not_mem_nil, or_false] at hx
  subst hx
  rw [Ze]
  simp only [SX.den, ai, z0, Env.upd, if_true, ZU, U.tIi]; omega
end
end Go.Proofs.Ytidlngnhjffepaa
namespace Go.Proofs.Ytidlngnhjffepaa
noncomputable section
open Go.Eng
/-! ### Plain words -/
def Zxe (RT : List (List Int)) (L : List Tx) (r : List Int) : Int := (atT L (ZcF (g0 r) RT : Nat)).who
def leW (RT : List (List Int)) (L : List Tx) (r s : List Int) : Prop := Zxe RT L r <= Zxe RT L s
def ZzD (RT : List (List Int)) (L : List Tx) (P : List (List Int)) : Prop := P.Pairwise (leW RT L)
def ndP (P : List (List Int)) : Prop := (P.map g0).Nodup
def ZDp (k P RT : List (List Int)) (L : List Tx) : Prop := (k.drop 1).Perm P /\ ZzD RT L ((k.drop 1).take (g0 (k.getD 0 [])).toNat)
def ZDw (k P RT : List (List Int)) (L : List Tx) : Prop := (k.drop 1).Perm P /\ ∃ A B C x, k.drop 1 = A ++ x :: B ++ C /\ (A.length : Int) = g1 (k.getD 0 []) /\ ((A.length : Int) + B.length) = g0 (k.getD 0 []) /\ ZzD RT L (A ++ B) /\ ∀ b ∈ B, leW RT L x b
structure OdSig (S : Sig GG) : Prop where
 fi : FiSig S
 u620 : ∀ a b c d, S.usr 620 a b c d = .bool (Zl (∀ r ∈ a.tR, 0 <= g0 r))
 u621 : ∀ a b c d, S.usr 621 a b c d = .bool (Zl (ndP a.tR))
 u622 : ∀ a b c d, S.usr 622 a b c d = .bool (Zl (a.tR.Perm b.tR /\ ZzD c.tR (ZE d) a.tR))
 u623 : ∀ a b c d, S.usr 623 a b c d = .bool (Zl (ZDp a.tR b.tR c.tR (ZE d)))
 u624 : ∀ a b c d, S.usr 624 a b c d = .bool (Zl (ZDw a.tR b.tR c.tR (ZE d)))
def ZzG : Ctr := ⟨[.int, .int, .rows, .g], [.one (.ptr (ai 0) 0), .one (.ptr (ai 1) 0)], [txC (rA 2) (gA 3)], [usB 565 (rA 2) (ai 0) z0, usB 565 (rA 2) (ai 1) z0, .f1 2 (.f2 45 (ai 0) (ai 1))], [], .tup [],
 [.cel (ai 0) 0 (txQ (rA 2) (gA 3) (ixB (rA 2) (ai 0))), .cel (ai 1) 0 (txQ (rA 2) (gA 3) (ixB (rA 2) (ai 1))), twC (ai 0) (ai 1) (rA 2) (gA 3)], [eLe z0 (ai 0), eLe z0 (ai 1)]⟩
theorem Zsg : ∀ {R : List (List Int)} {L : List Tx} {h : Hl}, ZdW R L h -> ∀ b, ZmL R b -> 0 <= b
 | [], [], _, _, b, hb => by obtain ⟨k, hk, _⟩ := hb; simp at hk
 | r :: R, t :: L, h, hx, b, hb => by
  obtain ⟨p, q, _, _, hp, hq⟩ := hx
  obtain ⟨k, hk, rfl⟩ := hb
  cases k with
  | zero => exact (ZcX hp).2.2.2.2.2
  | succ k => exact Zsg hq _ ⟨k, by simpa using hk, rfl⟩
 | [], _ :: _, _, hx, _, _ => hx.elim
 | _ :: _, [], _, hx, _, _ => hx.elim
theorem ZEv (S : Sig GG) (hS : JtSig S) : ZcQ S ZzG := by
 refine ZaR S fun T w0 ρ h hu hp hd hr hpre => ⟨ρ, Ext.refl _ _, ?_⟩
 have hT := hS.of hu hp
 have e1 : hpDen T ρ w0 ZzG.pre = Zd (T.prd 100 w0 ((rA 2).den T ρ) ((gA 3).den T ρ)) emp := rfl
 have e2 : hpDen T ρ w0 ZzG.post = Zd ((Ch.cel (ai 0) 0 (txQ (rA 2) (gA 3) (ixB (rA 2) (ai 0)))).den T ρ w0) (Zd ((Ch.cel (ai 1) 0 (txQ (rA 2) (gA 3) (ixB (rA 2) (ai 1)))).den T ρ w0) (Zd (T.prd 102 w0 ((ZaD (Zbt (ai 0) (ai 1)) (rA 2)).den T ρ) ((gA 3).den T ρ)) emp)) := rfl
 have r0 := hr (usB 565 (rA 2) (ai 0) z0) (by simp [ZzG])
 have r1 := hr (usB 565 (rA 2) (ai 1) z0) (by simp [ZzG])
 have r2 := hr (.f1 2 (.f2 45 (ai 0) (ai 1))) (by simp [ZzG])
 simp only [usB, SX.den, hT.u565, YP, U.tPi, U.tQi, Zh] at r0 r1
 have r2 : (ap1 2 (ap2 45 ((ai 0).den T ρ) ((ai 1).den T ρ))).tP := r2
 rw [ZAt] at r2
 have ib : ∀ b : SX, ((ixB (rA 2) b).den T ρ).tI = (ZcF (b.den T ρ).tI ((rA 2).den T ρ).tR : Nat) := fun b => by
  simp only [ixB, usI, SX.den, hT.u566, ZU, U.tIi]
 have k2 : ((ZaD (Zbt (ai 0) (ai 1)) (rA 2)).den T ρ).tR = [((ai 0).den T ρ).tI, ((ai 1).den T ρ).tI] :: ((rA 2).den T ρ).tR := rfl
 have a0 := ZbP (YM r0)
 have a1 := ZbP (YM r1)
 rw [e1, Zi, hT.p100] at hpre
 have gd := Zsg hpre
 refine ⟨?_, ?_⟩
 ·rw [e2, Zi, Zd4 hT ρ w0 (ai 0) (rA 2) (gA 3) (ixB (rA 2) (ai 0)) _ (by rw [ib]) (by rw [a0]),
   Zd4 hT ρ w0 (ai 1) (rA 2) (gA 3) (ixB (rA 2) (ai 1)) _ (by rw [ib]) (by rw [a1]), hT.p102, k2]
  generalize ((ai 0).den T ρ).tI = v at *
  generalize ((ai 1).den T ρ).tI = y at *
  generalize ((rA 2).den T ρ).tR = R at *
  generalize ZE ((gA 3).den T ρ) = L at *
  have hl := Za0 hpre
  have hne : ZcF v R ≠ ZcF y R := fun e => r2 (by rw [<- a0, <- a1, e])
  obtain ⟨A, hA⟩ := ZoZ hl (YM r0) (YM r1) hne
  have hq2 := hpre
  rw [hA] at hq2
  obtain ⟨s, t, d2, rfl, hs, ht⟩ := hq2
  have hw : ZDr (g0 ([v, y] :: R |>.getD 0 [])) (g1 ([v, y] :: R |>.getD 0 [])) (([v, y] :: R).drop 1) L s := by
   intro h' hd' hh'
   show ZdW R L _
   rw [hA]
   exact ⟨s, h', hd', rfl, hs, hh'⟩
  have : Zd (Zd (ZgK R L (ZcF v R)) (ZgK R L (ZcF y R))) (ZDr (g0 ([v, y] :: R |>.getD 0 [])) (g1 ([v, y] :: R |>.getD 0 [])) (([v, y] :: R).drop 1) L) (Hl.un s t) := ⟨t, s, d2.symm, Hl.un_comm d2, ht, hw⟩
  rw [star_assoc] at this
  exact this
 ·intro x hx
  simp only [ZzG, List.mem_cons, List.not_mem_nil, or_false] at hx
  rcases hx with rfl | rfl
  ·rw [Ze]; exact gd _ r0
  ·rw [Ze]; exact gd _ r1
def whoX (p : SX) : SX := usI 540 (gA 3) (ixB (rA 2) p) z0
def ZtU : Ctr := ⟨[.int, .int, .rows, .g], [.one (.ptr (ai 0) 0), .one (.ptr (ai 1) 0)], [txC (rA 2) (gA 3)], [usB 565 (rA 2) (ai 0) z0, usB 565 (rA 2) (ai 1) z0, .f1 2 (.f2 45 (ai 0) (ai 1))], [.int], .one (.int .i64 (ai 4)), [txC (rA 2) (gA 3)],
 [.f2 48 (eLt (ai 4) z0) (eLt (whoX (ai 0)) (whoX (ai 1)))]⟩
def ZDU : Cx := { specs := [], anns := [(29, [(1, .ghost ZzG [.tmp 0, .tmp 1]), (500001, .ghost ZxX [.tmp 0])])] }
def sF : SC := .fn 29
def isQ : List SX := [eLe z0 (ai 2), .f2 45 (ai 2) (Zk (rA 1)), eLe (ai 2) (.int 12), usB 560 (rA 1) (rA 5) z0, usB 621 (rA 1) z0 z0]
def isA : List Srt := [.int, .rows, .int, .int, .int, .rows, .g]
def isP (k : Nat) : List Ch := [pAr (ai 0) (rA k) (ai 4), txC (rA 5) (gA 6)]
def isF : List SX := [.us .bool 622 (rA 7) (rA 1) (rA 5) (gA 6)]
def ZtD : Ctr := ⟨isA, [.one (slC (ai 0) (ai 2) (ai 3) 1), .one (.int .i64 z0), .one (.int .i64 (ai 2)), .one sF], isP 1, isQ, [.rows], .tup [], isP 7, isF⟩
def isoI : Inv := ⟨[.int, .rows], [(8, .one (.int .i64 (di 0)))], [pAr (ai 0) (rA 1000001) (ai 4), txC (rA 5) (gA 6)], [eLe (.int 1) (di 0), .f2 45 (Zk (rA 1000001)) (ai 2), .us .bool 623 (ZaD (Zqv (di 0)) (rA 1000001)) (rA 1) (rA 5) (gA 6)], .f2 41 (.int 13) (di 0)⟩
def isoJ : Inv := ⟨[.int, .rows], [(9, .one (.int .i64 (di 0)))], [pAr (ai 0) (rA 1000001) (ai 4), txC (rA 5) (gA 6)], [eLe z0 (di 0), eLe (di 0) (ai 7), .f2 45 (Zk (rA 1000001)) (ai 2), .us .bool 624 (ZaD (Zbt (ai 7) (di 0)) (rA 1000001)) (rA 1) (rA 5) (gA 6)], di 0⟩
def ZEI : Cx := { specs := [(29, [ZtU])], anns := [(81, [(1, .inv isoI), (4, .inv isoJ)])] }
def Zu3 : Ctr := ⟨isA ++ [.int], [.one (slC (ai 0) (ai 2) (ai 3) 1), .one (.int .i64 z0), .one (.int .i64 (ai 2)), .one (.int .i64 (ai 7)), .one sF], isP 1, isQ, [.rows], .tup [], isP 8, [.us .bool 622 (rA 8) (rA 1) (rA 5) (gA 6)]⟩
def ZDM : Cx := { specs := [(81, [ZtD])], anns := [] }
def Ztw : Ctr := ⟨isA, [.one (slC (ai 0) (ai 2) (ai 3) 1), .one sF], isP 1, isQ, [.rows], .tup [], isP 7, isF⟩
def ZFu : Cx := { specs := [(63, [Zu3])], anns := [] }
theorem ZCN {α : Type} (A D : List α) (y d : α) : (A ++ y :: D).getD A.length d = y := by
 induction A with
 | nil => rfl
 | cons a A ih => exact ih
theorem ZBv {α : Type} (A D : List α) (y x d : α) : (A ++ y :: x :: D).getD (A.length + 1) d = x := by
 induction A with
 | nil => rfl
 | cons a A ih => exact ih
theorem ZA8 {α : Type} (A D : List α) (y z : α) : (A ++ y :: D).set A.length z = A ++ z :: D := by
 induction A with
 | nil => rfl
 | cons a A ih => simp only [List.cons_append, ZG1, List.set_cons_succ, ih]
theorem ZDl {α : Type} (A D : List α) (y x z : α) : (A ++ y :: x :: D).set (A.length + 1) z = A ++ y :: z :: D := by
 induction A with
 | nil => rfl
 | cons a A ih => simp only [List.cons_append, ZG1, List.set_cons_succ, ih]
theorem ZxV {P RT : List (List Int)} {L : List Tx} : ZDp ([1] :: P) P RT L := ⟨List.Perm.refl _, by
 show (P.take 1).Pairwise _
 cases P with
 | nil => simp
 | cons a P => simp⟩
theorem ZCU {i : Int} {Q P RT : List (List Int)} {L : List Tx} (h : ZDp ([i] :: Q) P RT L) (i0 : 1 <= i) (i1 : i < Q.length) : ZDw ([i, i] :: Q) P RT L := by
 obtain ⟨h1, h2⟩ := h
 obtain ⟨n, rfl⟩ := ZGz (show 0 <= i by omega)
 have hn : n < Q.length := by omega
 refine ⟨h1, Q.take n, [], Q.drop (n + 1), Q[n], ?_, ?_, ?_, ?_, fun b hb => nomatch hb⟩
 ·show Q = _
  rw [ZG5, List.cons_append, List.nil_append, <- List.drop_eq_getElem_cons hn, List.take_append_drop]
 ·show ((Q.take n).length : Int) = (n : Int)
  rw [ZGJ]; omega
 ·show ((Q.take n).length : Int) + 0 = (n : Int)
  rw [ZGJ]; omega
 ·rw [List.append_nil]
  have : ((g0 (([(n : Int)] :: Q).getD 0 [])).toNat) = n := by show ((n : Int)).toNat = n; omega
  rw [this] at h2; exact h2
theorem ZyP {i j : Int} {Q P RT : List (List Int)} {L : List Tx} (h : ZDw ([i, j] :: Q) P RT L) (hj : 0 < j) (hv : ∀ r ∈ P, ∃ b, r = [b] /\ ZmL RT b) (hn : ndP P) :
  ZmL RT (g0 (Q.getD j.toNat [])) /\ ZmL RT (g0 (Q.getD (j + -1).toNat [])) /\ ¬ g0 (Q.getD j.toNat []) = g0 (Q.getD (j + -1).toNat []) ∧
  (Zxe RT L (Q.getD j.toNat []) < Zxe RT L (Q.getD (j + -1).toNat []) -> ZDw ([i, j + -1] :: (Q.set j.toNat [g0 (Q.getD (j + -1).toNat [])]).set (j + -1).toNat [g0 (Q.getD j.toNat [])]) P RT L) ∧
  (¬ Zxe RT L (Q.getD j.toNat []) < Zxe RT L (Q.getD (j + -1).toNat []) -> ZDp ([i + 1] :: Q) P RT L) := by
 obtain ⟨h1, A, B, C, x, h2, h3, h4, h5, h6⟩ := h
 have h1 : Q.Perm P := h1
 have h2 : Q = A ++ x :: B ++ C := h2
 have h3 : (A.length : Int) = j := h3
 have h4 : (A.length : Int) + B.length = i := h4
 obtain ⟨A', y, rfl⟩ : ∃ A' y, A = A' ++ [y] := by
  rcases List.eq_nil_or_concat A with rfl | ⟨A', y, e⟩
  ·simp at h3; omega
  ·exact ⟨A', y, by rw [e, List.concat_eq_append]⟩
 rw [ZGM, ZGv] at h3 h4
 have e1 : j.toNat = A'.length + 1 := by omega
 have e2 : (j + -1).toNat = A'.length := by omega
 have hQ : Q = A' ++ y :: x :: (B ++ C) := by rw [h2]; simp
 have gx : Q.getD j.toNat [] = x := by rw [e1, hQ, ZBv]
 have gy : Q.getD (j + -1).toNat [] = y := by rw [e2, hQ, ZCN]
 have hx : x ∈ Q := by rw [hQ]; simp
 have hy : y ∈ Q := by rw [hQ]; simp
 obtain ⟨bx, ex, hbx⟩ := hv x (h1.mem_iff.1 hx)
 obtain ⟨by', ey, hby⟩ := hv y (h1.mem_iff.1 hy)
 have sx : [g0 x] = x := by rw [ex]; rfl
 have sy : [g0 y] = y := by rw [ey]; rfl
 have hnq : (Q.map g0).Nodup := (h1.map g0).nodup_iff.2 hn
 rw [gx, gy]
 refine ⟨by rw [ex]; exact hbx, by rw [ey]; exact hby, fun e => ?_, fun hlt => ?_, fun hge => ?_⟩
 ·rw [hQ, ZGX, ZGQ, ZGQ, List.nodup_append] at hnq
  have := (List.nodup_cons.1 hnq.2.1).1
  exact this (by rw [<- e]; exact ZGP)
 ·rw [sx, sy, e1, e2, hQ, ZDl, ZA8]
  refine ⟨?_, A', y :: B, C, x, by simp, by show (A'.length : Int) = j + -1; omega, by show (A'.length : Int) + ((y :: B).length : Nat) = i; rw [ZG1]; omega, ?_, ?_⟩
  ·show (A' ++ x :: y :: (B ++ C)).Perm P
   rw [hQ] at h1
   exact ((List.Perm.swap _ _ _).append_left _).trans h1
  ·have : A' ++ [y] ++ B = A' ++ y :: B := by simp
   rw [this] at h5; exact h5
  ·intro b hb
   rcases List.mem_cons.1 hb with rfl | hb
   ·exact Int.le_of_lt hlt
   ·exact h6 b hb
 ·refine ⟨h1, ?_⟩
  have e3 : (g0 (([i + 1] :: Q).getD 0 [])).toNat = (A' ++ [y] ++ x :: B).length := by
   show (i + 1).toNat = _
   simp only [ZGM, ZG1, List.length_nil]; omega
  rw [e3]
  show ZzD RT L (Q.take _)
  rw [h2, List.take_left']
  ·have h5' := List.pairwise_append.1 h5
   refine List.pairwise_append.2 ⟨h5'.1, List.pairwise_cons.2 ⟨fun b hb => h6 b hb, h5'.2.1⟩, fun a ha b hb => ?_⟩
   have hyx : leW RT L y x := by unfold leW; omega
   have hay : leW RT L a y := by
    rcases List.mem_append.1 ha with ha | ha
    ·exact (List.pairwise_append.1 h5'.1).2.2 a ha y (by simp)
    ·rw [ZGA] at ha; subst ha; exact ZGS _
   rcases List.mem_cons.1 hb with rfl | hb
   ·exact Int.le_trans hay hyx
   ·exact h5'.2.2 a ha b hb
  ·rfl
theorem ZwH {i j : Int} {Q P RT : List (List Int)} {L : List Tx} (h : ZDw ([i, j] :: Q) P RT L) (hj : j <= 0) (h0 : 0 <= j) : ZDp ([i + 1] :: Q) P RT L := by
 obtain ⟨h1, A, B, C, x, h2, h3, h4, h5, h6⟩ := h
 have h3 : (A.length : Int) = j := h3
 have h4 : (A.length : Int) + B.length = i := h4
 have hA : A = [] := ZGW (by omega)
 subst hA
 refine ⟨h1, ?_⟩
 have h2 : Q = x :: B ++ C := h2
 have e3 : (g0 (([i + 1] :: Q).getD 0 [])).toNat = (x :: B).length := by
  show (i + 1).toNat = _
  rw [ZG1]; simp at h4; omega
 rw [e3]
 show ZzD RT L (Q.take _)
 rw [h2, List.take_left' rfl]
 exact List.pairwise_cons.2 ⟨fun b hb => h6 b hb, h5⟩
theorem ZyR {x : Int} (h0 : 0 <= x) (h1 : x <= 12) : IntKind.u64.wrap x = x := ZaH (by simp [IntKind.min, IntKind.max, IntKind.bits, IntKind.signed]; omega)
theorem ZrS {x : Int} (h0 : 0 <= x) (h1 : x <= 12) : IntKind.u8.wrap x = x := ZaH (by simp [IntKind.min, IntKind.max, IntKind.bits, IntKind.signed]; omega)
def ZrW : SX := d 540 (g 3) (d 566 (r 2) (a 0))
def Zvb : SX := d 540 (g 3) (d 566 (r 2) (a 1))
def Zye : SX := t ZrW Zvb
def ZBU : SX := .f2 48 (.bool false) Zye
def ZFc : VC := i (c 565 (r 2) (a 0)) (i (c 565 (r 2) (a 1)) (i (.f1 2 (e (a 0) (a 1))) (i (l z (a 0)) (i (l z (a 1)) (.and (i Zye (n (.f2 48 (.bool true) Zye) .tt)) (i (l Zvb ZrW) (.and (i (t Zvb ZrW) (n ZBU .tt)) (i (l ZrW Zvb) (n ZBU .tt)))))))))
theorem ZFa : Zb4 Try.prog ZDU 12 29 ZtU = ZFc := by kernel_rfl
def ZAP : SX := .f2 122 (a 7) (.f1 152 z)
def ZgQ : SX := .f2 40 (a 9) (k (-1))
def Ztx : SX := .f3 112 (r 10) (a 9) z
def ZvZ : SX := .f3 112 (r 10) ZgQ z
def ZBo : SX := t (a 11) z
def ZsU : SX := .f2 40 (a 7) (k 1)
def ZB7 : SX := .f1 23 ZsU
def ZAU : SX := .f2 41 (k 13) ZsU
def ZBQ : SX := l z ZAU
def ZCM : SX := t ZAU (.f2 41 (k 13) (a 7))
def ZwR : SX := l (k 1) ZsU
def Zvv : SX := .us .bool 623 (.f2 124 (.f2 122 ZsU (.f1 152 z)) (r 10)) (r 1) (r 5) (g 6)
def ZEw : VC := i (l z (a 2)) (i (e (a 2) (.f1 32 (r 1))) (i (l (a 2) (k 12)) (i (c 560 (r 1) (r 5)) (i (p 621 (r 1)) (n (e (.f1 32 (r 1)) (a 2)) (n (.us .bool 623 (.f2 124 (.f2 122 (k 1) (.f1 152 z)) (r 1)) (r 1) (r 5) (g 6)) (u 7 .int (u 8 .rows (i (l (k 1) (a 7)) (i (e (.f1 32 (r 8)) (a 2)) (i (.us .bool 623 (.f2 124 ZAP (r 8)) (r 1) (r 5) (g 6)) (.and (i (t (a 7) (a 2)) (n (l z (a 7)) (n (l (a 7) (a 7)) (n (.us .bool 624 (.f2 124 (.f2 122 (a 7) ZAP) (r 8)) (r 1) (r 5) (g 6)) (u 9 .int (u 10 .rows (i (l z (a 9)) (i (l (a 9) (a 7)) (i (e (.f1 32 (r 10)) (a 2)) (i (.us .bool 624 (.f2 124 (.f2 122 (a 7) (.f2 122 (a 9) (.f1 152 z))) (r 10)) (r 1) (r 5) (g 6)) (.and (i (t z (a 9)) (n (t (a 9) (a 2)) (n (t (a 9) (.f1 32 (r 10))) (n (.f1 23 ZgQ) (n (l z ZgQ) (n (t ZgQ (a 2)) (n (t ZgQ (.f1 32 (r 10))) (n (c 565 (r 5) Ztx) (n (c 565 (r 5) ZvZ) (n (.f1 2 (e Ztx ZvZ)) (u 11 .int (i (.f2 48 ZBo (t (d 540 (g 6) (d 566 (r 5) Ztx)) (d 540 (g 6) (d 566 (r 5) ZvZ)))) (.and (i ZBo (n (t ZgQ (a 9)) (n (l ZgQ (a 7)) (n (.us .bool 624 (.f2 124 (.f2 122 (a 7) (.f2 122 ZgQ (.f1 152 z))) (.f3 132 (.f3 132 (r 10) (a 9) (.f2 122 ZvZ (.f1 152 z))) ZgQ (.f2 122 Ztx (.f1 152 z)))) (r 1) (r 5) (g 6)) .tt)))) (i (l z (a 11)) (n ZB7 (n ZBQ (n ZCM (n ZwR (n Zvv .tt))))))))))))))))))) (i (l (a 9) z) (n ZB7 (n ZBQ (n ZCM (n ZwR (n Zvv .tt))))))))))))))))) (i (l (a 2) (a 7)) (n (.us .bool 622 (r 8) (r 1) (r 5) (g 6)) .tt))))))))))))))
theorem ZFO : Zb4 Try.prog ZEI 12 81 ZtD = ZEw := by kernel_rfl
def ZAw : SX := l (a 2) (k 12)
def ZFS : VC := i (l z (a 2)) (i (e (a 2) (.f1 32 (r 1))) (i ZAw (i (c 560 (r 1) (r 5)) (i (p 621 (r 1)) (n (.f1 23 (a 2)) (.and (i ZAw (u 8 .rows (i (.us .bool 622 (r 8) (r 1) (r 5) (g 6)) .tt))) .tt))))))
theorem ZE2 : Zb4 Try.prog ZDM 12 63 Zu3 = ZFS := by kernel_rfl
def Zje : SX := .f2 107 (.f1 17 (a 2)) (k 32)
def Zsl : SX := .f2 107 Zje (k 16)
def ZyK : SX := .f1 14 (.f2 107 Zsl (k 8))
def ZiF : SX := .us .bool 622 (r 7) (r 1) (r 5) (g 6)
def ZyJ : SX := .f1 14 Zsl
def ZxR : SX := .f1 14 (.f2 107 Zje (k 8))
def ZyW : SX := .f1 14 Zje
def Zt5 : SX := .f2 107 (.f1 17 (a 2)) (k 16)
def Zy5 : SX := .f1 14 (.f2 107 Zt5 (k 8))
def Zx9 : SX := .f1 14 Zt5
def Zpm : SX := .f1 14 (.f2 107 (.f1 17 (a 2)) (k 8))
def Zo0 : SX := .f1 14 (.f1 17 (a 2))
def ZFv : VC := i (l z (a 2)) (i (e (a 2) (.f1 32 (r 1))) (i (l (a 2) (k 12)) (i (c 560 (r 1) (r 5)) (i (p 621 (r 1)) (.and (i (l k2 (.f1 17 (a 2))) (.and (i (l (k 65536) Zje) (.and (i (l (k 256) Zsl) (n (l z ZyK) (n (t ZyK (k 256)) (n (.f1 23 (.f2 40 (.f2 111 (.byt [0, 1, 2, 2, 3, 3, 3, 3, 4, 4, 4, 4, 4, 4, 4, 4, 5, 5, 5, 5, 5, 5, 5, 5, 5, 5, 5, 5, 5, 5, 5, 5, 6, 6, 6, 6, 6, 6, 6, 6, 6, 6, 6, 6, 6, 6, 6, 6, 6, 6, 6, 6, 6, 6, 6, 6, 6, 6, 6, 6, 6, 6, 6, 6, 7, 7, 7, 7, 7, 7, 7, 7, 7, 7, 7, 7, 7, 7, 7, 7, 7, 7, 7, 7, 7, 7, 7, 7, 7, 7, 7, 7, 7, 7, 7, 7, 7, 7, 7, 7, 7, 7, 7, 7, 7, 7, 7, 7, 7, 7, 7, 7, 7, 7, 7, 7, 7, 7, 7, 7, 7, 7, 7, 7, 7, 7, 7, 7, 8, 8, 8, 8, 8, 8, 8, 8, 8, 8, 8, 8, 8, 8, 8, 8, 8, 8, 8, 8, 8, 8, 8, 8, 8, 8, 8, 8, 8, 8, 8, 8, 8, 8, 8, 8, 8, 8, 8, 8, 8, 8, 8, 8, 8, 8, 8, 8, 8, 8, 8, 8, 8, 8, 8, 8, 8, 8, 8, 8, 8, 8, 8, 8, 8, 8, 8, 8, 8, 8, 8, 8, 8, 8, 8, 8, 8, 8, 8, 8, 8, 8, 8, 8, 8, 8, 8, 8, 8, 8, 8, 8, 8, 8, 8, 8, 8, 8, 8, 8, 8, 8, 8, 8, 8, 8, 8, 8, 8, 8, 8, 8, 8, 8, 8, 8, 8, 8, 8, 8, 8, 8, 8, 8, 8, 8, 8, 8]) ZyK) (k 56))) (u 7 .rows (i ZiF .tt)))))) (i (t Zsl (k 256)) (n (l z ZyJ) (n (t ZyJ (k 256)) (n (.f1 23 (.f2 40 (.f2 111 (.byt [0, 1, 2, 2, 3, 3, 3, 3, 4, 4, 4, 4, 4, 4, 4, 4, 5, 5, 5, 5, 5, 5, 5, 5, 5, 5, 5, 5, 5, 5, 5, 5, 6, 6, 6, 6, 6, 6, 6, 6, 6, 6, 6, 6, 6, 6, 6, 6, 6, 6, 6, 6, 6, 6, 6, 6, 6, 6, 6, 6, 6, 6, 6, 6, 7, 7, 7, 7, 7, 7, 7, 7, 7, 7, 7, 7, 7, 7, 7, 7, 7, 7, 7, 7, 7, 7, 7, 7, 7, 7, 7, 7, 7, 7, 7, 7, 7, 7, 7, 7, 7, 7, 7, 7, 7, 7, 7, 7, 7, 7, 7, 7, 7, 7, 7, 7, 7, 7, 7, 7, 7, 7, 7, 7, 7, 7, 7, 7, 8, 8, 8, 8, 8, 8, 8, 8, 8, 8, 8, 8, 8, 8, 8, 8, 8, 8, 8, 8, 8, 8, 8, 8, 8, 8, 8, 8, 8, 8, 8, 8, 8, 8, 8, 8, 8, 8, 8, 8, 8, 8, 8, 8, 8, 8, 8, 8, 8, 8, 8, 8, 8, 8, 8, 8, 8, 8, 8, 8, 8, 8, 8, 8, 8, 8, 8, 8, 8, 8, 8, 8, 8, 8, 8, 8, 8, 8, 8, 8, 8, 8, 8, 8, 8, 8, 8, 8, 8, 8, 8, 8, 8, 8, 8, 8, 8, 8, 8, 8, 8, 8, 8, 8, 8, 8, 8, 8, 8, 8, 8, 8, 8, 8, 8, 8, 8, 8, 8, 8, 8, 8, 8, 8, 8, 8, 8, 8]) ZyJ) (k 48))) (u 7 .rows (i ZiF .tt)))))))) (i (t Zje (k 65536)) (.and (i (l (k 256) Zje) (n (l z ZxR) (n (t ZxR (k 256)) (n (.f1 23 (.f2 40 (.f2 111 (.byt [0, 1, 2, 2, 3, 3, 3, 3, 4, 4, 4, 4, 4, 4, 4, 4, 5, 5, 5, 5, 5, 5, 5, 5, 5, 5, 5, 5, 5, 5, 5, 5, 6, 6, 6, 6, 6, 6, 6, 6, 6, 6, 6, 6, 6, 6, 6, 6, 6, 6, 6, 6, 6, 6, 6, 6, 6, 6, 6, 6, 6, 6, 6, 6, 7, 7, 7, 7, 7, 7, 7, 7, 7, 7, 7, 7, 7, 7, 7, 7, 7, 7, 7, 7, 7, 7, 7, 7, 7, 7, 7, 7, 7, 7, 7, 7, 7, 7, 7, 7, 7, 7, 7, 7, 7, 7, 7, 7, 7, 7, 7, 7, 7, 7, 7, 7, 7, 7, 7, 7, 7, 7, 7, 7, 7, 7, 7, 7, 8, 8, 8, 8, 8, 8, 8, 8, 8, 8, 8, 8, 8, 8, 8, 8, 8, 8, 8, 8, 8, 8, 8, 8, 8, 8, 8, 8, 8, 8, 8, 8, 8, 8, 8, 8, 8, 8, 8, 8, 8, 8, 8, 8, 8, 8, 8, 8, 8, 8, 8, 8, 8, 8, 8, 8, 8, 8, 8, 8, 8, 8, 8, 8, 8, 8, 8, 8, 8, 8, 8, 8, 8, 8, 8, 8, 8, 8, 8, 8, 8, 8, 8, 8, 8, 8, 8, 8, 8, 8, 8, 8, 8, 8, 8, 8, 8, 8, 8, 8, 8, 8, 8, 8, 8, 8, 8, 8, 8, 8, 8, 8, 8, 8, 8, 8, 8, 8, 8, 8, 8, 8, 8, 8, 8, 8, 8, 8]) ZxR) (k 40))) (u 7 .rows (i ZiF .tt)))))) (i (t Zje (k 256)) (n (l z ZyW) (n (t ZyW (k 256)) (n (.f1 23 (.f2 40 (.f2 111 (.byt [0, 1, 2, 2, 3, 3, 3, 3, 4, 4, 4, 4, 4, 4, 4, 4, 5, 5, 5, 5, 5, 5, 5, 5, 5, 5, 5, 5, 5, 5, 5, 5, 6, 6, 6, 6, 6, 6, 6, 6, 6, 6, 6, 6, 6, 6, 6, 6, 6, 6, 6, 6, 6, 6, 6, 6, 6, 6, 6, 6, 6, 6, 6, 6, 7, 7, 7, 7, 7, 7, 7, 7, 7, 7, 7, 7, 7, 7, 7, 7, 7, 7, 7, 7, 7, 7, 7, 7, 7, 7, 7, 7, 7, 7, 7, 7, 7, 7, 7, 7, 7, 7, 7, 7, 7, 7, 7, 7, 7, 7, 7, 7, 7, 7, 7, 7, 7, 7, 7, 7, 7, 7, 7, 7, 7, 7, 7, 7, 8, 8, 8, 8, 8, 8, 8, 8, 8, 8, 8, 8, 8, 8, 8, 8, 8, 8, 8, 8, 8, 8, 8, 8, 8, 8, 8, 8, 8, 8, 8, 8, 8, 8, 8, 8, 8, 8, 8, 8, 8, 8, 8, 8, 8, 8, 8, 8, 8, 8, 8, 8, 8, 8, 8, 8, 8, 8, 8, 8, 8, 8, 8, 8, 8, 8, 8, 8, 8, 8, 8, 8, 8, 8, 8, 8, 8, 8, 8, 8, 8, 8, 8, 8, 8, 8, 8, 8, 8, 8, 8, 8, 8, 8, 8, 8, 8, 8, 8, 8, 8, 8, 8, 8, 8, 8, 8, 8, 8, 8, 8, 8, 8, 8, 8, 8, 8, 8, 8, 8, 8, 8, 8, 8, 8, 8, 8, 8]) ZyW) (k 32))) (u 7 .rows (i ZiF .tt)))))))))) (i (t (.f1 17 (a 2)) k2) (.and (i (l (k 65536) (.f1 17 (a 2))) (.and (i (l (k 256) Zt5) (n (l z Zy5) (n (t Zy5 (k 256)) (n (.f1 23 (.f2 40 (.f2 111 (.byt [0, 1, 2, 2, 3, 3, 3, 3, 4, 4, 4, 4, 4, 4, 4, 4, 5, 5, 5, 5, 5, 5, 5, 5, 5, 5, 5, 5, 5, 5, 5, 5, 6, 6, 6, 6, 6, 6, 6, 6, 6, 6, 6, 6, 6, 6, 6, 6, 6, 6, 6, 6, 6, 6, 6, 6, 6, 6, 6, 6, 6, 6, 6, 6, 7, 7, 7, 7, 7, 7, 7, 7, 7, 7, 7, 7, 7, 7, 7, 7, 7, 7, 7, 7, 7, 7, 7, 7, 7, 7, 7, 7, 7, 7, 7, 7, 7, 7, 7, 7, 7, 7, 7, 7, 7, 7, 7, 7, 7, 7, 7, 7, 7, 7, 7, 7, 7, 7, 7, 7, 7, 7, 7, 7, 7, 7, 7, 7, 8, 8, 8, 8, 8, 8, 8, 8, 8, 8, 8, 8, 8, 8, 8, 8, 8, 8, 8, 8, 8, 8, 8, 8, 8, 8, 8, 8, 8, 8, 8, 8, 8, 8, 8, 8, 8, 8, 8, 8, 8, 8, 8, 8, 8, 8, 8, 8, 8, 8, 8, 8, 8, 8, 8, 8, 8, 8, 8, 8, 8, 8, 8, 8, 8, 8, 8, 8, 8, 8, 8, 8, 8, 8, 8, 8, 8, 8, 8, 8, 8, 8, 8, 8, 8, 8, 8, 8, 8, 8, 8, 8, 8, 8, 8, 8, 8, 8, 8, 8, 8, 8, 8, 8, 8, 8, 8, 8, 8, 8, 8, 8, 8, 8, 8, 8, 8, 8, 8, 8, 8, 8, 8, 8, 8, 8, 8, 8]) Zy5) (k 24))) (u 7 .rows (i ZiF .tt)))))) (i (t Zt5 (k 256)) (n (l z Zx9) (n (t Zx9 (k 256)) (n (.f1 23 (.f2 40 (.f2 111 (.byt [0, 1, 2, 2, 3, 3, 3, 3, 4, 4, 4, 4, 4, 4, 4, 4, 5, 5, 5, 5, 5, 5, 5, 5, 5, 5, 5, 5, 5, 5, 5, 5, 6, 6, 6, 6, 6, 6, 6, 6, 6, 6, 6, 6, 6, 6, 6, 6, 6, 6, 6, 6, 6, 6, 6, 6, 6, 6, 6, 6, 6, 6, 6, 6, 7, 7, 7, 7, 7, 7, 7, 7, 7, 7, 7, 7, 7, 7, 7, 7, 7, 7, 7, 7, 7, 7, 7, 7, 7, 7, 7, 7, 7, 7, 7, 7, 7, 7, 7, 7, 7, 7, 7, 7, 7, 7, 7, 7, 7, 7, 7, 7, 7, 7, 7, 7, 7, 7, 7, 7, 7, 7, 7, 7, 7, 7, 7, 7, 8, 8, 8, 8, 8, 8, 8, 8, 8, 8, 8, 8, 8, 8, 8, 8, 8, 8, 8, 8, 8, 8, 8, 8, 8, 8, 8, 8, 8, 8, 8, 8, 8, 8, 8, 8, 8, 8, 8, 8, 8, 8, 8, 8, 8, 8, 8, 8, 8, 8, 8, 8, 8, 8, 8, 8, 8, 8, 8, 8, 8, 8, 8, 8, 8, 8, 8, 8, 8, 8, 8, 8, 8, 8, 8, 8, 8, 8, 8, 8, 8, 8, 8, 8, 8, 8, 8, 8, 8, 8, 8, 8, 8, 8, 8, 8, 8, 8, 8, 8, 8, 8, 8, 8, 8, 8, 8, 8, 8, 8, 8, 8, 8, 8, 8, 8, 8, 8, 8, 8, 8, 8, 8, 8, 8, 8, 8, 8]) Zx9) (k 16))) (u 7 .rows (i ZiF .tt)))))))) (i (t (.f1 17 (a 2)) (k 65536)) (.and (i (l (k 256) (.f1 17 (a 2))) (n (l z Zpm) (n (t Zpm (k 256)) (n (.f1 23 (.f2 40 (.f2 111 (.byt [0, 1, 2, 2, 3, 3, 3, 3, 4, 4, 4, 4, 4, 4, 4, 4, 5, 5, 5, 5, 5, 5, 5, 5, 5, 5, 5, 5, 5, 5, 5, 5, 6, 6, 6, 6, 6, 6, 6, 6, 6, 6, 6, 6, 6, 6, 6,
 6, 6, 6, 6, 6, 6, 6, 6, 6, 6, 6, 6, 6, 6, 6, 6, 6, 7, 7, 7, 7, 7, 7, 7, 7, 7, 7, 7, 7, 7, 7, 7, 7, 7, 7, 7, 7, 7, 7, 7, 7, 7, 7, 7, 7, 7, 7, 7, 7, 7, 7, 7, 7, 7, 7, 7, 7, 7, 7, 7, 7, 7, 7, 7, 7, 7, 7, 7, 7, 7, 7, 7, 7, 7, 7, 7, 7, 7, 7, 7, 7, 8, 8, 8, 8, 8, 8, 8, 8, 8, 8, 8, 8, 8, 8, 8, 8, 8, 8, 8, 8, 8, 8, 8, 8, 8, 8, 8, 8, 8, 8, 8, 8, 8, 8, 8, 8, 8, 8, 8, 8, 8, 8, 8, 8, 8, 8, 8, 8, 8, 8, 8, 8, 8, 8, 8, 8, 8, 8, 8, 8, 8, 8, 8, 8, 8, 8, 8, 8, 8, 8, 8, 8, 8, 8, 8, 8, 8, 8, 8, 8, 8, 8, 8, 8, 8, 8, 8, 8, 8, 8, 8, 8, 8, 8, 8, 8, 8, 8, 8, 8, 8, 8, 8, 8, 8, 8, 8, 8, 8, 8, 8, 8, 8, 8, 8, 8, 8, 8, 8, 8, 8, 8, 8, 8, 8, 8, 8, 8]) Zpm) (k 8))) (u 7 .rows (i ZiF .tt)))))) (i (t (.f1 17 (a 2)) (k 256)) (n (l z Zo0) (n (t Zo0 (k 256)) (n (.f1 23 (.f2 111 (.byt [0, 1, 2, 2, 3, 3, 3, 3, 4, 4, 4, 4, 4, 4, 4, 4, 5, 5, 5, 5, 5, 5, 5, 5, 5, 5, 5, 5, 5, 5, 5, 5, 6, 6, 6, 6, 6, 6, 6, 6, 6, 6, 6, 6, 6, 6, 6, 6, 6, 6, 6, 6, 6, 6, 6, 6, 6, 6, 6, 6, 6, 6, 6, 6, 7, 7, 7, 7, 7, 7, 7, 7, 7, 7, 7, 7, 7, 7, 7, 7, 7, 7, 7, 7, 7, 7, 7, 7, 7, 7, 7, 7, 7, 7, 7, 7, 7, 7, 7, 7, 7, 7, 7, 7, 7, 7, 7, 7, 7, 7, 7, 7, 7, 7, 7, 7, 7, 7, 7, 7, 7, 7, 7, 7, 7, 7, 7, 7, 8, 8, 8, 8, 8, 8, 8, 8, 8, 8, 8, 8, 8, 8, 8, 8, 8, 8, 8, 8, 8, 8, 8, 8, 8, 8, 8, 8, 8, 8, 8, 8, 8, 8, 8, 8, 8, 8, 8, 8, 8, 8, 8, 8, 8, 8, 8, 8, 8, 8, 8, 8, 8, 8, 8, 8, 8, 8, 8, 8, 8, 8, 8, 8, 8, 8, 8, 8, 8, 8, 8, 8, 8, 8, 8, 8, 8, 8, 8, 8, 8, 8, 8, 8, 8, 8, 8, 8, 8, 8, 8, 8, 8, 8, 8, 8, 8, 8, 8, 8, 8, 8, 8, 8, 8, 8, 8, 8, 8, 8, 8, 8, 8, 8, 8, 8, 8, 8, 8, 8, 8, 8, 8, 8, 8, 8, 8, 8]) Zo0)) (u 7 .rows (i ZiF .tt)))))))))))))))
theorem ZFW : Zb4 Try.prog ZFu 12 43 Ztw = ZFv := by kernel_rfl
theorem ZFx (S : Sig GG) (hS : OdSig S) : ZH S Try.prog 29 ZtU := by
 refine Zp S (C := ZDU) (fuel := 12) (Zab trivial ⟨⟨⟨by decide, ZEv S hS.fi.js.jt⟩, ⟨by decide, ZoT S hS.fi.js.jt⟩, trivial⟩, trivial⟩ trivial) fun ρ => ?_
 rw [ZFa]
 simp only [ZFc, ZrW, Zvb, Zye, ZBU, hS.fi.js.jt.u540, hS.fi.js.jt.u565, hS.fi.js.jt.u566, ZT, ZGO, VC.den, SX.den, Env.upd, Y3, ZY, beq_iff_eq, ZGG, beq_eq_false_iff_ne, ne_eq, ZGF, ZGE, Int.reduceToNat, Nat.reduceEqDiff, reduceIte, sB]
 intro h1 h2 h3 h4 h5
 refine ⟨fun h => ⟨?_, trivial⟩, fun h => ⟨fun h' => ⟨?_, trivial⟩, fun h' => ⟨?_, trivial⟩⟩⟩
 ·unfold ltB; simp; omega
 ·unfold ltB; simp; omega
 ·unfold ltB; simp; omega
theorem ZDJ (S : Sig GG) (hS : OdSig S) : ZH S Try.prog 81 ZtD := by
 refine Zp S (C := ZEI) (fuel := 12) (Zab ⟨Zm (by decide) (ZFx S hS), trivial⟩ ⟨⟨trivial, trivial, trivial⟩, trivial⟩ trivial) fun ρ => ?_
 rw [ZFO]
 simp only [ZEw, ZAP, ZgQ, Ztx, ZvZ, ZBo, ZsU, ZB7, ZAU, ZBQ, ZCM, ZwR, Zvv, hS.fi.js.jt.u540, hS.fi.js.jt.u560, hS.fi.js.jt.u565, hS.fi.js.jt.u566, hS.u621, hS.u622, hS.u623, hS.u624, ZT, ZGO, VC.den, SX.den, Env.upd, Y3, ZY, beq_iff_eq, ZGG, beq_eq_false_iff_ne, ne_eq, ZGF, ZGE, Int.reduceToNat, Nat.reduceEqDiff, reduceIte, sB]
 generalize (ρ 1).tR = P
 generalize (ρ 5).tR = RT
 generalize ZE (U.co S Srt.g (ρ 6)) = L
 generalize (ρ 2).tI = n
 intro h0 h1 h2 hv hn
 subst h1
 refine ⟨rfl, ZxV, fun i Q i0 hl g1 => ⟨fun hi => ⟨by omega, ZGS _, ZCU g1 i0 (by omega), fun j Q2 j0 j1 hl2 g2 => ⟨fun hj => ?_, fun hj => ?_⟩⟩, fun hi => ⟨?_, trivial⟩⟩⟩
 ·obtain ⟨t1, t2, t3, t4, t5⟩ := ZyP g2 hj hv hn
  refine ⟨by omega, by omega, ⟨by omega, by omega⟩, by omega, by omega, by omega, t1, t2, t3, fun r hr => ⟨fun hneg => ⟨by omega, by omega, t4 ?_, trivial⟩, fun hpos => ⟨⟨by omega, by omega⟩, by omega, by omega, by omega, t5 ?_, trivial⟩⟩⟩
  ·have : ltB r 0 = true := by unfold ltB; simp; omega
   rw [this] at hr
   have := Zk5.mp hr.symm
   exact this
  ·intro hlt
   have : ltB r 0 = false := by unfold ltB; simp; omega
   rw [this] at hr
   have hf : ltB (Zxe RT L (Q2.getD j.toNat [])) (Zxe RT L (Q2.getD (j + -1).toNat [])) = false := hr.symm
   have ht : ltB (Zxe RT L (Q2.getD j.toNat [])) (Zxe RT L (Q2.getD (j + -1).toNat [])) = true := Zk5.mpr hlt
   rw [ht] at hf; cases hf
 ·exact ⟨⟨by omega, by omega⟩, by omega, by omega, by omega, ZwH g2 hj j0, trivial⟩
 ·obtain ⟨q1, q2⟩ := g1
  refine ⟨q1, ?_⟩
  have q2 : ZzD RT L (Q.take i.toNat) := q2
  rw [ZGT (by omega)] at q2
  exact q2
theorem ZFw (S : Sig GG) (hS : OdSig S) : ZH S Try.prog 63 Zu3 := by
 refine Zp S (C := ZDM) (fuel := 12) (Zab ⟨Zm (by decide) (ZDJ S hS), trivial⟩ trivial trivial) fun ρ => ?_
 rw [ZE2]
 simp only [ZFS, ZAw, hS.fi.js.jt.u560, hS.u621, hS.u622, ZT, ZGO, VC.den, SX.den, Env.upd, Y3, ZY, beq_iff_eq, ZGG, beq_eq_false_iff_ne, ne_eq, ZGF, ZGE, Int.reduceToNat, Nat.reduceEqDiff, reduceIte, sB]
 intro h0 h1 h2 hv hn
 exact ⟨⟨by omega, by omega⟩, fun _ _ _ => trivial, trivial⟩
theorem ZFj (S : Sig GG) (hS : OdSig S) : ZH S Try.prog 43 Ztw := by
 refine Zp S (C := ZFu) (fuel := 12) (Zab ⟨Zm (by decide) (ZFw S hS), trivial⟩ trivial trivial) fun ρ => ?_
 rw [ZFW]
 simp only [ZFv, Zje, Zsl, ZyK, ZiF, ZyJ, ZxR, ZyW, Zt5, Zy5, Zx9, Zpm, Zo0, hS.fi.js.jt.u560, hS.u621, hS.u622, ZT, ZGO, VC.den, SX.den, Env.upd, Y3, ZY, beq_iff_eq, ZGG, beq_eq_false_iff_ne, ne_eq, ZGF, ZGE, Int.reduceToNat, Nat.reduceEqDiff, reduceIte, sB]
 generalize (ρ 2).tI = n
 intro h0 h1 h2 hv hn
 have e17 : (ap1 17 (U.int n : U GG)) = .int n := by show U.int (IntKind.u64.wrap n) = _; rw [ZyR h0 h2]
 have e14 : (ap1 14 (U.int n : U GG)) = .int n := by show U.int (IntKind.u8.wrap n) = _; rw [ZrS h0 h2]
 simp only [e17, e14, U.tIi]
 refine ⟨fun h => absurd h (by omega), fun _ => ⟨fun h => absurd h (by omega), fun _ => ⟨fun h => absurd h (by omega), fun _ => ⟨by omega, by omega, ⟨by omega, ?_⟩, fun _ _ => trivial⟩⟩⟩⟩
 exact Int.le_trans (Int.ofNat_le.2 (Nat.le_of_lt (UInt8.toNat_lt _))) (by decide)
def YT (RT : List (List Int)) (L : List Tx) (b : Int) : Tx := atT L (ZcF b RT : Nat)
def okU (RT : List (List Int)) (L : List Tx) (t : Int) (u : List Int) : Prop := g0 u ≠ t -> ¬ (YT RT L (g0 u)).com < (YT RT L t).beg
def ZDO (k RT : List (List Int)) (M : List (Int × Int)) (L : List Tx) : Prop :=
 (∀ u ∈ k.drop 1, okU RT L (g0 (k.getD 0 [])) u) /\ (YT RT L (g0 (k.getD 0 []))).bad = [] /\ ∀ r ∈ (YT RT L (g0 (k.getD 0 []))).rds, ZR M (r.drop 1) = true
structure OfSig (S : Sig GG) : Prop where
 od : OdSig S
 u630 : ∀ a b c d, S.usr 630 a b c d = .bool (Zl (∀ j : Nat, (j : Int) < c.tI -> ZR b.tM ((a.tR.getD j []).drop 1) = true))
 u631 : ∀ a b c d, S.usr 631 a b c d = .bool (Zl (ZDO a.tR b.tR c.tM (ZE d)))
 u633 : ∀ a b c d, S.usr 633 a b c d = .bool (Zl (∀ t ∈ ZE a, t.rds.length <= 1000000))
 u632 : ∀ a b c d, S.usr 632 a b c d = .bool (Zl (∀ j : Nat, (j : Int) < d.tI -> okU b.tR (ZE c) (g0 (a.tR.getD 0 [])) ((a.tR.drop 1).getD j [])))
def ZtV : Ctr := ⟨[.int, .int, .rows, .int, .int, .rows, .g], [.one (.cap (.fn 44) (.ptr (ai 0) 0)), .one sF], [.cel (ai 0) 0 [slC (ai 1) (Zk (rA 2)) (ai 3) 1], pAr (ai 1) (rA 2) (ai 4), txC (rA 5) (gA 6)],
 [usB 620 (rA 2) z0 z0, eLe (Zk (rA 2)) (.int 12), usB 560 (rA 2) (rA 5) z0, usB 621 (rA 2) z0 z0], [.int, .int, .rows], .one (slC (ai 7) (Zk (rA 2)) (ai 8) 1), [pAr (ai 1) (rA 2) (ai 4), txC (rA 5) (gA 6), pAr (ai 7) (rA 9) (ai 8)],
 [.us .bool 622 (rA 9) (rA 2) (rA 5) (gA 6), eLe (Zk (rA 2)) (ai 8), .f2 50 (eLe z0 (ai 7)) (.f2 45 (Zk (rA 2)) z0), .f2 45 (Zk (rA 9)) (Zk (rA 2))]⟩
def ZFq : Cx := { specs := [(42, [Zdh]), (43, [Ztw])], anns := [] }
def ftA : List Srt := [.int, .int, .amap, .int, .rows, .int, .int, .rows, .g]
def ftK : SX := ZaD (Zqv (ai 0)) (rA 4)
def ftX : SX := .us .bool 631 ftK (rA 7) (mA 2) (gA 8)
def Zwa : Ctr := ⟨ftA, [.one (.ptr (ai 0) 0), .one (.map (ai 1)), .one (slC (ai 3) (Zk (rA 4)) (ai 5) 1)], [scC (ai 1) (mA 2), pAr (ai 3) (rA 4) (ai 6), txC (rA 7) (gA 8)],
 [usB 565 (rA 7) (ai 0) z0, usB 560 (rA 4) (rA 7) z0, eLe (Zk (rA 4)) (.int 1000), eLe (Zk (rA 4)) (ai 5), eLe z0 (ai 1), usB 633 (gA 8) z0 z0], [.bool], .one (.bool (qA 9)), [scC (ai 1) (mA 2), pAr (ai 3) (rA 4) (ai 6), txC (rA 7) (gA 8)], [.f2 48 (qA 9) ftX]⟩
def ftsI : Inv := ⟨[.int], [(11, .one (.int .i64 (di 0)))], [], [eLe z0 (di 0), eLe (di 0) (Zk (rA 4)), .us .bool 632 ftK (rA 7) (gA 8) (di 0)], .f2 41 (Zk (rA 4)) (di 0)⟩
def ftsE : SX := .f2 45 (nt (rA 4) (ai 10) 0) (ai 0)
def ftR : SX := usR 545 (gA 8) (ixB (rA 7) (ai 0)) z0
def ftsJ : Inv := ⟨[.int], [(8, .one (.int .i64 (di 0)))], [], [eLe z0 (di 0), eLe (di 0) (Zk ftR), usB 630 ftR (mA 2) (di 0)], .f2 41 (Zk ftR) (di 0)⟩
def ZD8 : Cx := { specs := [(24, [Zhx])], anns := [(45, [(1, .ghost ZET []), (2, .inv ftsI), (4, .split ftsE), (4, .iff (ZcH ftsE)), (4, .ghost Zyn [.tmp 9, .tmp 11, .tmp 0]), (500004, .iff (ZcH ftsE)), (500004, .ghost ZxX [.tmp 0]), (7, .ghost Zpi [.tmp 0]), (500007, .ghost Zi0 [.tmp 0])]), (89, [(2, .inv ftsJ)])] }
def ZEA : VC := i (p 620 (r 2)) (i (l (.f1 32 (r 2)) (k 12)) (i (c 560 (r 2) (r 5)) (i (p 621 (r 2)) (n (l (.f1 32 (r 2)) (k 1000000)) (u 7 .int (u 8 .int (i (l (.f1 32 (r 2)) (a 8)) (i (.f2 50 (l z (a 7)) (e (.f1 32 (r 2)) z)) (n (e (.f1 32 (r 2)) (.f1 32 (r 2))) (u 9 .rows (i (.us .bool 622 (r 9) (r 2) (r 5) (g 6)) (n (e (.f1 32 (r 9)) (.f1 32 (r 2))) .tt))))))))))))
theorem ZE9 : Zb4 Try.prog ZFq 12 27 ZtV = ZEA := by kernel_rfl
def Zwq : SX := .f2 124 (.f2 122 (a 0) (.f1 152 z)) (r 4)
def Zp9 : SX := .f3 112 (r 4) (a 10) z
def ZBc : SX := e Zp9 (a 0)
def ZpR : SX := .f2 40 (a 10) (k 1)
def ZAC : SX := .f1 23 ZpR
def ZCK : SX := .f2 41 (.f1 32 (r 4)) ZpR
def ZCq : SX := l z ZCK
def ZCo : SX := t ZCK (.f2 41 (.f1 32 (r 4)) (a 10))
def ZBD : SX := l z ZpR
def ZAO : SX := l ZpR (.f1 32 (r 4))
def Zup : SX := .us .bool 632 Zwq (r 7) (g 8) ZpR
def ZqS : SX := d 542 (g 8) (d 566 (r 7) Zp9)
def ZbY : SX := d 566 (r 7) (a 0)
def Ztb : SX := d 541 (g 8) ZbY
def Zpp : SX := .us .bool 631 Zwq (r 7) (m 2) (g 8)
def Zww : SX := .f2 48 (.bool false) Zpp
def Zr1 : SX := .f3 112 (r 7) ZbY z
def Zvd : SX := v 552 (g 8)
def Zcr : SX := wR 545 (g 8) ZbY
def Zdu : SX := .f1 32 Zcr
def Zwr : SX := .f1 30 (wN 546 (g 8) ZbY)
def Zpz : SX := e Zwr z
def Zpx : SX := l z ZbY
def Zhh : SX := .f2 40 (a 11) (k 1)
def Zri : SX := .f2 41 Zdu Zhh
def ZGs : VC := i (c 565 (r 7) (a 0)) (i (c 560 (r 4) (r 7)) (i (l (.f1 32 (r 4)) (k 1000)) (i (l (.f1 32 (r 4)) (a 5)) (i (l z (a 1)) (i (p 633 (g 8)) (u 9 .int (i (l z (a 9)) (i (c 558 (r 7) (g 8)) (n (y 632 Zwq (r 7) (g 8)) (u 10 .int (i (l z (a 10)) (i (l (a 10) (.f1 32 (r 4))) (i (.us .bool 632 Zwq (r 7) (g 8) (a 10)) (.and (i (t (a 10) (.f1 32 (r 4))) (.and (i ZBc (n (l z Zp9) (n ZAC (n ZCq (n ZCo (n ZBD (n ZAO (n Zup .tt)))))))) (i (.f1 2 ZBc) (n (c 565 (r 7) Zp9) (n (.f1 2 (e (a 0) Zp9)) (.and (i (t ZqS Ztb) (n Zww .tt)) (i (l Ztb ZqS) (n ZAC (n ZCq (n ZCo (n ZBD (n ZAO (n Zup .tt))))))))))))) (i (l (.f1 32 (r 4)) (a 10)) (i (e (a 0) Zr1) (i (t ZbY Zvd) (i (l Zdu (.f3 112 (r 7) ZbY (k 3))) (i (l Zwr (.f3 112 (r 7) ZbY (k 5))) (i (.f2 50 (l z (.f3 112 (r 7) ZbY (k 2))) (e Zdu z)) (i (.f2 50 (l z (.f3 112 (r 7) ZbY (k 4))) Zpz) (i (l z (.f3 112 (r 7) ZbY (k 1))) (i (l z Zr1) (i (e (.f1 32 (r 7)) Zvd) (.and (i Zpz (n (c 630 Zcr (m 2)) (u 11 .int (i (l z (a 11)) (i (l (a 11) Zdu) (i (y 630 Zcr (m 2) (a 11)) (.and (i (t (a 11) Zdu) (u 12 .int (i (l z (a 12)) (u 13 .bool (i (.f2 48 (q 13) (c 530 (m 2) (.f2 122 (.f3 112 Zcr (a 11) (k 1)) (.f2 122 (.f3 112 Zcr (a 11) (k 2)) (.f2 122 (.f1 35 (.f1 36 (.f3 112 Zcr (a 11) (k 3)))) (.f2 122 (.f1 35 (.f1 36 (.f3 112 Zcr (a 11) (k 4)))) (.f2 122 (.f1 3 (.f1 2 (e (.f3 112 Zcr (a 11) (k 5)) z))) (.f2 122 (.f3 112 Zcr (a 11) (k 6)) (.f1 152 z))))))))) (.and (i (.f1 2 (q 13)) (n Zpx (n (.f2 48 (t (a 11) z) Zpp) .tt))) (i (.f1 2 (.f1 2 (q 13))) (n (.f1 23 Zhh) (n (l z Zri) (n (t Zri (.f2 41 Zdu (a 11))) (n (l z Zhh) (n (l Zhh Zdu) (n (y 630 Zcr (m 2) Zhh) .tt))))))))))))) (i (l Zdu (a 11)) (n Zpx (n (.f2 48 (.bool true) Zpp) .tt)))))))))) (i (.f1 2 Zpz) (n Zpx (n Zww .tt))))))))))))))))))))))))))))
theorem ZEq : Zb4 Try.prog ZD8 12 45 Zwa = ZGs := by kernel_rfl
theorem ZDS (S : Sig GG) (hS : OfSig S) : ZH S Try.prog 27 ZtV := by
 refine Zp S (C := ZFq) (fuel := 12) (Zab ⟨Zm (by decide) (ZGe S hS.od.u620), Zm (by decide) (ZFj S hS.od), trivial⟩ trivial trivial) fun ρ => ?_
 rw [ZE9]
 simp only [ZEA, hS.od.fi.js.jt.u560, hS.od.u620, hS.od.u621, hS.od.u622, ZT, ZGO, VC.den, SX.den, Env.upd, Y3, ZY, beq_iff_eq, ZGG, beq_eq_false_iff_ne, ne_eq, ZGF, ZGE, Int.reduceToNat, Nat.reduceEqDiff, reduceIte, sB]
 generalize (ρ 2).tR = P
 intro h1 h2 h3 h4
 refine ⟨by omega, fun b c _ _ => ⟨trivial, fun Q hQ => ⟨?_, trivial⟩⟩⟩
 have := hQ.1.length_eq
 omega
theorem ZFC (S : Sig GG) (hS : OfSig S) : ZH S Try.prog 45 Zwa := by
 refine Zp S (C := ZD8) (fuel := 12) (Zab ⟨Zm (by decide) (ZnS S hS.od.fi.js.jt.jb), trivial⟩ ⟨⟨⟨by decide, Zzb S hS.od.fi.js.jt⟩, trivial, trivial, trivial, ⟨by decide, ZvT S hS.od.fi.js.jt⟩, trivial, ⟨by decide, ZoT S hS.od.fi.js.jt⟩, ⟨by decide, Zcs S hS.od.fi.js.jt⟩, ⟨by decide, Zcg S hS.od.fi.js.jt⟩, trivial⟩, ⟨trivial, trivial⟩, trivial⟩ trivial) fun ρ => ?_
 rw [ZEq]
 simp only [ZGs, Zwq, Zp9, ZBc, ZpR, ZAC, ZCK, ZCq, ZCo, ZBD, ZAO, Zup, ZqS, ZbY, Ztb, Zpp, Zww, Zr1, Zvd, Zcr, Zdu, Zwr, Zpz, Zpx, Zhh, Zri, hS.od.fi.js.jt.jb.u530, hS.od.fi.js.jt.u541, hS.od.fi.js.jt.u542, hS.od.fi.js.jt.u545, hS.od.fi.js.jt.u546, hS.od.fi.js.jt.u552, hS.od.fi.js.jt.u558, hS.od.fi.js.jt.u560, hS.od.fi.js.jt.u565, hS.od.fi.js.jt.u566, hS.u630, hS.u631, hS.u632, hS.u633, ZT, ZGO, VC.den, SX.den, Env.upd, Y3, ZY, beq_iff_eq, ZGG, beq_eq_false_iff_ne, ne_eq, ZGF, ZGE, Int.reduceToNat, Nat.reduceEqDiff, reduceIte, sB]
 simp only [Ziv, Zfg]
 generalize (ρ 4).tR = P
 generalize (ρ 7).tR = RT
 generalize (ρ 2).tM = M
 generalize ZE (U.co S Srt.g (ρ 8)) = L
 generalize (ρ 0).tI = t
 generalize (ρ 5).tI = c5
 generalize (ρ 1).tI = mb
 intro ht hv h1 h2 h3 hrl bx hbx hpl
 have bl0 : ∀ b, ZmL RT b -> 0 <= b := fun b hb => by
  obtain ⟨k, hk, rfl⟩ := hb
  exact hpl.2.2 _ (by rw [ZGH, ZGK hk]; exact ZG4 hk)
 refine ⟨fun j hj => absurd hj (by omega), fun i i0 i1 g1 => ?_⟩
 obtain ⟨n, rfl⟩ := ZGz i0
 have en : ((n : Int) + 1).toNat = n + 1 := by omega
 have gd : ∀ (j : Nat) (hj : j < P.length), P.getD j [] = P[j] := fun j hj => by rw [ZGH, ZGK hj]; rfl
 have hb : n < P.length -> ZmL RT (g0 (P.getD n [])) := fun hn => by
  obtain ⟨b, e, hb⟩ := hv P[n] (ZG4 hn)
  rw [gd n hn, e]; exact hb
 have step : okU RT L t (P.getD n []) -> ∀ j : Nat, (j : Int) < (n : Int) + 1 -> okU RT L t (P.getD j []) := fun ho j hj => by
  rcases ZGB j n with q | q
  ·exact g1 j (by omega)
  ·have : j = n := by omega
   subst this; exact ho
 have nofit : ∀ n : Nat, n < P.length -> ¬ okU RT L t (P.getD n []) -> false = Zl (ZDO ([t] :: P) RT M L) := fun n hn h => by
  refine (Zz fun hf => h ?_).symm
  exact hf.1 (P.getD n []) (by rw [gd n hn]; exact ZG4 hn)
 simp only [ZGO]
 refine ⟨fun hn => ?_, fun hn => ?_⟩
 ·have hn : n < P.length := by omega
  have hbn := hb hn
  refine ⟨fun he => ⟨bl0 _ hbn, ⟨by omega, by omega⟩, by omega, by omega, by omega, by omega, step (fun hne => absurd he hne), trivial⟩, fun hne => ⟨hbn, fun e => hne e.symm, fun hlt => ⟨?_, trivial⟩, fun hge => ⟨⟨by omega, by omega⟩, by omega, by omega, by omega, by omega, step (fun _ => ?_), trivial⟩⟩⟩
  ·exact nofit n hn fun ho => ho hne hlt
  ·unfold YT
   show ¬ (atT L (ZcF ((P.getD n []).getD 0 0) RT : Nat)).com < _
   omega
 ·have hall : ∀ u ∈ P, okU RT L t u := fun u hu => by
   obtain ⟨j, hj, rfl⟩ := List.getElem_of_mem hu
   rw [<- gd j hj]; exact g1 j (by omega)
  intro _ _ _ _ _ _ _ _ _
  generalize hT : atT L (ZcF t RT : Nat) = T at *
  have hT2 : YT RT L t = T := hT
  have hTl : T.rds.length <= 1000000 := by
   rw [<- hT]
   unfold atT
   rw [ZGO]
   rcases ZGB (ZcF t RT) L.length with q | q
   ·rw [Yl q]; exact hrl _ (ZG4 q)
   ·rw [ZGH, List.getElem?_eq_none q]; exact Nat.zero_le _
  have gr : ∀ (j : Nat) (hj : j < T.rds.length), T.rds.getD j [] = T.rds[j] := fun j hj => by rw [ZGH, ZGK hj]; rfl
  refine ⟨fun hb0 => ⟨fun j hj => absurd hj (by omega), fun i i0 i1 g2 => ?_⟩, fun hb0 => ⟨by omega, ?_, trivial⟩⟩
  ·obtain ⟨m, rfl⟩ := ZGz i0
   simp only [ZGO]
   refine ⟨fun hm b hbb v hv2 => ⟨fun hno => ⟨by omega, ?_, trivial⟩, fun hyes => ⟨⟨by omega, by omega⟩, by omega, by omega, by omega, by omega, fun j hj => ?_, trivial⟩⟩, fun hm => ⟨by omega, ?_, trivial⟩⟩
   ·have hv3 : ZR M ((T.rds.getD m []).drop 1) = false := by rw [<- hv2]; simpa using hno
    have : ltB (m : Int) 0 = false := by unfold ltB; simp
    rw [this]
    refine (Zz fun hf => ?_).symm
    have h := hf.2.2
    have hh := h (T.rds.getD m []) (by show _ ∈ (YT RT L t).rds; rw [hT2, gr m (by omega)]; exact ZG4 (by omega))
    rw [hv3] at hh; cases hh
   ·have hv3 : ZR M ((T.rds.getD m []).drop 1) = true := by rw [<- hv2]; simpa using hyes
    rcases ZGB j m with q | q
    ·exact g2 j (by omega)
    ·have : j = m := by omega
     subst this; exact hv3
   ·refine (Zy ⟨hall, ?_, fun r hr => ?_⟩).symm
    ·show (YT RT L t).bad = []
     rw [hT2]; exact ZGW (by omega)
    ·have hr : r ∈ (YT RT L t).rds := hr
     rw [hT2] at hr
     obtain ⟨j, hj, rfl⟩ := List.getElem_of_mem hr
     rw [<- gr j hj]; exact g2 j (by omega)
  ·refine (Zz fun hf => hb0 ?_).symm
   have h := hf.2.1
   have h : (YT RT L t).bad = [] := h
   rw [hT2] at h
   rw [h]; rfl
end
end Go.Proofs.Ytidlngnhjffepaa
