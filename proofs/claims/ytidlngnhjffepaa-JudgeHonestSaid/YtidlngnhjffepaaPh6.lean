/- Part of a proof. -/
import Derived.Test.YtidlngnhjffepaaPh5
import Derived.Sort.Walk0
import Derived.Shelf.Sort.Plain
import Derived.Shelf.Slices.In.SortNone
import Derived.Test.YtidlngnhjffepaaProg
import Derived.Shelf.GgSortFunc.RowK
import Derived.Shelf.SlSortCmp.Insertion
import Derived.Shelf.GgSortFunc.InsertionK
import Derived.Test.YtidlngnhjffepaaPh4
import Derived.RangeFuncBox
import Derived.RangeFuncLeaves
import Derived.RangeFuncGives
import Derived.Maps.AppendAt
import Derived.Shelf.Abstract
import Derived.Shelf.SlIter.Collect
import Derived.WalkKit
import Derived.OwnWalkIn
import Derived.TacticsInMore
import Derived.LoopNIn
import Derived.LoopIn
import Derived.Shelf.SlMaps.Clone
set_option linter.unusedSimpArgs false
set_option linter.unusedVariables false
set_option maxRecDepth 20000
namespace Go.Proofs.Ytidlngnhjffepaa
noncomputable section
open Go.Eng
theorem YR.congr {F G : Int -> Int -> Prop} {n : Int} {s : Int × Int} (h : YR F n s) (e : ∀ i r, F i r ↔ G i r) : YR G n s := by
 have : F = G := by funext i r; exact propext (e i r)
 rw [<- this]; exact h
theorem YR.note {F : Int -> Int -> Prop} {n : Int} {s : Int × Int} (h : YR F n s) {i0 r0 : Int} (hi : i0 < n) (hr : r0 ≠ 0) : YR (fun i r => F i r \/ (i = i0 /\ r = r0)) n (ZeN s i0 r0) := by
 unfold ZeN
 rcases h with ⟨rfl, hno⟩ | ⟨h1, h2, h3⟩
 ·rw [if_pos hi]
  exact .inr ⟨hr, .inr ⟨rfl, rfl⟩, fun i r q => by
   rcases q with q | q
   ·exact absurd q (hno i r)
   ·rw [q.1]; exact ZN4 _⟩
 ·split
  ·rename_i q
   refine .inr ⟨hr, .inr ⟨rfl, rfl⟩, fun i r q2 => ?_⟩
   show i0 <= i
   rcases q2 with q2 | q2
   ·have := h3 i r q2; omega
   ·omega
  ·rename_i q
   refine .inr ⟨h1, .inl h2, fun i r q2 => ?_⟩
   rcases q2 with q2 | q2
   ·exact h3 i r q2
   ·omega
theorem Zsi {F : Int -> Int -> Prop} {n : Int} {s : Int × Int} (h : YR F n s) (l : List Int) (hl : ∀ i ∈ l, i < n) : ∀ m ≤ l.length, YR (fun i r => F i r \/ (r = 3 /\ i ∈ l.take m)) n (ZF8 s l m)
 | 0, _ => h.congr fun i r => by simp
 | m + 1, hm => by
  have ih := Zsi h l hl m (by omega)
  have hlt : m < l.length := by omega
  have e : l.getD m 0 = l[m] := by rw [ZNT, ZNW hlt, ZNO]
  have := ih.note (i0 := l.getD m 0) (r0 := 3) (hl _ (by rw [e]; exact ZOg hlt)) (by decide)
  refine this.congr fun i r => ?_
  rw [<- List.take_append_getElem hlt, ZOe, ZNM, e]
  constructor
  ·rintro ((a | ⟨a, b⟩) | ⟨a, b⟩)
   ·exact .inl a
   ·exact .inr ⟨a, .inl b⟩
   ·exact .inr ⟨b, .inr a⟩
  ·rintro (a | ⟨a, b | b⟩)
   ·exact .inl (.inl a)
   ·exact .inl (.inr ⟨a, b⟩)
   ·exact .inr ⟨b, a⟩
theorem Zr0 {F : Int -> Int -> Prop} {n : Int} {s : Int × Int} (h : YR F n s) (f : Ent -> Bool) (l : List (List Int)) (hl : ∀ r ∈ l, g0 r < n) : ∀ m ≤ l.length, YR (fun i r => F i r \/ (r = 4 /\ ∃ R ∈ l.take m, i = g0 R /\ f (R.drop 1) = false)) n (Zk5 f s l m)
 | 0, _ => h.congr fun i r => by simp
 | m + 1, hm => by
  have ih := Zr0 h f l hl m (by omega)
  have hlt : m < l.length := by omega
  have e : l.getD m [] = l[m] := by rw [ZNT, ZNW hlt, ZNO]
  have e2 := (List.take_append_getElem hlt).symm
  unfold Zk5
  rw [e]
  split
  ·rename_i q
   refine ih.congr fun i r => ?_
   rw [e2]
   constructor
   ·rintro (a | ⟨a, R, hR, b⟩)
    ·exact .inl a
    ·exact .inr ⟨a, R, List.mem_append.2 (.inl hR), b⟩
   ·rintro (a | ⟨a, R, hR, b⟩)
    ·exact .inl a
    ·rcases List.mem_append.1 hR with hR | hR
     ·exact .inr ⟨a, R, hR, b⟩
     ·rw [List.mem_singleton.1 hR, q] at b; cases b.2
  ·rename_i q
   have q : f ((l[m]).drop 1) = false := by simpa using q
   have := ih.note (i0 := g0 l[m]) (r0 := 4) (hl _ (ZOg hlt)) (by decide)
   refine this.congr fun i r => ?_
   rw [e2]
   constructor
   ·rintro ((a | ⟨a, R, hR, b⟩) | ⟨a, b⟩)
    ·exact .inl a
    ·exact .inr ⟨a, R, List.mem_append.2 (.inl hR), b⟩
    ·exact .inr ⟨b, l[m], List.mem_append.2 (.inr (List.mem_singleton.2 rfl)), a, q⟩
   ·rintro (a | ⟨a, R, hR, b⟩)
    ·exact .inl (.inl a)
    ·rcases List.mem_append.1 hR with hR | hR
     ·exact .inl (.inr ⟨a, R, hR, b⟩)
     ·rw [List.mem_singleton.1 hR] at b; exact .inr ⟨b.1, a⟩
theorem Zlv {f : Ent -> Bool} {L : List (List Int)} {place N : Int} (hs : L.Pairwise fun a b => g0 a <= g0 b) (hN : ∀ q < L.length, g0 (L.getD q []) < N) :
  ∀ (n p : Nat) {F : Int -> Int -> Prop} {s : Int × Int}, n = L.length - p -> p <= L.length -> YR F N s →
  p <= (Zvf f L place n p s).1 /\ (Zvf f L place n p s).1 <= L.length /\ (∀ q, p <= q -> q < (Zvf f L place n p s).1 -> g0 (L.getD q []) < place) /\ (∀ q, (Zvf f L place n p s).1 <= q -> q < L.length -> place <= g0 (L.getD q [])) ∧
  YR (fun i r => F i r \/ (r = 4 /\ ∃ q, p <= q /\ q < (Zvf f L place n p s).1 /\ i = g0 (L.getD q []) /\ f ((L.getD q []).drop 1) = false)) N (Zvf f L place n p s).2
 | 0, p, F, s, hn, hp, h => ⟨ZNJ _, hp, fun q a b => absurd b (Nat.not_lt.2 a), fun q a b => by have a : p <= q := a; omega, h.congr fun i r => ⟨.inl, fun q => by
   rcases q with q | ⟨_, q, a, b, _⟩
   ·exact q
   ·have b : q < p := b; omega⟩⟩
 | n + 1, p, F, s, hn, hp, h => by
  unfold Zvf
  by_cases q : p < L.length /\ g0 (L.getD p []) < place
  ·rw [if_pos q]
   have hF : YR (fun i r => F i r \/ (r = 4 /\ i = g0 (L.getD p []) /\ f ((L.getD p []).drop 1) = false)) N (if f ((L.getD p []).drop 1) = true then s else ZeN s (g0 (L.getD p [])) 4) := by
    split
    ·rename_i t
     exact h.congr fun i r => ⟨.inl, fun q => by
      rcases q with q | ⟨_, _, q⟩
      ·exact q
      ·rw [t] at q; cases q⟩
    ·rename_i t
     have t : f ((L.getD p []).drop 1) = false := by simpa using t
     exact (h.note (hN p q.1) (by decide)).congr fun i r => ⟨fun q => by
      rcases q with q | ⟨a, b⟩
      ·exact .inl q
      ·exact .inr ⟨b, a, t⟩, fun q => by
      rcases q with q | ⟨a, b, _⟩
      ·exact .inl q
      ·exact .inr ⟨b, a⟩⟩
   obtain ⟨a1, a2, a3, a4, a5⟩ := Zlv (f := f) (place := place) hs hN n (p + 1) (by omega) (by omega) hF
   generalize Zvf f L place n (p + 1) _ = e at *
   refine ⟨by omega, a2, fun t h1 h2 => ?_, a4, a5.congr fun i r => ?_⟩
   ·by_cases hte : t = p
    ·rw [hte]; exact q.2
    ·exact a3 t (by omega) h2
   ·constructor
    ·rintro ((b | ⟨b, c, d⟩) | ⟨b, t, c, d, g⟩)
     ·exact .inl b
     ·exact .inr ⟨b, p, ZNJ _, by omega, c, d⟩
     ·exact .inr ⟨b, t, by omega, d, g⟩
    ·rintro (b | ⟨b, t, c, d, g⟩)
     ·exact .inl (.inl b)
     ·by_cases hte : t = p
      ·rw [hte] at g; exact .inl (.inr ⟨b, g⟩)
      ·exact .inr ⟨b, t, by omega, d, g⟩
  ·rw [if_neg q]
   refine ⟨ZNJ _, hp, fun t a b => absurd b (Nat.not_lt.2 a), fun t a b => ?_, h.congr fun i r => ⟨.inl, fun q => by
    rcases q with q | ⟨_, t, a, b, _⟩
    ·exact q
    ·have b : t < p := b; omega⟩⟩
   have a : p <= t := a
   have hp2 : p < L.length := by omega
   have h0 : place <= g0 (L.getD p []) := by
    by_cases z : g0 (L.getD p []) < place
    ·exact absurd ⟨hp2, z⟩ q
    ·omega
   by_cases hte : t = p
   ·rw [hte]; exact h0
   ·have := (List.pairwise_iff_getElem.1 hs) p t hp2 b (by omega)
    rw [ZNT, ZNW hp2, ZNO] at h0
    rw [ZNT, ZNW b, ZNO]
    omega
/-! ### What stands, and what the reference lets stand -/
theorem Zeq (x : List Ent) {m n : Nat} (h : m <= n) : (Zw x m).length <= (Zw x n).length /\ ∀ i < (Zw x m).length, (Zw x n).getD i 0 = (Zw x m).getD i 0 := by
 induction n with
 | zero => rw [show m = 0 by omega]; exact ⟨ZNJ _, fun i _ => rfl⟩
 | succ n ih =>
  rcases ZNN m (n + 1) with p | p
  ·obtain ⟨a, b⟩ := ih (by omega)
   rw [ZbC]
   split
   ·refine ⟨by rw [ZNY]; omega, fun i hi => ?_⟩
    rw [ZNT, ZOb (by omega), <- ZNT]; exact b i hi
   ·exact ⟨a, b⟩
  ·rw [show m = n + 1 by omega]; exact ⟨ZNJ _, fun i _ => rfl⟩
theorem ZqZ (x : List Ent) {ks ls : List Int} (key : List UInt8) : ∀ k : Nat, (∀ i < k, ks.getD i 0 = ls.getD i 0) -> Zc0 x ks key k = Zc0 x ls key k
 | 0, _ => rfl
 | k + 1, h => by
  rw [Ze2, Ze2, h k (by omega), ZqZ x key k (fun i hi => h i (by omega))]
structure Go (x : List Ent) (B : Bk) : Prop where
 nf : NF x x.length
 ri : RI x x.length B
 wf : WfB B x.length
theorem Go.may {x : List Ent} {B : Bk} (h : Go x B) (n : Nat) (hn : n < x.length) : Za2 (xa x n) = true := h.nf.2 n hn
theorem Go.tx {x : List Ent} {B : Bk} (h : Go x B) {t : Tx} (ht : t ∈ B.txs) : t = txN x t.who x.length /\ 0 < t.who := by
 obtain ⟨j, hj, rfl⟩ := List.getElem_of_mem ht
 have a := h.ri.tx j hj
 have b := h.ri.pos j hj
 rw [YK hj] at a b
 exact ⟨a, b⟩
theorem Go.kw {x : List Ent} {B : Bk} (h : Go x B) {k : Nat} (hk : k < B.kept.length) : B.kept.getD k 0 < B.txs.length /\ (B.txs.getD (B.kept.getD k 0) tx0).who = (Zw x x.length).getD k 0 := by
 have e : B.kept.getD k 0 = B.kept[k] := by rw [ZNT, ZNW hk, ZNO]
 refine ⟨by rw [e]; exact h.wf.ki _ (ZOg hk), ?_⟩
 rw [<- h.ri.kep, ZNT (l := B.kept.map _), ZNP, ZNW hk, e]; rfl
theorem Go.kt {x : List Ent} {B : Bk} (h : Go x B) {k : Nat} (hk : k < B.kept.length) : B.txs.getD (B.kept.getD k 0) tx0 ∈ B.txs := by
 have := (h.kw hk).1
 rw [YK this]; exact ZOg this
theorem ZsX {x : List Ent} {B : Bk} (h : Go x B) (key : List UInt8) : ∀ k ≤ B.kept.length,
  (stF B k (Zj key : Nat) = (false, vw 0) /\ Zc0 x (Zw x x.length) key k = ([], false)) \/ (stF B k (Zj key : Nat) = (true, Zc0 x (Zw x x.length) key k) /\ ((Zc0 x (Zw x x.length) key k).2 = false -> (Zc0 x (Zw x x.length) key k).1 = []))
 | 0, _ => .inl ⟨rfl, rfl⟩
 | k + 1, hk => by
  have ih := ZsX h key k (by omega)
  obtain ⟨t1, t2⟩ := h.tx (h.kt (k := k) (by omega))
  have hw := (h.kw (k := k) (by omega)).2
  have hc := Zw9 t2 h.nf key
  rw [<- t1, hw] at hc
  have e1 : stF B (k + 1) (Zj key : Nat) = if Zv (B.txs.getD (B.kept.getD k 0) tx0).ch (Zj key : Nat) = true then (true, vw (YQ 0 (B.txs.getD (B.kept.getD k 0) tx0).ch (Zj key : Nat))) else stF B k (Zj key : Nat) := rfl
  rw [e1, Ze2, hc.1]
  by_cases hl : 0 <= YE x ((Zw x x.length).getD k 0) key x.length
  ·rw [if_pos hl, if_pos (decide_eq_true hl), hc.2 hl]
   refine .inr ⟨rfl, fun q => ?_⟩
   obtain ⟨l1, _, l3⟩ := Zt4 x ((Zw x x.length).getD k 0) key x.length
   have q : ¬ xk (xa x (YE x ((Zw x x.length).getD k 0) key x.length).toNat) = 3 := by simpa using q
   exact Zrd (h.may _ (by omega)) (by have := l3 hl; omega)
  ·rw [if_neg hl, if_neg (fun q => hl (of_decide_eq_true q))]; exact ih
theorem ZDG {x : List Ent} {B : Bk} (h : Go x B) {k : Nat} (hk : k <= B.kept.length) {r : Ent} (hm : Za2 r = true) (h2 : xk r = 2) :
  Yb (stF B k) r = ((Zbc r == (Zc0 x (Zw x x.length) (ZL r) k).2) && (YX r == (Zc0 x (Zw x x.length) (ZL r) k).1)) := by
 have hs := ZsX h (ZL r) k hk
 unfold Yb
 show ((Zbc r == ((stF B k (Zj (ZL r) : Nat)).1 && (stF B k (Zj (ZL r) : Nat)).2.2)) && (!Zbc r || YX r == (stF B k (Zj (ZL r) : Nat)).2.1)) = _
 cases hh : Zbc r
 ·have hv := ZpU hm (.inl h2) hh
  rcases hs with ⟨a, b⟩ | ⟨a, b⟩
  ·rw [a, b, hv]; rfl
  ·rw [a, hv]
   generalize Zc0 x (Zw x x.length) (ZL r) k = v at *
   cases hv2 : v.2
   ·rw [b hv2]; rfl
   ·rfl
 ·rcases hs with ⟨a, b⟩ | ⟨a, b⟩
  ·rw [a, b]; rfl
  ·rw [a]; simp
theorem ZbA (f : Int -> Bool × (List UInt8 × Bool)) (r : Ent) : Yb f (nr r) = Yb f r := by unfold Yb; rw [ZJd, ZpO, Zqh]
theorem Zy2 {x : List Ent} {w : Int} : ∀ {n : Nat}, 0 <= ZI x 5 w n -> w ∈ Zw x n
 | 0, h => absurd h (by show ¬ (0 : Int) <= -1; omega)
 | n + 1, h => by
  rw [ZbC]
  rw [Yh] at h
  by_cases h0 : 0 <= ZI x 5 w n
  ·have := Zy2 h0
   split
   ·exact List.mem_append.2 (.inl this)
   ·exact this
  ·rw [if_neg h0] at h
   by_cases h1 : xk (xa x n) = 5 /\ xw (xa x n) = w
   ·rw [if_pos h1.1, h1.2]; simp
   ·rw [if_neg h1] at h; exact absurd h (by omega)
def looF (x : List Ent) (B : Bk) (i r : Int) : Prop := r = 4 /\ ∃ R ∈ Zo9 B [], i = g0 R /\ Yb (stF B (Zw x i.toNat).length) (R.drop 1) = false
def kepF (B : Bk) (k : Nat) (i r : Int) : Prop := r = 4 /\ ∃ k' < k, ∃ R ∈ (B.txs.getD (B.kept.getD k' 0) tx0).rds, i = g0 R /\ Yb (stF B k') (R.drop 1) = false
def refF (x : List Ent) (i r : Int) : Prop := ∃ n : Nat, n < x.length /\ i = n /\ xk (xa x n) = 2 /\ (ZcY x n (Zw x (ZcS x n))).1 = false /\ r = (ZcY x n (Zw x (ZcS x n))).2
theorem Zkl {B : Bk} {R : Ent} : R ∈ Zo9 B [] ↔ R ∈ B.out \/ ∃ t ∈ B.txs, t.com < 0 /\ R ∈ t.rds := by
 unfold Zo9
 rw [ZOe, List.mem_flatMap]
 constructor
 ·rintro (a | ⟨t, a, b⟩)
  ·exact .inl a
  ·rw [List.mem_filter] at a
   exact .inr ⟨t, a.1, by simpa [Zv] using a.2, b⟩
 ·rintro (a | ⟨t, a, b, c⟩)
  ·exact .inl a
  ·exact .inr ⟨t, List.mem_filter.2 ⟨a, by simpa [Zv] using b⟩, c⟩
theorem Zbf {x : List Ent} {B : Bk} (h : Go x B) : (Zw x x.length).length = B.kept.length := by rw [<- h.ri.kep, ZN3]
theorem ZD6 {x : List Ent} {B : Bk} (h : Go x B) {n m k : Nat} (hn : n < x.length) (h2 : xk (xa x n) = 2) (hno : ¬ (0 <= YE x (xw (xa x n)) (ZL (xa x n)) n /\ 0 < xw (xa x n))) (hm : m <= x.length) (hk : (Zw x m).length = k) :
  ZcY x n (Zw x m) = (Yb (stF B k) (xa x n), 4) := by
 have hkm := Zeq x hm
 rw [ZA7, if_neg hno, ZDG h (by rw [<- hk, <- Zbf h]; exact hkm.1) (h.may n hn) h2, hk]
 rw [ZqZ x (ZL (xa x n)) k (ks := Zw x m) (ls := Zw x x.length) (fun i hi => (hkm.2 i (by omega)).symm)]
theorem ZKr {x : List Ent} {n : Nat} {ks : List Int} (h : 0 <= YE x (xw (xa x n)) (ZL (xa x n)) n /\ 0 < xw (xa x n)) : ZcY x n ks = (ZFX x n, 3) := by
 rw [ZA7, if_pos h]; rfl
theorem ZrF {x : List Ent} {w : Int} {n : Nat} : (ZI x 5 w n).toNat <= n := by have := (Zcc x 5 w n).2.1; omega
theorem ZJB {x : List Ent} {B : Bk} (h : Go x B) (i r : Int) : (ZCE B [] i r \/ looF x B i r \/ kepF B B.kept.length i r) ↔ refF x i r := by
 constructor
 ·rintro (⟨rfl, t, ht, _, hi⟩ | ⟨rfl, R, hR, hi, hs⟩ | ⟨rfl, k, hk, R, hR, hi, hs⟩)
  ·obtain ⟨t1, t2⟩ := h.tx ht
   rw [t1] at hi
   obtain ⟨n, a, b, c, d, e, f⟩ := ((ZeO t2 h.nf).2 i).1 hi
   have hh : 0 <= YE x (xw (xa x n)) (ZL (xa x n)) n /\ 0 < xw (xa x n) := by rw [c]; exact ⟨d, t2⟩
   refine ⟨n, a, f, b, ?_, ?_⟩
   ·rw [ZKr hh]; exact e
   ·rw [ZKr hh]
  ·rcases Zkl.1 hR with hR | ⟨t, ht, hc, hR⟩
   ·obtain ⟨n, a, b, c, rfl⟩ := (h.ri.out R).1 hR
    have hi : i = n := hi
    subst hi
    rw [ZN0] at hs
    have hno : ¬ (0 <= YE x (xw (xa x n)) (ZL (xa x n)) n /\ 0 < xw (xa x n)) := by omega
    have he : ZcS x n = n := by rw [ZgR, if_neg (by omega)]
    refine ⟨n, a, rfl, b, ?_, ?_⟩
    ·rw [he, ZD6 h a b hno (by omega) rfl, <- ZbA]; exact hs
    ·rw [he, ZD6 h a b hno (by omega) rfl]
   ·obtain ⟨t1, t2⟩ := h.tx ht
    rw [t1] at hR
    obtain ⟨n, a, b, c, d, rfl⟩ := ((ZeO t2 h.nf).1 R).1 hR
    have hi : i = n := hi
    subst hi
    rw [ZN0] at hs
    have hno : ¬ (0 <= YE x (xw (xa x n)) (ZL (xa x n)) n /\ 0 < xw (xa x n)) := by rw [c]; omega
    have hcom := Zha t2 h.nf
    rw [<- t1] at hcom
    have he : ZcS x n = n := by rw [ZgR, c, if_pos t2, <- hcom, if_neg (by omega)]
    refine ⟨n, a, rfl, b, ?_, ?_⟩
    ·rw [he, ZD6 h a b hno (by omega) rfl, <- ZbA]; exact hs
    ·rw [he, ZD6 h a b hno (by omega) rfl]
  ·obtain ⟨t1, t2⟩ := h.tx (h.kt hk)
   have hw := (h.kw hk).2
   obtain ⟨c1, c2⟩ := h.ri.com k hk
   rw [<- hw] at c1 c2
   generalize (B.txs.getD (B.kept.getD k 0) tx0) = t at *
   rw [t1] at hR
   obtain ⟨n, a, b, c, d, rfl⟩ := ((ZeO t2 h.nf).1 R).1 hR
   have hi : i = n := hi
   subst hi
   have hno : ¬ (0 <= YE x (xw (xa x n)) (ZL (xa x n)) n /\ 0 < xw (xa x n)) := by rw [c]; omega
   have he : ZcS x n = (ZI x 5 t.who x.length).toNat := by rw [ZgR, c, if_pos t2, if_pos c1]
   refine ⟨n, a, rfl, b, ?_, ?_⟩
   ·rw [he, ZD6 h a b hno ZrF c2, <- ZbA]; exact hs
   ·rw [he, ZD6 h a b hno ZrF c2]
 ·rintro ⟨n, hn, rfl, h2, hf, rfl⟩
  have hmn := h.may n hn
  by_cases hw0 : xw (xa x n) = 0
  ·have hno : ¬ (0 <= YE x (xw (xa x n)) (ZL (xa x n)) n /\ 0 < xw (xa x n)) := by omega
   have he : ZcS x n = n := by rw [ZgR, if_neg (by omega)]
   rw [he, ZD6 h hn h2 hno (by omega) rfl] at hf ⊢
   refine .inr (.inl ⟨rfl, (n : Int) :: nr (xa x n), Zkl.2 (.inl ((h.ri.out _).2 ⟨n, hn, h2, hw0, rfl⟩)), rfl, ?_⟩)
   rw [ZN0]
   show Yb _ (nr (xa x n)) = false
   rw [ZbA]; exact hf
  ·have hwp : 0 < xw (xa x n) := by
    have hm := hmn; unfold Za2 at hm; simp [h2] at hm; have := hm.1.1.1; omega
   have hbeg : 0 <= ZI x 1 (xw (xa x n)) x.length := Classical.byContradiction fun q => (Zil hwp h.nf q).2.2 n hn rfl h2
   have hjl := (h.ri.beg _).2 hbeg
   have hwho := Zbe hjl
   have hmem : B.txs.getD (ixL (xw (xa x n)) B.txs) tx0 ∈ B.txs := by rw [YK hjl]; exact ZOg hjl
   have t1 := (h.tx hmem).1
   have rd := ZeO hwp h.nf
   have hcom := Zha hwp h.nf
   rw [hwho] at t1
   by_cases hl : 0 <= YE x (xw (xa x n)) (ZL (xa x n)) n
   ·rw [ZKr ⟨hl, hwp⟩] at hf ⊢
    exact .inl ⟨rfl, _, hmem, rfl, by rw [t1]; exact (rd.2 _).2 ⟨n, hn, h2, rfl, hl, hf, rfl⟩⟩
   ·have hno : ¬ (0 <= YE x (xw (xa x n)) (ZL (xa x n)) n /\ 0 < xw (xa x n)) := fun q => hl q.1
    have hrd : (n : Int) :: nr (xa x n) ∈ (B.txs.getD (ixL (xw (xa x n)) B.txs) tx0).rds := by rw [t1]; exact (rd.1 _).2 ⟨n, hn, h2, rfl, by omega, rfl⟩
    by_cases hc : 0 <= ZI x 5 (xw (xa x n)) x.length
    ·obtain ⟨k, hk, hkw⟩ := List.getElem_of_mem (Zy2 hc)
     rw [Zbf h] at hk
     have hkg : (Zw x x.length).getD k 0 = xw (xa x n) := by
      rw [ZNT, ZNW (by rw [Zbf h]; exact hk), ZNO]; exact hkw
     obtain ⟨k1, k2⟩ := h.kw hk
     have hix : B.kept.getD k 0 = ixL (xw (xa x n)) B.txs := by rw [<- hkg, <- k2, Ze1 h.wf.nd k1]
     obtain ⟨_, c2⟩ := h.ri.com k hk
     rw [hkg] at c2
     have he : ZcS x n = (ZI x 5 (xw (xa x n)) x.length).toNat := by rw [ZgR, if_pos hwp, if_pos hc]
     rw [he, ZD6 h hn h2 hno ZrF c2] at hf ⊢
     refine .inr (.inr ⟨rfl, k, hk, _, by rw [hix]; exact hrd, rfl, ?_⟩)
     show Yb _ (nr (xa x n)) = false
     rw [ZbA]; exact hf
    ·have he : ZcS x n = n := by rw [ZgR, if_pos hwp, if_neg hc]
     rw [he, ZD6 h hn h2 hno (by omega) rfl] at hf ⊢
     refine .inr (.inl ⟨rfl, _, Zkl.2 (.inr ⟨_, hmem, by rw [t1, hcom]; omega, hrd⟩), rfl, ?_⟩)
     rw [ZN0]
     show Yb _ (nr (xa x n)) = false
     rw [ZbA]; exact hf
theorem ZeP (x : List Ent) : ∀ n : Nat, (0 <= (ZdM x n).1 -> ∃ m < n, ZdM x n = ((m : Int), (ZcY x m (Zw x (ZcS x m))).2) /\ xk (xa x m) = 2 /\ (ZcY x m (Zw x (ZcS x m))).1 = false /\ ∀ q < m, ¬ (xk (xa x q) = 2 /\ (ZcY x q (Zw x (ZcS x q))).1 = false)) ∧
  (¬ 0 <= (ZdM x n).1 -> ∀ q < n, ¬ (xk (xa x q) = 2 /\ (ZcY x q (Zw x (ZcS x q))).1 = false))
 | 0 => ⟨fun h => absurd h (by show ¬ (0 : Int) <= -1; omega), fun _ q hq => absurd hq (Nat.not_lt_zero q)⟩
 | n + 1 => by
  obtain ⟨i1, i2⟩ := ZeP x n
  rw [Zgs]
  by_cases h0 : 0 <= (ZdM x n).1
  ·rw [if_pos h0]
   obtain ⟨m, hm, a⟩ := i1 h0
   exact ⟨fun _ => ⟨m, by omega, a⟩, fun q => absurd h0 q⟩
  ·rw [if_neg h0]
   have i2 := i2 h0
   by_cases h2 : xk (xa x n) = 2
   ·rw [if_pos h2]
    by_cases ht : (ZcY x n (Zw x (ZcS x n))).1 = true
    ·rw [if_pos ht]
     refine ⟨fun h => absurd h (by show ¬ (0 : Int) <= -1; omega), fun _ q hq => ?_⟩
     rcases ZNN q n with p | p
     ·exact i2 q p
     ·rw [show q = n by omega, ht]; simp
    ·rw [if_neg ht]
     exact ⟨fun _ => ⟨n, by omega, rfl, h2, by simpa using ht, i2⟩, fun h => absurd (show (0 : Int) <= n by omega) h⟩
   ·rw [if_neg h2]
    refine ⟨fun h => absurd h (by show ¬ (0 : Int) <= -1; omega), fun _ q hq => ?_⟩
    rcases ZNN q n with p | p
    ·exact i2 q p
    ·rw [show q = n by omega]; exact fun e => h2 e.1
theorem Zxk {x : List Ent} {s : Int × Int} (h : YR (refF x) x.length s) : (if s.2 = 0 then (-1, 0) else s) = ZdM x x.length := by
 obtain ⟨a1, a2⟩ := ZeP x x.length
 by_cases h0 : 0 <= (ZdM x x.length).1
 ·obtain ⟨m, hm, e, c, d, f⟩ := a1 h0
  have hr : refF x m (ZcY x m (Zw x (ZcS x m))).2 := ⟨m, hm, rfl, c, d, rfl⟩
  rcases h with ⟨rfl, hno⟩ | ⟨h1, h2, h3⟩
  ·exact absurd hr (hno _ _)
  ·rw [if_neg h1, e]
   obtain ⟨n, hn, e1, e2, e3, e4⟩ := h2
   have := h3 _ _ hr
   have hnm : n = m := by
    rcases Nat.lt_trichotomy n m with p | p | p
    ·exact absurd ⟨e2, e3⟩ (f n p)
    ·exact p
    ·omega
   subst hnm
   exact Prod.ext e1 e4
 ·have a2 := a2 h0
  rw [ZEK h0]
  rcases h with ⟨rfl, _⟩ | ⟨h1, ⟨n, hn, e1, e2, e3, e4⟩, h3⟩
  ·rfl
  ·exact absurd ⟨e2, e3⟩ (a2 n hn)
theorem ZF4 {x : List Ent} (hc : ZcU x = 0) (hf : (ZlG x).fault < 0) : Go x (ZlG x) := by
 have hm : ∀ i < x.length, Za2 (xa x i) = true := by
  unfold ZcU at hc
  split at hc
  ·cases hc
  ·split at hc
   ·rename_i q
    unfold ZkJ at q
    rw [Zi] at q; exact q
   ·cases hc
 obtain ⟨r1, r2⟩ := ZmD x x.length hm
 have h0 : ¬ 0 <= (Zcm x x.length).1 := fun q => by
  have := (r2 q).1
  unfold ZlG at hf
  omega
 exact ⟨⟨h0, hm⟩, r1 ⟨h0, hm⟩, ZhN x x.length⟩
theorem ZCO {x : List Ent} {B : Bk} (h : Go x B) {R : Ent} (hR : R ∈ Zo9 B []) : ∃ n : Nat, n < x.length /\ xk (xa x n) = 2 /\ g0 R = n := by
 rcases Zkl.1 hR with hR | ⟨t, ht, hc, hR⟩
 ·obtain ⟨n, a, b, c, rfl⟩ := (h.ri.out R).1 hR
  exact ⟨n, a, b, rfl⟩
 ·obtain ⟨t1, t2⟩ := h.tx ht
  rw [t1] at hR
  obtain ⟨n, a, b, c, d, rfl⟩ := ((ZeO t2 h.nf).1 R).1 hR
  exact ⟨n, a, b, rfl⟩
theorem Zvo {x : List Ent} {B : Bk} (h : Go x B) {s0 : Int × Int} {L L0 : List (List Int)} (h0 : YR (ZCE B []) x.length s0) (hp : L0.Perm (Zo9 B [])) (hs : SrtP L0 L) :
  let e := Zgg (Yb (stF B B.kept.length)) L x.length (Zad B L s0 B.kept.length).1 (Zad B L s0 B.kept.length).2
  (if e.2.2 = 0 then (-1, 0) else e.2) = ZdM x x.length := by
 have hmem : ∀ R, R ∈ L ↔ R ∈ Zo9 B [] := fun R => (hs.1.mem_iff).trans hp.mem_iff
 have hget : ∀ q < L.length, ∃ n : Nat, n < x.length /\ xk (xa x n) = 2 /\ g0 (L.getD q []) = n := fun q hq => ZCO h ((hmem _).1 (by
  rw [ZNT, ZNW hq, ZNO]; exact ZOg hq))
 have hN : ∀ q < L.length, g0 (L.getD q []) < x.length := fun q hq => by
  obtain ⟨n, a, _, b⟩ := hget q hq; omega
 have key : ∀ k ≤ B.kept.length, (Zad B L s0 k).1 <= L.length /\ YR (fun i r => ZCE B [] i r \/ (r = 4 /\ ∃ q < (Zad B L s0 k).1, i = g0 (L.getD q []) /\ Yb (stF B (Zw x i.toNat).length) ((L.getD q []).drop 1) = false) \/ kepF B k i r) x.length (Zad B L s0 k).2 ∧
   ∀ q, (Zad B L s0 k).1 <= q -> q < L.length -> k <= (Zw x (g0 (L.getD q [])).toNat).length := by
  intro k
  induction k with
  | zero =>
   intro _
   refine ⟨Nat.zero_le _, h0.congr fun i r => ⟨.inl, fun q => ?_⟩, fun q _ _ => Nat.zero_le _⟩
   rcases q with q | ⟨_, q, hq, _⟩ | ⟨_, q, hq, _⟩
   ·exact q
   ·exact absurd hq (Nat.not_lt_zero q)
   ·exact absurd hq (Nat.not_lt_zero q)
  | succ k ih =>
   intro hk
   obtain ⟨j1, j2, j3⟩ := ih (by omega)
   obtain ⟨t1, t2⟩ := h.tx (h.kt (k := k) (by omega))
   have hw := (h.kw (k := k) (by omega)).2
   obtain ⟨c1, c2⟩ := h.ri.com k (by omega)
   rw [<- hw] at c1 c2
   have hcom := Zha t2 h.nf
   rw [<- t1] at hcom
   rw [<- hcom] at c1 c2
   have hcf := (Zcc x 5 (B.txs.getD (B.kept.getD k 0) tx0).who x.length)
   rw [<- hcom] at hcf
   have hk5 := (hcf.2.2 c1).1
   have rd := ZeO t2 h.nf
   rw [<- t1] at rd
   obtain ⟨a1, a2, a3, a4, a5⟩ := Zlv (f := Yb (stF B k)) (place := (B.txs.getD (B.kept.getD k 0) tx0).com) hs.2 hN (L.length - (Zad B L s0 k).1) (Zad B L s0 k).1 rfl j1 j2
   have e0 : Zad B L s0 (k + 1) = ((Zgg (Yb (stF B k)) L (B.txs.getD (B.kept.getD k 0) tx0).com (Zad B L s0 k).1 (Zad B L s0 k).2).1, Zk5 (Yb (stF B k)) (Zgg (Yb (stF B k)) L (B.txs.getD (B.kept.getD k 0) tx0).com (Zad B L s0 k).1 (Zad B L s0 k).2).2 (B.txs.getD (B.kept.getD k 0) tx0).rds (B.txs.getD (B.kept.getD k 0) tx0).rds.length) := rfl
   rw [e0]
   have e1 : Zvf (Yb (stF B k)) L (B.txs.getD (B.kept.getD k 0) tx0).com (L.length - (Zad B L s0 k).1) (Zad B L s0 k).1 (Zad B L s0 k).2 = Zgg (Yb (stF B k)) L (B.txs.getD (B.kept.getD k 0) tx0).com (Zad B L s0 k).1 (Zad B L s0 k).2 := rfl
   rw [e1] at a1 a2 a3 a4 a5
   generalize Zgg (Yb (stF B k)) L (B.txs.getD (B.kept.getD k 0) tx0).com (Zad B L s0 k).1 (Zad B L s0 k).2 = e at *
   have hrd : ∀ R ∈ (B.txs.getD (B.kept.getD k 0) tx0).rds, g0 R < x.length := fun R hR => by
    obtain ⟨n, a, b, c, d, rfl⟩ := (rd.1 R).1 hR
    show (n : Int) < _; omega
   have a6 := Zr0 a5 (Yb (stF B k)) _ hrd _ (ZNJ _)
   refine ⟨a2, a6.congr fun i r => ?_, fun q q1 q2 => ?_⟩
   ·rw [List.take_length]
    have kq : ∀ q, (Zad B L s0 k).1 <= q -> q < e.1 -> (Zw x (g0 (L.getD q [])).toNat).length = k := fun q q1 q2 => by
     have b1 := j3 q q1 (by omega)
     have b2 := a3 q q1 q2
     have b3 := (Zeq x (m := (g0 (L.getD q [])).toNat) (n := (B.txs.getD (B.kept.getD k 0) tx0).com.toNat) (by omega)).1
     omega
    constructor
    ·rintro (((b | ⟨b, q, c, d⟩ | ⟨b, k', c, d⟩) | ⟨b, q, c1, c2, c3, c4⟩) | ⟨b, R, c, d⟩)
     ·exact .inl b
     ·exact .inr (.inl ⟨b, q, by omega, d⟩)
     ·exact .inr (.inr ⟨b, k', by omega, d⟩)
     ·exact .inr (.inl ⟨b, q, c2, c3, by rw [c3, kq q c1 c2]; exact c4⟩)
     ·exact .inr (.inr ⟨b, k, by omega, R, c, d⟩)
    ·rintro (b | ⟨b, q, c, d⟩ | ⟨b, k', c, R, d, g⟩)
     ·exact .inl (.inl (.inl b))
     ·rcases ZNN q (Zad B L s0 k).1 with p | p
      ·exact .inl (.inl (.inr (.inl ⟨b, q, p, d⟩)))
      ·refine .inl (.inr ⟨b, q, p, c, d.1, ?_⟩)
       have := d.2
       rw [d.1, kq q p c] at this; exact this
     ·rcases ZNN k' k with p | p
      ·exact .inl (.inl (.inr (.inr ⟨b, k', p, R, d, g⟩)))
      ·have : k' = k := by omega
       subst this
       exact .inr ⟨b, R, d, g⟩
   ·have b1 := a4 q q1 q2
    obtain ⟨n, n1, n2, n3⟩ := hget q q2
    rw [n3] at b1 ⊢
    rw [ZN0]
    have hne : n ≠ (B.txs.getD (B.kept.getD k 0) tx0).com.toNat := fun e => by rw [<- e] at hk5; omega
    have b3 := (Zeq x (m := (B.txs.getD (B.kept.getD k 0) tx0).com.toNat + 1) (n := n) (by omega)).1
    have b4 : Zw x ((B.txs.getD (B.kept.getD k 0) tx0).com.toNat + 1) = Zw x (B.txs.getD (B.kept.getD k 0) tx0).com.toNat ++ [xw (xa x (B.txs.getD (B.kept.getD k 0) tx0).com.toNat)] := by rw [ZbC, if_pos hk5]
    rw [b4, ZNY, ZNH] at b3
    omega
 obtain ⟨j1, j2, j3⟩ := key B.kept.length (ZNJ _)
 obtain ⟨a1, a2, a3, a4, a5⟩ := Zlv (f := Yb (stF B B.kept.length)) (place := (x.length : Int)) hs.2 hN (L.length - (Zad B L s0 B.kept.length).1) (Zad B L s0 B.kept.length).1 rfl j1 j2
 have e1 : Zvf (Yb (stF B B.kept.length)) L (x.length : Int) (L.length - (Zad B L s0 B.kept.length).1) (Zad B L s0 B.kept.length).1 (Zad B L s0 B.kept.length).2 = Zgg (Yb (stF B B.kept.length)) L (x.length : Int) (Zad B L s0 B.kept.length).1 (Zad B L s0 B.kept.length).2 := rfl
 rw [e1] at a1 a2 a3 a4 a5
 show (if (Zgg (Yb (stF B B.kept.length)) L (x.length : Int) (Zad B L s0 B.kept.length).1 (Zad B L s0 B.kept.length).2).2.2 = 0 then ((-1 : Int), (0 : Int)) else _) = _
 generalize Zgg (Yb (stF B B.kept.length)) L (x.length : Int) (Zad B L s0 B.kept.length).1 (Zad B L s0 B.kept.length).2 = e at *
 have hall : e.1 = L.length := by
  rcases ZNN e.1 L.length with p | p
  ·have := a4 e.1 (ZNJ _) p
   have := hN e.1 p
   omega
  ·omega
 have kq : ∀ q, (Zad B L s0 B.kept.length).1 <= q -> q < L.length -> (Zw x (g0 (L.getD q [])).toNat).length = B.kept.length := fun q q1 q2 => by
  have b1 := j3 q q1 q2
  have b2 := hN q q2
  have b3 := (Zeq x (m := (g0 (L.getD q [])).toNat) (n := x.length) (by omega)).1
  rw [Zbf h] at b3
  omega
 refine Zxk (a5.congr fun i r => ?_)
 rw [<- ZJB h, hall]
 have look : ∀ R, R ∈ L -> ∃ q, q < L.length /\ L.getD q [] = R := fun R hR => by
  obtain ⟨q, hq, rfl⟩ := List.getElem_of_mem hR
  exact ⟨q, hq, by rw [ZNT, ZNW hq, ZNO]⟩
 have lget : ∀ q, q < L.length -> L.getD q [] ∈ L := fun q hq => by
  rw [ZNT, ZNW hq, ZNO]; exact ZOg hq
 constructor
 ·rintro ((b | ⟨b, q, c, d⟩ | b) | ⟨b, q, c1, c2, c3, c4⟩)
  ·exact .inl b
  ·exact .inr (.inl ⟨b, _, (hmem _).1 (lget q (by omega)), d⟩)
  ·exact .inr (.inr b)
  ·exact .inr (.inl ⟨b, _, (hmem _).1 (lget q c2), c3, by rw [c3, kq q c1 c2]; exact c4⟩)
 ·rintro (b | ⟨b, R, c, d⟩ | b)
  ·exact .inl (.inl b)
  ·obtain ⟨q, hq, rfl⟩ := look R ((hmem _).2 c)
   rcases ZNN q (Zad B L s0 B.kept.length).1 with p | p
   ·exact .inl (.inr (.inl ⟨b, q, p, d⟩))
   ·refine .inr ⟨b, q, p, hq, d.1, ?_⟩
    have := d.2
    rw [d.1, kq q p hq] at this; exact this
  ·exact .inl (.inr (.inr b))
theorem ZDh {B : Bk} {m : List (Int × Int)} (h : ∀ t ∈ B.txs, Zv m t.who = true) (n : Int) : YR (ZCE B m) n (n, 0) := .inl ⟨rfl, fun i r ⟨_, t, ht, q, _⟩ => by rw [h t ht] at q; cases q⟩
theorem ZCN {B : Bk} {m : List (Int × Int)} (h : ∀ t ∈ B.txs, Zv m t.who = true) : Zo9 B m = B.out := by
 unfold Zo9
 rw [List.filter_eq_nil_iff.2 (fun t ht => by rw [h t ht]; simp)]
 simp
theorem ZNb {L : List Tx} (hn : (L.map (·.who)).Nodup) {k : Int} {j : Nat} (hj : ixL k L = j) {t : Tx} (ht : t ∈ L) (hw : t.who = k) : t = L.getD j tx0 := by
 obtain ⟨i, hi, rfl⟩ := List.getElem_of_mem ht
 have := Ze1 hn hi
 rw [YK hi, hw, hj] at this
 rw [this, YK hi]
theorem ZDQ {B : Bk} {left : List (Int × Int)} (hl : (left.map (·.1)).Nodup) (hn : (B.txs.map (·.who)).Nodup) {k : Int} {j : Nat} (hj : ixL k B.txs = j) (hjl : j < B.txs.length) (i r : Int) :
  ZCE B (Zak left k) i r ↔ ZCE B left i r \/ (r = 3 /\ i ∈ (B.txs.getD j tx0).bad) := by
 have hm : B.txs.getD j tx0 ∈ B.txs := by rw [YK hjl]; exact ZOg hjl
 have hw : (B.txs.getD j tx0).who = k := by rw [<- hj] at hjl ⊢; exact Zbe hjl
 constructor
 ·rintro ⟨a, t, ht, b, c⟩
  rw [mhas_del' hl] at b
  by_cases q : k = t.who
  ·right; rw [ZNb hn hj ht q.symm] at c; exact ⟨a, c⟩
  ·rw [if_neg q] at b; exact .inl ⟨a, t, ht, b, c⟩
 ·rintro (⟨a, t, ht, b, c⟩ | ⟨a, c⟩)
  ·refine ⟨a, t, ht, ?_, c⟩
   rw [mhas_del' hl]; split
   ·rfl
   ·exact b
  ·exact ⟨a, _, hm, by rw [mhas_del' hl, if_pos hw.symm], c⟩
theorem ZmP {left : List (Int × Int)} (hl : (left.map (·.1)).Nodup) {k : Int} : ∀ {l : List Tx}, (∀ t ∈ l, t.who ≠ k) -> l.filter (fun t => !Zv (Zak left k) t.who && decide (t.com < 0)) = l.filter fun t => !Zv left t.who && decide (t.com < 0) := fun {l} h =>
 List.filter_congr fun t ht => by rw [mhas_del' hl, if_neg (fun q => h t ht q.symm)]
theorem ZEv {B : Bk} {left : List (Int × Int)} (hl : (left.map (·.1)).Nodup) (hn : (B.txs.map (·.who)).Nodup) {k : Int} {j : Nat} (hj : ixL k B.txs = j) (hjl : j < B.txs.length) (hk : Zv left k = true) :
  (Zo9 B (Zak left k)).Perm (Zo9 B left ++ if (B.txs.getD j tx0).com < 0 then (B.txs.getD j tx0).rds else []) := by
 have hw : (B.txs.getD j tx0).who = k := by rw [<- hj] at hjl ⊢; exact Zbe hjl
 have e := Zgz (d := tx0) hjl
 have h1 : ∀ t ∈ B.txs.take j, t.who ≠ k := fun t ht q => by
  obtain ⟨i, hi, rfl⟩ := List.getElem_of_mem ht
  rw [ZNV] at hi
  rw [List.getElem_take] at q
  have := Ze1 hn (j := i) (by omega)
  rw [YK (by omega), q, hj] at this; omega
 have h2 : ∀ t ∈ B.txs.drop (j + 1), t.who ≠ k := fun t ht q => by
  obtain ⟨i, hi, rfl⟩ := List.getElem_of_mem ht
  rw [ZN7] at hi
  rw [List.getElem_drop] at q
  have := Ze1 hn (j := j + 1 + i) (by omega)
  rw [YK (by omega), q, hj] at this; omega
 unfold Zo9
 have s1 := ZmP hl h1
 have s2 := ZmP hl h2
 generalize hA : B.txs.take j = A at *
 generalize hC : B.txs.drop (j + 1) = C at *
 generalize hT : B.txs.getD j tx0 = t at *
 rw [e, List.filter_append, List.filter_append, List.filter_append, List.filter_append, s1, s2]
 have f1 : [t].filter (fun t => !Zv left t.who && decide (t.com < 0)) = [] := by simp [hw, hk]
 have f2 : [t].filter (fun t => !Zv (Zak left k) t.who && decide (t.com < 0)) = if t.com < 0 then [t] else [] := by
  have : Zv (Zak left k) t.who = false := by rw [mhas_del' hl, if_pos hw.symm]
  by_cases q : t.com < 0
  ·rw [if_pos q]; simp [this, q]
  ·rw [if_neg q]; simp [this, q]
 rw [f1, f2]
 simp only [List.flatMap_append, List.nil_append]
 by_cases q : t.com < 0
 ·rw [if_pos q, if_pos q, List.flatMap_singleton, ZOh, ZOh]
  refine List.Perm.append_left _ (List.Perm.append_left _ ?_)
  exact List.perm_append_comm
 ·rw [if_neg q, if_neg q]; simp
theorem ZIo {l : List Tx} {n : Nat} (h : ∀ t ∈ l, t.rds.length <= n) : (l.flatMap (·.rds)).length <= l.length * n := by
 induction l with
 | nil => simp
 | cons t l ih =>
  rw [List.flatMap_cons, ZNY, ZOd]
  have a := ih fun s hs => h s (List.mem_cons.2 (.inr hs))
  have b := h t (List.mem_cons.2 (.inl rfl))
  have : (l.length + 1) * n = l.length * n + n := by rw [Nat.add_mul, Nat.one_mul]
  omega
theorem ZHf {B : Bk} {n : Nat} (h : WfB B n) (hn : n <= 400) (left : List (Int × Int)) : (Zo9 B left).length <= 160400 := by
 unfold Zo9
 rw [ZNY]
 have a := h.ol
 have b := ZIo (l := B.txs.filter fun t => !Zv left t.who && decide (t.com < 0)) (n := n) (fun t ht => (h.rl t (List.mem_filter.1 ht).1).1)
 have c : (B.txs.filter fun t => !Zv left t.who && decide (t.com < 0)).length <= n := Nat.le_trans (List.length_filter_le _ _) h.lt
 have d := Nat.mul_le_mul c (ZNJ n)
 have e := Nat.mul_le_mul hn hn
 omega
theorem ZKT {x : List Ent} {B : Bk} (h : Go x B) {t : Tx} (ht : t ∈ B.txs) : ∀ i ∈ t.bad, i < x.length := fun i hi => by
 obtain ⟨t1, t2⟩ := h.tx ht
 rw [t1] at hi
 obtain ⟨n, a, _, _, _, _, rfl⟩ := ((ZeO t2 h.nf).2 i).1 hi
 omega
theorem ZE5 {m : List (Int × Int)} {f : Int -> Bool × (List UInt8 × Bool)} (h : Ziv m f) (s : Int × Int) (l : List (List Int)) : ∀ j, Zk5 (Yc m) s l j = Zk5 (Yb f) s l j
 | 0 => rfl
 | j + 1 => by
  unfold Zk5
  rw [ZE5 h s l j, Zo1 h]
theorem ZLP {m : List (Int × Int)} {f : Int -> Bool × (List UInt8 × Bool)} (h : Ziv m f) (L : List (List Int)) (pl : Int) (p : Nat) (s : Int × Int) : Zgg (Yc m) L pl p s = Zgg (Yb f) L pl p s := by
 have : Yc m = Yb f := by funext r; exact Zo1 h r
 rw [this]
theorem Zpm {x : List Ent} (h : ZcU x = 0) : x.length <= 400 := by
 unfold ZcU at h
 split at h
 ·cases h
 ·omega
theorem ZGx {x : List Ent} (h : ZcU x ≠ 0) : Zfe x = (0, 0, ZcU x) := by unfold Zfe; rw [if_pos h]
theorem Zn1 {x : List Ent} (h : ZcU x = 0) (hf : 0 <= (Yj x x.length).fault) : Zfe x = ((Yj x x.length).fault, (Yj x x.length).what, 0) := by
 have hm : ∀ i < x.length, Za2 (xa x i) = true := by
  have hc := h
  unfold ZcU at hc
  split at hc
  ·cases hc
  ·split at hc
   ·rename_i q
    unfold ZkJ at q
    rw [Zi] at q; exact q
   ·cases hc
 obtain ⟨r1, r2⟩ := ZmD x x.length hm
 have h0 : 0 <= (Zcm x x.length).1 := Classical.byContradiction fun q => by
  have := (r1 ⟨q, hm⟩).ft
  omega
 obtain ⟨a, b⟩ := r2 h0
 unfold Zfe
 rw [if_neg (fun q => q h), if_pos h0, a, b]
theorem ZDc {x : List Ent} (h : ZcU x = 0) (hg : Go x (ZlG x)) : Zfe x = ((ZdM x x.length).1, (ZdM x x.length).2, 0) := by
 unfold Zfe
 rw [if_neg (fun q => q h), if_neg hg.nf.1]
theorem ZBC {R : List (List Int)} {ks : List Nat} {n : Nat} (hn : n < ks.length) : ((ZbR R ks).getD n []).getD 0 0 = g0 (R.getD (ks.getD n 0) []) := by
 unfold ZbR
 rw [ZNT (l := ks.map _), ZNP, ZNW hn, ZNT (l := ks), ZNW hn]; rfl
theorem map_nil (B : Bk) : Ziv [] (stF B 0) := fun q => ⟨rfl, rfl⟩
/-! ### Keys in order -/
def txt (r : List Int) : List UInt8 := Yp (g0 r).toNat
def ZCG (s : List UInt8) : List Int := [((Zj s : Nat) : Int)]
def leT (x y : List UInt8) : Bool := decide (x <= y)
def Zvg (l : List (List UInt8)) : List (List UInt8) := l.mergeSort leT
def Zi0 (R : List (List Int)) : List (List Int) := (Zvg (R.map txt)).map ZCG
def Zu2 (m : List (Int × Int)) : List (List Int) := Zi0 (m.map fun p => [p.1])
def canM (m : List (Int × Int)) : Prop := (m.map (·.1)).Nodup /\ ∀ p ∈ m, ∃ s : List UInt8, p.1 = (Zj s : Nat)
def ZGO (m left : List (Int × Int)) (R : List (List Int)) : Prop := (R.map g0 ++ left.map (·.1)).Perm (m.map (·.1))
theorem ZBQ (s : List UInt8) : txt (ZCG s) = s := by show Yp (Int.toNat (Zj s : Nat)) = s; rw [ZN0, Zl]
theorem ZJ9 : ∀ a b c : List UInt8, leT a b = true -> leT b c = true -> leT a c = true := fun a b c h1 h2 => decide_eq_true (List.le_trans (of_decide_eq_true h1) (of_decide_eq_true h2))
theorem ZHd : ∀ a b : List UInt8, (leT a b || leT b a) = true := fun a b => by
 rw [Bool.or_eq_true]
 rcases List.le_total a b with h | h
 ·exact .inl (decide_eq_true h)
 ·exact .inr (decide_eq_true h)
theorem Zcw (l : List (List UInt8)) : (Zvg l).Perm l := List.mergeSort_perm l leT
theorem Zpb (l : List (List UInt8)) : (Zvg l).Pairwise fun a b => a <= b := (List.pairwise_mergeSort ZJ9 ZHd l).imp fun h => of_decide_eq_true h
theorem Zub : ∀ {a b : List (List UInt8)}, a.Perm b -> (a.Pairwise fun x y => x <= y) -> (b.Pairwise fun x y => x <= y) -> a = b := fun h h1 h2 =>
 h.eq_of_pairwise (fun x y _ _ h3 h4 => List.le_antisymm h3 h4) h1 h2
theorem ZBH {a b : List (List UInt8)} (h : a.Perm b) : Zvg a = Zvg b := Zub ((Zcw a).trans (h.trans (Zcw b).symm)) (Zpb a) (Zpb b)
theorem ZlT (R : List (List Int)) : (Zi0 R).length = R.length := by
 unfold Zi0; rw [ZN3, (Zcw _).length_eq, ZN3]
theorem ZsK (m : List (Int × Int)) : (Zu2 m).length = m.length := by unfold Zu2; rw [ZlT, ZN3]
theorem ZIH {m : List (Int × Int)} {R : List (List Int)} (h : ZGO m [] R) : Zi0 R = Zu2 m := by
 unfold Zu2 Zi0
 congr 1
 refine ZBH ?_
 have h1 : (R.map g0).Perm (m.map (·.1)) := by simpa [ZGO] using h
 have := h1.map fun k : Int => Yp k.toNat
 rw [List.map_map, List.map_map] at this
 rw [List.map_map]
 exact this
theorem ZEi {m left : List (Int × Int)} {R : List (List Int)} {k : Int} (h : ZGO m left R) (hk : Zv left k = true) : ZGO m (Zak left k) (R ++ [[k]]) := by
 unfold ZGO at h ⊢
 refine List.Perm.trans ?_ h
 rw [ZN9, ZOh]
 refine List.Perm.append_left _ ?_
 have : ∀ l : List (Int × Int), Zv l k = true -> ((k :: (Zak l k).map (·.1))).Perm (l.map (·.1)) := by
  intro l
  induction l with
  | nil => intro q; cases q
  | cons p l ih =>
   obtain ⟨a, b⟩ := p
   intro q
   by_cases e : a = k
   ·have e1 : Zak ((a, b) :: l) k = l := by show (if a = k then l else _) = l; rw [if_pos e]
    rw [e1, <- e]; exact List.Perm.refl _
   ·have e1 : Zak ((a, b) :: l) k = (a, b) :: Zak l k := by show (if a = k then l else _) = _; rw [if_neg e]
    rw [e1]
    have q2 : Zv l k = true := by
     have : (if a = k then true else Zv l k) = true := q
     rw [if_neg e] at this; exact this
    exact (List.Perm.swap _ _ _).trans ((ih q2).cons _)
 exact this left hk
/-! ### The pairs -/
abbrev Kf := List UInt8 -> List UInt8 × Bool
def ZJH (f : Kf) (s : List UInt8) : List Int := [((Zj s : Nat) : Int), ((Zj (f s).1 : Nat) : Int)]
def ZlH (f : Kf) (R : List (List Int)) : Nat -> List (List Int)
 | 0 => []
 | n + 1 => if (f (txt (R.getD n []))).2 = true then ZlH f R n ++ [ZJH f (txt (R.getD n []))] else ZlH f R n
def mvF (m : List (Int × Int)) : Kf := fun s => vw (YQ 0 m (Zj s : Nat))
def leF (x : List Ent) (ks : List Int) : Kf := fun s => Zc0 x ks s ks.length
theorem ZkU (f : Kf) (l : List (List UInt8)) : ∀ n ≤ l.length, ZlH f (l.map ZCG) n = ((l.take n).filter fun s => (f s).2).map (ZJH f)
 | 0, _ => by simp [ZlH]
 | n + 1, hn => by
  have ih := ZkU f l n (by omega)
  have e : txt ((l.map ZCG).getD n []) = l[n] := by
   rw [ZNT, ZNP, ZNW (by omega)]; exact ZBQ _
  unfold ZlH
  rw [e, ih, List.take_succ_eq_append_getElem (by omega), List.filter_append, ZN9]
  by_cases h : (f l[n]).2 = true
  ·rw [if_pos h]; simp [h]
  ·rw [if_neg h]; simp [h]
theorem Zjy {f g : Kf} {a b : List (List UInt8)} (ha : a.Pairwise fun x y => x <= y) (hb : b.Pairwise fun x y => x <= y) (na : a.Nodup) (nb : b.Nodup)
  (hm : ∀ s, (s ∈ a /\ (f s).2 = true) ↔ (s ∈ b /\ (g s).2 = true)) (he : ∀ s ∈ a, (f s).2 = true -> (f s).1 = (g s).1) : ZlH f (a.map ZCG) a.length = ZlH g (b.map ZCG) b.length := by
 rw [ZkU f a _ (ZNJ _), ZkU g b _ (ZNJ _), List.take_length, List.take_length]
 have e : (a.filter fun s => (f s).2) = b.filter fun s => (g s).2 := by
  refine Zub ?_ (ha.filter _) (hb.filter _)
  rw [List.perm_ext_iff_of_nodup (na.filter _) (nb.filter _)]
  intro s
  rw [List.mem_filter, List.mem_filter]; exact hm s
 rw [<- e]
 refine List.map_congr_left fun s hs => ?_
 rw [List.mem_filter] at hs
 unfold ZJH
 rw [he s hs.1 hs.2]
/-! ### The keys that were written -/
def ZEQ : List (List UInt8) -> List UInt8 -> List (List UInt8)
 | [], k => [k]
 | a :: l, k => if Op.bytesLess a k = true then a :: ZEQ l k else if a = k then a :: l else k :: a :: l
def ZuQ (x : List Ent) : Nat -> List (List UInt8)
 | 0 => []
 | n + 1 => if xk (xa x n) = 3 then ZEQ (ZuQ x n) (ZL (xa x n)) else ZuQ x n
theorem Zrx (k s : List UInt8) : ∀ l, s ∈ ZEQ l k ↔ s ∈ l \/ s = k
 | [] => by simp [ZEQ]
 | a :: l => by
  unfold ZEQ
  split
  ·rw [List.mem_cons, List.mem_cons, Zrx k s l]; exact or_assoc.symm
  ·split
   ·rename_i h; subst h; simp only [List.mem_cons]; constructor
    ·exact fun h => .inl h
    ·rintro (h | h); exact h; exact .inl h
   ·simp only [List.mem_cons]; constructor
    ·rintro (h | h); exact .inr h; exact .inl h
    ·rintro (h | h); exact .inr h; exact .inl h
theorem Zwr (k : List UInt8) : ∀ {l : List (List UInt8)}, (l.Pairwise fun a b => a < b) -> (ZEQ l k).Pairwise fun a b => a < b
 | [], _ => by simp [ZEQ]
 | a :: l, h => by
  rw [List.pairwise_cons] at h
  unfold ZEQ
  split
  ·rename_i hl
   rw [Go.Proofs.bytesLess_eq, decide_eq_true_eq] at hl
   refine List.pairwise_cons.2 ⟨fun b hb => ?_, Zwr k h.2⟩
   rcases (Zrx k b l).1 hb with hb | rfl
   ·exact h.1 b hb
   ·exact hl
  ·split
   ·exact List.pairwise_cons.2 h
   ·rename_i hl hne
    rw [Go.Proofs.bytesLess_eq, decide_eq_true_eq] at hl
    have hka : k < a := by
     apply Decidable.byContradiction
     intro q
     exact hne (List.le_antisymm (List.not_lt.1 q) (List.not_lt.1 hl))
    refine List.pairwise_cons.2 ⟨fun b hb => ?_, List.pairwise_cons.2 h⟩
    rcases List.mem_cons.1 hb with rfl | hb
    ·exact hka
    ·exact List.lt_trans hka (h.1 b hb)
theorem Zew (x : List Ent) : ∀ n, (ZuQ x n).Pairwise fun a b => a < b
 | 0 => List.Pairwise.nil
 | n + 1 => by
  unfold ZuQ
  split
  ·exact Zwr _ (Zew x n)
  ·exact Zew x n
theorem ZCo (x : List Ent) (n : Nat) : (ZuQ x n).Nodup := (Zew x n).imp fun {a b} h e => by subst e; exact List.lt_irrefl _ h
theorem ZlB (x : List Ent) (s : List UInt8) : ∀ n, s ∈ ZuQ x n ↔ ∃ i < n, xk (xa x i) = 3 /\ ZL (xa x i) = s
 | 0 => by simp [ZuQ]
 | n + 1 => by
  unfold ZuQ
  split
  ·rename_i h
   rw [Zrx, ZlB x s n]
   constructor
   ·rintro (⟨i, hi, a⟩ | rfl)
    ·exact ⟨i, by omega, a⟩
    ·exact ⟨n, by omega, h, rfl⟩
   ·rintro ⟨i, hi, a⟩
    rcases ZNN i n with q | q
    ·exact .inl ⟨i, q, a⟩
    ·have : i = n := by omega
     subst this; exact .inr a.2.symm
  ·rename_i h
   rw [ZlB x s n]
   constructor
   ·rintro ⟨i, hi, a⟩; exact ⟨i, by omega, a⟩
   ·rintro ⟨i, hi, a⟩
    rcases ZNN i n with q | q
    ·exact ⟨i, q, a⟩
    ·have : i = n := by omega
     subst this; exact absurd a.1 h
def ZJQ (x : List Ent) : List (List Int) := ZlH (leF x (Zw x x.length)) ((ZuQ x x.length).map ZCG) (ZuQ x x.length).length
def Zor (x : List Ent) : Int := if ZcU x ≠ 0 then ZcU x else if 0 <= (Zcm x x.length).1 then 280 else 0
def finR' (x : List Ent) : List (List Int) := if Zor x = 0 then ZJQ x else []
theorem ZrB {x : List Ent} {w : Int} {k : List UInt8} : ∀ {n : Nat}, 0 <= YE x w k n -> (YE x w k n).toNat < n /\ ZL (xa x (YE x w k n).toNat) = k
 | 0, h => absurd h (by show ¬ (0 : Int) <= -1; omega)
 | n + 1, h => by
  rw [Zcn] at h ⊢
  split
  ·rename_i q; exact ⟨by omega, by rw [ZN0]; exact q.2.2⟩
  ·rename_i q; rw [if_neg q] at h
   have := ZrB h
   exact ⟨by omega, this.2⟩
theorem ZqY {x : List Ent} {ks : List Int} {k : List UInt8} : ∀ {n : Nat}, (Zc0 x ks k n).2 = true -> k ∈ ZuQ x x.length
 | 0, h => by cases h
 | n + 1, h => by
  rw [Ze2] at h
  by_cases hl : 0 <= YE x (ks.getD n 0) k x.length
  ·rw [if_pos hl] at h
   have := ZrB hl
   exact (ZlB x k _).2 ⟨_, this.1, of_decide_eq_true h, this.2⟩
  ·rw [if_neg hl] at h; exact ZqY h
theorem Zum {m : List (Int × Int)} {k : Int} : Zv m k = true ↔ k ∈ m.map (·.1) := by
 induction m with
 | nil => simp [Zv]
 | cons p l ih =>
  obtain ⟨a, b⟩ := p
  show (if a = k then true else Zv l k) = true ↔ _
  by_cases e : a = k
  ·simp [e]
  ·rw [if_neg e, ih]; simp [Ne.symm e]
theorem ZKN {x : List Ent} {B : Bk} (h : Go x B) {m : List (Int × Int)} (hm : Ziv m (stF B B.kept.length)) (hc : canM m) : ZlH (mvF m) (Zu2 m) (Zu2 m).length = ZJQ x := by
 unfold ZJQ
 have e1 : Zu2 m = (Zvg ((m.map fun p => [p.1]).map txt)).map ZCG := rfl
 have e2 : (m.map fun p => [p.1]).map txt = (m.map (·.1)).map fun k => Yp k.toNat := by rw [List.map_map, List.map_map]; rfl
 have hin : ∀ s, s ∈ Zvg ((m.map fun p => [p.1]).map txt) ↔ Zv m (Zj s : Nat) = true := by
  intro s
  rw [(Zcw _).mem_iff, e2, Zum, List.mem_map]
  constructor
  ·rintro ⟨k, hk, rfl⟩
   obtain ⟨p, hp, rfl⟩ := List.mem_map.1 hk
   obtain ⟨t, ht⟩ := hc.2 p hp
   rw [ht, ZN0, Zl, <- ht]; exact hk
  ·intro hk; exact ⟨_, hk, by rw [ZN0, Zl]⟩
 have hks : ∀ s : List UInt8, B.kept.length = (Zw x x.length).length := fun _ => (Zbf h).symm
 have hag : ∀ s : List UInt8, Zv m (Zj s : Nat) = true -> mvF m s = leF x (Zw x x.length) s \/ False := by
  intro s hs
  have a := hm (Zj s : Nat)
  rw [hs] at a
  rcases ZsX h s B.kept.length (ZNJ _) with q | q
  ·rw [q.1] at a; exact absurd a.1 (by simp)
  ·rw [q.1] at a
   left
   unfold mvF leF
   rw [a.2, <- hks s]
 rw [e1, ZN3]
 refine Zjy (Zpb _) ((Zew x _).imp fun h => List.le_of_lt h) ?_ (ZCo x _) ?_ ?_
 ·rw [(Zcw _).nodup_iff, e2]
  refine List.pairwise_map.2 ?_
  have hn := hc.1
  have hca : ∀ k : Int, k ∈ m.map (·.1) -> ∃ s : List UInt8, k = (Zj s : Nat) := fun k hk => by
   obtain ⟨p, hp, rfl⟩ := List.mem_map.1 hk; exact hc.2 p hp
  refine List.Pairwise.imp_of_mem (fun {a b} ha hb hab e => hab ?_) hn
  obtain ⟨s, rfl⟩ := hca a ha
  obtain ⟨t, rfl⟩ := hca b hb
  rw [ZN0, ZN0, Zl, Zl] at e
  rw [e]
 ·intro s
  rw [hin]
  constructor
  ·rintro ⟨a, b⟩
   rcases hag s a with e | e
   ·rw [e] at b; exact ⟨ZqY b, b⟩
   ·exact e.elim
  ·rintro ⟨_, b⟩
   have hs : Zv m (Zj s : Nat) = true := by
    have a := hm (Zj s : Nat)
    rcases ZsX h s B.kept.length (ZNJ _) with q | q
    ·unfold leF at b
     rw [<- hks s, q.2] at b; cases b
    ·rw [q.1] at a; exact a.1
   refine ⟨hs, ?_⟩
   rcases hag s hs with e | e
   ·rw [e]; exact b
   ·exact e.elim
 ·intro s hs hb
  rcases hag s ((hin s).1 hs) with e | e
  ·rw [e]
  ·exact e.elim
end
end Go.Proofs.Ytidlngnhjffepaa
namespace Go.Proofs
open Go.Shelf
def Try.lays190_ren : Go.Shelf.Ren := ⟨fun | 190 => 41 | 125 => 38 | 258 => 61 | 128 => 59 | 129 => 60 | 302 => 72 | 303 => 73 | 304 => 74 | 305 => 75 | 306 => 76 | 307 => 77 | 308 => 78 | 309 => 79 | 310 => 80 | 333 => 91 | 329 => 68 | 330 => 69 | 334 => 92 | 335 => 93 | 336 => 94 | 344 => 98 | n => n, fun | 31 => 77 | 9 => 9 | 3 => 3 | 46 => 94 | 0 => 0 | 51 => 116 | 53 => 118 | 4 => 4 | 183 => 110 | 182 => 109 | 131 => 52 | 5 => 5 | 218 => 125 | 222 => 129 | 228 => 143 | 229 => 144 | n => n, fun | n => n⟩
theorem Try.lays190 : Go.Proofs.Lays.n190 Try.prog Try.lays190_ren := {
 mixed := by kernel_rfl
 f125 := Try.func38.trans (congrArg some (by kernel_rfl))
 f128 := Try.func59.trans (congrArg some (by kernel_rfl))
 f129 := Try.func60.trans (congrArg some (by kernel_rfl))
 f190 := Try.func41.trans (congrArg some (by kernel_rfl))
 f258 := Try.func61.trans (congrArg some (by kernel_rfl))
 f302 := Try.func72.trans (congrArg some (by kernel_rfl))
 f303 := Try.func73.trans (congrArg some (by kernel_rfl))
 f304 := Try.func74.trans (congrArg some (by kernel_rfl))
 f305 := Try.func75.trans (congrArg some (by kernel_rfl))
 f306 := Try.func76.trans (congrArg some (by kernel_rfl))
 f307 := Try.func77.trans (congrArg some (by kernel_rfl))
 f308 := Try.func78.trans (congrArg some (by kernel_rfl))
 f309 := Try.func79.trans (congrArg some (by kernel_rfl))
 f310 := Try.func80.trans (congrArg some (by kernel_rfl))
 f329 := Try.func68.trans (congrArg some (by kernel_rfl))
 f330 := Try.func69.trans (congrArg some (by kernel_rfl))
 f333 := Try.func91.trans (congrArg some (by kernel_rfl))
 f334 := Try.func92.trans (congrArg some (by kernel_rfl))
 f335 := Try.func93.trans (congrArg some (by kernel_rfl))
 f336 := Try.func94.trans (congrArg some (by kernel_rfl))
 f344 := Try.func98.trans (congrArg some (by kernel_rfl))
 t0 := Try.underlying0
 a0 := Try.isAgg0
 z0 := Try.sizeOf0
 v0 := Try.zeroValue0
 t3 := Try.underlying3
 a3 := Try.isAgg3
 z3 := Try.sizeOf3
 v3 := Try.zeroValue3
 t4 := Try.underlying4
 a4 := Try.isAgg4
 z4 := Try.sizeOf4
 v4 := Try.zeroValue4
 t5 := Try.underlying5
 a5 := Try.isAgg5
 z5 := Try.sizeOf5
 v5 := Try.zeroValue5
 t9 := Try.underlying9
 a9 := Try.isAgg9
 z9 := Try.sizeOf9
 v9 := Try.zeroValue9
 t31 := Try.underlying77
 a31 := Try.isAgg77
 z31 := Try.sizeOf77
 v31 := Try.zeroValue77
 t46 := Try.underlying94
 a46 := Try.isAgg94
 z46 := Try.sizeOf94
 v46 := Try.zeroValue94
 t51 := Try.underlying116
 a51 := Try.isAgg116
 z51 := Try.sizeOf116
 v51 := Try.zeroValue116
 t53 := Try.underlying118
 a53 := Try.isAgg118
 z53 := Try.sizeOf118
 v53 := Try.zeroValue118
 t131 := Try.underlying52
 a131 := Try.isAgg52
 z131 := Try.sizeOf52
 v131 := Try.zeroValue52
 t182 := Try.underlying109
 a182 := Try.isAgg109
 z182 := Try.sizeOf109
 v182 := Try.zeroValue109
 t183 := Try.underlying110
 a183 := Try.isAgg110
 z183 := Try.sizeOf110
 v183 := Try.zeroValue110
 t218 := Try.underlying125
 a218 := Try.isAgg125
 z218 := Try.sizeOf125
 v218 := Try.zeroValue125
 t222 := Try.underlying129
 a222 := Try.isAgg129
 z222 := Try.sizeOf129
 v222 := Try.zeroValue129
 t228 := Try.underlying143
 a228 := Try.isAgg143
 z228 := Try.sizeOf143
 v228 := Try.zeroValue143
 t229 := Try.underlying144
 a229 := Try.isAgg144
 z229 := Try.sizeOf144
 v229 := Try.zeroValue144 }
open Go.Sort Go.RowKit in
theorem Try.slices_Sort_string (blk off cap : Nat) (ss : List (List UInt8)) (w : World) (hH : Holds encStr w blk off ss.toArray) (hblk : blk < w.heap.size) (hsz : ss.length < 4611686018427387904) :
  Calls Try.prog 41 #[.slice (some ⟨blk, off, none⟩) ss.length cap] w fun e w' =>
   e = .returned (.tuple #[]) /\ ∃ n os, w' = grow (putRow encStr (Sort.ahead w n) blk off (ss.mergeSort fun x y => decide (x <= y)).toArray) os := Any.slices_Sort_string Try.lays190 blk off cap ss w hH hblk hsz
open Go.RowKit Go.Sort in
theorem Try.slices_Sort_string_none (p : Option Addr) (cap : Nat) (w : World) :
  Calls Try.prog 41 #[.slice p 0 cap] w fun e w' => e = .returned (.tuple #[]) /\ w' = w := Any.slices_Sort_string_none Try.lays190 p cap w
end Go.Proofs
namespace Go.Proofs.Ytidlngnhjffepaa
noncomputable section
open Go.Eng
open Go.Sort (grow flatK putRow putRowK HoldsK setMany ahead PermIn SortedIn)
open Go.Proofs (ltOf sortWorldK)
def rF : List Go.Eng.Fd := .int .i64 :: hF
def Za1 (x : List Int) : List Value := rowVals rF x
theorem ZcB (x : List Int) : (Za1 x).length = 7 := Z8 rF x
theorem Zgn (l : List (List Int)) : (l.flatMap Za1).length = l.length * 7 := by
 induction l with
 | nil => rfl
 | cons a l ih => rw [List.flatMap_cons, ZNY, ih, ZcB, ZOd]; omega
theorem ZtG : ∀ (l : List (List Int)) (t : Nat), t < l.length * 7 -> (l.flatMap Za1)[t]? = some ((Za1 (l.getD (t / 7) default))[t % 7]!)
 | [], t, h => by simp at h
 | x :: l, t, h => by
  rw [List.flatMap_cons]
  by_cases h7 : t < 7
  ·rw [ZOb (by rw [ZcB]; exact h7), Nat.div_eq_of_lt h7, Nat.mod_eq_of_lt h7]
   have hl : t < (Za1 x).length := by rw [ZcB]; exact h7
   rw [ZNW hl]
   show some (Za1 x)[t] = some (Za1 x)[t]!
   rw [getElem!_pos _ t hl]
  ·rw [ZOc (by rw [ZcB]; omega), ZcB, ZtG l (t - 7) (by rw [ZOd] at h; omega)]
   have e1 : t / 7 = (t - 7) / 7 + 1 := by omega
   have e2 : t % 7 = (t - 7) % 7 := by omega
   rw [e1, e2]; rfl
theorem Zfx (l : List (List Int)) : (flatK Za1 7 l.toArray).toList = l.flatMap Za1 := by
 apply List.ext_getElem?
 intro t
 by_cases h : t < l.length * 7
 ·rw [ZtG l t h]
  have := Go.Sort.get_flatK Za1 7 l.toArray t (by simpa using h)
  have hs : t < (flatK Za1 7 l.toArray).size := by simpa using h
  rw [getElem!_pos _ t hs] at this
  rw [ZNI, Array.getElem?_eq_getElem hs, this]
  congr 2
  simp [Array.getElem!_eq_getD, Array.getD_eq_getD_getElem?, ZNT]
 ·rw [List.getElem?_eq_none (by simpa using h)]
  have hl : (l.flatMap Za1).length = l.length * 7 := Zgn l
  rw [List.getElem?_eq_none (by omega)]
theorem Sat.push' {w0 w : World} {H : HProp} (h : Sat w0 H w) (x : Obj) : Sat w0 H { w with heap := w.heap.push x } := by
 obtain ⟨y, hy, hi⟩ := h
 exact ⟨y, hy, hi.push x⟩
theorem Sat.grow {w0 : World} {H : HProp} : ∀ (os : List Obj) {w : World}, Sat w0 H w -> Sat w0 H (grow w os.toArray)
 | [], w, h => by rw [show (([] : List Obj).toArray) = #[] from rfl, Go.Sort.grow_empty]; exact h
 | x :: os, w, h => by
  have := Sat.grow os (Sat.push' h x)
  have e : Go.Sort.grow { w with heap := w.heap.push x } os.toArray = Go.Sort.grow w (x :: os).toArray := by
   unfold Go.Sort.grow; simp
  rw [e] at this; exact this
theorem Sat.cells {w0 : World} {b o : Nat} {z : Bool} {H : HProp} : ∀ (new : List Value) (i : Nat) (cs : List Value) (w : World), Sat w0 (Zc (row b o cs z) H) w -> i + new.length <= cs.length →
  Sat w0 (Zc (row b o (cs.take i ++ new ++ cs.drop (i + new.length)) z) H) (w.setCells b (o + i) new)
 | [], i, cs, w, h, _ => by simpa [World.setCells] using h
 | v :: new, i, cs, w, h, hl => by
  simp only [ZOd] at hl
  have hs := h.store (i := i) (by omega) v
  have := Sat.cells new (i + 1) (cs.set i v) _ hs (by simp; omega)
  have e : (cs.set i v).take (i + 1) ++ new ++ (cs.set i v).drop (i + 1 + new.length) = cs.take i ++ (v :: new) ++ cs.drop (i + (v :: new).length) := by
   have e1 : (cs.set i v).take (i + 1) = cs.take i ++ [v] := by
    rw [List.take_add_one, List.take_set_of_le (ZNJ i), List.getElem?_set_self (by omega)]
    rfl
   rw [e1, List.drop_set_of_lt (by omega), ZOd]
   simp [Nat.add_assoc, Nat.add_comm 1]
  rw [e] at this
  exact this
theorem Sat.put {w0 w : World} {b : Nat} {z : Bool} {H : HProp} {old new : List (List Int)} {spare : List Value} (h : Sat w0 (Zc (row b 0 (old.flatMap Za1 ++ spare) z) H) w) (hl : new.length = old.length) :
  Sat w0 (Zc (row b 0 (new.flatMap Za1 ++ spare) z) H) (putRowK Za1 7 w b 0 new.toArray) := by
 have len : ∀ l : List (List Int), (l.flatMap Za1).length = l.length * 7 := Zgn
 have hh : HoldsK Za1 7 w b 0 old.toArray := by
  intro j hj
  rw [Go.Sort.size_flatK] at hj
  have hj' : j < (old.flatMap Za1 ++ spare).length := by rw [ZNY, len]; simp at hj; omega
  have := h.load hj'
  rw [List.getElem_append_left (by rw [len]; simpa using hj)] at this
  have e : (flatK Za1 7 old.toArray)[j]! = (old.flatMap Za1)[j]'(by rw [len]; simpa using hj) := by
   have hs : j < (flatK Za1 7 old.toArray).size := by simpa using hj
   rw [getElem!_pos _ j hs, <- Array.getElem_toList]
   congr 1
   exact Zfx old
  rw [e]
  exact this
 have e1 : putRowK Za1 7 w b 0 old.toArray = w := Go.Sort.putRowK_self Za1 7 w b 0 _ hh
 have e2 := Go.Sort.setCells_putRow w b 0 (new.flatMap Za1) 0 (flatK Za1 7 old.toArray) (by simp [len, hl])
 have e3 : setMany (flatK Za1 7 old.toArray) 0 (new.flatMap Za1) = flatK Za1 7 new.toArray := by
  refine Go.Sort.ext_get! (by simp [hl]) fun t ht => ?_
  have ht' : t < old.length * 7 := by simpa using ht
  rw [Go.Sort.get_setMany _ _ _ _ (by simpa using ht'), if_pos (by rw [len]; omega), Nat.sub_zero]
  have hs : t < (flatK Za1 7 new.toArray).size := by simp [hl]; exact ht'
  have ht2 : t < (new.flatMap Za1).length := by rw [len]; omega
  rw [getElem!_pos _ t ht2, getElem!_pos _ t hs, <- Array.getElem_toList]
  congr 1
  exact (Zfx new).symm
 rw [show putRow id w b 0 (flatK Za1 7 old.toArray) = w from e1, e3] at e2
 have := Sat.cells (new.flatMap Za1) 0 _ w h (by rw [ZNY, len, len]; omega)
 rw [e2, List.take_zero, List.nil_append, Nat.zero_add, show (new.flatMap Za1).length = (old.flatMap Za1).length by rw [len, len, hl], List.drop_left] at this
 exact this
theorem ltPage' (x y : List Int) : ltOf (fun x y : List Int => Go.Lib.compareInt (g0 x) (g0 y)) x y = decide (g0 x < g0 y) := by
 unfold ltOf Go.Lib.compareInt
 by_cases h1 : g0 x < g0 y
 ·simp [h1]
 ·by_cases h2 : g0 y < g0 x <;> simp [h1, h2]
theorem ZuC {R : List (List Int)} {d' : Array (List Int)} (hp : Go.Sort.PermIn 0 R.length R.toArray d')
  (hs : Go.Sort.SortedIn (ltOf fun x y : List Int => Go.Lib.compareInt (g0 x) (g0 y)) 0 R.length d') : d'.toList.length = R.length /\ SrtP R d'.toList := by
 obtain ⟨h1, h2, h3⟩ := hp
 have hsz : d'.size = R.length := by simpa using h1
 have h3 : d'.toList.Perm R := by
  have e1 : (d'.extract 0 R.length) = d' := by rw [<- hsz]; simp
  have e2 : (R.toArray.extract 0 R.length) = R.toArray := by simp
  rw [e1, e2] at h3
  simpa using h3
 refine ⟨by simpa using hsz, h3, ?_⟩
 rw [List.pairwise_iff_getElem]
 intro i j hi hj hij
 have := hs i j (Nat.zero_le _) hij (by rw [Array.length_toList] at hj; omega)
 rw [ltPage', decide_eq_false_iff_not, getElem!_pos _ _ (by simpa using hj), getElem!_pos _ _ (by simpa using hi)] at this
 simp only [Array.getElem_toList]
 omega
def ZEo (P : Program) (f g : FuncId) : Prop := ∀ (blk cap : Nat) (d : Array (List Int)) (w : World), HoldsK Za1 7 w blk 0 d -> blk < w.heap.size -> d.size < 4611686018427387904 →
  Calls P f #[.slice (some ⟨blk, 0, none⟩) d.size cap, .func (.func g) #[] #[]] w fun e w' => e = .returned (.tuple #[]) ∧
   ∃ d' n os, PermIn 0 d.size d d' /\ SortedIn (ltOf fun x y : List Int => Go.Lib.compareInt (g0 x) (g0 y)) 0 d.size d' /\ w' = sortWorldK Za1 7 w blk 0 n d' os
def SortNone (P : Program) (f : FuncId) : Prop := ∀ (p : Option Addr) (cap : Nat) (fv : Value) (w : World), Calls P f #[.slice p 0 cap, fv] w fun e w' => e = .returned (.tuple #[]) /\ w' = w
theorem ZhC (R : List (List Int)) : R.flatMap (rowVals rF) = R.flatMap Za1 := rfl
theorem ZL5 (S : Sig GG) (hS : JsSig S) {P : Program} {f : FuncId} (hsome : ZEo P f 21) (hnone : SortNone P f) : ZR S P f Zdj := by
 intro ch w0 F ρ w xs hx hq hsat
 obtain ⟨v1, v2, rfl, hv1, hv2⟩ : ∃ v1 v2, xs = [v1, v2] /\ SV.R S ρ (.one (.slice (ai 0) z0 z0 z0 (ai 2) (ai 3) 7)) v1 /\ SV.R S ρ (.one (.fn 21)) v2 := by
  match xs, hx with
  | [v1, v2], hx => exact ⟨v1, v2, rfl, hx.1, hx.2.1⟩
 have hv1 := R_one S ρ hv1
 have hv2 := R_one S ρ hv2
 have q1 := hq (eLe z0 (ai 2)) (by simp [Zdj])
 have q2 := hq (.f2 45 (ai 2) (Zg (rA 1))) (by simp [Zdj])
 have q3 := hq (eLe (ai 2) (.int 140737488355328)) (by simp [Zdj])
 rw [Zf] at q1 q3
 have q2 : ((ai 2).den S ρ).tI = ((Zg (rA 1)).den S ρ).tI := by
  have : (ap2 45 ((ai 2).den S ρ) ((Zg (rA 1)).den S ρ)).tP := q2
  rw [p45] at this; exact this
 simp only [Zdj, Zs, star_assoc, Ch.den, rAr] at hsat
 rw [SX.den_wc, SX.den_wc, SX.den_wc] at hsat
 simp only [SX.den, ai, rA, Zg, Y5, U.co, U.tIi, z0] at q1 q2 q3 hsat
 subst hv1 hv2
 simp only [SC.den, SX.den, ai, U.co, U.tIi, z0, if_true, ZNQ, Nat.zero_mul, Nat.zero_add, ite_self]
 generalize hb : (ρ 0).tI = b at *
 generalize hn : (ρ 2).tI = n at *
 generalize hR : (ρ 1).tR = R at *
 generalize hc : (ρ 4).tI = c at *
 obtain ⟨spare, hsat⟩ := YN hsat
 obtain ⟨g1, hsat⟩ := Zt hsat
 obtain ⟨g2, hsat⟩ := Zt hsat
 obtain ⟨g3, hsat⟩ := Zt hsat
 have hlen := Zgn R
 simp only [rE, En.vals, En.stride, ZOd, List.length_nil, U.tIi, U.tRi] at g1 g2 g3 q2 hsat
 simp only [show (Go.Eng.Fd.int IntKind.i64 :: hF) = rF from rfl, ZhC] at g1 g3 hsat
 by_cases hR0 : R = []
 ·subst hR0
  have hn0 : n = 0 := by simpa using q2
  subst hn0
  refine (hnone _ _ _ w).mono ?_
  rintro e w' ⟨rfl, rfl⟩
  refine ⟨ρ.upd 5 (.rows []), .tuple #[], Ext.upd _ _, rfl, .inr rfl, ?_, ?_⟩
  ·simp only [Zdj, Zs, star_assoc, Ch.den, rAr]
   rw [SX.den_wc, SX.den_wc, SX.den_wc]
   simp only [SX.den, ai, rA, U.co, U.tIi, Env.upd, if_true, Nat.reduceEqDiff, reduceIte, hb, hc, U.tRi]
   exact YY spare (Zu (by simpa [rE, En.vals, En.stride] using g1) (Zu g2 (Zu g3 (by simp only [rE, En.vals, List.flatMap_nil, U.tRi]; exact hsat))))
  ·intro x hx
   simp only [Zdj, List.mem_cons, List.not_mem_nil, or_false] at hx
   rcases hx with rfl | rfl
   ·show (ap2 45 ((Zg (rA 5)).den S _) ((Zg (rA 1)).den S _)).tP
    rw [p45]; simp [SX.den, Zg, rA, Y5, Env.upd, hR, U.co]
   ·simp only [srtX, usB, SX.den, hS.u580, rA, Env.upd, if_true, Nat.reduceEqDiff, reduceIte, U.co, hR, U.tRi, U.tPi, U.tQi, Zi]
    exact ⟨List.Perm.refl _, List.Pairwise.nil⟩
 ·have hRl : 0 < R.length := List.length_pos_iff.2 hR0
  have hb0 : 0 <= b := by
   rcases g3 with h | h
   ·exact h
   ·exfalso; rw [h, hlen] at g1; simp at g1; omega
  have hn' : n.toNat = R.length := by omega
  have hlt := hsat.row_lt (by intro e; have := congrArg List.length e; rw [ZNY, hlen] at this; simp at this; omega)
  have hold : HoldsK Za1 7 w b.toNat 0 R.toArray := by
   intro j hj
   have hj0 := hj
   rw [Go.Sort.size_flatK] at hj
   have hj' : j < (R.flatMap Za1 ++ spare).length := by rw [ZNY, hlen]; simp at hj; omega
   have := hsat.load hj'
   rw [List.getElem_append_left (by rw [hlen]; simpa using hj)] at this
   rw [getElem!_pos _ j hj0, <- Array.getElem_toList]
   have e : (flatK Za1 7 R.toArray).toList[j]'(by simpa using hj0) = (R.flatMap Za1)[j]'(by rw [hlen]; simpa using hj) := by
    congr 1
    exact Zfx _
   rw [e]
   exact this
  have hcall := hsome b.toNat (SX.den S ρ (ai 3)).tI.toNat R.toArray w hold hlt.2 (by simp; omega)
  rw [if_neg (by omega), hn']
  refine hcall.mono ?_
  rintro e w' ⟨rfl, d', m, os, hp, hs, rfl⟩
  obtain ⟨hyl, hys⟩ := ZuC (by simpa using hp) (by simpa using hs)
  refine ⟨ρ.upd 5 (.rows d'.toList), .tuple #[], Ext.upd _ _, rfl, .inr rfl, ?_, ?_⟩
  ·simp only [Zdj, Zs, star_assoc, Ch.den, rAr]
   rw [SX.den_wc, SX.den_wc, SX.den_wc]
   simp only [SX.den, ai, rA, U.co, U.tIi, Env.upd, if_true, Nat.reduceEqDiff, reduceIte, hb, hc, U.tRi]
   have hput : Sat w0 (Zc (row b.toNat 0 (d'.toList.flatMap Za1 ++ spare) true) (Zc (hpDen (S.wc ch) (ρ.upd 5 (.rows d'.toList)) w0 []) F)) (sortWorldK Za1 7 w b.toNat 0 m d' os) := by
    have h1 := Sat.put (new := d'.toList) (hsat.drew (w.drawn + m)) (by simpa using hp.1)
    have h2 := Sat.grow os.toList h1
    exact h2
   refine YY spare (Zu ?_ (Zu g2 (Zu g3 ?_)))
   ·simp only [rE, En.vals, En.stride, ZOd, List.length_nil, U.tIi, U.tRi, show (Go.Eng.Fd.int IntKind.i64 :: hF) = rF from rfl, ZhC]
    rw [Zgn, hyl, <- hlen]; exact g1
   ·simp only [rE, En.vals, U.tRi, show (Go.Eng.Fd.int IntKind.i64 :: hF) = rF from rfl, ZhC]
    exact hput
  ·intro x hx
   simp only [Zdj, List.mem_cons, List.not_mem_nil, or_false] at hx
   rcases hx with rfl | rfl
   ·show (ap2 45 ((Zg (rA 5)).den S _) ((Zg (rA 1)).den S _)).tP
    rw [p45]; simp only [SX.den, Zg, rA, Y5, Env.upd, hR, U.co, if_true, Nat.reduceEqDiff, reduceIte, U.tRi, U.tIi, hyl]
   ·simp only [srtX, usB, SX.den, hS.u580, rA, Env.upd, if_true, Nat.reduceEqDiff, reduceIte, U.co, hR, U.tRi, U.tPi, U.tQi, Zi]
    exact hys
end
end Go.Proofs.Ytidlngnhjffepaa
namespace Go.Proofs.Ytidlngnhjffepaa
noncomputable section
open Go.Eng
open Go.Sort (grow putRow Holds ahead)
open Go.Proofs (encStr)
/-! ### Pairs in memory -/
def tx1 (w : List Int) : List UInt8 := Yp (w.getD 1 0).toNat
def itF (r w : List Int) : Prop := g1 r = ((txt w).length : Nat) /\ r.getD 4 0 = ((tx1 w).length : Nat) /\ g1 r <= g2 r /\ r.getD 4 0 <= r.getD 5 0 /\ 0 <= g0 r /\ 0 <= r.getD 3 0
def itP (r w : List Int) : HProp := fun h => itF r w /\ Zc (bAD (g0 r) (txt w) (g2 r)) (bAD (r.getD 3 0) (tx1 w) (r.getD 5 0)) h
def prH : List (List Int) -> List (List Int) -> HProp
 | [], [] => emp
 | r :: R, w :: W => Zc (itP r w) (prH R W)
 | _, _ => fun _ => False
def prO (k W : List (List Int)) : HProp :=
 let i := (g0 (k.getD 0 [])).toNat
 Zc (prH ((k.drop 1).take i) (W.take i)) (prH ((k.drop 1).drop (i + 1)) (W.drop (i + 1)))
structure FiSig (S : Sig GG) : Prop where
 js : JsSig S
 p110 : ∀ w0 k x, S.prd 110 w0 k x = prH k.tR x.tR
 p111 : ∀ w0 k x, S.prd 111 w0 k x = prO k.tR x.tR
 u600 : ∀ a b c d, S.usr 600 a b c d = .rows (Zi0 a.tR)
 u601 : ∀ a b c d, S.usr 601 a b c d = .rows (Zu2 a.tM)
 u602 : ∀ a b c d, S.usr 602 a b c d = .rows (ZlH (mvF a.tM) b.tR c.tI.toNat)
 u603 : ∀ a b c d, S.usr 603 a b c d = .rows (finR' a.tR)
 u604 : ∀ a b c d, S.usr 604 a b c d = .int (Zor a.tR)
 u605 : ∀ a b c d, S.usr 605 a b c d = .bool (Zp (ZGO a.tM b.tM c.tR))
 u610 : ∀ a b c d, S.usr 610 a b c d = .rows ((ZuQ a.tR b.tI.toNat).map ZCG)
 u611 : ∀ a b c d, S.usr 611 a b c d = .bool (Zp (∀ j : Nat, (j : Int) < c.tI -> Op.bytesLess (txt (a.tR.getD j [])) b.tB = true))
 u612 : ∀ a b c d, S.usr 612 a b c d = .rows (ZlH (leF a.tR b.tN) c.tR d.tI.toNat)
 u606 : ∀ a b c d, S.usr 606 a b c d = .bool (Zp (canM a.tM))
def sE : En := .rows [.str]
def sAr (b x c : SX) : Ch := .arr sE b x c
def ZhR : Ctr := ⟨[.int, .rows, .int, .int, .int], [.one (slC (ai 0) (ai 2) (ai 3) 1)], [sAr (ai 0) (rA 1) (ai 4)], [.f2 45 (ai 2) (Zg (rA 1)), eLe (ai 2) (.int 140737488355328)], [], .tup [], [sAr (ai 0) (usR 600 (rA 1) z0 z0) (ai 4)], []⟩
theorem ZkH (R : List (List Int)) : R.flatMap (rowVals [.str]) = (R.map txt).map encStr := by
 rw [List.map_map]
 induction R with
 | nil => rfl
 | cons r R ih => rw [List.flatMap_cons, ZN2, ih]; rfl
theorem Zkc (R : List (List Int)) : (Zi0 R).map txt = Zvg (R.map txt) := by
 unfold Zi0; rw [List.map_map]
 conv => rhs; rw [<- List.map_id (Zvg (R.map txt))]
 exact List.map_congr_left fun s _ => ZBQ s
theorem ZEE {a : Array Value} {v : Value} {j : Nat} (h : a[j]? = some v) : a[j]! = v := by rw [Array.getElem!_eq_getD, Array.getD_eq_getD_getElem?, h]; rfl
theorem Sat.putS {w0 w : World} {b : Nat} {z : Bool} {H : HProp} {old new : List (List UInt8)} {spare : List Value} (h : Sat w0 (Zc (row b 0 (old.map encStr ++ spare) z) H) w) (hl : new.length = old.length) :
  Sat w0 (Zc (row b 0 (new.map encStr ++ spare) z) H) (putRow encStr w b 0 new.toArray) := by
 have hh : Holds id w b 0 (old.map encStr).toArray := by
  intro j hj
  have hj1 : j < (old.map encStr).length := by simpa using hj
  have hj' : j < (old.map encStr ++ spare).length := by rw [ZNY]; omega
  have := h.load hj'
  rw [List.getElem_append_left hj1] at this
  rw [Nat.zero_add] at this ⊢
  refine ⟨?_, this.2⟩
  rw [this.1]
  congr 1
  exact (ZEE (by rw [List.getElem?_toArray, ZNW hj1])).symm
 have e1 : putRow id w b 0 (old.map encStr).toArray = w := Go.Sort.putRow_self id w b 0 _ hh
 have e2 := Go.Sort.setCells_putRow w b 0 (new.map encStr) 0 (old.map encStr).toArray (by simp [hl])
 have e3 : Go.Sort.setMany (old.map encStr).toArray 0 (new.map encStr) = (new.map encStr).toArray := by
  refine Go.Sort.ext_get! (by simp [hl]) fun t ht => ?_
  have ht' : t < old.length := by simpa using ht
  rw [Go.Sort.get_setMany _ _ _ _ (by simpa using ht'), if_pos (by simp; omega), Nat.sub_zero]
  have ht2 : t < (new.map encStr).length := by simp; omega
  rw [getElem!_pos _ t ht2, getElem!_pos _ t (by simpa using ht2)]
  simp
 have e4 : putRow encStr w b 0 new.toArray = putRow id w b 0 (new.map encStr).toArray := by
  unfold putRow
  congr 1
  funext c
  unfold Go.Sort.putCells
  congr 1
  funext k x
  simp only [List.size_toArray, ZN3, Nat.zero_add, Nat.sub_zero, Nat.zero_le, true_and, id]
  by_cases hk : k < new.length
  ·rw [if_pos hk, if_pos hk, getElem!_pos _ k (by simpa using hk), getElem!_pos _ k (by simpa using hk)]; simp
  ·rw [if_neg hk, if_neg hk]
 rw [e1, e3] at e2
 have := Sat.cells (new.map encStr) 0 _ w h (by simp; omega)
 rw [e2, List.take_zero, List.nil_append, Nat.zero_add, show (new.map encStr).length = (old.map encStr).length by simp [hl], List.drop_left] at this
 rw [e4]
 exact this
theorem ZLs (S : Sig GG) (hS : FiSig S) : ZR S Try.prog 41 ZhR := by
 intro ch w0 F ρ w xs hx hq hsat
 obtain ⟨v1, rfl, hv1⟩ : ∃ v1, xs = [v1] /\ SV.R S ρ (.one (slC (ai 0) (ai 2) (ai 3) 1)) v1 := by
  match xs, hx with
  | [v1], hx => exact ⟨v1, rfl, hx.1⟩
 have hv1 := R_one S ρ hv1
 have q2 := hq (.f2 45 (ai 2) (Zg (rA 1))) (by simp [ZhR])
 have q3 := hq (eLe (ai 2) (.int 140737488355328)) (by simp [ZhR])
 rw [Zf] at q3
 have q2 : ((ai 2).den S ρ).tI = ((Zg (rA 1)).den S ρ).tI := by
  have : (ap2 45 ((ai 2).den S ρ) ((Zg (rA 1)).den S ρ)).tP := q2
  rw [p45] at this; exact this
 simp only [ZhR, Zs, star_assoc, Ch.den, sAr] at hsat
 rw [SX.den_wc, SX.den_wc, SX.den_wc] at hsat
 simp only [SX.den, ai, rA, Zg, Y5, U.co, U.tIi, U.tRi] at q2 q3 hsat
 subst hv1
 rw [Zds]
 simp only [SX.den, ai, U.co, U.tIi]
 generalize hb : (ρ 0).tI = b at *
 generalize hn : (ρ 2).tI = n at *
 generalize hR : (ρ 1).tR = R at *
 generalize hc : (ρ 4).tI = c at *
 obtain ⟨spare, hsat⟩ := YN hsat
 obtain ⟨g1, hsat⟩ := Zt hsat
 obtain ⟨g2, hsat⟩ := Zt hsat
 obtain ⟨g3, hsat⟩ := Zt hsat
 simp only [sE, En.vals, En.stride, En.nf, ZOd, List.length_nil, U.tIi, U.tRi, ZkH] at g1 g2 g3 hsat
 have fin : ∀ w', Sat w0 (Zc (row b.toNat 0 ((Zi0 R).flatMap (rowVals [.str]) ++ spare) true) (Zc (hpDen (S.wc ch) ρ w0 []) F)) w' →
   Sat w0 (Zc (hpDen (S.wc ch) ρ w0 ZhR.post) F) w' := by
  intro w' hw
  simp only [ZhR, Zs, star_assoc, Ch.den, sAr, usR]
  rw [SX.den_wc, SX.den_wc, SX.den_wc]
  simp only [SX.den, ai, rA, U.co, U.tIi, hS.u600, hb, hc, hR, U.tRi]
  refine YY spare (Zu ?_ (Zu g2 (Zu g3 hw)))
  simp only [sE, En.vals, En.stride, ZOd, List.length_nil, U.tRi, U.tIi, ZkH, Zkc, ZN3, (Zcw _).length_eq] at g1 ⊢
  exact g1
 by_cases hR0 : R = []
 ·subst hR0
  have hn0 : n = 0 := by simpa using q2
  subst hn0
  refine (Try.slices_Sort_string_none _ _ w).mono ?_
  rintro e w' ⟨rfl, rfl⟩
  refine ⟨ρ, .tuple #[], Ext.refl _ _, rfl, .inr rfl, fin _ ?_, fun x hx => nomatch hx⟩
  rw [ZkH, Zkc, show Zvg (([] : List (List Int)).map txt) = ([] : List (List Int)).map txt by simp [Zvg]]
  exact hsat
 ·have hRl : 0 < R.length := List.length_pos_iff.2 hR0
  have hb0 : 0 <= b := by
   rcases g3 with h | h
   ·exact h
   ·exfalso; rw [h] at g1; simp at g1; exact hR0 g1.1
  have hn' : n.toNat = (R.map txt).length := by rw [ZN3]; omega
  have hlt := hsat.row_lt (by intro e; have := congrArg List.length e; simp at this; exact hR0 this.1)
  have hold : Holds encStr w b.toNat 0 (R.map txt).toArray := by
   intro j hj
   have hj0 : j < (R.map txt).length := by simpa using hj
   have hj' : j < ((R.map txt).map encStr ++ spare).length := by simp at hj0 ⊢; omega
   have := hsat.load hj'
   rw [List.getElem_append_left (by simpa using hj0)] at this
   rw [getElem!_pos _ j (by simpa using hj0)]
   simpa using this
  have hcall := Try.slices_Sort_string b.toNat 0 (ρ 3).tI.toNat (R.map txt) w hold hlt.2 (by simp; omega)
  unfold slV
  rw [if_neg (by omega), hn']
  refine hcall.mono ?_
  rintro e w' ⟨rfl, m, os, rfl⟩
  refine ⟨ρ, .tuple #[], Ext.refl _ _, rfl, .inr rfl, fin _ ?_, fun x hx => nomatch hx⟩
  have h1 := Sat.putS (new := Zvg (R.map txt)) (hsat.drew (w.drawn + m)) (Zcw _).length_eq
  have h2 := Sat.grow os.toList h1
  rw [ZkH, Zkc]
  exact h2
def canC : Ctr := ⟨[.int, .amap], [.one (.map (ai 0))], [scC (ai 0) (mA 1)], [], [], .tup [], [scC (ai 0) (mA 1)], [usB 606 (mA 1) z0 z0]⟩
theorem ZMu (S : Sig GG) (hS : FiSig S) : Zbp S canC := by
 refine Ys S fun T w0 ρ h hu hp hd hr hpre => ⟨ρ, Ext.refl _ _, hpre, ?_⟩
 have hT := hS.u606
 rw [<- hu] at hT
 intro x hx
 simp only [canC, ZNM] at hx
 subst hx
 have e1 : hpDen T ρ w0 canC.pre = Zc ((scC (ai 0) (mA 1)).den T ρ w0) emp := rfl
 rw [e1, Zd] at hpre
 obtain ⟨_, es, clock, ⟨_, hn, hk, _⟩, _⟩ := hpre
 simp only [usB, SX.den, hT, Yw, U.tPi, U.tQi, Zi]
 exact ⟨hn, hk⟩
def ZCi : Ctr := ⟨[.int, .amap], [.one (.map (ai 0))], [scC (ai 0) (mA 1)], [eLe z0 (ai 0), eLe (.f1 33 (mA 1)) (.int 1048576)], [.int, .int], .one (slC (ai 2) (Zg (usR 601 (mA 1) z0 z0)) (ai 3) 1),
 [scC (ai 0) (mA 1), sAr (ai 2) (usR 601 (mA 1) z0 z0) (ai 3)], [eLe (Zg (usR 601 (mA 1) z0 z0)) (ai 3)]⟩
def risI (m it b c : Nat) : Inv := ⟨[.amap, .ints, .int, .int, .rows], [(3, .one (slC (di 2) (Zg (rA 1000004)) (di 3) 1))],
 [.itr .str .sb (ai m) (mA 1) (ai it) (mA 1000000) (iA 1000001), sAr (di 2) (rA 1000004) (di 3)],
 [usB 605 (mA 1) (mA 1000000) (rA 1000004), eLe (Zg (rA 1000004)) (di 3)], .f1 33 (mA 1000000)⟩
def ZLb : Cx := { specs := [(41, [ZhR])], anns := [(26, [(3, .inv (risI 0 3 2 1))])] }
def ZGR : SX := vR 601 (m 1)
def ZIC : SX := .f1 32 ZGR
def ZDy : SX := .f2 40 (.f1 32 (r 8)) (k 1)
def ZIU : SX := .f2 143 (m 4) (.f1 35 (b 9))
def ZKb : VC := i (l z (a 0)) (i (l (.f1 33 (m 1)) (k 1048576)) (n (l (.f2 42 (.f1 33 (m 1)) (k 16)) k1) (u 2 .int (i (l z (a 2)) (u 3 .int (i (l z (a 3)) (n (y 605 (m 1) (m 1) (.f1 154 z)) (u 4 .amap (u 5 .ints (u 6 .int (u 7 .int (u 8 .rows (i (y 605 (m 1) (m 4) (r 8)) (i (l (.f1 32 (r 8)) (a 7)) (.and (i (e (.f1 33 (m 4)) z) (n (e (.f1 32 (r 8)) (.f1 32 (r 8))) (n (l (.f1 32 (r 8)) k1) (n (l ZIC (a 7)) (n (.f2 155 ZGR (vR 600 (r 8))) (n (e ZIC (.f1 32 (r 8))) .tt)))))) (u 9 .bytes (i (.f2 141 (m 4) (.f1 35 (b 9))) (u 10 .int (i (l z (a 10)) (n (l (.f1 32 (r 8)) (.f1 32 (r 8))) (n (l (.f2 42 ZDy (k 16)) k1) (u 11 .int (u 12 .int (i (l ZDy (a 12)) (i (.f2 50 (l z (a 11)) (e ZDy z)) (n (t (.f1 33 ZIU) (.f1 33 (m 4))) (n (y 605 (m 1) ZIU (.f2 121 (r 8) (.f2 124 (.f2 122 (.f1 35 (b 9)) (.f1 152 z)) (.f1 154 z)))) .tt)))))))))))))))))))))))))))
theorem ZLX : Zcl Try.prog ZLb 12 26 ZCi = ZKb := by kernel_rfl
theorem ZNB (S : Sig GG) (hS : FiSig S) : ZR S Try.prog 26 ZCi := by
 refine Zo S (C := ZLb) (fuel := 12) (YV ⟨Zm (by decide) (ZLs S hS), trivial⟩ ⟨⟨trivial, trivial⟩, trivial⟩ trivial) fun ρ => ?_
 rw [ZLX]
 simp only [ZKb, ZGR, ZIC, ZDy, ZIU, hS.u600, hS.u601, hS.u605, ZY, ZN0, VC.den, SX.den, Env.upd, ZaN, Yr, beq_iff_eq, ZNS, beq_eq_false_iff_ne, ne_eq, ZNR, ZNQ, Int.reduceToNat, Nat.reduceEqDiff, reduceIte, sB, sC]
 generalize (ρ 1).tM = m
 intro h1 h2
 refine ⟨by omega, fun b hb it hit => ⟨List.Perm.refl _, fun left cur ob oc R g1 g2 => ⟨fun hz => ?_, fun k hk => ?_⟩⟩⟩
 ·have hz : left = [] := ZN8 (by omega)
  subst hz
  have e := ZIH g1
  have hl : (Zu2 m).length = R.length := by rw [<- e, ZlT]
  have hm := ZsK m
  exact ⟨trivial, by omega, by omega, e.symm, by omega, trivial⟩
 ·have hl := g1.length_eq
  have hd := ZdY hk
  simp only [ZNY, ZN3] at hl
  exact fun _ _ => ⟨ZN4 _, by omega, fun _ _ _ _ => ⟨by omega, ZEi g1 hk, trivial⟩⟩
end
end Go.Proofs.Ytidlngnhjffepaa
namespace Go.Proofs.Ytidlngnhjffepaa
noncomputable section
open Go.Eng
def bG : SX := usG 561 xX (Zg xX) z0
def bK (R : SX) : SX := usR 548 xX (Zg xX) R
def bO : SX := usR 549 xX (Zg xX) z0
def Zog : Ctr := ⟨hA ++ [.int], [.one (hS 0), .one (.ptr (ai 6) 0)], [hC 0 0, bkC (ai 6) xX], [eLe z0 (ai 6)], [.int, .int, .int, .int, .int, .rows], .tup [],
 [hC 0 0, .cel (ai 6) 0 (bkQ (ai 7) (ai 8) (Zg (bK (rA 12))) (ai 9) (ai 10) (Zg bO) (ai 11) (usI 550 xX (Zg xX) z0) (usI 551 xX (Zg xX) z0)), imC (ai 7) (wM (rA 12) bG), pAr (ai 8) (bK (rA 12)) (ai 9), rAr (ai 10) bO (ai 11), txC (rA 12) bG],
 [eLe z0 (ai 7), eLe (Zg (bK (rA 12))) (ai 9), .f2 50 (eLe z0 (ai 8)) (.f2 45 (Zg (bK (rA 12))) z0), eLe (Zg bO) (ai 11), .f2 50 (eLe z0 (ai 10)) (.f2 45 (Zg bO) z0), usB 558 (rA 12) bG z0, usB 560 (bK (rA 12)) (rA 12) z0, eLe (Zg (bK (rA 12))) (Zg xX), eLe (Zg bO) (Zg xX)]⟩
theorem ZtY {b c : Int} {x : List (List Int)} {fs : List Go.Eng.Fd} (hf : 0 < fs.length) {h : Hl} (hd : rAD (.rows fs) b x c h) : (x.length : Int) <= c /\ (0 <= b \/ (x.length : Int) = 0) := by
 have h1 := ZfX hf hd
 obtain ⟨sp, l1, l2, l3, l4⟩ := hd
 refine ⟨h1, ?_⟩
 rcases l3 with h | h
 ·exact .inl h
 ·right
  have h : c = 0 := h
  omega
theorem Zqg (S : Sig GG) (hS : JtSig S) : Zbp S Zog := by
 refine Ys S fun T w0 ρ h hu hp hd hr hpre => ?_
 have hT := hS.of hu hp
 have e1 : hpDen T ρ w0 Zog.pre = Zc ((hC 0 0).den T ρ w0) (Zc ((bkC (ai 6) xX).den T ρ w0) emp) := rfl
 have r0 := hr (eLe z0 (ai 6)) (by simp [Zog])
 rw [Zf] at r0
 have r0 : 0 <= ((ai 6).den T ρ).tI := r0
 rw [e1, Zot hT, ZuM, if_neg (by omega), Zd] at hpre
 obtain ⟨p, q, d, rfl, hpp, ma, kb, kc, ob, oc, R, hq⟩ := hpre
 have hX0 : ∀ ρ : Go.Eng.Env GG, (xX.den T ρ).tR = ((rA 4).den T ρ).tR.take (ρ 2).tI.toNat := fun _ => rfl
 generalize hx : (xX.den T ρ).tR = X at hq
 let ρ' : Go.Eng.Env GG := (((((ρ.upd 7 (.int ma)).upd 8 (.int kb)).upd 9 (.int kc)).upd 10 (.int ob)).upd 11 (.int oc)).upd 12 (.rows R)
 have hlow : ∀ i, i < 7 -> ρ' i = ρ i := fun i hi => by
  show ((((((ρ.upd 7 (.int ma)).upd 8 (.int kb)).upd 9 (.int kc)).upd 10 (.int ob)).upd 11 (.int oc)).upd 12 (.rows R)) i = ρ i
  simp only [Env.upd]
  repeat rw [if_neg (by omega)]
 have hx' : (xX.den T ρ').tR = X := by rw [<- hx]; rfl
 have hL : ((Zg xX).den T ρ').tI.toNat = X.length := by
  show ((((xX.den T ρ').tR.length : Nat) : Int)).toNat = _
  rw [hx']; omega
 have hL2 : ((Zg xX).den T ρ').tI = (X.length : Nat) := by
  show (((xX.den T ρ').tR.length : Nat) : Int) = _
  rw [hx']
 have w1 : (bG.den T ρ') = .g (.tx (Yj X X.length).txs) := by
  have : (bG.den T ρ') = U.co T .g (T.usr 561 (xX.den T ρ') ((Zg xX).den T ρ') (z0.den T ρ') (z0.den T ρ')) := rfl
  rw [this, hT.u561, hL, hx']; rfl
 have w2 : (wM (rA 12) bG).den T ρ' = .amap (ZfF R (Yj X X.length).txs) := by
  have : (wM (rA 12) bG).den T ρ' = U.co T .amap (T.usr 547 ((rA 12).den T ρ') (bG.den T ρ') (z0.den T ρ') (z0.den T ρ')) := rfl
  rw [this, hT.u547, w1]; rfl
 have w3 : (bK (rA 12)).den T ρ' = .rows (ZbR R (Yj X X.length).kept) := by
  have : (bK (rA 12)).den T ρ' = U.co T .rows (T.usr 548 (xX.den T ρ') ((Zg xX).den T ρ') ((rA 12).den T ρ') (z0.den T ρ')) := rfl
  rw [this, hT.u548, hL, hx']; rfl
 have w4 : bO.den T ρ' = .rows (Yj X X.length).out := by
  have : bO.den T ρ' = U.co T .rows (T.usr 549 (xX.den T ρ') ((Zg xX).den T ρ') (z0.den T ρ') (z0.den T ρ')) := rfl
  rw [this, hT.u549, hL, hx']; rfl
 have w7 : (usI 550 xX (Zg xX) z0).den T ρ' = .int (Yj X X.length).fault := by
  have : (usI 550 xX (Zg xX) z0).den T ρ' = U.co T .int (T.usr 550 (xX.den T ρ') ((Zg xX).den T ρ') (z0.den T ρ') (z0.den T ρ')) := rfl
  rw [this, hT.u550, hL, hx']; rfl
 have w8 : (usI 551 xX (Zg xX) z0).den T ρ' = .int (Yj X X.length).what := by
  have : (usI 551 xX (Zg xX) z0).den T ρ' = U.co T .int (T.usr 551 (xX.den T ρ') ((Zg xX).den T ρ') (z0.den T ρ') (z0.den T ρ')) := rfl
  rw [this, hT.u551, hL, hx']; rfl
 have hk : (ZbR R (Yj X X.length).kept).length = (Yj X X.length).kept.length := by unfold ZbR; rw [ZN3]
 have n3 : ((Zg (bK (rA 12))).den T ρ').tI = ((Yj X X.length).kept.length : Nat) := by
  show ((((bK (rA 12)).den T ρ').tR.length : Nat) : Int) = _
  rw [w3, U.tRi, hk]
 have n4 : ((Zg bO).den T ρ').tI = ((Yj X X.length).out.length : Nat) := by
  show (((bO.den T ρ').tR.length : Nat) : Int) = _
  rw [w4, U.tRi]
 have hwf := ZhN X X.length
 refine ⟨ρ', hlow, ?_, ?_⟩
 ·have e2 : hpDen T ρ' w0 Zog.post = Zc ((hC 0 0).den T ρ' w0) (Zc ((Ch.cel (ai 6) 0 (bkQ (ai 7) (ai 8) (Zg (bK (rA 12))) (ai 9) (ai 10) (Zg bO) (ai 11) (usI 550 xX (Zg xX) z0) (usI 551 xX (Zg xX) z0))).den T ρ' w0) (Zc ((imC (ai 7) (wM (rA 12) bG)).den T ρ' w0)
   (Zc ((pAr (ai 8) (bK (rA 12)) (ai 9)).den T ρ' w0) (Zc ((rAr (ai 10) bO (ai 11)).den T ρ' w0) (Zc (T.prd 100 w0 ((rA 12).den T ρ') (bG.den T ρ')) emp))))) := rfl
  rw [e2, ZzM, ZvE, Zv4, ZkK, Zd, hT.p100, n3, n4, w1, w2, w3, w4, w7, w8]
  refine ⟨p, q, d, rfl, hpp, ?_⟩
  simp only [U.tRi, U.tMi, U.tIi, ZY]
  exact hq
 ·obtain ⟨_, _, _, hq⟩ := ZeJ hq
  obtain ⟨_, _, hm, hq⟩ := ZeJ hq
  obtain ⟨_, _, hka, hq⟩ := ZeJ hq
  obtain ⟨_, _, hoa, ht⟩ := ZeJ hq
  have k1 := ZtY (by decide) hka
  have k2 := ZtY (by decide) hoa
  have hl := ZbB ht
  rw [hk] at k1
  have p50' : ∀ a b c d : SX, ((Go.Eng.SX.f2 50 (eLe a b) (.f2 45 c d)).den T ρ').tP = ((a.den T ρ').tI <= (b.den T ρ').tI \/ (c.den T ρ').tI = (d.den T ρ').tI) := fun a b c d => by
   have e : (Go.Eng.SX.f2 50 (eLe a b) (.f2 45 c d)).den T ρ' = ap2 50 ((eLe a b).den T ρ') (ap2 45 (c.den T ρ') (d.den T ρ')) := rfl
   have e2 := Zf T ρ' a b
   have e3 : (((eLe a b).den T ρ').toBool = true) = ((a.den T ρ').tI <= (b.den T ρ').tI) := by
    have h1 := Zgy T ρ' a b
    rw [h1, U.tQi, decide_eq_true_eq]
   rw [e, p50, e3, ZrZ, U.tQi, beq_iff_eq]
  have a7 : ((ai 7).den T ρ').tI = ma := rfl
  have a8 : ((ai 8).den T ρ').tI = kb := rfl
  have a9 : ((ai 9).den T ρ').tI = kc := rfl
  have a10 : ((ai 10).den T ρ').tI = ob := rfl
  have a11 : ((ai 11).den T ρ').tI = oc := rfl
  have az : (z0.den T ρ').tI = 0 := rfl
  intro x hx
  simp only [Zog, List.mem_cons, List.not_mem_nil, or_false] at hx
  rcases hx with rfl | rfl | rfl | rfl | rfl | rfl | rfl | rfl | rfl
  ·rw [Zf, a7, az]; exact hm.1
  ·rw [Zf, n3, a9]; exact k1.1
  ·rw [p50', n3, a8, az]; exact k1.2
  ·rw [Zf, n4, a11]; exact k2.1
  ·rw [p50', n4, a10, az]; exact k2.2
  ·have : (usB 558 (rA 12) bG z0).den T ρ' = U.co T .bool (T.usr 558 ((rA 12).den T ρ') (bG.den T ρ') (z0.den T ρ') (z0.den T ρ')) := rfl
   rw [this, hT.u558, w1, Yw, U.tQi, U.tPi, Zi]
   exact ⟨hl, (ZhK ht).1, (ZhK ht).2⟩
  ·have : (usB 560 (bK (rA 12)) (rA 12) z0).den T ρ' = U.co T .bool (T.usr 560 ((bK (rA 12)).den T ρ') ((rA 12).den T ρ') (z0.den T ρ') (z0.den T ρ')) := rfl
   rw [this, hT.u560, w3, Yw, U.tQi, U.tPi, Zi]
   exact ZnC fun k hk => by have := hwf.ki k hk; omega
  ·rw [Zf, n3, hL2]; have := hwf.kl; omega
  ·rw [Zf, n4, hL2]; have := hwf.ol; omega
/-! ### Serial -/
theorem Zi7 {x : List Ent} (hc : ZcU x = 0) (hf : 0 <= (Yj x x.length).fault) : 0 <= (Zcm x x.length).1 := by
 have hm : ∀ i < x.length, Za2 (xa x i) = true := by
  unfold ZcU at hc
  split at hc
  ·cases hc
  ·split at hc
   ·rename_i q
    unfold ZkJ at q
    rw [Zi] at q; exact q
   ·cases hc
 obtain ⟨r1, r2⟩ := ZmD x x.length hm
 exact Classical.byContradiction fun q => by
  have := (r1 ⟨q, hm⟩).ft
  omega
theorem ZzX {x : List Ent} {B : Bk} (h : Go x B) : ¬ 0 <= (Zcm x x.length).1 := h.nf.1
def prE : En := .rows [.slice 1, .slice 1]
def Zoo (b x c : SX) : Ch := .arr prE b x c
def prC (R W : SX) : Ch := .prd 110 R W
theorem Zlp : ∀ {R W : List (List Int)} {h : Hl}, prH R W h -> R.length = W.length
 | [], [], _, _ => rfl
 | r :: R, w :: W, h, hp => by
  obtain ⟨_, _, _, _, _, hb⟩ := hp
  rw [ZOd, ZOd, Zlp hb]
 | [], _ :: _, _, hp => hp.elim
 | _ :: _, [], _, hp => hp.elim
theorem Zk1 : ∀ {R W : List (List Int)} (R' W' : List (List Int)), R.length = W.length -> prH (R ++ R') (W ++ W') = Zc (prH R W) (prH R' W')
 | [], [], R', W', _ => by show prH R' W' = Zc emp _; rw [emp_star]
 | r :: R, w :: W, R', W', h => by
  show Zc _ (prH (R ++ R') (W ++ W')) = Zc (Zc _ _) _
  rw [Zk1 R' W' (by simpa using h), star_assoc]
theorem ZqD (r w : List Int) : prH [r] [w] = itP r w := by show Zc _ emp = _; rw [Zd]
def ZJS : Ctr := ⟨[], [], [], [], [], .tup [], [prC Zfu Zfu], []⟩
def Zz7 : Ctr := ⟨[.int, .int, .int, .int, .int, .int, .rows, .rows, .bytes, .bytes], [.one (slC (ai 0) (ai 1) (ai 2) 1), .one (slC (ai 3) (ai 4) (ai 5) 1)], [prC (rA 6) (rA 7), bAr (ai 0) (bA 8) (ai 2), bAr (ai 3) (bA 9) (ai 5)],
 [.f2 45 (ai 1) (ZBg (bA 8)), .f2 45 (ai 4) (ZBg (bA 9)), eLe (ai 1) (ai 2), eLe (ai 4) (ai 5), eLe z0 (ai 0), eLe z0 (ai 3)], [], .tup [],
 [prC (.f2 121 (rA 6) (.f2 124 (Zbm (ai 0) (ai 1) (ai 2) (ai 3) (ai 4) (ai 5)) Zfu)) (.f2 121 (rA 7) (.f2 124 (Zb7 (.f1 35 (bA 8)) (.f1 35 (bA 9))) Zfu))], []⟩
theorem ZwZ (S : Sig GG) (hS : FiSig S) : Zbp S ZJS := by
 refine Ys S fun T w0 ρ h hu hp hd hr hpre => ⟨ρ, Ext.refl _ _, ?_, by intro x hx; exact nomatch hx⟩
 have hT := hS.p110
 rw [<- hp] at hT
 have e1 : hpDen T ρ w0 ZJS.pre = emp := rfl
 have e2 : hpDen T ρ w0 ZJS.post = Zc (T.prd 110 w0 (Zfu.den T ρ) (Zfu.den T ρ)) emp := rfl
 rw [e1] at hpre
 rw [e2, Zd, hT]
 exact hpre
theorem ZaU {G : Type} {S : Sig G} {ρ : Go.Eng.Env G} {a b : SX} (h : ((SX.f2 45 a b).den S ρ).tP) : (a.den S ρ).tI = (b.den S ρ).tI := by
 have h : (ap2 45 (a.den S ρ) (b.den S ρ)).tP := h
 rw [p45] at h; exact h
theorem ZFi (S : Sig GG) (hS : FiSig S) : Zbp S Zz7 := by
 refine Ys S fun T w0 ρ h hu hp hd hr hpre => ⟨ρ, Ext.refl _ _, ?_, by intro x hx; exact nomatch hx⟩
 have hT := hS.p110
 rw [<- hp] at hT
 have e1 : hpDen T ρ w0 Zz7.pre = Zc (T.prd 110 w0 ((rA 6).den T ρ) ((rA 7).den T ρ)) (Zc (bAD (ρ 0).tI (ρ 8).tB (ρ 2).tI) (Zc (bAD (ρ 3).tI (ρ 9).tB (ρ 5).tI) emp)) := rfl
 have e2 : hpDen T ρ w0 Zz7.post = Zc (T.prd 110 w0 ((SX.f2 121 (rA 6) (.f2 124 (Zbm (ai 0) (ai 1) (ai 2) (ai 3) (ai 4) (ai 5)) Zfu)).den T ρ) ((SX.f2 121 (rA 7) (.f2 124 (Zb7 (.f1 35 (bA 8)) (.f1 35 (bA 9))) Zfu)).den T ρ)) emp := rfl
 have q0 := ZaU (hr (.f2 45 (ai 1) (ZBg (bA 8))) (by simp [Zz7]))
 have q1 := ZaU (hr (.f2 45 (ai 4) (ZBg (bA 9))) (by simp [Zz7]))
 have q2 := hr (eLe (ai 1) (ai 2)) (by simp [Zz7])
 have q3 := hr (eLe (ai 4) (ai 5)) (by simp [Zz7])
 have q4 := hr (eLe z0 (ai 0)) (by simp [Zz7])
 have q5 := hr (eLe z0 (ai 3)) (by simp [Zz7])
 rw [Zf] at q2 q3 q4 q5
 simp only [SX.den, ai, z0, ZBg, bA, ZFy, Z4, Zsa, U.tIi, U.tBi] at q0 q1 q2 q3 q4 q5
 rw [e1, Zd, hT] at hpre
 have k0 : ((rA 6).den T ρ).tR = (ρ 6).tR := rfl
 have k1 : ((rA 7).den T ρ).tR = (ρ 7).tR := rfl
 rw [k0, k1] at hpre
 have hl : (ρ 6).tR.length = (ρ 7).tR.length := by
  obtain ⟨_, _, _, _, ha, _⟩ := hpre; exact Zlp ha
 have k2 : ((SX.f2 121 (rA 6) (.f2 124 (Zbm (ai 0) (ai 1) (ai 2) (ai 3) (ai 4) (ai 5)) Zfu)).den T ρ).tR = (ρ 6).tR ++ [[(ρ 0).tI, (ρ 1).tI, (ρ 2).tI, (ρ 3).tI, (ρ 4).tI, (ρ 5).tI]] := rfl
 have k3 : ((SX.f2 121 (rA 7) (.f2 124 (Zb7 (.f1 35 (bA 8)) (.f1 35 (bA 9))) Zfu)).den T ρ).tR = (ρ 7).tR ++ [[((Zj (ρ 8).tB : Nat) : Int), ((Zj (ρ 9).tB : Nat) : Int)]] := rfl
 rw [e2, Zd, hT, k2, k3, Zk1 _ _ hl, ZqD]
 refine Zq (fun _ h => h) (fun h' hh => ⟨?_, ?_⟩) h hpre
 ·unfold itF txt tx1
  simp only [g0, g1, g2, List.getD_cons_zero, List.getD_cons_succ, ZN0, Zl]
  exact ⟨q0, q1, q2, q3, q4, q5⟩
 ·unfold txt tx1
  simp only [g0, g2, List.getD_cons_zero, List.getD_cons_succ, ZN0, Zl]
  exact hh
theorem ZEV {α : Type} [DecidableEq α] : ∀ {a b : List α}, a.Nodup -> (∀ x ∈ a, x ∈ b) -> a.length <= b.length
 | [], b, _, _ => Nat.zero_le _
 | x :: a, b, h, hs => by
  rw [List.nodup_cons] at h
  have hx : x ∈ b := hs x ZN1
  have ih : a.length <= (b.erase x).length := ZEV h.2 fun y hy => (List.mem_erase_of_ne (fun e => h.1 (by rw [<- e]; exact hy))).2 (hs y (ZNZ _ hy))
  have hp : 0 < b.length := List.length_pos_of_mem hx
  rw [List.length_erase_of_mem hx] at ih
  rw [ZOd]; omega
theorem ZFm {x : List Ent} {B : Bk} (h : Go x B) (key : List UInt8) : ∀ k ≤ B.kept.length, (stF B k (Zj key : Nat)).1 = true -> ∃ i < x.length, ZL (xa x i) = key
 | 0, _, e => by cases e
 | k + 1, hk, e => by
  obtain ⟨t1, t2⟩ := h.tx (h.kt (k := k) (by omega))
  have hc := Zw9 t2 h.nf key
  rw [<- t1] at hc
  have e1 : stF B (k + 1) (Zj key : Nat) = if Zv (B.txs.getD (B.kept.getD k 0) tx0).ch (Zj key : Nat) = true then (true, vw (YQ 0 (B.txs.getD (B.kept.getD k 0) tx0).ch (Zj key : Nat))) else stF B k (Zj key : Nat) := rfl
  rw [e1] at e
  by_cases hm : Zv (B.txs.getD (B.kept.getD k 0) tx0).ch (Zj key : Nat) = true
  ·rw [hc.1] at hm
   have hl := ZrB (of_decide_eq_true hm)
   exact ⟨_, hl.1, hl.2⟩
  ·rw [if_neg hm] at e
   exact ZFm h key k (by omega) e
theorem ZHS {x : List Ent} {B : Bk} (h : Go x B) {m : List (Int × Int)} (hm : Ziv m (stF B B.kept.length)) (hc : canM m) : m.length <= x.length := by
 have h1 : (m.map (·.1)).length <= ((List.range x.length).map fun i => ((Zj (ZL (xa x i)) : Nat) : Int)).length := by
  refine ZEV hc.1 fun k hk => ?_
  have hh : Zv m k = true := Zum.2 hk
  obtain ⟨p, hp, rfl⟩ := List.mem_map.1 hk
  obtain ⟨s, hs⟩ := hc.2 p hp
  rw [hs] at hh ⊢
  have a := hm (Zj s : Nat)
  rw [hh] at a
  obtain ⟨i, hi, e⟩ := ZFm h s _ (ZNJ _) a.1.symm
  exact List.mem_map.2 ⟨i, List.mem_range.2 hi, by rw [e]⟩
 simpa using h1
theorem ZqX {x : List Ent} (h : Zor x ≠ 0) : finR' x = [] := by unfold finR'; rw [if_neg h]
theorem ZCW {x : List Ent} (h : Zor x = 0) : finR' x = ZJQ x := by unfold finR'; rw [if_pos h]
theorem ZFB (m : List (Int × Int)) (R : List (List Int)) (n : Nat) : ZlH (mvF m) R (n + 1) = if (YQ 0 m (Zj (Yp ((R.getD n []).getD 0 0).toNat) : Nat)).tmod 2 = 0 then
  ZlH (mvF m) R n ++ [[((Zj (Yp ((R.getD n []).getD 0 0).toNat) : Nat) : Int), ((Zj (Yp ((YQ 0 m (Zj (Yp ((R.getD n []).getD 0 0).toNat) : Nat)).tdiv 2).toNat) : Nat) : Int)]] else ZlH (mvF m) R n := by
 show (if decide ((YQ 0 m (Zj (Yp ((R.getD n []).getD 0 0).toNat) : Nat)).tmod 2 = 0) = true then _ else _) = _
 by_cases h : (YQ 0 m (Zj (Yp ((R.getD n []).getD 0 0).toNat) : Nat)).tmod 2 = 0
 ·rw [if_pos h, if_pos (decide_eq_true h)]; rfl
 ·rw [if_neg h, if_neg (by rw [decide_eq_true_eq]; exact h)]
theorem Zyj (f : Kf) (R : List (List Int)) : ∀ n, (ZlH f R n).length <= n
 | 0 => ZNJ _
 | n + 1 => by
  have ih := Zyj f R n
  unfold ZlH
  split
  ·rw [ZNY, ZNH]; omega
  ·omega
theorem ser_e {x : List Ent} (h : ZcU x ≠ 0) : Zor x = ZcU x := by unfold Zor; rw [if_pos h]
def finW : SX := usR 603 xX z0 z0
def ZtS : Ctr := ⟨hA, [.one (hS 0)], [hC 0 0], [eLe z0 (ai 2), eLe (ai 2) (Zg (rA 4)), eLe (ai 2) (ai 3), eLe (ai 2) (.int 9223372036854775807)], [.int, .rows, .int, .int], .tup [(false, [slC (ai 6) (Zg (rA 7)) (ai 8) 2]), (false, [.int .i64 (ai 9)])],
 [hC 0 0, Zoo (ai 6) (rA 7) (ai 8), prC (rA 7) finW], [.f2 45 (ai 9) (usI 604 xX z0 z0), .f2 45 (Zg (rA 7)) (Zg finW), eLe (Zg (rA 7)) (ai 8), .f2 50 (eLe z0 (ai 6)) (.f2 45 (Zg (rA 7)) z0)]⟩
def fnkI (m R : Nat) : Inv := ⟨[.int, .amap], [(34, .one (.int .i64 (di 0)))], [scC (ai m) (mA 1000001)], [eLe z0 (di 0), eLe (di 0) (Zg (bK (rA R))), usB 596 xX (di 0) (mA 1000001)], .f2 41 (Zg (bK (rA R))) (di 0)⟩
def fnK (m : Nat) : SX := usR 601 (mA m) z0 z0
def fnoI (m : Nat) : Inv := ⟨[.int, .int, .rows, .int], [(48, .one (.int .i64 (di 0))), (9, .one (slC (di 1) (Zg (rA 1000002)) (di 3) 2))], [Zoo (di 1) (rA 1000002) (di 3), prC (rA 1000002) (usR 602 (mA m) (fnK m) (di 0))],
 [eLe z0 (di 0), eLe (di 0) (Zg (fnK m)), .f2 45 (Zg (rA 1000002)) (Zg (usR 602 (mA m) (fnK m) (di 0))), eLe (Zg (rA 1000002)) (di 3), .f2 50 (eLe z0 (di 1)) (.f2 45 (Zg (rA 1000002)) z0)], .f2 41 (Zg (fnK m)) (di 0)⟩
def ZNt : Cx := { specs := [(17, [Zod]), (25, [ZnT]), (26, [ZCi])], anns := [(8, [(3, .ghost ZJS []), (4, .ghost Zog [.tmp 0, .tmp 4]), (5, .ghost ZJS []), (8, .inv (fnkI 14 13)), (10, .ghost Zt2 [.tmp 8]), (500010, .ghost ZlI [.tmp 8]), (12, .ghost ZJS []), (13, .ghost canC [.tmp 6]), (14, .inv (fnoI 16)), (500018, .ghost Zz7 [.tmp 60, .tmp 63])])] }
def Zge : SX := .f2 115 (r 4) (a 2)
def ZIT : SX := l z (a 6)
def ZD8 : SX := e (a 7) z
def ZCP : SX := v 604 Zge
def ZC7 : SX := vR 603 Zge
def ZHn : SX := .f1 32 ZC7
def ZII : SX := e z ZHn
def ZG6 : SX := .f2 155 ZC7 (.f1 154 z)
def ZoL : SX := .f1 32 Zge
def ZDm : SX := hR0 548 Zge ZoL (r 13)
def ZdT : SX := .f1 32 ZDm
def Zsf : SX := .f1 32 (wR 549 Zge ZoL)
def Zjf : SX := f 561 Zge ZoL
def ZwM : SX := d 550 Zge ZoL
def Zsn : SX := .f3 112 ZDm (a 15) z
def ZcQ : SX := d 566 (r 13) Zsn
def ZxK : SX := .f3 112 (r 13) ZcQ z
def ZvM : SX := v 552 Zjf
def Zyy : SX := .f1 32 (wR 545 Zjf ZcQ)
def Zy4 : SX := .f1 30 (wN 546 Zjf ZcQ)
def ZjC : SX := .f2 40 (a 15) (k 1)
def Zxs : SX := .f2 41 ZdT ZjC
def ZjV : SX := vR 601 (m 16)
def Zf4 : SX := .f1 32 ZjV
def ZAm : SX := wR 602 (m 16) ZjV
def ZmI : SX := hR0 602 (m 16) ZjV (a 19)
def Zzx : SX := .f1 36 (.f3 112 ZjV (a 19) z)
def ZBW : SX := .f1 35 Zzx
def ZyO : SX := .f3 140 z (m 16) ZBW
def Zwx : SX := e (.f2 44 ZyO (k 2)) z
def ZtH : SX := .f1 31 Zzx
def ZwL : SX := .f1 36 (.f2 43 ZyO (k 2))
def Zsw : SX := .f1 31 ZwL
def Zni : SX := .f2 40 (.f1 32 (r 21)) (k 1)
def Zjp : SX := .f2 40 (a 19) (k 1)
def Zxn : SX := .f1 23 Zjp
def Zyn : SX := .f2 41 Zf4 Zjp
def ZxA : SX := l z Zyn
def ZAa : SX := t Zyn (.f2 41 Zf4 (a 19))
def Zvu : SX := l z Zjp
def ZCD : SX := l Zjp Zf4
def Ztq : SX := hR0 602 (m 16) ZjV Zjp
def Zyo : SX := .f1 32 Ztq
def ZMU : VC := i (l z (a 2)) (i (l (a 2) (.f1 32 (r 4))) (i (l (a 2) (a 3)) (i (l (a 2) (k 9223372036854775807)) (u 6 .int (u 7 .int (i (e (a 7) (v 523 Zge)) (i (.f2 48 ZIT ZD8) (.and (i (.f1 2 ZD8) (n (e (a 7) ZCP) (n ZII (n ZG6 .tt)))) (i ZD8 (n ZIT (u 8 .int (u 9 .int (u 10 .int (u 11 .int (u 12 .int (u 13 .rows (i (l z (a 8)) (i (l ZdT (a 10)) (i (.f2 50 (l z (a 9)) (e ZdT z)) (i (l Zsf (a 12)) (i (.f2 50 (l z (a 11)) (e Zsf z)) (i (c 558 (r 13) Zjf) (i (c 560 ZDm (r 13)) (i (l ZdT ZoL) (i (l Zsf ZoL) (.and (i (l z ZwM) (n (e (k 280) ZCP) (n ZII (n ZG6 .tt)))) (i (t ZwM z) (u 14 .int (i (l z (a 14)) (n (y 596 Zge z (.f1 155 z)) (u 15 .int (u 16 .amap (i (l z (a 15)) (i (l (a 15) ZdT) (i (y 596 Zge (a 15) (m 16)) (.and (i (t (a 15) ZdT) (n (c 565 (r 13) Zsn) (i (e Zsn ZxK) (i (t ZcQ ZvM) (i (l Zyy (.f3 112 (r 13) ZcQ (k 3))) (i (l Zy4 (.f3 112 (r 13) ZcQ (k 5))) (i (.f2 50 (l z (.f3 112 (r 13) ZcQ (k 2))) (e Zyy z)) (i (.f2 50 (l z (.f3 112 (r 13) ZcQ (k 4))) (e Zy4 z)) (i (l z (.f3 112 (r 13) ZcQ (k 1))) (i (l z ZxK) (i (e (.f1 32 (r 13)) ZvM) (u 17 .amap (i (y 531 (m 16) (wM0 544 Zjf ZcQ) (m 17)) (n (l z ZcQ) (n (.f1 23 ZjC) (n (l z Zxs) (n (t Zxs (.f2 41 ZdT (a 15))) (n (l z ZjC) (n (l ZjC ZdT) (n (y 596 Zge ZjC (m 17)) .tt)))))))))))))))))))) (i (l ZdT (a 15)) (i (p 606 (m 16)) (n (l (.f1 33 (m 16)) (k 1048576)) (u 17 .int (u 18 .int (i (l Zf4 (a 18)) (n (e z (.f1 32 ZAm)) (n (.f2 155 ZAm (.f1 154 z)) (u 19 .int (u 20 .int (u 21 .rows (u 22 .int (i (l z (a 19)) (i (l (a 19) Zf4) (i (e (.f1 32 (r 21)) (.f1 32 ZmI)) (i (l (.f1 32 (r 21)) (a 22)) (i (.f2 50 (l z (a 20)) (e (.f1 32 (r 21)) z)) (.and (i (t (a 19) Zf4) (u 23 .int (i (l z (a 23)) (.and (i Zwx (u 24 .int (u 25 .int (i (l ZtH (a 25)) (i (l z (a 24)) (u 26 .int (u 27 .int (i (l Zsw (a 27)) (i (l z (a 26)) (u 28 .int (i (l z (a 28)) (n (l (.f1 32 (r 21)) (.f1 32 (r 21))) (n (l (.f2 42 Zni (k 48)) k1) (u 29 .int (u 30 .int (i (l Zni (a 30)) (i (.f2 50 (l z (a 29)) (e Zni z)) (n (e ZtH ZtH) (n (e Zsw Zsw) (n Zxn (n ZxA (n ZAa (n Zvu (n ZCD (n (e Zni Zyo) (n (.f2 155 Ztq (.f2 121 ZmI (.f2 124 (.f2 122 ZBW (.f2 122 (.f1 35 ZwL) (.f1 152 z))) (.f1 154 z)))) .tt)))))))))))))))))))))))))) (i (.f1 2 Zwx) (n Zxn (n ZxA (n ZAa (n Zvu (n ZCD (n (e (.f1 32 (r 21)) Zyo) (n (.f2 155 Ztq ZmI) .tt)))))))))))) (i (l Zf4 (a 19)) (n (e z ZCP) (n (e (.f1 32 (r 21)) ZHn) (n (.f2 155 ZC7 ZmI) .tt))))))))))))))))))))))))))))))))))))))))))))))))))))))))))
theorem ZKP : Zcl Try.prog ZNt 12 8 ZtS = ZMU := by kernel_rfl
theorem ZFn (S : Sig GG) (hS : FiSig S) : ZR S Try.prog 8 ZtS := by
 refine Zo S (C := ZNt) (fuel := 12) (YV ⟨Zm (by decide) (ZAz S hS.js.jt), Zm (by decide) (Zze S hS.js.jt.jb), Zm (by decide) (ZNB S hS), trivial⟩ ⟨⟨⟨by decide, ZwZ S hS⟩, ⟨by decide, Zqg S hS.js.jt⟩, ⟨by decide, ZwZ S hS⟩, trivial, ⟨by decide, Zdq S hS.js.jt⟩, ⟨by decide, Zdd S hS.js.jt⟩, ⟨by decide, ZwZ S hS⟩, ⟨by decide, ZMu S hS⟩, trivial, ⟨by decide, ZFi S hS⟩, trivial⟩, trivial⟩ trivial) fun ρ => ?_
 rw [ZKP]
 simp only [ZMU, Zge, ZIT, ZD8, ZCP, ZC7, ZHn, ZII, ZG6, ZoL, ZDm, ZdT, Zsf, Zjf, ZwM, Zsn, ZcQ, ZxK, ZvM, Zyy, Zy4, ZjC, Zxs, ZjV, Zf4, ZAm, ZmI, Zzx, ZBW, ZyO, Zwx, ZtH, ZwL, Zsw, Zni, Zjp, Zxn, Zyn, ZxA, ZAa, Zvu, ZCD, Ztq, Zyo, hS.js.jt.jb.rf.u523, hS.js.jt.jb.u531, hS.js.jt.u544, hS.js.jt.u545, hS.js.jt.u546, hS.js.jt.u548, hS.js.jt.u549, hS.js.jt.u550, hS.js.jt.u552, hS.js.jt.u558, hS.js.jt.u560, hS.js.jt.u561, hS.js.jt.u565, hS.js.jt.u566, hS.js.u596, hS.u601, hS.u602, hS.u603, hS.u604, hS.u606, ZY, ZN0, VC.den, SX.den, Env.upd, ZaN, Yr, beq_iff_eq, ZNS, beq_eq_false_iff_ne, ne_eq, ZNR, ZNQ, Int.reduceToNat, Nat.reduceEqDiff, reduceIte, sB, sC]
 generalize hX : (ρ 4).tR.take (ρ 2).tI.toNat = X
 generalize hlen : (ρ 2).tI = l at *
 intro h1 h2 h3 h4
 have hl : l = (X.length : Nat) := by rw [<- hX, ZNV]; omega
 subst hl
 clear hX hlen
 simp only [ZN0, ZlG]
 intro b e he hb
 have hpl : ∀ (R : List (List Int)) (ks : List Nat), (ZbR R ks).length = ks.length := fun R ks => by unfold ZbR; rw [ZN3]
 simp only [hpl, Zk3, ZgF, ZN0]
 refine ⟨fun hne => ?_, fun h0 => ⟨?_, ?_⟩⟩
 ·have hn : ZcU X ≠ 0 := by rw [<- he]; exact hne
  have hf := ser_e hn
  exact ⟨by rw [hf]; exact he, by rw [ZqX (by rw [hf]; exact hn)]; rfl, ZqX (by rw [hf]; exact hn), trivial⟩
 ·rw [h0] at hb; exact Za.1 (by rw [hb]; rfl)
 have hc : ZcU X = 0 := by rw [<- he]; exact h0
 intro ma kb kc ob oc R q1 q2 q3 q4 q5 q6 q7 q8 q9
 refine ⟨fun hf => ?_, fun hf => ?_⟩
 ·have hT := Zn1 hc hf
  have hg : Zor X = 280 := by
   have ht : 0 <= (Zcm X X.length).1 := Zi7 hc hf
   unfold Zor; rw [if_neg (by rw [hc]; exact fun h => h rfl), if_pos ht]
  have hb : finR' X = [] := ZqX (by rw [hg]; omega)
  exact ⟨hg.symm, by rw [hb]; rfl, hb, trivial⟩
 have hgo : Go X (Yj X X.length) := ZF4 hc hf
 have h400 := Zpm hc
 have hE : Zor X = 0 := by
  have ht : ¬ 0 <= (Zcm X X.length).1 := ZzX hgo
  unfold Zor; rw [if_neg (by rw [hc]; exact fun h => h rfl), if_neg ht]
 rw [ZCW hE]
 have hkept : ∀ n < (Yj X X.length).kept.length, (Yj X X.length).kept.getD n 0 < R.length := fun n hn => by rw [q6.1]; exact (hgo.kw hn).1
 have hmst := @ZsC (Yj X X.length)
 have hnl := fun m hm hcn => ZHS hgo (m := m) hm hcn
 have hfe := fun m hm hcn => ZKN hgo (m := m) hm hcn
 generalize Yj X X.length = B at *
 intro nb hnb
 refine ⟨map_nil B, fun k M j1 j2 j3 => ?_⟩
 obtain ⟨n, rfl⟩ := ZNL j1
 have en : ((n : Int) + 1).toNat = n + 1 := by omega
 simp only [ZN0, en] at j3 ⊢
 refine ⟨fun hn => ?_, fun hn => ?_⟩
 ·have hn : n < B.kept.length := by omega
  have hJ := hkept n hn
  have hri := Zbg q6.2.1 hJ
  simp only [ZBC hn, hri, Zdf]
  refine ⟨⟨_, hJ, rfl⟩, fun _ _ _ _ _ _ _ _ _ M' hl => ⟨by omega, ⟨by omega, by omega⟩, by omega, by omega, by omega, by omega, hmst j3 rfl hl, trivial⟩⟩
 ·have hn : n = B.kept.length := by omega
  subst hn
  refine fun hcn => ⟨by have := hnl M j3 hcn; omega, fun kb' kc' p1 => ⟨rfl, rfl, fun i ob' R' oc' g1 g2 g3 g4 g5 => ?_⟩⟩
  have hfin := hfe M j3 hcn
  have hml := hnl M j3 hcn
  have hkl := ZsK M
  obtain ⟨m, rfl⟩ := ZNL g1
  have em : ((m : Int) + 1).toNat = m + 1 := by omega
  simp only [ZN0, em] at g3 ⊢
  have hst := ZFB M (Zu2 M) m
  refine ⟨fun hm _ _ => ⟨fun hd _ _ _ _ _ _ _ _ _ _ => ⟨by omega, ?_, fun _ _ _ _ => ?_⟩, fun hd => ?_⟩, fun hm => ?_⟩
  ·have := Zyj (mvF M) (Zu2 M) m
   omega
  ·rw [if_pos hd] at hst
   rw [hst]
   exact ⟨trivial, trivial, ⟨by omega, by omega⟩, by omega, by omega, by omega, by omega, by simp; omega, rfl, trivial⟩
  ·rw [if_neg hd] at hst
   rw [hst]
   exact ⟨⟨by omega, by omega⟩, by omega, by omega, by omega, by omega, g3, rfl, trivial⟩
  ·have hm : m = (Zu2 M).length := by omega
   subst hm
   rw [hfin] at g3 ⊢
   exact ⟨hE.symm, g3, rfl, trivial⟩
end
end Go.Proofs.Ytidlngnhjffepaa
namespace Go.Proofs.Ytidlngnhjffepaa.colV
open Go.RowKit Go.Maps Go.Sort Go.Shelf Go.Proofs
abbrev encPt (p : Nat) : Value := .pointer (some ⟨p, 0, none⟩)
def SeqB {α : Type} (F : Fence) (n : Nat) (P : Program) (g : Nat) (lb : Array Value) (enc : α -> Value) (S : List α -> Prop) (N : Nat) (w : World) : Prop :=
 ∀ (l : Nat) (J : List α -> World -> Prop) (W : World), Below w.heap.size w W →
  (∀ pre x W1, J pre W1 -> pre.length < N -> YieldAt F (n - 1) P l #[enc x] W1 fun e W' => e = .returned (.bool true) /\ J (pre ++ [x]) W' /\ Below w.heap.size W1 W') →
  J [] W -> CallsIn F n P g (#[.func (.yield l) #[] #[]] ++ lb) W fun e W' => (∃ v, e = .returned v) /\ ∃ xs, S xs /\ J xs W'
def Zka : Code := (Code.region 2 #[{ dst := some 5, op := Op.assign (Operand.tmp 7), type := 66, pos := "iter.go:51", after := #[], guard := none }] false)
def Zxy : Code := (Code.block 1 (Code.region 3 #[{ dst := some 8, op := Op.load 58 (Operand.tmp 2), type := 58, pos := "iter.go:52", after := #[], guard := none }, { dst := some 9, op := Op.move (Operand.tmp 5), type := 66, pos := "iter.go:52", after := #[], guard := none }, { dst := some 10, op := Op.buildSlice 58 1 #[(0, Operand.tmp 9)], type := 58, pos := "iter.go:52", after := #[{ on := 1, ground := Ground.data }], guard := none }, { dst := some 11, op := Op.call { callee := Callee.builtin Builtin.append, args := #[Operand.tmp 8, Operand.tmp 10], argTypes := #[58, 58] }, type := 58, pos := "iter.go:52", after := #[{ on := 0, ground := Ground.data }, { on := 2, ground := Ground.data }], guard := none }, { dst := none, op := Op.store 58 (Operand.tmp 2) (Operand.tmp 11), type := 0, pos := "iter.go:52", after := #[{ on := 3, ground := Ground.data }, { on := 3, ground := Ground.chain }, { on := 0, ground := Ground.phase }, { on := 1, ground := Ground.phase }, { on := 2, ground := Ground.phase }, { on := 3, ground := Ground.phase }], guard := none }] false))
def Zii (fn : FuncId) (sv : Value) (Bs D : Nat) (st : LoopState) (pend : Option Code) : Loop :=
 { state := st, pending := pend, fn, tmps := #[.slice none 0 0, sv, .pointer (some ⟨Bs, 0, none⟩), undef, .slice none 0 0, undef, sv, undef, undef, undef, undef, undef, undef], params := #[7], assign := Zka, body := Zxy, defers := D }
structure ApAt (w0 : World) (fn : FuncId) (sv : Value) (Bs l D : Nat) (ss : List Nat) (W : World) : Prop where
 box : ∃ v, W.heap[Bs]? = some (.cells #[v] 58 (0, 0)) /\ W.ownsRow w0.heap.size 66 1 v ss.length (ss.map encPt) /\ (v = .slice none 0 0 ↔ ss = [])
 L : W.heap[l]? = some (.loop (Zii fn sv Bs D .ready none))
 K : W.heap[D]? = some (.deferred (some []))
 below : Below w0.heap.size w0 W
theorem Yu (W : World) (l : Nat) (o : Obj) : W.grownBy (W.putObj l o) (some l) :=
 ⟨rfl, rfl, rfl, by simp, fun k _ hk => World.putObj_heap_other (fun e => hk (by rw [e]))⟩
theorem Zgh (W : World) (b : Nat) (v : Value) : W.grownBy (W.setCell ⟨b, 0, none⟩ v) (some b) :=
 ⟨rfl, rfl, rfl, (KeepsWalks.setCell W _ v).size, fun k _ hk => Below.heap_setCell _ _ _ k (fun e => hk (by rw [e]))⟩
theorem Zba {W : World} {base : Nat} {e : TypeId} {size : Nat} {v : Value} {k : Nat} {xs : List Value} (h : W.ownsRow base e size v k xs) {j : Nat} {o : Obj} (hj : W.heap[j]? = some o) (hno : ∀ cur, o ≠ .cells cur e (0, 0)) :
  v.ownBlock = none \/ v.ownBlock ≠ some j := by
 rcases h.2 with ⟨rfl, _⟩ | ⟨g, cap, cur, rfl, _, hgb, _⟩
 ·exact .inl rfl
 ·refine .inr fun e' => ?_
  have : g = j := by simpa [Value.ownBlock] using e'
  subst this; rw [hgb] at hj; cases hj; exact hno cur rfl
theorem Zd5 {W : World} {B : Nat} {v : Value} {t : TypeId} (h : W.heap[B]? = some (.cells #[v] t (0, 0))) : W.cell? ⟨B, 0, none⟩ = some v /\ W.frozen? ⟨B, 0, none⟩ = false := by
 constructor <;> simp [World.cell?, World.frozen?, h]
theorem Zgd {W : World} {B : Nat} {v : Value} {t : TypeId} (v' : Value) (h : W.heap[B]? = some (.cells #[v] t (0, 0))) : (W.setCell ⟨B, 0, none⟩ v').heap[B]? = some (.cells #[v'] t (0, 0)) := by
 obtain ⟨hlt, hk⟩ := Array.getElem?_eq_some_iff.1 h
 show (W.heap.modify B _)[B]? = _
 rw [Array.getElem?_eq_getElem (by rw [Array.size_modify]; exact hlt), Array.getElem_modify_self, hk]
 rfl
theorem Zgi {W : World} {base : Nat} {e : TypeId} {size : Nat} {v : Value} {k : Nat} {xs : List Value} (h : W.ownsRow base e size v k xs) : ∀ (j : Nat) (o : Obj), v.ownBlock = some j -> W.heap[j]? = some o -> o.isWalk = false := by
 intro j o hj ho
 rcases h.2 with ⟨rfl, _⟩ | ⟨g, cap, cur, rfl, _, hgb, _⟩
 ·simp [Value.ownBlock] at hj
 ·have : g = j := by simpa [Value.ownBlock] using hj
  subst this; rw [hgb] at ho; cases ho; rfl
theorem Try.info66 : (Try.prog.info? 66).map (fun i => (i.zero, i.size, i.bytes)) = some (some (.pointer none), 1, 8) := by kernel_rfl
set_option maxRecDepth 100000 in
set_option maxHeartbeats 2000000 in
theorem ZIs (F : Fence) (m : Nat) (w0 : World) (fn : FuncId) (hfn : F.fn fn) (sv : Value) (Bs l D : Nat) (hBl : Bs ≠ l) (hDl : D ≠ l) (hDB : D ≠ Bs) (h0B : w0.heap.size <= Bs) (h0l : w0.heap.size <= l)
  (N : Nat) (hN : N <= maxLen) (hNb : N * 8 <= 140737488355328) (ss : List Nat) (x : Nat) (W : World) (h : ApAt w0 fn sv Bs l D ss W) (hlen : ss.length < N) :
  YieldAt F m Try.prog l #[encPt x] W fun e W' => e = .returned (.bool true) /\ ApAt w0 fn sv Bs l D (ss ++ [x]) W' /\ KeepsWalks W W' := by
 obtain ⟨i0, hi, hz0, hz1, hz2⟩ := info_parts Try.info66
 obtain ⟨v, hv, hrow, _⟩ := h.box
 refine ⟨fn, #[.slice none 0 0, sv, .pointer (some ⟨Bs, 0, none⟩), undef, .slice none 0 0, undef, sv, encPt x, undef, undef, undef, undef, undef], Zka, Zxy, by simpa [Zii] using run_yield (P := Try.prog) (args := #[encPt x]) h.L rfl, roundIn_of_wpIn hfn ?_⟩
 have hl : l < W.heap.size := (Array.getElem?_eq_some_iff.1 h.L).1
 have hbr := run_beginRound (P := Try.prog) h.L rfl
 obtain ⟨W2, hW2⟩ : ∃ W2, W.putObj l (.loop { Zii fn sv Bs D .ready none with state := .busy }) = W2 := ⟨_, rfl⟩
 rw [hW2] at hbr
 have hg2 : W.grownBy W2 (some l) := by rw [<- hW2]; exact Yu _ _ _
 have hk2 : KeepsWalks W W2 := by rw [<- hW2]; exact KeepsWalks.putObj _ h.L rfl
 have hv2 : W2.heap[Bs]? = some (.cells #[v] 58 (0, 0)) := by rw [<- hW2]; exact (World.putObj_heap_other hBl).trans hv
 have hK2 : W2.heap[D]? = some (.deferred (some [])) := by rw [<- hW2]; exact (World.putObj_heap_other hDl).trans h.K
 have hL2 : W2.heap[l]? = some (.loop { Zii fn sv Bs D .ready none with state := .busy }) := by rw [<- hW2]; exact World.putObj_heap_same hl
 have hrow2 : W2.ownsRow w0.heap.size 66 1 v ss.length (ss.map encPt) := hrow.kept hg2 (Zba hrow h.L (fun cur e => by cases e))
 have hb2 : Below w0.heap.size w0 W2 := h.below.grown hg2 h.below.size (fun k e => by cases e; exact h0l)
 obtain ⟨hc2, hf2⟩ := Zd5 hv2
 have hBlt : Bs < W2.heap.size := (Array.getElem?_eq_some_iff.1 hv2).1
 have hl2 : l < W2.heap.size := (Array.getElem?_eq_some_iff.1 hL2).1
 have hDlt : D < W2.heap.size := (Array.getElem?_eq_some_iff.1 hK2).1
 have ne_of : ∀ {j : Nat} {o : Obj}, W2.heap[j]? = some o -> (∀ cur, o ≠ .cells cur 66 (0, 0)) -> some j ≠ v.ownBlock := fun hj hno => by
  rcases Zba hrow2 hj hno with e | e
  ·rw [e]; simp
  ·exact fun e' => e e'.symm
 clear hW2
 unfold Zka
 gi_wp2_with gi_round_op_a
 unfold Zxy
 gi_wp2_with (first
  | (
   gi_at_builtin; refine wpListIn_append_own _ rfl _ _ 58 rfl w0.heap.size 66 i0 (.pointer none) 1 8 Try.underlying58 hi hz0 hz1 hz2 rfl (by decide) _ _ _ rfl (hrow2.alloc _) ⟨W2.heap.size, 0, none⟩ 1 1 [encPt x] rfl rfl (cell_one_new _ _ _) (by simp [Value.oneCell', encPt]) (by omega) (by omega) (by have := hb2.size; simp; omega) ?_; intro v' w3 hown' hg3 hnil3
   have hv3 : w3.heap[Bs]? = some (.cells #[v] 58 (0, 0)) := (hg3.block Bs (by simp; omega) (ne_of hv2 (fun cur e => by cases e))).trans ((Below.heap_alloc _ _ Bs hBlt).trans hv2)
   obtain ⟨hc3, hf3⟩ := Zd5 hv3
   obtain ⟨g', cap', cur', rfl, hbase', hgb', hr1, hr2, hr3, hr4⟩ : ∃ g' cap' cur', v' = .slice (some ⟨g', 0, none⟩) (ss.length + 1) cap' /\ w0.heap.size <= g' /\ w3.heap[g']? = some (.cells cur' 66 (0, 0)) /\ ss.length + 1 <= cap' /\ cap' <= maxLen /\ cur'.size = cap' * 1 /\ cur'.toList.take ((ss.length + 1) * 1) = ss.map encPt ++ [encPt x] := by
    rcases hown'.2 with ⟨_, h0⟩ | h'
    ·exact absurd h0 (by omega)
    ·exact h'
   go_frame)
  | gi_round_op_a)
 have hg3' : (W2.alloc (.cells #[encPt x] 66)).grownBy w3 v.ownBlock := hg3
 have hL3 : w3.heap[l]? = some (.loop { Zii fn sv Bs D .ready none with state := .busy }) := (hg3'.block l (by simp; omega) (ne_of hL2 (fun cur e => by cases e))).trans ((Below.heap_alloc _ _ l hl2).trans hL2)
 have hK3 : w3.heap[D]? = some (.deferred (some [])) := (hg3'.block D (by simp; omega) (ne_of hK2 (fun cur e => by cases e))).trans ((Below.heap_alloc _ _ D hDlt).trans hK2)
 obtain ⟨w4, hw4⟩ : ∃ w4, w3.setCell ⟨Bs, 0, none⟩ (.slice (some ⟨g', 0, none⟩) (ss.length + 1) cap') = w4 := ⟨_, rfl⟩
 rw [hw4]
 have hg4 : w3.grownBy w4 (some Bs) := by rw [<- hw4]; exact Zgh _ _ _
 have hv4 : w4.heap[Bs]? = some (.cells #[.slice (some ⟨g', 0, none⟩) (ss.length + 1) cap'] 58 (0, 0)) := by rw [<- hw4]; exact Zgd _ hv3
 have hL4 : w4.heap[l]? = some (.loop { Zii fn sv Bs D .ready none with state := .busy }) := (hg4.block l (Array.getElem?_eq_some_iff.1 hL3).1 (fun e => hBl (by cases e; rfl))).trans hL3
 have hK4 : w4.heap[D]? = some (.deferred (some [])) := (hg4.block D (Array.getElem?_eq_some_iff.1 hK3).1 (fun e => hDB (by cases e; rfl))).trans hK3
 have hrow4 := hown'.kept hg4 (Zba hown' hv3 (fun cur e => by cases e))
 have hl4 : l < w4.heap.size := (Array.getElem?_eq_some_iff.1 hL4).1
 have hb3 : Below w0.heap.size w0 w3 := (hb2.alloc hb2.size _).grown hg3' (by have := hb2.size; simp; omega) (fun k e => (hrow2.lt k e).1)
 have hb4 : Below w0.heap.size w0 w4 := hb3.grown hg4 hb3.size (fun k e => by cases e; exact h0B)
 have hk4 : KeepsWalks W w4 := ((hk2.trans (KeepsWalks.alloc _ _)).trans (KeepsWalks.of_grownBy hg3' (Zgi (hrow2.alloc _)))).trans (by rw [<- hw4]; exact KeepsWalks.setCell _ _ _)
 clear hw4
 refine ⟨_, _, run_endRound none hL4, rfl, ⟨⟨_, (World.putObj_heap_other hBl).trans hv4, ?_, by simp⟩, World.putObj_heap_same hl4, (World.putObj_heap_other hDl).trans hK4, hb4.grown (Yu _ _ _) hb4.size (fun k e => by cases e; exact h0l)⟩, hk4.trans (KeepsWalks.putObj _ hL4 rfl)⟩
 have := hrow4.kept (Yu w4 l (.loop { { Zii fn sv Bs D .ready none with state := .busy } with state := if (none : Option Code).isNone then .ready else .done, pending := none })) (Zba hrow4 hL4 (fun cur e => by cases e))
 simpa using this
theorem ZDi {n : Nat} {w0 W W' : World} (h1 : Below n w0 W) (h2 : Below n w0 W') (h3 : W.heap.size <= W'.heap.size) : Below n W W' :=
 ⟨h2.os.trans h1.os.symm, h2.tape.trans h1.tape.symm, h2.output.trans h1.output.symm, h3, fun k hk => (h2.block k hk).trans (h1.block k hk).symm⟩
theorem ZDd (F : Fence) (m : Nat) (w0 : World) (fn : FuncId) (hfn : F.fn fn) (sv : Value) (Bs l D : Nat) (hBl : Bs ≠ l) (hDl : D ≠ l) (hDB : D ≠ Bs) (h0B : w0.heap.size <= Bs) (h0l : w0.heap.size <= l)
  (N : Nat) (hN : N <= maxLen) (hNb : N * 8 <= 140737488355328) (ss : List Nat) (x : Nat) (W : World) (h : ApAt w0 fn sv Bs l D ss W) (hlen : ss.length < N) :
  YieldAt F m Try.prog l #[encPt x] W fun e W' => e = .returned (.bool true) /\ ApAt w0 fn sv Bs l D (ss ++ [x]) W' /\ Below w0.heap.size W W' := by
 obtain ⟨f, tm, a, b, hy, hR⟩ := ZIs F m w0 fn hfn sv Bs l D hBl hDl hDB h0B h0l N hN hNb ss x W h hlen
 exact ⟨f, tm, a, b, hy, hR.mono fun e W' ⟨q1, q2, q3⟩ => ⟨q1, q2, ZDi h.below q2.below q3.size⟩⟩
set_option maxRecDepth 100000 in
set_option maxHeartbeats 2000000 in
theorem Znc (F : Fence) (n : Nat) (h11 : F.fn 62) (hro : F.round = none) (hn : 2 <= n) (g : Nat) (lb : Array Value) (hFg : F.fn g) (eg : ∀ args w, (callFunc g args).run Try.prog w = .ok (.enter g args) w)
  (S : List Nat -> Prop) (N : Nat) (hN : N <= maxLen) (hNb : N * 8 <= 140737488355328) (w : World) (hseq : SeqB F (n - 1) Try.prog g lb encPt S N w) :
  CallsIn F n Try.prog 62 #[.slice none 0 0, .func (.func g) #[] lb] w fun e w' => ∃ (v : Value) (ss : List Nat), e = .returned v /\ S ss /\ w'.ownsRow w.heap.size 66 1 v ss.length (ss.map encPt) /\ (v = .slice none 0 0 ↔ ss = []) /\ Below w.heap.size w w' := by
 have h1 : 1 <= n := by omega
 refine callsIn_of_wp_marks Try.func62 rfl h11 ?_ hro
 simp only [Try.ntmps62, List.size_toArray, ZOd, List.length_nil, Nat.reduceAdd, Nat.reduceSub, Array.replicate_succ, Array.replicate_zero, List.push_toArray, List.append_toArray, List.nil_append, List.cons_append]
 gi_wp2
 refine wpIn_rangeFunc ?_
 intro fn hfn
 rw [hro]
 obtain ⟨W0, hW0⟩ : ∃ W0, w.alloc (.cells #[.slice none 0 0] 58) = W0 := ⟨_, rfl⟩
 have hs0 : W0.heap.size = w.heap.size + 1 := by rw [<- hW0]; simp
 have hv0 : W0.heap[w.heap.size]? = some (.cells #[.slice none 0 0] 58 (0, 0)) := by rw [<- hW0]; exact World.alloc_heap_new w _
 have hb0 : Below w.heap.size w W0 := by rw [<- hW0]; exact (Below.refl _ w).alloc (ZNJ _) _
 rw [hW0]
 obtain ⟨W1, hW1⟩ : ∃ W1, (W0.alloc (.deferred (some []))).alloc (.loop (Zii fn (.func (.func g) #[] lb) w.heap.size W0.heap.size .ready none)) = W1 := ⟨_, rfl⟩
 have hold : ∀ k, k < W0.heap.size -> W1.heap[k]? = W0.heap[k]? := fun k hk => by
  rw [<- hW1]; exact (Below.heap_alloc _ _ k (by simp; omega)).trans (Below.heap_alloc _ _ k hk)
 have hb1 : Below w.heap.size w W1 := by rw [<- hW1]; exact (hb0.alloc hb0.size _).alloc (by have := hb0.size; simp; omega) _
 have hs1 : W1.heap.size = W0.heap.size + 2 := by rw [<- hW1]; simp
 have hM : ApAt w fn (.func (.func g) #[] lb) w.heap.size (W0.heap.size + 1) W0.heap.size [] W1 :=
  ⟨⟨_, (hold w.heap.size (by omega)).trans hv0, ⟨rfl, .inl ⟨rfl, rfl⟩⟩, by simp⟩,
   by rw [<- hW1]; have := World.alloc_heap_new (W0.alloc (.deferred (some []))) (.loop (Zii fn (.func (.func g) #[] lb) w.heap.size W0.heap.size .ready none)); rwa [World.size_alloc] at this,
   by rw [<- hW1]; exact (Below.heap_alloc _ _ _ (by simp)).trans (World.alloc_heap_new W0 _), hb1⟩
 refine ⟨W0.heap.size + 1, [{ target := .collected W0.heap.size, args := #[] }], W1, { target := .fn (.func g) lb, args := #[.func (.yield (W0.heap.size + 1)) #[] #[]] }, W1, g,
  #[.func (.yield (W0.heap.size + 1)) #[] #[]] ++ lb, W1, ?_, ?_, ?_, ?_, fun _ => h1, ?_⟩
 ·rw [<- hW1]; exact run_enterLoop_outer _ _ _ _ _
 ·simp [resolve, go_sem]
 ·intro f' hf'; simp [Target.leads] at hf'; subst hf'; exact hFg
 ·simp [invoke, go_sem, eg]
 ·refine (hseq (W0.heap.size + 1) (ApAt w fn (.func (.func g) #[] lb) w.heap.size (W0.heap.size + 1) W0.heap.size) W1 hb1
   (fun pre x W hJ hl => ZDd F (n - 1 - 1) w fn hfn _ w.heap.size (W0.heap.size + 1) W0.heap.size (by omega) (by omega) (by omega) (ZNJ _) (by omega) N hN hNb pre x W hJ hl) hM).mono ?_
  rintro e W2 ⟨⟨v0, rfl⟩, ss, hS, h2⟩
  obtain ⟨v, hv, hrow, hnil⟩ := h2.box
  have hend := run_endLoop (P := Try.prog) h2.L (by simp [Zii])
  obtain ⟨W3, hW3⟩ : ∃ W3, W2.putObj (W0.heap.size + 1) (.loop { Zii fn (.func (.func g) #[] lb) w.heap.size W0.heap.size .ready none with state := .exhausted }) = W3 := ⟨_, rfl⟩
  rw [hW3] at hend
  have hg3 : W2.grownBy W3 (some (W0.heap.size + 1)) := by rw [<- hW3]; exact Yu _ _ _
  have hv3 : W3.heap[w.heap.size]? = some (.cells #[v] 58 (0, 0)) := by rw [<- hW3]; exact (World.putObj_heap_other (by omega)).trans hv
  have hK3 : W3.heap[W0.heap.size]? = some (.deferred (some [])) := by rw [<- hW3]; exact (World.putObj_heap_other (by omega)).trans h2.K
  have hrow3 := hrow.kept hg3 (Zba hrow h2.L (fun cur e => by cases e))
  have hb3 : Below w.heap.size w W3 := h2.below.grown hg3 h2.below.size (fun k e => by cases e; omega)
  obtain ⟨hc3, hf3⟩ := Zd5 hv3
  clear hW3
  refine ⟨none, W3, hend, ?_⟩
  gi_wp2
  rw [<- hs0]
  refine ⟨by simp, .inl ⟨_, _, rfl, run_takeDeferred hK3, ?_⟩⟩
  exact ⟨_, results_tmp rfl _ _ _, v, ss, rfl, hS, hrow3.kept (Yu _ _ _) (Zba hrow3 hK3 (fun cur e => by cases e)), hnil, hb3.grown (Yu _ _ _) hb3.size (fun k e => by cases e; omega)⟩
set_option maxHeartbeats 1000000 in
theorem Zuo (F : Fence) (n : Nat) (h8 : F.fn 42) (h11 : F.fn 62) (hro : F.round = none) (hn : 3 <= n) (g : Nat) (lb : Array Value) (hFg : F.fn g) (eg : ∀ args w, (callFunc g args).run Try.prog w = .ok (.enter g args) w)
  (S : List Nat -> Prop) (N : Nat) (hN : N <= maxLen) (hNb : N * 8 <= 140737488355328) (w : World) (hseq : SeqB F (n - 1 - 1) Try.prog g lb encPt S N w) :
  CallsIn F n Try.prog 42 #[.func (.func g) #[] lb] w fun e w' => ∃ (v : Value) (ss : List Nat), e = .returned v /\ S ss /\ w'.ownsRow w.heap.size 66 1 v ss.length (ss.map encPt) /\ (v = .slice none 0 0 ↔ ss = []) /\ Below w.heap.size w w' := by
 have h1 : 1 <= n := by omega
 refine callsIn_of_wp Try.func42 rfl h8 ?_ hro
 simp only [Try.ntmps42, List.size_toArray, ZOd, List.length_nil, Nat.reduceAdd, Nat.reduceSub, Array.replicate_succ, Array.replicate_zero, List.push_toArray, List.append_toArray, List.nil_append, List.cons_append]
 gi_wp2_with (gi_at_call 62; refine (Znc F (n - 1) h11 hro (by omega) g lb hFg eg S N hN hNb _ hseq).mono ?_; rintro e w' ⟨v, ss, rfl, hS, hrow, hnil, hb⟩)
 go_ret
 exact ⟨v, ss, rfl, hS, hrow, hnil, hb⟩
set_option maxHeartbeats 1000000 in
attribute [local go_sem] Oper.semAt_some
set_option maxRecDepth 100000 in
set_option maxHeartbeats 2000000 in
theorem Zu6 (n : Nat) (hn : 1 <= n) (l Bs n₀ : Nat) (a : Option Addr) (len cap : Nat) (zs : List Nat) (hreach : len * 8 <= 140737488351232) (J : List Nat -> World -> Prop)
  (hY : ∀ pre x W, J pre W -> pre.length < len -> YieldAt Fence.wide (n - 1) Try.prog l #[encPt x] W fun e W' => e = .returned (.bool true) /\ J (pre ++ [x]) W' /\ Below n₀ W W')
  (W : World) (hBs : W.cell? ⟨Bs, 0, none⟩ = some (.slice a len cap)) (hl : len = zs.length) (hc : ∀ j (hj : j < zs.length), ∃ b, a = some ⟨b, 0, none⟩ /\ b < n₀ /\ W.cell? ⟨b, 0 + j, none⟩ = some (encPt zs[j])) (h0 : J [] W) :
  CallsIn Fence.wide n Try.prog 44 #[.func (.yield l) #[] #[], .pointer (some ⟨Bs, 0, none⟩)] W fun e W' => (∃ v, e = .returned v) /\ J zs W' := by
 refine callsIn_of_wp Try.func44 rfl trivial ?_ rfl
 simp only [Try.ntmps44, List.size_toArray, ZOd, List.length_nil, Nat.reduceAdd, Nat.reduceSub, Array.replicate_succ, Array.replicate_zero, List.push_toArray, List.append_toArray, List.nil_append, List.cons_append]
 gi_wp2
 gi_loopw [7] (fun i wr => ∃ k : Nat, k <= len /\ i = .int .i64 k /\ J (zs.take k) wr /\ Below n₀ W wr)
  (fun i _ => len - (intOf i).toNat)
 case atStart => exact ⟨0, Nat.zero_le _, rfl, h0, Below.refl _ _⟩
 case round =>
  obtain ⟨k, hk, rfl, hJs, hnx⟩ := hrel
  by_cases hlt : k < len
  ·have hkz : k < zs.length := by omega
   obtain ⟨b, rfl, hb, hcell⟩ := hc k hkz
   have hcx' : wr.cell? ⟨b, 0 + k, none⟩ = some (encPt zs[k]) := (hnx.cell (p := ⟨b, 0 + k, none⟩) hb).trans hcell
   obtain ⟨fn, tmps, assign, body, hy, hR⟩ := hY _ zs[k] wr hJs (by rw [ZNV]; omega)
   rw [Nat.zero_add] at hcx'
   gi_wp2
   refine hR.mono ?_
   rintro e W3 ⟨rfl, hJ3, hk3⟩
   gi_wp2
   go_roundw
   case rel => exact ⟨k + 1, by omega, by simp, by rw [List.take_succ_eq_append_getElem hkz]; exact hJ3, hnx.trans hk3⟩
   case measure => simp [intOf]; omega
  ·obtain rfl : k = len := by omega
   gi_wp2
   go_end0
   rw [hl, List.take_length] at hJs
   exact ⟨⟨_, rfl⟩, hJs⟩
theorem collected (Bs : Nat) (a : Option Addr) (cap : Nat) (zs : List Nat) (hreach : zs.length * 8 <= 140737488351232) (w : World) (hB : Bs < w.heap.size) (hBs : w.cell? ⟨Bs, 0, none⟩ = some (.slice a zs.length cap))
  (hc : ∀ j (hj : j < zs.length), ∃ b, a = some ⟨b, 0, none⟩ /\ b < w.heap.size /\ w.cell? ⟨b, 0 + j, none⟩ = some (encPt zs[j])) :
  Calls Try.prog 42 #[.func (.func 44) #[] #[.pointer (some ⟨Bs, 0, none⟩)]] w fun e w' => ∃ (v : Value), e = .returned v /\ w'.ownsRow w.heap.size 66 1 v zs.length (zs.map encPt) /\ (v = .slice none 0 0 ↔ zs = []) /\ Below w.heap.size w w' := by
 refine (callsIn_wide (n := 5)).1 ?_
 have hs : SeqB Fence.wide 3 Try.prog 44 #[.pointer (some ⟨Bs, 0, none⟩)] encPt (fun ss => ss = zs) zs.length w := fun l J W hW hY h0 =>
  (Zu6 3 (by omega) l Bs w.heap.size a zs.length cap zs hreach J hY W ((hW.cell (p := ⟨Bs, 0, none⟩) hB).trans hBs) rfl (fun j hj => by
   obtain ⟨b, h1, h2, h3⟩ := hc j hj; exact ⟨b, h1, h2, (hW.cell (p := ⟨b, 0 + j, none⟩) h2).trans h3⟩) h0).mono fun e W' ⟨q1, q2⟩ => ⟨q1, zs, rfl, q2⟩
 have hm : zs.length <= maxLen := by
  have : maxLen = 9223372036854775807 := by decide
  omega
 have h := Zuo Fence.wide 5 trivial trivial rfl (by omega) 44 #[.pointer (some ⟨Bs, 0, none⟩)] trivial (enters_of Try.func44 (by kernel_rfl) rfl) (fun ss => ss = zs) zs.length hm (by omega) w hs
 refine h.mono ?_
 rintro e w' ⟨v, ss, rfl, rfl, h1, h2, h3⟩
 exact ⟨v, rfl, h1, h2, h3⟩
end Go.Proofs.Ytidlngnhjffepaa.colV
namespace Go.Proofs.Ytidlngnhjffepaa
open Go.Shelf Go.RowKit Go.Maps Go.Proofs
set_option maxRecDepth 100000 in
set_option maxHeartbeats 2000000 in
theorem Zvb (b : Nat) (es : Array MapEntry) (clock : Nat) (w : World) (hb : w.heap[b]? = some (.map es clock)) :
  Calls Try.prog 46 #[.map (some b)] w fun e w' => e = .returned (.map (some w.heap.size)) /\ w' = w.alloc (.map es clock) := by
 have hq := fun w => run_eql_map_nil_sl (P := Try.prog) w 68 _ _ (some b) Try.underlying68
 go_enter Try.func46, Try.ntmps46
 go_wp2
 rw [run_callFunc_extern Try.func66 (by kernel_rfl) (by kernel_rfl) (by kernel_rfl) (e := Extern.MapsClone.clone) (by kernel_rfl), run_maps_clone_sl w 68 hb]
 simp only [Result.andThen]
 rw [Oper.upon_value]
 go_wp2
 rw [run_typeAssert_map_sl _ 68 _ _ _ _ Try.underlying68]
 simp only [Result.andThen]
 rw [Oper.upon_value]
 go_wp2
 go_ret
 exact ⟨rfl, rfl⟩
end Go.Proofs.Ytidlngnhjffepaa
namespace Go.Proofs.Ytidlngnhjffepaa
noncomputable section
open Go.Eng
open Go.RowKit (Below)
theorem ZB5 {w0 w w' : World} {H : HProp} (h : Sat w0 H w) (hb : Below w.heap.size w w') : Sat w0 H w' := by
 obtain ⟨x, hx, hi⟩ := h
 have h0 := hi.below.size
 refine ⟨x, hx, fun b o v z e => ?_, fun b o y e => ?_, hi.below.trans (hb.mono h0)⟩
 ·have hlt := hi.lt e
  have q := hi.cell _ _ _ _ e
  have hk := hb.block b hlt
  refine ⟨q.1, ?_, ?_, fun hz => ?_⟩
  ·have := q.2.1; unfold World.cell? at this ⊢; rw [hk]; exact this
  ·have := q.2.2.1; unfold World.frozen? at this ⊢; rw [hk]; exact this
  ·rw [hk]; exact q.2.2.2 hz
 ·have hlt := hi.lt e
  have q := hi.obj _ _ _ e
  exact ⟨q.1, q.2.1, by rw [hb.block b hlt]; exact q.2.2.1, q.2.2.2⟩
theorem ZDK {w0 w w' : World} {H : HProp} (h : Sat w0 H w) (hb : Below w.heap.size w w') {g : Nat} (hg : w.heap.size <= g) {cur : Array Value} {t : TypeId} (hc : w'.heap[g]? = some (.cells cur t (0, 0))) : Sat w0 (Zc (row g 0 cur.toList true) H) w' := by
 have h2 := ZB5 h hb
 obtain ⟨x, hx, hi⟩ := h
 obtain ⟨hn, hcell⟩ : (∀ j, x g j = none) /\ True := by
  refine ⟨fun j => ?_, trivial⟩
  cases e : x g j with
  | none => rfl
  | some r => exact absurd (hi.lt e) (by omega)
 have hi2 : In w0 x w' := by
  have h0 := hi.below.size
  refine ⟨fun b o v z e => ?_, fun b o y e => ?_, hi.below.trans (hb.mono h0)⟩
  ·have hlt := hi.lt e
   have q := hi.cell _ _ _ _ e
   have hk := hb.block b hlt
   refine ⟨q.1, ?_, ?_, fun hz => ?_⟩
   ·have := q.2.1; unfold World.cell? at this ⊢; rw [hk]; exact this
   ·have := q.2.2.1; unfold World.frozen? at this ⊢; rw [hk]; exact this
   ·rw [hk]; exact q.2.2.2 hz
  ·have hlt := hi.lt e
   have q := hi.obj _ _ _ e
   exact ⟨q.1, q.2.1, by rw [hb.block b hlt]; exact q.2.2.1, q.2.2.2⟩
 have h0 := hi.below.size
 refine ⟨Hl.un (ZbX g 0 cur.toList true) x, ⟨_, x, ?_, rfl, rfl, hx⟩, fun b o v z e => ?_, fun b o y e => ?_, hi2.below⟩
 ·intro i j
  by_cases hig : i = g
  ·right; rw [hig]; exact hn j
  ·left; unfold ZbX; rw [if_neg (fun q => hig q.1)]
 ·unfold Hl.un at e
  cases hr : ZbX g 0 cur.toList true b o with
  | none => rw [hr] at e; exact hi2.cell _ _ _ _ e
  | some r =>
   rw [hr] at e
   injection e with e
   subst e
   unfold ZbX at hr
   by_cases hbg : b = g /\ 0 <= o
   ·rw [if_pos hbg] at hr
    obtain ⟨rfl, _⟩ := hbg
    rw [Nat.sub_zero] at hr
    cases hq : cur.toList[o]? with
    | none => rw [hq] at hr; cases hr
    | some u =>
     rw [hq] at hr
     injection hr with hr
     injection hr with e1 e2
     subst e1
     refine ⟨by omega, ?_, ?_, fun _ => ⟨_, _, hc⟩⟩
     ·unfold World.cell?; simp only [hc]
      rw [ZNI] at hq
      exact hq
     ·unfold World.frozen?; simp [hc]
   ·rw [if_neg hbg] at hr; cases hr
 ·unfold Hl.un at e
  cases hr : ZbX g 0 cur.toList true b o with
  | none => rw [hr] at e; exact hi2.obj _ _ _ e
  | some r =>
   rw [hr] at e
   injection e with e
   subst e
   unfold ZbX at hr
   split at hr
   ·cases hq : cur.toList[o - 0]? with
    | none => rw [hq] at hr; cases hr
    | some u => rw [hq] at hr; injection hr with hr; cases hr
   ·cases hr
def Zei : Ctr := ⟨[.int, .int, .rows, .int, .int], [.one (.cap (.fn 44) (.ptr (ai 0) 0))], [.cel (ai 0) 0 [slC (ai 1) (Zg (rA 2)) (ai 3) 1], pAr (ai 1) (rA 2) (ai 4)],
 [usB 620 (rA 2) z0 z0, eLe (Zg (rA 2)) (.int 1000000)], [.int, .int], .one (slC (ai 5) (Zg (rA 2)) (ai 6) 1), [.cel (ai 0) 0 [slC (ai 1) (Zg (rA 2)) (ai 3) 1], pAr (ai 1) (rA 2) (ai 4), pAr (ai 5) (rA 2) (ai 6)],
 [eLe (Zg (rA 2)) (ai 6), .f2 50 (eLe z0 (ai 5)) (.f2 45 (Zg (rA 2)) z0)]⟩
def ZuR (ρ : Go.Eng.Env GG) (a c : Int) : Go.Eng.Env GG := (ρ.upd 5 (.int a)).upd 6 (.int c)
theorem ZcI (ρ : Go.Eng.Env GG) (a c : Int) : Ext 5 ρ (ZuR ρ a c) := fun i hi => by
 unfold ZuR Go.Eng.Env.upd; rw [if_neg (by omega), if_neg (by omega)]
theorem ZMd (ρ : Go.Eng.Env GG) (a c : Int) : ZuR ρ a c 0 = ρ 0 := ZcI ρ a c 0 (by decide)
theorem ZLO (ρ : Go.Eng.Env GG) (a c : Int) : ZuR ρ a c 1 = ρ 1 := ZcI ρ a c 1 (by decide)
theorem ZmH (ρ : Go.Eng.Env GG) (a c : Int) : ZuR ρ a c 2 = ρ 2 := ZcI ρ a c 2 (by decide)
theorem ZLG (ρ : Go.Eng.Env GG) (a c : Int) : ZuR ρ a c 3 = ρ 3 := ZcI ρ a c 3 (by decide)
theorem ZMW (ρ : Go.Eng.Env GG) (a c : Int) : ZuR ρ a c 4 = ρ 4 := ZcI ρ a c 4 (by decide)
theorem Zr3 (ρ : Go.Eng.Env GG) (a c : Int) : ZuR ρ a c 5 = .int a := rfl
theorem ZsV (ρ : Go.Eng.Env GG) (a c : Int) : ZuR ρ a c 6 = .int c := rfl
theorem ZtZ {R : List (List Int)} (h : ∀ r ∈ R, 0 <= g0 r) : pE.vals (U.rows R : U GG) = (R.map fun r => (g0 r).toNat).map colV.encPt := by
 show R.flatMap (rowVals [.ptr]) = _
 induction R with
 | nil => rfl
 | cons r R ih =>
  rw [List.flatMap_cons, ZN2, ZN2, ih (fun q hq => h q (ZNZ _ hq))]
  have h0 := h r ZN1
  have : rowVals [.ptr] r = [colV.encPt (g0 r).toNat] := by
   show [if r.getD 0 0 < 0 then Value.pointer none else _] = _
   rw [if_neg (by unfold g0 at h0; omega)]; rfl
  rw [this]; rfl
theorem ZNo (S : Sig GG) (h620 : ∀ a b c d, S.usr 620 a b c d = .bool (Zp (∀ r ∈ a.tR, 0 <= g0 r))) : ZR S Try.prog 42 Zei := by
 intro ch w0 F ρ w xs hx hq hsat
 obtain ⟨v, rfl, hv⟩ : ∃ v, xs = [v] /\ SV.R S ρ (.one (.cap (.fn 44) (.ptr (ai 0) 0))) v := by
  match xs, hx with
  | [v], hx => exact ⟨v, rfl, hx.1⟩
 have hv := R_one S ρ hv
 have q1 := hq (usB 620 (rA 2) z0 z0) (by simp [Zei])
 have q2 := hq (eLe (Zg (rA 2)) (.int 1000000)) (by simp [Zei])
 rw [Zf] at q2
 simp only [Zei, Zs, star_assoc, Ch.den, pAr] at hsat
 rw [SX.den_wc, SX.den_wc, SX.den_wc, SX.den_wc] at hsat
 simp only [usB, SX.den, h620, Yw, Z4, YJ, U.tPi, U.tQi, Zi, U.tRi, U.tIi, ai, rA, Zg, Y5] at q1 q2 hsat
 generalize hR : (ρ 2).tR = R at *
 obtain ⟨g1, hsat⟩ := Zt hsat
 have hb0 : 0 <= (ρ 0).tI := g1.resolve_right (by simp)
 have hrow0 := hsat
 have hld := (hrow0.load (i := 0) (by simp)).1
 have hlt := hrow0.row_lt (by simp)
 have hbox : SC.den (S.wc ch) ρ (slC (.at .int 1) (.f1 32 (.at .rows 2)) (.at .int 3) 1) = slV (ρ 1).tI R.length (ρ 3).tI := by
  rw [Zds]; simp only [SX.den, Z4, YJ, Y5, U.tIi, U.tRi, hR]
 simp only [ZN2, List.map_nil, List.getElem_cons_zero] at hld
 rw [hbox] at hld
 have hsat2 := hsat
 rw [Zn] at hsat2
 obtain ⟨spare, hsat2⟩ := YN hsat2
 obtain ⟨e1, hsat2⟩ := Zt hsat2
 obtain ⟨e2, hsat2⟩ := Zt hsat2
 obtain ⟨e3, hsat2⟩ := Zt hsat2
 rw [ZtZ q1] at e1 hsat2
 simp only [U.tIi] at e1 e2 e3 hsat2
 subst hv
 have hvd : SC.den S ρ (.cap (.fn 44) (.ptr (ai 0) 0)) = .func (.func 44) #[] #[.pointer (some ⟨(ρ 0).tI.toNat, 0, none⟩)] := by
  simp only [SC.den, SX.den, ai, Z4, U.tIi]
  rw [if_neg (by omega)]; rfl
 rw [hvd]
 have hzl : (R.map fun r => (g0 r).toNat).length = R.length := ZN3 ..
 have hcall := colV.collected (ρ 0).tI.toNat (if (ρ 1).tI < 0 then none else some ⟨(ρ 1).tI.toNat, 0, none⟩) (ρ 3).tI.toNat (R.map fun r => (g0 r).toNat) (by rw [hzl]; omega) w hlt.2
  (by rw [hzl]; unfold slV at hld; simpa using hld) (fun j hj => by
   have hb1 : 0 <= (ρ 1).tI := by
    rcases e3 with h | h
    ·exact h
    ·exfalso; rw [h] at e1; simp at e1 hj; have := e1.1; rw [this] at hj; simp at hj
   have hj2 : j < (((R.map fun r => (g0 r).toNat).map colV.encPt) ++ spare).length := by rw [ZNY, ZN3]; omega
   have hl := hsat2.load hj2
   have hlt2 := hsat2.row_lt (by intro e; rw [e] at hj2; simp at hj2)
   refine ⟨(ρ 1).tI.toNat, by rw [if_neg (by omega)], hlt2.2, ?_⟩
   rw [hl.1, List.getElem_append_left (by rw [ZN3]; exact hj), List.getElem_map])
 refine hcall.mono ?_
 rintro e w' ⟨v, rfl, ⟨hl, hor⟩, hnil, hbel⟩
 have fin : ∀ (a c : Int), Sat w0 (Zc (YU S pE (.int a) (.rows R) (.int c)) (Zc (fun h => (0 <= (ρ 0).tI \/ ([slC (.at .int 1) (.f1 32 (.at .rows 2)) (.at .int 3) 1] : List SC) = []) /\ row (ρ 0).tI.toNat 0 (List.map (SC.den (S.wc ch) ρ) [slC (.at .int 1) (.f1 32 (.at .rows 2)) (.at .int 3) 1]) true h) (Zc (YU S pE (.int (ρ 1).tI) (.rows R) (.int (ρ 4).tI)) (Zc (hpDen (S.wc ch) ρ w0 []) F)))) w' →
   Sat w0 (Zc (hpDen (S.wc ch) (ZuR ρ a c) w0 Zei.post) F) w' := by
  intro a c h
  simp only [Zei, Zs, star_assoc, Ch.den, pAr]
  repeat rw [SX.den_wc]
  simp only [ZN2, List.map_nil, SX.den, SX.den_wc, Zds, ai, rA, Zg, Y5, Z4, YJ, U.tIi, U.tRi, ZMd, ZLO, ZmH, ZLG, ZMW, Zr3, ZsV, hR] at h ⊢
  rw [Zn (YU _ _ _ _ _), Zn (YU _ _ (.int a) _ _)] at h
  exact h
 have fc : ∀ (a c : Int), (R.length : Int) <= c -> (0 <= a \/ R.length = 0) -> ∀ x ∈ Zei.facts, (x.den S (ZuR ρ a c)).tP := by
  intro a c h1 h2 x hx
  simp only [Zei, List.mem_cons, List.not_mem_nil, or_false] at hx
  rcases hx with rfl | rfl
  ·rw [Zf]
   simp only [SX.den, rA, ai, Zg, Z4, YJ, ZmH, ZsV, Y5, U.tIi, U.tRi, hR]; exact h1
  ·simp only [eLe, SX.mk2, SX.den, rA, ai, Zg, z0, Z4, YJ, ZmH, Zr3, Y5, p50, p45, p47, U.tIi, U.tRi, hR]
   rcases h2 with h2 | h2
   ·exact .inl (by simp [ap2, h2])
   ·exact .inr (by simp [ap2, h2])
 rcases hor with ⟨rfl, hz⟩ | ⟨gb, cap, cur, rfl, hgb, hcur, hnc, hcm, hcs, htk⟩
 ·have hR0 : R = [] := by
   have : R.length = 0 := by rw [<- hzl]; exact hz
   exact ZN8 this
  subst hR0
  refine ⟨ZuR ρ (-1) 0, _, ZcI ρ _ _, rfl, .inr ?_, fin _ _ ?_, fc _ _ (ZN4 _) (.inr rfl)⟩
  ·show _ = SC.den S _ (slC (ai 5) (Zg (rA 2)) (ai 6) 1)
   rw [Zds]
   simp only [SX.den, ai, rA, Zg, Z4, YJ, ZmH, Zr3, ZsV, Y5, U.tIi, U.tRi, hR]; rfl
  ·have h2 := ZB5 hsat hbel
   refine YY [] (Zu rfl (Zu (ZN4 _) (Zu (.inr rfl) ?_)))
   rw [show (En.vals pE (U.rows [] : U GG) ++ []) = [] from rfl, Ze9, emp_star]
   have h3 : Sat w0 (Zc (row (ρ 0).tI.toNat 0 (List.map (SC.den (S.wc ch) ρ) [slC (SX.at Srt.int 1) (SX.f1 32 (SX.at Srt.rows 2)) (SX.at Srt.int 3) 1]) true) (Zc (YU S pE (.int (ρ 1).tI) (.rows []) (.int (ρ 4).tI)) (Zc (hpDen (S.wc ch) ρ w0 []) F))) w' := h2
   exact Zu g1 h3
 ·refine ⟨ZuR ρ gb cap, _, ZcI ρ _ _, rfl, .inr ?_, fin _ _ ?_, fc _ _ (by omega) (.inl (by omega))⟩
  ·show _ = SC.den S _ (slC (ai 5) (Zg (rA 2)) (ai 6) 1)
   rw [Zds]
   simp only [SX.den, ai, rA, Zg, Z4, YJ, ZmH, Zr3, ZsV, Y5, U.tIi, U.tRi, hR]
   unfold slV
   rw [if_neg (by omega), hzl]; simp
  ·have h2 := ZDK hsat hbel hgb hcur
   have hvs : cur.toList = En.vals pE (U.rows R : U GG) ++ cur.toList.drop (R.length * 1) := by
    rw [ZtZ q1, <- htk, hzl, List.take_append_drop]
   refine YY (cur.toList.drop (R.length * 1)) (Zu ?_ (Zu (show 0 <= ((cap : Nat) : Int) by omega) (Zu (.inl (show 0 <= ((gb : Nat) : Int) by omega)) ?_)))
   ·rw [<- ZNY, <- hvs]
    show cur.toList.length = cap * 1
    rw [Array.length_toList]; exact hcs
   ·rw [<- hvs]
    have h3 : Sat w0 (Zc (row gb 0 cur.toList true) (Zc (row (ρ 0).tI.toNat 0 (List.map (SC.den (S.wc ch) ρ) [slC (SX.at Srt.int 1) (SX.f1 32 (SX.at Srt.rows 2)) (SX.at Srt.int 3) 1]) true) (Zc (YU S pE (.int (ρ 1).tI) (.rows R) (.int (ρ 4).tI)) (Zc (hpDen (S.wc ch) ρ w0 []) F)))) w' := h2
    rw [Zn] at h3 ⊢
    exact Zu g1 h3
def Zm7 : Ctr := ⟨[.int, .amap], [.one (.map (ai 0))], [scC (ai 0) (mA 1)], [], [.int], .one (.map (ai 2)), [scC (ai 0) (mA 1), scC (ai 2) (mA 1)], [eLe z0 (ai 2)]⟩
theorem ZM2 {G : Type} (S : Sig G) : ZR S Try.prog 46 Zm7 := by
 intro ch w0 F ρ w xs hx hq hsat
 obtain ⟨v, rfl, hv⟩ : ∃ v, xs = [v] /\ SV.R S ρ (.one (.map (ai 0))) v := by
  match xs, hx with
  | [v], hx => exact ⟨v, rfl, hx.1⟩
 have hv := R_one S ρ hv
 simp only [Zm7, Zs, star_assoc, Ch.den, scC] at hsat
 repeat rw [SX.den_wc] at hsat
 simp only [SX.den, ai, mA, Z4, Zmf, U.tIi, U.tMi] at hsat
 obtain ⟨g1, hsat⟩ := Zt hsat
 obtain ⟨es, hsat⟩ := YN hsat
 obtain ⟨clock, hsat⟩ := YN hsat
 obtain ⟨g2, hsat⟩ := Zt hsat
 obtain ⟨_, hlt, hobj, _⟩ := hsat.obj
 subst hv
 have hvd : SC.den S ρ (.map (ai 0)) = .map (some (ρ 0).tI.toNat) := by
  simp only [SC.den, SX.den, ai, Z4, U.tIi]
  rw [if_neg (by omega)]
 rw [hvd]
 refine (Zvb (ρ 0).tI.toNat es clock w hobj).mono ?_
 rintro e w' ⟨rfl, rfl⟩
 refine ⟨ρ.upd 2 (.int (w.heap.size : Nat)), _, Ext.upd _ _, rfl, .inr ?_, ?_, ?_⟩
 ·show Value.map (some w.heap.size) = Value.map (if (((w.heap.size : Nat) : Int) < 0) then none else some (((w.heap.size : Nat) : Int).toNat))
  rw [if_neg (by omega), ZN0]
 ·have h2 := Sat.newObj hsat (.map es clock) rfl
  simp only [Zm7, Zs, star_assoc, Ch.den, scC]
  repeat rw [SX.den_wc]
  simp only [SX.den, ai, mA, Env.upd, if_true, Nat.reduceEqDiff, reduceIte, Z4, Zmf, U.tIi, U.tMi]
  refine Zu g1 (YY es (YY clock (Zu g2 ?_)))
  rw [Zn]
  refine Zu (by omega) (YY es (YY clock (Zu g2 ?_)))
  rw [ZN0]
  exact h2
 ·intro x hx
  simp only [Zm7, List.mem_cons, List.not_mem_nil, or_false] at hx
  subst hx
  rw [Zf]
  simp only [SX.den, ai, z0, Env.upd, if_true, Z4, U.tIi]; omega
end
end Go.Proofs.Ytidlngnhjffepaa
namespace Go.Proofs.Ytidlngnhjffepaa
noncomputable section
open Go.Eng
/-! ### Plain words -/
def ZCF (RT : List (List Int)) (L : List Tx) (r : List Int) : Int := (atT L (ZdD (g0 r) RT : Nat)).who
def leW (RT : List (List Int)) (L : List Tx) (r s : List Int) : Prop := ZCF RT L r <= ZCF RT L s
def ZFf (RT : List (List Int)) (L : List Tx) (P : List (List Int)) : Prop := P.Pairwise (leW RT L)
def ndP (P : List (List Int)) : Prop := (P.map g0).Nodup
def ZJI (k P RT : List (List Int)) (L : List Tx) : Prop := (k.drop 1).Perm P /\ ZFf RT L ((k.drop 1).take (g0 (k.getD 0 [])).toNat)
def ZJT (k P RT : List (List Int)) (L : List Tx) : Prop := (k.drop 1).Perm P /\ ∃ A B C x, k.drop 1 = A ++ x :: B ++ C /\ (A.length : Int) = g1 (k.getD 0 []) /\ ((A.length : Int) + B.length) = g0 (k.getD 0 []) /\ ZFf RT L (A ++ B) /\ ∀ b ∈ B, leW RT L x b
structure OdSig (S : Sig GG) : Prop where
 fi : FiSig S
 u620 : ∀ a b c d, S.usr 620 a b c d = .bool (Zp (∀ r ∈ a.tR, 0 <= g0 r))
 u621 : ∀ a b c d, S.usr 621 a b c d = .bool (Zp (ndP a.tR))
 u622 : ∀ a b c d, S.usr 622 a b c d = .bool (Zp (a.tR.Perm b.tR /\ ZFf c.tR (ZW d) a.tR))
 u623 : ∀ a b c d, S.usr 623 a b c d = .bool (Zp (ZJI a.tR b.tR c.tR (ZW d)))
 u624 : ∀ a b c d, S.usr 624 a b c d = .bool (Zp (ZJT a.tR b.tR c.tR (ZW d)))
def ZFl : Ctr := ⟨[.int, .int, .rows, .g], [.one (.ptr (ai 0) 0), .one (.ptr (ai 1) 0)], [txC (rA 2) (gA 3)], [usB 565 (rA 2) (ai 0) z0, usB 565 (rA 2) (ai 1) z0, .f1 2 (.f2 45 (ai 0) (ai 1))], [], .tup [],
 [.cel (ai 0) 0 (txQ (rA 2) (gA 3) (ixB (rA 2) (ai 0))), .cel (ai 1) 0 (txQ (rA 2) (gA 3) (ixB (rA 2) (ai 1))), twC (ai 0) (ai 1) (rA 2) (gA 3)], [eLe z0 (ai 0), eLe z0 (ai 1)]⟩
theorem Zxr : ∀ {R : List (List Int)} {L : List Tx} {h : Hl}, Ze4 R L h -> ∀ b, Zq0 R b -> 0 <= b
 | [], [], _, _, b, hb => by obtain ⟨k, hk, _⟩ := hb; simp at hk
 | r :: R, t :: L, h, hx, b, hb => by
  obtain ⟨p, q, _, _, hp, hq⟩ := hx
  obtain ⟨k, hk, rfl⟩ := hb
  cases k with
  | zero => exact (Zd0 hp).2.2.2.2.2
  | succ k => exact Zxr hq _ ⟨k, by simpa using hk, rfl⟩
 | [], _ :: _, _, hx, _, _ => hx.elim
 | _ :: _, [], _, hx, _, _ => hx.elim
theorem ZK4 (S : Sig GG) (hS : JtSig S) : Zbp S ZFl := by
 refine Ys S fun T w0 ρ h hu hp hd hr hpre => ⟨ρ, Ext.refl _ _, ?_⟩
 have hT := hS.of hu hp
 have e1 : hpDen T ρ w0 ZFl.pre = Zc (T.prd 100 w0 ((rA 2).den T ρ) ((gA 3).den T ρ)) emp := rfl
 have e2 : hpDen T ρ w0 ZFl.post = Zc ((Ch.cel (ai 0) 0 (txQ (rA 2) (gA 3) (ixB (rA 2) (ai 0)))).den T ρ w0) (Zc ((Ch.cel (ai 1) 0 (txQ (rA 2) (gA 3) (ixB (rA 2) (ai 1)))).den T ρ w0) (Zc (T.prd 102 w0 ((Zae (Zb7 (ai 0) (ai 1)) (rA 2)).den T ρ) ((gA 3).den T ρ)) emp)) := rfl
 have r0 := hr (usB 565 (rA 2) (ai 0) z0) (by simp [ZFl])
 have r1 := hr (usB 565 (rA 2) (ai 1) z0) (by simp [ZFl])
 have r2 := hr (.f1 2 (.f2 45 (ai 0) (ai 1))) (by simp [ZFl])
 simp only [usB, SX.den, hT.u565, Yw, U.tPi, U.tQi, Zi] at r0 r1
 have r2 : (ap1 2 (ap2 45 ((ai 0).den T ρ) ((ai 1).den T ρ))).tP := r2
 rw [ZGe] at r2
 have ib : ∀ b : SX, ((ixB (rA 2) b).den T ρ).tI = (ZdD (b.den T ρ).tI ((rA 2).den T ρ).tR : Nat) := fun b => by
  simp only [ixB, usI, SX.den, hT.u566, Z4, U.tIi]
 have k2 : ((Zae (Zb7 (ai 0) (ai 1)) (rA 2)).den T ρ).tR = [((ai 0).den T ρ).tI, ((ai 1).den T ρ).tI] :: ((rA 2).den T ρ).tR := rfl
 have a0 := ZcC (Zah r0)
 have a1 := ZcC (Zah r1)
 rw [e1, Zd, hT.p100] at hpre
 have gd := Zxr hpre
 refine ⟨?_, ?_⟩
 ·rw [e2, Zd, Zfj hT ρ w0 (ai 0) (rA 2) (gA 3) (ixB (rA 2) (ai 0)) _ (by rw [ib]) (by rw [a0]),
   Zfj hT ρ w0 (ai 1) (rA 2) (gA 3) (ixB (rA 2) (ai 1)) _ (by rw [ib]) (by rw [a1]), hT.p102, k2]
  generalize ((ai 0).den T ρ).tI = v at *
  generalize ((ai 1).den T ρ).tI = y at *
  generalize ((rA 2).den T ρ).tR = R at *
  generalize ZW ((gA 3).den T ρ) = L at *
  have hl := ZbB hpre
  have hne : ZdD v R ≠ ZdD y R := fun e => r2 (by rw [<- a0, <- a1, e])
  obtain ⟨A, hA⟩ := ZtL hl (Zah r0) (Zah r1) hne
  have hq2 := hpre
  rw [hA] at hq2
  obtain ⟨s, t, d2, rfl, hs, ht⟩ := hq2
  have hw : ZJM (g0 ([v, y] :: R |>.getD 0 [])) (g1 ([v, y] :: R |>.getD 0 [])) (([v, y] :: R).drop 1) L s := by
   intro h' hd' hh'
   show Ze4 R L _
   rw [hA]
   exact ⟨s, h', hd', rfl, hs, hh'⟩
  have : Zc (Zc (ZiT R L (ZdD v R)) (ZiT R L (ZdD y R))) (ZJM (g0 ([v, y] :: R |>.getD 0 [])) (g1 ([v, y] :: R |>.getD 0 [])) (([v, y] :: R).drop 1) L) (Hl.un s t) := ⟨t, s, d2.symm, Hl.un_comm d2, ht, hw⟩
  rw [star_assoc] at this
  exact this
 ·intro x hx
  simp only [ZFl, List.mem_cons, List.not_mem_nil, or_false] at hx
  rcases hx with rfl | rfl
  ·rw [Zf]; exact gd _ r0
  ·rw [Zf]; exact gd _ r1
def whoX (p : SX) : SX := usI 540 (gA 3) (ixB (rA 2) p) z0
def Zy6 : Ctr := ⟨[.int, .int, .rows, .g], [.one (.ptr (ai 0) 0), .one (.ptr (ai 1) 0)], [txC (rA 2) (gA 3)], [usB 565 (rA 2) (ai 0) z0, usB 565 (rA 2) (ai 1) z0, .f1 2 (.f2 45 (ai 0) (ai 1))], [.int], .one (.int .i64 (ai 4)), [txC (rA 2) (gA 3)],
 [.f2 48 (eLt (ai 4) z0) (eLt (whoX (ai 0)) (whoX (ai 1)))]⟩
def ZKo : Cx := { specs := [], anns := [(29, [(1, .ghost ZFl [.tmp 0, .tmp 1]), (500001, .ghost ZDq [.tmp 0])])] }
def sF : SC := .fn 29
def isQ : List SX := [eLe z0 (ai 2), .f2 45 (ai 2) (Zg (rA 1)), eLe (ai 2) (.int 12), usB 560 (rA 1) (rA 5) z0, usB 621 (rA 1) z0 z0]
def isA : List Srt := [.int, .rows, .int, .int, .int, .rows, .g]
def isP (k : Nat) : List Ch := [pAr (ai 0) (rA k) (ai 4), txC (rA 5) (gA 6)]
def isF : List SX := [.us .bool 622 (rA 7) (rA 1) (rA 5) (gA 6)]
def ZyP : Ctr := ⟨isA, [.one (slC (ai 0) (ai 2) (ai 3) 1), .one (.int .i64 z0), .one (.int .i64 (ai 2)), .one sF], isP 1, isQ, [.rows], .tup [], isP 7, isF⟩
def isoI : Inv := ⟨[.int, .rows], [(8, .one (.int .i64 (di 0)))], [pAr (ai 0) (rA 1000001) (ai 4), txC (rA 5) (gA 6)], [eLe (.int 1) (di 0), .f2 45 (Zg (rA 1000001)) (ai 2), .us .bool 623 (Zae (ZtA (di 0)) (rA 1000001)) (rA 1) (rA 5) (gA 6)], .f2 41 (.int 13) (di 0)⟩
def isoJ : Inv := ⟨[.int, .rows], [(9, .one (.int .i64 (di 0)))], [pAr (ai 0) (rA 1000001) (ai 4), txC (rA 5) (gA 6)], [eLe z0 (di 0), eLe (di 0) (ai 7), .f2 45 (Zg (rA 1000001)) (ai 2), .us .bool 624 (Zae (Zb7 (ai 7) (di 0)) (rA 1000001)) (rA 1) (rA 5) (gA 6)], di 0⟩
def ZLl : Cx := { specs := [(29, [Zy6])], anns := [(81, [(1, .inv isoI), (4, .inv isoJ)])] }
def ZAn : Ctr := ⟨isA ++ [.int], [.one (slC (ai 0) (ai 2) (ai 3) 1), .one (.int .i64 z0), .one (.int .i64 (ai 2)), .one (.int .i64 (ai 7)), .one sF], isP 1, isQ, [.rows], .tup [], isP 8, [.us .bool 622 (rA 8) (rA 1) (rA 5) (gA 6)]⟩
def ZKd : Cx := { specs := [(81, [ZyP])], anns := [] }
def ZyI : Ctr := ⟨isA, [.one (slC (ai 0) (ai 2) (ai 3) 1), .one sF], isP 1, isQ, [.rows], .tup [], isP 7, isF⟩
def ZMg : Cx := { specs := [(63, [ZAn])], anns := [] }
theorem ZI5 {α : Type} (A D : List α) (y d : α) : (A ++ y :: D).getD A.length d = y := by
 induction A with
 | nil => rfl
 | cons a A ih => exact ih
theorem ZHt {α : Type} (A D : List α) (y x d : α) : (A ++ y :: x :: D).getD (A.length + 1) d = x := by
 induction A with
 | nil => rfl
 | cons a A ih => exact ih
theorem ZG2 {α : Type} (A D : List α) (y z : α) : (A ++ y :: D).set A.length z = A ++ z :: D := by
 induction A with
 | nil => rfl
 | cons a A ih => simp only [List.cons_append, ZOd, List.set_cons_succ, ih]
theorem ZJC {α : Type} (A D : List α) (y x z : α) : (A ++ y :: x :: D).set (A.length + 1) z = A ++ y :: z :: D := by
 induction A with
 | nil => rfl
 | cons a A ih => simp only [List.cons_append, ZOd, List.set_cons_succ, ih]
theorem ZDo {P RT : List (List Int)} {L : List Tx} : ZJI ([1] :: P) P RT L := ⟨List.Perm.refl _, by
 show (P.take 1).Pairwise _
 cases P with
 | nil => simp
 | cons a P => simp⟩
theorem ZJc {i : Int} {Q P RT : List (List Int)} {L : List Tx} (h : ZJI ([i] :: Q) P RT L) (i0 : 1 <= i) (i1 : i < Q.length) : ZJT ([i, i] :: Q) P RT L := by
 obtain ⟨h1, h2⟩ := h
 obtain ⟨n, rfl⟩ := ZNL (show 0 <= i by omega)
 have hn : n < Q.length := by omega
 refine ⟨h1, Q.take n, [], Q.drop (n + 1), Q[n], ?_, ?_, ?_, ?_, fun b hb => nomatch hb⟩
 ·show Q = _
  rw [ZOh, List.cons_append, List.nil_append, <- List.drop_eq_getElem_cons hn, List.take_append_drop]
 ·show ((Q.take n).length : Int) = (n : Int)
  rw [ZNV]; omega
 ·show ((Q.take n).length : Int) + 0 = (n : Int)
  rw [ZNV]; omega
 ·rw [List.append_nil]
  have : ((g0 (([(n : Int)] :: Q).getD 0 [])).toNat) = n := by show ((n : Int)).toNat = n; omega
  rw [this] at h2; exact h2
theorem ZEk {i j : Int} {Q P RT : List (List Int)} {L : List Tx} (h : ZJT ([i, j] :: Q) P RT L) (hj : 0 < j) (hv : ∀ r ∈ P, ∃ b, r = [b] /\ Zq0 RT b) (hn : ndP P) :
  Zq0 RT (g0 (Q.getD j.toNat [])) /\ Zq0 RT (g0 (Q.getD (j + -1).toNat [])) /\ ¬ g0 (Q.getD j.toNat []) = g0 (Q.getD (j + -1).toNat []) ∧
  (ZCF RT L (Q.getD j.toNat []) < ZCF RT L (Q.getD (j + -1).toNat []) -> ZJT ([i, j + -1] :: (Q.set j.toNat [g0 (Q.getD (j + -1).toNat [])]).set (j + -1).toNat [g0 (Q.getD j.toNat [])]) P RT L) ∧
  (¬ ZCF RT L (Q.getD j.toNat []) < ZCF RT L (Q.getD (j + -1).toNat []) -> ZJI ([i + 1] :: Q) P RT L) := by
 obtain ⟨h1, A, B, C, x, h2, h3, h4, h5, h6⟩ := h
 have h1 : Q.Perm P := h1
 have h2 : Q = A ++ x :: B ++ C := h2
 have h3 : (A.length : Int) = j := h3
 have h4 : (A.length : Int) + B.length = i := h4
 obtain ⟨A', y, rfl⟩ : ∃ A' y, A = A' ++ [y] := by
  rcases List.eq_nil_or_concat A with rfl | ⟨A', y, e⟩
  ·simp at h3; omega
  ·exact ⟨A', y, by rw [e, List.concat_eq_append]⟩
 rw [ZNY, ZNH] at h3 h4
 have e1 : j.toNat = A'.length + 1 := by omega
 have e2 : (j + -1).toNat = A'.length := by omega
 have hQ : Q = A' ++ y :: x :: (B ++ C) := by rw [h2]; simp
 have gx : Q.getD j.toNat [] = x := by rw [e1, hQ, ZHt]
 have gy : Q.getD (j + -1).toNat [] = y := by rw [e2, hQ, ZI5]
 have hx : x ∈ Q := by rw [hQ]; simp
 have hy : y ∈ Q := by rw [hQ]; simp
 obtain ⟨bx, ex, hbx⟩ := hv x (h1.mem_iff.1 hx)
 obtain ⟨by', ey, hby⟩ := hv y (h1.mem_iff.1 hy)
 have sx : [g0 x] = x := by rw [ex]; rfl
 have sy : [g0 y] = y := by rw [ey]; rfl
 have hnq : (Q.map g0).Nodup := (h1.map g0).nodup_iff.2 hn
 rw [gx, gy]
 refine ⟨by rw [ex]; exact hbx, by rw [ey]; exact hby, fun e => ?_, fun hlt => ?_, fun hge => ?_⟩
 ·rw [hQ, ZN9, ZN2, ZN2, List.nodup_append] at hnq
  have := (List.nodup_cons.1 hnq.2.1).1
  exact this (by rw [<- e]; exact ZN1)
 ·rw [sx, sy, e1, e2, hQ, ZJC, ZG2]
  refine ⟨?_, A', y :: B, C, x, by simp, by show (A'.length : Int) = j + -1; omega, by show (A'.length : Int) + ((y :: B).length : Nat) = i; rw [ZOd]; omega, ?_, ?_⟩
  ·show (A' ++ x :: y :: (B ++ C)).Perm P
   rw [hQ] at h1
   exact ((List.Perm.swap _ _ _).append_left _).trans h1
  ·have : A' ++ [y] ++ B = A' ++ y :: B := by simp
   rw [this] at h5; exact h5
  ·intro b hb
   rcases List.mem_cons.1 hb with rfl | hb
   ·exact Int.le_of_lt hlt
   ·exact h6 b hb
 ·refine ⟨h1, ?_⟩
  have e3 : (g0 (([i + 1] :: Q).getD 0 [])).toNat = (A' ++ [y] ++ x :: B).length := by
   show (i + 1).toNat = _
   simp only [ZNY, ZOd, List.length_nil]; omega
  rw [e3]
  show ZFf RT L (Q.take _)
  rw [h2, List.take_left']
  ·have h5' := List.pairwise_append.1 h5
   refine List.pairwise_append.2 ⟨h5'.1, List.pairwise_cons.2 ⟨fun b hb => h6 b hb, h5'.2.1⟩, fun a ha b hb => ?_⟩
   have hyx : leW RT L y x := by unfold leW; omega
   have hay : leW RT L a y := by
    rcases List.mem_append.1 ha with ha | ha
    ·exact (List.pairwise_append.1 h5'.1).2.2 a ha y (by simp)
    ·rw [ZNM] at ha; subst ha; exact ZN4 _
   rcases List.mem_cons.1 hb with rfl | hb
   ·exact Int.le_trans hay hyx
   ·exact h5'.2.2 a ha b hb
  ·rfl
theorem ZCd {i j : Int} {Q P RT : List (List Int)} {L : List Tx} (h : ZJT ([i, j] :: Q) P RT L) (hj : j <= 0) (h0 : 0 <= j) : ZJI ([i + 1] :: Q) P RT L := by
 obtain ⟨h1, A, B, C, x, h2, h3, h4, h5, h6⟩ := h
 have h3 : (A.length : Int) = j := h3
 have h4 : (A.length : Int) + B.length = i := h4
 have hA : A = [] := ZN8 (by omega)
 subst hA
 refine ⟨h1, ?_⟩
 have h2 : Q = x :: B ++ C := h2
 have e3 : (g0 (([i + 1] :: Q).getD 0 [])).toNat = (x :: B).length := by
  show (i + 1).toNat = _
  rw [ZOd]; simp at h4; omega
 rw [e3]
 show ZFf RT L (Q.take _)
 rw [h2, List.take_left' rfl]
 exact List.pairwise_cons.2 ⟨fun b hb => h6 b hb, h5⟩
theorem ZEl {x : Int} (h0 : 0 <= x) (h1 : x <= 12) : IntKind.u64.wrap x = x := Zbh (by simp [IntKind.min, IntKind.max, IntKind.bits, IntKind.signed]; omega)
theorem ZwP {x : Int} (h0 : 0 <= x) (h1 : x <= 12) : IntKind.u8.wrap x = x := Zbh (by simp [IntKind.min, IntKind.max, IntKind.bits, IntKind.signed]; omega)
def ZwT : SX := d 540 (g 3) (d 566 (r 2) (a 0))
def ZAv : SX := d 540 (g 3) (d 566 (r 2) (a 1))
def ZDH : SX := t ZwT ZAv
def ZHV : SX := .f2 48 (.bool false) ZDH
def ZLS : VC := i (c 565 (r 2) (a 0)) (i (c 565 (r 2) (a 1)) (i (.f1 2 (e (a 0) (a 1))) (i (l z (a 0)) (i (l z (a 1)) (.and (i ZDH (n (.f2 48 (.bool true) ZDH) .tt)) (i (l ZAv ZwT) (.and (i (t ZAv ZwT) (n ZHV .tt)) (i (l ZwT ZAv) (n ZHV .tt)))))))))
theorem ZLR : Zcl Try.prog ZKo 12 29 Zy6 = ZLS := by kernel_rfl
def ZGF : SX := .f2 122 (a 7) (.f1 152 z)
def ZiZ : SX := .f2 40 (a 9) (k (-1))
def ZyJ : SX := .f3 112 (r 10) (a 9) z
def ZBr : SX := .f3 112 (r 10) ZiZ z
def ZHk : SX := t (a 11) z
def Zyb : SX := .f2 40 (a 7) (k 1)
def ZIb : SX := .f1 23 Zyb
def ZGK : SX := .f2 41 (k 13) Zyb
def ZHR : SX := l z ZGK
def ZI4 : SX := t ZGK (.f2 41 (k 13) (a 7))
def ZCm : SX := l (k 1) Zyb
def ZAR : SX := .us .bool 623 (.f2 124 (.f2 122 Zyb (.f1 152 z)) (r 10)) (r 1) (r 5) (g 6)
def ZK7 : VC := i (l z (a 2)) (i (e (a 2) (.f1 32 (r 1))) (i (l (a 2) (k 12)) (i (c 560 (r 1) (r 5)) (i (p 621 (r 1)) (n (e (.f1 32 (r 1)) (a 2)) (n (.us .bool 623 (.f2 124 (.f2 122 (k 1) (.f1 152 z)) (r 1)) (r 1) (r 5) (g 6)) (u 7 .int (u 8 .rows (i (l (k 1) (a 7)) (i (e (.f1 32 (r 8)) (a 2)) (i (.us .bool 623 (.f2 124 ZGF (r 8)) (r 1) (r 5) (g 6)) (.and (i (t (a 7) (a 2)) (n (l z (a 7)) (n (l (a 7) (a 7)) (n (.us .bool 624 (.f2 124 (.f2 122 (a 7) ZGF) (r 8)) (r 1) (r 5) (g 6)) (u 9 .int (u 10 .rows (i (l z (a 9)) (i (l (a 9) (a 7)) (i (e (.f1 32 (r 10)) (a 2)) (i (.us .bool 624 (.f2 124 (.f2 122 (a 7) (.f2 122 (a 9) (.f1 152 z))) (r 10)) (r 1) (r 5) (g 6)) (.and (i (t z (a 9)) (n (t (a 9) (a 2)) (n (t (a 9) (.f1 32 (r 10))) (n (.f1 23 ZiZ) (n (l z ZiZ) (n (t ZiZ (a 2)) (n (t ZiZ (.f1 32 (r 10))) (n (c 565 (r 5) ZyJ) (n (c 565 (r 5) ZBr) (n (.f1 2 (e ZyJ ZBr)) (u 11 .int (i (.f2 48 ZHk (t (d 540 (g 6) (d 566 (r 5) ZyJ)) (d 540 (g 6) (d 566 (r 5) ZBr)))) (.and (i ZHk (n (t ZiZ (a 9)) (n (l ZiZ (a 7)) (n (.us .bool 624 (.f2 124 (.f2 122 (a 7) (.f2 122 ZiZ (.f1 152 z))) (.f3 132 (.f3 132 (r 10) (a 9) (.f2 122 ZBr (.f1 152 z))) ZiZ (.f2 122 ZyJ (.f1 152 z)))) (r 1) (r 5) (g 6)) .tt)))) (i (l z (a 11)) (n ZIb (n ZHR (n ZI4 (n ZCm (n ZAR .tt))))))))))))))))))) (i (l (a 9) z) (n ZIb (n ZHR (n ZI4 (n ZCm (n ZAR .tt))))))))))))))))) (i (l (a 2) (a 7)) (n (.us .bool 622 (r 8) (r 1) (r 5) (g 6)) .tt))))))))))))))
theorem ZMH : Zcl Try.prog ZLl 12 81 ZyP = ZK7 := by kernel_rfl
def ZGh : SX := l (a 2) (k 12)
def ZMM : VC := i (l z (a 2)) (i (e (a 2) (.f1 32 (r 1))) (i ZGh (i (c 560 (r 1) (r 5)) (i (p 621 (r 1)) (n (.f1 23 (a 2)) (.and (i ZGh (u 8 .rows (i (.us .bool 622 (r 8) (r 1) (r 5) (g 6)) .tt))) .tt))))))
theorem ZLI : Zcl Try.prog ZKd 12 63 ZAn = ZMM := by kernel_rfl
def ZlX : SX := .f2 107 (.f1 17 (a 2)) (k 32)
def Zxw : SX := .f2 107 ZlX (k 16)
def ZEf : SX := .f1 14 (.f2 107 Zxw (k 8))
def Zlg : SX := .us .bool 622 (r 7) (r 1) (r 5) (g 6)
def ZEe : SX := .f1 14 Zxw
def ZDk : SX := .f1 14 (.f2 107 ZlX (k 8))
def ZEq : SX := .f1 14 ZlX
def Zzg : SX := .f2 107 (.f1 17 (a 2)) (k 16)
def ZEB : SX := .f1 14 (.f2 107 Zzg (k 8))
def ZDC : SX := .f1 14 Zzg
def Zt6 : SX := .f1 14 (.f2 107 (.f1 17 (a 2)) (k 8))
def ZtM : SX := .f1 14 (.f1 17 (a 2))
def ZMh : VC := i (l z (a 2)) (i (e (a 2) (.f1 32 (r 1))) (i (l (a 2) (k 12)) (i (c 560 (r 1) (r 5)) (i (p 621 (r 1)) (.and (i (l k2 (.f1 17 (a 2))) (.and (i (l (k 65536) ZlX) (.and (i (l (k 256) Zxw) (n (l z ZEf) (n (t ZEf (k 256)) (n (.f1 23 (.f2 40 (.f2 111 (.byt [0, 1, 2, 2, 3, 3, 3, 3, 4, 4, 4, 4, 4, 4, 4, 4, 5, 5, 5, 5, 5, 5, 5, 5, 5, 5, 5, 5, 5, 5, 5, 5, 6, 6, 6, 6, 6, 6, 6, 6, 6, 6, 6, 6, 6, 6, 6, 6, 6, 6, 6, 6, 6, 6, 6, 6, 6, 6, 6, 6, 6, 6, 6, 6, 7, 7, 7, 7, 7, 7, 7, 7, 7, 7, 7, 7, 7, 7, 7, 7, 7, 7, 7, 7, 7, 7, 7, 7, 7, 7, 7, 7, 7, 7, 7, 7, 7, 7, 7, 7, 7, 7, 7, 7, 7, 7, 7, 7, 7, 7, 7, 7, 7, 7, 7, 7, 7, 7, 7, 7, 7, 7, 7, 7, 7, 7, 7, 7, 8, 8, 8, 8, 8, 8, 8, 8, 8, 8, 8, 8, 8, 8, 8, 8, 8, 8, 8, 8, 8, 8, 8, 8, 8, 8, 8, 8, 8, 8, 8, 8, 8, 8, 8, 8, 8, 8, 8, 8, 8, 8, 8, 8, 8, 8, 8, 8, 8, 8, 8, 8, 8, 8, 8, 8, 8, 8, 8, 8, 8, 8, 8, 8, 8, 8, 8, 8, 8, 8, 8, 8, 8, 8, 8, 8, 8, 8, 8, 8, 8, 8, 8, 8, 8, 8, 8, 8, 8, 8, 8, 8, 8, 8, 8, 8, 8, 8, 8, 8, 8, 8, 8, 8, 8, 8, 8, 8, 8, 8, 8, 8, 8, 8, 8, 8, 8, 8, 8, 8, 8, 8, 8, 8, 8, 8, 8, 8]) ZEf) (k 56))) (u 7 .rows (i Zlg .tt)))))) (i (t Zxw (k 256)) (n (l z ZEe) (n (t ZEe (k 256)) (n (.f1 23 (.f2 40 (.f2 111 (.byt [0, 1, 2, 2, 3, 3, 3, 3, 4, 4, 4, 4, 4, 4, 4, 4, 5, 5, 5, 5, 5, 5, 5, 5, 5, 5, 5, 5, 5, 5, 5, 5, 6, 6, 6, 6, 6, 6, 6, 6, 6, 6, 6, 6, 6, 6, 6, 6, 6, 6, 6, 6, 6, 6, 6, 6, 6, 6, 6, 6, 6, 6, 6, 6, 7, 7, 7, 7, 7, 7, 7, 7, 7, 7, 7, 7, 7, 7, 7, 7, 7, 7, 7, 7, 7, 7, 7, 7, 7, 7, 7, 7, 7, 7, 7, 7, 7, 7, 7, 7, 7, 7, 7, 7, 7, 7, 7, 7, 7, 7, 7, 7, 7, 7, 7, 7, 7, 7, 7, 7, 7, 7, 7, 7, 7, 7, 7, 7, 8, 8, 8, 8, 8, 8, 8, 8, 8, 8, 8, 8, 8, 8, 8, 8, 8, 8, 8, 8, 8, 8, 8, 8, 8, 8, 8, 8, 8, 8, 8, 8, 8, 8, 8, 8, 8, 8, 8, 8, 8, 8, 8, 8, 8, 8, 8, 8, 8, 8, 8, 8, 8, 8, 8, 8, 8, 8, 8, 8, 8, 8, 8, 8, 8, 8, 8, 8, 8, 8, 8, 8, 8, 8, 8, 8, 8, 8, 8, 8, 8, 8, 8, 8, 8, 8, 8, 8, 8, 8, 8, 8, 8, 8, 8, 8, 8, 8, 8, 8, 8, 8, 8, 8, 8, 8, 8, 8, 8, 8, 8, 8, 8, 8, 8, 8, 8, 8, 8, 8, 8, 8, 8, 8, 8, 8, 8, 8]) ZEe) (k 48))) (u 7 .rows (i Zlg .tt)))))))) (i (t ZlX (k 65536)) (.and (i (l (k 256) ZlX) (n (l z ZDk) (n (t ZDk (k 256)) (n (.f1 23 (.f2 40 (.f2 111 (.byt [0, 1, 2, 2, 3, 3, 3, 3, 4, 4, 4, 4, 4, 4, 4, 4, 5, 5, 5, 5, 5, 5, 5, 5, 5, 5, 5, 5, 5, 5, 5, 5, 6, 6, 6, 6, 6, 6, 6, 6, 6, 6, 6, 6, 6, 6, 6, 6, 6, 6, 6, 6, 6, 6, 6, 6, 6, 6, 6, 6, 6, 6, 6, 6, 7, 7, 7, 7, 7, 7, 7, 7, 7, 7, 7, 7, 7, 7, 7, 7, 7, 7, 7, 7, 7, 7, 7, 7, 7, 7, 7, 7, 7, 7, 7, 7, 7, 7, 7, 7, 7, 7, 7, 7, 7, 7, 7, 7, 7, 7, 7, 7, 7, 7, 7, 7, 7, 7, 7, 7, 7, 7, 7, 7, 7, 7, 7, 7, 8, 8, 8, 8, 8, 8, 8, 8, 8, 8, 8, 8, 8, 8, 8, 8, 8, 8, 8, 8, 8, 8, 8, 8, 8, 8, 8, 8, 8, 8, 8, 8, 8, 8, 8, 8, 8, 8, 8, 8, 8, 8, 8, 8, 8, 8, 8, 8, 8, 8, 8, 8, 8, 8, 8, 8, 8, 8, 8, 8, 8, 8, 8, 8, 8, 8, 8, 8, 8, 8, 8, 8, 8, 8, 8, 8, 8, 8, 8, 8, 8, 8, 8, 8, 8, 8, 8, 8, 8, 8, 8, 8, 8, 8, 8, 8, 8, 8, 8, 8, 8, 8, 8, 8, 8, 8, 8, 8, 8, 8, 8, 8, 8, 8, 8, 8, 8, 8, 8, 8, 8, 8, 8, 8, 8, 8, 8, 8]) ZDk) (k 40))) (u 7 .rows (i Zlg .tt)))))) (i (t ZlX (k 256)) (n (l z ZEq) (n (t ZEq (k 256)) (n (.f1 23 (.f2 40 (.f2 111 (.byt [0, 1, 2, 2, 3, 3, 3, 3, 4, 4, 4, 4, 4, 4, 4, 4, 5, 5, 5, 5, 5, 5, 5, 5, 5, 5, 5, 5, 5, 5, 5, 5, 6, 6, 6, 6, 6, 6, 6, 6, 6, 6, 6, 6, 6, 6, 6, 6, 6, 6, 6, 6, 6, 6, 6, 6, 6, 6, 6, 6, 6, 6, 6, 6, 7, 7, 7, 7, 7, 7, 7, 7, 7, 7, 7, 7, 7, 7, 7, 7, 7, 7, 7, 7, 7, 7, 7, 7, 7, 7, 7, 7, 7, 7, 7, 7, 7, 7, 7, 7, 7, 7, 7, 7, 7, 7, 7, 7, 7, 7, 7, 7, 7, 7, 7, 7, 7, 7, 7, 7, 7, 7, 7, 7, 7, 7, 7, 7, 8, 8, 8, 8, 8, 8, 8, 8, 8, 8, 8, 8, 8, 8, 8, 8, 8, 8, 8, 8, 8, 8, 8, 8, 8, 8, 8, 8, 8, 8, 8, 8, 8, 8, 8, 8, 8, 8, 8, 8, 8, 8, 8, 8, 8, 8, 8, 8, 8, 8, 8, 8, 8, 8, 8, 8, 8, 8, 8, 8, 8, 8, 8, 8, 8, 8, 8, 8, 8, 8, 8, 8, 8, 8, 8, 8, 8, 8, 8, 8, 8, 8, 8, 8, 8, 8, 8, 8, 8, 8, 8, 8, 8, 8, 8, 8, 8, 8, 8, 8, 8, 8, 8, 8, 8, 8, 8, 8, 8, 8, 8, 8, 8, 8, 8, 8, 8, 8, 8, 8, 8, 8, 8, 8, 8, 8, 8, 8]) ZEq) (k 32))) (u 7 .rows (i Zlg .tt)))))))))) (i (t (.f1 17 (a 2)) k2) (.and (i (l (k 65536) (.f1 17 (a 2))) (.and (i (l (k 256) Zzg) (n (l z ZEB) (n (t ZEB (k 256)) (n (.f1 23 (.f2 40 (.f2 111 (.byt [0, 1, 2, 2, 3, 3, 3, 3, 4, 4, 4, 4, 4, 4, 4, 4, 5, 5, 5, 5, 5, 5, 5, 5, 5, 5, 5, 5, 5, 5, 5, 5, 6, 6, 6, 6, 6, 6, 6, 6, 6, 6, 6, 6, 6, 6, 6, 6, 6, 6, 6, 6, 6, 6, 6, 6, 6, 6, 6, 6, 6, 6, 6, 6, 7, 7, 7, 7, 7, 7, 7, 7, 7, 7, 7, 7, 7, 7, 7, 7, 7, 7, 7, 7, 7, 7, 7, 7, 7, 7, 7, 7, 7, 7, 7, 7, 7, 7, 7, 7, 7, 7, 7, 7, 7, 7, 7, 7, 7, 7, 7, 7, 7, 7, 7, 7, 7, 7, 7, 7, 7, 7, 7, 7, 7, 7, 7, 7, 8, 8, 8, 8, 8, 8, 8, 8, 8, 8, 8, 8, 8, 8, 8, 8, 8, 8, 8, 8, 8, 8, 8, 8, 8, 8, 8, 8, 8, 8, 8, 8, 8, 8, 8, 8, 8, 8, 8, 8, 8, 8, 8, 8, 8, 8, 8, 8, 8, 8, 8, 8, 8, 8, 8, 8, 8, 8, 8, 8, 8, 8, 8, 8, 8, 8, 8, 8, 8, 8, 8, 8, 8, 8, 8, 8, 8, 8, 8, 8, 8, 8, 8, 8, 8, 8, 8, 8, 8, 8, 8, 8, 8, 8, 8, 8, 8, 8, 8, 8, 8, 8, 8, 8, 8, 8, 8, 8, 8, 8, 8, 8, 8, 8, 8, 8, 8, 8, 8, 8, 8, 8, 8, 8, 8, 8, 8, 8]) ZEB) (k 24))) (u 7 .rows (i Zlg .tt)))))) (i (t Zzg (k 256)) (n (l z ZDC) (n (t ZDC (k 256)) (n (.f1 23 (.f2 40 (.f2 111 (.byt [0, 1, 2, 2, 3, 3, 3, 3, 4, 4, 4, 4, 4, 4, 4, 4, 5, 5, 5, 5, 5, 5, 5, 5, 5, 5, 5, 5, 5, 5, 5, 5, 6, 6, 6, 6, 6, 6, 6, 6, 6, 6, 6, 6, 6, 6, 6, 6, 6, 6, 6, 6, 6, 6, 6, 6, 6, 6, 6, 6, 6, 6, 6, 6, 7, 7, 7, 7, 7, 7, 7, 7, 7, 7, 7, 7, 7, 7, 7, 7, 7, 7, 7, 7, 7, 7, 7, 7, 7, 7, 7, 7, 7, 7, 7, 7, 7, 7, 7, 7, 7, 7, 7, 7, 7, 7, 7, 7, 7, 7, 7, 7, 7, 7, 7, 7, 7, 7, 7, 7, 7, 7, 7, 7, 7, 7, 7, 7, 8, 8, 8, 8, 8, 8, 8, 8, 8, 8, 8, 8, 8, 8, 8, 8, 8, 8, 8, 8, 8, 8, 8, 8, 8, 8, 8, 8, 8, 8, 8, 8, 8, 8, 8, 8, 8, 8, 8, 8, 8, 8, 8, 8, 8, 8, 8, 8, 8, 8, 8, 8, 8, 8, 8, 8, 8, 8, 8, 8, 8, 8, 8, 8, 8, 8, 8, 8, 8, 8, 8, 8, 8, 8, 8, 8, 8, 8, 8, 8, 8, 8, 8, 8, 8, 8, 8, 8, 8, 8, 8, 8, 8, 8, 8, 8, 8, 8, 8, 8, 8, 8, 8, 8, 8, 8, 8, 8, 8, 8, 8, 8, 8, 8, 8, 8, 8, 8, 8, 8, 8, 8, 8, 8, 8, 8, 8, 8]) ZDC) (k 16))) (u 7 .rows (i Zlg .tt)))))))) (i (t (.f1 17 (a 2)) (k 65536)) (.and (i (l (k 256) (.f1 17 (a 2))) (n (l z Zt6) (n (t Zt6 (k 256)) (n (.f1 23 (.f2 40 (.f2 111 (.byt [0, 1, 2, 2, 3, 3, 3, 3, 4, 4, 4, 4, 4, 4, 4, 4, 5, 5, 5, 5, 5, 5, 5, 5, 5, 5, 5, 5, 5, 5, 5, 5, 6, 6, 6, 6, 6, 6, 6, 6, 6, 6, 6, 6, 6, 6, 6,
 6, 6, 6, 6, 6, 6, 6, 6, 6, 6, 6, 6, 6, 6, 6, 6, 6, 7, 7, 7, 7, 7, 7, 7, 7, 7, 7, 7, 7, 7, 7, 7, 7, 7, 7, 7, 7, 7, 7, 7, 7, 7, 7, 7, 7, 7, 7, 7, 7, 7, 7, 7, 7, 7, 7, 7, 7, 7, 7, 7, 7, 7, 7, 7, 7, 7, 7, 7, 7, 7, 7, 7, 7, 7, 7, 7, 7, 7, 7, 7, 7, 8, 8, 8, 8, 8, 8, 8, 8, 8, 8, 8, 8, 8, 8, 8, 8, 8, 8, 8, 8, 8, 8, 8, 8, 8, 8, 8, 8, 8, 8, 8, 8, 8, 8, 8, 8, 8, 8, 8, 8, 8, 8, 8, 8, 8, 8, 8, 8, 8, 8, 8, 8, 8, 8, 8, 8, 8, 8, 8, 8, 8, 8, 8, 8, 8, 8, 8, 8, 8, 8, 8, 8, 8, 8, 8, 8, 8, 8, 8, 8, 8, 8, 8, 8, 8, 8, 8, 8, 8, 8, 8, 8, 8, 8, 8, 8, 8, 8, 8, 8, 8, 8, 8, 8, 8, 8, 8, 8, 8, 8, 8, 8, 8, 8, 8, 8, 8, 8, 8, 8, 8, 8, 8, 8, 8, 8, 8, 8]) Zt6) (k 8))) (u 7 .rows (i Zlg .tt)))))) (i (t (.f1 17 (a 2)) (k 256)) (n (l z ZtM) (n (t ZtM (k 256)) (n (.f1 23 (.f2 111 (.byt [0, 1, 2, 2, 3, 3, 3, 3, 4, 4, 4, 4, 4, 4, 4, 4, 5, 5, 5, 5, 5, 5, 5, 5, 5, 5, 5, 5, 5, 5, 5, 5, 6, 6, 6, 6, 6, 6, 6, 6, 6, 6, 6, 6, 6, 6, 6, 6, 6, 6, 6, 6, 6, 6, 6, 6, 6, 6, 6, 6, 6, 6, 6, 6, 7, 7, 7, 7, 7, 7, 7, 7, 7, 7, 7, 7, 7, 7, 7, 7, 7, 7, 7, 7, 7, 7, 7, 7, 7, 7, 7, 7, 7, 7, 7, 7, 7, 7, 7, 7, 7, 7, 7, 7, 7, 7, 7, 7, 7, 7, 7, 7, 7, 7, 7, 7, 7, 7, 7, 7, 7, 7, 7, 7, 7, 7, 7, 7, 8, 8, 8, 8, 8, 8, 8, 8, 8, 8, 8, 8, 8, 8, 8, 8, 8, 8, 8, 8, 8, 8, 8, 8, 8, 8, 8, 8, 8, 8, 8, 8, 8, 8, 8, 8, 8, 8, 8, 8, 8, 8, 8, 8, 8, 8, 8, 8, 8, 8, 8, 8, 8, 8, 8, 8, 8, 8, 8, 8, 8, 8, 8, 8, 8, 8, 8, 8, 8, 8, 8, 8, 8, 8, 8, 8, 8, 8, 8, 8, 8, 8, 8, 8, 8, 8, 8, 8, 8, 8, 8, 8, 8, 8, 8, 8, 8, 8, 8, 8, 8, 8, 8, 8, 8, 8, 8, 8, 8, 8, 8, 8, 8, 8, 8, 8, 8, 8, 8, 8, 8, 8, 8, 8, 8, 8, 8, 8]) ZtM)) (u 7 .rows (i Zlg .tt)))))))))))))))
theorem ZMV : Zcl Try.prog ZMg 12 43 ZyI = ZMh := by kernel_rfl
theorem ZMj (S : Sig GG) (hS : OdSig S) : ZR S Try.prog 29 Zy6 := by
 refine Zo S (C := ZKo) (fuel := 12) (YV trivial ⟨⟨⟨by decide, ZK4 S hS.fi.js.jt⟩, ⟨by decide, ZtF S hS.fi.js.jt⟩, trivial⟩, trivial⟩ trivial) fun ρ => ?_
 rw [ZLR]
 simp only [ZLS, ZwT, ZAv, ZDH, ZHV, hS.fi.js.jt.u540, hS.fi.js.jt.u565, hS.fi.js.jt.u566, ZY, ZN0, VC.den, SX.den, Env.upd, ZaN, Yr, beq_iff_eq, ZNS, beq_eq_false_iff_ne, ne_eq, ZNR, ZNQ, Int.reduceToNat, Nat.reduceEqDiff, reduceIte, sB, sC]
 intro h1 h2 h3 h4 h5
 refine ⟨fun h => ⟨?_, trivial⟩, fun h => ⟨fun h' => ⟨?_, trivial⟩, fun h' => ⟨?_, trivial⟩⟩⟩
 ·unfold ltB; simp; omega
 ·unfold ltB; simp; omega
 ·unfold ltB; simp; omega
theorem ZKa (S : Sig GG) (hS : OdSig S) : ZR S Try.prog 81 ZyP := by
 refine Zo S (C := ZLl) (fuel := 12) (YV ⟨Zm (by decide) (ZMj S hS), trivial⟩ ⟨⟨trivial, trivial, trivial⟩, trivial⟩ trivial) fun ρ => ?_
 rw [ZMH]
 simp only [ZK7, ZGF, ZiZ, ZyJ, ZBr, ZHk, Zyb, ZIb, ZGK, ZHR, ZI4, ZCm, ZAR, hS.fi.js.jt.u540, hS.fi.js.jt.u560, hS.fi.js.jt.u565, hS.fi.js.jt.u566, hS.u621, hS.u622, hS.u623, hS.u624, ZY, ZN0, VC.den, SX.den, Env.upd, ZaN, Yr, beq_iff_eq, ZNS, beq_eq_false_iff_ne, ne_eq, ZNR, ZNQ, Int.reduceToNat, Nat.reduceEqDiff, reduceIte, sB, sC]
 generalize (ρ 1).tR = P
 generalize (ρ 5).tR = RT
 generalize ZW (U.co S Srt.g (ρ 6)) = L
 generalize (ρ 2).tI = n
 intro h0 h1 h2 hv hn
 subst h1
 refine ⟨rfl, ZDo, fun i Q i0 hl g1 => ⟨fun hi => ⟨by omega, ZN4 _, ZJc g1 i0 (by omega), fun j Q2 j0 j1 hl2 g2 => ⟨fun hj => ?_, fun hj => ?_⟩⟩, fun hi => ⟨?_, trivial⟩⟩⟩
 ·obtain ⟨t1, t2, t3, t4, t5⟩ := ZEk g2 hj hv hn
  refine ⟨by omega, by omega, ⟨by omega, by omega⟩, by omega, by omega, by omega, t1, t2, t3, fun r hr => ⟨fun hneg => ⟨by omega, by omega, t4 ?_, trivial⟩, fun hpos => ⟨⟨by omega, by omega⟩, by omega, by omega, by omega, t5 ?_, trivial⟩⟩⟩
  ·have : ltB r 0 = true := by unfold ltB; simp; omega
   rw [this] at hr
   have := Zoy.mp hr.symm
   exact this
  ·intro hlt
   have : ltB r 0 = false := by unfold ltB; simp; omega
   rw [this] at hr
   have hf : ltB (ZCF RT L (Q2.getD j.toNat [])) (ZCF RT L (Q2.getD (j + -1).toNat [])) = false := hr.symm
   have ht : ltB (ZCF RT L (Q2.getD j.toNat [])) (ZCF RT L (Q2.getD (j + -1).toNat [])) = true := Zoy.mpr hlt
   rw [ht] at hf; cases hf
 ·exact ⟨⟨by omega, by omega⟩, by omega, by omega, by omega, ZCd g2 hj j0, trivial⟩
 ·obtain ⟨q1, q2⟩ := g1
  refine ⟨q1, ?_⟩
  have q2 : ZFf RT L (Q.take i.toNat) := q2
  rw [ZN5 (by omega)] at q2
  exact q2
theorem ZMi (S : Sig GG) (hS : OdSig S) : ZR S Try.prog 63 ZAn := by
 refine Zo S (C := ZKd) (fuel := 12) (YV ⟨Zm (by decide) (ZKa S hS), trivial⟩ trivial trivial) fun ρ => ?_
 rw [ZLI]
 simp only [ZMM, ZGh, hS.fi.js.jt.u560, hS.u621, hS.u622, ZY, ZN0, VC.den, SX.den, Env.upd, ZaN, Yr, beq_iff_eq, ZNS, beq_eq_false_iff_ne, ne_eq, ZNR, ZNQ, Int.reduceToNat, Nat.reduceEqDiff, reduceIte, sB, sC]
 intro h0 h1 h2 hv hn
 exact ⟨⟨by omega, by omega⟩, fun _ _ _ => trivial, trivial⟩
theorem ZL0 (S : Sig GG) (hS : OdSig S) : ZR S Try.prog 43 ZyI := by
 refine Zo S (C := ZMg) (fuel := 12) (YV ⟨Zm (by decide) (ZMi S hS), trivial⟩ trivial trivial) fun ρ => ?_
 rw [ZMV]
 simp only [ZMh, ZlX, Zxw, ZEf, Zlg, ZEe, ZDk, ZEq, Zzg, ZEB, ZDC, Zt6, ZtM, hS.fi.js.jt.u560, hS.u621, hS.u622, ZY, ZN0, VC.den, SX.den, Env.upd, ZaN, Yr, beq_iff_eq, ZNS, beq_eq_false_iff_ne, ne_eq, ZNR, ZNQ, Int.reduceToNat, Nat.reduceEqDiff, reduceIte, sB, sC]
 generalize (ρ 2).tI = n
 intro h0 h1 h2 hv hn
 have e17 : (ap1 17 (U.int n : U GG)) = .int n := by show U.int (IntKind.u64.wrap n) = _; rw [ZEl h0 h2]
 have e14 : (ap1 14 (U.int n : U GG)) = .int n := by show U.int (IntKind.u8.wrap n) = _; rw [ZwP h0 h2]
 simp only [e17, e14, U.tIi]
 refine ⟨fun h => absurd h (by omega), fun _ => ⟨fun h => absurd h (by omega), fun _ => ⟨fun h => absurd h (by omega), fun _ => ⟨by omega, by omega, ⟨by omega, ?_⟩, fun _ _ => trivial⟩⟩⟩⟩
 exact Int.le_trans (Int.ofNat_le.2 (Nat.le_of_lt (UInt8.toNat_lt _))) (by decide)
def Zaq (RT : List (List Int)) (L : List Tx) (b : Int) : Tx := atT L (ZdD b RT : Nat)
def okU (RT : List (List Int)) (L : List Tx) (t : Int) (u : List Int) : Prop := g0 u ≠ t -> ¬ (Zaq RT L (g0 u)).com < (Zaq RT L t).beg
def ZKh (k RT : List (List Int)) (M : List (Int × Int)) (L : List Tx) : Prop :=
 (∀ u ∈ k.drop 1, okU RT L (g0 (k.getD 0 [])) u) /\ (Zaq RT L (g0 (k.getD 0 []))).bad = [] /\ ∀ r ∈ (Zaq RT L (g0 (k.getD 0 []))).rds, Yc M (r.drop 1) = true
structure OfSig (S : Sig GG) : Prop where
 od : OdSig S
 u630 : ∀ a b c d, S.usr 630 a b c d = .bool (Zp (∀ j : Nat, (j : Int) < c.tI -> Yc b.tM ((a.tR.getD j []).drop 1) = true))
 u631 : ∀ a b c d, S.usr 631 a b c d = .bool (Zp (ZKh a.tR b.tR c.tM (ZW d)))
 u633 : ∀ a b c d, S.usr 633 a b c d = .bool (Zp (∀ t ∈ ZW a, t.rds.length <= 1000000))
 u632 : ∀ a b c d, S.usr 632 a b c d = .bool (Zp (∀ j : Nat, (j : Int) < d.tI -> okU b.tR (ZW c) (g0 (a.tR.getD 0 [])) ((a.tR.drop 1).getD j [])))
def Zy7 : Ctr := ⟨[.int, .int, .rows, .int, .int, .rows, .g], [.one (.cap (.fn 44) (.ptr (ai 0) 0)), .one sF], [.cel (ai 0) 0 [slC (ai 1) (Zg (rA 2)) (ai 3) 1], pAr (ai 1) (rA 2) (ai 4), txC (rA 5) (gA 6)],
 [usB 620 (rA 2) z0 z0, eLe (Zg (rA 2)) (.int 12), usB 560 (rA 2) (rA 5) z0, usB 621 (rA 2) z0 z0], [.int, .int, .rows], .one (slC (ai 7) (Zg (rA 2)) (ai 8) 1), [pAr (ai 1) (rA 2) (ai 4), txC (rA 5) (gA 6), pAr (ai 7) (rA 9) (ai 8)],
 [.us .bool 622 (rA 9) (rA 2) (rA 5) (gA 6), eLe (Zg (rA 2)) (ai 8), .f2 50 (eLe z0 (ai 7)) (.f2 45 (Zg (rA 2)) z0), .f2 45 (Zg (rA 9)) (Zg (rA 2))]⟩
def ZMb : Cx := { specs := [(42, [Zei]), (43, [ZyI])], anns := [] }
def ftA : List Srt := [.int, .int, .amap, .int, .rows, .int, .int, .rows, .g]
def ftK : SX := Zae (ZtA (ai 0)) (rA 4)
def ftX : SX := .us .bool 631 ftK (rA 7) (mA 2) (gA 8)
def ZBF : Ctr := ⟨ftA, [.one (.ptr (ai 0) 0), .one (.map (ai 1)), .one (slC (ai 3) (Zg (rA 4)) (ai 5) 1)], [scC (ai 1) (mA 2), pAr (ai 3) (rA 4) (ai 6), txC (rA 7) (gA 8)],
 [usB 565 (rA 7) (ai 0) z0, usB 560 (rA 4) (rA 7) z0, eLe (Zg (rA 4)) (.int 1000), eLe (Zg (rA 4)) (ai 5), eLe z0 (ai 1), usB 633 (gA 8) z0 z0], [.bool], .one (.bool (qA 9)), [scC (ai 1) (mA 2), pAr (ai 3) (rA 4) (ai 6), txC (rA 7) (gA 8)], [.f2 48 (qA 9) ftX]⟩
def ftsI : Inv := ⟨[.int], [(11, .one (.int .i64 (di 0)))], [], [eLe z0 (di 0), eLe (di 0) (Zg (rA 4)), .us .bool 632 ftK (rA 7) (gA 8) (di 0)], .f2 41 (Zg (rA 4)) (di 0)⟩
def ftsE : SX := .f2 45 (nt (rA 4) (ai 10) 0) (ai 0)
def ftR : SX := usR 545 (gA 8) (ixB (rA 7) (ai 0)) z0
def ftsJ : Inv := ⟨[.int], [(8, .one (.int .i64 (di 0)))], [], [eLe z0 (di 0), eLe (di 0) (Zg ftR), usB 630 ftR (mA 2) (di 0)], .f2 41 (Zg ftR) (di 0)⟩
def ZKD : Cx := { specs := [(24, [ZjO])], anns := [(45, [(1, .ghost ZLx []), (2, .inv ftsI), (4, .split ftsE), (4, .iff (ZcT ftsE)), (4, .ghost ZDR [.tmp 9, .tmp 11, .tmp 0]), (500004, .iff (ZcT ftsE)), (500004, .ghost ZDq [.tmp 0]), (7, .ghost Zt2 [.tmp 0]), (500007, .ghost ZlI [.tmp 0])]), (89, [(2, .inv ftsJ)])] }
def ZLc : VC := i (p 620 (r 2)) (i (l (.f1 32 (r 2)) (k 12)) (i (c 560 (r 2) (r 5)) (i (p 621 (r 2)) (n (l (.f1 32 (r 2)) (k 1000000)) (u 7 .int (u 8 .int (i (l (.f1 32 (r 2)) (a 8)) (i (.f2 50 (l z (a 7)) (e (.f1 32 (r 2)) z)) (n (e (.f1 32 (r 2)) (.f1 32 (r 2))) (u 9 .rows (i (.us .bool 622 (r 9) (r 2) (r 5) (g 6)) (n (e (.f1 32 (r 9)) (.f1 32 (r 2))) .tt))))))))))))
theorem ZLQ : Zcl Try.prog ZMb 12 27 Zy7 = ZLc := by kernel_rfl
def ZBY : SX := .f2 124 (.f2 122 (a 0) (.f1 152 z)) (r 4)
def ZuV : SX := .f3 112 (r 4) (a 10) z
def ZG5 : SX := e ZuV (a 0)
def ZuF : SX := .f2 40 (a 10) (k 1)
def ZGp : SX := .f1 23 ZuF
def ZI2 : SX := .f2 41 (.f1 32 (r 4)) ZuF
def ZIB : SX := l z ZI2
def ZIA : SX := t ZI2 (.f2 41 (.f1 32 (r 4)) (a 10))
def ZHB : SX := l z ZuF
def ZGE : SX := l ZuF (.f1 32 (r 4))
def ZzI : SX := .us .bool 632 ZBY (r 7) (g 8) ZuF
def Zvz : SX := d 542 (g 8) (d 566 (r 7) ZuV)
def ZcK : SX := d 566 (r 7) (a 0)
def Zyr : SX := d 541 (g 8) ZcK
def Zua : SX := .us .bool 631 ZBY (r 7) (m 2) (g 8)
def ZB4 : SX := .f2 48 (.bool false) Zua
def Zw4 : SX := .f3 112 (r 7) ZcK z
def ZAx : SX := v 552 (g 8)
def Zdp : SX := wR 545 (g 8) ZcK
def ZeC : SX := .f1 32 Zdp
def ZBZ : SX := .f1 30 (wN 546 (g 8) ZcK)
def Zuk : SX := e ZBZ z
def Zui : SX := l z ZcK
def Zjv : SX := .f2 40 (a 11) (k 1)
def Zv9 : SX := .f2 41 ZeC Zjv
def ZNE : VC := i (c 565 (r 7) (a 0)) (i (c 560 (r 4) (r 7)) (i (l (.f1 32 (r 4)) (k 1000)) (i (l (.f1 32 (r 4)) (a 5)) (i (l z (a 1)) (i (p 633 (g 8)) (u 9 .int (i (l z (a 9)) (i (c 558 (r 7) (g 8)) (n (y 632 ZBY (r 7) (g 8)) (u 10 .int (i (l z (a 10)) (i (l (a 10) (.f1 32 (r 4))) (i (.us .bool 632 ZBY (r 7) (g 8) (a 10)) (.and (i (t (a 10) (.f1 32 (r 4))) (.and (i ZG5 (n (l z ZuV) (n ZGp (n ZIB (n ZIA (n ZHB (n ZGE (n ZzI .tt)))))))) (i (.f1 2 ZG5) (n (c 565 (r 7) ZuV) (n (.f1 2 (e (a 0) ZuV)) (.and (i (t Zvz Zyr) (n ZB4 .tt)) (i (l Zyr Zvz) (n ZGp (n ZIB (n ZIA (n ZHB (n ZGE (n ZzI .tt))))))))))))) (i (l (.f1 32 (r 4)) (a 10)) (i (e (a 0) Zw4) (i (t ZcK ZAx) (i (l ZeC (.f3 112 (r 7) ZcK (k 3))) (i (l ZBZ (.f3 112 (r 7) ZcK (k 5))) (i (.f2 50 (l z (.f3 112 (r 7) ZcK (k 2))) (e ZeC z)) (i (.f2 50 (l z (.f3 112 (r 7) ZcK (k 4))) Zuk) (i (l z (.f3 112 (r 7) ZcK (k 1))) (i (l z Zw4) (i (e (.f1 32 (r 7)) ZAx) (.and (i Zuk (n (c 630 Zdp (m 2)) (u 11 .int (i (l z (a 11)) (i (l (a 11) ZeC) (i (y 630 Zdp (m 2) (a 11)) (.and (i (t (a 11) ZeC) (u 12 .int (i (l z (a 12)) (u 13 .bool (i (.f2 48 (q 13) (c 530 (m 2) (.f2 122 (.f3 112 Zdp (a 11) (k 1)) (.f2 122 (.f3 112 Zdp (a 11) (k 2)) (.f2 122 (.f1 35 (.f1 36 (.f3 112 Zdp (a 11) (k 3)))) (.f2 122 (.f1 35 (.f1 36 (.f3 112 Zdp (a 11) (k 4)))) (.f2 122 (.f1 3 (.f1 2 (e (.f3 112 Zdp (a 11) (k 5)) z))) (.f2 122 (.f3 112 Zdp (a 11) (k 6)) (.f1 152 z))))))))) (.and (i (.f1 2 (q 13)) (n Zui (n (.f2 48 (t (a 11) z) Zua) .tt))) (i (.f1 2 (.f1 2 (q 13))) (n (.f1 23 Zjv) (n (l z Zv9) (n (t Zv9 (.f2 41 ZeC (a 11))) (n (l z Zjv) (n (l Zjv ZeC) (n (y 630 Zdp (m 2) Zjv) .tt))))))))))))) (i (l ZeC (a 11)) (n Zui (n (.f2 48 (.bool true) Zua) .tt)))))))))) (i (.f1 2 Zuk) (n Zui (n ZB4 .tt))))))))))))))))))))))))))))
theorem ZKY : Zcl Try.prog ZKD 12 45 ZBF = ZNE := by kernel_rfl
theorem ZKl (S : Sig GG) (hS : OfSig S) : ZR S Try.prog 27 Zy7 := by
 refine Zo S (C := ZMb) (fuel := 12) (YV ⟨Zm (by decide) (ZNo S hS.od.u620), Zm (by decide) (ZL0 S hS.od), trivial⟩ trivial trivial) fun ρ => ?_
 rw [ZLQ]
 simp only [ZLc, hS.od.fi.js.jt.u560, hS.od.u620, hS.od.u621, hS.od.u622, ZY, ZN0, VC.den, SX.den, Env.upd, ZaN, Yr, beq_iff_eq, ZNS, beq_eq_false_iff_ne, ne_eq, ZNR, ZNQ, Int.reduceToNat, Nat.reduceEqDiff, reduceIte, sB, sC]
 generalize (ρ 2).tR = P
 intro h1 h2 h3 h4
 refine ⟨by omega, fun b c _ _ => ⟨trivial, fun Q hQ => ⟨?_, trivial⟩⟩⟩
 have := hQ.1.length_eq
 omega
theorem ZMp (S : Sig GG) (hS : OfSig S) : ZR S Try.prog 45 ZBF := by
 refine Zo S (C := ZKD) (fuel := 12) (YV ⟨Zm (by decide) (Zsp S hS.od.fi.js.jt.jb), trivial⟩ ⟨⟨⟨by decide, ZEL S hS.od.fi.js.jt⟩, trivial, trivial, trivial, ⟨by decide, ZBk S hS.od.fi.js.jt⟩, trivial, ⟨by decide, ZtF S hS.od.fi.js.jt⟩, ⟨by decide, Zdq S hS.od.fi.js.jt⟩, ⟨by decide, Zdd S hS.od.fi.js.jt⟩, trivial⟩, ⟨trivial, trivial⟩, trivial⟩ trivial) fun ρ => ?_
 rw [ZKY]
 simp only [ZNE, ZBY, ZuV, ZG5, ZuF, ZGp, ZI2, ZIB, ZIA, ZHB, ZGE, ZzI, Zvz, ZcK, Zyr, Zua, ZB4, Zw4, ZAx, Zdp, ZeC, ZBZ, Zuk, Zui, Zjv, Zv9, hS.od.fi.js.jt.jb.u530, hS.od.fi.js.jt.u541, hS.od.fi.js.jt.u542, hS.od.fi.js.jt.u545, hS.od.fi.js.jt.u546, hS.od.fi.js.jt.u552, hS.od.fi.js.jt.u558, hS.od.fi.js.jt.u560, hS.od.fi.js.jt.u565, hS.od.fi.js.jt.u566, hS.u630, hS.u631, hS.u632, hS.u633, ZY, ZN0, VC.den, SX.den, Env.upd, ZaN, Yr, beq_iff_eq, ZNS, beq_eq_false_iff_ne, ne_eq, ZNR, ZNQ, Int.reduceToNat, Nat.reduceEqDiff, reduceIte, sB, sC]
 simp only [Zk3, ZgF]
 generalize (ρ 4).tR = P
 generalize (ρ 7).tR = RT
 generalize (ρ 2).tM = M
 generalize ZW (U.co S Srt.g (ρ 8)) = L
 generalize (ρ 0).tI = t
 generalize (ρ 5).tI = c5
 generalize (ρ 1).tI = mb
 intro ht hv h1 h2 h3 hrl bx hbx hpl
 have bl0 : ∀ b, Zq0 RT b -> 0 <= b := fun b hb => by
  obtain ⟨k, hk, rfl⟩ := hb
  exact hpl.2.2 _ (by rw [ZNT, ZNW hk]; exact ZOg hk)
 refine ⟨fun j hj => absurd hj (by omega), fun i i0 i1 g1 => ?_⟩
 obtain ⟨n, rfl⟩ := ZNL i0
 have en : ((n : Int) + 1).toNat = n + 1 := by omega
 have gd : ∀ (j : Nat) (hj : j < P.length), P.getD j [] = P[j] := fun j hj => by rw [ZNT, ZNW hj]; rfl
 have hb : n < P.length -> Zq0 RT (g0 (P.getD n [])) := fun hn => by
  obtain ⟨b, e, hb⟩ := hv P[n] (ZOg hn)
  rw [gd n hn, e]; exact hb
 have step : okU RT L t (P.getD n []) -> ∀ j : Nat, (j : Int) < (n : Int) + 1 -> okU RT L t (P.getD j []) := fun ho j hj => by
  rcases ZNN j n with q | q
  ·exact g1 j (by omega)
  ·have : j = n := by omega
   subst this; exact ho
 have nofit : ∀ n : Nat, n < P.length -> ¬ okU RT L t (P.getD n []) -> false = Zp (ZKh ([t] :: P) RT M L) := fun n hn h => by
  refine (ZH fun hf => h ?_).symm
  exact hf.1 (P.getD n []) (by rw [gd n hn]; exact ZOg hn)
 simp only [ZN0]
 refine ⟨fun hn => ?_, fun hn => ?_⟩
 ·have hn : n < P.length := by omega
  have hbn := hb hn
  refine ⟨fun he => ⟨bl0 _ hbn, ⟨by omega, by omega⟩, by omega, by omega, by omega, by omega, step (fun hne => absurd he hne), trivial⟩, fun hne => ⟨hbn, fun e => hne e.symm, fun hlt => ⟨?_, trivial⟩, fun hge => ⟨⟨by omega, by omega⟩, by omega, by omega, by omega, by omega, step (fun _ => ?_), trivial⟩⟩⟩
  ·exact nofit n hn fun ho => ho hne hlt
  ·unfold Zaq
   show ¬ (atT L (ZdD ((P.getD n []).getD 0 0) RT : Nat)).com < _
   omega
 ·have hall : ∀ u ∈ P, okU RT L t u := fun u hu => by
   obtain ⟨j, hj, rfl⟩ := List.getElem_of_mem hu
   rw [<- gd j hj]; exact g1 j (by omega)
  intro _ _ _ _ _ _ _ _ _
  generalize hT : atT L (ZdD t RT : Nat) = T at *
  have hT2 : Zaq RT L t = T := hT
  have hTl : T.rds.length <= 1000000 := by
   rw [<- hT]
   unfold atT
   rw [ZN0]
   rcases ZNN (ZdD t RT) L.length with q | q
   ·rw [YK q]; exact hrl _ (ZOg q)
   ·rw [ZNT, List.getElem?_eq_none q]; exact Nat.zero_le _
  have gr : ∀ (j : Nat) (hj : j < T.rds.length), T.rds.getD j [] = T.rds[j] := fun j hj => by rw [ZNT, ZNW hj]; rfl
  refine ⟨fun hb0 => ⟨fun j hj => absurd hj (by omega), fun i i0 i1 g2 => ?_⟩, fun hb0 => ⟨by omega, ?_, trivial⟩⟩
  ·obtain ⟨m, rfl⟩ := ZNL i0
   simp only [ZN0]
   refine ⟨fun hm b hbb v hv2 => ⟨fun hno => ⟨by omega, ?_, trivial⟩, fun hyes => ⟨⟨by omega, by omega⟩, by omega, by omega, by omega, by omega, fun j hj => ?_, trivial⟩⟩, fun hm => ⟨by omega, ?_, trivial⟩⟩
   ·have hv3 : Yc M ((T.rds.getD m []).drop 1) = false := by rw [<- hv2]; simpa using hno
    have : ltB (m : Int) 0 = false := by unfold ltB; simp
    rw [this]
    refine (ZH fun hf => ?_).symm
    have h := hf.2.2
    have hh := h (T.rds.getD m []) (by show _ ∈ (Zaq RT L t).rds; rw [hT2, gr m (by omega)]; exact ZOg (by omega))
    rw [hv3] at hh; cases hh
   ·have hv3 : Yc M ((T.rds.getD m []).drop 1) = true := by rw [<- hv2]; simpa using hyes
    rcases ZNN j m with q | q
    ·exact g2 j (by omega)
    ·have : j = m := by omega
     subst this; exact hv3
   ·refine (ZF ⟨hall, ?_, fun r hr => ?_⟩).symm
    ·show (Zaq RT L t).bad = []
     rw [hT2]; exact ZN8 (by omega)
    ·have hr : r ∈ (Zaq RT L t).rds := hr
     rw [hT2] at hr
     obtain ⟨j, hj, rfl⟩ := List.getElem_of_mem hr
     rw [<- gr j hj]; exact g2 j (by omega)
  ·refine (ZH fun hf => hb0 ?_).symm
   have h := hf.2.1
   have h : (Zaq RT L t).bad = [] := h
   rw [hT2] at h
   rw [h]; rfl
end
end Go.Proofs.Ytidlngnhjffepaa
