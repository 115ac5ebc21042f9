/- Part of a proof. -/
import Derived.Test.YtidlngnhjffepaaGreatPs5
import Derived.Calls
import Derived.Below
import Derived.Orders
set_option linter.unusedSimpArgs false
set_option linter.unusedVariables false
set_option maxRecDepth 20000
namespace Go.Proofs.YtidlngnhjffepaaGreat
noncomputable section
open Go.Eng
def Zh3 (w : Int) (s : Tx) (i : Int) (r : Ent) : Tx :=
 if xk r = 7 then { s with opn := false }
 else if xw r = w then (if xk r = 1 then ⟨w, i, -1, true, [], [], []⟩ else if xk r = 2 then rdT s i r else if xk r = 3 \/ xk r = 4 then { s with ch := YD s.ch (kc r) ((ZP (Zbl r) : Nat) * 2 + b01 (xk r == 4)) }
  else if xk r = 6 then { s with opn := false } else if xk r = 5 then { s with opn := false, com := i } else s)
 else s
def txN (x : List Ent) (w : Int) : Nat -> Tx
 | 0 => { tx0 with who := w, com := -1 }
 | n + 1 => Zh3 w (txN x w n) n (xa x n)
theorem Zb2 (x : List Ent) (w : Int) (n : Nat) : txN x w (n + 1) = Zh3 w (txN x w n) n (xa x n) := rfl
theorem ZhP (t : Tx) (i : Int) (x : Ent) : (rdT t i x).opn = t.opn /\ (rdT t i x).com = t.com /\ (rdT t i x).ch = t.ch /\ (rdT t i x).who = t.who /\ (rdT t i x).beg = t.beg := by
 unfold rdT
 split
 ·split
  ·exact ⟨rfl, rfl, rfl, rfl, rfl⟩
  ·exact ⟨rfl, rfl, rfl, rfl, rfl⟩
 ·exact ⟨rfl, rfl, rfl, rfl, rfl⟩
theorem ZA6 (x : List Ent) (w : Int) : ∀ n, (txN x w n).who = w
 | 0 => rfl
 | n + 1 => by
  have ih := ZA6 x w n
  rw [Zb2]
  unfold Zh3
  repeat' split
  all_goals first | exact ih | rfl | (rw [(ZhP _ _ _).2.2.2.1]; exact ih)
theorem ZtX (x : List Ent) (w : Int) : ∀ n, (txN x w n).opn = (ZbY x w n).1
 | 0 => rfl
 | n + 1 => by
  have ih := ZtX x w n
  rw [Zb2, Zdc]
  unfold Zh3
  by_cases h7 : xk (xa x n) = 7
  ·rw [if_pos h7, if_neg (by omega), if_neg (by omega)]
   by_cases ho : (ZbY x w n).1 = true
   ·rw [if_pos ⟨h7, ho⟩]
   ·rw [if_neg (fun h => ho h.2)]; simpa using ho
  ·rw [if_neg h7, if_neg (fun h : xk (xa x n) = 7 /\ _ => h7 h.1)]
   by_cases hw : xw (xa x n) = w
   ·rw [if_pos hw]
    by_cases h1 : xk (xa x n) = 1
    ·rw [if_pos h1, if_pos ⟨h1, hw⟩]
    ·rw [if_neg h1, if_neg (fun h : xk (xa x n) = 1 /\ _ => h1 h.1)]
     by_cases h2 : xk (xa x n) = 2
     ·rw [if_pos h2, (ZhP _ _ _).1, if_neg (by omega)]; exact ih
     ·rw [if_neg h2]
      by_cases h3 : xk (xa x n) = 3 \/ xk (xa x n) = 4
      ·rw [if_pos h3, if_neg (by omega)]; exact ih
      ·rw [if_neg h3]
       by_cases h6 : xk (xa x n) = 6
       ·rw [if_pos h6, if_pos ⟨.inr h6, hw⟩]
       ·rw [if_neg h6]
        by_cases h5 : xk (xa x n) = 5
        ·rw [if_pos h5, if_pos ⟨.inl h5, hw⟩]
        ·rw [if_neg h5, if_neg (by omega)]; exact ih
   ·rw [if_neg hw, if_neg (fun h : xk (xa x n) = 1 /\ _ => hw h.2), if_neg (fun h : _ /\ xw (xa x n) = w => hw h.2)]; exact ih
theorem ZvG {x : List Ent} {w : Int} : ∀ {n : Nat}, ¬ 0 <= YR x 1 w n -> ZbY x w n = (false, -1)
 | 0, _ => rfl
 | n + 1, h => by
  rw [Yx] at h
  by_cases h0 : 0 <= YR x 1 w n
  ·rw [if_pos h0] at h; exact absurd h0 h
  ·rw [if_neg h0] at h
   have ih := ZvG h0
   by_cases h1 : xk (xa x n) = 1 /\ xw (xa x n) = w
   ·rw [if_pos h1] at h; exact absurd (show (0 : Int) <= n by omega) h
   ·rw [Zdc, if_neg h1, ih]
    split
    ·rfl
    ·rw [if_neg (fun h => by cases h.2)]
def NF (x : List Ent) (n : Nat) : Prop := ¬ 0 <= (ZfY x n).1 /\ ∀ i < n, ZcA (xa x i) = true
theorem NF.pred {x : List Ent} {n : Nat} (h : NF x (n + 1)) : NF x n /\ Zrt x n = false /\ ZqY x n = false /\ ZcA (xa x n) = true := by
 obtain ⟨h1, h2⟩ := h
 rw [Zcs] at h1
 split at h1
 ·rename_i q; exact absurd q h1
 ·rename_i q
  split at h1
  ·exact absurd (show (0 : Int) <= n by omega) h1
  ·rename_i a
   split at h1
   ·exact absurd (show (0 : Int) <= n by omega) h1
   ·rename_i b
    exact ⟨⟨q, fun i hi => h2 i (by omega)⟩, by simpa using a, by simpa using b, h2 n (by omega)⟩
theorem NF.le {x : List Ent} {n : Nat} (h : NF x n) : ∀ {m : Nat}, m <= n -> NF x m := by
 induction n with
 | zero => intro m hm; rw [show m = 0 by omega]; exact h
 | succ n ih =>
  intro m hm
  rcases ZIU m (n + 1) with q | q
  ·exact ih h.pred.1 (by omega)
  ·rw [show m = n + 1 by omega]; exact h
theorem Zmi {x : List Ent} {w : Int} (hw : 0 < w) : ∀ {n : Nat}, NF x n -> ¬ 0 <= YR x 1 w n -> YR x 5 w n = -1 /\ (∀ k, ZaM x w k n = -1) /\ ∀ i < n, xw (xa x i) = w -> xk (xa x i) ≠ 2
 | 0, _, _ => ⟨rfl, fun _ => rfl, fun i hi => absurd hi (Nat.not_lt_zero i)⟩
 | n + 1, h, hb => by
  obtain ⟨hn, ho, _, _⟩ := h.pred
  rw [Yx] at hb
  by_cases h0 : 0 <= YR x 1 w n
  ·rw [if_pos h0] at hb; exact absurd h0 hb
  ·rw [if_neg h0] at hb
   have h1 : ¬ (xk (xa x n) = 1 /\ xw (xa x n) = w) := fun q => by rw [if_pos q] at hb; exact hb (by omega)
   obtain ⟨i1, i2, i3⟩ := Zmi hw hn h0
   have hop := ZvG h0
   rw [Zip] at ho
   have key : xw (xa x n) = w -> xk (xa x n) ≠ 2 /\ ¬ (xk (xa x n) = 3 \/ xk (xa x n) = 4) /\ xk (xa x n) ≠ 5 := fun hx => by
    rw [hx, hop] at ho
    refine ⟨fun h2 => ?_, fun h3 => ?_, fun h5 => ?_⟩
    ·rw [if_neg (by omega), if_pos h2] at ho; simp at ho; omega
    ·rw [if_neg (by omega), if_neg (by omega), if_pos (by omega)] at ho; simp at ho
    ·rw [if_neg (by omega), if_neg (by omega), if_neg (by omega), if_pos h5] at ho
     have : Zh7 x (-1) n = false := by rw [ZhB]; rfl
     simp [this] at ho
   refine ⟨?_, fun k => ?_, fun i hi hx => ?_⟩
   ·rw [Yx, if_neg (by rw [i1]; omega), if_neg (fun q => (key q.2).2.2 q.1)]
   ·rw [Zc7, if_neg (fun q => (key q.2.1).2.1 q.1)]; exact i2 k
   ·rcases ZIU i n with q | q
    ·exact i3 i q hx
    ·rw [show i = n by omega] at hx ⊢
     exact (key hx).1
theorem Zk0 {x : List Ent} {w : Int} (hw : 0 < w) : ∀ {n : Nat}, NF x n -> (txN x w n).com = YR x 5 w n
 | 0, _ => rfl
 | n + 1, h => by
  obtain ⟨hn, ho, _, _⟩ := h.pred
  have ih := Zk0 hw hn
  rw [Zb2, Yx]
  unfold Zh3
  rw [Zip] at ho
  by_cases hx : xw (xa x n) = w
  ·by_cases h7 : xk (xa x n) = 7
   ·rw [if_pos h7, if_neg (by omega : ¬ (xk (xa x n) = 5 /\ _))]
    show (txN x w n).com = _
    rw [ih]; split
    ·rfl
    ·have := (ZfO x 5 w n).1; omega
   ·rw [if_neg h7, if_pos hx]
    by_cases h1 : xk (xa x n) = 1
    ·rw [if_pos h1] at ho ⊢
     rw [hx] at ho
     have hb : ¬ 0 <= YR x 1 w n := by simpa using ho
     rw [(Zmi hw hn hb).1, if_neg (by omega), if_neg (by omega)]
    ·rw [if_neg h1]
     by_cases h5 : xk (xa x n) = 5
     ·rw [if_neg (by omega), if_neg (by omega), if_neg (by omega), if_pos h5]
      rw [if_neg h1, if_neg (by omega), if_neg (by omega), if_pos h5, hx] at ho
      have hb : ¬ 0 <= YR x 5 w n := fun q => by simp [q] at ho
      rw [if_neg hb, if_pos ⟨h5, hx⟩]
     ·have e : (if 0 <= YR x 5 w n then YR x 5 w n else if xk (xa x n) = 5 /\ xw (xa x n) = w then (n : Int) else -1) = YR x 5 w n := by
       split
       ·rfl
       ·rw [if_neg (fun q => h5 q.1)]; have := (ZfO x 5 w n).1; omega
      rw [e]
      repeat' split
      all_goals first | exact ih | (rw [(ZhP _ _ _).2.1]; exact ih) | omega
  ·have e : (if 0 <= YR x 5 w n then YR x 5 w n else if xk (xa x n) = 5 /\ xw (xa x n) = w then (n : Int) else -1) = YR x 5 w n := by
    split
    ·rfl
    ·rw [if_neg (fun q => hx q.2)]; have := (ZfO x 5 w n).1; omega
   rw [e]
   by_cases h7 : xk (xa x n) = 7
   ·rw [if_pos h7]; exact ih
   ·rw [if_neg h7, if_neg hx]; exact ih
def chIs (x : List Ent) (w : Int) (m : List (Int × Int)) (n : Nat) : Prop :=
 ∀ k : List UInt8, Zu m (ZP k : Nat) = decide (0 <= ZaM x w k n) /\ (0 <= ZaM x w k n -> vw (Zas 0 m (ZP k : Nat)) = (Zbl (xa x (ZaM x w k n).toNat), decide (xk (xa x (ZaM x w k n).toNat) = 3)))
theorem encB_inj' {a b : List UInt8} (h : ((ZP a : Nat) : Int) = (ZP b : Nat)) : a = b := by
 have : ZP a = ZP b := by omega
 rw [<- Zt a, this, Zt]
theorem ZCK {x : List Ent} {w : Int} (hw : 0 < w) : ∀ {n : Nat}, NF x n -> chIs x w (txN x w n).ch n
 | 0, _ => fun k => ⟨rfl, fun h => absurd h (by show ¬ (0 : Int) <= -1; omega)⟩
 | n + 1, h => by
  obtain ⟨hn, ho, _, _⟩ := h.pred
  have ih := ZCK hw hn
  have same : ∀ {m : List (Int × Int)}, m = (txN x w n).ch -> ¬ ((xk (xa x n) = 3 \/ xk (xa x n) = 4) /\ xw (xa x n) = w) -> chIs x w m (n + 1) := fun hm hno k => by
   rw [hm, Zc7, if_neg (fun q => hno ⟨q.1, q.2.1⟩)]; exact ih k
  rw [Zb2]
  unfold Zh3
  by_cases h7 : xk (xa x n) = 7
  ·rw [if_pos h7]; exact same rfl (by omega)
  ·rw [if_neg h7]
   by_cases hx : xw (xa x n) = w
   ·rw [if_pos hx]
    by_cases h1 : xk (xa x n) = 1
    ·rw [if_pos h1]
     rw [Zip, if_pos h1, hx] at ho
     have hb : ¬ 0 <= YR x 1 w n := by simpa using ho
     intro k
     rw [Zc7, if_neg (by omega), (Zmi hw hn hb).2.1 k]
     exact ⟨rfl, fun h => absurd h (by omega)⟩
    ·rw [if_neg h1]
     by_cases h2 : xk (xa x n) = 2
     ·rw [if_pos h2]; exact same (ZhP _ _ _).2.2.1 (by omega)
     ·rw [if_neg h2]
      by_cases h3 : xk (xa x n) = 3 \/ xk (xa x n) = 4
      ·rw [if_pos h3]
       intro k
       show Zu (YD (txN x w n).ch (kc (xa x n)) _) _ = _ /\ (_ -> vw (Zas 0 (YD (txN x w n).ch (kc (xa x n)) _) _) = _)
       rw [Zc7, ZpN, Zqw]
       by_cases hk : Yp (xa x n) = k
       ·rw [if_pos ⟨h3, hx, hk⟩, if_pos (show kc (xa x n) = (ZP k : Nat) by unfold kc; rw [hk]), ZGv, ZI7]
        refine ⟨by simp [show kc (xa x n) = (ZP k : Nat) by unfold kc; rw [hk]], fun _ => ?_⟩
        rcases h3 with h | h <;> rw [h] <;> rfl
       ·have hne : ¬ kc (xa x n) = (ZP k : Nat) := fun q => hk (encB_inj' q)
        rw [if_neg (fun q => hk q.2.2), if_neg hne]
        simp only [hne, decide_false, Bool.false_or]
        exact ih k
      ·rw [if_neg h3]
       split
       ·exact same rfl (fun q => h3 q.1)
       ·split
        ·exact same rfl (fun q => h3 q.1)
        ·exact same rfl (fun q => h3 q.1)
   ·rw [if_neg hx]; exact same rfl (fun q => hx q.2)
theorem ZuT {r : Ent} (h : ZcA r = true) (hk : xk r = 2 \/ xk r = 4) (hn : Zdq r = false) : Zbl r = [] := by
 unfold ZcA at h
 rcases hk with hk | hk
 ·simp [hk, hn] at h; exact h.1.2
 ·simp [hk, hn] at h; exact h.1.2
theorem ZxK (x : List Ent) (w : Int) (k : List UInt8) : ∀ n : Nat, ZaM x w k n < n /\ -1 <= ZaM x w k n /\ (0 <= ZaM x w k n -> xk (xa x (ZaM x w k n).toNat) = 3 \/ xk (xa x (ZaM x w k n).toNat) = 4)
 | 0 => ⟨by show (-1 : Int) < 0; omega, ZJb _, fun h => absurd h (by show ¬ (0 : Int) <= -1; omega)⟩
 | n + 1 => by
  have ih := ZxK x w k n
  rw [Zc7]
  split
  ·rename_i q
   exact ⟨by omega, by omega, fun _ => by rw [ZI7]; exact q.1⟩
  ·exact ⟨by omega, ih.2.1, ih.2.2⟩
theorem ZxQ {r : Ent} (h : ZcA r = true) (hk : xk r = 4) : Zbl r = [] := by
 unfold ZcA at h
 simp [hk] at h
 exact h.1.1.2
def ZFx (x : List Ent) (n : Nat) : Bool := (Zdq (xa x n) == decide (xk (xa x (ZaM x (xw (xa x n)) (Yp (xa x n)) n).toNat) = 3)) && (Zbl (xa x n) == Zbl (xa x (ZaM x (xw (xa x n)) (Yp (xa x n)) n).toNat))
theorem ZyW {x : List Ent} {n : Nat} {m : List (Int × Int)} (hm : ∀ i ≤ n, ZcA (xa x i) = true) (hk : xk (xa x n) = 2) (hc : chIs x (xw (xa x n)) m n) (hl : 0 <= ZaM x (xw (xa x n)) (Yp (xa x n)) n) : Z5 m (xa x n) = ZFx x n := by
 obtain ⟨c1, c2⟩ := hc (Yp (xa x n))
 have c2 := c2 hl
 have a := congrArg Prod.fst c2
 have b := congrArg Prod.snd c2
 have a : Zcw ((Zas 0 m (kc (xa x n))).tdiv 2).toNat = Zbl (xa x (ZaM x (xw (xa x n)) (Yp (xa x n)) n).toNat) := a
 have b : decide ((Zas 0 m (kc (xa x n))).tmod 2 = 0) = decide (xk (xa x (ZaM x (xw (xa x n)) (Yp (xa x n)) n).toNat) = 3) := b
 have c1 : Zu m (kc (xa x n)) = true := by show Zu m (ZP (Yp (xa x n)) : Nat) = true; rw [c1]; simp [hl]
 obtain ⟨l1, _, l3⟩ := ZxK x (xw (xa x n)) (Yp (xa x n)) n
 have l3 := l3 hl
 have hmj := hm (ZaM x (xw (xa x n)) (Yp (xa x n)) n).toNat (by omega)
 unfold Z5 ZFx
 rw [c1, a, b]
 generalize (ZaM x (xw (xa x n)) (Yp (xa x n)) n).toNat = j at *
 cases hh : Zdq (xa x n)
 ·rcases l3 with h | h
  ·rw [h]; simp
  ·rw [h, ZuT (hm n (ZIQ n)) (.inl hk) hh, ZxQ hmj h]; simp
 ·simp
theorem ZzN {i n : Nat} (hi : i < n + 1) (h : i ≠ n) : i < n := by omega
theorem ZfN {x : List Ent} {w : Int} (hw : 0 < w) : ∀ {n : Nat}, NF x n →
  (∀ r, r ∈ (txN x w n).rds ↔ ∃ i < n, xk (xa x i) = 2 /\ xw (xa x i) = w /\ ZaM x w (Yp (xa x i)) i < 0 /\ r = (i : Int) :: nr (xa x i)) ∧
  (∀ b, b ∈ (txN x w n).bad ↔ ∃ i < n, xk (xa x i) = 2 /\ xw (xa x i) = w /\ 0 <= ZaM x w (Yp (xa x i)) i /\ ZFx x i = false /\ b = (i : Int))
 | 0, _ => ⟨fun r => ⟨fun h => (nomatch h), fun ⟨i, hi, _⟩ => absurd hi (Nat.not_lt_zero i)⟩, fun r => ⟨fun h => (nomatch h), fun ⟨i, hi, _⟩ => absurd hi (Nat.not_lt_zero i)⟩⟩
 | n + 1, h => by
  obtain ⟨hn, ho, _, hmn⟩ := h.pred
  obtain ⟨ih1, ih2⟩ := ZfN hw hn
  have same : ∀ {t : Tx}, t.rds = (txN x w n).rds -> t.bad = (txN x w n).bad -> ¬ (xk (xa x n) = 2 /\ xw (xa x n) = w) →
    (∀ r, r ∈ t.rds ↔ ∃ i < n + 1, xk (xa x i) = 2 /\ xw (xa x i) = w /\ ZaM x w (Yp (xa x i)) i < 0 /\ r = (i : Int) :: nr (xa x i)) ∧
    (∀ b, b ∈ t.bad ↔ ∃ i < n + 1, xk (xa x i) = 2 /\ xw (xa x i) = w /\ 0 <= ZaM x w (Yp (xa x i)) i /\ ZFx x i = false /\ b = (i : Int)) := fun e1 e2 hno => by
   rw [e1, e2]
   refine ⟨fun r => (ih1 r).trans ⟨fun ⟨i, hi, q⟩ => ⟨i, by omega, q⟩, fun ⟨i, hi, q⟩ => ⟨i, ?_, q⟩⟩, fun r => (ih2 r).trans ⟨fun ⟨i, hi, q⟩ => ⟨i, by omega, q⟩, fun ⟨i, hi, q⟩ => ⟨i, ?_, q⟩⟩⟩
   all_goals (
    rcases ZIU i n with p | p
    ·exact p
    ·exfalso; rw [show i = n by omega] at q; exact hno ⟨q.1, q.2.1⟩)
  rw [Zb2]
  unfold Zh3
  by_cases h7 : xk (xa x n) = 7
  ·rw [if_pos h7]; exact same rfl rfl (by omega)
  ·rw [if_neg h7]
   by_cases hx : xw (xa x n) = w
   ·rw [if_pos hx]
    by_cases h1 : xk (xa x n) = 1
    ·rw [if_pos h1]
     rw [Zip, if_pos h1, hx] at ho
     have hb : ¬ 0 <= YR x 1 w n := by simpa using ho
     have no := (Zmi hw hn hb).2.2
     refine ⟨fun r => ⟨fun h => (nomatch h), fun ⟨i, hi, q⟩ => ?_⟩, fun r => ⟨fun h => (nomatch h), fun ⟨i, hi, q⟩ => ?_⟩⟩
     all_goals (
      rcases ZIU i n with p | p
      ·exact absurd q.1 (no i p q.2.1)
      ·rw [show i = n by omega] at q; omega)
    ·rw [if_neg h1]
     by_cases h2 : xk (xa x n) = 2
     ·rw [if_pos h2]
      have hc := ZCK hw hn
      have hch := (hc (Yp (xa x n))).1
      have hm := h.2
      unfold rdT
      by_cases hl : 0 <= ZaM x w (Yp (xa x n)) n
      ·have hin : Zu (txN x w n).ch (kc (xa x n)) = true := by unfold kc; rw [hch]; simp [hl]
       rw [if_pos hin]
       have hs := ZyW (m := (txN x w n).ch) (fun i hi => hm i (by omega)) h2 (by rw [hx]; exact hc) (by rw [hx]; exact hl)
       rw [hs]
       have r1 : ∀ r, r ∈ (txN x w n).rds ↔ ∃ i < n + 1, xk (xa x i) = 2 /\ xw (xa x i) = w /\ ZaM x w (Yp (xa x i)) i < 0 /\ r = (i : Int) :: nr (xa x i) := fun r =>
        (ih1 r).trans ⟨fun ⟨i, hi, q⟩ => ⟨i, by omega, q⟩, fun ⟨i, hi, q⟩ => ⟨i, ZzN hi (fun e => by rw [e] at q; omega), q⟩⟩
       by_cases ht : ZFx x n = true
       ·rw [if_pos ht]
        exact ⟨r1, fun r => (ih2 r).trans ⟨fun ⟨i, hi, q⟩ => ⟨i, by omega, q⟩, fun ⟨i, hi, q⟩ => ⟨i, ZzN hi (fun e => by rw [e, ht] at q; exact absurd q.2.2.2.1 (by simp)), q⟩⟩⟩
       ·rw [if_neg ht]
        refine ⟨r1, fun r => ?_⟩
        show r ∈ (txN x w n).bad ++ [(n : Int)] ↔ _
        rw [ZJl, ih2 r, ZIT]
        constructor
        ·rintro (⟨i, hi, q⟩ | rfl)
         ·exact ⟨i, by omega, q⟩
         ·exact ⟨n, by omega, h2, hx, hl, by simpa using ht, rfl⟩
        ·rintro ⟨i, hi, q⟩
         rcases ZIU i n with p | p
         ·exact .inl ⟨i, p, q⟩
         ·right; rw [q.2.2.2.2, show i = n by omega]
      ·have hin : ¬ Zu (txN x w n).ch (kc (xa x n)) = true := by unfold kc; rw [hch]; simp [hl]
       rw [if_neg hin]
       refine ⟨fun r => ?_, fun r => (ih2 r).trans ⟨fun ⟨i, hi, q⟩ => ⟨i, by omega, q⟩, fun ⟨i, hi, q⟩ => ⟨i, ZzN hi (fun e => by rw [e] at q; exact hl q.2.2.1), q⟩⟩⟩
       show r ∈ (txN x w n).rds ++ [(n : Int) :: nr (xa x n)] ↔ _
       rw [ZJl, ih1 r, ZIT]
       constructor
       ·rintro (⟨i, hi, q⟩ | rfl)
        ·exact ⟨i, by omega, q⟩
        ·exact ⟨n, by omega, h2, hx, by omega, rfl⟩
       ·rintro ⟨i, hi, q⟩
        rcases ZIU i n with p | p
        ·exact .inl ⟨i, p, q⟩
        ·right; rw [q.2.2.2, show i = n by omega]
     ·rw [if_neg h2]
      repeat' split
      all_goals exact same rfl rfl (fun q => h2 q.1)
   ·rw [if_neg hx]; exact same rfl rfl (fun q => hx q.2)
structure RI (x : List Ent) (n : Nat) (B : Bk) : Prop where
 ft : B.fault = -1
 wt : B.what = 0
 tx : ∀ j < B.txs.length, B.txs.getD j tx0 = txN x (B.txs.getD j tx0).who n
 pos : ∀ j < B.txs.length, 0 < (B.txs.getD j tx0).who
 beg : ∀ w, ixL w B.txs < B.txs.length ↔ 0 <= YR x 1 w n
 fal : ∀ j < B.txs.length, (j ∈ B.fal ↔ Zh7 x (ZbY x (B.txs.getD j tx0).who n).2 n = true)
 kep : B.kept.map (fun k => (B.txs.getD k tx0).who) = Yo x n
 len : Zvk x n = B.kept.length
 com : ∀ k < B.kept.length, 0 <= YR x 5 ((Yo x n).getD k 0) n /\ (Yo x (YR x 5 ((Yo x n).getD k 0) n).toNat).length = k
 out : ∀ r, r ∈ B.out ↔ ∃ i < n, xk (xa x i) = 2 /\ xw (xa x i) = 0 /\ r = (i : Int) :: nr (xa x i)
structure Adv (x : List Ent) (n : Nat) (L L' : List Tx) : Prop where
 len : L'.length = L.length
 get : ∀ j < L.length, L'.getD j tx0 = Zh3 (L.getD j tx0).who (L.getD j tx0) n (xa x n)
theorem Zzw (w : Int) (s : Tx) (h : s.who = w) (i : Int) (r : Ent) : (Zh3 w s i r).who = w := by
 unfold Zh3
 repeat' split
 all_goals first | exact h | rfl | (rw [(ZhP _ _ _).2.2.2.1]; exact h)
theorem Adv.who {x : List Ent} {n : Nat} {L L' : List Tx} (h : Adv x n L L') {j : Nat} (hj : j < L.length) : (L'.getD j tx0).who = (L.getD j tx0).who := by
 rw [h.get j hj]; exact Zzw _ _ rfl _ _
theorem Y8 {L : List Tx} {j : Nat} (hj : j < L.length) : L.getD j tx0 = L[j] := by rw [ZI0, ZI3 hj, ZIV]
theorem Adv.map {x : List Ent} {n : Nat} {L L' : List Tx} (h : Adv x n L L') : L'.map (·.who) = L.map (·.who) := by
 apply List.ext_getElem
 ·simp [h.len]
 ·intro j h1 h2
  rw [ZJa] at h1 h2
  rw [List.getElem_map, List.getElem_map, <- Y8 h1, <- Y8 h2]
  exact h.who h2
theorem Zvl {w : Int} : ∀ {L L' : List Tx}, L'.map (·.who) = L.map (·.who) -> ixL w L' = ixL w L
 | [], [], _ => rfl
 | t :: L, s :: L', h => by
  rw [ZI9, ZI9, List.cons.injEq] at h
  unfold ixL
  rw [h.1, Zvl h.2]
 | [], _ :: _, h => by simp at h
 | _ :: _, [], h => by simp at h
theorem Zk2 {x : List Ent} {k w : Int} {n : Nat} (h : ¬ (xk (xa x n) = k /\ xw (xa x n) = w)) : YR x k w (n + 1) = YR x k w n := by
 rw [Yx, if_neg h]
 split
 ·rfl
 ·have := (ZfO x k w n).1; omega
theorem ZlV {x : List Ent} {n : Nat} (h : ¬ xk (xa x n) = 5) : Zvk x (n + 1) = Zvk x n /\ Yo x (n + 1) = Yo x n := ⟨by show (if _ then _ else _) = _; rw [if_neg h], by rw [Zda, if_neg h]⟩
theorem ZjO {x : List Ent} {k w : Int} {n : Nat} (h : 0 <= YR x k w n) : YR x k w (n + 1) = YR x k w n := by rw [Yx, if_pos h]
theorem RI.adv {x : List Ent} {n : Nat} {B B' : Bk} (h : RI x n B) (hf : B'.fault = -1) (hw : B'.what = 0) (ha : Adv x n B.txs B'.txs) (hk : ¬ xk (xa x n) = 1) (hk5 : ¬ xk (xa x n) = 5) (hkept : B'.kept = B.kept)
  (hfal : ∀ j < B.txs.length, (j ∈ B'.fal ↔ Zh7 x (ZbY x (B.txs.getD j tx0).who (n + 1)).2 (n + 1) = true))
  (hout : ∀ r, r ∈ B'.out ↔ ∃ i < n + 1, xk (xa x i) = 2 /\ xw (xa x i) = 0 /\ r = (i : Int) :: nr (xa x i)) (hki : ∀ k ∈ B.kept, k < B.txs.length) : RI x (n + 1) B' := by
 have hwho := fun {j : Nat} (hj : j < B.txs.length) => ha.who hj
 obtain ⟨l1, l2⟩ := ZlV hk5
 refine ⟨hf, hw, fun j hj => ?_, fun j hj => ?_, fun w => ?_, fun j hj => ?_, ?_, ?_, fun k hk => ?_, hout⟩
 ·rw [ha.len] at hj
  rw [hwho hj, Zb2, <- h.tx j hj]; exact ha.get j hj
 ·rw [ha.len] at hj
  rw [hwho hj]; exact h.pos j hj
 ·rw [Zvl ha.map, ha.len, Zk2 (fun q => hk q.1)]; exact h.beg w
 ·rw [ha.len] at hj
  rw [hwho hj]; exact hfal j hj
 ·rw [hkept, l2, <- h.kep]
  apply List.map_congr_left
  intro k hk
  exact hwho (hki k hk)
 ·rw [hkept, l1]; exact h.len
 ·rw [hkept] at hk
  obtain ⟨c1, c2⟩ := h.com k hk
  rw [l2, ZjO c1]; exact ⟨c1, c2⟩
theorem Zqv {x : List Ent} {f : Int} {n : Nat} (hf : f < n) (hk : xk (xa x n) = 1 \/ xk (xa x n) = 2 \/ xk (xa x n) = 7) : ¬ Zh7 x f (n + 1 : Nat) = true := by
 unfold Zh7
 rw [Zo]
 rintro ⟨_, h⟩
 obtain ⟨a, b, c⟩ := h n hf (by omega)
 omega
theorem Zy0 {x : List Ent} {f : Int} {n : Nat} (hk : xk (xa x n) ≠ 1 /\ xk (xa x n) ≠ 2 /\ xk (xa x n) ≠ 7) : Zh7 x f (n + 1 : Nat) = true ↔ Zh7 x f n = true := by
 unfold Zh7
 rw [Zo, Zo]
 constructor
 ·rintro ⟨a, b⟩
  exact ⟨a, fun i h1 h2 => b i h1 (by omega)⟩
 ·rintro ⟨a, b⟩
  refine ⟨a, fun i h1 h2 => ?_⟩
  rcases ZIU i n with p | p
  ·exact b i h1 (by omega)
  ·rw [show i = n by omega]; exact hk
theorem Zi4 {x : List Ent} {w : Int} {n : Nat} (hk : ¬ xk (xa x n) = 7) : (ZbY x w (n + 1)).2 = (ZbY x w n).2 := by
 rw [Zdc]
 split
 ·rfl
 ·split
  ·rfl
  ·rw [if_neg (fun q => hk q.1)]
theorem ZjF {x : List Ent} {n : Nat} {L : List Tx} (hn : (L.map (·.who)).Nodup) (hk : ¬ xk (xa x n) = 7) {j : Nat} (hj : ixL (xw (xa x n)) L = j) (hjl : j < L.length) {t : Tx} (ht : t = Zh3 (xw (xa x n)) (L.getD j tx0) n (xa x n)) : Adv x n L (L.set j t) := by
 refine ⟨List.length_set, fun i hi => ?_⟩
 have hwj : (L.getD j tx0).who = xw (xa x n) := by rw [<- hj] at hjl ⊢; exact Za3 hjl
 by_cases hij : j = i
 ·subst hij
  rw [ZI0, List.getElem?_set_self hjl, ZIV, hwj]; exact ht
 ·rw [ZI0, List.getElem?_set_ne hij, <- ZI0]
  unfold Zh3
  rw [if_neg hk, if_neg (fun q => hij (by rw [<- hj, q]; exact ZeL hn hi))]
theorem ZyQ {x : List Ent} {n : Nat} {L : List Tx} (hk : ¬ xk (xa x n) = 7) (hx : ∀ j < L.length, (L.getD j tx0).who ≠ xw (xa x n)) : Adv x n L L := by
 refine ⟨rfl, fun i hi => ?_⟩
 unfold Zh3
 rw [if_neg hk, if_neg (fun q => hx i hi q.symm)]
theorem ZCE {x : List Ent} {n : Nat} {L : List Tx} (hk : xk (xa x n) = 7) : Adv x n L (L.map fun t => { t with opn := false }) := by
 refine ⟨ZJa _, fun i hi => ?_⟩
 unfold Zh3
 rw [if_pos hk]
 have := Y8 (L := L.map fun t => { t with opn := false }) (j := i) (by rw [ZJa]; exact hi)
 rw [this, List.getElem_map, Y8 hi]
theorem Zth {x : List Ent} {n : Nat} {B : Bk} (h : RI x n B) (hk : ¬ (xk (xa x n) = 2 /\ xw (xa x n) = 0)) : ∀ r, r ∈ B.out ↔ ∃ i < n + 1, xk (xa x i) = 2 /\ xw (xa x i) = 0 /\ r = (i : Int) :: nr (xa x i) := fun r =>
 (h.out r).trans ⟨fun ⟨i, hi, q⟩ => ⟨i, by omega, q⟩, fun ⟨i, hi, q⟩ => ⟨i, ZzN hi (fun e => by rw [e] at q; exact hk ⟨q.1, q.2.1⟩), q⟩⟩
theorem ZyX {L : List Tx} {k : Nat} : k ∈ ZmN L 0 ↔ k < L.length /\ (L.getD k tx0).opn = true := by
 rw [<- Zeb, YU]
 simp [Zu]
set_option maxHeartbeats 1000000 in
theorem ZEZ {x : List Ent} {n : Nat} {B : Bk} (h : RI x n B) (hwf : WfB B n) (hn : NF x n) (hm : ZcA (xa x n) = true) :
  (Zrt x n = true -> Zap B n (xa x n) = B.flt n 1) /\ (Zrt x n = false -> ZqY x n = true -> Zap B n (xa x n) = B.flt n 2) /\ (Zrt x n = false -> ZqY x n = false -> RI x (n + 1) (Zap B n (xa x n))) := by
 generalize hj : ixL (xw (xa x n)) B.txs = j
 have hb := h.beg (xw (xa x n))
 rw [hj] at hb
 have hwho : j < B.txs.length -> (B.txs.getD j tx0).who = xw (xa x n) := fun hl => by rw [<- hj] at hl ⊢; exact Za3 hl
 have hop : j < B.txs.length -> (B.txs.getD j tx0).opn = (ZbY x (xw (xa x n)) n).1 := fun hl => by rw [h.tx j hl, ZtX, hwho hl]
 have hno : ¬ j < B.txs.length -> ZbY x (xw (xa x n)) n = (false, -1) := fun hl => ZvG (fun q => hl (hb.2 q))
 have hnone : ¬ j < B.txs.length -> ∀ i < B.txs.length, (B.txs.getD i tx0).who ≠ xw (xa x n) := fun hl i hi e => by
  have := ZeL hwf.nd hi
  rw [e, hj] at this; exact hl (by omega)
 have hstay : xk (xa x n) ≠ 1 -> xk (xa x n) ≠ 2 -> xk (xa x n) ≠ 7 -> ∀ i < B.txs.length, (i ∈ B.fal ↔ Zh7 x (ZbY x (B.txs.getD i tx0).who (n + 1)).2 ((n + 1 : Nat) : Int) = true) := fun a b c i hi => by
  rw [Zi4 c, Zy0 ⟨a, b, c⟩]; exact h.fal i hi
 have hot := Zth h
 have hout := Zip x n
 have hkinds : xk (xa x n) = 1 \/ xk (xa x n) = 2 \/ xk (xa x n) = 3 \/ xk (xa x n) = 4 \/ xk (xa x n) = 5 \/ xk (xa x n) = 6 \/ xk (xa x n) = 7 := by
  refine Classical.byContradiction fun q => ?_
  have hm := hm
  unfold ZcA at hm
  dsimp only at hm
  rw [if_neg (by omega), if_neg (by omega), if_neg (by omega), if_neg (by omega), if_neg (by omega), if_neg (by omega)] at hm
  cases hm
 have wro5 : ¬ xk (xa x n) = 5 -> ZqY x n = false := fun hk => by unfold ZqY; simp [hk]
 by_cases k1 : xk (xa x n) = 1
 ·rw [if_pos k1] at hout
  rw [hout, wro5 (by omega)]
  refine ⟨fun q => st1a hj k1 (hb.2 (by simpa using q)), fun _ q => (nomatch q), fun q _ => ?_⟩
  have hb0 : ¬ 0 <= YR x 1 (xw (xa x n)) n := by simpa using q
  have hjl : ¬ j < B.txs.length := fun hl => hb0 (hb.1 hl)
  have hwp : 0 < xw (xa x n) := by
   have hm := hm; unfold ZcA at hm; simp [k1] at hm; exact hm.1.1.1.1
  have hjle : j = B.txs.length := by have := ZA2 (xw (xa x n)) B.txs; omega
  rw [st1b hj k1 hjl]
  obtain ⟨l1, l2⟩ := ZlV (x := x) (n := n) (by omega)
  have gold : ∀ i < B.txs.length, (B.txs ++ [(⟨xw (xa x n), n, -1, true, [], [], []⟩ : Tx)]).getD i tx0 = B.txs.getD i tx0 := fun i hi => by
   rw [ZI0, ZJi hi, <- ZI0]
  have gnew : (B.txs ++ [(⟨xw (xa x n), n, -1, true, [], [], []⟩ : Tx)]).getD B.txs.length tx0 = ⟨xw (xa x n), n, -1, true, [], [], []⟩ := by
   rw [ZI0, ZJj (ZIQ _), Nat.sub_self]; rfl
  refine ⟨h.ft, h.wt, fun i hi => ?_, fun i hi => ?_, fun w => ?_, fun i hi => ?_, ?_, ?_, fun k hk => ?_, hot (by omega)⟩
  ·rw [ZI5, ZIO] at hi
   rcases ZIU i B.txs.length with p | p
   ·rw [gold i p, Zb2, <- h.tx i p]
    unfold Zh3
    rw [if_neg (by omega), if_neg (fun e => hnone hjl i p e.symm)]
   ·rw [show i = B.txs.length by omega, gnew, Zb2]
    unfold Zh3
    rw [if_neg (by omega), if_pos rfl, if_pos k1]
  ·rw [ZI5, ZIO] at hi
   rcases ZIU i B.txs.length with p | p
   ·rw [gold i p]; exact h.pos i p
   ·rw [show i = B.txs.length by omega, gnew]; exact hwp
  ·rw [ZI5, ZIO]
   have app : ∀ (L : List Tx) (t : Tx), ixL w (L ++ [t]) = if ixL w L < L.length then ixL w L else if t.who = w then L.length else L.length + 1 := by
    intro L t
    induction L with
    | nil =>
     show (bif t.who == w then 0 else 0 + 1) = _
     by_cases e : t.who = w
     ·simp [e, ixL]
     ·rw [show (t.who == w) = false from beq_eq_false_iff_ne.2 e, if_neg e]; rfl
    | cons s L ih =>
     show (bif s.who == w then 0 else ixL w (L ++ [t]) + 1) = if (bif s.who == w then 0 else ixL w L + 1) < L.length + 1 then (bif s.who == w then 0 else ixL w L + 1) else if t.who = w then L.length + 1 else L.length + 1 + 1
     cases s.who == w
     ·show ixL w (L ++ [t]) + 1 = if ixL w L + 1 < L.length + 1 then ixL w L + 1 else _
      rw [ih]
      repeat' split
      all_goals omega
     ·rfl
   show ixL w (B.txs ++ [_]) < _ ↔ _
   rw [app, Yx]
   have hbw := h.beg w
   by_cases q1 : ixL w B.txs < B.txs.length
   ·rw [if_pos q1, if_pos (hbw.1 q1)]
    exact ⟨fun _ => hbw.1 q1, fun _ => by omega⟩
   ·rw [if_neg q1, if_neg (fun q => q1 (hbw.2 q))]
    by_cases q2 : xw (xa x n) = w
    ·rw [if_pos q2, if_pos ⟨k1, q2⟩]
     exact ⟨fun _ => by omega, fun _ => by omega⟩
    ·rw [if_neg (show ¬ (⟨xw (xa x n), n, -1, true, [], [], []⟩ : Tx).who = w from q2), if_neg (fun q => q2 q.2)]
     exact ⟨fun _ => by omega, fun _ => by omega⟩
  ·rw [ZI5, ZIO] at hi
   have hf : ∀ w, ¬ Zh7 x (ZbY x w (n + 1)).2 ((n + 1 : Nat) : Int) = true := fun w => Zqv (by rw [Zi4 (by omega)]; exact (Zij x w n).2) (.inl k1)
   exact ⟨fun q => (nomatch q), fun q => absurd q (hf _)⟩
  ·rw [l2, <- h.kep]
   apply List.map_congr_left
   intro k hk
   rw [gold k (hwf.ki k hk)]
  ·rw [l1]; exact h.len
  ·obtain ⟨c1, c2⟩ := h.com k hk
   rw [l2, ZjO c1]; exact ⟨c1, c2⟩
 ·by_cases k2 : xk (xa x n) = 2
  ·rw [if_neg k1, if_pos k2] at hout
   rw [hout, wro5 (by omega)]
   by_cases hw0 : xw (xa x n) = 0
   ·rw [hw0]
    refine ⟨fun q => by simp at q, fun _ q => (nomatch q), fun _ _ => ?_⟩
    rw [st2a hj k2 hw0]
    refine h.adv h.ft h.wt (ZyQ (by omega) (fun i hi e => by have := h.pos i hi; omega)) k1 (by omega) rfl (fun i hi => ⟨fun q => (nomatch q), fun q => absurd q (Zqv (by rw [Zi4 (by omega)]; exact (Zij x _ n).2) (.inr (.inl k2)))⟩) (fun r => ?_) hwf.ki
    show r ∈ B.out ++ [_] ↔ _
    rw [ZJl, h.out r, ZIT]
    constructor
    ·rintro (⟨i, hi, q⟩ | rfl)
     ·exact ⟨i, by omega, q⟩
     ·exact ⟨n, by omega, k2, hw0, rfl⟩
    ·rintro ⟨i, hi, q⟩
     rcases ZIU i n with p | p
     ·exact .inl ⟨i, p, q⟩
     ·right; rw [q.2.2, show i = n by omega]
   ·have hwp : 0 < xw (xa x n) := by
     have hm := hm; unfold ZcA at hm; simp [k2] at hm; have := hm.1.1.1; omega
    have hd : decide (0 < xw (xa x n)) = true := by simpa using hwp
    rw [hd, Bool.true_and]
    refine ⟨fun q => ?_, fun _ q => (nomatch q), fun q _ => ?_⟩
    ·have q : (ZbY x (xw (xa x n)) n).1 = false := by simpa using q
     exact st2c hj k2 hw0 (fun hl => by rw [hop hl]; exact q)
    ·have q : (ZbY x (xw (xa x n)) n).1 = true := by simpa using q
     have hl : j < B.txs.length := Classical.byContradiction fun hl => by rw [hno hl] at q; cases q
     rw [st2b hj k2 hw0 hl (by rw [hop hl]; exact q)]
     refine h.adv h.ft h.wt (ZjF hwf.nd (by omega) hj hl ?_) k1 (by omega) rfl (fun i hi => ⟨fun q => (nomatch q), fun q => absurd q (Zqv (by rw [Zi4 (by omega)]; exact (Zij x _ n).2) (.inr (.inl k2)))⟩) (hot (fun e => hw0 e.2)) hwf.ki
     unfold Zh3
     rw [if_neg (by omega), if_pos rfl, if_neg k1, if_pos k2]
  ·by_cases k3 : xk (xa x n) = 3 \/ xk (xa x n) = 4
   ·rw [if_neg k1, if_neg k2, if_pos (by omega)] at hout
    rw [hout, wro5 (by omega)]
    refine ⟨fun q => ?_, fun _ q => (nomatch q), fun q _ => ?_⟩
    ·have q : (ZbY x (xw (xa x n)) n).1 = false := by simpa using q
     exact ZHW hj k3 (fun hl => by rw [hop hl]; exact q)
    ·have q : (ZbY x (xw (xa x n)) n).1 = true := by simpa using q
     have hl : j < B.txs.length := Classical.byContradiction fun hl => by rw [hno hl] at q; cases q
     rw [st3a hj k3 hl (by rw [hop hl]; exact q)]
     refine h.adv h.ft h.wt (ZjF hwf.nd (by omega) hj hl ?_) k1 (by omega) rfl (hstay k1 k2 (by omega)) (hot (by omega)) hwf.ki
     unfold Zh3
     rw [if_neg (by omega), if_pos rfl, if_neg k1, if_neg k2, if_pos k3]
   ·by_cases k6 : xk (xa x n) = 6
    ·rw [if_neg k1, if_neg k2, if_pos (by omega)] at hout
     rw [hout, wro5 (by omega)]
     refine ⟨fun q => ?_, fun _ q => (nomatch q), fun q _ => ?_⟩
     ·have q : (ZbY x (xw (xa x n)) n).1 = false := by simpa using q
      exact st6b hj k6 (fun hl => by rw [hop hl]; exact q)
     ·have q : (ZbY x (xw (xa x n)) n).1 = true := by simpa using q
      have hl : j < B.txs.length := Classical.byContradiction fun hl => by rw [hno hl] at q; cases q
      rw [st6a hj k6 hl (by rw [hop hl]; exact q)]
      refine h.adv h.ft h.wt (ZjF hwf.nd (by omega) hj hl ?_) k1 (by omega) rfl (hstay k1 k2 (by omega)) (hot (by omega)) hwf.ki
      unfold Zh3
      rw [if_neg (by omega), if_pos rfl, if_neg k1, if_neg k2, if_neg k3, if_pos k6]
    ·by_cases k7 : xk (xa x n) = 7
     ·rw [if_neg k1, if_neg k2, if_neg (by omega), if_neg (by omega)] at hout
      rw [hout, wro5 (by omega)]
      refine ⟨fun q => (nomatch q), fun _ q => (nomatch q), fun _ _ => ?_⟩
      rw [st7 hj k7]
      refine h.adv h.ft h.wt (ZCE k7) k1 (by omega) rfl (fun i hi => ?_) (hot (by omega)) hwf.ki
      show i ∈ ZmN B.txs 0 ↔ _
      rw [ZyX]
      have ho : (B.txs.getD i tx0).opn = (ZbY x (B.txs.getD i tx0).who n).1 := by rw [h.tx i hi, ZtX, ZA6]
      rw [ho, Zdc, if_neg (by omega), if_neg (by omega)]
      by_cases q : (ZbY x (B.txs.getD i tx0).who n).1 = true
      ·rw [if_pos ⟨k7, q⟩]
       refine ⟨fun _ => ?_, fun _ => ⟨hi, q⟩⟩
       unfold Zh7
       rw [Zo]
       exact ⟨by show (0 : Int) <= n; omega, fun a h1 h2 => by have h1 : (n : Int) < a := h1; omega⟩
      ·rw [if_neg (fun e => q e.2)]
       exact ⟨fun e => absurd e.2 q, fun e => absurd e (Zqv (Zij x _ n).2 (.inr (.inr k7)))⟩
     ·have k5 : xk (xa x n) = 5 := by omega
      rw [if_neg k1, if_neg k2, if_neg (by omega), if_pos k5] at hout
      have hwp : 0 < xw (xa x n) := by
       have hm := hm; unfold ZcA at hm; simp [k5] at hm; exact hm.1.1.1.1.1
      have hcom : j < B.txs.length -> (B.txs.getD j tx0).com = YR x 5 (xw (xa x n)) n := fun hl => by rw [h.tx j hl, hwho hl, Zk0 hwp hn]
      have hfal : j < B.txs.length -> (j ∈ B.fal ↔ Zh7 x (ZbY x (xw (xa x n)) n).2 n = true) := fun hl => by have := h.fal j hl; rw [hwho hl] at this; exact this
      have hwro : ZqY x n = !decide (xt (xa x n) = B.kept.length + 1) := by unfold ZqY; rw [h.len]; simp [k5]
      have good : Zrt x n = false -> j < B.txs.length /\ ((j < B.txs.length /\ (B.txs.getD j tx0).opn = true) \/ j ∈ B.fal) /\ (B.txs.getD j tx0).com < 0 := fun q => by
       rw [hout, Bool.or_eq_false_iff] at q
       obtain ⟨q1, q2⟩ := q
       have q2 : ¬ 0 <= YR x 5 (xw (xa x n)) n := by simpa using q2
       have hl : j < B.txs.length := Classical.byContradiction fun hl => by
        rw [hno hl] at q1
        have : Zh7 x (-1) n = false := by rw [ZhB]; rfl
        simp [this] at q1
       refine ⟨hl, ?_, by rw [hcom hl]; omega⟩
       rw [hop hl, hfal hl]
       cases ho : (ZbY x (xw (xa x n)) n).1
       ·right
        rw [ho] at q1; simpa using q1
       ·exact .inl ⟨hl, rfl⟩
      refine ⟨fun q => ?_, fun q r => ?_, fun q r => ?_⟩
      ·refine ZF5 hj k5 ?_
       rw [hout, Bool.or_eq_true] at q
       rcases q with q | q
       ·left
        simp only [Bool.and_eq_true, ZIZ] at q
        refine ⟨fun hl => by rw [hop hl]; exact q.1, fun hm => ?_⟩
        have hl := hwf.fi j hm
        rw [(hfal hl).1 hm] at q; cases q.2
       ·have q : 0 <= YR x 5 (xw (xa x n)) n := by simpa using q
        by_cases hl : j < B.txs.length
        ·right; rw [hcom hl]; exact q
        ·left
         exact ⟨fun e => absurd e hl, fun hm => hl (hwf.fi j hm)⟩
      ·obtain ⟨_, g2, g3⟩ := good q
       rw [hwro] at r
       exact st5b hj k5 g2 g3 (by simpa using r)
      ·obtain ⟨hl, g2, g3⟩ := good q
       rw [hwro] at r
       have r : xt (xa x n) = B.kept.length + 1 := by simpa using r
       rw [st5c hj k5 g2 g3 r]
       have ha : Adv x n B.txs (B.txs.set j { B.txs.getD j tx0 with opn := false, com := n }) := ZjF hwf.nd (by omega) hj hl (by
        unfold Zh3
        rw [if_neg (by omega), if_pos rfl, if_neg k1, if_neg k2, if_neg k3, if_neg k6, if_pos k5])
       have hlen : Zvk x (n + 1) = xt (xa x n) := by show (if _ then _ else _) = _; rw [if_pos k5]
       have hk' : Yo x (n + 1) = Yo x n ++ [xw (xa x n)] := by rw [Zda, if_pos k5]
       have hkl : (Yo x n).length = B.kept.length := by rw [<- h.kep, ZJa]
       refine ⟨h.ft, h.wt, fun i hi => ?_, fun i hi => ?_, fun w => ?_, fun i hi => ?_, ?_, ?_, fun k hk => ?_, hot (by omega)⟩
       ·rw [ha.len] at hi
        rw [ha.who hi, Zb2, <- h.tx i hi]; exact ha.get i hi
       ·rw [ha.len] at hi
        rw [ha.who hi]; exact h.pos i hi
       ·rw [Zvl ha.map, ha.len, Zk2 (fun e => k1 e.1)]; exact h.beg w
       ·rw [ha.len] at hi
        rw [ha.who hi]; exact hstay k1 k2 k7 i hi
       ·show (B.kept ++ [j]).map _ = _
        rw [ZJg, hk', <- h.kep, List.map_singleton, ha.who hl, hwho hl]
        congr 1
        apply List.map_congr_left
        intro k hk
        exact ha.who (hwf.ki k hk)
       ·show _ = (((B.kept ++ [j]).length : Nat) : Int)
        rw [hlen, r, ZI5, ZIO]; omega
       ·have hk : k < (B.kept ++ [j]).length := hk
        rw [ZI5, ZIO] at hk
        rw [hk']
        rcases ZIU k B.kept.length with p | p
        ·have e : (Yo x n ++ [xw (xa x n)]).getD k 0 = (Yo x n).getD k 0 := by
          rw [ZI0, ZJi (by omega), <- ZI0]
         obtain ⟨c1, c2⟩ := h.com k p
         rw [e, ZjO c1]; exact ⟨c1, c2⟩
        ·have e : (Yo x n ++ [xw (xa x n)]).getD k 0 = xw (xa x n) := by
          rw [ZI0, ZJj (by omega), show k - (Yo x n).length = 0 by omega]; rfl
         rw [hcom hl] at g3
         rw [e, Yx, if_neg (by omega), if_pos ⟨k5, rfl⟩, ZI7]
         exact ⟨by omega, by omega⟩
theorem Zur (x : List Ent) : ∀ n : Nat, (∀ i < n, ZcA (xa x i) = true) -> (NF x n -> RI x n (Yf x n)) /\ (0 <= (ZfY x n).1 -> (Yf x n).fault = (ZfY x n).1 /\ (Yf x n).what = (ZfY x n).2)
 | 0, _ => by
  refine ⟨fun _ => ⟨rfl, rfl, fun j hj => absurd hj (Nat.not_lt_zero j), fun j hj => absurd hj (Nat.not_lt_zero j), fun w => ⟨fun h => absurd h (Nat.not_lt_zero _), fun h => absurd h (by show ¬ (0 : Int) <= -1; omega)⟩, fun j hj => absurd hj (Nat.not_lt_zero j), rfl, rfl,
   fun k hk => absurd hk (Nat.not_lt_zero k), fun r => ⟨fun h => (nomatch h), fun ⟨i, hi, _⟩ => absurd hi (Nat.not_lt_zero i)⟩⟩, fun h => absurd h (by show ¬ (0 : Int) <= -1; omega)⟩
 | n + 1, hm => by
  obtain ⟨i1, i2⟩ := Zur x n (fun i hi => hm i (by omega))
  have e : Yf x (n + 1) = if 0 <= (Yf x n).fault then Yf x n else Zap (Yf x n) n (xa x n) := rfl
  by_cases h0 : 0 <= (ZfY x n).1
  ·have := i2 h0
   rw [e, if_pos (by rw [this.1]; exact h0), Zcs, if_pos h0]
   refine ⟨fun q => absurd (show 0 <= (ZfY x (n + 1)).1 by rw [Zcs, if_pos h0]; exact h0) q.1, fun _ => this⟩
  ·have hn : NF x n := ⟨h0, fun i hi => hm i (by omega)⟩
   have ri := i1 hn
   obtain ⟨s1, s2, s3⟩ := ZEZ ri (Zit x n) hn (hm n (by omega))
   rw [e, if_neg (by rw [ri.ft]; omega)]
   refine ⟨fun q => s3 q.pred.2.1 q.pred.2.2.1, ?_⟩
   rw [Zcs, if_neg h0]
   by_cases ho : Zrt x n = true
   ·rw [if_pos ho, s1 ho]; exact fun _ => ⟨rfl, rfl⟩
   ·rw [if_neg ho]
    have ho : Zrt x n = false := by simpa using ho
    by_cases hw : ZqY x n = true
    ·rw [if_pos hw, s2 ho hw]; exact fun _ => ⟨rfl, rfl⟩
    ·rw [if_neg hw]; exact fun q => absurd q (by show ¬ (0 : Int) <= -1; omega)
theorem YM.congr {F G : Int -> Int -> Prop} {n : Int} {s : Int × Int} (h : YM F n s) (e : ∀ i r, F i r ↔ G i r) : YM G n s := by
 have : F = G := by funext i r; exact propext (e i r)
 rw [<- this]; exact h
theorem YM.note {F : Int -> Int -> Prop} {n : Int} {s : Int × Int} (h : YM F n s) {i0 r0 : Int} (hi : i0 < n) (hr : r0 ≠ 0) : YM (fun i r => F i r \/ (i = i0 /\ r = r0)) n (Zex s i0 r0) := by
 unfold Zex
 rcases h with ⟨rfl, hno⟩ | ⟨h1, h2, h3⟩
 ·rw [if_pos hi]
  exact .inr ⟨hr, .inr ⟨rfl, rfl⟩, fun i r q => by
   rcases q with q | q
   ·exact absurd q (hno i r)
   ·rw [q.1]; exact ZJb _⟩
 ·split
  ·rename_i q
   refine .inr ⟨hr, .inr ⟨rfl, rfl⟩, fun i r q2 => ?_⟩
   show i0 <= i
   rcases q2 with q2 | q2
   ·have := h3 i r q2; omega
   ·omega
  ·rename_i q
   refine .inr ⟨h1, .inl h2, fun i r q2 => ?_⟩
   rcases q2 with q2 | q2
   ·exact h3 i r q2
   ·omega
theorem ZpK {F : Int -> Int -> Prop} {n : Int} {s : Int × Int} (h : YM F n s) (l : List Int) (hl : ∀ i ∈ l, i < n) : ∀ m ≤ l.length, YM (fun i r => F i r \/ (r = 3 /\ i ∈ l.take m)) n (ZCa s l m)
 | 0, _ => h.congr fun i r => by simp
 | m + 1, hm => by
  have ih := ZpK h l hl m (by omega)
  have hlt : m < l.length := by omega
  have e : l.getD m 0 = l[m] := by rw [ZI0, ZI3 hlt, ZIV]
  have := ih.note (i0 := l.getD m 0) (r0 := 3) (hl _ (by rw [e]; exact ZJn hlt)) (by decide)
  refine this.congr fun i r => ?_
  rw [<- List.take_append_getElem hlt, ZJl, ZIT, e]
  constructor
  ·rintro ((a | ⟨a, b⟩) | ⟨a, b⟩)
   ·exact .inl a
   ·exact .inr ⟨a, .inl b⟩
   ·exact .inr ⟨b, .inr a⟩
  ·rintro (a | ⟨a, b | b⟩)
   ·exact .inl (.inl a)
   ·exact .inl (.inr ⟨a, b⟩)
   ·exact .inr ⟨b, a⟩
theorem Zpu {F : Int -> Int -> Prop} {n : Int} {s : Int × Int} (h : YM F n s) (f : Ent -> Bool) (l : List (List Int)) (hl : ∀ r ∈ l, g0 r < n) : ∀ m ≤ l.length, YM (fun i r => F i r \/ (r = 4 /\ ∃ R ∈ l.take m, i = g0 R /\ f (R.drop 1) = false)) n (ZjW f s l m)
 | 0, _ => h.congr fun i r => by simp
 | m + 1, hm => by
  have ih := Zpu h f l hl m (by omega)
  have hlt : m < l.length := by omega
  have e : l.getD m [] = l[m] := by rw [ZI0, ZI3 hlt, ZIV]
  have e2 := (List.take_append_getElem hlt).symm
  unfold ZjW
  rw [e]
  split
  ·rename_i q
   refine ih.congr fun i r => ?_
   rw [e2]
   constructor
   ·rintro (a | ⟨a, R, hR, b⟩)
    ·exact .inl a
    ·exact .inr ⟨a, R, List.mem_append.2 (.inl hR), b⟩
   ·rintro (a | ⟨a, R, hR, b⟩)
    ·exact .inl a
    ·rcases List.mem_append.1 hR with hR | hR
     ·exact .inr ⟨a, R, hR, b⟩
     ·rw [List.mem_singleton.1 hR, q] at b; cases b.2
  ·rename_i q
   have q : f ((l[m]).drop 1) = false := by simpa using q
   have := ih.note (i0 := g0 l[m]) (r0 := 4) (hl _ (ZJn hlt)) (by decide)
   refine this.congr fun i r => ?_
   rw [e2]
   constructor
   ·rintro ((a | ⟨a, R, hR, b⟩) | ⟨a, b⟩)
    ·exact .inl a
    ·exact .inr ⟨a, R, List.mem_append.2 (.inl hR), b⟩
    ·exact .inr ⟨b, l[m], List.mem_append.2 (.inr (List.mem_singleton.2 rfl)), a, q⟩
   ·rintro (a | ⟨a, R, hR, b⟩)
    ·exact .inl (.inl a)
    ·rcases List.mem_append.1 hR with hR | hR
     ·exact .inl (.inr ⟨a, R, hR, b⟩)
     ·rw [List.mem_singleton.1 hR] at b; exact .inr ⟨b.1, a⟩
theorem Zkn {f : Ent -> Bool} {L : List (List Int)} {place N : Int} (hs : L.Pairwise fun a b => g0 a <= g0 b) (hN : ∀ q < L.length, g0 (L.getD q []) < N) :
  ∀ (n p : Nat) {F : Int -> Int -> Prop} {s : Int × Int}, n = L.length - p -> p <= L.length -> YM F N s →
  p <= (Zsp f L place n p s).1 /\ (Zsp f L place n p s).1 <= L.length /\ (∀ q, p <= q -> q < (Zsp f L place n p s).1 -> g0 (L.getD q []) < place) /\ (∀ q, (Zsp f L place n p s).1 <= q -> q < L.length -> place <= g0 (L.getD q [])) ∧
  YM (fun i r => F i r \/ (r = 4 /\ ∃ q, p <= q /\ q < (Zsp f L place n p s).1 /\ i = g0 (L.getD q []) /\ f ((L.getD q []).drop 1) = false)) N (Zsp f L place n p s).2
 | 0, p, F, s, hn, hp, h => ⟨ZIQ _, hp, fun q a b => absurd b (Nat.not_lt.2 a), fun q a b => by have a : p <= q := a; omega, h.congr fun i r => ⟨.inl, fun q => by
   rcases q with q | ⟨_, q, a, b, _⟩
   ·exact q
   ·have b : q < p := b; omega⟩⟩
 | n + 1, p, F, s, hn, hp, h => by
  unfold Zsp
  by_cases q : p < L.length /\ g0 (L.getD p []) < place
  ·rw [if_pos q]
   have hF : YM (fun i r => F i r \/ (r = 4 /\ i = g0 (L.getD p []) /\ f ((L.getD p []).drop 1) = false)) N (if f ((L.getD p []).drop 1) = true then s else Zex s (g0 (L.getD p [])) 4) := by
    split
    ·rename_i t
     exact h.congr fun i r => ⟨.inl, fun q => by
      rcases q with q | ⟨_, _, q⟩
      ·exact q
      ·rw [t] at q; cases q⟩
    ·rename_i t
     have t : f ((L.getD p []).drop 1) = false := by simpa using t
     exact (h.note (hN p q.1) (by decide)).congr fun i r => ⟨fun q => by
      rcases q with q | ⟨a, b⟩
      ·exact .inl q
      ·exact .inr ⟨b, a, t⟩, fun q => by
      rcases q with q | ⟨a, b, _⟩
      ·exact .inl q
      ·exact .inr ⟨b, a⟩⟩
   obtain ⟨a1, a2, a3, a4, a5⟩ := Zkn (f := f) (place := place) hs hN n (p + 1) (by omega) (by omega) hF
   generalize Zsp f L place n (p + 1) _ = e at *
   refine ⟨by omega, a2, fun t h1 h2 => ?_, a4, a5.congr fun i r => ?_⟩
   ·by_cases hte : t = p
    ·rw [hte]; exact q.2
    ·exact a3 t (by omega) h2
   ·constructor
    ·rintro ((b | ⟨b, c, d⟩) | ⟨b, t, c, d, g⟩)
     ·exact .inl b
     ·exact .inr ⟨b, p, ZIQ _, by omega, c, d⟩
     ·exact .inr ⟨b, t, by omega, d, g⟩
    ·rintro (b | ⟨b, t, c, d, g⟩)
     ·exact .inl (.inl b)
     ·by_cases hte : t = p
      ·rw [hte] at g; exact .inl (.inr ⟨b, g⟩)
      ·exact .inr ⟨b, t, by omega, d, g⟩
  ·rw [if_neg q]
   refine ⟨ZIQ _, hp, fun t a b => absurd b (Nat.not_lt.2 a), fun t a b => ?_, h.congr fun i r => ⟨.inl, fun q => by
    rcases q with q | ⟨_, t, a, b, _⟩
    ·exact q
    ·have b : t < p := b; omega⟩⟩
   have a : p <= t := a
   have hp2 : p < L.length := by omega
   have h0 : place <= g0 (L.getD p []) := by
    by_cases z : g0 (L.getD p []) < place
    ·exact absurd ⟨hp2, z⟩ q
    ·omega
   by_cases hte : t = p
   ·rw [hte]; exact h0
   ·have := (List.pairwise_iff_getElem.1 hs) p t hp2 b (by omega)
    rw [ZI0, ZI3 hp2, ZIV] at h0
    rw [ZI0, ZI3 b, ZIV]
    omega
/-! ### What stands, and what the reference lets stand -/
theorem Zf6 (x : List Ent) {m n : Nat} (h : m <= n) : (Yo x m).length <= (Yo x n).length /\ ∀ i < (Yo x m).length, (Yo x n).getD i 0 = (Yo x m).getD i 0 := by
 induction n with
 | zero => rw [show m = 0 by omega]; exact ⟨ZIQ _, fun i _ => rfl⟩
 | succ n ih =>
  rcases ZIU m (n + 1) with p | p
  ·obtain ⟨a, b⟩ := ih (by omega)
   rw [Zda]
   split
   ·refine ⟨by rw [ZI5]; omega, fun i hi => ?_⟩
    rw [ZI0, ZJi (by omega), <- ZI0]; exact b i hi
   ·exact ⟨a, b⟩
  ·rw [show m = n + 1 by omega]; exact ⟨ZIQ _, fun i _ => rfl⟩
theorem Zxq (x : List Ent) {ks ls : List Int} (key : List UInt8) : ∀ k : Nat, (∀ i < k, ks.getD i 0 = ls.getD i 0) -> Zh8 x ks key k = Zh8 x ls key k
 | 0, _ => rfl
 | k + 1, h => by
  rw [Zgj, Zgj, h k (by omega), Zxq x key k (fun i hi => h i (by omega))]
structure Go (x : List Ent) (B : Bk) : Prop where
 nf : NF x x.length
 ri : RI x x.length B
 wf : WfB B x.length
theorem Go.may {x : List Ent} {B : Bk} (h : Go x B) (n : Nat) (hn : n < x.length) : ZcA (xa x n) = true := h.nf.2 n hn
theorem Go.tx {x : List Ent} {B : Bk} (h : Go x B) {t : Tx} (ht : t ∈ B.txs) : t = txN x t.who x.length /\ 0 < t.who := by
 obtain ⟨j, hj, rfl⟩ := List.getElem_of_mem ht
 have a := h.ri.tx j hj
 have b := h.ri.pos j hj
 rw [Y8 hj] at a b
 exact ⟨a, b⟩
theorem Go.kw {x : List Ent} {B : Bk} (h : Go x B) {k : Nat} (hk : k < B.kept.length) : B.kept.getD k 0 < B.txs.length /\ (B.txs.getD (B.kept.getD k 0) tx0).who = (Yo x x.length).getD k 0 := by
 have e : B.kept.getD k 0 = B.kept[k] := by rw [ZI0, ZI3 hk, ZIV]
 refine ⟨by rw [e]; exact h.wf.ki _ (ZJn hk), ?_⟩
 rw [<- h.ri.kep, ZI0 (l := B.kept.map _), ZIW, ZI3 hk, e]; rfl
theorem Go.kt {x : List Ent} {B : Bk} (h : Go x B) {k : Nat} (hk : k < B.kept.length) : B.txs.getD (B.kept.getD k 0) tx0 ∈ B.txs := by
 have := (h.kw hk).1
 rw [Y8 this]; exact ZJn this
theorem ZBg {x : List Ent} {B : Bk} (h : Go x B) (key : List UInt8) : ∀ k ≤ B.kept.length,
  (stF B k (ZP key : Nat) = (false, vw 0) /\ Zh8 x (Yo x x.length) key k = ([], false)) \/ (stF B k (ZP key : Nat) = (true, Zh8 x (Yo x x.length) key k) /\ ((Zh8 x (Yo x x.length) key k).2 = false -> (Zh8 x (Yo x x.length) key k).1 = []))
 | 0, _ => .inl ⟨rfl, rfl⟩
 | k + 1, hk => by
  have ih := ZBg h key k (by omega)
  obtain ⟨t1, t2⟩ := h.tx (h.kt (k := k) (by omega))
  have hw := (h.kw (k := k) (by omega)).2
  have hc := ZCK t2 h.nf key
  rw [<- t1, hw] at hc
  have e1 : stF B (k + 1) (ZP key : Nat) = if Zu (B.txs.getD (B.kept.getD k 0) tx0).ch (ZP key : Nat) = true then (true, vw (Zas 0 (B.txs.getD (B.kept.getD k 0) tx0).ch (ZP key : Nat))) else stF B k (ZP key : Nat) := rfl
  rw [e1, Zgj, hc.1]
  by_cases hl : 0 <= ZaM x ((Yo x x.length).getD k 0) key x.length
  ·rw [if_pos hl, if_pos (decide_eq_true hl), hc.2 hl]
   refine .inr ⟨rfl, fun q => ?_⟩
   obtain ⟨l1, _, l3⟩ := ZxK x ((Yo x x.length).getD k 0) key x.length
   have q : ¬ xk (xa x (ZaM x ((Yo x x.length).getD k 0) key x.length).toNat) = 3 := by simpa using q
   exact ZxQ (h.may _ (by omega)) (by have := l3 hl; omega)
  ·rw [if_neg hl, if_neg (fun q => hl (of_decide_eq_true q))]; exact ih
theorem ZzE {x : List Ent} {B : Bk} (h : Go x B) {k : Nat} (hk : k <= B.kept.length) {r : Ent} (hm : ZcA r = true) (h2 : xk r = 2) :
  Z2 (stF B k) r = ((Zdq r == (Zh8 x (Yo x x.length) (Yp r) k).2) && (Zbl r == (Zh8 x (Yo x x.length) (Yp r) k).1)) := by
 have hs := ZBg h (Yp r) k hk
 unfold Z2
 show ((Zdq r == ((stF B k (ZP (Yp r) : Nat)).1 && (stF B k (ZP (Yp r) : Nat)).2.2)) && (!Zdq r || Zbl r == (stF B k (ZP (Yp r) : Nat)).2.1)) = _
 cases hh : Zdq r
 ·have hv := ZuT hm (.inl h2) hh
  rcases hs with ⟨a, b⟩ | ⟨a, b⟩
  ·rw [a, b, hv]; rfl
  ·rw [a, hv]
   generalize Zh8 x (Yo x x.length) (Yp r) k = v at *
   cases hv2 : v.2
   ·rw [b hv2]; rfl
   ·rfl
 ·rcases hs with ⟨a, b⟩ | ⟨a, b⟩
  ·rw [a, b]; rfl
  ·rw [a]; simp
theorem Zc9 (f : Int -> Bool × (List UInt8 × Bool)) (r : Ent) : Z2 f (nr r) = Z2 f r := by unfold Z2; rw [ZEY, ZgX, Zhb]
theorem ZBi {x : List Ent} {w : Int} : ∀ {n : Nat}, 0 <= YR x 5 w n -> w ∈ Yo x n
 | 0, h => absurd h (by show ¬ (0 : Int) <= -1; omega)
 | n + 1, h => by
  rw [Zda]
  rw [Yx] at h
  by_cases h0 : 0 <= YR x 5 w n
  ·have := ZBi h0
   split
   ·exact List.mem_append.2 (.inl this)
   ·exact this
  ·rw [if_neg h0] at h
   by_cases h1 : xk (xa x n) = 5 /\ xw (xa x n) = w
   ·rw [if_pos h1.1, h1.2]; simp
   ·rw [if_neg h1] at h; exact absurd h (by omega)
def looF (x : List Ent) (B : Bk) (i r : Int) : Prop := r = 4 /\ ∃ R ∈ Znn B [], i = g0 R /\ Z2 (stF B (Yo x i.toNat).length) (R.drop 1) = false
def kepF (B : Bk) (k : Nat) (i r : Int) : Prop := r = 4 /\ ∃ k' < k, ∃ R ∈ (B.txs.getD (B.kept.getD k' 0) tx0).rds, i = g0 R /\ Z2 (stF B k') (R.drop 1) = false
def refF (x : List Ent) (i r : Int) : Prop := ∃ n : Nat, n < x.length /\ i = n /\ xk (xa x n) = 2 /\ (ZiW x n (Yo x (Zj2 x n))).1 = false /\ r = (ZiW x n (Yo x (Zj2 x n))).2
theorem Zjj {B : Bk} {R : Ent} : R ∈ Znn B [] ↔ R ∈ B.out \/ ∃ t ∈ B.txs, t.com < 0 /\ R ∈ t.rds := by
 unfold Znn
 rw [ZJl, List.mem_flatMap]
 constructor
 ·rintro (a | ⟨t, a, b⟩)
  ·exact .inl a
  ·rw [List.mem_filter] at a
   exact .inr ⟨t, a.1, by simpa [Zu] using a.2, b⟩
 ·rintro (a | ⟨t, a, b, c⟩)
  ·exact .inl a
  ·exact .inr ⟨t, List.mem_filter.2 ⟨a, by simpa [Zu] using b⟩, c⟩
theorem Zjp {x : List Ent} {B : Bk} (h : Go x B) : (Yo x x.length).length = B.kept.length := by rw [<- h.ri.kep, ZJa]
theorem ZAc {x : List Ent} {B : Bk} (h : Go x B) {n m k : Nat} (hn : n < x.length) (h2 : xk (xa x n) = 2) (hno : ¬ (0 <= ZaM x (xw (xa x n)) (Yp (xa x n)) n /\ 0 < xw (xa x n))) (hm : m <= x.length) (hk : (Yo x m).length = k) :
  ZiW x n (Yo x m) = (Z2 (stF B k) (xa x n), 4) := by
 have hkm := Zf6 x hm
 rw [Zxc, if_neg hno, ZzE h (by rw [<- hk, <- Zjp h]; exact hkm.1) (h.may n hn) h2, hk]
 rw [Zxq x (Yp (xa x n)) k (ks := Yo x m) (ls := Yo x x.length) (fun i hi => (hkm.2 i (by omega)).symm)]
theorem tel3 {x : List Ent} {n : Nat} {ks : List Int} (h : 0 <= ZaM x (xw (xa x n)) (Yp (xa x n)) n /\ 0 < xw (xa x n)) : ZiW x n ks = (ZFx x n, 3) := by
 rw [Zxc, if_pos h]; rfl
theorem Zsu {x : List Ent} {w : Int} {n : Nat} : (YR x 5 w n).toNat <= n := by have := (ZfO x 5 w n).2.1; omega
theorem ZFr {x : List Ent} {B : Bk} (h : Go x B) (i r : Int) : (Zyz B [] i r \/ looF x B i r \/ kepF B B.kept.length i r) ↔ refF x i r := by
 constructor
 ·rintro (⟨rfl, t, ht, _, hi⟩ | ⟨rfl, R, hR, hi, hs⟩ | ⟨rfl, k, hk, R, hR, hi, hs⟩)
  ·obtain ⟨t1, t2⟩ := h.tx ht
   rw [t1] at hi
   obtain ⟨n, a, b, c, d, e, f⟩ := ((ZfN t2 h.nf).2 i).1 hi
   have hh : 0 <= ZaM x (xw (xa x n)) (Yp (xa x n)) n /\ 0 < xw (xa x n) := by rw [c]; exact ⟨d, t2⟩
   refine ⟨n, a, f, b, ?_, ?_⟩
   ·rw [tel3 hh]; exact e
   ·rw [tel3 hh]
  ·rcases Zjj.1 hR with hR | ⟨t, ht, hc, hR⟩
   ·obtain ⟨n, a, b, c, rfl⟩ := (h.ri.out R).1 hR
    have hi : i = n := hi
    subst hi
    rw [ZI7] at hs
    have hno : ¬ (0 <= ZaM x (xw (xa x n)) (Yp (xa x n)) n /\ 0 < xw (xa x n)) := by omega
    have he : Zj2 x n = n := by rw [Zgt, if_neg (by omega)]
    refine ⟨n, a, rfl, b, ?_, ?_⟩
    ·rw [he, ZAc h a b hno (by omega) rfl, <- Zc9]; exact hs
    ·rw [he, ZAc h a b hno (by omega) rfl]
   ·obtain ⟨t1, t2⟩ := h.tx ht
    rw [t1] at hR
    obtain ⟨n, a, b, c, d, rfl⟩ := ((ZfN t2 h.nf).1 R).1 hR
    have hi : i = n := hi
    subst hi
    rw [ZI7] at hs
    have hno : ¬ (0 <= ZaM x (xw (xa x n)) (Yp (xa x n)) n /\ 0 < xw (xa x n)) := by rw [c]; omega
    have hcom := Zk0 t2 h.nf
    rw [<- t1] at hcom
    have he : Zj2 x n = n := by rw [Zgt, c, if_pos t2, <- hcom, if_neg (by omega)]
    refine ⟨n, a, rfl, b, ?_, ?_⟩
    ·rw [he, ZAc h a b hno (by omega) rfl, <- Zc9]; exact hs
    ·rw [he, ZAc h a b hno (by omega) rfl]
  ·obtain ⟨t1, t2⟩ := h.tx (h.kt hk)
   have hw := (h.kw hk).2
   obtain ⟨c1, c2⟩ := h.ri.com k hk
   rw [<- hw] at c1 c2
   generalize (B.txs.getD (B.kept.getD k 0) tx0) = t at *
   rw [t1] at hR
   obtain ⟨n, a, b, c, d, rfl⟩ := ((ZfN t2 h.nf).1 R).1 hR
   have hi : i = n := hi
   subst hi
   have hno : ¬ (0 <= ZaM x (xw (xa x n)) (Yp (xa x n)) n /\ 0 < xw (xa x n)) := by rw [c]; omega
   have he : Zj2 x n = (YR x 5 t.who x.length).toNat := by rw [Zgt, c, if_pos t2, if_pos c1]
   refine ⟨n, a, rfl, b, ?_, ?_⟩
   ·rw [he, ZAc h a b hno Zsu c2, <- Zc9]; exact hs
   ·rw [he, ZAc h a b hno Zsu c2]
 ·rintro ⟨n, hn, rfl, h2, hf, rfl⟩
  have hmn := h.may n hn
  by_cases hw0 : xw (xa x n) = 0
  ·have hno : ¬ (0 <= ZaM x (xw (xa x n)) (Yp (xa x n)) n /\ 0 < xw (xa x n)) := by omega
   have he : Zj2 x n = n := by rw [Zgt, if_neg (by omega)]
   rw [he, ZAc h hn h2 hno (by omega) rfl] at hf ⊢
   refine .inr (.inl ⟨rfl, (n : Int) :: nr (xa x n), Zjj.2 (.inl ((h.ri.out _).2 ⟨n, hn, h2, hw0, rfl⟩)), rfl, ?_⟩)
   rw [ZI7]
   show Z2 _ (nr (xa x n)) = false
   rw [Zc9]; exact hf
  ·have hwp : 0 < xw (xa x n) := by
    have hm := hmn; unfold ZcA at hm; simp [h2] at hm; have := hm.1.1.1; omega
   have hbeg : 0 <= YR x 1 (xw (xa x n)) x.length := Classical.byContradiction fun q => (Zmi hwp h.nf q).2.2 n hn rfl h2
   have hjl := (h.ri.beg _).2 hbeg
   have hwho := Za3 hjl
   have hmem : B.txs.getD (ixL (xw (xa x n)) B.txs) tx0 ∈ B.txs := by rw [Y8 hjl]; exact ZJn hjl
   have t1 := (h.tx hmem).1
   have rd := ZfN hwp h.nf
   have hcom := Zk0 hwp h.nf
   rw [hwho] at t1
   by_cases hl : 0 <= ZaM x (xw (xa x n)) (Yp (xa x n)) n
   ·rw [tel3 ⟨hl, hwp⟩] at hf ⊢
    exact .inl ⟨rfl, _, hmem, rfl, by rw [t1]; exact (rd.2 _).2 ⟨n, hn, h2, rfl, hl, hf, rfl⟩⟩
   ·have hno : ¬ (0 <= ZaM x (xw (xa x n)) (Yp (xa x n)) n /\ 0 < xw (xa x n)) := fun q => hl q.1
    have hrd : (n : Int) :: nr (xa x n) ∈ (B.txs.getD (ixL (xw (xa x n)) B.txs) tx0).rds := by rw [t1]; exact (rd.1 _).2 ⟨n, hn, h2, rfl, by omega, rfl⟩
    by_cases hc : 0 <= YR x 5 (xw (xa x n)) x.length
    ·obtain ⟨k, hk, hkw⟩ := List.getElem_of_mem (ZBi hc)
     rw [Zjp h] at hk
     have hkg : (Yo x x.length).getD k 0 = xw (xa x n) := by
      rw [ZI0, ZI3 (by rw [Zjp h]; exact hk), ZIV]; exact hkw
     obtain ⟨k1, k2⟩ := h.kw hk
     have hix : B.kept.getD k 0 = ixL (xw (xa x n)) B.txs := by rw [<- hkg, <- k2, ZeL h.wf.nd k1]
     obtain ⟨_, c2⟩ := h.ri.com k hk
     rw [hkg] at c2
     have he : Zj2 x n = (YR x 5 (xw (xa x n)) x.length).toNat := by rw [Zgt, if_pos hwp, if_pos hc]
     rw [he, ZAc h hn h2 hno Zsu c2] at hf ⊢
     refine .inr (.inr ⟨rfl, k, hk, _, by rw [hix]; exact hrd, rfl, ?_⟩)
     show Z2 _ (nr (xa x n)) = false
     rw [Zc9]; exact hf
    ·have he : Zj2 x n = n := by rw [Zgt, if_pos hwp, if_neg hc]
     rw [he, ZAc h hn h2 hno (by omega) rfl] at hf ⊢
     refine .inr (.inl ⟨rfl, _, Zjj.2 (.inr ⟨_, hmem, by rw [t1, hcom]; omega, hrd⟩), rfl, ?_⟩)
     rw [ZI7]
     show Z2 _ (nr (xa x n)) = false
     rw [Zc9]; exact hf
theorem Zqu (x : List Ent) : ∀ n : Nat, (0 <= (ZeN x n).1 -> ∃ m < n, ZeN x n = ((m : Int), (ZiW x m (Yo x (Zj2 x m))).2) /\ xk (xa x m) = 2 /\ (ZiW x m (Yo x (Zj2 x m))).1 = false /\ ∀ q < m, ¬ (xk (xa x q) = 2 /\ (ZiW x q (Yo x (Zj2 x q))).1 = false)) ∧
  (¬ 0 <= (ZeN x n).1 -> ∀ q < n, ¬ (xk (xa x q) = 2 /\ (ZiW x q (Yo x (Zj2 x q))).1 = false))
 | 0 => ⟨fun h => absurd h (by show ¬ (0 : Int) <= -1; omega), fun _ q hq => absurd hq (Nat.not_lt_zero q)⟩
 | n + 1 => by
  obtain ⟨i1, i2⟩ := Zqu x n
  rw [Zf9]
  by_cases h0 : 0 <= (ZeN x n).1
  ·rw [if_pos h0]
   obtain ⟨m, hm, a⟩ := i1 h0
   exact ⟨fun _ => ⟨m, by omega, a⟩, fun q => absurd h0 q⟩
  ·rw [if_neg h0]
   have i2 := i2 h0
   by_cases h2 : xk (xa x n) = 2
   ·rw [if_pos h2]
    by_cases ht : (ZiW x n (Yo x (Zj2 x n))).1 = true
    ·rw [if_pos ht]
     refine ⟨fun h => absurd h (by show ¬ (0 : Int) <= -1; omega), fun _ q hq => ?_⟩
     rcases ZIU q n with p | p
     ·exact i2 q p
     ·rw [show q = n by omega, ht]; simp
    ·rw [if_neg ht]
     exact ⟨fun _ => ⟨n, by omega, rfl, h2, by simpa using ht, i2⟩, fun h => absurd (show (0 : Int) <= n by omega) h⟩
   ·rw [if_neg h2]
    refine ⟨fun h => absurd h (by show ¬ (0 : Int) <= -1; omega), fun _ q hq => ?_⟩
    rcases ZIU q n with p | p
    ·exact i2 q p
    ·rw [show q = n by omega]; exact fun e => h2 e.1
theorem Zt1 {x : List Ent} {s : Int × Int} (h : YM (refF x) x.length s) : (if s.2 = 0 then (-1, 0) else s) = ZeN x x.length := by
 obtain ⟨a1, a2⟩ := Zqu x x.length
 by_cases h0 : 0 <= (ZeN x x.length).1
 ·obtain ⟨m, hm, e, c, d, f⟩ := a1 h0
  have hr : refF x m (ZiW x m (Yo x (Zj2 x m))).2 := ⟨m, hm, rfl, c, d, rfl⟩
  rcases h with ⟨rfl, hno⟩ | ⟨h1, h2, h3⟩
  ·exact absurd hr (hno _ _)
  ·rw [if_neg h1, e]
   obtain ⟨n, hn, e1, e2, e3, e4⟩ := h2
   have := h3 _ _ hr
   have hnm : n = m := by
    rcases Nat.lt_trichotomy n m with p | p | p
    ·exact absurd ⟨e2, e3⟩ (f n p)
    ·exact p
    ·omega
   subst hnm
   exact Prod.ext e1 e4
 ·have a2 := a2 h0
  rw [ZAY h0]
  rcases h with ⟨rfl, _⟩ | ⟨h1, ⟨n, hn, e1, e2, e3, e4⟩, h3⟩
  ·rfl
  ·exact absurd ⟨e2, e3⟩ (a2 n hn)
theorem go_of {x : List Ent} (hc : ZhS x = 0) (hf : (Zme x).fault < 0) : Go x (Zme x) := by
 have hm : ∀ i < x.length, ZcA (xa x i) = true := by
  unfold ZhS at hc
  split at hc
  ·cases hc
  ·split at hc
   ·rename_i q
    unfold Zkv at q
    rw [Zo] at q; exact q
   ·cases hc
 obtain ⟨r1, r2⟩ := Zur x x.length hm
 have h0 : ¬ 0 <= (ZfY x x.length).1 := fun q => by
  have := (r2 q).1
  unfold Zme at hf
  omega
 exact ⟨⟨h0, hm⟩, r1 ⟨h0, hm⟩, Zit x x.length⟩
theorem ZyG {x : List Ent} {B : Bk} (h : Go x B) {R : Ent} (hR : R ∈ Znn B []) : ∃ n : Nat, n < x.length /\ xk (xa x n) = 2 /\ g0 R = n := by
 rcases Zjj.1 hR with hR | ⟨t, ht, hc, hR⟩
 ·obtain ⟨n, a, b, c, rfl⟩ := (h.ri.out R).1 hR
  exact ⟨n, a, b, rfl⟩
 ·obtain ⟨t1, t2⟩ := h.tx ht
  rw [t1] at hR
  obtain ⟨n, a, b, c, d, rfl⟩ := ((ZfN t2 h.nf).1 R).1 hR
  exact ⟨n, a, b, rfl⟩
theorem Zsz {x : List Ent} {B : Bk} (h : Go x B) {s0 : Int × Int} {L L0 : List (List Int)} (h0 : YM (Zyz B []) x.length s0) (hp : L0.Perm (Znn B [])) (hs : SrtP L0 L) :
  let e := ZfW (Z2 (stF B B.kept.length)) L x.length (Y3 B L s0 B.kept.length).1 (Y3 B L s0 B.kept.length).2
  (if e.2.2 = 0 then (-1, 0) else e.2) = ZeN x x.length := by
 have hmem : ∀ R, R ∈ L ↔ R ∈ Znn B [] := fun R => (hs.1.mem_iff).trans hp.mem_iff
 have ZO : ∀ q < L.length, ∃ n : Nat, n < x.length /\ xk (xa x n) = 2 /\ g0 (L.getD q []) = n := fun q hq => ZyG h ((hmem _).1 (by
  rw [ZI0, ZI3 hq, ZIV]; exact ZJn hq))
 have hN : ∀ q < L.length, g0 (L.getD q []) < x.length := fun q hq => by
  obtain ⟨n, a, _, b⟩ := ZO q hq; omega
 have key : ∀ k ≤ B.kept.length, (Y3 B L s0 k).1 <= L.length /\ YM (fun i r => Zyz B [] i r \/ (r = 4 /\ ∃ q < (Y3 B L s0 k).1, i = g0 (L.getD q []) /\ Z2 (stF B (Yo x i.toNat).length) ((L.getD q []).drop 1) = false) \/ kepF B k i r) x.length (Y3 B L s0 k).2 ∧
   ∀ q, (Y3 B L s0 k).1 <= q -> q < L.length -> k <= (Yo x (g0 (L.getD q [])).toNat).length := by
  intro k
  induction k with
  | zero =>
   intro _
   refine ⟨Nat.zero_le _, h0.congr fun i r => ⟨.inl, fun q => ?_⟩, fun q _ _ => Nat.zero_le _⟩
   rcases q with q | ⟨_, q, hq, _⟩ | ⟨_, q, hq, _⟩
   ·exact q
   ·exact absurd hq (Nat.not_lt_zero q)
   ·exact absurd hq (Nat.not_lt_zero q)
  | succ k ih =>
   intro hk
   obtain ⟨j1, j2, j3⟩ := ih (by omega)
   obtain ⟨t1, t2⟩ := h.tx (h.kt (k := k) (by omega))
   have hw := (h.kw (k := k) (by omega)).2
   obtain ⟨c1, c2⟩ := h.ri.com k (by omega)
   rw [<- hw] at c1 c2
   have hcom := Zk0 t2 h.nf
   rw [<- t1] at hcom
   rw [<- hcom] at c1 c2
   have hcf := (ZfO x 5 (B.txs.getD (B.kept.getD k 0) tx0).who x.length)
   rw [<- hcom] at hcf
   have hk5 := (hcf.2.2 c1).1
   have rd := ZfN t2 h.nf
   rw [<- t1] at rd
   obtain ⟨a1, a2, a3, a4, a5⟩ := Zkn (f := Z2 (stF B k)) (place := (B.txs.getD (B.kept.getD k 0) tx0).com) hs.2 hN (L.length - (Y3 B L s0 k).1) (Y3 B L s0 k).1 rfl j1 j2
   have e0 : Y3 B L s0 (k + 1) = ((ZfW (Z2 (stF B k)) L (B.txs.getD (B.kept.getD k 0) tx0).com (Y3 B L s0 k).1 (Y3 B L s0 k).2).1, ZjW (Z2 (stF B k)) (ZfW (Z2 (stF B k)) L (B.txs.getD (B.kept.getD k 0) tx0).com (Y3 B L s0 k).1 (Y3 B L s0 k).2).2 (B.txs.getD (B.kept.getD k 0) tx0).rds (B.txs.getD (B.kept.getD k 0) tx0).rds.length) := rfl
   rw [e0]
   have e1 : Zsp (Z2 (stF B k)) L (B.txs.getD (B.kept.getD k 0) tx0).com (L.length - (Y3 B L s0 k).1) (Y3 B L s0 k).1 (Y3 B L s0 k).2 = ZfW (Z2 (stF B k)) L (B.txs.getD (B.kept.getD k 0) tx0).com (Y3 B L s0 k).1 (Y3 B L s0 k).2 := rfl
   rw [e1] at a1 a2 a3 a4 a5
   generalize ZfW (Z2 (stF B k)) L (B.txs.getD (B.kept.getD k 0) tx0).com (Y3 B L s0 k).1 (Y3 B L s0 k).2 = e at *
   have hrd : ∀ R ∈ (B.txs.getD (B.kept.getD k 0) tx0).rds, g0 R < x.length := fun R hR => by
    obtain ⟨n, a, b, c, d, rfl⟩ := (rd.1 R).1 hR
    show (n : Int) < _; omega
   have a6 := Zpu a5 (Z2 (stF B k)) _ hrd _ (ZIQ _)
   refine ⟨a2, a6.congr fun i r => ?_, fun q q1 q2 => ?_⟩
   ·rw [List.take_length]
    have kq : ∀ q, (Y3 B L s0 k).1 <= q -> q < e.1 -> (Yo x (g0 (L.getD q [])).toNat).length = k := fun q q1 q2 => by
     have b1 := j3 q q1 (by omega)
     have b2 := a3 q q1 q2
     have b3 := (Zf6 x (m := (g0 (L.getD q [])).toNat) (n := (B.txs.getD (B.kept.getD k 0) tx0).com.toNat) (by omega)).1
     omega
    constructor
    ·rintro (((b | ⟨b, q, c, d⟩ | ⟨b, k', c, d⟩) | ⟨b, q, c1, c2, c3, c4⟩) | ⟨b, R, c, d⟩)
     ·exact .inl b
     ·exact .inr (.inl ⟨b, q, by omega, d⟩)
     ·exact .inr (.inr ⟨b, k', by omega, d⟩)
     ·exact .inr (.inl ⟨b, q, c2, c3, by rw [c3, kq q c1 c2]; exact c4⟩)
     ·exact .inr (.inr ⟨b, k, by omega, R, c, d⟩)
    ·rintro (b | ⟨b, q, c, d⟩ | ⟨b, k', c, R, d, g⟩)
     ·exact .inl (.inl (.inl b))
     ·rcases ZIU q (Y3 B L s0 k).1 with p | p
      ·exact .inl (.inl (.inr (.inl ⟨b, q, p, d⟩)))
      ·refine .inl (.inr ⟨b, q, p, c, d.1, ?_⟩)
       have := d.2
       rw [d.1, kq q p c] at this; exact this
     ·rcases ZIU k' k with p | p
      ·exact .inl (.inl (.inr (.inr ⟨b, k', p, R, d, g⟩)))
      ·have : k' = k := by omega
       subst this
       exact .inr ⟨b, R, d, g⟩
   ·have b1 := a4 q q1 q2
    obtain ⟨n, n1, n2, n3⟩ := ZO q q2
    rw [n3] at b1 ⊢
    rw [ZI7]
    have hne : n ≠ (B.txs.getD (B.kept.getD k 0) tx0).com.toNat := fun e => by rw [<- e] at hk5; omega
    have b3 := (Zf6 x (m := (B.txs.getD (B.kept.getD k 0) tx0).com.toNat + 1) (n := n) (by omega)).1
    have b4 : Yo x ((B.txs.getD (B.kept.getD k 0) tx0).com.toNat + 1) = Yo x (B.txs.getD (B.kept.getD k 0) tx0).com.toNat ++ [xw (xa x (B.txs.getD (B.kept.getD k 0) tx0).com.toNat)] := by rw [Zda, if_pos hk5]
    rw [b4, ZI5, ZIO] at b3
    omega
 obtain ⟨j1, j2, j3⟩ := key B.kept.length (ZIQ _)
 obtain ⟨a1, a2, a3, a4, a5⟩ := Zkn (f := Z2 (stF B B.kept.length)) (place := (x.length : Int)) hs.2 hN (L.length - (Y3 B L s0 B.kept.length).1) (Y3 B L s0 B.kept.length).1 rfl j1 j2
 have e1 : Zsp (Z2 (stF B B.kept.length)) L (x.length : Int) (L.length - (Y3 B L s0 B.kept.length).1) (Y3 B L s0 B.kept.length).1 (Y3 B L s0 B.kept.length).2 = ZfW (Z2 (stF B B.kept.length)) L (x.length : Int) (Y3 B L s0 B.kept.length).1 (Y3 B L s0 B.kept.length).2 := rfl
 rw [e1] at a1 a2 a3 a4 a5
 show (if (ZfW (Z2 (stF B B.kept.length)) L (x.length : Int) (Y3 B L s0 B.kept.length).1 (Y3 B L s0 B.kept.length).2).2.2 = 0 then ((-1 : Int), (0 : Int)) else _) = _
 generalize ZfW (Z2 (stF B B.kept.length)) L (x.length : Int) (Y3 B L s0 B.kept.length).1 (Y3 B L s0 B.kept.length).2 = e at *
 have hall : e.1 = L.length := by
  rcases ZIU e.1 L.length with p | p
  ·have := a4 e.1 (ZIQ _) p
   have := hN e.1 p
   omega
  ·omega
 have kq : ∀ q, (Y3 B L s0 B.kept.length).1 <= q -> q < L.length -> (Yo x (g0 (L.getD q [])).toNat).length = B.kept.length := fun q q1 q2 => by
  have b1 := j3 q q1 q2
  have b2 := hN q q2
  have b3 := (Zf6 x (m := (g0 (L.getD q [])).toNat) (n := x.length) (by omega)).1
  rw [Zjp h] at b3
  omega
 refine Zt1 (a5.congr fun i r => ?_)
 rw [<- ZFr h, hall]
 have ZFA : ∀ R, R ∈ L -> ∃ q, q < L.length /\ L.getD q [] = R := fun R hR => by
  obtain ⟨q, hq, rfl⟩ := List.getElem_of_mem hR
  exact ⟨q, hq, by rw [ZI0, ZI3 hq, ZIV]⟩
 have lget : ∀ q, q < L.length -> L.getD q [] ∈ L := fun q hq => by
  rw [ZI0, ZI3 hq, ZIV]; exact ZJn hq
 constructor
 ·rintro ((b | ⟨b, q, c, d⟩ | b) | ⟨b, q, c1, c2, c3, c4⟩)
  ·exact .inl b
  ·exact .inr (.inl ⟨b, _, (hmem _).1 (lget q (by omega)), d⟩)
  ·exact .inr (.inr b)
  ·exact .inr (.inl ⟨b, _, (hmem _).1 (lget q c2), c3, by rw [c3, kq q c1 c2]; exact c4⟩)
 ·rintro (b | ⟨b, R, c, d⟩ | b)
  ·exact .inl (.inl b)
  ·obtain ⟨q, hq, rfl⟩ := ZFA R ((hmem _).2 c)
   rcases ZIU q (Y3 B L s0 B.kept.length).1 with p | p
   ·exact .inl (.inr (.inl ⟨b, q, p, d⟩))
   ·refine .inr ⟨b, q, p, hq, d.1, ?_⟩
    have := d.2
    rw [d.1, kq q p hq] at this; exact this
  ·exact .inl (.inr (.inr b))
theorem Zzf {B : Bk} {m : List (Int × Int)} (h : ∀ t ∈ B.txs, Zu m t.who = true) (n : Int) : YM (Zyz B m) n (n, 0) := .inl ⟨rfl, fun i r ⟨_, t, ht, q, _⟩ => by rw [h t ht] at q; cases q⟩
theorem ZyF {B : Bk} {m : List (Int × Int)} (h : ∀ t ∈ B.txs, Zu m t.who = true) : Znn B m = B.out := by
 unfold Znn
 rw [List.filter_eq_nil_iff.2 (fun t ht => by rw [h t ht]; simp)]
 simp
theorem ZIl {L : List Tx} (hn : (L.map (·.who)).Nodup) {k : Int} {j : Nat} (hj : ixL k L = j) {t : Tx} (ht : t ∈ L) (hw : t.who = k) : t = L.getD j tx0 := by
 obtain ⟨i, hi, rfl⟩ := List.getElem_of_mem ht
 have := ZeL hn hi
 rw [Y8 hi, hw, hj] at this
 rw [this, Y8 hi]
theorem ZzP {B : Bk} {left : List (Int × Int)} (hl : (left.map (·.1)).Nodup) (hn : (B.txs.map (·.who)).Nodup) {k : Int} {j : Nat} (hj : ixL k B.txs = j) (hjl : j < B.txs.length) (i r : Int) :
  Zyz B (ZaQ left k) i r ↔ Zyz B left i r \/ (r = 3 /\ i ∈ (B.txs.getD j tx0).bad) := by
 have hm : B.txs.getD j tx0 ∈ B.txs := by rw [Y8 hjl]; exact ZJn hjl
 have hw : (B.txs.getD j tx0).who = k := by rw [<- hj] at hjl ⊢; exact Za3 hjl
 constructor
 ·rintro ⟨a, t, ht, b, c⟩
  rw [mhas_del' hl] at b
  by_cases q : k = t.who
  ·right; rw [ZIl hn hj ht q.symm] at c; exact ⟨a, c⟩
  ·rw [if_neg q] at b; exact .inl ⟨a, t, ht, b, c⟩
 ·rintro (⟨a, t, ht, b, c⟩ | ⟨a, c⟩)
  ·refine ⟨a, t, ht, ?_, c⟩
   rw [mhas_del' hl]; split
   ·rfl
   ·exact b
  ·exact ⟨a, _, hm, by rw [mhas_del' hl, if_pos hw.symm], c⟩
theorem Zlu {left : List (Int × Int)} (hl : (left.map (·.1)).Nodup) {k : Int} : ∀ {l : List Tx}, (∀ t ∈ l, t.who ≠ k) -> l.filter (fun t => !Zu (ZaQ left k) t.who && decide (t.com < 0)) = l.filter fun t => !Zu left t.who && decide (t.com < 0) := fun {l} h =>
 List.filter_congr fun t ht => by rw [mhas_del' hl, if_neg (fun q => h t ht q.symm)]
theorem ZAC {B : Bk} {left : List (Int × Int)} (hl : (left.map (·.1)).Nodup) (hn : (B.txs.map (·.who)).Nodup) {k : Int} {j : Nat} (hj : ixL k B.txs = j) (hjl : j < B.txs.length) (hk : Zu left k = true) :
  (Znn B (ZaQ left k)).Perm (Znn B left ++ if (B.txs.getD j tx0).com < 0 then (B.txs.getD j tx0).rds else []) := by
 have hw : (B.txs.getD j tx0).who = k := by rw [<- hj] at hjl ⊢; exact Za3 hjl
 have e := ZqG (d := tx0) hjl
 have h1 : ∀ t ∈ B.txs.take j, t.who ≠ k := fun t ht q => by
  obtain ⟨i, hi, rfl⟩ := List.getElem_of_mem ht
  rw [ZI2] at hi
  rw [List.getElem_take] at q
  have := ZeL hn (j := i) (by omega)
  rw [Y8 (by omega), q, hj] at this; omega
 have h2 : ∀ t ∈ B.txs.drop (j + 1), t.who ≠ k := fun t ht q => by
  obtain ⟨i, hi, rfl⟩ := List.getElem_of_mem ht
  rw [ZJe] at hi
  rw [List.getElem_drop] at q
  have := ZeL hn (j := j + 1 + i) (by omega)
  rw [Y8 (by omega), q, hj] at this; omega
 unfold Znn
 have s1 := Zlu hl h1
 have s2 := Zlu hl h2
 generalize hA : B.txs.take j = A at *
 generalize hC : B.txs.drop (j + 1) = C at *
 generalize hT : B.txs.getD j tx0 = t at *
 rw [e, List.filter_append, List.filter_append, List.filter_append, List.filter_append, s1, s2]
 have f1 : [t].filter (fun t => !Zu left t.who && decide (t.com < 0)) = [] := by simp [hw, hk]
 have f2 : [t].filter (fun t => !Zu (ZaQ left k) t.who && decide (t.com < 0)) = if t.com < 0 then [t] else [] := by
  have : Zu (ZaQ left k) t.who = false := by rw [mhas_del' hl, if_pos hw.symm]
  by_cases q : t.com < 0
  ·rw [if_pos q]; simp [this, q]
  ·rw [if_neg q]; simp [this, q]
 rw [f1, f2]
 simp only [List.flatMap_append, List.nil_append]
 by_cases q : t.com < 0
 ·rw [if_pos q, if_pos q, List.flatMap_singleton, ZJo, ZJo]
  refine List.Perm.append_left _ (List.Perm.append_left _ ?_)
  exact List.perm_append_comm
 ·rw [if_neg q, if_neg q]; simp
theorem ZEg {l : List Tx} {n : Nat} (h : ∀ t ∈ l, t.rds.length <= n) : (l.flatMap (·.rds)).length <= l.length * n := by
 induction l with
 | nil => simp
 | cons t l ih =>
  rw [List.flatMap_cons, ZI5, ZJk]
  have a := ih fun s hs => h s (List.mem_cons.2 (.inr hs))
  have b := h t (List.mem_cons.2 (.inl rfl))
  have : (l.length + 1) * n = l.length * n + n := by rw [Nat.add_mul, Nat.one_mul]
  omega
theorem ZC4 {B : Bk} {n : Nat} (h : WfB B n) (hn : n <= 400) (left : List (Int × Int)) : (Znn B left).length <= 160400 := by
 unfold Znn
 rw [ZI5]
 have a := h.ol
 have b := ZEg (l := B.txs.filter fun t => !Zu left t.who && decide (t.com < 0)) (n := n) (fun t ht => (h.rl t (List.mem_filter.1 ht).1).1)
 have c : (B.txs.filter fun t => !Zu left t.who && decide (t.com < 0)).length <= n := Nat.le_trans (List.length_filter_le _ _) h.lt
 have d := Nat.mul_le_mul c (ZIQ n)
 have e := Nat.mul_le_mul hn hn
 omega
theorem ZGw {x : List Ent} {B : Bk} (h : Go x B) {t : Tx} (ht : t ∈ B.txs) : ∀ i ∈ t.bad, i < x.length := fun i hi => by
 obtain ⟨t1, t2⟩ := h.tx ht
 rw [t1] at hi
 obtain ⟨n, a, _, _, _, _, rfl⟩ := ((ZfN t2 h.nf).2 i).1 hi
 omega
theorem ZBd {m : List (Int × Int)} {f : Int -> Bool × (List UInt8 × Bool)} (h : Zmt m f) (s : Int × Int) (l : List (List Int)) : ∀ j, ZjW (Z5 m) s l j = ZjW (Z2 f) s l j
 | 0 => rfl
 | j + 1 => by
  unfold ZjW
  rw [ZBd h s l j, Zts h]
theorem ZHj {m : List (Int × Int)} {f : Int -> Bool × (List UInt8 × Bool)} (h : Zmt m f) (L : List (List Int)) (pl : Int) (p : Nat) (s : Int × Int) : ZfW (Z5 m) L pl p s = ZfW (Z2 f) L pl p s := by
 have : Z5 m = Z2 f := by funext r; exact Zts h r
 rw [this]
theorem ZCN {x : List Ent} (h : ZhS x = 0) : x.length <= 400 := by
 unfold ZhS at h
 split at h
 ·cases h
 ·omega
theorem ZCu {x : List Ent} (h : ZhS x ≠ 0) : Zne x = (0, 0, ZhS x) := by unfold Zne; rw [if_pos h]
theorem ZxO {x : List Ent} (h : ZhS x = 0) (hf : 0 <= (Yf x x.length).fault) : Zne x = ((Yf x x.length).fault, (Yf x x.length).what, 0) := by
 have hm : ∀ i < x.length, ZcA (xa x i) = true := by
  have hc := h
  unfold ZhS at hc
  split at hc
  ·cases hc
  ·split at hc
   ·rename_i q
    unfold Zkv at q
    rw [Zo] at q; exact q
   ·cases hc
 obtain ⟨r1, r2⟩ := Zur x x.length hm
 have h0 : 0 <= (ZfY x x.length).1 := Classical.byContradiction fun q => by
  have := (r1 ⟨q, hm⟩).ft
  omega
 obtain ⟨a, b⟩ := r2 h0
 unfold Zne
 rw [if_neg (fun q => q h), if_pos h0, a, b]
theorem Zzc {x : List Ent} (h : ZhS x = 0) (hg : Go x (Zme x)) : Zne x = ((ZeN x x.length).1, (ZeN x x.length).2, 0) := by
 unfold Zne
 rw [if_neg (fun q => q h), if_neg hg.nf.1]
theorem ZEM {R : List (List Int)} {ks : List Nat} {n : Nat} (hn : n < ks.length) : ((Zdb R ks).getD n []).getD 0 0 = g0 (R.getD (ks.getD n 0) []) := by
 unfold Zdb
 rw [ZI0 (l := ks.map _), ZIW, ZI3 hn, ZI0 (l := ks), ZI3 hn]; rfl
theorem map_nil (B : Bk) : Zmt [] (stF B 0) := fun q => ⟨rfl, rfl⟩
def bG : SX := usG 561 xX (Zr xX) z0
def bK (R : SX) : SX := usR 548 xX (Zr xX) R
def bO : SX := usR 549 xX (Zr xX) z0
def Zsl : Ctr := ⟨hA ++ [.int], [.one (hS 0), .one (.ptr (ai 6) 0)], [hC 0 0, bkC (ai 6) xX], [eLe z0 (ai 6)], [.int, .int, .int, .int, .int, .rows], .tup [],
 [hC 0 0, .cel (ai 6) 0 (bkQ (ai 7) (ai 8) (Zr (bK (rA 12))) (ai 9) (ai 10) (Zr bO) (ai 11) (usI 550 xX (Zr xX) z0) (usI 551 xX (Zr xX) z0)), imC (ai 7) (wM (rA 12) bG), pAr (ai 8) (bK (rA 12)) (ai 9), rAr (ai 10) bO (ai 11), txC (rA 12) bG],
 [eLe z0 (ai 7), eLe (Zr (bK (rA 12))) (ai 9), .f2 50 (eLe z0 (ai 8)) (.f2 45 (Zr (bK (rA 12))) z0), eLe (Zr bO) (ai 11), .f2 50 (eLe z0 (ai 10)) (.f2 45 (Zr bO) z0), usB 558 (rA 12) bG z0, usB 560 (bK (rA 12)) (rA 12) z0, eLe (Zr (bK (rA 12))) (Zr xX), eLe (Zr bO) (Zr xX)]⟩
theorem Zq1 {b c : Int} {x : List (List Int)} {fs : List Go.Eng.Fd} (hf : 0 < fs.length) {h : Hl} (hd : rAD (.rows fs) b x c h) : (x.length : Int) <= c /\ (0 <= b \/ (x.length : Int) = 0) := by
 have h1 := ZA9 hf hd
 obtain ⟨sp, l1, l2, l3, l4⟩ := hd
 refine ⟨h1, ?_⟩
 rcases l3 with h | h
 ·exact .inl h
 ·right
  have h : c = 0 := h
  omega
theorem ZDN (S : Sig GG) (hS : JtSig S) : ZfQ S Zsl := by
 refine ZcZ S fun T w0 ρ h hu hp hd hr hpre => ?_
 have hT := hS.of hu hp
 have e1 : hpDen T ρ w0 Zsl.pre = Ze ((hC 0 0).den T ρ w0) (Ze ((bkC (ai 6) xX).den T ρ w0) emp) := rfl
 have r0 := hr (eLe z0 (ai 6)) (by simp [Zsl])
 rw [Zj] at r0
 have r0 : 0 <= ((ai 6).den T ρ).tI := r0
 rw [e1, ZmS hT, ZrR, if_neg (by omega), Zl] at hpre
 obtain ⟨p, q, d, rfl, hpp, ma, kb, kc, ob, oc, R, hq⟩ := hpre
 have hX0 : ∀ ρ : Go.Eng.Env GG, (xX.den T ρ).tR = ((rA 4).den T ρ).tR.take (ρ 2).tI.toNat := fun _ => rfl
 generalize hx : (xX.den T ρ).tR = X at hq
 let ρ' : Go.Eng.Env GG := (((((ρ.upd 7 (.int ma)).upd 8 (.int kb)).upd 9 (.int kc)).upd 10 (.int ob)).upd 11 (.int oc)).upd 12 (.rows R)
 have hlow : ∀ i, i < 7 -> ρ' i = ρ i := fun i hi => by
  show ((((((ρ.upd 7 (.int ma)).upd 8 (.int kb)).upd 9 (.int kc)).upd 10 (.int ob)).upd 11 (.int oc)).upd 12 (.rows R)) i = ρ i
  simp only [Env.upd]
  repeat rw [if_neg (by omega)]
 have hx' : (xX.den T ρ').tR = X := by rw [<- hx]; rfl
 have hL : ((Zr xX).den T ρ').tI.toNat = X.length := by
  show ((((xX.den T ρ').tR.length : Nat) : Int)).toNat = _
  rw [hx']; omega
 have hL2 : ((Zr xX).den T ρ').tI = (X.length : Nat) := by
  show (((xX.den T ρ').tR.length : Nat) : Int) = _
  rw [hx']
 have w1 : (bG.den T ρ') = .g (.tx (Yf X X.length).txs) := by
  have : (bG.den T ρ') = U.co T .g (T.usr 561 (xX.den T ρ') ((Zr xX).den T ρ') (z0.den T ρ') (z0.den T ρ')) := rfl
  rw [this, hT.u561, hL, hx']; rfl
 have w2 : (wM (rA 12) bG).den T ρ' = .amap (Zff R (Yf X X.length).txs) := by
  have : (wM (rA 12) bG).den T ρ' = U.co T .amap (T.usr 547 ((rA 12).den T ρ') (bG.den T ρ') (z0.den T ρ') (z0.den T ρ')) := rfl
  rw [this, hT.u547, w1]; rfl
 have w3 : (bK (rA 12)).den T ρ' = .rows (Zdb R (Yf X X.length).kept) := by
  have : (bK (rA 12)).den T ρ' = U.co T .rows (T.usr 548 (xX.den T ρ') ((Zr xX).den T ρ') ((rA 12).den T ρ') (z0.den T ρ')) := rfl
  rw [this, hT.u548, hL, hx']; rfl
 have w4 : bO.den T ρ' = .rows (Yf X X.length).out := by
  have : bO.den T ρ' = U.co T .rows (T.usr 549 (xX.den T ρ') ((Zr xX).den T ρ') (z0.den T ρ') (z0.den T ρ')) := rfl
  rw [this, hT.u549, hL, hx']; rfl
 have w7 : (usI 550 xX (Zr xX) z0).den T ρ' = .int (Yf X X.length).fault := by
  have : (usI 550 xX (Zr xX) z0).den T ρ' = U.co T .int (T.usr 550 (xX.den T ρ') ((Zr xX).den T ρ') (z0.den T ρ') (z0.den T ρ')) := rfl
  rw [this, hT.u550, hL, hx']; rfl
 have w8 : (usI 551 xX (Zr xX) z0).den T ρ' = .int (Yf X X.length).what := by
  have : (usI 551 xX (Zr xX) z0).den T ρ' = U.co T .int (T.usr 551 (xX.den T ρ') ((Zr xX).den T ρ') (z0.den T ρ') (z0.den T ρ')) := rfl
  rw [this, hT.u551, hL, hx']; rfl
 have hk : (Zdb R (Yf X X.length).kept).length = (Yf X X.length).kept.length := by unfold Zdb; rw [ZJa]
 have n3 : ((Zr (bK (rA 12))).den T ρ').tI = ((Yf X X.length).kept.length : Nat) := by
  show ((((bK (rA 12)).den T ρ').tR.length : Nat) : Int) = _
  rw [w3, U.tRi, hk]
 have n4 : ((Zr bO).den T ρ').tI = ((Yf X X.length).out.length : Nat) := by
  show (((bO.den T ρ').tR.length : Nat) : Int) = _
  rw [w4, U.tRi]
 have hwf := Zit X X.length
 refine ⟨ρ', hlow, ?_, ?_⟩
 ·have e2 : hpDen T ρ' w0 Zsl.post = Ze ((hC 0 0).den T ρ' w0) (Ze ((Ch.cel (ai 6) 0 (bkQ (ai 7) (ai 8) (Zr (bK (rA 12))) (ai 9) (ai 10) (Zr bO) (ai 11) (usI 550 xX (Zr xX) z0) (usI 551 xX (Zr xX) z0))).den T ρ' w0) (Ze ((imC (ai 7) (wM (rA 12) bG)).den T ρ' w0)
   (Ze ((pAr (ai 8) (bK (rA 12)) (ai 9)).den T ρ' w0) (Ze ((rAr (ai 10) bO (ai 11)).den T ρ' w0) (Ze (T.prd 100 w0 ((rA 12).den T ρ') (bG.den T ρ')) emp))))) := rfl
  rw [e2, Zv3, ZsP, Zta, ZjI, Zl, hT.p100, n3, n4, w1, w2, w3, w4, w7, w8]
  refine ⟨p, q, d, rfl, hpp, ?_⟩
  simp only [U.tRi, U.tMi, U.tIi, ZaN]
  exact hq
 ·obtain ⟨_, _, _, hq⟩ := Zet hq
  obtain ⟨_, _, hm, hq⟩ := Zet hq
  obtain ⟨_, _, hka, hq⟩ := Zet hq
  obtain ⟨_, _, hoa, ht⟩ := Zet hq
  have k1 := Zq1 (by decide) hka
  have k2 := Zq1 (by decide) hoa
  have hl := Zb6 ht
  rw [hk] at k1
  have p50' : ∀ a b c d : SX, ((Go.Eng.SX.f2 50 (eLe a b) (.f2 45 c d)).den T ρ').tP = ((a.den T ρ').tI <= (b.den T ρ').tI \/ (c.den T ρ').tI = (d.den T ρ').tI) := fun a b c d => by
   have e : (Go.Eng.SX.f2 50 (eLe a b) (.f2 45 c d)).den T ρ' = ap2 50 ((eLe a b).den T ρ') (ap2 45 (c.den T ρ') (d.den T ρ')) := rfl
   have e2 := Zj T ρ' a b
   have e3 : (((eLe a b).den T ρ').toBool = true) = ((a.den T ρ').tI <= (b.den T ρ').tI) := by
    have h1 := Zge T ρ' a b
    rw [h1, U.tQi, decide_eq_true_eq]
   rw [e, p50, e3, Zps, U.tQi, beq_iff_eq]
  have a7 : ((ai 7).den T ρ').tI = ma := rfl
  have a8 : ((ai 8).den T ρ').tI = kb := rfl
  have a9 : ((ai 9).den T ρ').tI = kc := rfl
  have a10 : ((ai 10).den T ρ').tI = ob := rfl
  have a11 : ((ai 11).den T ρ').tI = oc := rfl
  have az : (z0.den T ρ').tI = 0 := rfl
  intro x hx
  simp only [Zsl, List.mem_cons, List.not_mem_nil, or_false] at hx
  rcases hx with rfl | rfl | rfl | rfl | rfl | rfl | rfl | rfl | rfl
  ·rw [Zj, a7, az]; exact hm.1
  ·rw [Zj, n3, a9]; exact k1.1
  ·rw [p50', n3, a8, az]; exact k1.2
  ·rw [Zj, n4, a11]; exact k2.1
  ·rw [p50', n4, a10, az]; exact k2.2
  ·have : (usB 558 (rA 12) bG z0).den T ρ' = U.co T .bool (T.usr 558 ((rA 12).den T ρ') (bG.den T ρ') (z0.den T ρ') (z0.den T ρ')) := rfl
   rw [this, hT.u558, w1, ZbI, U.tQi, U.tPi, Zo]
   exact ⟨hl, (Zg2 ht).1, (Zg2 ht).2⟩
  ·have : (usB 560 (bK (rA 12)) (rA 12) z0).den T ρ' = U.co T .bool (T.usr 560 ((bK (rA 12)).den T ρ') ((rA 12).den T ρ') (z0.den T ρ') (z0.den T ρ')) := rfl
   rw [this, hT.u560, w3, ZbI, U.tQi, U.tPi, Zo]
   exact Zmc fun k hk => by have := hwf.ki k hk; omega
  ·rw [Zj, n3, hL2]; have := hwf.kl; omega
  ·rw [Zj, n4, hL2]; have := hwf.ol; omega
/-! ### Serial -/
def Zsv : Ctr := ⟨hA, [.one (hS 0)], [hC 0 0], [eLe z0 (ai 2), eLe (ai 2) (Zr (rA 4)), eLe (ai 2) (ai 3), eLe (ai 2) (.int 1099511627776)], [.int, .int, .int], .tup [(false, [.int .i64 (ai 6)]), (false, [.int .i64 (ai 7)]), (false, [.int .i64 (ai 8)])], [hC 0 0],
 [.f2 45 (ai 6) (usI 520 xX z0 z0), .f2 45 (ai 7) (usI 521 xX z0 z0), .f2 45 (ai 8) (usI 522 xX z0 z0)]⟩
def lc (n : Nat) : SX := rA (1000000 + n)
def sraI (m R it a w l : Nat) : Inv := ⟨[.amap, .ints, .int, .int, .int, .int, .rows], [],
 [.itr (.int .i64) (.one .ptr) (ai m) (wM (rA R) bG) (ai it) (mA 1000000) (iA 1000001), .cel (ai a) 0 [.int .i64 (di 2)], .cel (ai w) 0 [.int .i64 (di 3)], .cel (ai l) 0 [slC (di 4) (Zr (lc 6)) (di 5) 7], rAr (di 4) (lc 6) (di 5)],
 [usB 571 (mA 1000000) (wM (rA R) bG) z0, .us .bool 586 xX (mA 1000000) (Zeq (di 2) (di 3)) (ai 2), usB 587 xX (mA 1000000) (lc 6), eLe (Zr (lc 6)) (di 5), .f2 50 (eLe z0 (di 4)) (.f2 45 (Zr (lc 6)) z0)], .f1 33 (mA 1000000)⟩
def srbX (k : Nat) (sa sw ix : SX) (j : SX) : SX := usI k (Zeq sa sw) (usN 546 bG ix z0) j
def srbI (a w sa sw : Nat) (ix : SX) : Inv := ⟨[.int], [(64, .one (.int .i64 (di 0)))], [.cel (ai a) 0 [.int .i64 (srbX 584 (ai sa) (ai sw) ix (di 0))], .cel (ai w) 0 [.int .i64 (srbX 585 (ai sa) (ai sw) ix (di 0))]],
 [eLe z0 (di 0), eLe (di 0) (Ze1 (usN 546 bG ix z0))], .f2 41 (Ze1 (usN 546 bG ix z0)) (di 0)⟩
def srP (R k : Nat) : SX := .f3 140 z0 (wM (rA R) bG) (ai k)
def ZDp (k L sa sw : Nat) (n : SX) : SX := .us .int k xX (rA L) (Zeq (ai sa) (ai sw)) n
def srkI (a w l b L sa sw m R : Nat) : Inv := ⟨[.int, .int, .int, .int, .amap], [(92, .one (.int .i64 (di 0)))], [.cel (ai l) 0 [.slice (ai b) z0 (ZDp 593 L sa sw (di 0)) (di 1) (di 2) (di 3) 7], .cel (ai a) 0 [.int .i64 (ZDp 594 L sa sw (di 0))], .cel (ai w) 0 [.int .i64 (ZDp 595 L sa sw (di 0))], scC (ai m) (mA 1000004)],
 [eLe z0 (di 0), eLe (di 0) (Zr (bK (rA R))), eLe z0 (di 2), eLe (di 2) (di 3), .f2 45 (.f2 40 (ZDp 593 L sa sw (di 0)) (di 2)) (Zr (rA L)), usB 596 xX (di 0) (mA 1000004)], .f2 41 (Zr (bK (rA R))) (di 0)⟩
def srK (R k : Nat) : SX := nt (bK (rA R)) (ai k) 0
def srE (q L sa sw k m : Nat) (ix : SX) : SX := usI q (rA L) (mA m) (Zk7 (ZDp 593 L sa sw (ai k)) (ZDp 594 L sa sw (ai k)) (ZDp 595 L sa sw (ai k)) (usI 542 bG ix z0))
def srrX (q L sa sw k m : Nat) (ix j : SX) : SX := .us .int q (Zeq (srE 591 L sa sw k m ix) (srE 592 L sa sw k m ix)) (usR 545 bG ix z0) j (mA m)
def srsI (a w L sa sw k m : Nat) (ix : SX) : Inv := ⟨[.int], [(107, .one (.int .i64 (di 0)))], [.cel (ai a) 0 [.int .i64 (srrX 597 L sa sw k m ix (di 0))], .cel (ai w) 0 [.int .i64 (srrX 598 L sa sw k m ix (di 0))]],
 [eLe z0 (di 0), eLe (di 0) (Zr (usR 545 bG ix z0))], .f2 41 (Zr (usR 545 bG ix z0)) (di 0)⟩
def ZIF : Cx := { specs := notS ++ [(25, [Zyh]), (47, [Zl5]), (26, [Zxv]), (46, [ZsJ]), (44, [ZcV]), (43, [Zuc])], anns := [(23, [(4, .ghost Zsl [.tmp 0, .tmp 5]), (10, .inv (sraI 8 13 20 14 15 19)), (12, .ghost ZyE [.tmp 12]), (13, .inv (srbI 14 15 23 24 (ixB (rA 13) (srP 13 28)))), (500017, .ghost Zrj [.tmp 12]), (18, .ghost ZyE [.tmp 12]), (500018, .ghost Zrj [.tmp 12]), (23, .inv (srkI 14 15 19 25 28 23 24 29 13)), (25, .ghost ZyE [.tmp 18]), (27, .inv (srsI 14 15 28 23 24 31 35 (ixB (rA 13) (srK 13 31)))), (500032, .ghost Zrj [.tmp 18])])] }
def YQ : SX := .f2 115 (r 4) (a 2)
def ZCT : SX := l z (a 6)
def ZAg : SX := e (a 7) z
def Zt5 : SX := v 520 YQ
def ZAz : SX := v 521 YQ
def ZDJ : SX := e z ZAz
def ZD2 : SX := v 522 YQ
def ZlN : SX := .f1 32 YQ
def ZyK : SX := hR0 548 YQ ZlN (r 13)
def ZhU : SX := .f1 32 ZyK
def ZuH : SX := wR 549 YQ ZlN
def ZfJ : SX := .f1 32 ZuH
def Zxk : SX := e ZfJ z
def ZcD : SX := f 561 YQ ZlN
def Zqx : SX := d 550 YQ ZlN
def Zrg : SX := e z ZD2
def ZfD : SX := wM0 547 (r 13) ZcD
def Zal : SX := .f2 122 (a 23) (.f2 122 (a 24) (.f1 152 z))
def Zyd : SX := l z (a 25)
def Zwl : SX := l z (a 29)
def ZxV : SX := l z (a 30)
def ZwK : SX := x 593 YQ (r 28) Zal
def Zk6 : SX := .us .int 593 YQ (r 28) Zal (a 31)
def Zq4 : SX := .f3 112 ZyK (a 31) z
def ZbV : SX := d 566 (r 13) Zq4
def Zyg : SX := .f3 112 (r 13) ZbV z
def ZpO : SX := v 552 ZcD
def Za6 : SX := wR 545 ZcD ZbV
def ZeK : SX := .f1 32 Za6
def Zx8 : SX := .f1 30 (wN 546 ZcD ZbV)
def Zpy : SX := e (.f1 32 (r 13)) ZpO
def Zyu : SX := l z Zk6
def Ztb : SX := l (.f1 32 (r 28)) (k 1000000)
def Zvi : SX := .f2 50 Zyd (e (a 33) z)
def ZsW : SX := l z (a 37)
def Ztx : SX := l (a 37) (a 38)
def Zye : SX := .us .int 594 YQ (r 28) Zal (a 31)
def Zvs : SX := .us .int 595 YQ (r 28) Zal (a 31)
def Zqo : SX := .f2 122 Zk6 (.f2 122 Zye (.f2 122 Zvs (.f2 122 (d 542 ZcD ZbV) (.f1 152 z))))
def Zs2 : SX := x 590 (r 28) (m 35) Zqo
def ZvZ : SX := x 591 (r 28) (m 35) Zqo
def ZsX : SX := x 592 (r 28) (m 35) Zqo
def ZgU : SX := .f2 122 ZvZ (.f2 122 ZsX (.f1 152 z))
def Zg1 : SX := .f2 40 (a 39) (k 1)
def ZtF : SX := .f1 23 Zg1
def Ztq : SX := .f2 41 ZeK Zg1
def ZsT : SX := l z Ztq
def Ztd : SX := t Ztq (.f2 41 ZeK (a 39))
def ZvK : SX := l z Zg1
def Zxn : SX := l Zg1 ZeK
def Zuf : SX := .us .int 598 ZgU Za6 Zg1 (m 35)
def Zmb : SX := .us .int 597 ZgU Za6 (a 39) (m 35)
def Zlb : SX := .us .int 598 ZgU Za6 (a 39) (m 35)
def Ztl : SX := .f3 112 Za6 (a 39) z
def Zxa : SX := .us .int 597 ZgU Za6 Zg1 (m 35)
def Zed : SX := .f2 40 (a 31) (k 1)
def ZxA : SX := .f2 41 ZhU Zed
def Zwf : SX := .us .int 593 YQ (r 28) Zal Zed
def ZqX : SX := .f2 122 Zk6 (.f2 122 Zye (.f2 122 Zvs (.f2 122 (a 2) (.f1 152 z))))
def Zu5 : SX := x 592 (r 28) (m 35) ZqX
def Zty : SX := e Zu5 z
def Zpi : SX := .f3 140 z ZfD (a 28)
def Zcv : SX := d 566 (r 13) Zpi
def ZxR : SX := .f3 112 (r 13) Zcv z
def ZvO : SX := e Zpi ZxR
def Ztr : SX := t Zcv ZpO
def ZtO : SX := wR 545 ZcD Zcv
def Zie : SX := .f1 32 ZtO
def ZuE : SX := l Zie (.f3 112 (r 13) Zcv (k 3))
def ZeJ : SX := wN 546 ZcD Zcv
def Zei : SX := .f1 30 ZeJ
def ZxC : SX := l Zei (.f3 112 (r 13) Zcv (k 5))
def ZuR : SX := .f2 50 (l z (.f3 112 (r 13) Zcv (k 2))) (e Zie z)
def ZwL : SX := .f2 50 (l z (.f3 112 (r 13) Zcv (k 4))) (e Zei z)
def ZtY : SX := l z (.f3 112 (r 13) Zcv (k 1))
def Zyc : SX := l z ZxR
def Zhn : SX := .f2 40 (a 29) (k 1)
def Zt4 : SX := .f2 41 Zei Zhn
def ZpU : SX := x 584 Zal ZeJ (a 29)
def Zp8 : SX := x 585 Zal ZeJ (a 29)
def ZwD : SX := .f2 110 ZeJ (a 29)
def ZwR : SX := d 542 ZcD Zcv
def Zqh : SX := .f2 40 (.f1 32 (r 27)) Zie
def ZiA : SX := .f2 143 (m 21) (a 28)
def Zx5 : SX := t (.f1 33 ZiA) (.f1 33 (m 21))
def Zyy : SX := c 571 ZiA ZfD
def Zub : SX := .us .bool 586 YQ ZiA (.f2 122 ZpU (.f2 122 Zp8 (.f1 152 z))) (a 2)
def ZGn : VC := i (l z (a 2)) (i (l (a 2) (.f1 32 (r 4))) (i (l (a 2) (a 3)) (i (l (a 2) k0) (u 6 .int (u 7 .int (i (e (a 7) (v 523 YQ)) (i (.f2 48 ZCT ZAg) (.and (i (.f1 2 ZAg) (n (e z Zt5) (n ZDJ (n (e (a 7) ZD2) .tt)))) (i ZAg (n ZCT (u 8 .int (u 9 .int (u 10 .int (u 11 .int (u 12 .int (u 13 .rows (i (l z (a 8)) (i (l ZhU (a 10)) (i (.f2 50 (l z (a 9)) (e ZhU z)) (i (l ZfJ (a 12)) (i (.f2 50 (l z (a 11)) Zxk) (i (c 558 (r 13) ZcD) (i (c 560 ZyK (r 13)) (i (l ZhU ZlN) (i (l ZfJ ZlN) (.and (i (l z Zqx) (n (e Zqx Zt5) (n (e (d 551 YQ ZlN) ZAz) (n Zrg .tt)))) (i (t Zqx z) (u 14 .int (i (l z (a 14)) (u 15 .int (i (l z (a 15)) (u 16 .int (i (l z (a 16)) (n (e ZfJ ZfJ) (n (l ZfJ (k 1000000)) (u 17 .int (u 18 .int (i (l ZfJ (a 18)) (i (.f2 50 (l z (a 17)) Zxk) (u 19 .int (i (l z (a 19)) (u 20 .int (i (l z (a 20)) (n (c 571 ZfD ZfD) (n (.us .bool 586 YQ ZfD (.f2 122 (a 2) (.f2 122 z (.f1 152 z))) (a 2)) (n (y 587 YQ ZfD ZuH) (u 21 .amap (u 22 .ints (u 23 .int (u 24 .int (u 25 .int (u 26 .int (u 27 .rows (i (c 571 (m 21) ZfD) (i (.us .bool 586 YQ (m 21) Zal (a 2)) (i (y 587 YQ (m 21) (r 27)) (i (l (.f1 32 (r 27)) (a 26)) (i (.f2 50 Zyd (e (.f1 32 (r 27)) z)) (.and (i (e (.f1 33 (m 21)) z) (n (e (.f1 32 (r 27)) (.f1 32 (r 27))) (n (l (.f1 32 (r 27)) k1) (u 28 .rows (i (e (.f1 32 (r 28)) (.f1 32 (r 27))) (i (c 580 (r 27) (r 28)) (u 29 .int (i Zwl (u 30 .int (i ZxV (n (e (.f2 40 ZwK (.f1 32 (r 27))) (.f1 32 (r 28))) (n (y 596 YQ z (.f1 155 z)) (n (e (x 595 YQ (r 28) Zal) (a 24)) (n (e (x 594 YQ (r 28) Zal) (a 23)) (n (e ZwK z) (u 31 .int (u 32 .int (u 33 .int (u 34 .int (u 35 .amap (i (l z (a 31)) (i (l (a 31) ZhU) (i (l z (a 33)) (i (l (a 33) (a 34)) (i (e (.f2 40 Zk6 (a 33)) (.f1 32 (r 28))) (i (y 596 YQ (a 31) (m 35)) (.and (i (t (a 31) ZhU) (n (c 565 (r 13) Zq4) (i (e Zq4 Zyg) (i (t ZbV ZpO) (i (l ZeK (.f3 112 (r 13) ZbV (k 3))) (i (l Zx8 (.f3 112 (r 13) ZbV (k 5))) (i (.f2 50 (l z (.f3 112 (r 13) ZbV (k 2))) (e ZeK z)) (i (.f2 50 (l z (.f3 112 (r 13) ZbV (k 4))) (e Zx8 z)) (i (l z (.f3 112 (r 13) ZbV (k 1))) (i (l z Zyg) (i Zpy (n Zyu (n Ztb (n Zvi (u 36 .int (u 37 .int (u 38 .int (i ZsW (i Ztx (i (e (.f2 40 Zs2 (a 37)) (.f1 32 (r 28))) (n (e (.us .int 598 ZgU Za6 z (m 35)) ZsX) (n (e (.us .int 597 ZgU Za6 z (m 35)) ZvZ) (u 39 .int (i (l z (a 39)) (i (l (a 39) ZeK) (.and (i (t (a 39) ZeK) (u 40 .int (i (l z (a 40)) (u 41 .bool (i (.f2 48 (q 41) (c 530 (m 35) (.f2 122 (.f3 112 Za6 (a 39) (k 1)) (.f2 122 (.f3 112 Za6 (a 39) (k 2)) (.f2 122 (.f1 35 (.f1 36 (.f3 112 Za6 (a 39) (k 3)))) (.f2 122 (.f1 35 (.f1 36 (.f3 112 Za6 (a 39) (k 4)))) (.f2 122 (.f1 3 (.f1 2 (e (.f3 112 Za6 (a 39) (k 5)) z))) (.f2 122 (.f3 112 Za6 (a 39) (k 6)) (.f1 152 z))))))))) (.and (i (.f1 2 (q 41)) (n ZtF (n ZsT (n Ztd (n ZvK (n Zxn (n (e Zuf (.us .int 583 Zmb Zlb Ztl (k 4))) (n (e Zxa (.us .int 582 Zmb Zlb Ztl (k 4))) .tt)))))))) (i (.f1 2 (.f1 2 (q 41))) (n ZtF (n ZsT (n Ztd (n ZvK (n Zxn (n (e Zuf Zlb) (n (e Zxa Zmb) .tt)))))))))))))) (i (l ZeK (a 39)) (u 40 .amap (i (y 531 (m 35) (wM0 544 ZcD ZbV) (m 40)) (n (l z ZbV) (n (.f1 23 Zed) (n (l z ZxA) (n (t ZxA (.f2 41 ZhU (a 31))) (n (l z Zed) (n (l Zed ZhU) (n (e (.f2 40 Zwf (a 37)) (.f1 32 (r 28))) (n (y 596 YQ Zed (m 40)) (n (e (.us .int 595 YQ (r 28) Zal Zed) Zlb) (n (e (.us .int 594 YQ (r 28) Zal Zed) Zmb) (n (e Zwf Zs2) .tt)))))))))))))))))))))))))))))))))))))))) (i (l ZhU (a 31)) (n Zyu (n Ztb (n Zvi (u 36 .int (u 37 .int (u 38 .int (i ZsW (i Ztx (i (e (.f2 40 (x 590 (r 28) (m 35) ZqX) (a 37)) (.f1 32 (r 28))) (.and (i Zty (n (e (k (-1)) Zt5) (n ZDJ (n Zrg .tt)))) (i (.f1 2 Zty) (n (e (x 591 (r 28) (m 35) ZqX) Zt5) (n (e Zu5 ZAz) (n Zrg .tt)))))))))))))))))))))))))))))))))))))))))) (u 28 .int (i (.f2 141 (m 21) (a 28)) (n (c 565 (r 13) Zpi) (i ZvO (i Ztr (i ZuE (i ZxC (i ZuR (i ZwL (i ZtY (i Zyc (i Zpy (n (e (d 585 Zal ZeJ) (a 24)) (n (e (d 584 Zal ZeJ) (a 23)) (u 29 .int (i Zwl (i (l (a 29) Zei) (.and (i (t (a 29) Zei) (n (.f1 23 Zhn) (n (l z Zt4) (n (t Zt4 (.f2 41 Zei (a 29))) (n (l z Zhn) (n (l Zhn Zei) (n (e (x 585 Zal ZeJ Zhn) (.us .int 583 ZpU Zp8 ZwD (k 3))) (n (e (x 584 Zal ZeJ Zhn) (.us .int 582 ZpU Zp8 ZwD (k 3))) .tt)))))))) (i (l Zei (a 29)) (n (l z Zcv) (.and (i (t ZwR z) (i ZvO (i Ztr (i ZuE (i ZxC (i ZuR (i ZwL (i ZtY (i Zyc (i Zpy (n (l (.f1 32 (r 27)) (.f1 32 (r 27))) (n (l (.f2 42 Zqh (k 72)) k1) (n (l Zie Zie) (u 30 .int (u 31 .int (i (l Zqh (a 31)) (i (.f2 50 ZxV (e Zqh z)) (n Zx5 (n Zyy (n Zub (n (y 587 YQ ZiA (.f2 121 (r 27) ZtO)) .tt))))))))))))))))))))) (i (l z ZwR) (n Zx5 (n Zyy (n Zub (n (y 587 YQ ZiA (r 27)) .tt)))))))))))))))))))))))))))))))))))))))))))))))))))))))))))))))))))))))))))))))))))))
theorem ZHd : Zdt Tryz.prog ZIF 12 23 Zsv = ZGn := by kernel_rfl
theorem ZGN (S : Sig GG) (hS : JsSig S) : ZG S Tryz.prog 23 Zsv := by
 refine Zh S (C := ZIF) (fuel := 12) (YC ⟨Zk (by decide) (ZBB S hS), Zk (by decide) (ZH5 S hS.jt), Zk (by decide) (ZtG S hS.jt.jb), Zk (by decide) (ZHB S hS.jt.jb), Zk (by decide) (ZGL S hS), Zk (by decide) (ZF1 S hS), Zk (by decide) (ZFV S hS), trivial⟩ ⟨⟨⟨by decide, ZDN S hS.jt⟩, trivial, ⟨by decide, ZhO S hS.jt⟩, trivial, ⟨by decide, Zha S hS.jt⟩, ⟨by decide, ZhO S hS.jt⟩, ⟨by decide, Zha S hS.jt⟩, trivial, ⟨by decide, ZhO S hS.jt⟩, trivial, ⟨by decide, Zha S hS.jt⟩, trivial⟩, trivial⟩ trivial) fun ρ => ?_
 rw [ZHd]
 simp only [ZGn, YQ, ZCT, ZAg, Zt5, ZAz, ZDJ, ZD2, ZlN, ZyK, ZhU, ZuH, ZfJ, Zxk, ZcD, Zqx, Zrg, ZfD, Zal, Zyd, Zwl, ZxV, ZwK, Zk6, Zq4, ZbV, Zyg, ZpO, Za6, ZeK, Zx8, Zpy, Zyu, Ztb, Zvi, ZsW, Ztx, Zye, Zvs, Zqo, Zs2, ZvZ, ZsX, ZgU, Zg1, ZtF, Ztq, ZsT, Ztd, ZvK, Zxn, Zuf, Zmb, Zlb, Ztl, Zxa, Zed, ZxA, Zwf, ZqX, Zu5, Zty, Zpi, Zcv, ZxR, ZvO, Ztr, ZtO, Zie, ZuE, ZeJ, Zei, ZxC, ZuR, ZwL, ZtY, Zyc, Zhn, Zt4, ZpU, Zp8, ZwD, ZwR, Zqh, ZiA, Zx5, Zyy, Zub, hS.jt.jb.rf.u520, hS.jt.jb.rf.u521, hS.jt.jb.rf.u522, hS.jt.jb.rf.u523, hS.jt.jb.u530, hS.jt.jb.u531, hS.jt.u542, hS.jt.u544, hS.jt.u545, hS.jt.u546, hS.jt.u547, hS.jt.u548, hS.jt.u549, hS.jt.u550, hS.jt.u551, hS.jt.u552, hS.jt.u558, hS.jt.u560, hS.jt.u561, hS.jt.u565, hS.jt.u566, hS.jt.u571, hS.u580, hS.u582, hS.u583, hS.u584, hS.u585, hS.u586, hS.u587, hS.u590, hS.u591, hS.u592, hS.u593, hS.u594, hS.u595, hS.u596, hS.u597, hS.u598, ZaN, ZI7, VC.den, SX.den, Env.upd, YA, ZV, beq_iff_eq, ZIZ, beq_eq_false_iff_ne, ne_eq, ZIY, ZIX, Int.reduceToNat, Nat.reduceEqDiff, reduceIte, sB, sC]
 generalize hX : (ρ 4).tR.take (ρ 2).tI.toNat = X
 generalize hlen : (ρ 2).tI = l at *
 intro h1 h2 h3 h4
 have hl : l = (X.length : Nat) := by rw [<- hX, ZI2]; omega
 subst hl
 clear hX hlen
 simp only [ZI7, Zme]
 intro b e he hb
 have hpl : ∀ (R : List (List Int)) (ks : List Nat), (Zdb R ks).length = ks.length := fun R ks => by unfold Zdb; rw [ZJa]
 have hwf := Zit X X.length
 have prOf2 : ∀ u v : Int, ZmA [u, v] = (u, v) := fun _ _ => rfl
 simp only [hpl, prOf2, ZtC, Zwk, ZmU, ZI7]
 refine ⟨fun hne => ?_, fun h0 => ⟨?_, ?_⟩⟩
 ·rw [ZCu (by rw [<- he]; exact hne)]; exact ⟨rfl, rfl, he, trivial⟩
 ·rw [h0] at hb; exact Za.1 (by rw [hb]; rfl)
 have hc : ZhS X = 0 := by rw [<- he]; exact h0
 intro ma kb kc ob oc R q1 q2 q3 q4 q5 q6 q7 q8 q9
 refine ⟨fun hf => ?_, fun hf => ?_⟩
 ·rw [ZxO hc hf]; exact ⟨rfl, rfl, rfl, trivial⟩
 have hgo : Go X (Yf X X.length) := go_of hc hf
 have h400 := ZCN hc
 rw [Zzc hc hgo]
 have hfin := @Zsz X _ hgo
 have hbl := fun t ht => ZGw hgo (t := t) ht
 have hll := ZC4 hwf h400
 have hall : ∀ t ∈ (Yf X X.length).txs, Zu (Zff R (Yf X X.length).txs) t.who = true := Zeh q6.1
 have ZO := fun w => Zcb (w := w) q6.1 0
 have hkeys := Zg7 q6.1
 have hkept : ∀ n < (Yf X X.length).kept.length, (Yf X X.length).kept.getD n 0 < R.length := fun n hn => by rw [q6.1]; exact (hgo.kw hn).1
 have hmst := @Zzk (Yf X X.length)
 have hbst := @ZzP (Yf X X.length)
 have hlst := @ZAC (Yf X X.length)
 have hki : ∀ left i r, Zyz (Yf X X.length) left i r -> True := fun _ _ _ _ => trivial
 generalize Yf X X.length = B at *
 intro ca p1 cw p2 cn p3
 refine ⟨trivial, by omega, fun cb cc p4 p5 lb p6 it p7 => ?_⟩
 refine ⟨⟨by rw [hkeys]; exact hwf.nd, fun k hk => hk⟩, Zzf hall _, by rw [ZyF hall], fun left cur a w lob loc lo g1 g2 g3 g4 g5 => ?_⟩
 refine ⟨fun hz => ?_, fun k hk => ?_⟩
 ·have hz : left = [] := ZJf (by omega)
  subst hz
  refine ⟨trivial, by have := g3.length_eq; have := hll []; omega, fun L s1 s2 mb p8 nb p9 => ?_⟩
  refine ⟨by have : (Y3 B L (a, w) 0).1 = 0 := rfl; omega, map_nil B, rfl, rfl, rfl, fun k z l c M j1 j2 j3 j4 j5 j6 => ?_⟩
  obtain ⟨n, rfl⟩ := ZIS j1
  have en : ((n : Int) + 1).toNat = n + 1 := by omega
  simp only [ZI7, en] at j5 j6 ⊢
  have hends : ∀ pl, ZfW (Z5 M) L pl (Y3 B L (a, w) n).1 (Y3 B L (a, w) n).2 = ZfW (Z2 (stF B n)) L pl (Y3 B L (a, w) n).1 (Y3 B L (a, w) n).2 := fun pl => ZHj j6 L pl _ _
  have hlen : L.length <= 1000000 := by have := g3.length_eq; have := hll []; omega
  have hlo : 0 <= lob \/ l = 0 := by
   rcases g5 with g5 | g5
   ·exact .inl g5
   ·right; omega
  refine ⟨fun hn => ?_, fun hn => ?_⟩
  ·have hn : n < B.kept.length := by omega
   have hJ := hkept n hn
   have hJt : B.kept.getD n 0 < B.txs.length := by rw [<- q6.1]; exact hJ
   have hri := ZcM q6.2.1 hJ
   simp only [ZEM hn, hri, Ze8]
   refine ⟨⟨_, hJ, rfl⟩, fun _ _ _ _ _ _ _ _ _ => ⟨by omega, by omega, hlo, fun z' l' c' j7 j8 j9 => ?_⟩⟩
   have hk1 : Y3 B L (a, w) (n + 1) = ((ZfW (Z2 (stF B n)) L (B.txs.getD (B.kept.getD n 0) tx0).com (Y3 B L (a, w) n).1 (Y3 B L (a, w) n).2).1, ZjW (Z2 (stF B n)) (ZfW (Z2 (stF B n)) L (B.txs.getD (B.kept.getD n 0) tx0).com (Y3 B L (a, w) n).1 (Y3 B L (a, w) n).2).2 (B.txs.getD (B.kept.getD n 0) tx0).rds (B.txs.getD (B.kept.getD n 0) tx0).rds.length) := rfl
   rw [<- hends] at hk1
   have hms := fun M' (hl : Zzo M (B.txs.getD (B.kept.getD n 0) tx0).ch M') => hmst j6 rfl hl
   have hrl := (hwf.rl _ (hgo.kt hn)).1
   generalize B.txs.getD (B.kept.getD n 0) tx0 = t at *
   generalize ZfW (Z5 M) L t.com (Y3 B L (a, w) n).1 (Y3 B L (a, w) n).2 = E at *
   refine ⟨rfl, rfl, fun jj j10 j11 => ⟨fun hlt tb htb v hv => ?_, fun hge M' hl => ?_⟩⟩
   ·obtain ⟨m, rfl⟩ := ZIS j10
    have em : ((m : Int) + 1).toNat = m + 1 := by omega
    simp only [ZI7, em] at hv ⊢
    have st : ZjW (Z5 M) E.2 t.rds (m + 1) = if Z5 M ((t.rds.getD m []).drop 1) = true then ZjW (Z5 M) E.2 t.rds m else Zex (ZjW (Z5 M) E.2 t.rds m) (g0 (t.rds.getD m [])) 4 := rfl
    refine ⟨fun hn => ?_, fun hn => ?_⟩
    ·have hn : ¬ Z5 M ((t.rds.getD m []).drop 1) = true := by rw [<- hv]; simpa using hn
     rw [if_neg hn] at st
     rw [st]
     exact ⟨⟨by omega, by omega⟩, by omega, by omega, by omega, by omega, rfl, rfl, trivial⟩
    ·have hn : Z5 M ((t.rds.getD m []).drop 1) = true := by rw [<- hv]; simpa using hn
     rw [if_pos hn] at st
     rw [st]
     exact ⟨⟨by omega, by omega⟩, by omega, by omega, by omega, by omega, rfl, rfl, trivial⟩
   ·have hjj : jj.toNat = t.rds.length := by omega
    have hrd : ZjW (Z2 (stF B n)) E.2 t.rds t.rds.length = ZjW (Z5 M) E.2 t.rds t.rds.length := (ZBd j6 _ _ _).symm
    rw [hjj, hk1, hrd]
    exact ⟨by omega, ⟨by omega, by omega⟩, by omega, by omega, by omega, by omega, j9, hms M' hl, rfl, rfl, rfl, trivial⟩
  ·have hn : n = B.kept.length := by omega
   subst hn
   refine ⟨by omega, by omega, hlo, fun z' l' c' j7 j8 j9 => ?_⟩
   have hf := hfin g2 g3 (L := L) s2
   simp only [hends] at *
   generalize ZfW (Z2 (stF B B.kept.length)) L (X.length : Int) (Y3 B L (a, w) B.kept.length).1 (Y3 B L (a, w) B.kept.length).2 = E at *
   refine ⟨fun hz => ?_, fun hz => ?_⟩
   ·rw [if_pos hz] at hf
    rw [<- hf]; exact ⟨rfl, rfl, trivial, trivial⟩
   ·rw [if_neg hz] at hf
    rw [<- hf]; exact ⟨rfl, rfl, trivial, trivial⟩
 ·have hm := g1.2 k hk
  obtain ⟨e1, e2⟩ := ZO k
  rw [hm] at e2
  have hjl : ixL k B.txs < B.txs.length := of_decide_eq_true e2.symm
  rw [if_pos hjl] at e1
  have hbs := fun i r => hbst g1.1 hwf.nd (k := k) rfl hjl i r
  have hls := hlst g1.1 hwf.nd (k := k) rfl hjl hk
  have hdel : (ZaQ left k).length < left.length := ZeT hk
  have hnd := ZbU g1.1 k
  have hsub : ∀ q, Zu (ZaQ left k) q = true -> Zu (Zff R B.txs) q = true := fun q hq => by
   rw [mhas_del' g1.1] at hq
   split at hq
   ·cases hq
   ·exact g1.2 q hq
  have hml := hll (ZaQ left k)
  generalize ixL k B.txs = j at *
  have hJ : j < R.length := by rw [q6.1]; exact hjl
  have hri := ZcM q6.2.1 hJ
  have htm : B.txs.getD j tx0 ∈ B.txs := by rw [Y8 hjl]; exact ZJn hjl
  have hbt := hbl _ htm
  have hbw := (hwf.rl _ htm).2
  simp only [e1, hri, Ze8]
  generalize B.txs.getD j tx0 = t at *
  refine ⟨⟨_, hJ, rfl⟩, fun _ _ _ _ _ _ _ _ _ => ⟨rfl, rfl, fun i i0 i1 => ⟨fun hlt => ?_, fun hge => ?_⟩⟩⟩
  ·obtain ⟨m, rfl⟩ := ZIS i0
   have em : ((m : Int) + 1).toNat = m + 1 := by omega
   simp only [ZI7, em]
   exact ⟨⟨by omega, by omega⟩, by omega, by omega, by omega, by omega, rfl, rfl, trivial⟩
  ·have hii : i.toNat = t.bad.length := by omega
   rw [hii]
   have hLP : YM (Zyz B (ZaQ left k)) (X.length : Int) (ZCa (a, w) t.bad t.bad.length) :=
    (ZpK g2 t.bad (fun i hi => hbt i hi) _ (ZIQ _)).congr fun i r => by rw [hbs, List.take_length]
   refine ⟨by omega, fun hcm _ _ _ _ _ _ _ _ _ => ?_, fun hcm => ?_⟩
   ·rw [if_pos hcm] at hls
    have hpm := (g3.append_right t.rds).trans hls.symm
    have hpl := hpm.length_eq
    rw [ZI5] at hpl
    exact ⟨by omega, by omega, by omega, fun _ _ _ _ => ⟨by omega, ⟨hnd, hsub⟩, hLP, hpm, trivial⟩⟩
   ·rw [if_neg (by omega), List.append_nil] at hls
    exact ⟨by omega, ⟨hnd, hsub⟩, hLP, g3.trans hls.symm, trivial⟩
def serQ (k : Nat) : SX := .f2 45 (usI k xX z0 z0) (usI k (rA 10) z0 z0)
def ZvY : Ctr := ⟨hA ++ hA, [.one (hS 0), .one (hS 6)], [hC 0 0, hC 1 6], [eLe z0 (ai 2), eLe (ai 2) (Zr (rA 4)), eLe (ai 2) (ai 3), eLe (ai 2) (.int 1099511627776), serQ 520, serQ 521, serQ 522] ++ hQ 6, [.bool], .one (.bool (qA 12)), [hC 0 0, hC 1 6], [qA 12]⟩
def ZGp : Cx := { specs := [(23, [Zsv]), (24, [Zyb])], anns := [] }
def ZpD : Ctr := ⟨[], [], [], [], [], .one (.bool (.bool true)), [], []⟩
def ZmD : Ctr := ⟨hA ++ hA, [.one (hS 0), .one (hS 6)], [hC 0 0, hC 1 6], hQ 0 ++ hQ 6, [.bool], .one (.bool (qA 12)), [hC 0 0, hC 1 6], [qA 12]⟩
def ZGU : Cx := { specs := [(6, [ZpD]), (7, [ZxW]), (8, [ZvY]), (9, [Zw5]), (10, [ZuJ]), (11, [Zs7])], anns := [] }
def ZAy : SX := .f2 115 (r 4) (a 2)
def ZCU : SX := v 520 ZAy
def ZC5 : SX := v 520 (r 10)
def ZCR : SX := v 521 ZAy
def ZDO : SX := v 521 (r 10)
def ZDo : SX := v 522 ZAy
def ZEt : SX := v 522 (r 10)
def ZEq : SX := e (a 12) (a 15)
def ZBN : SX := e (a 13) (a 16)
def ZF8 : VC := i (l z (a 2)) (i (l (a 2) (.f1 32 (r 4))) (i (l (a 2) (a 3)) (i (l (a 2) k0) (i (e ZCU ZC5) (i (e ZCR ZDO) (i (e ZDo ZEt) (i (l z (a 8)) (i (e (a 8) (.f1 32 (r 10))) (i (l (a 8) (a 9)) (i (l (a 8) k0) (u 12 .int (u 13 .int (u 14 .int (i (e (a 12) ZCU) (i (e (a 13) ZCR) (i (e (a 14) ZDo) (u 15 .int (u 16 .int (u 17 .int (i (e (a 15) ZC5) (i (e (a 16) ZDO) (i (e (a 17) ZEt) (.and (i ZEq (.and (i ZBN (n (e (a 14) (a 17)) .tt)) (i (.f1 2 ZBN) (n (.bool false) .tt)))) (i (.f1 2 ZEq) (n (.bool false) .tt)))))))))))))))))))))))))
theorem ZHE : Zdt Tryz.prog ZGp 12 8 ZvY = ZF8 := by kernel_rfl
def ZAU : SX := .f2 40 (a 2) (k 3)
def ZyJ : SX := .f2 40 (a 8) (k 3)
def Zz9 : SX := .f2 122 (k (-7)) (.f2 122 z (.f2 122 z (.f2 122 z (.f2 122 z (.f2 122 z (.f1 152 z))))))
def ZzQ : SX := .f2 124 Zz9 (.f2 124 Zz9 (.f2 124 Zz9 (.f1 154 z)))
def ZCS : SX := .f2 121 (r 4) ZzQ
def ZAJ : SX := .f2 115 ZCS (a 2)
def ZCB : SX := .f2 40 (.f1 32 (r 10)) (k 3)
def Zst : SX := .f2 121 (r 10) ZzQ
def Zz1 : SX := .f2 115 Zst (a 8)
def Zl2 : SX := wR 533 (r 4) (a 2)
def Zln : SX := hR0 534 Zl2 ZCS (a 2)
def ZtN : SX := .f1 32 Zln
def Zp7 : SX := .f2 115 Zln (a 2)
def ZGi : VC := i (l z (a 2)) (i (e (a 2) (.f1 32 (r 4))) (i (l (a 2) (a 3)) (i (l (a 2) k0) (i (l z (a 8)) (i (e (a 8) (.f1 32 (r 10))) (i (l (a 8) (a 9)) (i (l (a 8) k0) (u 12 .int (u 13 .int (i (l ZAU (a 13)) (i (l z (a 12)) (u 14 .int (u 15 .int (i (l ZyJ (a 15)) (i (l z (a 14)) (n (l (a 2) (.f2 40 (.f1 32 (r 4)) (k 3))) (n (l (a 2) (a 13)) (n (e (v 520 ZAJ) (v 520 (r 4))) (n (e (v 521 ZAJ) (v 521 (r 4))) (n (e (v 522 ZAJ) (v 522 (r 4))) (u 16 .bool (i (q 16) (u 17 .bool (i (q 17) (n (l (a 8) ZCB) (n (l (a 8) (a 15)) (n (e (v 520 Zz1) (v 520 (r 10))) (n (e (v 521 Zz1) (v 521 (r 10))) (n (e (v 522 Zz1) (v 522 (r 10))) (u 18 .bool (i (q 18) (u 19 .bool (i (q 19) (u 20 .int (u 21 .int (i (l (a 2) (a 21)) (i (.f2 50 (l z (a 20)) (e (a 2) z)) (n (e (a 2) (a 2)) (n (e (a 2) (.f1 32 Zl2)) (n (l (a 2) ZtN) (n (e (v 520 Zp7) (v 520 Zl2)) (n (e (v 521 Zp7) (v 521 Zl2)) (n (e (v 522 Zp7) (v 522 Zl2)) (u 22 .bool (i (q 22) (n (e ZtN ZAU) (n (.us .bool 535 Zln z (a 2) Zl2) (n (.us .bool 535 Zln (a 2) ZAU (.f2 121 Zl2 ZzQ)) (u 23 .bool (i (q 23) (n (e ZCB ZyJ) (n (e (a 8) (a 8)) (n (.us .bool 535 Zst z (a 8) (r 10)) (n (.us .bool 535 Zst (a 8) ZyJ Zst) (u 24 .bool (i (q 24) (.and (i (q 16) (.and (i (q 17) (.and (i (q 18) (.and (i (q 19) (.and (i (q 22) (.and (i (q 23) .tt) .tt)) .tt)) .tt)) .tt)) .tt)) .tt)))))))))))))))))))))))))))))))))))))))))))))))))))))))))
theorem ZHA : Zdt Tryz.prog ZGU 12 3 ZmD = ZGi := by kernel_rfl
theorem ZIt (x : List Ent) (n : Nat) : (Zsq x n).map nr = Zsq x n := by
 unfold Zsq
 rw [List.map_reverse, List.map_map]
 congr 1
 apply List.map_congr_left
 intro r _
 exact ZGe r
theorem ZjH {α : Type} (x y : List α) {n : Nat} (h : n = x.length) : (x ++ y).take n = x := by subst h; exact List.take_left
theorem ZAF {α : Type} (x y : List α) {n : Nat} (h : n = x.length) : (x ++ y).drop n = y := by subst h; exact List.drop_left
theorem Zul (x y : List Ent) {l : Int} (h : l = x.length) : ∀ i : Nat, (0 : Int) <= i -> (i : Int) < l -> eqE (xa (x ++ y) i) (xa x i) := fun i _ hi => by
 unfold eqE xa
 rw [ZI0, ZJi (by omega), <- ZI0]
theorem ZIz (S : Sig GG) (hS : JsSig S) : ZG S Tryz.prog 8 ZvY := by
 refine Zh S (C := ZGp) (fuel := 12) (YC ⟨Zk (by decide) (ZGN S hS), Zk (by decide) (ZIp S hS.jt.jb.rf), trivial⟩ trivial trivial) fun ρ => ?_
 rw [ZHE]
 simp only [ZF8, ZAy, ZCU, ZC5, ZCR, ZDO, ZDo, ZEt, ZEq, ZBN, hS.jt.jb.rf.u520, hS.jt.jb.rf.u521, hS.jt.jb.rf.u522, ZaN, ZI7, VC.den, SX.den, Env.upd, YA, ZV, beq_iff_eq, ZIZ, beq_eq_false_iff_ne, ne_eq, ZIY, ZIX, Int.reduceToNat, Nat.reduceEqDiff, reduceIte, sB, sC]
 generalize Zne ((ρ 4).tR.take (ρ 2).tI.toNat) = U
 generalize Zne (ρ 10).tR = V
 intro h1 h2 h3 h4 e1 e2 e3 h5 h6 h7 h8 a b c ha hb hc d e f hd he hf
 refine ⟨fun h => ⟨fun h' => ⟨by omega, trivial⟩, fun h' => absurd (by omega) h'⟩, fun h => absurd (by omega) h⟩
theorem ZIq (S : Sig GG) (hS : JsSig S) (haw : ZG S Tryz.prog 6 ZpD) : ZG S Tryz.prog 3 ZmD := by
 refine Zh S (C := ZGU) (fuel := 12) (YC ⟨Zk (by decide) haw, Zk (by decide) (ZFG S hS.jt.jb), Zk (by decide) (ZIz S hS), Zk (by decide) (ZF3 S hS.jt.jb), Zk (by decide) (ZIE S hS.jt.jb), Zk (by decide) (ZF6 S hS.jt.jb), trivial⟩ trivial trivial) fun ρ => ?_
 rw [ZHA]
 simp only [ZGi, ZAU, ZyJ, Zz9, ZzQ, ZCS, ZAJ, ZCB, Zst, Zz1, Zl2, Zln, ZtN, Zp7, hS.jt.jb.rf.u520, hS.jt.jb.rf.u521, hS.jt.jb.rf.u522, hS.jt.jb.u533, hS.jt.jb.u534, hS.jt.jb.u535, ZaN, ZI7, VC.den, SX.den, Env.upd, YA, ZV, beq_iff_eq, ZIZ, beq_eq_false_iff_ne, ne_eq, ZIY, ZIX, Int.reduceToNat, Nat.reduceEqDiff, reduceIte, sB, sC]
 generalize (ρ 4).tR = X
 generalize (ρ 10).tR = Y
 generalize (ρ 2).tI = l
 generalize (ρ 8).tI = m
 intro h1 h2 h3 h4 h5 h6 h7 h8
 subst h2 h6
 simp only [ZI7]
 have hR := ZhN (ZIQ X.length)
 have hN := ZIt X X.length
 generalize Zsq X X.length = T at *
 have hk : ([[-7, 0, 0, 0, 0, 0], [-7, 0, 0, 0, 0, 0], [-7, 0, 0, 0, 0, 0]] : List (List Int)).length = 3 := rfl
 generalize ([[-7, 0, 0, 0, 0, 0], [-7, 0, 0, 0, 0, 0], [-7, 0, 0, 0, 0, 0]] : List (List Int)) = K at *
 have t1 : T.take X.length = T := ZJc (by omega)
 simp only [ZjH X K rfl, ZjH Y K rfl, ZAF X K rfl, t1, hN, ZjH T K hR.symm, ZI5, hk, hR]
 intro a b p1 p2 c d p3 p4
 refine ⟨by omega, by omega, trivial, trivial, trivial, fun v hv v2 hv2 => ⟨by omega, by omega, trivial, trivial, trivial, fun v3 hv3 v4 hv4 e f p5 p6 => ⟨trivial, trivial, by omega, trivial, trivial, trivial, fun v5 hv5 => ⟨by omega, Zul T K (by rw [hR]), fun i _ _ => rfl, fun v6 hv6 => ?_⟩⟩⟩⟩
 refine ⟨trivial, trivial, Zul Y K rfl, fun i _ _ => rfl, fun v7 hv7 => ?_⟩
 simp only [hv, hv2, hv3, hv4, hv5, hv6, hv7]
 repeat' (first | exact trivial | apply And.intro | intro _)
end
end Go.Proofs.YtidlngnhjffepaaGreat
namespace Go.Cx
noncomputable section
/-! ### Kinds by number -/
def kc : Nat -> IntKind
 | 0 => .i8 | 1 => .i16 | 2 => .i32 | 3 => .i64 | 4 => .u8 | 5 => .u16 | 6 => .u32 | _ => .u64
def kn : IntKind -> Nat
 | .i8 => 0 | .i16 => 1 | .i32 => 2 | .i64 => 3 | .u8 => 4 | .u16 => 5 | .u32 => 6 | .u64 => 7
def hiN : Nat -> Nat
 | 0 => 127 | 1 => 32767 | 2 => 2147483647 | 3 => 9223372036854775807 | 4 => 255 | 5 => 65535 | 6 => 4294967295 | _ => 18446744073709551615
def loN : Nat -> Nat
 | 0 => 128 | 1 => 32768 | 2 => 2147483648 | 3 => 9223372036854775808 | _ => 0
def fits (k : Nat) (n : Int) : Bool := match n with | .ofNat m => Nat.ble m (hiN k) | .negSucc m => Nat.blt m (loN k)
def Zj5 (k : Nat) (n : Int) : Int := bif fits k n then n else (kc k).wrap n
/-! ### Values -/
inductive CV where
 | int (k : Nat) (n : Int) | bool (b : Bool) | str (l n : Nat)
 | ptr (b o : Nat) | nilp
 | slice (b o s l k : Nat) (ex : Bool) | nils
 | map (b : Nat) | nilm
 | fn (f : Nat) (first caps : List CV) | mth (name : String) (recv : CV) | yld (l : Nat) | nilf
 | ifc (t : Nat) (v : CV) | nili
 | agg (cs : List CV) | tup (vs : List CV)
 | junk
 deriving Inhabited
structure Ent where
 key : CV
 val : CV
 born : Nat
 deriving Inhabited
/-! ### Eight places -/
structure O (α : Type) where
 c0 : α
 c1 : α
 c2 : α
 c3 : α
 c4 : α
 c5 : α
 c6 : α
 c7 : α
def sel {α : Type} (c0 c1 c2 c3 c4 c5 c6 c7 : α) (d : Nat) : α :=
 @Nat.rec (fun _ => α) c0 (fun d _ => @Nat.rec (fun _ => α) c1 (fun d _ => @Nat.rec (fun _ => α) c2 (fun d _ => @Nat.rec (fun _ => α) c3 (fun d _ =>
  @Nat.rec (fun _ => α) c4 (fun d _ => @Nat.rec (fun _ => α) c5 (fun d _ => @Nat.rec (fun _ => α) c6 (fun _ _ => c7) d) d) d) d) d) d) d
def og {α : Type} (o : O α) (d : Nat) : α := @O.rec α (fun _ => α) (fun c0 c1 c2 c3 c4 c5 c6 c7 => sel c0 c1 c2 c3 c4 c5 c6 c7 d) o
def os {α : Type} (f : α -> α) (o : O α) (d : Nat) : O α :=
 @O.rec α (fun _ => O α) (fun c0 c1 c2 c3 c4 c5 c6 c7 => sel ⟨f c0, c1, c2, c3, c4, c5, c6, c7⟩ ⟨c0, f c1, c2, c3, c4, c5, c6, c7⟩ ⟨c0, c1, f c2, c3, c4, c5, c6, c7⟩ ⟨c0, c1, c2, f c3, c4, c5, c6, c7⟩
  ⟨c0, c1, c2, c3, f c4, c5, c6, c7⟩ ⟨c0, c1, c2, c3, c4, f c5, c6, c7⟩ ⟨c0, c1, c2, c3, c4, c5, f c6, c7⟩ ⟨c0, c1, c2, c3, c4, c5, c6, f c7⟩ d) o
def oe {α : Type} (a : α) : O α := ⟨a, a, a, a, a, a, a, a⟩
structure F where
 n : Nat
 o : O (O (O CV))
def F0 (n : Nat) : F := ⟨n, oe (oe (oe .junk))⟩
def Zf3 (f : F) (i : Nat) : CV := @F.rec (fun _ => CV) (fun _ o => og (og (og o (i / 64)) (i / 8 % 8)) (i % 8)) f
def Zxu (f : F) (i : Nat) (v : CV) : F := @F.rec (fun _ => F) (fun n o => ⟨n, os (fun g => os (fun h => os (fun _ => v) h (i % 8)) g (i / 8 % 8)) o (i / 64)⟩) f
def Zw2 (f : F) (i : Nat) (v : CV) : F := @F.rec (fun _ => F) (fun n o => bif Nat.blt i n then ⟨n, os (fun g => os (fun h => os (fun _ => v) h (i % 8)) g (i / 8 % 8)) o (i / 64)⟩ else ⟨n, o⟩) f
def fg (f : F) (i : Nat) : CV := @F.rec (fun _ => CV) (fun n o => bif Nat.blt i n then og (og (og o (i / 64)) (i / 8 % 8)) (i % 8) else .junk) f
def Yu : Nat := 511
inductive Ck where
 | no
 | cells (cs : List CV)
 | bytes (l n : Nat)
 | map (es : List Ent) (clock : Nat)
 | iter (m since : Nat) (seen : List Nat) (stepped : Nat)
 | siter (l n pos : Nat)
 | iter0
 | dfr
 | loop (fn : Nat) (fr : F) (ps : List Nat) (assign body : Code) (db : Nat) (st : Nat) (pend : Option Code)
abbrev H := O (O (O (O (O Ck))))
def H0 : H := oe (oe (oe (oe (oe .no))))
def ZO (h : H) (i : Nat) : Ck := og (og (og (og (og h (i / 4096)) (i / 512 % 8)) (i / 64 % 8)) (i / 8 % 8)) (i % 8)
def Zag (h : H) (i : Nat) (c : Ck) : H :=
 os (fun h => os (fun h => os (fun h => os (fun h => os (fun _ => c) h (i % 8)) h (i / 8 % 8)) h (i / 64 % 8)) h (i / 512 % 8)) h (i / 4096)
/-! ### Outcomes -/
structure Out where
 v : CV
 hp : H
 n : Nat
abbrev Res := Option (List Out)
def Res.cat (a b : Res) : Res := match a with | none => none | some l => (match b with | none => none | some m => some (l ++ m))
/-! ### Bytes by number: the first byte is the lowest -/
def pw (l : Nat) : Nat := 2 ^ (8 * l)
def ZkE (n i : Nat) : Nat := (n / pw i) % 256
def Zn7 (n lo len : Nat) : Nat := (n / pw lo) % pw len
def Zkw (l1 n1 n2 : Nat) : Nat := n1 % pw l1 + n2 * pw l1
def ZDt (n lo len m l : Nat) : Nat := n % pw lo + (m % pw len) * pw lo + ((n / pw (lo + len)) % pw (l - (lo + len))) * pw (lo + len)
def ZdS : List UInt8 -> Nat
 | [] => 0
 | x :: l => x.toNat + 256 * ZdS l
def Zht (n : Nat) : Nat -> List CV
 | 0 => []
 | l + 1 => .int 4 (.ofNat (n % 256)) :: Zht (n / 256) l
def Zrf : CV -> Option Nat
 | .int 4 (.ofNat m) => bif Nat.ble m 255 then some m else none
 | _ => none
def ZgQ : List CV -> Option Nat
 | [] => some 0
 | c :: l => (match Zrf c with | some x => (match ZgQ l with | some y => some (x + 256 * y) | none => none) | none => none)
def Zad : Nat -> Nat -> Nat -> Nat -> Bool  -- is (l1, n1) less than (l2, n2)
 | _, 0, _, _ => false
 | 0, _ + 1, _, _ => true
 | l1 + 1, l2 + 1, n1, n2 => bif Nat.blt (n1 % 256) (n2 % 256) then true else bif Nat.beq (n1 % 256) (n2 % 256) then Zad l1 l2 (n1 / 256) (n2 / 256) else false
/-! ### Lists -/
def ZAG : List CV -> Nat -> Option CV
 | [], _ => none
 | c :: _, 0 => some c
 | _ :: l, i + 1 => ZAG l i
def Zl6 : Nat -> List CV -> Option (List CV)
 | 0, _ => some []
 | _ + 1, [] => none
 | n + 1, c :: l => (match Zl6 n l with | some r => some (c :: r) | none => none)
def Zke : Nat -> List CV -> List CV
 | 0, l => l
 | _ + 1, [] => []
 | n + 1, _ :: l => Zke n l
def Zr5 (cs : List CV) : Nat -> List CV -> Option (List CV)
 | 0, l => some (cs ++ Zke cs.length l)
 | _ + 1, [] => none
 | o + 1, c :: l => (match Zr5 cs o l with | some r => some (c :: r) | none => none)
def ZhW : List CV -> List CV -> Option (List CV)
 | [], l => some l
 | _ :: _, [] => none
 | c :: cs, _ :: l => (match ZhW cs l with | some r => some (c :: r) | none => none)
def ZuV (cs : List CV) : Nat -> List CV -> Option (List CV)
 | 0, l => ZhW cs l
 | _ + 1, [] => none
 | o + 1, c :: l => (match ZuV cs o l with | some r => some (c :: r) | none => none)
def ZAw (cs : List CV) : Nat -> List CV
 | 0 => []
 | n + 1 => cs ++ ZAw cs n
/-! ### Equality (the letters) -/
def ibq : Int -> Int -> Bool
 | .ofNat a, .ofNat b => Nat.beq a b
 | .negSucc a, .negSucc b => Nat.beq a b
 | _, _ => false
def bbq : Bool -> Bool -> Bool
 | true, true => true | false, false => true | _, _ => false
mutual
def CV.bq : CV -> CV -> Bool
 | .int k a, .int j b => bif Nat.beq k j then ibq a b else false
 | .bool a, .bool b => bbq a b
 | .str l n, .str k m => bif Nat.beq l k then Nat.beq n m else false
 | .ptr b o, .ptr c p => bif Nat.beq b c then Nat.beq o p else false
 | .nilp, .nilp => true
 | .slice b o s l k e, .slice b' o' s' l' k' e' => bif Nat.beq b b' then (bif Nat.beq o o' then (bif Nat.beq s s' then (bif Nat.beq l l' then (bif Nat.beq k k' then bbq e e' else false) else false) else false) else false) else false
 | .nils, .nils => true
 | .map b, .map c => Nat.beq b c
 | .nilm, .nilm => true
 | .fn f l l', .fn g m m' => bif Nat.beq f g then (bif CVs.bq l m then CVs.bq l' m' else false) else false
 | .mth a v, .mth b w => bif a == b then CV.bq v w else false
 | .yld a, .yld b => Nat.beq a b
 | .nilf, .nilf => true
 | .ifc t v, .ifc u w => bif Nat.beq t u then CV.bq v w else false
 | .nili, .nili => true
 | .agg l, .agg m => CVs.bq l m
 | .tup l, .tup m => CVs.bq l m
 | _, _ => false
def CVs.bq : List CV -> List CV -> Bool
 | [], [] => true
 | a :: l, b :: m => bif CV.bq a b then CVs.bq l m else false
 | _, _ => false
end
def Ents.bq : List Ent -> List Ent -> Bool
 | [], [] => true
 | a :: l, b :: m => bif Nat.beq a.born b.born then (bif CV.bq a.key b.key then (bif CV.bq a.val b.val then Ents.bq l m else false) else false) else false
 | _, _ => false
def nats : List Nat -> List Nat -> Bool
 | [], [] => true
 | a :: l, b :: m => bif Nat.beq a b then nats l m else false
 | _, _ => false
def Ck.bq : Ck -> Ck -> Bool
 | .cells l, .cells m => CVs.bq l m
 | .bytes l n, .bytes k m => bif Nat.beq l k then Nat.beq n m else false
 | .map l c, .map m d => bif Nat.beq c d then Ents.bq l m else false
 | .iter a b c d, .iter a' b' c' d' => bif Nat.beq a a' then (bif Nat.beq b b' then (bif nats c c' then Nat.beq d d' else false) else false) else false
 | .siter a b c, .siter a' b' c' => bif Nat.beq a a' then (bif Nat.beq b b' then Nat.beq c c' else false) else false
 | .iter0, .iter0 => true
 | .dfr, .dfr => true
 | .no, .no => true
 | _, _ => false
/-! ### Is a value told wholly? -/
mutual
def CV.det : CV -> Bool
 | .slice _ _ s _ k ex => bif ex then true else (bif Nat.ble 1 k then Nat.ble 1 s else false)
 | .fn _ a b => bif CVs.det a then CVs.det b else false
 | .mth _ v => CV.det v
 | .ifc _ v => CV.det v
 | .agg l => CVs.det l
 | .tup l => CVs.det l
 | .junk => false
 | .int _ _ => true
 | .bool _ => true
 | .str _ _ => true
 | .ptr _ _ => true
 | .nilp => true
 | .nils => true
 | .map _ => true
 | .nilm => true
 | .yld _ => true
 | .nilf => true
 | .nili => true
def CVs.det : List CV -> Bool
 | [] => true
 | a :: l => bif CV.det a then CVs.det l else false
end
/-! ### What several outcomes have in common -/
def Ck.meet (a b : Ck) : Ck := bif Ck.bq a b then a else .no
def om {α : Type} (f : α -> α -> α) (a b : O α) : O α := ⟨f a.c0 b.c0, f a.c1 b.c1, f a.c2 b.c2, f a.c3 b.c3, f a.c4 b.c4, f a.c5 b.c5, f a.c6 b.c6, f a.c7 b.c7⟩
def H.meet (a b : H) : H := om (om (om (om (om Ck.meet)))) a b
def CV.meet1 (a b : CV) : CV := bif CV.bq a b then a else .junk
def CVs.meet : List CV -> List CV -> List CV
 | a :: l, b :: m => CV.meet1 a b :: CVs.meet l m
 | _, _ => []
def CV.meet (a b : CV) : CV :=
 match a, b with
 | .tup l, .tup m => bif Nat.beq l.length m.length then .tup (CVs.meet l m) else .junk
 | a, b => CV.meet1 a b
def Out.meet (a b : Out) : Out := ⟨CV.meet a.v b.v, H.meet a.hp b.hp, bif Nat.ble a.n b.n then b.n else a.n⟩
def meets : Out -> List Out -> Out
 | o, [] => o
 | o, p :: l => meets (Out.meet o p) l
end
end Go.Cx
namespace Go.Cx
noncomputable section
/-! ### The program's tables -/
def Zk5 {α : Type} : List α -> Nat -> Option α
 | [], _ => none
 | a :: _, 0 => some a
 | _ :: l, i + 1 => Zk5 l i
def Zr9 {α : Type} : Nat -> List α -> List α
 | 0, l => l
 | _ + 1, [] => []
 | n + 1, _ :: l => Zr9 n l
def blk {α : Type} (l : List α) : Nat -> List α
 | 0 => l
 | j + 1 => Zr9 64 (blk l j)
def ZFA {α : Type} (l : List α) (i : Nat) : Option α := Zk5 (blk l (i / 64)) (i % 64)
def tyI (P : Program) (t : Nat) : Option TypeInfo := ZFA P.types.toList t
def tyD (P : Program) (t : Nat) : Option TypeDesc :=
 match tyI P t with
 | some i => (match i.desc with
  | .named _ u => (match tyI P u with | some j => some j.desc | none => none)
  | d => some d)
 | none => none
def Zjq (P : Program) (t : Nat) : Option Nat := match tyI P t with | some i => some i.size | none => none
def ZzY : TypeDesc -> Bool | .struct _ => true | .array _ _ => true | _ => false
def tyA (P : Program) (t : Nat) : Option (Bool × Nat) :=
 match tyD P t with | some d => (match Zjq P t with | some n => some (ZzY d, n) | none => none) | none => none
def Zf5 (P : Program) (t : Nat) : Bool := match tyD P t with | some (.int .u8) => true | _ => false
/-! ### Constants -/
def Zpj : Value -> CV
 | .bool b => .bool b
 | .int k n => .int (kn k) n
 | .string s => .str s.data.toList.length (ZdS s.data.toList)
 | .pointer none => .nilp
 | .slice none 0 0 => .nils
 | .map none => .nilm
 | .nilFunc => .nilf
 | .nilIface => .nili
 | _ => .junk
def ZiN : List Value -> List CV
 | [] => []
 | v :: l => Zpj v :: ZiN l
def Zzr (v : Value) : CV := match v with | .agg cs => .agg (ZiN cs.toList) | v => Zpj v
def ZnG (P : Program) (t : Nat) : Option (List CV) :=
 match tyI P t with | some i => (match i.zero with | some z => some (ZiN z.cells.toList) | none => none) | none => none
def ZjN (P : Program) (t : Nat) : Option CV :=
 match tyI P t with | some i => (match i.zero with | some z => some (Zzr z) | none => none) | none => none
def lk (fr : F) : Operand -> CV
 | .tmp t => fg fr t
 | .const v => Zzr v
 | .global _ => .junk
 | .func f => .fn f [] []
def lks (fr : F) : List Operand -> List CV
 | [] => []
 | x :: l => lk fr x :: lks fr l
/-! ### Memory -/
def ZA7 : CV -> Bool
 | .agg _ => false | .tup _ => false | .junk => false | _ => true
def ZeU : List CV -> Bool
 | [] => true
 | c :: l => bif ZA7 c then ZeU l else false
def rd1 (hp : H) (b o : Nat) : Option CV :=
 match ZO hp b with
 | .cells cs => ZAG cs o
 | .bytes l n => bif Nat.blt o l then some (.int 4 (.ofNat (ZkE n o))) else none
 | _ => none
def rdN (hp : H) (b o n : Nat) : Option (List CV) :=
 match ZO hp b with
 | .cells cs => Zl6 n (Zke o cs)
 | .bytes l m => bif Nat.ble (o + n) l then some (Zht (m / pw o) n) else none
 | _ => none
def wrN (hp : H) (b o : Nat) (cs : List CV) : Option H :=
 match ZO hp b with
 | .cells old => bif ZeU cs then (match ZuV cs o old with | some new => some (Zag hp b (.cells new)) | none => none) else none
 | .bytes l m => bif Nat.ble (o + cs.length) l then (match ZgQ cs with | some x => some (Zag hp b (.bytes l (ZDt m o cs.length x l))) | none => none) else none
 | _ => none
def cellsOf : CV -> List CV
 | .agg cs => cs
 | v => [v]
/-! ### Quiet operations -/
section
variable (P : Program) (fr : F) (hp : H)
def ZCC (t : Nat) (a : Operand) (k : CV -> Res) : Res :=
 match lk fr a with
 | .ptr b o => (match tyA P t with
  | some (true, n) => (match rdN hp b o n with | some cs => k (.agg cs) | none => none)
  | some (false, _) => (match rd1 hp b o with | some c => k c | none => none)
  | none => none)
 | _ => none
def ZDu (c a b : Operand) (k : CV -> Res) : Res :=
 match lk fr c with
 | .bool true => k (lk fr a)
 | .bool false => k (lk fr b)
 | _ => none
def qNil (x : Operand) (k : CV -> Res) : Res :=
 match lk fr x with
 | .nilp => none | .nili => none | .nilf => none | .junk => none | .mth _ _ => none
 | v => k v
def ZBT (op : BinOp) (kd : Nat) (x y : Int) (k : CV -> Res) : Res :=
 match op with
 | .add => k (.int kd (Zj5 kd (x + y)))
 | .sub => k (.int kd (Zj5 kd (x - y)))
 | .mul => k (.int kd (Zj5 kd (x * y)))
 | .quo => bif ibq y 0 then none else k (.int kd (Zj5 kd (x.tdiv y)))
 | .rem => bif ibq y 0 then none else k (.int kd (x.tmod y))
 | .and => k (.int kd ((kc kd).wrap (BitVec.ofInt (kc kd).bits x &&& BitVec.ofInt (kc kd).bits y).toNat))
 | .or => k (.int kd ((kc kd).wrap (BitVec.ofInt (kc kd).bits x ||| BitVec.ofInt (kc kd).bits y).toNat))
 | .xor => k (.int kd ((kc kd).wrap (BitVec.ofInt (kc kd).bits x ^^^ BitVec.ofInt (kc kd).bits y).toNat))
 | .andNot => k (.int kd ((kc kd).wrap (BitVec.ofInt (kc kd).bits x &&& ~~~ (BitVec.ofInt (kc kd).bits y)).toNat))
 | .eql => k (.bool (ibq x y))
 | .neq => k (.bool (!(ibq x y)))
 | .lss => k (.bool (decide (x < y)))
 | .leq => k (.bool (decide (x <= y)))
 | .gtr => k (.bool (decide (y < x)))
 | .geq => k (.bool (decide (y <= x)))
 | _ => none
def shOp (op : BinOp) (kd : Nat) (x y : Int) (k : CV -> Res) : Res :=
 match y with
 | .negSucc _ => none
 | .ofNat m => (match op with
  | .shl => k (.int kd (Zj5 kd (x * 2 ^ (min m (kc kd).bits))))
  | .shr => k (.int kd (x.fdiv (2 ^ (min m (kc kd).bits))))
  | _ => none)
def ZFg (op : BinOp) (l n l' n' : Nat) (k : CV -> Res) : Res :=
 match op with
 | .add => bif Nat.ble (l + l') 4611686018427387904 then k (.str (l + l') (Zkw l n n')) else none
 | .eql => k (.bool (bif Nat.beq l l' then Nat.beq (n % pw l) (n' % pw l) else false))
 | .neq => k (.bool (!(bif Nat.beq l l' then Nat.beq (n % pw l) (n' % pw l) else false)))
 | .lss => k (.bool (Zad l l' n n'))
 | .geq => k (.bool (!(Zad l l' n n')))
 | .gtr => k (.bool (Zad l' l n' n))
 | .leq => k (.bool (!(Zad l' l n' n)))
 | _ => none
def Zhu (P : Program) (d : TypeDesc) (a b : CV) : Option Bool :=
 match d with
 | .int _ => (match a, b with | .int k x, .int j y => bif Nat.beq k j then some (ibq x y) else none | _, _ => none)
 | .bool => (match a, b with | .bool x, .bool y => some (bbq x y) | _, _ => none)
 | .string => (match a, b with | .str l n, .str l' n' => some (bif Nat.beq l l' then Nat.beq (n % pw l) (n' % pw l) else false) | _, _ => none)
 | .pointer e => (match a, b with
  | .nilp, .nilp => some true
  | .nilp, .ptr _ _ => some false
  | .ptr _ _, .nilp => some false
  | .ptr b o, .ptr b' o' => (match Zjq P e with
   | some (_ + 1) => bif Nat.beq b b' then some (Nat.beq o o') else (match ZO hp b with
    | .cells _ => (match ZO hp b' with | .cells _ => some false | _ => none)
    | _ => none)
   | _ => none)
  | _, _ => none)
 | .slice _ => (match a, b with
  | .nils, .nils => some true
  | .nils, .slice .. => some false
  | .slice .., .nils => some false
  | _, _ => none)
 | .map _ _ => (match a, b with
  | .nilm, .nilm => some true
  | .nilm, .map _ => some false
  | .map _, .nilm => some false
  | _, _ => none)
 | .func _ _ _ => (match a, b with
  | .nilf, .nilf => some true
  | .nilf, .fn _ _ _ => some false
  | .nilf, .mth _ _ => some false
  | .nilf, .yld _ => some false
  | .fn _ _ _, .nilf => some false
  | .mth _ _, .nilf => some false
  | .yld _, .nilf => some false
  | _, _ => none)
 | .interface _ => (match a, b with
  | .nili, .nili => some true
  | .nili, .ifc _ _ => some false
  | .ifc _ _, .nili => some false
  | .ifc t x, .ifc u y => bif Nat.beq t u then none else some false
  | _, _ => none)
 | _ => none
def Zq6 (P : Program) (x y : List CV) : List Field -> Option Bool
 | [] => some true
 | f :: fs => bif f.name == "_" then none else (match tyD P f.type with
  | some d => bif ZzY d then none else (match ZAG x f.offset, ZAG y f.offset with
   | some a, some b => (match Zhu hp P d a b with
    | some true => Zq6 P x y fs
    | some false => some false
    | none => none)
   | _, _ => none)
  | none => none)
def ZlL (t : Nat) (a b : CV) : Option Bool :=
 match tyD P t with
 | some d => (match d with
  | .struct fs => (match a, b with
   | .agg x, .agg y => bif (bif P.stoodInHeld t then false else !(P.eqGuardType P.depth t)) then Zq6 hp P x y fs.toList else none
   | _, _ => none)
  | d => Zhu hp P d a b)
 | none => none
def ZgB : Operand -> Bool | .const _ => true | _ => false
def Zp2 (x y : Operand) (a b : CV) : Bool :=
 match a, b with | .nili, .nili => (bif ZgB x then false else !(ZgB y)) | _, _ => false
def qBin (op : BinOp) (t : Nat) (x y : Operand) (k : CV -> Res) : Res :=
 match lk fr x, lk fr y with
 | .int kd a, .int kd' b => (match op with
  | .shl => shOp .shl kd a b k
  | .shr => shOp .shr kd a b k
  | op => bif Nat.beq kd kd' then ZBT op kd a b k else none)
 | .str l n, .str l' n' => ZFg op l n l' n' k
 | a, b => bif Zp2 x y a b then none else (match op with
  | .eql => (match ZlL P hp t a b with | some r => k (.bool r) | none => none)
  | .neq => (match ZlL P hp t a b with | some r => k (.bool (!r)) | none => none)
  | _ => none)
def qUn (op : UnOp) (x : Operand) (k : CV -> Res) : Res :=
 match op, lk fr x with
 | .not, .bool b => k (.bool (!b))
 | .neg, .int kd n => k (.int kd (Zj5 kd (0 - n)))
 | .xor, .int kd n => k (.int kd ((kc kd).wrap (BitVec.ofInt (kc kd).bits (if (kc kd).signed then -1 else (kc kd).max) ^^^ BitVec.ofInt (kc kd).bits n).toNat))
 | _, _ => none
def ZyR (src dst : Nat) (x : Operand) (k : CV -> Res) : Res :=
 match tyD P dst, lk fr x with
 | some (.int kd), .int _ n => (match tyD P src with | some _ => k (.int (kn kd) (Zj5 (kn kd) n)) | none => none)
 | some .string, .str l n => (match tyD P src with | some _ => k (.str l n) | none => none)
 | some .string, .nils => (match tyD P src with | some (.slice e) => bif Zf5 P e then k (.str 0 0) else none | _ => none)
 | some .string, .slice b o s l kk ex => (match tyD P src with
  | some (.slice e) => bif Zf5 P e then (match ZO hp b with
   | .bytes m n => bif Nat.beq l 0 then k (.str 0 0) else bif Nat.ble (o + l) m then k (.str l (Zn7 n o l)) else none
   | _ => none) else none
  | _ => none)
 | _, _ => none
def Zpc (s : Nat) (x : Operand) (f : Nat) (k : CV -> Res) : Res :=
 match lk fr x with
 | .ptr b o => (match tyD P s with
  | some (.struct fs) => (match Zk5 fs.toList f with
   | some fd => (match Zjq P fd.type with | some (_ + 1) => k (.ptr b (o + fd.offset)) | _ => none)
   | none => none)
  | _ => none)
 | _ => none
def part (t : Nat) (cs : List CV) (off : Nat) (k : CV -> Res) : Res :=
 match tyA P t with
 | some (true, n) => (match Zl6 n (Zke off cs) with | some r => k (.agg r) | none => none)
 | some (false, _) => (match ZAG cs off with | some c => k c | none => none)
 | none => none
def ZxT (t : Nat) (x : Operand) (f : Nat) (k : CV -> Res) : Res :=
 match lk fr x with
 | .agg cs => (match tyD P t with
  | some (.struct fs) => (match Zk5 fs.toList f with | some fd => part P fd.type cs fd.offset k | none => none)
  | _ => none)
 | _ => none
def ZnM (t : Nat) (x ix : Operand) (k : CV -> Res) : Res :=
 match lk fr ix with
 | .int _ (.ofNat i) => (match lk fr x with
  | .slice b o s l kk ex => (match tyD P t with
   | some (.slice e) => bif Nat.blt i l then (match Zjq P e with | some (n + 1) => bif Nat.beq s (n + 1) then k (.ptr b (o + i * s)) else none | _ => none) else none
   | _ => none)
  | .ptr b o => (match tyD P t with
   | some (.array m e) => bif Nat.blt i m then (match Zjq P e with | some (n + 1) => k (.ptr b (o + i * (n + 1))) | _ => none) else none
   | _ => none)
  | _ => none)
 | _ => none
def ZsY (t : Nat) (x ix : Operand) (k : CV -> Res) : Res :=
 match lk fr ix with
 | .int _ (.ofNat i) => (match lk fr x with
  | .str l n => (match tyD P t with | some .string => bif Nat.blt i l then k (.int 4 (.ofNat (ZkE n i))) else none | _ => none)
  | .agg cs => (match tyD P t with
   | some (.array m e) => bif Nat.blt i m then (match Zjq P e with | some s => part P e cs (i * s) k | none => none) else none
   | _ => none)
  | _ => none)
 | _ => none
def ZBr : Option Operand -> Option (Option Nat)
 | none => some none
 | some x => (match lk fr x with | .int _ (.ofNat n) => some (some n) | _ => none)
def orN (d : Nat) : Option Nat -> Nat | some n => n | none => d
def ZvC (t : Nat) (x : Operand) (lo hi mx : Option Operand) (k : CV -> Res) : Res :=
 match ZBr fr lo with
 | none => none
 | some lo => (match ZBr fr hi with
  | none => none
  | some hi => (match ZBr fr mx with
   | none => none
   | some mx => (match lk fr x with
    | .str l n => (match tyD P t with
     | some .string => (match mx with
      | none => bif Nat.ble (orN l hi) l then (bif Nat.ble (orN 0 lo) (orN l hi) then k (.str (orN l hi - orN 0 lo) (Zn7 n (orN 0 lo) (orN l hi - orN 0 lo))) else none) else none
      | _ => none)
     | _ => none)
    | .nils => (match tyD P t with
     | some (.slice e) => (match Zjq P e with
      | some _ => (match mx with
       | some _ => none
       | none => bif Nat.beq (orN 0 hi) 0 then (bif Nat.beq (orN 0 lo) 0 then k .nils else none) else none)
      | none => none)
     | _ => none)
    | .slice b o s l c ex => (match tyD P t with
     | some (.slice e) => (match Zjq P e with
      | some sz => bif Nat.beq sz s then
       (match mx with
       | none => bif Nat.ble (orN l hi) c then (bif Nat.ble (orN 0 lo) (orN l hi) then
         k (.slice b (bif Nat.beq (orN 0 lo) c then o else o + orN 0 lo * s) s (orN l hi - orN 0 lo) (c - orN 0 lo) ex) else none) else none
       | some m => (match hi with
        | none => none
        | some h => bif (bif Nat.ble 1 c then true else ex) then bif Nat.ble m c then (bif Nat.ble h m then (bif Nat.ble (orN 0 lo) h then
          k (.slice b (bif Nat.beq (orN 0 lo) m then o else o + orN 0 lo * s) s (h - orN 0 lo) (m - orN 0 lo) true) else none) else none) else none else none)) else none
      | none => none)
     | _ => none)
    | _ => none)))
def Zj4 (t : Operand) (ix : Nat) (k : CV -> Res) : Res :=
 match lk fr t with
 | .tup vs => (match ZAG vs ix with | some v => k v | none => none)
 | _ => none
def Zus (t : Nat) (x : Operand) (k : CV -> Res) : Res :=
 match tyD P t with
 | some (.interface _) => none
 | some _ => (match lk fr x with | .junk => none | v => k (.ifc t v))
 | none => none
def Zt2 (fn : Fn) (first captured : Array Operand) (k : CV -> Res) : Res :=
 match fn with
 | .func f => k (.fn f (lks fr first.toList) (lks fr captured.toList))
 | .method name => (match first.toList, captured.toList with
  | [x], [] => (match lk fr x with | .ifc t v => k (.mth name (.ifc t v)) | _ => none)
  | _, _ => none)
 | _ => none
/-! maps -/
def Zn2 : CV -> CV -> Option Bool
 | .int k a, .int j b => bif Nat.beq k j then some (ibq a b) else none
 | .bool a, .bool b => some (bbq a b)
 | .str l n, .str l' n' => some (bif Nat.beq l l' then Nat.beq (n % pw l) (n' % pw l) else false)
 | _, _ => none
def Zjn (x : CV) : List Ent -> Nat -> Option (Option (Nat × CV))
 | [], _ => some none
 | e :: es, i => (match Zn2 x e.key with
  | some true => some (some (i, e.val))
  | some false => Zjn x es (i + 1)
  | none => none)
def Zfi (P : Program) (t : Nat) (x : CV) : Bool :=
 match tyD P t, x with
 | some (.int _), .int _ _ => true
 | some .string, .str _ _ => true
 | some .bool, .bool _ => true
 | some (.pointer _), .ptr _ _ => true
 | _, _ => false
def Ztz (hp : H) (x : CV) : Option (List Ent) :=
 match x with
 | .nilm => some []
 | .map b => (match ZO hp b with | .map es _ => some es | _ => none)
 | _ => none
def ZEz (t : Nat) (x ix : Operand) (ok : Bool) (k : CV -> Res) : Res :=
 match tyD P t with
 | some (.map kt et) => bif Zfi P kt (lk fr ix) then
   (match Ztz hp (lk fr x) with
   | some es => (match Zjn (lk fr ix) es 0 with
    | some (some (_, v)) => k (bif ok then .tup [v, .bool true] else v)
    | some none => (match ZjN P et with
     | some v => k (bif ok then .tup [v, .bool false] else v)
     | none => none)
    | none => none)
   | none => none) else none
 | _ => none
def qLen (x : CV) (t : Nat) (k : CV -> Res) : Res :=
 match tyD P t, x with
 | some .string, .str l _ => k (.int 3 (.ofNat l))
 | some (.slice _), .nils => k (.int 3 0)
 | some (.slice _), .slice _ _ _ l _ _ => k (.int 3 (.ofNat l))
 | some (.map _ _), .nilm => k (.int 3 0)
 | some (.map _ _), .map b => (match ZO hp b with | .map es _ => k (.int 3 (.ofNat es.length)) | _ => none)
 | some (.array n _), _ => k (.int 3 (.ofNat n))
 | _, _ => none
def qCap (x : CV) (t : Nat) (k : CV -> Res) : Res :=
 match tyD P t, x with
 | some (.slice _), .nils => k (.int 3 0)
 | some (.slice _), .slice _ _ _ _ c true => k (.int 3 (.ofNat c))
 | _, _ => none
def Zfd (mx : Bool) (x y : CV) (k : CV -> Res) : Res :=
 match x, y with
 | .int kd a, .int kd' b => bif Nat.beq kd kd' then k (.int kd (bif mx then (if b > a then b else a) else (if b < a then b else a))) else none
 | _, _ => none
def ZmJ (place : Nat -> Option (Nat × Nat)) (fr : F) : List (Nat × Operand) -> List CV -> Option (List CV)
 | [], cs => some cs
 | (i, x) :: rest, cs => (match place i with
  | some (off, size) => bif (match lk fr x with | .junk => false | v => Nat.beq (cellsOf v).length size) then
    (match ZuV (cellsOf (lk fr x)) off cs with | some cs' => ZmJ place fr rest cs' | none => none) else none
  | none => none)
def Zhh (fs : List Field) (i : Nat) : Option (Nat × Nat) :=
 match Zk5 fs i with | some f => (match Zjq P f.type with | some n => some (f.offset, n) | none => none) | none => none
def ZzS : List Field -> Bool
 | [] => true
 | f :: l => (match Zjq P f.type with | some _ => ZzS l | none => false)
def Zs0 (t : Nat) (parts : Array (Nat × Operand)) (k : CV -> Res) : Res :=
 match ZnG P t with
 | some z => (match tyD P t with
  | some (.struct fs) => bif ZzS P fs.toList then (match ZmJ (Zhh P fs.toList) fr parts.toList z with | some cs => k (.agg cs) | none => none) else none
  | some (.array _ e) => (match Zjq P e with
   | some s => (match ZmJ (fun i => some (i * s, s)) fr parts.toList z with | some cs => k (.agg cs) | none => none)
   | none => none)
  | _ => none)
 | none => none
def Zon (x : Operand) (xt t : Nat) (ok : Bool) (k : CV -> Res) : Res :=
 match tyD P t with
 | some (.interface want) => (match lk fr x with
  | .ifc d v => (match tyI P d with
   | some i => (match Instr.missingMethod want i.methods with
    | none => k (bif ok then .tup [.ifc d v, .bool true] else .ifc d v)
    | some _ => bif ok then (match ZjN P t with | some z => k (.tup [z, .bool false]) | none => none) else none)
   | none => none)
  | .nili => bif ok then (match ZjN P t with | some z => k (.tup [z, .bool false]) | none => none) else none
  | _ => none)
 | some d => (match lk fr x with
  | .ifc u v => bif Nat.beq u t then k (bif ok then .tup [v, .bool true] else v) else (bif ok then (match ZjN P t with | some v => k (.tup [v, .bool false]) | none => none) else none)
  | .nili => bif ok then (match ZjN P t with | some v => k (.tup [v, .bool false]) | none => none) else none
  | _ => none)
 | none => none
def ZqE (b : Builtin) (args : List Operand) (ts : List Nat) (k : CV -> Res) : Res :=
 match b, args, ts with
 | .len, [x], t :: _ => qLen P hp (lk fr x) t k
 | .cap, [x], t :: _ => qCap P (lk fr x) t k
 | .max, [x, y], _ => Zfd true (lk fr x) (lk fr y) k
 | .min, [x, y], _ => Zfd false (lk fr x) (lk fr y) k
 | _, _, _ => none
def ZH8 (c : Call) (k : CV -> Res) : Res :=
 match c.callee with
 | .builtin b => ZqE P fr hp b c.args.toList c.argTypes.toList k
 | _ => none
def qev (o : Op) (k : CV -> Res) : Res :=
 match o with
 | .move x => (match lk fr x with | v => k v)
 | .assign x => k (lk fr x)
 | .pick c a b => ZDu fr c a b k
 | .load t a => ZCC P fr hp t a k
 | .nilCheck x => qNil fr x k
 | .binOp op t x y _ => qBin P fr hp op t x y k
 | .unOp op _ x => qUn fr op x k
 | .convert s d x => ZyR P fr hp s d x k
 | .makeInterface t x => Zus P fr t x k
 | .makeFunc fn a b => Zt2 fr fn a b k
 | .slice t x lo hi mx => ZvC P fr t x lo hi mx k
 | .fieldAddr s x f => Zpc P fr s x f k
 | .field t x f => ZxT P fr t x f k
 | .indexAddr t x ix => ZnM P fr t x ix k
 | .index t x ix => ZsY P fr t x ix k
 | .lookup t x ix ok => ZEz P fr hp t x ix ok k
 | .typeAssert x xt t ok => Zon P fr x xt t ok k
 | .extract t ix => Zj4 fr t ix k
 | .build t parts => Zs0 P fr t parts k
 | .call c => ZH8 P fr hp c k
 | _ => none
end
/-! ### Loud operations -/
abbrev KS := CV -> H -> Nat -> Res
section
variable (P : Program) (fr : F) (hp : H) (n : Nat)
def idN (n : Nat) : Nat := n % 1048576
def Y1 (n : Nat) : Nat := n / 1048576
def mkN (lim id : Nat) : Nat := id + lim * 1048576
def ZbF (c : Ck) (v : Nat -> CV) (k : KS) : Res := bif Nat.blt (idN n) (Y1 n) then k (v (idN n)) (Zag hp (idN n) c) (n + 1) else none
def Zu1 (cs : List CV) (k : KS) : Res := ZbF hp n (.cells cs) (fun i => .ptr i 0) k
def Zwy (t : Nat) (k : KS) : Res := match ZnG P t with | some cs => Zu1 hp n cs k | none => none
def lBox (t : Nat) (x : Operand) (k : KS) : Res := match lk fr x with | .junk => none | v => Zu1 hp n (cellsOf v) k
def ZuQ (t : Nat) (a v : Operand) (k : KS) : Res :=
 match lk fr a with
 | .ptr b o => (match Zjq P t with
  | some sz => (match lk fr v with
   | .junk => none
   | v => bif Nat.beq (cellsOf v).length sz then (match wrN hp b o (cellsOf v) with | some hp' => k (.tup []) hp' n | none => none) else none)
  | none => none)
 | _ => none
def Zo8 (P : Program) (e sz m : Nat) : Option Ck :=
 match ZnG P e with
 | some z => bif Nat.beq z.length sz then (bif Zf5 P e then (match z with
   | [c] => (match Zrf c with | some 0 => some (.bytes m 0) | _ => none)
   | _ => none) else some (.cells (ZAw z m))) else none
 | none => none
def ZxI (t : Nat) (l c : Operand) (k : KS) : Res :=
 match lk fr l, lk fr c with
 | .int _ (.ofNat l), .int _ (.ofNat c) => bif Nat.ble l c then (match tyD P t with
  | some (.slice e) => (match tyI P e with
   | some i => bif Nat.ble c 140737488355328 then bif Nat.ble (i.bytes * c) 140737488355328 then (bif Nat.ble 1 i.size then (match Zo8 P e i.size c with
    | some ck => ZbF hp n ck (fun b => .slice b 0 i.size l c true) k
    | none => none) else none) else none else none
   | none => none)
  | _ => none) else none
 | _, _ => none
def ZtM (t : Nat) (r : Option Operand) (k : KS) : Res :=
 match tyD P t with
 | some (.map _ _) => (match r with
  | none => ZbF hp n (.map [] 0) (fun b => .map b) k
  | some x => (match lk fr x with | .int _ _ => ZbF hp n (.map [] 0) (fun b => .map b) k | _ => none))
 | _ => none
def Zpe (t len : Nat) (parts : Array (Nat × Operand)) (k : KS) : Res :=
 match tyD P t with
 | some (.slice e) => (match Zjq P e with
  | some s => bif Nat.ble 1 s then bif Nat.ble (len * s) 16777216 then (match ZnG P e with
   | some z => bif Nat.beq z.length s then (match ZmJ (fun i => some (i * s, s)) fr parts.toList (ZAw z len) with
    | some cs => bif Zf5 P e then (match (bif Nat.beq s 1 then ZgQ cs else none) with
      | some x => ZbF hp n (.bytes len x) (fun b => .slice b 0 1 len len true) k
      | none => none)
     else ZbF hp n (.cells cs) (fun b => .slice b 0 s len len true) k
    | none => none) else none
   | none => none) else none else none
  | none => none)
 | _ => none
def ZBb (x v : CV) (i : Nat) : List Ent -> List Ent
 | [] => []
 | e :: l => (match i with | 0 => ⟨x, v, e.born⟩ :: l | i + 1 => e :: ZBb x v i l)
def ZDR (i : Nat) : List Ent -> List Ent
 | [] => []
 | e :: l => (match i with | 0 => l | i + 1 => e :: ZDR i l)
def ZpA (t : Nat) (m x v : Operand) (k : KS) : Res :=
 match tyD P t with
 | some (.map kt _) => bif Zfi P kt (lk fr x) then (match lk fr m with
  | .map b => (match ZO hp b with
   | .map es clock => (match lk fr v with
    | .junk => none
    | v => (match Zjn (lk fr x) es 0 with
     | some (some (i, _)) => k (.tup []) (Zag hp b (.map (ZBb (lk fr x) v i es) clock)) n
     | some none => k (.tup []) (Zag hp b (.map (es ++ [⟨lk fr x, v, clock⟩]) (clock + 1))) n
     | none => none))
   | _ => none)
  | _ => none) else none
 | _ => none
def ZnV (t : Nat) (m x : Operand) (k : KS) : Res :=
 match tyD P t with
 | some (.map kt _) => bif Zfi P kt (lk fr x) then (match lk fr m with
  | .nilm => k (.tup []) hp n
  | .map b => (match ZO hp b with
   | .map es clock => (match Zjn (lk fr x) es 0 with
     | some (some (i, _)) => k (.tup []) (Zag hp b (.map (ZDR i es) clock)) n
     | some none => k (.tup []) hp n
     | none => none)
   | _ => none)
  | _ => none) else none
 | _ => none
def ZrO (i : Nat) : List Ent -> Option Ent
 | [] => none
 | e :: l => (match i with | 0 => some e | i + 1 => ZrO i l)
def Zgx (t : Nat) (m x : Operand) (k : KS) : Res :=
 match tyD P t with
 | some (.map kt et) => bif Zfi P kt (lk fr x) then (match lk fr m with
  | .map b => (match ZO hp b with
   | .map es clock => (match Zjn (lk fr x) es 0 with
     | some (some (i, v)) => (match ZrO i es with
      | some e => k (.tup [v, .int 3 (.ofNat e.born)]) (Zag hp b (.map (ZBb (lk fr x) v i es) clock)) n
      | none => none)
     | some none => (match ZjN P et with
      | some v => k (.tup [v, .int 3 (.ofNat clock)]) (Zag hp b (.map (es ++ [⟨lk fr x, v, clock⟩]) (clock + 1))) n
      | none => none)
     | none => none)
   | _ => none)
  | _ => none) else none
 | _ => none
def ZpR (s : Nat) (v : CV) : List Ent -> Option (List Ent)
 | [] => none
 | e :: l => bif Nat.beq e.born s then some (⟨e.key, v, e.born⟩ :: l) else (match ZpR s v l with | some r => some (e :: r) | none => none)
def ZdJ (m s v : Operand) (k : KS) : Res :=
 match lk fr m with
 | .map b => (match ZO hp b with
  | .map es clock => (match lk fr s with
   | .int _ (.ofNat st) => (match lk fr v with
    | .junk => none
    | v => (match ZpR st v es with | some es' => k (.tup []) (Zag hp b (.map es' clock)) n | none => none))
   | _ => none)
  | _ => none)
 | _ => none
def ZxM (t : Nat) (x : Operand) (k : KS) : Res :=
 match tyD P t, lk fr x with
 | some .string, .str l m => ZbF hp n (.siter l m 0) (fun b => .ptr b 0) k
 | some (.map _ _), .nilm => ZbF hp n .iter0 (fun b => .ptr b 0) k
 | some (.map _ _), .map b => (match ZO hp b with
  | .map _ clock => ZbF hp n (.iter b clock [] clock) (fun b => .ptr b 0) k
  | _ => none)
 | _, _ => none
def has (x : Nat) : List Nat -> Bool
 | [] => false
 | a :: l => bif Nat.beq a x then true else has x l
def Zlg (seen : List Nat) : List Ent -> List Ent
 | [] => []
 | e :: l => bif has e.born seen then Zlg seen l else e :: Zlg seen l
def ZmE (since : Nat) : List Ent -> Bool
 | [] => true
 | e :: l => bif Nat.blt e.born since then ZmE since l else false
def Zyk (f : Ent -> Res) : List Ent -> Res
 | [] => some []
 | [e] => f e
 | e :: l => Res.cat (f e) (Zyk f l)
def ZEp (x : Operand) (str : Bool) (k : KS) : Res :=
 match lk fr x with
 | .ptr r 0 => (match ZO hp r with
  | .iter m since seen stepped => bif str then none else (match ZO hp m with
   | .map es clock => bif (bif Nat.ble since stepped then ZmE since es else false) then (match Zlg seen es with
     | [] => k (.tup [.bool false]) hp n
     | c => Zyk (fun e => k (.tup [.bool true, e.key, e.val]) (Zag hp r (.iter m since (seen ++ [e.born]) clock)) n) c) else none
   | _ => none)
  | .iter0 => bif str then none else k (.tup [.bool false]) hp n
  | .siter l m pos => bif str then (bif Nat.blt pos l then (bif Nat.blt (ZkE m pos) 128 then
     k (.tup [.bool true, .int 3 (.ofNat pos), .int 2 (.ofNat (ZkE m pos))]) (Zag hp r (.siter l m (pos + 1))) n else none)
    else k (.tup [.bool false]) hp n) else none
  | _ => none)
 | _ => none
def Zza : List Nat -> Option Nat
 | [] => none
 | [a] => some a
 | _ :: l => Zza l
def Zf0 (s : Nat) : List Ent -> Option Ent
 | [] => none
 | e :: l => bif Nat.beq e.born s then some e else Zf0 s l
def Zwp (x : Operand) (k : KS) : Res :=
 match lk fr x with
 | .ptr r 0 => (match ZO hp r with
  | .iter m since seen stepped => (match ZO hp m with
   | .map es clock => bif Nat.beq clock stepped then (match Zza seen with
    | some s => (match Zf0 s es with | some e => k (.tup [e.key, e.val]) hp n | none => none)
    | none => none) else none
   | _ => none)
  | _ => none)
 | _ => none
/-! append, copy, clear -/
inductive Els where
 | cs (l : List CV)
 | bs (l n : Nat)
def Zmy (hp : H) (u8 : Bool) (s : Nat) (v : CV) (m : Nat) : Option Els :=
 match v with
 | .nils => bif Nat.beq m 0 then some (bif u8 then .bs 0 0 else .cs []) else none
 | .str l x => bif u8 then (bif Nat.ble m l then some (.bs m x) else none) else none
 | .slice b o s' l _ _ => bif Nat.beq s s' then (bif Nat.ble m l then (bif Nat.beq m 0 then some (bif u8 then .bs 0 0 else .cs []) else
   (bif u8 then (match ZO hp b with
    | .bytes k x => bif Nat.ble (o + m) k then some (.bs m (Zn7 x o m)) else none
    | _ => none)
   else (match ZO hp b with
    | .cells cs => (match Zl6 (m * s) (Zke o cs) with | some r => some (.cs r) | none => none)
    | _ => none))) else none) else none
 | _ => none
def lenOf : CV -> Option Nat
 | .nils => some 0
 | .str l _ => some l
 | .slice _ _ _ l _ _ => some l
 | _ => none
def Zgn (hp : H) (b o : Nat) (e : Els) : Option H :=
 match e with
 | .cs l => (match ZO hp b with
  | .cells old => bif ZeU l then (match Zr5 l o old with | some new => some (Zag hp b (.cells new)) | none => none) else none
  | _ => none)
 | .bs l x => (match ZO hp b with
  | .bytes k y => bif Nat.ble o k then (bif Nat.ble (o + l) k then some (Zag hp b (.bytes k (ZDt y o l x k))) else some (Zag hp b (.bytes (o + l) (Zkw o y (x % pw l))))) else none
  | _ => none)
def Ziq : Els -> Els -> Option Ck
 | .cs a, .cs b => some (.cells (a ++ b))
 | .bs l n, .bs l' n' => some (.bytes (l + l') (Zkw l n n'))
 | _, _ => none
def elI (P : Program) (e : Nat) : Option TypeInfo :=
 match tyI P e with
 | some i => bif (bif Nat.ble 1 i.size then bif Nat.ble 1 i.bytes then (bif Zf5 P e then Nat.beq i.size 1 else true) else false else false) then (match ZnG P e with
  | some z => bif Nat.beq z.length i.size then some i else none
  | none => none) else none
 | none => none
def ZsR : Els -> Bool | .cs l => ZeU l | .bs _ _ => true
def Zu6 (u8 : Bool) (c : Ck) : Bool := match c with | .cells _ => !u8 | .bytes _ _ => u8 | _ => false
def Zpd (t t2 : Nat) (d s : CV) (k : KS) : Res :=
 match tyD P t with
 | some (.slice e) => (match elI P e with
  | some i => (match tyD P t2 with
   | some (.int _) => none
   | some _ =>
    (match lenOf s with
    | some m => (match Zmy hp (Zf5 P e) i.size s m with
     | some new => (match d with
      | .nils => bif Nat.beq m 0 then k .nils hp n else
        (match Ziq (bif Zf5 P e then .bs 0 0 else .cs []) new with
        | some ck => bif Nat.ble (i.bytes * m) 70368744177664 then ZbF hp n ck (fun b => .slice b 0 i.size m m false) k else none
        | none => none)
      | .slice b o sz l c ex => bif Nat.beq sz i.size then
        (bif Nat.ble (l + m) c then (bif Nat.beq m 0 then k (.slice b o sz l c ex) hp n else
         (match Zgn hp b (o + l * sz) new with | some hp' => k (.slice b o sz (l + m) c ex) hp' n | none => none))
        else (match Zmy hp (Zf5 P e) i.size d l with
         | some old => (match Ziq old new with
          | some ck => bif Nat.ble (i.bytes * (l + m)) 70368744177664 then
            (bif ex then ZbF hp n ck (fun b => .slice b 0 sz (l + m) (l + m) false) k
            else (bif (bif Nat.beq o 0 then (bif Nat.ble 1 c then (bif Zu6 (Zf5 P e) (ZO hp b) then ZsR new else false) else false) else false) then ZbF (Zag hp b .no) n ck (fun b => .slice b 0 sz (l + m) (l + m) false) k else none)) else none
          | none => none)
         | none => none)) else none
      | _ => none)
     | none => none)
    | none => none)
   | none => none)
  | none => none)
 | _ => none
def ZDY (t : Nat) (d s : CV) (k : KS) : Res :=
 match tyD P t with
 | some (.slice e) => (match elI P e with
  | some i => (match lenOf s with
   | some m => (match lenOf d with
    | some l => (match (bif Nat.ble m l then m else l) with
     | 0 => (match d with | .nils => k (.int 3 0) hp n | .slice .. => k (.int 3 0) hp n | _ => none)
     | j => (match Zmy hp (Zf5 P e) i.size s j with
      | some new => (match d with
       | .slice b o sz' _ _ _ => bif Nat.beq i.size sz' then (match Zgn hp b o new with | some hp' => k (.int 3 (.ofNat j)) hp' n | none => none) else none
       | _ => none)
      | none => none))
    | none => none)
   | none => none)
  | none => none)
 | _ => none
def Zvu (t : Nat) (x : CV) (k : KS) : Res :=
 match tyD P t, x with
 | some (.map _ _), .nilm => k (.tup []) hp n
 | some (.map _ _), .map b => (match ZO hp b with | .map _ clock => k (.tup []) (Zag hp b (.map [] clock)) n | _ => none)
 | some (.slice _), .nils => k (.tup []) hp n
 | some (.slice e), .slice b o s l _ _ => (match l with
  | 0 => k (.tup []) hp n
  | l => (match Zo8 P e s l with
   | some (.bytes m x) => (match Zgn hp b o (.bs m x) with | some hp' => k (.tup []) hp' n | none => none)
   | some (.cells cs) => (match Zgn hp b o (.cs cs) with | some hp' => k (.tup []) hp' n | none => none)
   | _ => none))
 | _, _ => none
def ZDe (src dst : Nat) (x : Operand) (k : KS) : Res :=
 match tyD P dst, lk fr x with
 | some (.slice e), .str l m => (match tyD P src with
  | some _ => bif Zf5 P e then ZbF hp n (.bytes l m) (fun b => .slice b 0 1 l l false) k else none
  | none => none)
 | some (.slice e), .slice b o s l kk ex => (match tyD P src with
  | some (.slice _) => bif (bif Nat.beq src dst then Zf5 P e else false) then (match ZO hp b with
   | .bytes _ _ => k (.slice b o s l kk ex) hp n
   | _ => none) else none
  | _ => none)
 | _, _ => ZyR P fr hp src dst x (fun v => k v hp n)
def ZvE (b : Builtin) (args : List Operand) (ts : List Nat) (k : KS) : Res :=
 match b, args, ts with
 | .append, [d, s], [t, t2] => Zpd P hp n t t2 (lk fr d) (lk fr s) k
 | .copy, [d, s], t :: _ => ZDY P hp n t (lk fr d) (lk fr s) k
 | .clear, [x], t :: _ => Zvu P hp n t (lk fr x) k
 | .delete, [m, x], t :: _ => ZnV P fr hp n t m x k
 | b, args, ts => ZqE P fr hp b args ts (fun v => k v hp n)
end
end
end Go.Cx
namespace Go.Cx
noncomputable section
abbrev Cn := List CV -> H -> Nat -> Res
def ZT {α : Type} : List (Nat × α) -> Nat -> Option α
 | [], _ => none
 | (i, a) :: l, n => bif Nat.beq i n then some a else ZT l n
def ZzM (k : KS) : Out -> List Out -> Res
 | o, [] => k o.v o.hp o.n
 | o, p :: l => Res.cat (k o.v o.hp o.n) (ZzM k p l)
def after (mg : Bool) (n : Nat) (r : Res) (k : KS) : Res :=
 match r with
 | none => none
 | some l => (match l with
  | [] => none
  | o :: os => (match os with
   | [] => k o.v o.hp o.n
   | p :: os => bif mg then (match meets o (p :: os) with | m => bif Nat.beq (Y1 m.n) (Y1 n) then k m.v m.hp m.n else none) else ZzM k o (p :: os)))
section
variable (P : Program) (ctrs : List (Nat × Option Cn)) (bd : Nat -> Cn) (rd : Nat -> Cn)
/-! ### Calls -/
def Zuo (f : Nat) (args : List CV) (hp : H) (n : Nat) (k : KS) : Res :=
 match ZT ctrs f with
 | some c => (match c with | some c => after true n (c args hp n) k | none => after false n (bd f args hp n) k)
 | none => after true n (bd f args hp n) k
def ZAn (name : String) : List Method -> Option Method
 | [] => none
 | m :: l => bif m.name == name then some m else ZAn name l
def Zf2 (t : Nat) (name : String) : Option Nat :=
 match tyI P t with
 | some i => (match ZAn name i.methods.toList with
  | some m => (match m.path.toList, m.func, tyD P t with
   | [], some (f, true), some (.pointer _) => some f
   | [], some (f, false), some (.pointer _) => none
   | [], some (f, false), some _ => some f
   | _, _, _ => none)
  | none => none)
 | none => none
def ZDI (g : CV) (args : List CV) (hp : H) (n : Nat) (k : KS) : Res :=
 match g with
 | .fn f first caps => Zuo ctrs bd f ((first ++ args) ++ caps) hp n k
 | .yld l => after false n (rd l args hp n) k
 | .mth name (.ifc t v) => (match Zf2 P t name with
  | some f => Zuo ctrs bd f (v :: args) hp n k
  | none => none)
 | _ => none
def ZDc (g : CV) (args : List CV) (hp : H) (n : Nat) (k : KS) : Res :=
 match g with
 | .fn f first caps => (match ZT ctrs f with
  | some c => (match c with | some _ => none | none => after false n (bd f ((first ++ args) ++ caps) hp n) k)
  | none => after true n (bd f ((first ++ args) ++ caps) hp n) k)
 | _ => none
def ZCA (c : Call) (fr : F) (hp : H) (n : Nat) (k : KS) : Res :=
 match c.callee with
 | .value f => ZDI P ctrs bd rd (lk fr f) (lks fr c.args.toList) hp n k
 | .builtin b => ZvE P fr hp n b c.args.toList c.argTypes.toList k
 | .invoke r name => (match lk fr r with
  | .ifc t v => (match Zf2 P t name with
   | some f => Zuo ctrs bd f (v :: lks fr c.args.toList) hp n k
   | none => none)
  | _ => none)
def lev (o : Op) (fr : F) (hp : H) (n : Nat) (k : KS) : Res :=
 match o with
 | .alloc t => Zwy P hp n t k
 | .box t x => lBox fr hp n t x k
 | .store t a v => ZuQ P fr hp n t a v k
 | .makeSlice t l c => ZxI P fr hp n t l c k
 | .makeMap t r => ZtM P fr hp n t r k
 | .buildSlice t len parts => Zpe P fr hp n t len parts k
 | .mapUpdate t m x v => ZpA P fr hp n t m x v k
 | .insert t m x v => ZpA P fr hp n t m x v k
 | .mapEntry t m x => Zgx P fr hp n t m x k
 | .entryStore t m s v => ZdJ fr hp n m s v k
 | .range t x => ZxM P fr hp n t x k
 | .next x str => ZEp fr hp n x str k
 | .entry x => Zwp fr hp n x k
 | .convert s d x => ZDe P fr hp n s d x k
 | .call c => ZCA P ctrs bd rd c fr hp n k
 | o => qev P fr hp o (fun v => k v hp n)
/-! ### Guards, regions in the order of their text -/
inductive Gd where | go | skip | bad
def ZD4 (ops : List Oper) (j : Nat) : Option Nat := match Zk5 ops j with | some o => o.dst | none => none
def YE (ops : List Oper) (fr : F) (g : Option (Nat × Bool)) : Gd :=
 match g with
 | none => .go
 | some (j, want) => (match ZD4 ops j with
  | some d => (match fg fr d with
   | .bool b => bif bbq b want then .go else .skip
   | .tup [] => .skip
   | _ => .bad)
  | none => .bad)
def ZyC (fr : F) (d : Option Nat) (v : CV) : F := match d with | some d => Zw2 fr d v | none => fr
def Zow (fr : F) (d : CV) : F := match Zf3 fr Yu with | .tup l => Zxu fr Yu (.tup (d :: l)) | _ => Zxu fr Yu (.tup [d])
def ZBk (c : Call) (fr : F) : Option CV :=
 match Zf3 fr Yu with
 | .nili => none
 | _ => (match c.callee with
  | .value f => (match lk fr f with | .fn g a b => some (.tup (.fn g a b :: lks fr c.args.toList)) | _ => none)
  | _ => none)
def ZEb (o : Oper) (fr : F) (hp : H) (n : Nat) (k : F -> H -> Nat -> Res) : Res :=
 match o.op with
 | .defer c => (match ZBk c fr with | some d => k (ZyC (Zow fr d) o.dst (.tup [])) hp n | none => none)
 | op => lev P ctrs bd rd op fr hp n (fun v hp n => k (ZyC fr o.dst v) hp n)
def ZG1 (ops : List Oper) : List Oper -> F -> H -> Nat -> (F -> H -> Nat -> Res) -> Res
 | [], fr, hp, n, k => k fr hp n
 | o :: rest, fr, hp, n, k => (match YE ops fr o.guard with
  | .go => ZEb P ctrs bd rd o fr hp n (fun fr hp n => ZG1 ops rest fr hp n k)
  | .skip => ZG1 ops rest (ZyC fr o.dst (.tup [])) hp n k
  | .bad => none)
/-! ### Regions that draw their order -/
def ZgK (P : Program) (o : Op) : Bool :=
 match o with
 | .move _ | .assign _ | .pick .. | .nilCheck _ | .binOp .. | .unOp .. | .fieldAddr .. | .field .. | .indexAddr .. | .index .. | .slice .. | .lookup .. | .load .. | .extract .. | .makeInterface .. | .makeFunc .. | .build .. | .typeAssert .. => true
 | .convert _ d _ => (match tyD P d with | some (.slice _) => false | _ => true)
 | .call c => (match c.callee with | .builtin .len => true | .builtin .cap => true | .builtin .max => true | .builtin .min => true | _ => false)
 | _ => false
structure Rec where
 i : Nat
 o : Oper
 fr : F
 v : CV
def ZgN (o : Oper) (i : Nat) : Bool := o.after.any fun e => Region.binds .any e && e.on == i
def ZnI (hp : H) (r : Rec) : Bool :=
 bif CV.det r.v then (match qev P r.fr hp r.o.op (fun v => bif CV.bq r.v v then some [] else none) with | some [] => true | _ => false) else false
def Zhz (fr : F) (ops : List Oper) (o : Oper) : Bool :=
 match YE ops fr o.guard with | .skip => true | _ => ZgK P o.op
def Yl (fr : F) (ops : List Oper) : List Nat -> Option (Nat × Oper)
 | [] => none
 | i :: l => (match Zk5 ops i with
  | some o => bif Zhz P fr ops o then some (i, o) else Yl fr ops l
  | none => none)
def Zy9 (f : Nat -> Res) : List Nat -> Res
 | [] => some []
 | [i] => f i
 | i :: l => Res.cat (f i) (Zy9 f l)
def Yt : Op -> Bool
 | .alloc _ => true | .box _ _ => true | .makeMap _ _ => true | .makeSlice _ _ _ => true | .buildSlice _ _ _ => true | .convert _ _ _ => true | _ => false
def ZbZ : List Oper -> Nat
 | [] => 0
 | o :: l => bif Yt o.op then ZbZ l + 1 else ZbZ l
def Zb1 : List Oper -> Nat -> Nat
 | [], _ => 0
 | _ :: _, 0 => 0
 | o :: l, j + 1 => bif Yt o.op then Zb1 l j + 1 else Zb1 l j
def Zv0 : Op -> Bool | .defer _ => true | _ => false
def Zki : List Oper -> Bool
 | [] => true
 | o :: l => bif Zv0 o.op then false else Zki l
def Zri : Op -> Bool | .call _ => true | _ => false
def YP : Nat := 256
def ZdG (ops : List Oper) : List Nat -> List (Nat × Nat) -> Nat -> List (Nat × Nat) × Nat
 | [], rs, n => (rs, n)
 | j :: l, rs, n => (match Zk5 ops j with
  | some o => bif Zri o.op then (match ZT rs j with
    | some _ => ZdG ops l rs n
    | none => ZdG ops l ((j, idN n) :: rs) (n + YP))
   else ZdG ops l rs n
  | none => ZdG ops l rs n)
def Zcn (ops : List Oper) : Nat -> List Nat -> Bool
 | k, [] => Nat.ble 2 k
 | k, j :: l => (match Zk5 ops j with | some o => bif Zri o.op then Zcn ops (k + 1) l else Zcn ops k l | none => Zcn ops k l)
def levA (ops : List Oper) (n0 j : Nat) (rs : List (Nat × Nat)) (op : Op) (fr : F) (hp : H) (n : Nat) (k : KS) : Res :=
 bif Yt op then lev P ctrs bd rd op fr hp (mkN (n0 + Zb1 ops j + 1) (n0 + Zb1 ops j)) (fun v hp _ => k v hp n) else
  (match ZT rs j with
  | some i => lev P ctrs bd rd op fr hp (mkN (i + YP) i) (fun v hp _ => k v hp n)
  | none => lev P ctrs bd rd op fr hp n k)
def ZbJ (ops : Array Oper) (n0 : Nat) : Nat -> Array Bool -> List (Nat × Nat) -> List Rec -> F -> H -> Nat -> (F -> H -> Nat -> Res) -> Res
 | 0, _, _, _, _, _, _, _ => none
 | fuel + 1, listed, rs, recs, fr, hp, n, k =>
  match Region.ready .any ops listed with
  | [] => k fr hp n
  | i :: rest =>
   match Yl P fr ops.toList (i :: rest) with
   | some (i, o) =>
    bif Region.free .any ops listed i then
     (match YE ops.toList fr o.guard with
     | .go => qev P fr hp o.op (fun v => ZbJ ops n0 fuel (listed.setIfInBounds i true) rs (⟨i, o, fr, v⟩ :: recs) (ZyC fr o.dst v) hp n k)
     | .skip => ZbJ ops n0 fuel (listed.setIfInBounds i true) rs recs (ZyC fr o.dst (.tup [])) hp n k
     | .bad => none)
    else none
   | none => (match (bif Zcn ops.toList 0 (i :: rest) then ZdG ops.toList (i :: rest) rs n else (rs, n)) with
    | (rs, m) => bif (bif Nat.ble (idN m) (Y1 m) then Nat.beq (Y1 m) (Y1 n) else false) then Zy9 (fun j => match Zk5 ops.toList j with
     | some o => (match YE ops.toList fr o.guard with
      | .go => levA P ctrs bd rd ops.toList n0 j rs o.op fr hp m fun v hp n =>
        (match recs.filter fun r => !(ZgN o r.i) with
        | recs => bif recs.all (ZnI P hp) then ZbJ ops n0 fuel (listed.setIfInBounds j true) rs recs (ZyC fr o.dst v) hp n k else none)
      | _ => none)
     | none => none) (i :: rest) else none)
/-! ### Code -/
def Zyi : List Nat -> List CV -> F -> Option F
 | [], [], fr => some fr
 | p :: ps, v :: vs, fr => Zyi ps vs (Zw2 fr p v)
 | _, _, _ => none
def Zv4 (ro : Option Nat) (fn : Nat) (ps : List Nat) (assign body : Code) (fr : F) (hp : H) (n : Nat) : Option (Nat × F × H × Nat) :=
 match ro with
 | none => bif Nat.blt (idN n + 1) (Y1 n) then some (idN n + 1, Zow fr (.ptr (idN n) 0), Zag (Zag hp (idN n) .dfr) (idN n + 1) (.loop fn fr ps assign body (idN n) 0 none), n + 2) else none
 | some l => (match ZO hp l with
  | .loop _ _ _ _ _ db _ _ => bif Nat.blt (idN n) (Y1 n) then some (idN n, fr, Zag hp (idN n) (.loop fn fr ps assign body db 0 none), n + 1) else none
  | _ => none)
def endL (l : Nat) (hp : H) : Option (Option Code × H) :=
 match ZO hp l with
 | .loop fn fr ps assign body db st pend => bif Nat.beq st 1 then none else some (pend, Zag hp l (.loop fn fr ps assign body db 3 pend))
 | _ => none
def jump (c : Option Code) (fr : F) (hp : H) (n : Nat) (kn : F -> H -> Nat -> Res) (ke : Nat -> F -> H -> Nat -> Res) (kr : F -> H -> Nat -> Res) : Res :=
 match c with
 | none => kn fr hp n
 | some .ret => kr fr hp n
 | some (.exit id) => ke id fr hp n
 | _ => none
def cx (fn : Nat) (ro : Option Nat) : Nat -> Code -> F -> H -> Nat -> (F -> H -> Nat -> Res) -> (Nat -> F -> H -> Nat -> Res) -> (F -> H -> Nat -> Res) -> Res
 | 0, _, _, _, _, _, _, _ => none
 | fuel + 1, c, fr, hp, n, kn, ke, kr =>
  match c with
  | .skip => kn fr hp n
  | .label _ => kn fr hp n
  | .region _ ops draw => bif draw then (bif (bif P.follows .mixedOrders then (bif Region.noSelect ops then Zki ops.toList else false) else false) then bif Nat.ble (idN n + ZbZ ops.toList) (Y1 n) then ZbJ P ctrs bd rd ops (idN n) (ops.size + 1) (Array.replicate ops.size false) [] [] fr hp (n + ZbZ ops.toList) kn else none else none)
    else ZG1 P ctrs bd rd ops.toList ops.toList fr hp n kn
  | .seq a b => cx fn ro fuel a fr hp n (fun fr hp n => cx fn ro fuel b fr hp n kn ke kr) ke kr
  | .cond x a b => (match lk fr x with
   | .bool true => cx fn ro fuel a fr hp n kn ke kr
   | .bool false => cx fn ro fuel b fr hp n kn ke kr
   | _ => none)
  | .block id b => cx fn ro fuel b fr hp n kn (fun i fr hp n => bif Nat.beq i id then kn fr hp n else ke i fr hp n) kr
  | .exit id => ke id fr hp n
  | .ret => kr fr hp n
  | .loop b => cx fn ro fuel b fr hp n (fun fr hp n => cx fn ro fuel (.loop b) fr hp n kn ke kr) ke kr
  | .rangeFunc g ps assign body => (match Zv4 ro fn ps.toList assign body fr hp n with
   | some (l, fr, hp, n) => ZDc ctrs bd (lk fr g) [.yld l] hp n (fun _ hp n =>
    match endL l hp with
    | some (j, hp) => jump j fr hp n kn ke kr
    | none => none)
   | none => none)
  | _ => none
/-! ### Bodies -/
def ZA8 (fr : F) (hp : H) : List ResultVar -> Option (List CV)
 | [] => some []
 | .tmp t :: l => (match fg fr t with | .junk => none | v => (match ZA8 fr hp l with | some r => some (v :: r) | none => none))
 | .cell a t :: l => (match fg fr a with
  | .ptr b o => (match tyA P t with
   | some (true, n) => (match rdN hp b o n with | some cs => (match ZA8 fr hp l with | some r => some (.agg cs :: r) | none => none) | none => none)
   | some (false, _) => (match rd1 hp b o with | some c => (match ZA8 fr hp l with | some r => some (c :: r) | none => none) | none => none)
   | none => none)
  | _ => none)
def ZFD : List CV -> Nat -> F -> F
 | [], _, fr => fr
 | v :: l, i, fr => ZFD l (i + 1) (Zw2 fr i v)
variable (dctrs : List (Nat × Cn)) in
def ZrV : List CV -> H -> Nat -> (H -> Nat -> Res) -> Res
 | [], hp, n, k => k hp n
 | .ptr r 0 :: l, hp, n, k => (match ZO hp r with | .dfr => ZrV l (Zag hp r .no) n k | _ => none)
 | .tup (.fn f first caps :: args) :: l, hp, n, k => (match ZT dctrs f with
  | some c => after true n (c ((first ++ args) ++ caps) hp n) (fun _ hp n => ZrV l hp n k)
  | none => none)
 | _, _, _, _ => none
variable (dctrs : List (Nat × Cn)) in
def fin (fn : Func) (fr : F) (hp : H) (n : Nat) : Res :=
 ZrV dctrs (match Zf3 fr Yu with | .tup l => l | _ => []) hp n (fun hp n =>
  match ZA8 P fr hp fn.results.toList with
  | some [v] => some [⟨v, hp, n⟩]
  | some vs => some [⟨.tup vs, hp, n⟩]
  | none => none)
def round (l : Nat) (args : List CV) (hp : H) (n : Nat) : Res :=
 match ZO hp l with
 | .loop fn fr ps assign body db st pend => bif Nat.beq st 0 then (match Zyi ps args (Zxu fr Yu .nili) with
  | some fr => cx P ctrs bd rd fn (some l) 1000000 assign fr hp n (fun fr1 hp n => match ZO hp l with
   | .loop fn0 fr0 ps0 a0 b0 db0 st0 pend0 => bif Nat.beq st0 0 then cx P ctrs bd rd fn (some l) 1000000 body fr1 (Zag hp l (.loop fn0 fr0 ps0 a0 b0 db0 1 pend0)) n
     (fun _ hp n => endR l none hp n) (fun i _ hp n => endR l (some (.exit i)) hp n) (fun _ hp n => endR l (some .ret) hp n) else none
   | _ => none) (fun _ _ _ _ => none) (fun _ _ _ => none)
  | none => none) else none
 | _ => none
where
 endR (l : Nat) (j : Option Code) (hp : H) (n : Nat) : Res :=
  match ZO hp l with
  | .loop fn fr ps a b db _ _ => some [⟨.bool j.isNone, Zag hp l (.loop fn fr ps a b db (if j.isNone then 0 else 2) j), n⟩]
  | _ => none
end
def go (P : Program) (ctrs : List (Nat × Option Cn)) (dctrs : List (Nat × Cn)) : Nat -> Bool -> Nat -> Cn
 | 0, _, _, _, _, _ => none
 | fuel + 1, true, l, args, hp, n => round P ctrs (go P ctrs dctrs fuel false) (go P ctrs dctrs fuel true) l args hp n
 | fuel + 1, false, f, args, hp, n =>
  match ZFA P.funcs.toList f with
  | none => none
  | some fn => (match fn.body with
   | none => none
   | some c => bif (bif Nat.ble fn.ntmps 511 then (bif Nat.ble args.length 511 then !(fn.name == "runtime.NumGoroutine") else false) else false) then
     cx P ctrs (go P ctrs dctrs fuel false) (go P ctrs dctrs fuel true) f none 1000000 c (ZFD args 0 (F0 (args.length + (fn.ntmps - args.length)))) hp n
      (fin P dctrs fn) (fun _ _ _ _ => none) (fin P dctrs fn)
    else none)
def N0 : Nat := mkN 32767 0
def yes (r : Res) : Bool := match r with | some [o] => (match o.v with | .bool b => b | _ => false) | _ => false
end
end Go.Cx
namespace Go.Cx
open Go.RowKit (Below)
abbrev Sg := Nat -> Option (Nat × Nat)
def Le (σ τ : Sg) : Prop := ∀ i x, σ i = some x -> τ i = some x
theorem Le.refl (σ : Sg) : Le σ σ := fun _ _ h => h
theorem Le.trans {σ τ υ : Sg} (h : Le σ τ) (k : Le τ υ) : Le σ υ := fun i x hx => k i x (h i x hx)
def bys : Nat -> Nat -> List UInt8
 | 0, _ => []
 | l + 1, n => UInt8.ofNat (n % 256) :: bys l (n / 256)
mutual
def VR (σ : Sg) : CV -> Value -> Prop
 | .int k n, v => v = .int (kc k) n
 | .bool b, v => v = .bool b
 | .str l n, v => v = .string ⟨(bys l n).toArray⟩
 | .ptr b o, v => ∃ p t, σ b = some (p, t) /\ v = .pointer (some ⟨p, o, none⟩)
 | .nilp, v => v = .pointer none
 | .slice b o s l k ex, v => ∃ p t o' c, σ b = some (p, t) /\ v = .slice (some ⟨p, o', none⟩) l c /\ l <= k /\ k <= c /\ (ex = true -> c = k) /\ ((0 < k \/ ex = true) -> o' = o) /\ o' + c * s <= t /\ (ex = false -> 0 < k -> o' + c * s = t)
 | .nils, v => v = .slice none 0 0
 | .map b, v => ∃ p t, σ b = some (p, t) /\ v = .map (some p)
 | .nilm, v => v = .map none
 | .fn f fs cs, v => ∃ us vs, VRs σ fs us /\ VRs σ cs vs /\ v = .func (.func f) us.toArray vs.toArray
 | .mth name c, v => ∃ x, VR σ c x /\ v = .func (.method name) #[x] #[]
 | .yld l, v => ∃ p t, σ l = some (p, t) /\ v = .func (.yield p) #[] #[]
 | .nilf, v => v = .nilFunc
 | .ifc t c, v => ∃ x, VR σ c x /\ v = .iface t x
 | .nili, v => v = .nilIface
 | .agg cs, v => ∃ vs, VRs σ cs vs /\ v = .agg vs.toArray
 | .tup cs, v => ∃ vs, VRs σ cs vs /\ v = .tuple vs.toArray
 | .junk, _ => True
def VRs (σ : Sg) : List CV -> List Value -> Prop
 | [], vs => vs = []
 | c :: cs, vs => ∃ v ws, vs = v :: ws /\ VR σ c v /\ VRs σ cs ws
end
mutual
theorem VR.mono {σ τ : Sg} (h : Le σ τ) : ∀ {c : CV} {v : Value}, VR σ c v -> VR τ c v
 | .int _ _, _, hv => by simpa only [VR] using hv
 | .bool _, _, hv => by simpa only [VR] using hv
 | .str _ _, _, hv => by simpa only [VR] using hv
 | .ptr _ _, _, hv => by simp only [VR] at hv ⊢; obtain ⟨p, t, h1, h2⟩ := hv; exact ⟨p, t, h _ _ h1, h2⟩
 | .nilp, _, hv => by simpa only [VR] using hv
 | .slice .., _, hv => by simp only [VR] at hv ⊢; obtain ⟨p, t, o', c, h1, h2⟩ := hv; exact ⟨p, t, o', c, h _ _ h1, h2⟩
 | .nils, _, hv => by simpa only [VR] using hv
 | .map _, _, hv => by simp only [VR] at hv ⊢; obtain ⟨p, t, h1, h2⟩ := hv; exact ⟨p, t, h _ _ h1, h2⟩
 | .nilm, _, hv => by simpa only [VR] using hv
 | .fn _ fs cs, _, hv => by simp only [VR] at hv ⊢; obtain ⟨us, vs, h0, h1, h2⟩ := hv; exact ⟨us, vs, VRs.mono h h0, VRs.mono h h1, h2⟩
 | .mth _ c, _, hv => by simp only [VR] at hv ⊢; obtain ⟨x, h1, h2⟩ := hv; exact ⟨x, VR.mono h h1, h2⟩
 | .yld _, _, hv => by simp only [VR] at hv ⊢; obtain ⟨p, t, h1, h2⟩ := hv; exact ⟨p, t, h _ _ h1, h2⟩
 | .nilf, _, hv => by simpa only [VR] using hv
 | .ifc _ c, _, hv => by simp only [VR] at hv ⊢; obtain ⟨x, h1, h2⟩ := hv; exact ⟨x, VR.mono h h1, h2⟩
 | .nili, _, hv => by simpa only [VR] using hv
 | .agg cs, _, hv => by simp only [VR] at hv ⊢; obtain ⟨vs, h1, h2⟩ := hv; exact ⟨vs, VRs.mono h h1, h2⟩
 | .tup cs, _, hv => by simp only [VR] at hv ⊢; obtain ⟨vs, h1, h2⟩ := hv; exact ⟨vs, VRs.mono h h1, h2⟩
 | .junk, _, _ => by simp only [VR]
theorem VRs.mono {σ τ : Sg} (h : Le σ τ) : ∀ {c : List CV} {v : List Value}, VRs σ c v -> VRs τ c v
 | [], _, hv => by simpa only [VRs] using hv
 | c :: cs, _, hv => by simp only [VRs] at hv ⊢; obtain ⟨v, ws, h1, h2, h3⟩ := hv; exact ⟨v, ws, h1, VR.mono h h2, VRs.mono h h3⟩
end
theorem VRs.len {σ : Sg} : ∀ {c : List CV} {v : List Value}, VRs σ c v -> c.length = v.length
 | [], _, h => by simp only [VRs] at h; subst h; rfl
 | c :: cs, _, h => by simp only [VRs] at h; obtain ⟨v, ws, rfl, _, h3⟩ := h; simp [VRs.len h3]
theorem VRs.app {σ : Sg} : ∀ {c d : List CV} {v w : List Value}, VRs σ c v -> VRs σ d w -> VRs σ (c ++ d) (v ++ w)
 | [], _, _, _, h, k => by simp only [VRs] at h; subst h; exact k
 | c :: cs, _, _, _, h, k => by
  simp only [VRs] at h; obtain ⟨v, ws, rfl, h2, h3⟩ := h
  simp only [List.cons_append, VRs]; exact ⟨v, _, rfl, h2, VRs.app h3 k⟩
theorem VRs.get {σ : Sg} : ∀ {c : List CV} {v : List Value} {i : Nat} {x : CV}, VRs σ c v -> ZAG c i = some x -> ∃ y, v[i]? = some y /\ VR σ x y
 | [], _, _, _, _, hx => by cases hx
 | c :: cs, _, i, x, h, hx => by
  simp only [VRs] at h; obtain ⟨v, ws, rfl, h2, h3⟩ := h
  cases i with
  | zero => simp only [ZAG] at hx; cases hx; exact ⟨v, rfl, h2⟩
  | succ i => simp only [ZAG] at hx; simpa using VRs.get h3 hx
theorem VRs.drop {σ : Sg} : ∀ {n : Nat} {c : List CV} {v : List Value}, VRs σ c v -> VRs σ (Zke n c) (v.drop n)
 | 0, _, _, h => by simpa [Zke] using h
 | n + 1, [], _, h => by simp only [VRs] at h; subst h; simp [Zke, VRs]
 | n + 1, c :: cs, _, h => by
  simp only [VRs] at h; obtain ⟨v, ws, rfl, h2, h3⟩ := h
  simpa [Zke] using VRs.drop h3
theorem VRs.take {σ : Sg} : ∀ {n : Nat} {c r : List CV} {v : List Value}, VRs σ c v -> Zl6 n c = some r -> VRs σ r (v.take n) /\ n <= v.length /\ r.length = n
 | 0, _, r, _, h, hr => by simp only [Zl6] at hr; cases hr; simp [VRs]
 | n + 1, [], _, _, h, hr => by simp only [Zl6] at hr; cases hr
 | n + 1, c :: cs, r, _, h, hr => by
  simp only [VRs] at h; obtain ⟨v, ws, rfl, h2, h3⟩ := h
  simp only [Zl6] at hr
  split at hr
  ·rename_i q hq
   cases hr
   obtain ⟨a, b, d⟩ := VRs.take h3 hq
   refine ⟨?_, by simpa using b, by simp [d]⟩
   simp only [List.take_succ_cons, VRs]; exact ⟨v, _, rfl, h2, a⟩
  ·cases hr
theorem VRs.over {σ : Sg} {d : List CV} {w : List Value} (hd : VRs σ d w) : ∀ {o : Nat} {c r : List CV} {v : List Value}, VRs σ c v -> Zr5 d o c = some r →
  VRs σ r (v.take o ++ w ++ v.drop (o + w.length)) /\ o <= v.length
 | 0, c, r, v, h, hr => by
  simp only [Zr5] at hr; cases hr
  refine ⟨?_, Nat.zero_le _⟩
  have := VRs.app hd (VRs.drop (n := d.length) h)
  simpa [hd.len] using this
 | o + 1, [], r, v, h, hr => by simp only [Zr5] at hr; cases hr
 | o + 1, c :: cs, r, v, h, hr => by
  simp only [VRs] at h; obtain ⟨v, ws, rfl, h2, h3⟩ := h
  simp only [Zr5] at hr
  split at hr
  ·rename_i q hq
   cases hr
   obtain ⟨a, b⟩ := VRs.over hd h3 hq
   refine ⟨?_, by simpa using b⟩
   have e : (v :: ws).drop (o + 1 + w.length) = ws.drop (o + w.length) := by rw [show o + 1 + w.length = (o + w.length) + 1 by omega]; rfl
   rw [e]
   simp only [List.take_succ_cons, List.cons_append, VRs]; exact ⟨v, _, rfl, h2, a⟩
  ·cases hr
theorem VRs.put0 {σ : Sg} : ∀ {d c r : List CV} {w v : List Value}, VRs σ d w -> VRs σ c v -> ZhW d c = some r -> VRs σ r (w ++ v.drop w.length) /\ w.length <= v.length
 | [], c, r, w, v, hd, h, hr => by
  simp only [VRs] at hd; subst hd
  simp only [ZhW] at hr; cases hr
  exact ⟨by simpa using h, Nat.zero_le _⟩
 | _ :: _, [], r, w, v, hd, h, hr => by simp only [ZhW] at hr; cases hr
 | x :: d, y :: c, r, w, v, hd, h, hr => by
  simp only [VRs] at hd h
  obtain ⟨a, w', rfl, h1, h2⟩ := hd
  obtain ⟨b, v', rfl, h3, h4⟩ := h
  simp only [ZhW] at hr
  split at hr
  ·rename_i q hq
   cases hr
   obtain ⟨e1, e2⟩ := VRs.put0 h2 h4 hq
   refine ⟨?_, by simpa using e2⟩
   simp only [List.cons_append, ZJk, List.drop_succ_cons, VRs]
   exact ⟨a, _, rfl, h1, e1⟩
  ·cases hr
theorem VRs.put {σ : Sg} {d : List CV} {w : List Value} (hd : VRs σ d w) : ∀ {o : Nat} {c r : List CV} {v : List Value}, VRs σ c v -> ZuV d o c = some r →
  VRs σ r (v.take o ++ w ++ v.drop (o + w.length)) /\ o + w.length <= v.length
 | 0, c, r, v, h, hr => by
  simp only [ZuV] at hr
  obtain ⟨a, b⟩ := VRs.put0 hd h hr
  exact ⟨by simpa using a, by omega⟩
 | o + 1, [], r, v, h, hr => by simp only [ZuV] at hr; cases hr
 | o + 1, c :: cs, r, v, h, hr => by
  simp only [VRs] at h; obtain ⟨v, ws, rfl, h2, h3⟩ := h
  simp only [ZuV] at hr
  split at hr
  ·rename_i q hq
   cases hr
   obtain ⟨a, b⟩ := VRs.put hd h3 hq
   refine ⟨?_, by simp only [ZJk]; omega⟩
   have e : (v :: ws).drop (o + 1 + w.length) = ws.drop (o + w.length) := by rw [show o + 1 + w.length = (o + w.length) + 1 by omega]; rfl
   rw [e]
   simp only [List.take_succ_cons, List.cons_append, VRs]; exact ⟨v, _, rfl, h2, a⟩
  ·cases hr
theorem VRs.rep {σ : Sg} {c : List CV} {v : List Value} (h : VRs σ c v) : ∀ (n : Nat), VRs σ (ZAw c n) (List.replicate n v).flatten
 | 0 => by simp [ZAw, VRs]
 | n + 1 => by simp only [ZAw, List.replicate_succ, List.flatten_cons]; exact h.app (h.rep n)
/-! ### Bytes -/
theorem Zw : ∀ (l n : Nat), (bys l n).length = l
 | 0, _ => rfl
 | l + 1, n => by simp [bys, Zw l]
theorem Zjf (l : Nat) : pw (l + 1) = 256 * pw l := by unfold pw; rw [show 8 * (l + 1) = 8 * l + 8 by omega, Nat.pow_add, Nat.mul_comm]
theorem ZBy (l : Nat) : 0 < pw l := Nat.two_pow_pos _
theorem Zs4 : pw 0 = 1 := rfl
theorem ZA1 (a b : Nat) : pw (a + b) = pw a * pw b := by unfold pw; rw [<- Nat.pow_add]; congr 1; omega
theorem Zcm : ∀ (l n i : Nat), i < l -> (bys l n)[i]? = some (UInt8.ofNat (ZkE n i))
 | 0, _, _, h => by omega
 | l + 1, n, 0, _ => by simp [bys, ZkE, pw]
 | l + 1, n, i + 1, h => by
  simp only [bys, List.getElem?_cons_succ]
  rw [Zcm l (n / 256) i (by omega)]
  simp only [ZkE]; rw [Nat.div_div_eq_div_mul, Zjf]
theorem Zco : ∀ (l n : Nat), bys l (n % pw l) = bys l n
 | 0, _ => rfl
 | l + 1, n => by
  simp only [bys]
  congr 1
  ·congr 1; rw [Zjf, Nat.mod_mul_right_mod]
  ·rw [Zjf]
   have : n % (256 * pw l) / 256 = n / 256 % pw l := by rw [Nat.mod_mul_right_div_self]
   rw [this, Zco l]
theorem ZjT (n i : Nat) : ZkE n i < 256 := Nat.mod_lt _ (by decide)
theorem Zqz (n lo i : Nat) : ZkE (n / pw lo) i = ZkE n (lo + i) := by
 simp only [ZkE]; rw [Nat.div_div_eq_div_mul, ZA1]
theorem Zks (l n lo : Nat) : (bys l n).drop lo = bys (l - lo) (n / pw lo) := by
 apply List.ext_getElem?
 intro i
 rw [ZJp]
 by_cases h : lo + i < l
 ·rw [Zcm _ _ _ h, Zcm _ _ _ (by omega), Zqz]
 ·rw [List.getElem?_eq_none (by rw [Zw]; omega), List.getElem?_eq_none (by rw [Zw]; omega)]
theorem Zgf (l n k : Nat) (h : k <= l) : (bys l n).take k = bys k n := by
 apply List.ext_getElem?
 intro i
 by_cases hi : i < k
 ·rw [List.getElem?_take_of_lt hi, Zcm _ _ _ (by omega), Zcm _ _ _ hi]
 ·rw [List.getElem?_eq_none (by simp [Zw]; omega), List.getElem?_eq_none (by rw [Zw]; omega)]
theorem Znh (l n lo len : Nat) (h : lo + len <= l) : ((bys l n).drop lo).take len = bys len (Zn7 n lo len) := by
 rw [Zks, Zgf _ _ _ (by omega)]; unfold Zn7; rw [Zco]
theorem Zfl (l1 n1 l2 n2 : Nat) : bys l1 n1 ++ bys l2 n2 = bys (l1 + l2) (Zkw l1 n1 n2) := by
 have e : bys (l1 + l2) (Zkw l1 n1 n2) = (bys (l1 + l2) (Zkw l1 n1 n2)).take l1 ++ (bys (l1 + l2) (Zkw l1 n1 n2)).drop l1 := (List.take_append_drop _ _).symm
 rw [e, Zgf _ _ _ (by omega), Zks]
 have h1 : Zkw l1 n1 n2 % pw l1 = n1 % pw l1 := by
  unfold Zkw; rw [Nat.mul_comm, Nat.add_mul_mod_self_left, Nat.mod_mod]
 have h2 : Zkw l1 n1 n2 / pw l1 = n2 := by
  unfold Zkw; rw [Nat.mul_comm, Nat.add_mul_div_left _ _ (ZBy l1), Nat.div_eq_of_lt (Nat.mod_lt _ (ZBy l1)), Nat.zero_add]
 rw [h2, show l1 + l2 - l1 = l2 by omega]
 congr 1
 rw [<- Zco l1 (Zkw l1 n1 n2), h1, Zco]
theorem Zvb (l n lo len m : Nat) (h : lo + len <= l) : bys l (ZDt n lo len m l) = (bys l n).take lo ++ bys len m ++ (bys l n).drop (lo + len) := by
 have e : ZDt n lo len m l = Zkw lo n (Zkw len m ((n / pw (lo + len)) % pw (l - (lo + len)))) := by
  unfold ZDt Zkw
  rw [ZA1, Nat.add_mul, Nat.add_assoc]
  congr 2
  rw [Nat.mul_assoc, Nat.mul_comm (pw lo) (pw len)]
 rw [e]
 have e2 : l = lo + (len + (l - (lo + len))) := by omega
 conv => lhs; rw [e2]
 have e3 : lo + (len + (l - (lo + len))) - (lo + len) = l - (lo + len) := by omega
 rw [e3, <- Zfl, <- Zfl, Zco, Zgf _ _ _ (by omega), Zks, ZJo]
theorem ZiV (l n m : Nat) : bys l n = bys l m ↔ n % pw l = m % pw l := by
 constructor
 ·intro h
  induction l generalizing n m with
  | zero => rw [Zs4]; omega
  | succ l ih =>
   simp only [bys, List.cons.injEq] at h
   have h1 := congrArg UInt8.toNat h.1
   simp only [UInt8.toNat_ofNat'] at h1
   have h2 := ih _ _ h.2
   rw [Zjf]
   rw [Nat.mod_mul, Nat.mod_mul, h2]
   omega
 ·intro h; rw [<- Zco l n, h, Zco]
theorem Zg9 : ∀ (l : List UInt8), bys l.length (ZdS l) = l
 | [] => rfl
 | x :: l => by
  simp only [ZJk, bys, ZdS]
  have hx : x.toNat < 256 := x.toNat_lt
  congr 1
  ·rw [show (x.toNat + 256 * ZdS l) % 256 = x.toNat by omega]; simp
  ·rw [show (x.toNat + 256 * ZdS l) / 256 = ZdS l by omega]; exact Zg9 l
end Go.Cx
namespace Go.Cx
open Go.RowKit (Below)
/-! ### Octets -/
theorem ZHV {α : Type} (c0 c1 c2 c3 c4 c5 c6 c7 : α) (d : Nat) : sel c0 c1 c2 c3 c4 c5 c6 c7 d = match d with | 0 => c0 | 1 => c1 | 2 => c2 | 3 => c3 | 4 => c4 | 5 => c5 | 6 => c6 | _ => c7 := by
 unfold sel
 match d with
 | 0 => rfl | 1 => rfl | 2 => rfl | 3 => rfl | 4 => rfl | 5 => rfl | 6 => rfl | 7 => rfl | _ + 8 => rfl
theorem ZmL {α : Type} (f : α -> α) (o : O α) (d e : Nat) (hd : d < 8) (he : e < 8) : og (os f o d) e = if e = d then f (og o e) else og o e := by
 obtain ⟨c0, c1, c2, c3, c4, c5, c6, c7⟩ := o
 have hd' : d = 0 \/ d = 1 \/ d = 2 \/ d = 3 \/ d = 4 \/ d = 5 \/ d = 6 \/ d = 7 := by omega
 have he' : e = 0 \/ e = 1 \/ e = 2 \/ e = 3 \/ e = 4 \/ e = 5 \/ e = 6 \/ e = 7 := by omega
 rcases hd' with rfl | rfl | rfl | rfl | rfl | rfl | rfl | rfl <;> rcases he' with rfl | rfl | rfl | rfl | rfl | rfl | rfl | rfl <;> rfl
theorem Zlp {α : Type} (a : α) (d : Nat) : og (oe a) d = a := by
 show sel a a a a a a a a d = a
 rw [ZHV]; split <;> rfl
theorem Za2 (f : F) (i j : Nat) (v : CV) (hi : i < 512) (hj : j < 512) : Zf3 (Zxu f i v) j = if j = i then v else Zf3 f j := by
 obtain ⟨n, o⟩ := f
 unfold Zf3 Zxu
 simp only
 rw [ZmL _ _ _ _ (by omega) (by omega)]
 by_cases h1 : j / 64 = i / 64
 ·rw [if_pos h1, ZmL _ _ _ _ (by omega) (by omega)]
  by_cases h2 : j / 8 % 8 = i / 8 % 8
  ·rw [if_pos h2, ZmL _ _ _ _ (by omega) (by omega)]
   by_cases h3 : j % 8 = i % 8
   ·rw [if_pos h3, if_pos (by omega)]
   ·rw [if_neg h3, if_neg (by omega)]
  ·rw [if_neg h2, if_neg (by omega)]
 ·rw [if_neg h1, if_neg (by omega)]
theorem ZqD (f : F) (i : Nat) (v : CV) : (Zxu f i v).n = f.n := by obtain ⟨n, o⟩ := f; rfl
theorem Zut (f : F) (i : Nat) (v : CV) : Zw2 f i v = bif Nat.blt i f.n then Zxu f i v else f := by
 obtain ⟨n, o⟩ := f; unfold Zw2 Zxu; simp only
theorem ZHI (f : F) (i : Nat) : fg f i = bif Nat.blt i f.n then Zf3 f i else .junk := by
 obtain ⟨n, o⟩ := f; unfold fg Zf3; simp only
theorem Zyw (n i : Nat) : Zf3 (F0 n) i = .junk := by unfold Zf3 F0; simp only; rw [Zlp, Zlp, Zlp]
theorem Ya (h : H) (i j : Nat) (c : Ck) (hi : i < 32768) (hj : j < 32768) : ZO (Zag h i c) j = if j = i then c else ZO h j := by
 unfold ZO Zag
 rw [ZmL _ _ _ _ (by omega) (by omega)]
 by_cases h1 : j / 4096 = i / 4096
 ·rw [if_pos h1, ZmL _ _ _ _ (by omega) (by omega)]
  by_cases h2 : j / 512 % 8 = i / 512 % 8
  ·rw [if_pos h2, ZmL _ _ _ _ (by omega) (by omega)]
   by_cases h3 : j / 64 % 8 = i / 64 % 8
   ·rw [if_pos h3, ZmL _ _ _ _ (by omega) (by omega)]
    by_cases h4 : j / 8 % 8 = i / 8 % 8
    ·rw [if_pos h4, ZmL _ _ _ _ (by omega) (by omega)]
     by_cases h5 : j % 8 = i % 8
     ·rw [if_pos h5, if_pos (by omega)]
     ·rw [if_neg h5, if_neg (by omega)]
    ·rw [if_neg h4, if_neg (by omega)]
   ·rw [if_neg h3, if_neg (by omega)]
  ·rw [if_neg h2, if_neg (by omega)]
 ·rw [if_neg h1, if_neg (by omega)]
theorem ZCh (i : Nat) : ZO H0 i = .no := by unfold ZO H0; rw [Zlp, Zlp, Zlp, Zlp, Zlp]
/-! ### Frames -/
def DfR (σ : Sg) : List CV -> List Deferred -> Prop
 | [], l => l = []
 | .ptr r 0 :: cs, l => ∃ p t ds, σ r = some (p, t) /\ l = { target := .collected p, args := #[] } :: ds /\ DfR σ cs ds
 | .tup (.fn f first caps :: args) :: cs, l => ∃ us vs ws ds, VRs σ first us /\ VRs σ caps vs /\ VRs σ args ws /\ l = { target := .fn (.func f) vs.toArray, args := us.toArray ++ ws.toArray } :: ds /\ DfR σ cs ds
 | _ :: _, _ => False
noncomputable def dfs (fr : F) : List CV := match Zf3 fr Yu with | .tup l => l | _ => []
structure FrR (σ : Sg) (fr : F) (a : Act) : Prop where
 sz : fr.n = a.tmps.size
 small : a.tmps.size <= 511
 val : ∀ i v, a.tmps[i]? = some v -> VR σ (Zf3 fr i) v
 df : DfR σ (dfs fr) a.defers
theorem DfR.mono {σ τ : Sg} (h : Le σ τ) : ∀ {l : List CV} {ds : List Deferred}, DfR σ l ds -> DfR τ l ds
 | [], _, hd => hd
 | c :: l, ds, hd => by
  unfold DfR at hd ⊢
  split at hd
  ·exact hd
  ·obtain ⟨p, t, ds', h1, h2, h3⟩ := hd; exact ⟨p, t, ds', h _ _ h1, h2, DfR.mono h h3⟩
  ·obtain ⟨us, vs, ws, ds', h1, h2, h3, h4, h5⟩ := hd; exact ⟨us, vs, ws, ds', h1.mono h, h2.mono h, h3.mono h, h4, DfR.mono h h5⟩
  ·exact hd.elim
theorem FrR.mono {σ τ : Sg} (h : Le σ τ) {fr : F} {a : Act} (k : FrR σ fr a) : FrR τ fr a := ⟨k.sz, k.small, fun i v hv => (k.val i v hv).mono h, k.df.mono h⟩
/-! ### Blocks -/
def Zd6 (b : UInt8) : Value := .int .u8 (b.toNat : Nat)
def Row (w : World) (p t : Nat) (vs : List Value) (fz : Bool) : Prop :=
 ∃ arr ty lo hi, w.heap[p]? = some (.cells arr ty (lo, hi)) /\ arr.size = t /\ (∃ spare, arr.toList = vs ++ spare) /\ ((lo = 0 /\ hi = 0) \/ (fz = true /\ t <= lo))
def ZD (σ : Sg) : List Ent -> List MapEntry -> Prop
 | [], ms => ms = []
 | e :: es, ms => ∃ m ns, ms = m :: ns /\ VR σ e.key m.key /\ VR σ e.val m.val /\ m.born = e.born /\ ZD σ es ns
theorem ZD.mono {σ τ : Sg} (h : Le σ τ) : ∀ {l : List Ent} {m : List MapEntry}, ZD σ l m -> ZD τ l m
 | [], _, k => k
 | e :: l, _, k => by unfold ZD at k ⊢; obtain ⟨m, ns, h1, h2, h3, h4, h5⟩ := k; exact ⟨m, ns, h1, h2.mono h, h3.mono h, h4, ZD.mono h h5⟩
def Zuz : Nat -> LoopState | 0 => .ready | 1 => .busy | 2 => .done | _ => .exhausted
def holds (σ : Sg) (w : World) (p t : Nat) : Ck -> Prop
 | .no => True
 | .cells cs => ∃ vs, VRs σ cs vs /\ Row w p t vs false
 | .bytes l n => Row w p t ((bys l n).map Zd6) true
 | .map es c => ∃ ms, ZD σ es ms /\ w.heap[p]? = some (.map ms.toArray c)
 | .iter m s seen st => ∃ q u, σ m = some (q, u) /\ w.heap[p]? = some (.mapIter (some q) s seen.toArray st)
 | .siter l n pos => w.heap[p]? = some (.stringIter ⟨(bys l n).toArray⟩ pos)
 | .iter0 => w.heap[p]? = some (.mapIter none 0 #[] 0)
 | .dfr => w.heap[p]? = some (.deferred (some []))
 | .loop fn fr ps assign body db st pend => ∃ q u tm g, σ db = some (q, u) /\ (fr.n = tm.size /\ tm.size <= 511) /\ (∀ i v, tm[i]? = some v -> VR σ (Zf3 fr i) v) ∧
   w.heap[p]? = some (.loop { state := Zuz st, pending := pend, fn := g, tmps := tm, params := ps.toArray, assign := assign, body := body, defers := q })
theorem holds.mono {σ τ : Sg} (h : Le σ τ) {w : World} {p t : Nat} : ∀ {c : Ck}, holds σ w p t c -> holds τ w p t c
 | .no, k => k
 | .cells _, ⟨vs, h1, h2⟩ => ⟨vs, h1.mono h, h2⟩
 | .bytes _ _, k => k
 | .map _ _, ⟨ms, h1, h2⟩ => ⟨ms, h1.mono h, h2⟩
 | .iter _ _ _ _, ⟨q, u, h1, h2⟩ => ⟨q, u, h _ _ h1, h2⟩
 | .siter _ _ _, k => k
 | .iter0, k => k
 | .dfr, k => k
 | .loop _ _ _ _ _ _ _ _, ⟨q, u, tm, g, h1, h2, h3, h4⟩ => ⟨q, u, tm, g, h _ _ h1, h2, fun i v hv => (h3 i v hv).mono h, h4⟩
theorem holds.congr {σ : Sg} {w w' : World} {p t : Nat} (h : w'.heap[p]? = w.heap[p]?) : ∀ {c : Ck}, holds σ w p t c -> holds σ w' p t c
 | .no, k => k
 | .cells _, ⟨vs, h1, h2⟩ => ⟨vs, h1, by unfold Row at *; rw [h]; exact h2⟩
 | .bytes _ _, k => by unfold holds Row at *; rw [h]; exact k
 | .map _ _, ⟨ms, h1, h2⟩ => ⟨ms, h1, by rw [h]; exact h2⟩
 | .iter _ _ _ _, ⟨q, u, h1, h2⟩ => ⟨q, u, h1, by rw [h]; exact h2⟩
 | .siter _ _ _, k => by unfold holds at *; rw [h]; exact k
 | .iter0, k => by unfold holds at *; rw [h]; exact k
 | .dfr, k => by unfold holds at *; rw [h]; exact k
 | .loop _ _ _ _ _ _ _ _, ⟨q, u, tm, g, h1, h2, h3, h4⟩ => ⟨q, u, tm, g, h1, h2, h3, by rw [h]; exact h4⟩
/-! ### States -/
structure Rel (w0 : World) (σ : Sg) (hp : H) (n : Nat) (w : World) : Prop where
 hold : ∀ i, i < 32768 -> ZO hp i ≠ .no -> ∃ p t, σ i = some (p, t) /\ holds σ w p t (ZO hp i)
 apart : ∀ i j p t q u, i < 32768 -> j < 32768 -> ZO hp i ≠ .no -> ZO hp j ≠ .no -> i ≠ j -> σ i = some (p, t) -> σ j = some (q, u) -> p ≠ q
 old : ∀ i p t, σ i = some (p, t) -> i < 32768 /\ w0.heap.size <= p /\ p < w.heap.size
 fresh : ∀ i, idN n <= i -> i < Y1 n -> σ i = none
 lim : Y1 n <= 32768
 below : Below w0.heap.size w0 w
def Ex (n : Nat) (σ τ : Sg) : Prop := Le σ τ /\ ∀ i, ¬ (idN n <= i /\ i < Y1 n) -> τ i = σ i
theorem Ex.refl (n : Nat) (σ : Sg) : Ex n σ σ := ⟨Le.refl σ, fun _ _ => rfl⟩
variable {w0 : World} {σ : Sg} {hp : H} {n : Nat} {w : World}
theorem Rel.at (h : Rel w0 σ hp n w) {i p t : Nat} (hs : σ i = some (p, t)) {c : Ck} (hc : ZO hp i = c) (hn : c ≠ .no) : holds σ w p t c := by
 have hi := (h.old i p t hs).1
 obtain ⟨q, u, h1, h2⟩ := h.hold i hi (by rw [hc]; exact hn)
 rw [hs] at h1; cases h1; rw [hc] at h2; exact h2
theorem Rel.world (h : Rel w0 σ hp n w) {w' : World} (hs : w.heap.size <= w'.heap.size) (hb : ∀ k, k < w.heap.size -> w'.heap[k]? = w.heap[k]?) (ho : w'.os = w.os) (ht : w'.tape = w.tape) (hu : w'.output = w.output) : Rel w0 σ hp n w' :=
 ⟨fun i hi hc => let ⟨p, t, h1, h2⟩ := h.hold i hi hc; ⟨p, t, h1, h2.congr (hb p (h.old i p t h1).2.2)⟩, h.apart,
  fun i p t hs' => let ⟨a, b, c⟩ := h.old i p t hs'; ⟨a, b, Nat.lt_of_lt_of_le c hs⟩, h.fresh, h.lim, h.below.trans ⟨ho, ht, hu, hs, fun k hk => hb k (Nat.lt_of_lt_of_le hk h.below.size)⟩⟩
theorem Rel.drew (h : Rel w0 σ hp n w) (m : Nat) : Rel w0 σ hp n { w with drawn := m } := h.world (ZIQ _) (fun _ _ => rfl) rfl rfl rfl
theorem Rel.upd (h : Rel w0 σ hp n w) {i p t : Nat} (hs : σ i = some (p, t)) (hl : ZO hp i ≠ .no) {w' : World} (hz : w'.heap.size = w.heap.size) (hb : ∀ k, k ≠ p -> w'.heap[k]? = w.heap[k]?)
  (ho : w'.os = w.os) (ht : w'.tape = w.tape) (hu : w'.output = w.output) {c : Ck} (hc : holds σ w' p t c) : Rel w0 σ (Zag hp i c) n w' := by
 have hi := (h.old i p t hs).1
 refine ⟨fun j hj hjc => ?_, fun j k q u r v hj hk hjc hkc hne h1 h2 => ?_, fun j q u hj => ?_, h.fresh, h.lim, ?_⟩
 ·rw [Ya _ _ _ _ hi hj] at hjc ⊢
  by_cases e : j = i
  ·subst e; rw [if_pos rfl]; exact ⟨p, t, hs, hc⟩
  ·rw [if_neg e] at hjc ⊢
   obtain ⟨q, u, h1, h2⟩ := h.hold j hj hjc
   exact ⟨q, u, h1, h2.congr (hb q (fun e' => h.apart j i q u p t hj hi hjc hl e h1 hs e'))⟩
 ·have key : ∀ j, j < 32768 -> ZO (Zag hp i c) j ≠ .no -> ZO hp j ≠ .no := fun j hj hjc => by
   rw [Ya _ _ _ _ hi hj] at hjc
   by_cases e : j = i
   ·subst e; exact hl
   ·rw [if_neg e] at hjc; exact hjc
  exact h.apart j k q u r v hj hk (key j hj hjc) (key k hk hkc) hne h1 h2
 ·obtain ⟨a, b, c⟩ := h.old j q u hj; exact ⟨a, b, by rw [hz]; exact c⟩
 ·exact h.below.trans ⟨ho, ht, hu, by rw [hz]; exact ZIQ _, fun k hk => hb k (fun e => by have := (h.old i p t hs).2.1; omega)⟩
theorem Rel.kill (h : Rel w0 σ hp n w) {i : Nat} (hi : i < 32768) : Rel w0 σ (Zag hp i .no) n w := by
 refine ⟨fun j hj hjc => ?_, fun j k q u r v hj hk hjc hkc hne h1 h2 => ?_, h.old, h.fresh, h.lim, h.below⟩
 ·rw [Ya _ _ _ _ hi hj] at hjc ⊢
  by_cases e : j = i
  ·rw [if_pos e] at hjc; exact absurd rfl hjc
  ·rw [if_neg e] at hjc ⊢; exact h.hold j hj hjc
 ·have key : ∀ j, j < 32768 -> ZO (Zag hp i .no) j ≠ .no -> ZO hp j ≠ .no := fun j hj hjc => by
   rw [Ya _ _ _ _ hi hj] at hjc
   by_cases e : j = i
   ·rw [if_pos e] at hjc; exact absurd rfl hjc
   ·rw [if_neg e] at hjc; exact hjc
  exact h.apart j k q u r v hj hk (key j hj hjc) (key k hk hkc) hne h1 h2
def ZoX (σ : Sg) (i p t : Nat) : Sg := fun j => if j = i then some (p, t) else σ j
theorem Le.upd {i p t : Nat} (h : σ i = none) : Le σ (ZoX σ i p t) := fun j x hj => by
 unfold ZoX; rw [if_neg (by rintro rfl; rw [h] at hj; cases hj)]; exact hj
theorem Zau (i p t : Nat) : ZoX σ i p t i = some (p, t) := by simp [ZoX]
theorem ZlA (h : idN n < Y1 n) (hl : Y1 n <= 32768) : idN (n + 1) = idN n + 1 /\ Y1 (n + 1) = Y1 n := by
 unfold idN Y1 at *; omega
theorem Rel.name (h : Rel w0 σ hp n w) {i p t m : Nat} (hi : i < 32768) (hf : σ i = none) (hp1 : w0.heap.size <= p) (hp2 : p < w.heap.size)
  (hno : ∀ j q u, j < 32768 -> ZO hp j ≠ .no -> σ j = some (q, u) -> q ≠ p) {c : Ck} (hc : holds (ZoX σ i p t) w p t c)
  (hm1 : Y1 m = Y1 n) (hm : ∀ j, idN m <= j -> j < Y1 m -> j ≠ i /\ idN n <= j) : Rel w0 (ZoX σ i p t) (Zag hp i c) m w := by
 refine ⟨fun j hj hjc => ?_, fun j k q u r v hj hk hjc hkc hne h1 h2 => ?_, fun j q u hj => ?_, fun j hj hj2 => ?_, by rw [hm1]; exact h.lim, h.below⟩
 ·rw [Ya _ _ _ _ hi hj] at hjc ⊢
  by_cases e : j = i
  ·subst e; rw [if_pos rfl]; exact ⟨p, t, Zau _ _ _, hc⟩
  ·rw [if_neg e] at hjc ⊢
   obtain ⟨q, u, h1, h2⟩ := h.hold j hj hjc
   exact ⟨q, u, Le.upd hf _ _ h1, h2.mono (Le.upd hf)⟩
 ·rw [Ya _ _ _ _ hi hj] at hjc
  rw [Ya _ _ _ _ hi hk] at hkc
  unfold ZoX at h1 h2
  by_cases e1 : j = i
  ·subst e1
   have e2 : k ≠ j := fun e => hne e.symm
   rw [if_pos rfl] at h1; cases h1
   rw [if_neg e2] at h2 hkc
   exact (hno k r v hk hkc h2).symm
  ·rw [if_neg e1] at h1 hjc
   by_cases e2 : k = i
   ·subst e2; rw [if_pos rfl] at h2; cases h2; exact hno j q u hj hjc h1
   ·rw [if_neg e2] at h2 hkc; exact h.apart j k q u r v hj hk hjc hkc hne h1 h2
 ·unfold ZoX at hj
  split at hj
  ·rename_i e; subst e; cases hj; exact ⟨hi, hp1, hp2⟩
  ·exact h.old j q u hj
 ·obtain ⟨a, b⟩ := hm j hj hj2
  unfold ZoX; rw [if_neg a]; exact h.fresh j b (by rw [<- hm1]; exact hj2)
theorem Rel.push (h : Rel w0 σ hp n w) (o : Obj) : Rel w0 σ hp n { w with heap := w.heap.push o } :=
 h.world (by simp) (fun k hk => by show (w.heap.push o)[k]? = _; rw [Array.getElem?_push, if_neg (by omega)]) rfl rfl rfl
theorem Rel.new (h : Rel w0 σ hp n w) {i t m : Nat} (hi : i < 32768) (hf : σ i = none) (o : Obj) {c : Ck} (hc : ∀ τ, Le σ τ -> τ i = some (w.heap.size, t) -> holds τ { w with heap := w.heap.push o } w.heap.size t c)
  (hm1 : Y1 m = Y1 n) (hm : ∀ j, idN m <= j -> j < Y1 m -> j ≠ i /\ idN n <= j) :
  Rel w0 (ZoX σ i w.heap.size t) (Zag hp i c) m { w with heap := w.heap.push o } :=
 (h.push o).name hi hf h.below.size (by show _ < (w.heap.push o).size; simp) (fun j q u hj hjc hq => by have := (h.old j q u hq).2.2; omega) (hc _ (Le.upd hf) (Zau _ _ _)) hm1 hm
theorem Yv (w : World) (o : Obj) : ({ w with heap := w.heap.push o } : World).heap[w.heap.size]? = some o := by
 show (w.heap.push o)[w.heap.size]? = _; simp
end Go.Cx
