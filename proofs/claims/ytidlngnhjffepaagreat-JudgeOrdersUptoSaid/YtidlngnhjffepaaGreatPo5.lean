/- Part of a proof. -/
import Derived.Test.YtidlngnhjffepaaGreatPo4
set_option linter.unusedSimpArgs false
set_option linter.unusedVariables false
set_option maxRecDepth 20000
namespace Go.Proofs.YtidlngnhjffepaaGreat
noncomputable section
open Go.Eng
theorem ZDN (w : Int) : ∀ L : List Tx, ixL w L <= L.length
 | [] => ZNO _
 | t :: L => by
  have := ZDN w L
  unfold ixL
  cases t.who == w
  ·show ixL w L + 1 <= L.length + 1; omega
  ·exact Nat.zero_le _
theorem ZaK {w : Int} : ∀ {L : List Tx}, ixL w L < L.length -> (L.getD (ixL w L) tx0).who = w
 | [], h => absurd h (Nat.not_lt_zero _)
 | t :: L, h => by
  unfold ixL at h ⊢
  cases hp : t.who == w
  ·rw [hp] at h
   have h : ixL w L + 1 < L.length + 1 := h
   show (L.getD (ixL w L) tx0).who = w
   exact ZaK (by omega)
  ·exact beq_iff_eq.1 hp
theorem Zwc {w : Int} : ∀ {L : List Tx}, ¬ ixL w L < L.length -> ∀ t ∈ L, t.who ≠ w
 | [], _, t, ht => by cases ht
 | s :: L, h, t, ht => by
  unfold ixL at h
  cases hp : s.who == w
  ·rw [hp] at h
   have h : ¬ ixL w L + 1 < L.length + 1 := h
   rcases List.mem_cons.1 ht with rfl | ht
   ·exact beq_eq_false_iff_ne.1 hp
   ·exact Zwc (by omega) t ht
  ·rw [hp] at h; exact absurd (Nat.zero_lt_succ _) h
theorem Zea {L : List Tx} (hn : (L.map (·.who)).Nodup) {j : Nat} (hj : j < L.length) : ixL (L.getD j tx0).who L = j := by
 induction L generalizing j with
 | nil => exact absurd hj (Nat.not_lt_zero _)
 | cons t L ih =>
  simp only [ZN7, List.nodup_cons] at hn
  unfold ixL
  cases j with
  | zero => rw [show (t.who == ((t :: L).getD 0 tx0).who) = true from by simp]; rfl
  | succ j =>
   have hj : j < L.length := by simpa using hj
   have e : (t :: L).getD (j + 1) tx0 = L.getD j tx0 := rfl
   rw [e]
   have hne : ¬ t.who = (L.getD j tx0).who := fun h => hn.1 (by
    rw [h]
    refine List.mem_map.2 ⟨L.getD j tx0, ?_, rfl⟩
    rw [ZNY, ZN1 hj, ZNT]; exact ZOl hj)
   rw [show (t.who == (L.getD j tx0).who) = false from beq_eq_false_iff_ne.2 hne]
   show ixL _ L + 1 = j + 1
   rw [ih hn.2 hj]
theorem ZbF {w : Int} : ∀ {R : List (List Int)} {L : List Tx}, R.length = L.length -> ∀ d, YC d (Zez R L) w = (if ixL w L < L.length then g0 (R.getD (ixL w L) []) else d) /\ Zx (Zez R L) w = decide (ixL w L < L.length)
 | [], [], _, d => ⟨rfl, rfl⟩
 | r :: R, t :: L, h, d => by
  obtain ⟨i1, i2⟩ := ZbF (w := w) (R := R) (L := L) (by simpa using h) d
  have e : Zez (r :: R) (t :: L) = (t.who, g0 r) :: Zez R L := rfl
  rw [e]
  unfold ixL YC Zx
  by_cases hw : t.who = w
  ·rw [if_pos hw, if_pos hw, show (t.who == w) = true from beq_iff_eq.2 hw]
   exact ⟨rfl, rfl⟩
  ·rw [if_neg hw, if_neg hw, show (t.who == w) = false from beq_eq_false_iff_ne.2 hw]
   show YC d (Zez R L) w = (if ixL w L + 1 < L.length + 1 then _ else d) /\ Zx (Zez R L) w = decide (ixL w L + 1 < L.length + 1)
   rw [i1, i2]
   by_cases hq : ixL w L < L.length
   ·rw [if_pos hq, if_pos (by omega)]; exact ⟨rfl, by simp [hq]⟩
   ·rw [if_neg hq, if_neg (by omega)]; exact ⟨rfl, by simp [hq]⟩
 | [], _ :: _, h, _ => by simp at h
 | _ :: _, [], h, _ => by simp at h
theorem ZCy {L : List Tx} {j : Nat} (hj : j < L.length) (t : Tx) : setT L (j : Nat) t = L.set j t := by
 unfold setT
 rw [ZN5, List.set_eq_take_append_cons_drop, if_pos hj]
theorem Zft {R : List (List Int)} {j : Nat} (hj : j < R.length) (t : List Int) : ZBf R (j : Nat) t = R.set j t := by
 unfold ZBf
 rw [ZN5, List.set_eq_take_append_cons_drop, if_pos hj]
theorem YB {α β : Type} {f : α -> β} {l : List α} {j : Nat} {d x : α} (h : f x = f (l.getD j d)) (hj : j < l.length) : (l.set j x).map f = l.map f := by
 rw [List.map_set, h]
 have : (l.map f)[j]? = some (f (l.getD j d)) := by
  rw [ZNU, ZNY, ZN1 hj]; rfl
 apply List.ext_getElem?
 intro q
 by_cases hq : j = q
 ·subst hq
  rw [List.getElem?_set_self (by simpa using hj), this]
 ·rw [List.getElem?_set_ne hq]
theorem Zm3 {R R' : List (List Int)} {L L' : List Tx} (h1 : R'.map g0 = R.map g0) (h2 : L'.map (·.who) = L.map (·.who)) : Zez R' L' = Zez R L := by
 have e : ∀ (L : List Tx) (R : List (List Int)), Zez R L = ((L.map (·.who)).zip (R.map g0)) := fun L R => by
  unfold Zez
  rw [List.zip_map]; rfl
 rw [e, e, h1, h2]
theorem ZcR {α β : Type} (f : α -> β) (l : List α) (j : Nat) (d : α) : (l.map f).getD j (f d) = f (l.getD j d) := by
 rw [ZNY, ZNY, ZNU]
 cases l[j]? <;> rfl
theorem Zf1 {R R' : List (List Int)} (h : R'.map g0 = R.map g0) (ks : List Nat) : Zbh R' ks = Zbh R ks := by
 unfold Zbh
 apply List.map_congr_left
 intro k _
 rw [<- ZcR g0 R', <- ZcR g0 R, h]
theorem ZCV {R : List (List Int)} {ks : List Nat} (hk : ∀ k ∈ ks, k < R.length) (S : List (List Int)) : Zbh (R ++ S) ks = Zbh R ks := by
 unfold Zbh
 apply List.map_congr_left
 intro k hk'
 have := hk k hk'
 rw [ZNY, ZNY, ZOg this]
theorem ZEq {m : List (Int × Int)} {k v : Int} (h : Zx m k = false) : Yw m k v = m ++ [(k, v)] := by
 induction m with
 | nil => rfl
 | cons p m ih =>
  obtain ⟨a, b⟩ := p
  simp only [Zx] at h
  unfold Yw
  by_cases hk : a = k
  ·rw [if_pos hk] at h; cases h
  ·rw [if_neg hk] at h ⊢
   rw [ih h]; rfl
theorem ZCP {R : List (List Int)} {L : List Tx} (hl : R.length = L.length) (r : List Int) (t : Tx) (h : ¬ ixL t.who L < L.length) : Zez (R ++ [r]) (L ++ [t]) = Yw (Zez R L) t.who (g0 r) := by
 rw [ZEq (by rw [(ZbF hl 0).2]; simp [h])]
 unfold Zez
 rw [List.zip_append hl.symm, ZOe]; rfl
theorem Zlw {R : List (List Int)} {ks : List Nat} (hk : ∀ k ∈ ks, k < R.length) : ∀ r ∈ Zbh R ks, ∃ b, r = [b] /\ Zn4 R b := by
 intro r hr
 obtain ⟨k, h1, rfl⟩ := List.mem_map.1 hr
 exact ⟨_, rfl, k, hk k h1, rfl⟩
theorem ZjA {R : List (List Int)} (hn : (R.map g0).Nodup) {j k : Nat} (hj : j < R.length) (hk : k < R.length) (h : g0 (R.getD j []) = g0 (R.getD k [])) : j = k := by
 have e : ∀ (i : Nat) (hi : i < R.length), (R.map g0)[i]'(by simpa using hi) = g0 (R.getD i []) := fun i hi => by
  rw [List.getElem_map, ZNY, ZN1 hi, ZNT]
 exact (List.getElem_inj hn).1 (by rw [e j hj, e k hk, h])
theorem Zp7 {R : List (List Int)} (hn : (R.map g0).Nodup) {ks : List Nat} (hk : ∀ k ∈ ks, k < R.length) {j : Nat} (hj : j < R.length) : [g0 (R.getD j [])] ∈ Zbh R ks ↔ j ∈ ks := by
 constructor
 ·intro h
  obtain ⟨k, h1, h2⟩ := List.mem_map.1 h
  injection h2 with h2
  rw [ZjA hn hj (hk k h1) h2.symm]; exact h1
 ·intro h
  exact List.mem_map.2 ⟨j, h, rfl⟩
theorem Zqv : ∀ (L : List Tx) (n : Nat), (Zl7 L n).length <= L.length
 | [], _ => ZNO _
 | t :: L, n => by
  have := Zqv L (n + 1)
  unfold Zl7
  cases t.opn
  ·show (Zl7 L (n + 1)).length <= L.length + 1; omega
  ·show (Zl7 L (n + 1)).length + 1 <= L.length + 1; omega
theorem ZnW : ∀ (L : List Tx) (n k : Nat), k ∈ Zl7 L n -> k < n + L.length
 | [], _, _, h => by cases h
 | t :: L, n, k, h => by
  unfold Zl7 at h
  cases ho : t.opn
  ·rw [ho] at h
   have := ZnW L (n + 1) k h
   rw [ZOi]; omega
  ·rw [ho] at h
   rcases List.mem_cons.1 h with rfl | h
   ·rw [ZOi]; omega
   ·have := ZnW L (n + 1) k h
    rw [ZOi]; omega
structure WfB (B : Bk) (n : Nat) : Prop where
 nd : (B.txs.map (·.who)).Nodup
 lt : B.txs.length <= n
 kl : B.kept.length <= n
 ki : ∀ k ∈ B.kept, k < B.txs.length
 ol : B.out.length <= n
 rl : ∀ t ∈ B.txs, t.rds.length <= n /\ t.bad.length <= n
 fi : ∀ k ∈ B.fal, k < B.txs.length
 fl : B.fal.length <= n
theorem WfB.mono {B : Bk} {n m : Nat} (h : WfB B n) (hm : n <= m) : WfB B m :=
 ⟨h.nd, Nat.le_trans h.lt hm, Nat.le_trans h.kl hm, h.ki, Nat.le_trans h.ol hm, fun t ht => ⟨Nat.le_trans (h.rl t ht).1 hm, Nat.le_trans (h.rl t ht).2 hm⟩, h.fi, Nat.le_trans h.fl hm⟩
theorem ZAi (t : Tx) (i : Int) (x : Ent) : (rdT t i x).rds.length <= t.rds.length + 1 /\ (rdT t i x).bad.length <= t.bad.length + 1 /\ (rdT t i x).who = t.who := by
 unfold rdT
 split
 ·split
  ·exact ⟨by omega, by omega, rfl⟩
  ·refine ⟨by simp, by simp, rfl⟩
 ·exact ⟨by simp, by simp, rfl⟩
theorem WfB.set {B : Bk} {n : Nat} (h : WfB B n) {j : Nat} (hj : j < B.txs.length) {t : Tx} (hw : t.who = (B.txs.getD j tx0).who) (h1 : t.rds.length <= n + 1) (h2 : t.bad.length <= n + 1)
  {k : List Nat} (hk : k = B.kept \/ k = B.kept ++ [j]) {f : List Nat} (hf : f = B.fal \/ f = []) : WfB { B with txs := B.txs.set j t, kept := k, fal := f } (n + 1) := by
 have hm := YB (f := Tx.who) (l := B.txs) hw hj
 refine ⟨by show ((B.txs.set j t).map Tx.who).Nodup; rw [hm]; exact h.nd, ?_, ?_, ?_, by have := h.ol; show B.out.length <= n + 1; omega, ?_, ?_, ?_⟩
 ·show (B.txs.set j t).length <= n + 1
  rw [List.length_set]; have := h.lt; omega
 ·show k.length <= n + 1
  have := h.kl
  rcases hk with rfl | rfl
  ·omega
  ·rw [ZN3, ZNM]; omega
 ·show ∀ q ∈ k, q < (B.txs.set j t).length
  rw [List.length_set]
  rcases hk with rfl | rfl
  ·exact h.ki
  ·intro q hq
   rcases List.mem_append.1 hq with hq | hq
   ·exact h.ki q hq
   ·rw [List.mem_singleton.1 hq]; exact hj
 ·intro u hu
  rcases List.mem_or_eq_of_mem_set hu with hu | rfl
  ·have := h.rl u hu; omega
  ·exact ⟨h1, h2⟩
 ·show ∀ q ∈ f, q < (B.txs.set j t).length
  rw [List.length_set]
  rcases hf with rfl | rfl
  ·exact h.fi
  ·intro q hq; cases hq
 ·show f.length <= n + 1
  have := h.fl
  rcases hf with rfl | rfl
  ·omega
  ·exact Nat.zero_le _
theorem WfB.at {B : Bk} {n : Nat} (h : WfB B n) {j : Nat} (hj : j < B.txs.length) : (B.txs.getD j tx0).rds.length <= n /\ (B.txs.getD j tx0).bad.length <= n := by
 refine h.rl _ ?_
 rw [ZNY, ZN1 hj, ZNT]; exact ZOl hj
theorem ZG0 {B : Bk} {n : Nat} (h : WfB B n) (i : Int) (x : Ent) : WfB (YG B i x) (n + 1) := by
 have hmono := h.mono (Nat.le_succ n)
 have hflt : ∀ w, WfB (B.flt i w) (n + 1) := fun w => ⟨hmono.nd, hmono.lt, hmono.kl, hmono.ki, hmono.ol, hmono.rl, hmono.fi, hmono.fl⟩
 unfold YG
 generalize hj : ixL (xw x) B.txs = j
 have ho : ∀ {q : Bool}, (decide (j < B.txs.length) && q) = true -> j < B.txs.length := fun hq => by simp at hq; exact hq.1
 dsimp only
 split
 ·split
  ·exact hflt 1
  ·rename_i hne
   rw [<- hj] at hne
   have hno := Zwc hne
   refine ⟨?_, ?_, hmono.kl, ?_, hmono.ol, ?_, (fun q hq => nomatch hq), Nat.zero_le _⟩
   ·show ((B.txs ++ [_]).map Tx.who).Nodup
    rw [ZOe, List.nodup_append]
    refine ⟨h.nd, by simp, fun a ha b hb => ?_⟩
    rw [List.map_singleton, ZNR] at hb
    obtain ⟨t, ht, rfl⟩ := List.mem_map.1 ha
    rw [hb]; exact hno t ht
   ·show (B.txs ++ [_]).length <= n + 1
    rw [ZN3, ZNM]; have := h.lt; omega
   ·intro q hq
    have := h.ki q hq
    show q < (B.txs ++ [_]).length
    rw [ZN3]; omega
   ·intro u hu
    rcases List.mem_append.1 hu with hu | hu
    ·exact hmono.rl u hu
    ·rw [List.mem_singleton.1 hu]; exact ⟨Nat.zero_le _, Nat.zero_le _⟩
 ·split
  ·split
   ·exact ⟨hmono.nd, hmono.lt, hmono.kl, hmono.ki, by show (B.out ++ [_]).length <= n + 1; rw [ZN3, ZNM]; have := h.ol; omega, hmono.rl, (fun q hq => nomatch hq), Nat.zero_le _⟩
   ·split
    ·rename_i hop
     have hjl := ho hop
     have hl := ZAi (B.txs.getD j tx0) i x
     have ha := h.at hjl
     exact h.set hjl hl.2.2 (by omega) (by omega) (.inl rfl) (.inr rfl)
    ·exact hflt 1
  ·split
   ·split
    ·rename_i hop
     have hjl := ho hop
     have ha := h.at hjl
     exact h.set hjl (t := { B.txs.getD j tx0 with ch := Yw (B.txs.getD j tx0).ch (kc x) ((Zs (ZaB x) : Nat) * 2 + b01 (xk x == 4)) }) rfl (by show (B.txs.getD j tx0).rds.length <= n + 1; omega) (by show (B.txs.getD j tx0).bad.length <= n + 1; omega) (.inl rfl) (.inl rfl)
    ·exact hflt 1
   ·split
    ·split
     ·rename_i hop
      have hjl := ho hop
      have ha := h.at hjl
      exact h.set hjl (t := { B.txs.getD j tx0 with opn := false }) rfl (by show (B.txs.getD j tx0).rds.length <= n + 1; omega) (by show (B.txs.getD j tx0).bad.length <= n + 1; omega) (.inl rfl) (.inl rfl)
     ·exact hflt 1
    ·split
     ·split
      ·exact hflt 1
      ·split
       ·exact hflt 2
       ·rename_i hq _
        have hjl : j < B.txs.length := by
         by_cases hop : (decide (j < B.txs.length) && (B.txs.getD j tx0).opn) = true
         ·exact ho hop
         ·have hm : j ∈ B.fal := by
           by_cases hm : j ∈ B.fal
           ·exact hm
           ·exact absurd (.inl ⟨by simpa using hop, hm⟩) hq
          exact h.fi j hm
        have ha := h.at hjl
        exact h.set hjl (t := { B.txs.getD j tx0 with opn := false, com := i }) rfl (by show (B.txs.getD j tx0).rds.length <= n + 1; omega) (by show (B.txs.getD j tx0).bad.length <= n + 1; omega) (.inr rfl) (.inl rfl)
     ·split
      ·refine ⟨?_, ?_, hmono.kl, ?_, hmono.ol, ?_, ?_, ?_⟩
       ·show ((B.txs.map fun t => { t with opn := false }).map Tx.who).Nodup
        rw [List.map_map]; exact h.nd
       ·show (B.txs.map _).length <= n + 1
        rw [ZN8]; exact hmono.lt
       ·intro q hq
        have := h.ki q hq
        show q < (B.txs.map _).length
        rw [ZN8]; exact this
       ·intro u hu
        obtain ⟨t, ht, rfl⟩ := List.mem_map.1 hu
        exact hmono.rl t ht
       ·intro q hq
        have := ZnW B.txs 0 q hq
        show q < (B.txs.map _).length
        rw [ZN8]; omega
       ·show (Zl7 B.txs 0).length <= n + 1
        have := Zqv B.txs 0
        have := h.lt
        omega
      ·exact hmono
theorem YK (B : Bk) (i : Int) (x : Ent) {j : Nat} (hj : ixL (xw x) B.txs = j) : YG B i x =
 if xk x = 1 then (if j < B.txs.length then B.flt i 1 else { B with txs := B.txs ++ [⟨xw x, i, -1, true, [], [], []⟩], fal := [] })
 else if xk x = 2 then (if xw x = 0 then { B with out := B.out ++ [i :: nr x], fal := [] } else if (decide (j < B.txs.length) && (B.txs.getD j tx0).opn) = true then { B with txs := B.txs.set j (rdT (B.txs.getD j tx0) i x), fal := [] } else B.flt i 1)
 else if xk x = 3 \/ xk x = 4 then (if (decide (j < B.txs.length) && (B.txs.getD j tx0).opn) = true then { B with txs := B.txs.set j { B.txs.getD j tx0 with ch := Yw (B.txs.getD j tx0).ch (kc x) ((Zs (ZaB x) : Nat) * 2 + b01 (xk x == 4)) } } else B.flt i 1)
 else if xk x = 6 then (if (decide (j < B.txs.length) && (B.txs.getD j tx0).opn) = true then { B with txs := B.txs.set j { B.txs.getD j tx0 with opn := false } } else B.flt i 1)
 else if xk x = 5 then (if ((decide (j < B.txs.length) && (B.txs.getD j tx0).opn) = false /\ ¬ j ∈ B.fal) \/ 0 <= (B.txs.getD j tx0).com then B.flt i 1 else if ¬ xt x = B.kept.length + 1 then B.flt i 2 else { B with txs := B.txs.set j { B.txs.getD j tx0 with opn := false, com := i }, kept := B.kept ++ [j] })
 else if xk x = 7 then { B with txs := B.txs.map fun t => { t with opn := false }, fal := Zl7 B.txs 0 }
 else B := by subst hj; rfl
section
variable {B : Bk} {i : Int} {x : Ent} {j : Nat} (hj : ixL (xw x) B.txs = j)
include hj
theorem st1a (hk : xk x = 1) (h : j < B.txs.length) : YG B i x = B.flt i 1 := by rw [YK B i x hj, if_pos hk, if_pos h]
theorem st1b (hk : xk x = 1) (h : ¬ j < B.txs.length) : YG B i x = { B with txs := B.txs ++ [⟨xw x, i, -1, true, [], [], []⟩], fal := [] } := by rw [YK B i x hj, if_pos hk, if_neg h]
theorem st2a (hk : xk x = 2) (h : xw x = 0) : YG B i x = { B with out := B.out ++ [i :: nr x], fal := [] } := by rw [YK B i x hj, if_neg (by omega), if_pos hk, if_pos h]
theorem st2b (hk : xk x = 2) (h : ¬ xw x = 0) (h1 : j < B.txs.length) (h2 : (B.txs.getD j tx0).opn = true) : YG B i x = { B with txs := B.txs.set j (rdT (B.txs.getD j tx0) i x), fal := [] } := by
 rw [YK B i x hj, if_neg (by omega), if_pos hk, if_neg h, if_pos (by rw [h2, decide_eq_true h1]; rfl)]
theorem st2c (hk : xk x = 2) (h : ¬ xw x = 0) (h1 : j < B.txs.length -> (B.txs.getD j tx0).opn = false) : YG B i x = B.flt i 1 := by
 rw [YK B i x hj, if_neg (by omega), if_pos hk, if_neg h, if_neg (by simpa using h1)]
theorem st3a (hk : xk x = 3 \/ xk x = 4) (h1 : j < B.txs.length) (h2 : (B.txs.getD j tx0).opn = true) : YG B i x = { B with txs := B.txs.set j { B.txs.getD j tx0 with ch := Yw (B.txs.getD j tx0).ch (kc x) ((Zs (ZaB x) : Nat) * 2 + b01 (xk x == 4)) } } := by
 rw [YK B i x hj, if_neg (by omega), if_neg (by omega), if_pos hk, if_pos (by rw [h2, decide_eq_true h1]; rfl)]
theorem ZMQ (hk : xk x = 3 \/ xk x = 4) (h1 : j < B.txs.length -> (B.txs.getD j tx0).opn = false) : YG B i x = B.flt i 1 := by
 rw [YK B i x hj, if_neg (by omega), if_neg (by omega), if_pos hk, if_neg (by simpa using h1)]
theorem st6a (hk : xk x = 6) (h1 : j < B.txs.length) (h2 : (B.txs.getD j tx0).opn = true) : YG B i x = { B with txs := B.txs.set j { B.txs.getD j tx0 with opn := false } } := by
 rw [YK B i x hj, if_neg (by omega), if_neg (by omega), if_neg (by omega), if_pos hk, if_pos (by rw [h2, decide_eq_true h1]; rfl)]
theorem st6b (hk : xk x = 6) (h1 : j < B.txs.length -> (B.txs.getD j tx0).opn = false) : YG B i x = B.flt i 1 := by
 rw [YK B i x hj, if_neg (by omega), if_neg (by omega), if_neg (by omega), if_pos hk, if_neg (by simpa using h1)]
theorem ZKc (hk : xk x = 5) (h : ((j < B.txs.length -> (B.txs.getD j tx0).opn = false) /\ ¬ j ∈ B.fal) \/ 0 <= (B.txs.getD j tx0).com) : YG B i x = B.flt i 1 := by
 rw [YK B i x hj, if_neg (by omega), if_neg (by omega), if_neg (by omega), if_neg (by omega), if_pos hk, if_pos (h.imp (fun q => ⟨by simpa using q.1, q.2⟩) id)]
theorem st5b (hk : xk x = 5) (h : (j < B.txs.length /\ (B.txs.getD j tx0).opn = true) \/ j ∈ B.fal) (h2 : (B.txs.getD j tx0).com < 0) (h3 : ¬ xt x = B.kept.length + 1) : YG B i x = B.flt i 2 := by
 rw [YK B i x hj, if_neg (by omega), if_neg (by omega), if_neg (by omega), if_neg (by omega), if_pos hk, if_neg, if_pos h3]
 rintro (⟨q1, q2⟩ | q)
 ·rcases h with ⟨a, b⟩ | a
  ·rw [b, decide_eq_true a] at q1; cases q1
  ·exact q2 a
 ·omega
theorem st5c (hk : xk x = 5) (h : (j < B.txs.length /\ (B.txs.getD j tx0).opn = true) \/ j ∈ B.fal) (h2 : (B.txs.getD j tx0).com < 0) (h3 : xt x = B.kept.length + 1) :
  YG B i x = { B with txs := B.txs.set j { B.txs.getD j tx0 with opn := false, com := i }, kept := B.kept ++ [j] } := by
 rw [YK B i x hj, if_neg (by omega), if_neg (by omega), if_neg (by omega), if_neg (by omega), if_pos hk, if_neg, if_neg (by omega)]
 rintro (⟨q1, q2⟩ | q)
 ·rcases h with ⟨a, b⟩ | a
  ·rw [b, decide_eq_true a] at q1; cases q1
  ·exact q2 a
 ·omega
theorem st7 (hk : xk x = 7) : YG B i x = { B with txs := B.txs.map fun t => { t with opn := false }, fal := Zl7 B.txs 0 } := by
 rw [YK B i x hj, if_neg (by omega), if_neg (by omega), if_neg (by omega), if_neg (by omega), if_neg (by omega), if_pos hk]
theorem st0 (h : ¬ xk x = 1 /\ ¬ xk x = 2 /\ ¬ xk x = 3 /\ ¬ xk x = 4 /\ ¬ xk x = 5 /\ ¬ xk x = 6 /\ ¬ xk x = 7) : YG B i x = B := by
 rw [YK B i x hj, if_neg (by omega), if_neg (by omega), if_neg (by omega), if_neg (by omega), if_neg (by omega), if_neg (by omega)]
end
theorem Zk {R : List (List Int)} {J : Nat} (hJ : J < R.length) {row : List Int} (ks : List Nat) : Zbh (ZBf R (J : Nat) (g0 (R.getD J []) :: row)) ks = Zbh R ks := by
 rw [Zft hJ]
 exact Zf1 (YB (f := g0) (d := []) (x := g0 (R.getD J []) :: row) rfl hJ) ks
theorem Y5 {R : List (List Int)} {L : List Tx} {J : Nat} (hJ : J < R.length) {row : List Int} {t : Tx} (hL : J < L.length) (ht : t.who = (L.getD J tx0).who) : Zez (ZBf R (J : Nat) (g0 (R.getD J []) :: row)) (L.set J t) = Zez R L := by
 rw [Zft hJ]
 exact Zm3 (YB (f := g0) (d := []) (x := g0 (R.getD J []) :: row) rfl hJ) (YB (f := Tx.who) (d := tx0) ht hL)
theorem Ze6 {L : List Tx} {J : Nat} (hL : J < L.length) {m : List (Int × Int)} {p : List Int} {r : List Ent} {b : List Int} :
  setT (setT L (J : Nat) (ZrZ (L.getD J tx0) m p)) (J : Nat) (Zzm ((setT L (J : Nat) (ZrZ (L.getD J tx0) m p)).getD J tx0) r b) = L.set J (Zzm (ZrZ (L.getD J tx0) m p) r b) := by
 have h := Zfi (L := L) (i := (J : Nat)) (t := ZrZ (L.getD J tx0) m p) (u := tx0) (by omega) (by omega)
 have h2 := h.2
 unfold atT at h2
 rw [ZN5] at h2
 rw [h2, (Zfi (by omega) (by omega)).1, ZCy hL]
theorem ZlG {x : List Ent} {n : Nat} (h : (Z4 x n).fault = -1) : Z4 x (n + 1) = YG (Z4 x n) n (xa x n) := by
 show (if 0 <= (Z4 x n).fault then Z4 x n else YG (Z4 x n) n (xa x n)) = _
 rw [if_neg (by rw [h]; omega)]
theorem ZkP {x : List Ent} {n : Nat} (h : 0 <= (Z4 x n).fault) : ∀ {m : Nat}, n <= m -> Z4 x m = Z4 x n
 | 0, hm => by rw [Nat.le_zero.1 hm]
 | m + 1, hm => by
  rcases ZNS m n with hlt | hge
  ·rw [show m + 1 = n by omega]
  ·have := ZkP h hge
   show (if 0 <= (Z4 x m).fault then Z4 x m else _) = _
   rw [this, if_pos h]
theorem ZHl {x : List Ent} {n : Nat} {B : Bk} {w : Int} (hB : Z4 x n = B) (hf : B.fault = -1) (hn : n < x.length) (hs : YG B n (xa x n) = B.flt n w) : Z4 x x.length = B.flt n w := by
 have h1 := ZlG (x := x) (n := n) (by rw [hB]; exact hf)
 rw [hB, hs] at h1
 rw [ZkP (n := n + 1) (by rw [h1]; show (0 : Int) <= n; omega) hn, h1]
theorem ZhW (x : List Ent) : ∀ n, WfB (Z4 x n) n
 | 0 => ⟨List.nodup_nil, ZNO _, ZNO _, (fun k hk => nomatch hk), ZNO _, (fun t ht => nomatch ht), (fun k hk => nomatch hk), ZNO _⟩
 | n + 1 => by
  have ih := ZhW x n
  show WfB (if 0 <= (Z4 x n).fault then Z4 x n else YG (Z4 x n) n (xa x n)) (n + 1)
  split
  ·exact ih.mono (Nat.le_succ n)
  ·exact ZG0 ih _ _
theorem ZIG (x : Ent) : kc (nr x) = kc x := by unfold kc; rw [Zjv]
theorem ZfB (m : List (Int × Int)) (x : Ent) : ZZ m (nr x) = ZZ m x := by unfold ZZ; rw [ZIG, Zgc, Zgv]
theorem Ztr (q : Bool) : (b01 q == 1) = q := by cases q <;> rfl
theorem ZKf (t : Tx) (m : List (Int × Int)) : Zzm (ZrZ t m [t.com, b01 t.opn]) t.rds t.bad = { t with ch := m } := by
 have h := Ztr t.opn
 unfold Zzm ZrZ
 simp only [List.getD_cons_zero, List.getD_cons_succ, h]
theorem rd_eq (t : Tx) (i : Int) (x : Ent) : Zzm (ZrZ t t.ch [t.com, b01 t.opn]) (if Zx t.ch (kc (nr x)) = true then t.rds else t.rds ++ [i :: nr (nr x)]) (if Zx t.ch (kc (nr x)) = true /\ ZZ t.ch (nr x) = false then t.bad ++ [i] else t.bad) = rdT t i x := by
 have h := Ztr t.opn
 unfold Zzm ZrZ rdT
 simp only [List.getD_cons_zero, List.getD_cons_succ, h, ZIG, ZfB, nr_nr]
 cases Zx t.ch (kc x)
 ·simp
 ·cases ZZ t.ch x <;> simp
theorem Zd2 (R : List (List Int)) (ks : List Nat) (J : Nat) : Zbh R (ks ++ [J]) = Zbh R ks ++ [[g0 (R.getD J [])]] := by unfold Zbh; rw [ZOe]; rfl
theorem ZCZ {α : Type} {l : List α} {j : Nat} {d : α} (hj : j < l.length) : l.set j (l.getD j d) = l := by
 apply List.ext_getElem?
 intro q
 by_cases hq : j = q
 ·subst hq
  rw [List.getElem?_set_self hj, ZNY, ZN1 hj, ZNT]
 ·rw [List.getElem?_set_ne hq]
theorem Zq2 {x : List Ent} {n : Nat} (h : n <= x.length) : Zi8 (x.take n) (x.take n).length = Zi8 x n := by
 have hl : (x.take n).length = n := by rw [ZN0]; omega
 have e : ∀ i, i < n -> xa (x.take n) i = xa x i := fun i hi => ZaZ hi
 unfold Zi8
 congr 1
 apply propext
 rw [hl]
 exact ⟨fun q i hi => by rw [<- e i hi]; exact q i hi, fun q i hi => by rw [e i hi]; exact q i hi⟩
theorem Zct (L : List Tx) (J : Nat) : atT L (J : Nat) = L.getD J tx0 := by unfold atT; rw [ZN5]
theorem ZaL {R : List (List Int)} (hn : (R.map g0).Nodup) {J : Nat} (hJ : J < R.length) : ZcT (g0 (R.getD J [])) R = J := by
 have hb : Zn4 R (g0 (R.getD J [])) := ⟨J, hJ, rfl⟩
 exact ZjA hn (YX hb) hJ (ZbU (YX hb))
theorem Zue {R : List (List Int)} {J : Nat} (hJ : J < R.length) : R.getD J [] ∈ R := by
 rw [ZNY, ZN1 hJ, ZNT]; exact ZOl hJ
end
end Go.Proofs.YtidlngnhjffepaaGreat
namespace Go.Proofs.YtidlngnhjffepaaGreat
noncomputable section
open Go.Eng
theorem Zya {L : List Tx} {t : Tx} (ht : t ∈ L) : ixL t.who L < L.length := by
 rcases ZNS (ixL t.who L) L.length with h | h
 ·exact h
 ·exact absurd rfl (Zwc (by omega) t ht)
theorem YL {left : List (Int × Int)} : ∀ {L : List Tx} {n k : Nat}, k ∈ Zcb left L n ↔ n <= k /\ k - n < L.length /\ (L.getD (k - n) tx0).opn = true /\ Zx left (L.getD (k - n) tx0).who = false
 | [], n, k => by
  constructor
  ·intro h; cases h
  ·rintro ⟨_, h, _⟩; exact absurd h (Nat.not_lt_zero _)
 | t :: L, n, k => by
  have ih := YL (left := left) (L := L) (n := n + 1) (k := k)
  have hs : n + 1 <= k -> (t :: L).getD (k - n) tx0 = L.getD (k - (n + 1)) tx0 := fun h => by
   rw [show k - n = (k - (n + 1)) + 1 by omega]; rfl
  have h0 : k = n -> (t :: L).getD (k - n) tx0 = t := fun h => by rw [show k - n = 0 by omega]; rfl
  unfold Zcb
  split
  ·rename_i hc
   rw [List.mem_cons, ih]
   constructor
   ·rintro (h | ⟨a, b, c⟩)
    ·rw [h0 h]; exact ⟨by omega, by rw [ZOi]; omega, hc⟩
    ·rw [hs a]; exact ⟨by omega, by rw [ZOi]; omega, c⟩
   ·rintro ⟨a, b, c⟩
    rw [ZOi] at b
    by_cases h : k = n
    ·exact .inl h
    ·rw [hs (by omega)] at c
     exact .inr ⟨by omega, by omega, c⟩
  ·rename_i hc
   rw [ih]
   constructor
   ·rintro ⟨a, b, c⟩
    rw [hs a]; exact ⟨by omega, by rw [ZOi]; omega, c⟩
   ·rintro ⟨a, b, c⟩
    rw [ZOi] at b
    by_cases h : k = n
    ·rw [h0 h] at c; exact absurd c hc
    ·rw [hs (by omega)] at c
     exact ⟨by omega, by omega, c⟩
theorem YY {left : List (Int × Int)} : ∀ {L : List Tx} {n : Nat}, (Zcb left L n).Nodup
 | [], _ => List.nodup_nil
 | t :: L, n => by
  unfold Zcb
  split
  ·rw [List.nodup_cons]
   exact ⟨fun h => by have := (YL.1 h).1; omega, YY⟩
  ·exact YY
theorem Zf0 (left : List (Int × Int)) : ∀ (L : List Tx) (n : Nat), (Zcb left L n).length <= L.length
 | [], _ => ZNO _
 | t :: L, n => by
  have := Zf0 left L (n + 1)
  unfold Zcb
  split
  ·rw [ZOi, ZOi]; omega
  ·rw [ZOi]; omega
theorem ZdB : ∀ (L : List Tx) (n : Nat), Zcb [] L n = Zl7 L n
 | [], _ => rfl
 | t :: L, n => by
  unfold Zcb Zl7
  rw [ZdB L (n + 1)]
  cases t.opn <;> simp [Zx]
theorem ZjW {left : List (Int × Int)} {L : List Tx} (h : ∀ t ∈ L, Zx left t.who = true) (n : Nat) : Zcb left L n = [] := by
 rw [List.eq_nil_iff_forall_not_mem]
 intro k hk
 obtain ⟨_, h2, _, h4⟩ := YL.1 hk
 rw [h _ (by rw [ZNY, ZN1 h2, ZNT]; exact ZOl h2)] at h4
 cases h4
theorem Zlc {left : List (Int × Int)} {L : List Tx} (h : ∀ t ∈ L, Zx left t.who = true) : Zce L left = L := by
 unfold Zce
 have e : (L.map fun t => if Zx left t.who = true then t else { t with opn := false }) = L.map id := List.map_congr_left fun t ht => if_pos (h t ht)
 rw [e, List.map_id]
theorem ZdG {R : List (List Int)} {L : List Tx} (hl : R.length = L.length) : ∀ t ∈ L, Zx (Zez R L) t.who = true := fun t ht => by
 rw [(ZbF hl 0).2]; simp [Zya ht]
theorem Zgt {R : List (List Int)} {L : List Tx} (hl : R.length = L.length) : (Zez R L).map (·.1) = L.map (·.who) := by
 unfold Zez
 rw [List.map_map]
 have : ((·.1) ∘ fun p : Tx × List Int => (p.1.who, g0 p.2)) = (fun t : Tx => t.who) ∘ Prod.fst := rfl
 rw [this, <- List.map_map, List.map_fst_zip (by omega)]
theorem ZdZ (L : List Tx) (left : List (Int × Int)) : (Zce L left).length = L.length := by unfold Zce; rw [ZN8]
theorem ZdU (L : List Tx) (left : List (Int × Int)) {j : Nat} (hj : j < L.length) : (Zce L left).getD j tx0 = if Zx left (L.getD j tx0).who = true then L.getD j tx0 else { L.getD j tx0 with opn := false } := by
 unfold Zce
 rw [ZNY, ZNU, ZNY, ZN1 hj]; rfl
theorem Zgx {L : List Tx} {left : List (Int × Int)} (hn : (left.map (·.1)).Nodup) (hw : (L.map (·.who)).Nodup) {k : Int} {j : Nat} (hj : ixL k L = j) (hjl : j < L.length) (hk : Zx left k = true) :
  Zce L (Y0 left k) = (Zce L left).set j { L.getD j tx0 with opn := false } := by
 have hwho : (L.getD j tx0).who = k := by rw [<- hj]; exact ZaK (by omega)
 apply List.ext_getElem?
 intro q
 rw [List.getElem?_set]
 have hg : ∀ (lf : List (Int × Int)), (Zce L lf)[q]? = (L[q]?).map (fun t => if Zx lf t.who = true then t else { t with opn := false }) := fun lf => by unfold Zce; rw [ZNU]
 rw [hg, hg, ZdZ]
 by_cases hq : j = q
 ·subst hq
  rw [if_pos rfl, if_pos hjl]
  have e : L[j]? = some (L.getD j tx0) := by rw [ZNY, ZN1 hjl, ZNT]
  rw [e, Option.map_some]
  congr 1
  exact if_neg (by rw [Zaz hn, hwho, decide_eq_true rfl]; simp)
 ·rw [if_neg hq]
  cases hL : L[q]? with
  | none => rfl
  | some t =>
   simp only [Option.map_some]
   have hne : ¬ k = t.who := fun h => hq (by
    have hql : q < L.length := (List.getElem?_eq_some_iff.1 hL).1
    have := Zea hw hql
    rw [ZNY, hL, ZNT, <- h, hj] at this
    exact this)
   rw [Zaz hn]
   simp [hne]
theorem ZhE {L : List Tx} {left : List (Int × Int)} (hn : (left.map (·.1)).Nodup) (hw : (L.map (·.who)).Nodup) {k : Int} {j : Nat} (hj : ixL k L = j) (hjl : j < L.length) (hk : Zx left k = true) (ho : ((Zce L left).getD j tx0).opn = false) :
  Zce L (Y0 left k) = Zce L left := by
 rw [Zgx hn hw hj hjl hk]
 have hwho : (L.getD j tx0).who = k := by rw [<- hj]; exact ZaK (by omega)
 rw [ZdU L left hjl, hwho, if_pos hk] at ho
 have e : ({ L.getD j tx0 with opn := false } : Tx) = (Zce L left).getD j tx0 := by
  rw [ZdU L left hjl, hwho, if_pos hk]
  generalize L.getD j tx0 = t at ho
  cases t; simp only at ho; rw [ho]
 rw [e]
 exact ZCZ (by rw [ZdZ]; exact hjl)
theorem mhas_del' {m : List (Int × Int)} (hn : (m.map (·.1)).Nodup) (k q : Int) : Zx (Y0 m k) q = if k = q then false else Zx m q := by
 rw [Zaz hn]
 by_cases h : k = q <;> simp [h]
theorem Zlq {L : List Tx} {left : List (Int × Int)} (hn : (left.map (·.1)).Nodup) (hw : (L.map (·.who)).Nodup) {k : Int} {j : Nat} (hj : ixL k L = j) (hjl : j < L.length) (hk : Zx left k = true) (ho : (L.getD j tx0).opn = true) :
  (Zcb left L 0 ++ [j]).Perm (Zcb (Y0 left k) L 0) := by
 have hwho : (L.getD j tx0).who = k := by rw [<- hj]; exact ZaK (by omega)
 have hnj : ¬ j ∈ Zcb left L 0 := fun h => by
  have := (YL.1 h).2.2.2
  rw [Nat.sub_zero, hwho, hk] at this; cases this
 refine (List.perm_ext_iff_of_nodup ?_ YY).2 fun q => ?_
 ·rw [List.nodup_append]
  refine ⟨YY, by simp, fun a ha b hb => ?_⟩
  rw [ZNR] at hb; subst hb
  intro e; subst e; exact hnj ha
 ·rw [ZOj, ZNR, YL, YL, mhas_del' hn]
  simp only [Nat.sub_zero]
  constructor
  ·rintro (⟨a, b, c, d⟩ | rfl)
   ·exact ⟨a, b, c, by rw [d]; split <;> rfl⟩
   ·exact ⟨Nat.zero_le _, hjl, ho, if_pos hwho.symm⟩
  ·rintro ⟨a, b, c, d⟩
   by_cases hq : q = j
   ·exact .inr hq
   ·refine .inl ⟨a, b, c, ?_⟩
    have hne : ¬ k = (L.getD q tx0).who := fun h => hq (by
     have := Zea hw b
     rw [<- h, hj] at this; exact this.symm)
    rw [if_neg hne] at d; exact d
theorem Zhz {L : List Tx} {left : List (Int × Int)} (hn : (left.map (·.1)).Nodup) (hw : (L.map (·.who)).Nodup) {k : Int} {j : Nat} (hj : ixL k L = j) (hjl : j < L.length) (ho : (L.getD j tx0).opn = false) :
  (Zcb left L 0).Perm (Zcb (Y0 left k) L 0) := by
 refine (List.perm_ext_iff_of_nodup YY YY).2 fun q => ?_
 rw [YL, YL, mhas_del' hn]
 simp only [Nat.sub_zero]
 constructor
 ·rintro ⟨a, b, c, d⟩
  exact ⟨a, b, c, by rw [d]; split <;> rfl⟩
 ·rintro ⟨a, b, c, d⟩
  refine ⟨a, b, c, ?_⟩
  have hne : ¬ k = (L.getD q tx0).who := fun h => by
   have := Zea hw b
   rw [<- h, hj] at this
   rw [this, c] at ho; cases ho
  rw [if_neg hne] at d; exact d
theorem Zd5 {R : List (List Int)} {a b : List Nat} (h : a.Perm b) : (Zbh R a).Perm (Zbh R b) := h.map _
def ZJq : SX := ixB (rA 5) (ai 4)
def Zvy : Ctr := ⟨[.int, .int, .int, .rows, .int, .rows, .g], [.one (slC (ai 0) (ai 1) (ai 2) 1), .one (.ptr (ai 4) 0)], [pAr (ai 0) (rA 3) (ai 2), txO ZJq (rA 5) (gA 6)] ++ txP (ai 4) (rA 5) (gA 6) ZJq,
 [.f2 45 (ai 1) (Zj (rA 3)), eLe (ai 1) (ai 2), eLe (ai 1) mil, usB 560 (rA 3) (rA 5) z0, usB 565 (rA 5) (ai 4) z0, usB 558 (rA 5) (gA 6) z0, .f2 45 (Zj (rA 5)) (usI 552 (gA 6) z0 z0), eLt ZJq (usI 552 (gA 6) z0 z0), .f2 45 (ai 4) (nt (rA 5) ZJq 0)], [.bool], .one (.bool (qA 7)),
 [pAr (ai 0) (rA 3) (ai 2), txO ZJq (rA 5) (gA 6)] ++ txP (ai 4) (rA 5) (gA 6) ZJq, [.f2 48 (qA 7) (usB 562 (rA 3) (ai 4) z0)]⟩
def cn2I : Inv := cntI
def cn2E : SX := .f2 45 (ai 4) (nt (rA 3) (ai 7) 0)
def ZLE : Cx := { specs := [], anns := [(55, [(0, .ghost ZjV [.tmp 1]), (999999, .ghost ZqW [.tmp 1])]),
 (76, [(2, .inv cn2I), (4, .split cn2E), (4, .iff (ZcH cn2E)), (4, .ghost ZCG [.tmp 0, .tmp 5, .tmp 1]), (500004, .iff (ZcH cn2E)), (500004, .ghost ZB6 [.tmp 1])])] }
def ZlZ : Ctr := ⟨hA, [.one (hS 0)], [hC 0 0], [eLe z0 (ai 2), eLe (ai 2) (Zj (rA 4)), eLe (ai 2) (ai 3), eLe (ai 2) (.int 1099511627776)], [.int, .int], .tup [(false, [.ptr (ai 6) 0]), (false, [.int .i64 (ai 7)])], [hC 0 0, bkC (ai 6) xX],
 [.f2 45 (ai 7) (usI 523 xX z0 z0), .f2 48 (eLe z0 (ai 6)) (.f2 45 (ai 7) z0)]⟩
def wG (i : SX) : SX := usG 561 xX i z0
def wK (i R : SX) : SX := usR 548 xX i R
def wO (i : SX) : SX := usR 549 xX i z0
def wM (R g : SX) : SX := .us .amap 547 R g z0 z0
def wrtI (m b : Nat) : Inv := ⟨[.int, .rows, .int, .int, .int, .int, .int, .int, .rows], [(22, .one (.int .i64 (di 0))), (5, .one (slC (di 6) (Zj (rA 1000008)) (di 7) 1))],
 [.cel (ai b) 0 (bkQ (ai m) (di 2) (Zj (wK (di 0) (rA 1000001))) (di 3) (di 4) (Zj (wO (di 0))) (di 5) (.int (-1)) z0), imC (ai m) (wM (rA 1000001) (wG (di 0))), pAr (di 2) (wK (di 0) (rA 1000001)) (di 3), rAr (di 4) (wO (di 0)) (di 5), pAr (di 6) (rA 1000008) (di 7), txC (rA 1000001) (wG (di 0))],
 [eLe z0 (di 0), eLe (di 0) (ai 2), eLe (Zj (wK (di 0) (rA 1000001))) (di 3), .f2 50 (eLe z0 (di 2)) (.f2 45 (Zj (wK (di 0) (rA 1000001))) z0), eLe (Zj (wO (di 0))) (di 5), .f2 50 (eLe z0 (di 4)) (.f2 45 (Zj (wO (di 0))) z0),
  eLe (Zj (rA 1000008)) (di 7), .f2 50 (eLe z0 (di 6)) (.f2 45 (Zj (rA 1000008)) z0), .us .bool 559 xX (di 0) (rA 1000001) (rA 1000008), .f2 45 (usI 550 xX (di 0) z0) (.int (-1)), .f2 45 (usI 551 xX (di 0) z0) z0], .f2 41 (ai 2) (di 0)⟩
def wrcI (m g R it : Nat) : Inv := ⟨[.amap, .ints, .rows, .int, .int, .rows], [(5, .one (slC (di 3) (Zj (rA 1000005)) (di 4) 1))],
 [.itr (.int .i64) (.one .ptr) (ai m) (wM (rA R) (wG (ai g))) (ai it) (mA 1000000) (iA 1000001), pAr (di 3) (rA 1000005) (di 4), txC (rA 1000002) (.us .g 568 (wG (ai g)) (mA 1000000) z0 z0)],
 [eLe (Zj (rA 1000005)) (di 4), .f2 50 (eLe z0 (di 3)) (.f2 45 (Zj (rA 1000005)) z0), usB 569 (rA 1000002) (rA R) z0, .us .bool 570 (wG (ai g)) (mA 1000000) (rA R) (rA 1000005), usB 571 (mA 1000000) (wM (rA R) (wG (ai g))) z0], .f1 33 (mA 1000000)⟩
def wT (n : Nat) : SX := .f3 140 (.int (-1)) (wM (rA (n + 1)) (wG (ai n))) (nt (rA 4) (ai n) 1)
def ZKq : Cx := { specs := [(50, [ZtF]), (54, [ZAd]), (55, [Zvy, ZvU])], anns := [(25, [(6, .ghost ZD7 []), (6, .ghost ZD7 []), (6, .ghost ZJK []), (6, .ghost emTC []), (8, .inv (wrtI 7 8)), (9, .ghost ZLz []), (11, .split (eLe z0 (wT 9))), (11, .iff (eLe z0 (wT 9))), (11, .ghost ZBH [.tmp 8, .tmp 32]), (500011, .iff (eLe z0 (wT 9))), (500011, .ghost ZjV [.tmp 8]),
  (500016, .ghost adTC [.tmp 62]), (500017, .ghost ZD7 []), (500019, .ghost ZD7 []), (20, .ghost ZBH [.tmp 8, .tmp 32]), (500020, .ghost Zm0 [.tmp 8]), (29, .ghost ZBH [.tmp 8, .tmp 32]), (500029, .ghost Zm0 [.tmp 8]), (33, .ghost ZBH [.tmp 8, .tmp 32]), (500033, .ghost Zm0 [.tmp 8]),
  (35, .iff (eLe z0 (wT 9))), (35, .ghost ZqW [.tmp 8]), (500035, .iff (eLe z0 (wT 9))), (500035, .ghost ZjV [.tmp 8]), (39, .ghost ZBH [.tmp 8, .tmp 32]), (500039, .ghost Zm0 [.tmp 8]), (500042, .ghost ZD7 []), (44, .inv (wrcI 7 9 10 19)), (46, .ghost ZqW [.tmp 11]), (500046, .ghost ZjV [.tmp 11]), (47, .ghost ZqW [.tmp 11]), (500047, .ghost Zm0 [.tmp 11]), (999999, .iff (eLt (.int 400) (ai 2))), (999999, .ghost ZJC [.tmp 0, .tmp 2]), (999999, .iff (qA 6)), (999999, .ghost ZJC [.tmp 0, .tmp 2]), (999999, .iff (ZcH (qA 6))), (999999, .ghost Zsd [.tmp 0, .tmp 2])])] }
def ZFx : SX := v 552 (g 6)
def ZBl : SX := e (.f1 32 (r 5)) ZFx
def ZgH : SX := d 566 (r 5) (a 4)
def ZCX : SX := t ZgH ZFx
def ZGk : SX := .f3 112 (r 5) ZgH z
def ZBx : SX := e (a 4) ZGk
def ZFv : SX := l z (a 7)
def ZIi : SX := .f3 112 (r 3) (a 7) z
def ZEv : SX := e (a 4) ZIi
def ZHd : SX := t (a 7) (.f1 32 (r 3))
def ZvL : SX := .f1 32 (wR 545 (g 6) ZgH)
def Zza : SX := l ZvL (.f3 112 (r 5) ZgH (k 3))
def ZyJ : SX := .f1 30 (wN 546 (g 6) ZgH)
def ZzM : SX := l ZyJ (.f3 112 (r 5) ZgH (k 5))
def ZyY : SX := .f2 50 (l z (.f3 112 (r 5) ZgH (k 2))) (e ZvL z)
def ZsG : SX := .f2 50 (l z (.f3 112 (r 5) ZgH (k 4))) (e ZyJ z)
def Zzg : SX := l z (.f3 112 (r 5) ZgH (k 1))
def Zyw : SX := l z ZGk
def ZyM : SX := c 562 (r 3) (a 4)
def Zic : SX := .f2 40 (a 7) (k 1)
def Zv1 : SX := .f2 41 (a 1) Zic
def ZKR : VC := i (e (a 1) (.f1 32 (r 3))) (i (l (a 1) (a 2)) (i (l (a 1) (k 1000000)) (i (c 560 (r 3) (r 5)) (i (c 565 (r 5) (a 4)) (i (c 558 (r 5) (g 6)) (i ZBl (i ZCX (i ZBx (n (l z ZgH) (n (l z (a 1)) (n (.f1 2 (c 562 (.f2 115 (r 3) z) (a 4))) (u 7 .int (i ZFv (i (l (a 7) (a 1)) (i (.f1 2 (c 562 (.f2 115 (r 3) (a 7)) (a 4))) (.and (i (t (a 7) (a 1)) (.and (i ZEv (n ZHd (n (l z (a 4)) (i ZBx (i ZCX (i Zza (i ZzM (i ZyY (i ZsG (i Zzg (i Zyw (i ZBl (n (.f2 48 ZFv ZyM) .tt))))))))))))) (i (.f1 2 ZEv) (n (c 565 (r 5) ZIi) (n ZHd (n (.f1 23 Zic) (n (l z Zv1) (n (t Zv1 (.f2 41 (a 1) (a 7))) (n (l z Zic) (n (l Zic (a 1)) (n (.f1 2 (c 562 (.f2 115 (r 3) Zic) (a 4))) .tt))))))))))) (i (l (a 1) (a 7)) (i ZBx (i ZCX (i Zza (i ZzM (i ZyY (i ZsG (i Zzg (i Zyw (i ZBl (n (.f2 48 (.bool false) ZyM) .tt)))))))))))))))))))))))))))
theorem ZL1 : Yq Tryz.prog ZLE 12 55 Zvy = ZKR := by kernel_rfl
def Yh : SX := .f2 115 (r 4) (a 2)
def ZCU : SX := v 523 Yh
def ZFy : SX := l z (a 8)
def ZFb : SX := hR0 548 Yh z (.f1 154 z)
def ZEZ : SX := .f1 32 ZFb
def ZI6 : SX := e ZEZ z
def ZE7 : SX := vR 549 Yh
def ZHf : SX := .f1 32 ZE7
def ZHY : SX := e ZHf z
def ZHx : SX := w 561 Yh
def ZdV : SX := hR0 548 Yh (a 9) (r 10)
def Zbx : SX := .f1 32 ZdV
def ZgC : SX := l z (a 11)
def Zkz : SX := wR 549 Yh (a 9)
def Zd1 : SX := .f1 32 Zkz
def Zzu : SX := l z (a 13)
def ZR : SX := f 561 Yh (a 9)
def Zaw : SX := wM0 547 (r 10) ZR
def Zf3 : SX := .f3 112 (r 4) (a 9) (k 1)
def Zcn : SX := .f3 140 (k (-1)) Zaw Zf3
def Zkq : SX := l z Zcn
def Z6 : SX := d 553 ZR Zf3
def Zpt : SX := v 552 ZR
def Zur : SX := .f3 112 (r 10) Z6 z
def ZhI : SX := wR 545 ZR Z6
def Zhr : SX := .f1 32 ZhI
def ZvI : SX := .f3 112 (r 10) Z6 (k 3)
def Ze1 : SX := l Zhr ZvI
def Zif : SX := wN 546 ZR Z6
def Zhy : SX := .f1 30 Zif
def ZvG : SX := .f3 112 (r 10) Z6 (k 5)
def ZeV : SX := l Zhy ZvG
def Zvl : SX := .f3 112 (r 10) Z6 (k 2)
def ZeI : SX := .f2 50 (l z Zvl) (e Zhr z)
def ZA8 : SX := .f3 112 (r 10) Z6 (k 4)
def ZeO : SX := .f2 50 (l z ZA8) (e Zhy z)
def Zpv : SX := .f3 112 (r 10) Z6 (k 1)
def ZeG : SX := l z Zpv
def ZeL : SX := l z Zur
def ZdJ : SX := e (.f1 32 (r 10)) Zpt
def Zd3 : SX := .f3 112 (r 4) (a 9) z
def ZpJ : SX := e Zd3 (k 1)
def ZhD : SX := .f1 32 Yh
def Zak : SX := .f2 155 ZR (f 561 Yh ZhD)
def Y6 : SX := .f2 155 Zaw Zaw
def Zae : SX := .f2 155 ZdV (hR0 548 Yh ZhD (r 10))
def Zaj : SX := .f2 155 Zkz (wR 549 Yh ZhD)
def Zac : SX := e Zbx Zbx
def Y9 : SX := e Zd1 Zd1
def Zzf : SX := d 550 Yh ZhD
def Zau : SX := e (a 9) Zzf
def Zp6 : SX := d 551 Yh ZhD
def ZaY : SX := e (k 1) Zp6
def Zad : SX := e z ZCU
def Y8 : SX := .f2 48 ZFy (.bool true)
def Zyd : SX := .f1 2 ZpJ
def ZqP : SX := e Zd3 (k 2)
def Zqd : SX := e Zf3 z
def ZeT : SX := l z (a 19)
def Zx4 : SX := l Zd1 Zd1
def Zks : SX := .f2 40 Zd1 (k 1)
def ZyX : SX := l (.f2 42 Zks (k 72)) k1
def Zy5 : SX := l Zks (a 21)
def Zgz : SX := l z (a 20)
def ZsK : SX := .f2 50 Zgz (e Zks z)
def Yz : SX := .f2 40 (a 9) (k 1)
def Za9 : SX := .f1 23 Yz
def ZvC : SX := .f2 41 (a 2) Yz
def Zbb : SX := l z ZvC
def Za8 : SX := t ZvC (.f2 41 (a 2) (a 9))
def Za2 : SX := l z Yz
def Zbd : SX := l Yz (a 2)
def ZvD : SX := hR0 548 Yh Yz (r 10)
def Zo4 : SX := .f1 32 ZvD
def Zlp : SX := l Zo4 (a 12)
def ZkR : SX := .f2 50 ZgC (e Zo4 z)
def ZoG : SX := wR 549 Yh Yz
def ZhJ : SX := .f1 32 ZoG
def ZtB : SX := l ZhJ (a 21)
def Zu0 : SX := e ZhJ z
def Zs4 : SX := .f2 50 Zgz Zu0
def Zut : SX := .us .bool 559 Yh Yz (r 10) (.f1 154 z)
def Zbc : SX := e (d 550 Yh Yz) (k (-1))
def Za1 : SX := e (d 551 Yh Yz) z
def Zbq : SX := f 561 Yh Yz
def Zkh : SX := .f2 155 Zbq ZR
def Zwf : SX := .f1 35 (.f1 36 (.f3 112 (r 4) (a 9) (k 2)))
def Zym : SX := .f1 35 (.f1 36 (.f3 112 (r 4) (a 9) (k 3)))
def ZzP : SX := .f3 112 (r 4) (a 9) (k 5)
def Zo8 : SX := .f2 122 Zd3 (.f2 122 Zf3 (.f2 122 Zwf (.f2 122 Zym (.f2 122 (.f1 3 (.f1 2 (e (.f3 112 (r 4) (a 9) (k 4)) z))) (.f2 122 ZzP (.f1 152 z))))))
def ZuO : SX := .f2 155 ZoG (.f2 121 Zkz (.f2 124 (.f2 122 (a 9) Zo8) (.f1 154 z)))
def Zkf : SX := .f2 155 ZvD ZdV
def Zj0 : SX := .f2 155 (wM0 547 (r 10) Zbq) Zaw
def Zxi : SX := e ZhJ Zks
def Zl4 : SX := e Zo4 Zbx
def Zvv : SX := .f1 2 Zqd
def Zy8 : SX := c 543 ZR Z6
def ZgF : SX := .f1 2 Zy8
def Zh6 : SX := .f1 2 ZgF
def Zg1 : SX := wM0 544 ZR Z6
def Znp : SX := .us .rows 563 Zg1 Zo8 ZhI (a 9)
def Zgf : SX := .f1 32 Znp
def Znd : SX := .us .ints 564 Zg1 Zo8 Zif (a 9)
def Zgb : SX := .f1 30 Znd
def ZiF : SX := l z (a 21)
def Zne : SX := d 540 ZR Z6
def Zdj : SX := e Zne Zne
def Znz : SX := d 541 ZR Z6
def Zdr : SX := e Znz Znz
def ZjE : SX := hR0 554 (r 10) Z6 (.f2 122 Zcn (.f2 122 Zpv (.f2 122 (a 19) (.f2 122 (a 20) (.f2 122 (a 21) (.f2 122 (a 22) (.f1 152 z)))))))
def ZmF : SX := hR0 548 Yh Yz ZjE
def ZiZ : SX := .f1 32 ZmF
def Zar : SX := l ZhJ (a 14)
def Zan : SX := .f2 50 Zzu Zu0
def Zm7 : SX := d 542 ZR Z6
def Zoc : SX := .f2 122 Zm7 (.f2 122 (.f1 3 Zy8) (.f1 152 z))
def Zao : SX := .f2 155 ZoG Zkz
def Zaq : SX := e ZhJ Zd1
def ZnV : SX := .f1 2 ZqP
def Zeg : SX := e Zd3 (k 3)
def Zef : SX := e Zhr Zhr
def Zes : SX := e Zhy Zhy
def Zi3 : SX := hR0 554 (r 10) Z6 (.f2 122 Zcn (.f2 122 Zpv (.f2 122 Zvl (.f2 122 ZvI (.f2 122 ZA8 (.f2 122 ZvG (.f1 152 z)))))))
def Zja : SX := hR0 548 Yh Yz Zi3
def Zdb : SX := .f1 32 Zja
def ZiG : SX := l Zdb (a 12)
def Zix : SX := e Zdb z
def Zjz : SX := .f2 50 ZgC Zix
def Zer : SX := .us .bool 559 Yh Yz Zi3 (r 17)
def ZgW : SX := e Zd3 (k 4)
def ZmK : SX := .f2 155 Zbq (.us .g 556 (.us .g 555 ZR Z6 (.f3 142 Zg1 Zwf (.f2 40 (.f2 42 Zym (k 2)) (.f1 3 ZgW))) Zoc) Z6 ZhI Zif)
def Zjg : SX := .f2 155 Zja ZdV
def Zey : SX := .f2 155 (wM0 547 Zi3 Zbq) Zaw
def ZjO : SX := e Zdb Zbx
def ZnS : SX := .f1 2 Zeg
def ZnH : SX := .f1 2 ZgW
def ZiK : SX := e Zd3 (k 6)
def ZfI : SX := .f2 122 z (.f1 152 z)
def Znj : SX := .f1 2 ZiK
def Ziy : SX := e Zd3 (k 5)
def Zna : SX := c 565 (r 10) Zcn
def Zap : SX := d 566 (r 10) Zcn
def Zot : SX := .f3 112 (r 10) Zap z
def Zof : SX := .f1 32 (wR 545 ZR Zap)
def ZnR : SX := .f1 30 (wN 546 ZR Zap)
def ZoB : SX := e (.f1 32 (r 17)) (.f1 32 (r 17))
def ZmL : SX := l (.f1 32 (r 17)) (k 1000000)
def Znn : SX := c 560 (r 17) (r 10)
def Zoq : SX := .f2 48 (q 19) (c 562 (r 17) Zcn)
def Znl : SX := .f1 2 (.f1 2 (q 19))
def Zju : SX := l z Zap
def ZmE : SX := d 542 ZR Zap
def Znc : SX := l z ZmE
def ZnA : SX := t ZmE z
def Zch : SX := .f2 40 Zbx (k 1)
def ZnD : SX := .f1 23 Zch
def Zjt : SX := e ZzP Zch
def Zn9 : SX := .f1 2 Zjt
def Znq : SX := e (k 2) Zp6
def Zn0 : SX := l Zbx Zbx
def Zor : SX := l (.f2 42 Zch (k 8)) k1
def Zm8 : SX := e Zch z
def Zmm : SX := .f2 155 Zbq (.us .g 556 (.us .g 555 ZR Z6 Zg1 (.f2 122 (a 9) ZfI)) Z6 ZhI Zif)
def Zm5 : SX := .f2 155 Zja (.f2 121 ZdV (.f2 124 (.f2 122 Zcn (.f1 152 z)) (.f1 154 z)))
def Zns : SX := e Zdb Zch
def Zms : SX := .f1 2 Ziy
def Zjb : SX := e Zd3 (k 7)
def Zoz : SX := c 569 (r 10) (r 10)
def ZnP : SX := .us .bool 570 ZR Zaw (r 10) (.f1 154 z)
def Znv : SX := c 571 Zaw Zaw
def ZmA : SX := .f2 155 (f 568 ZR Zaw) ZR
def ZnT : SX := l (.f1 32 (r 25)) (a 24)
def Znt : SX := .f2 50 (l z (a 23)) (e (.f1 32 (r 25)) z)
def Zno : SX := c 569 (r 22) (r 10)
def ZmI : SX := .us .bool 570 ZR (m 20) (r 10) (r 25)
def Zmt : SX := c 571 (m 20) Zaw
def Zmz : SX := e (.f1 33 (m 20)) z
def Zni : SX := hR0 548 Yh Yz (r 22)
def ZjB : SX := .f1 32 Zni
def Znm : SX := l ZjB (a 12)
def Zmx : SX := .f2 50 ZgC (e ZjB z)
def Znh : SX := .us .bool 559 Yh Yz (r 22) (r 25)
def Zat : SX := f 568 ZR (m 20)
def Zmu : SX := .f2 155 Zbq Zat
def Zmi : SX := .f2 155 Zni ZdV
def ZnY : SX := .f2 155 (wM0 547 (r 22) Zbq) Zaw
def Zov : SX := e ZjB Zbx
def Zmy : SX := .f2 141 (m 20) (a 26)
def Zel : SX := .f3 140 z Zaw (a 26)
def Zob : SX := c 565 (r 22) Zel
def Z8 : SX := d 566 (r 22) Zel
def ZnG : SX := .f3 112 (r 22) Z8 z
def ZfR : SX := e Zel ZnG
def Zom : SX := v 552 Zat
def ZfF : SX := t Z8 Zom
def ZmD : SX := wR 545 Zat Z8
def ZgI : SX := .f1 32 ZmD
def Zos : SX := .f3 112 (r 22) Z8 (k 3)
def ZfK : SX := l ZgI Zos
def Zmk : SX := wN 546 Zat Z8
def Zg3 : SX := .f1 30 Zmk
def Zm1 : SX := .f3 112 (r 22) Z8 (k 5)
def ZfT : SX := l Zg3 Zm1
def Zny : SX := .f3 112 (r 22) Z8 (k 2)
def ZfC : SX := .f2 50 (l z Zny) (e ZgI z)
def ZnK : SX := .f3 112 (r 22) Z8 (k 4)
def ZfS : SX := .f2 50 (l z ZnK) (e Zg3 z)
def Znu : SX := .f3 112 (r 22) Z8 (k 1)
def Zgy : SX := l z Znu
def ZgB : SX := l z ZnG
def Zgg : SX := e (.f1 32 (r 22)) Zom
def ZnU : SX := l z Z8
def Zjs : SX := c 543 Zat Z8
def ZnZ : SX := d 540 Zat Z8
def ZnI : SX := e ZnZ ZnZ
def Znb : SX := d 541 Zat Z8
def Zmp : SX := e Znb Znb
def Zol : SX := e ZgI ZgI
def Zm6 : SX := e Zg3 Zg3
def ZmY : SX := l z (a 27)
def Zml : SX := l (.f1 32 (r 25)) (.f1 32 (r 25))
def ZjL : SX := .f2 40 (.f1 32 (r 25)) (k 1)
def ZnQ : SX := l (.f2 42 ZjL (k 8)) k1
def ZmT : SX := l ZjL (a 29)
def Zoo : SX := .f2 50 (l z (a 28)) (e ZjL z)
def Zed : SX := .f2 143 (m 20) (a 26)
def Zgs : SX := t (.f1 33 Zed) (.f1 33 (m 20))
def ZmZ : SX := c 569 (hR0 554 (r 22) Z8 (.f2 122 Zel (.f2 122 Znu (.f2 122 Zny (.f2 122 Zos (.f2 122 ZnK (.f2 122 Zm1 (.f1 152 z)))))))) (r 10)
def ZnJ : SX := .us .bool 570 ZR Zed (r 10) (.f2 121 (r 25) (.f2 124 (.f2 122 Zel (.f1 152 z)) (.f1 154 z)))
def Zg4 : SX := c 571 Zed Zaw
def ZmB : SX := f 568 ZR Zed
def Zng : SX := .f2 155 ZmB (.us .g 556 (.us .g 555 Zat Z8 (wM0 544 Zat Z8) (.f2 122 (d 542 Zat Z8) ZfI)) Z8 ZmD Zmk)
def ZnO : SX := .f1 2 Zjs
def Zox : SX := .us .bool 570 ZR Zed (r 10) (r 25)
def ZmW : SX := .f2 155 ZmB Zat
def Zm4 : SX := .f1 2 Zjb
def Zoa : SX := .us .bool 559 Yh Yz (r 10) (r 17)
def ZgO : SX := t Zcn z
def Zjo : SX := .f2 121 (r 10) (.f2 124 (.f2 122 (a 20) (.f2 122 (a 19) (.f2 122 (k (-1)) (.f2 122 z (.f2 122 (k (-1)) ZfI))))) (.f1 154 z))
def ZnM : SX := hR0 548 Yh Yz Zjo
def Zje : SX := .f1 32 ZnM
def ZK0 : VC := i (l z (a 2)) (i (l (a 2) (.f1 32 (r 4))) (i (l (a 2) (a 3)) (i (l (a 2) k0) (.and (i (t (k 400) (a 2)) (n (e (k 2) ZCU) .tt)) (i (l (a 2) (k 400)) (u 6 .bool (i (.f2 48 (q 6) (.f1 2 (c 511 (r 4) (a 2)))) (.and (i (q 6) (n (e (k 280) ZCU) .tt)) (i (.f1 2 (q 6)) (u 7 .int (i (l z (a 7)) (u 8 .int (i ZFy (n (l ZEZ z) (n (.f2 50 (.bool false) ZI6) (n (l ZHf z) (n (.f2 50 (.bool false) ZHY) (n (.us .bool 559 Yh z (.f1 154 z) (.f1 154 z)) (n (e (v 550 Yh) (k (-1))) (n (e (v 551 Yh) z) (n (.f2 155 ZHx (w 561 (.f1 154 z))) (n (.f2 155 ZE7 (.f1 154 z)) (n (.f2 155 ZFb (.f1 154 z)) (n (.f2 155 (wM0 547 (.f1 154 z) ZHx) (.f1 155 z)) (n ZHY (n ZI6 (u 9 .int (u 10 .rows (u 11 .int (u 12 .int (u 13 .int (u 14 .int (u 15 .int (u 16 .int (u 17 .rows (i (l z (a 9)) (i (l (a 9) (a 2)) (i (l Zbx (a 12)) (i (.f2 50 ZgC (e Zbx z)) (i (l Zd1 (a 14)) (i (.f2 50 Zzu (e Zd1 z)) (i (l (.f1 32 (r 17)) (a 16)) (i (.f2 50 (l z (a 15)) (e (.f1 32 (r 17)) z)) (i (.us .bool 559 Yh (a 9) (r 10) (r 17)) (i (e (d 550 Yh (a 9)) (k (-1))) (i (e (d 551 Yh (a 9)) z) (.and (i (t (a 9) (a 2)) (i (c 558 (r 10) ZR) (n (t (a 9) (.f1 32 (r 4))) (u 18 .int (i (l z (a 18)) (.and (i Zkq (n (t Z6 Zpt) (n (e Zcn Zur) (i Ze1 (i ZeV (i ZeI (i ZeO (i ZeG (i ZeL (i ZdJ (.and (i Zkq (n (l z Z6) (.and (i ZpJ (.and (i Zkq (n Zak (n Y6 (n Zae (n Zaj (n Zac (n Y9 (n Zau (n ZaY (n Zad (n Y8 .tt))))))))))) .tt)) (i Zyd (.and (i ZqP (.and (i Zqd (u 19 .int (i ZeT (n Zx4 (n ZyX (u 20 .int (u 21 .int (i Zy5 (i ZsK (n Za9 (n Zbb (n Za8 (n Za2 (n Zbd (n Zlp (n ZkR (n ZtB (n Zs4 (n Zut (n Zbc (n Za1 (n Zkh (n ZuO (n Zkf (n Zj0 (n Zxi (n Zl4 .tt))))))))))))))))))))))))))) (i Zvv (.and (i ZgF (n Zak (n Y6 (n Zae (n Zaj (n Zac (n Y9 (n Zau (n ZaY (n Zad (n Y8 .tt))))))))))) (i Zh6 (i Ze1 (i ZeV (i ZeI (i ZeO (i ZeG (i ZeL (i ZdJ (n (l Zhr (k 1000000)) (n (l Zhy (k 1000000)) (u 19 .int (u 20 .int (u 21 .int (u 22 .int (i (l Zgf (a 20)) (i (l Zgb (a 22)) (i (.f2 50 ZeT (e Zgf z)) (i (.f2 50 ZiF (e Zgb z)) (n Zdj (n Zdr (n (e Zgf Zgf) (n (e Zgb Zgb) (n Za9 (n Zbb (n Za8 (n Za2 (n Zbd (n (l ZiZ (a 12)) (n (.f2 50 ZgC (e ZiZ z)) (n Zar (n Zan (n (.us .bool 559 Yh Yz ZjE (.f1 154 z)) (n Zbc (n Za1 (n (.f2 155 Zbq (.us .g 556 (.us .g 555 ZR Z6 Zg1 Zoc) Z6 Znp Znd)) (n Zao (n (.f2 155 ZmF ZdV) (n (.f2 155 (wM0 547 ZjE Zbq) Zaw) (n Zaq (n (e ZiZ Zbx) .tt)))))))))))))))))))))))))))))))))))))))))))) (i ZnV (.and (i Zeg (.and (i Zeg (.and (i ZgF (n Zak (n Y6 (n Zae (n Zaj (n Zac (n Y9 (n Zau (n ZaY (n Zad (n Y8 .tt))))))))))) (i Zh6 (i Ze1 (i ZeV (i ZeI (i ZeO (i ZeG (i ZeL (i ZdJ (n Zdj (n Zdr (n Zef (n Zes (n Za9 (n Zbb (n Za8 (n Za2 (n Zbd (n ZiG (n Zjz (n Zar (n Zan (n Zer (n Zbc (n Za1 (n ZmK (n Zao (n Zjg (n Zey (n Zaq (n ZjO .tt)))))))))))))))))))))))))))))))) .tt)) (i ZnS (.and (i ZgW (.and (i ZgF (n Zak (n Y6 (n Zae (n Zaj (n Zac (n Y9 (n Zau (n ZaY (n Zad (n Y8 .tt))))))))))) (i Zh6 (i Ze1 (i ZeV (i ZeI (i ZeO (i ZeG (i ZeL (i ZdJ (n Zdj (n Zdr (n Zef (n Zes (n Za9 (n Zbb (n Za8 (n Za2 (n Zbd (n ZiG (n Zjz (n Zar (n Zan (n Zer (n Zbc (n Za1 (n ZmK (n Zao (n Zjg (n Zey (n Zaq (n ZjO .tt)))))))))))))))))))))))))))))))) (i ZnH (.and (i ZiK (.and (i ZgF (n Zak (n Y6 (n Zae (n Zaj (n Zac (n Y9 (n Zau (n ZaY (n Zad (n Y8 .tt))))))))))) (i Zh6 (i Ze1 (i ZeV (i ZeI (i ZeO (i ZeG (i ZeL (i ZdJ (n Zdj (n Zdr (n Zef (n Zes (n Za9 (n Zbb (n Za8 (n Za2 (n Zbd (n ZiG (n Zjz (n Zar (n Zan (n Zer (n Zbc (n Za1 (n (.f2 155 Zbq (.us .g 556 (.us .g 555 ZR Z6 Zg1 (.f2 122 Zm7 ZfI)) Z6 ZhI Zif)) (n Zao (n Zjg (n Zey (n Zaq (n ZjO .tt)))))))))))))))))))))))))))))))) (i Znj (.and (i Ziy (n Zna (i (e Zcn Zot) (i (t Zap Zpt) (i (l Zof (.f3 112 (r 10) Zap (k 3))) (i (l ZnR (.f3 112 (r 10) Zap (k 5))) (i (.f2 50 (l z (.f3 112 (r 10) Zap (k 2))) (e Zof z)) (i (.f2 50 (l z (.f3 112 (r 10) Zap (k 4))) (e ZnR z)) (i (l z (.f3 112 (r 10) Zap (k 1))) (i (l z Zot) (i ZdJ (.and (i ZgF (n ZoB (n ZmL (n Znn (u 19 .bool (i Zoq (.and (i Znl (n Zju (.and (i Znc (n Zak (n Y6 (n Zae (n Zaj (n Zac (n Y9 (n Zau (n ZaY (n Zad (n Y8 .tt))))))))))) (i ZnA (n ZnD (.and (i Zn9 (n Zak (n Y6 (n Zae (n Zaj (n Zac (n Y9 (n Zau (n Znq (n Zad (n Y8 .tt))))))))))) (i Zjt (i Ze1 (i ZeV (i ZeI (i ZeO (i ZeG (i ZeL (i ZdJ (n Zdj (n Zdr (n Zef (n Zes (u 20 .int (i Zgz (n Zn0 (n Zor (u 21 .int (u 22 .int (i (l Zch (a 22)) (i (.f2 50 ZiF Zm8) (n Za9 (n Zbb (n Za8 (n Za2 (n Zbd (n (l Zdb (a 22)) (n (.f2 50 ZiF Zix) (n Zar (n Zan (n Zer (n Zbc (n Za1 (n Zmm (n Zao (n Zm5 (n Zey (n Zaq (n Zns .tt)))))))))))))))))))))))))))))))))))))))))))) (i (.f1 2 (q 19)) (n Zju (n Zak (n Y6 (n Zae (n Zaj (n Zac (n Y9 (n Zau (n ZaY (n Zad (n Y8 .tt))))))))))))))))))) (i Zh6 (n Zju (.and (i Znc (n Zak (n Y6 (n Zae (n Zaj (n Zac (n Y9 (n Zau (n
 ZaY (n Zad (n Y8 .tt))))))))))) (i ZnA (n ZnD (.and (i Zn9 (n Zak (n Y6 (n Zae (n Zaj (n Zac (n Y9 (n Zau (n Znq (n Zad (n Y8 .tt))))))))))) (i Zjt (i Ze1 (i ZeV (i ZeI (i ZeO (i ZeG (i ZeL (i ZdJ (n Zdj (n Zdr (n Zef (n Zes (u 19 .int (i ZeT (n Zn0 (n Zor (u 20 .int (u 21 .int (i (l Zch (a 21)) (i (.f2 50 Zgz Zm8) (n Za9 (n Zbb (n Za8 (n Za2 (n Zbd (n (l Zdb (a 21)) (n (.f2 50 Zgz Zix) (n Zar (n Zan (n Zer (n Zbc (n Za1 (n Zmm (n Zao (n Zm5 (n Zey (n Zaq (n Zns .tt)))))))))))))))))))))))))))))))))))))))))))))))))))))))) (i Zms (.and (i Zjb (u 19 .int (i ZeT (n Zoz (n ZnP (n Znv (n ZmA (u 20 .amap (u 21 .ints (u 22 .rows (u 23 .int (u 24 .int (u 25 .rows (i ZnT (i Znt (i Zno (i ZmI (i Zmt (.and (i Zmz (n Za9 (n Zbb (n Za8 (n Za2 (n Zbd (n Znm (n Zmx (n Zar (n Zan (n Znh (n Zbc (n Za1 (n Zmu (n Zao (n Zmi (n ZnY (n Zaq (n Zov .tt))))))))))))))))))) (u 26 .int (i Zmy (n Zob (i ZfR (i ZfF (i ZfK (i ZfT (i ZfC (i ZfS (i Zgy (i ZgB (i Zgg (n ZnU (.and (i Zjs (i ZfR (i ZfF (i ZfK (i ZfT (i ZfC (i ZfS (i Zgy (i ZgB (i Zgg (n ZnI (n Zmp (n Zol (n Zm6 (u 27 .int (i ZmY (n Zml (n ZnQ (u 28 .int (u 29 .int (i ZmT (i Zoo (n Zgs (n ZmZ (n ZnJ (n Zg4 (n Zng .tt))))))))))))))))))))))))))) (i ZnO (n Zgs (n Zox (n Zg4 (n ZmW .tt)))))))))))))))))))))))))))))))))))))) (i Zm4 (n Za9 (n Zbb (n Za8 (n Za2 (n Zbd (n Zlp (n ZkR (n Zar (n Zan (n Zoa (n Zbc (n Za1 (n Zkh (n Zao (n Zkf (n Zj0 (n Zaq (n Zl4 .tt)))))))))))))))))))))))))))))))))) .tt))))))))))) (i ZgO (.and .tt (i ZgO (.and (i ZpJ (.and .tt (i ZgO (u 19 .int (i ZeT (u 20 .int (i Zgz (n Za9 (n Zbb (n Za8 (n Za2 (n Zbd (n (l Zje (a 12)) (n (.f2 50 ZgC (e Zje z)) (n Zar (n Zan (n (.us .bool 559 Yh Yz Zjo (.f1 154 z)) (n Zbc (n Za1 (n (.f2 155 Zbq (h 557 ZR Zf3 (a 9))) (n Zao (n (.f2 155 ZnM ZdV) (n (.f2 155 (wM0 547 Zjo Zbq) (.f3 142 Zaw Zf3 (a 20))) (n Zaq (n (e Zje Zbx) .tt))))))))))))))))))))))))) (i Zyd (.and (i ZqP (.and (i Zqd (u 19 .int (i ZeT (n Zx4 (n ZyX (u 20 .int (u 21 .int (i Zy5 (i ZsK (n Za9 (n Zbb (n Za8 (n Za2 (n Zbd (n Zlp (n ZkR (n ZtB (n Zs4 (n Zut (n Zbc (n Za1 (n Zkh (n ZuO (n Zkf (n Zj0 (n Zxi (n Zl4 .tt))))))))))))))))))))))))))) (i Zvv (n Zak (n Y6 (n Zae (n Zaj (n Zac (n Y9 (n Zau (n ZaY (n Zad (n Y8 .tt))))))))))))) (i ZnV (.and (i Zeg (.and (i Zeg (n Zak (n Y6 (n Zae (n Zaj (n Zac (n Y9 (n Zau (n ZaY (n Zad (n Y8 .tt))))))))))) .tt)) (i ZnS (.and (i ZgW (n Zak (n Y6 (n Zae (n Zaj (n Zac (n Y9 (n Zau (n ZaY (n Zad (n Y8 .tt))))))))))) (i ZnH (.and (i ZiK (n Zak (n Y6 (n Zae (n Zaj (n Zac (n Y9 (n Zau (n ZaY (n Zad (n Y8 .tt))))))))))) (i Znj (.and (i Ziy (n ZoB (n ZmL (n Znn (n (.f2 50 ZgO Zna) (u 19 .bool (i Zoq (.and (i Znl (n Zkq (.ff 31))) (i (.f1 2 (q 19)) (n Zak (n Y6 (n Zae (n Zaj (n Zac (n Y9 (n Zau (n ZaY (n Zad (n Y8 .tt))))))))))))))))))) (i Zms (.and (i Zjb (u 19 .int (i ZeT (n Zoz (n ZnP (n Znv (n ZmA (u 20 .amap (u 21 .ints (u 22 .rows (u 23 .int (u 24 .int (u 25 .rows (i ZnT (i Znt (i Zno (i ZmI (i Zmt (.and (i Zmz (n Za9 (n Zbb (n Za8 (n Za2 (n Zbd (n Znm (n Zmx (n Zar (n Zan (n Znh (n Zbc (n Za1 (n Zmu (n Zao (n Zmi (n ZnY (n Zaq (n Zov .tt))))))))))))))))))) (u 26 .int (i Zmy (n Zob (i ZfR (i ZfF (i ZfK (i ZfT (i ZfC (i ZfS (i Zgy (i ZgB (i Zgg (n ZnU (.and (i Zjs (i ZfR (i ZfF (i ZfK (i ZfT (i ZfC (i ZfS (i Zgy (i ZgB (i Zgg (n ZnI (n Zmp (n Zol (n Zm6 (u 27 .int (i ZmY (n Zml (n ZnQ (u 28 .int (u 29 .int (i ZmT (i Zoo (n Zgs (n ZmZ (n ZnJ (n Zg4 (n Zng .tt))))))))))))))))))))))))))) (i ZnO (n Zgs (n Zox (n Zg4 (n ZmW .tt)))))))))))))))))))))))))))))))))))))) (i Zm4 (n Za9 (n Zbb (n Za8 (n Za2 (n Zbd (n Zlp (n ZkR (n Zar (n Zan (n Zoa (n Zbc (n Za1 (n Zkh (n Zao (n Zkf (n Zj0 (n Zaq (n Zl4 .tt))))))))))))))))))))))))))))))))))))))))) (i (l (a 2) (a 9)) (n Zak (n Y6 (n Zae (n Zaj (n Zac (n Y9 (n (e (k (-1)) Zzf) (n (e z Zp6) (n Zad (n Y8 .tt))))))))))))))))))))))))))))))))))))))))))))))))))))))))))
theorem ZNc : Yq Tryz.prog ZKq 12 25 ZlZ = ZK0 := by kernel_rfl
theorem ZNd (S : Sig GG) (hS : JtSig S) : Zy S Tryz.prog 55 Zvy := by
 refine Ze S (C := ZLE) (fuel := 12) (ZQ trivial ⟨⟨⟨by decide, Zcr S hS⟩, ⟨by decide, ZcE S hS⟩, trivial⟩, ⟨trivial, trivial, trivial, ⟨by decide, ZzI S hS⟩, trivial, ⟨by decide, ZqB S hS⟩, trivial⟩, trivial⟩ trivial) fun ρ => ?_
 rw [ZL1]
 simp only [ZKR, ZFx, ZBl, ZgH, ZCX, ZGk, ZBx, ZFv, ZIi, ZEv, ZHd, ZvL, Zza, ZyJ, ZzM, ZyY, ZsG, Zzg, Zyw, ZyM, Zic, Zv1, hS.u545, hS.u546, hS.u552, hS.u558, hS.u560, hS.u562, hS.u565, hS.u566, ZI, ZN5, VC.den, SX.den, Env.upd, ZS, ZD, beq_iff_eq, ZNX, beq_eq_false_iff_ne, ne_eq, ZNW, ZNV, Int.reduceToNat, Nat.reduceEqDiff, reduceIte, sB, sC]
 generalize (ρ 3).tR = F
 generalize (ρ 5).tR = R
 generalize (ρ 4).tI = v
 generalize (ρ 1).tI = l
 generalize ZK _ = L
 intro h1 h2 h3 h4 h5 h6 h7 h8 h9
 refine ⟨by omega, by omega, Zr (by rw [List.take_zero]; exact List.not_mem_nil), fun x hx0 hx1 hx2 => ?_⟩
 obtain ⟨n, rfl⟩ := ZNQ hx0
 have e1 : ((n : Int) + 1).toNat = n + 1 := by omega
 simp only [e1, ZN5] at hx2 ⊢
 have hx2 : ¬ [v] ∈ F.take n := fun h => by rw [Zu h] at hx2; cases hx2
 have hv0 : 0 <= v := by
  obtain ⟨k, hk, rfl⟩ := h5
  refine h6.2.2 _ ?_
  rw [ZNY, ZN1 hk, ZNT]; exact ZOl hk
 refine ⟨fun hlt => ?_, fun hge _ _ _ _ _ _ _ _ _ => ⟨?_, trivial⟩⟩
 ·have hn : n < F.length := by omega
  have hgt : F.getD n [] = F[n] := by rw [ZNY, ZN1 hn, ZNT]
  have hm : F.getD n [] ∈ F := by rw [hgt]; exact ZOl hn
  obtain ⟨b, hb, hbl⟩ := h4 _ hm
  have e2 : F.take (n + 1) = F.take n ++ [F.getD n []] := by rw [hgt]; exact (List.take_append_getElem hn).symm
  rw [e2, hb]
  have hb0 : ([b] : List Int).getD 0 0 = b := rfl
  rw [hb0]
  have no : ¬ v = b -> Zn ([v] ∈ F.take n ++ [[b]]) = false := fun hne => Zr fun h => by
   rcases List.mem_append.1 h with h | h
   ·exact hx2 h
   ·rw [ZNR] at h; injection h with h; exact hne h
  refine ⟨fun he => ⟨by omega, by omega, fun _ _ _ _ _ _ _ _ _ => ⟨?_, trivial⟩⟩, fun he => ⟨hbl, by omega, by omega, by omega, by omega, by omega, by omega, no he, trivial⟩⟩
  rw [Zu (by rw [he, <- hb]; exact hm), Za.2 (by omega)]
 ·rw [ZOa (by omega)] at hx2
  rw [Zr hx2]
set_option maxRecDepth 100000 in
set_option maxHeartbeats 4000000 in
theorem ZyT (S : Sig GG) (hS : JtSig S) : Zy S Tryz.prog 25 ZlZ := by
 refine Ze S (C := ZKq) (fuel := 12) (ZQ ⟨Zg (by decide) (ZKF S hS.jb), Zg (by decide) (ZJS S hS), ZCL (by decide) (ZNd S hS) (by decide) (ZJT S hS), trivial⟩ ⟨⟨⟨by decide, ZkW S⟩, ⟨by decide, ZkW S⟩, ⟨by decide, ZD4 S⟩, ⟨by decide, ZKM S hS⟩, trivial, ⟨by decide, ZDM S hS⟩, trivial, trivial, ⟨by decide, Zl5 S hS⟩, trivial, ⟨by decide, Zcr S hS⟩, ⟨by decide, ZJR S hS⟩, ⟨by decide, ZkW S⟩, ⟨by decide, ZkW S⟩, ⟨by decide, Zl5 S hS⟩, ⟨by decide, Zj2 S hS⟩, ⟨by decide, Zl5 S hS⟩, ⟨by decide, Zj2 S hS⟩, ⟨by decide, Zl5 S hS⟩, ⟨by decide, Zj2 S hS⟩, trivial, ⟨by decide, ZcE S hS⟩, trivial, ⟨by decide, Zcr S hS⟩, ⟨by decide, Zl5 S hS⟩, ⟨by decide, Zj2 S hS⟩, ⟨by decide, ZkW S⟩, trivial, ⟨by decide, ZcE S hS⟩, ⟨by decide, Zcr S hS⟩, ⟨by decide, ZcE S hS⟩, ⟨by decide, Zj2 S hS⟩, trivial, ⟨by decide, ZD9 S hS⟩, trivial, ⟨by decide, ZD9 S hS⟩, trivial, ⟨by decide, ZKv S hS⟩, trivial⟩, trivial⟩ trivial) fun ρ => ?_
 rw [ZNc]
 simp only [ZK0, Yh, ZCU, ZFy, ZFb, ZEZ, ZI6, ZE7, ZHf, ZHY, ZHx, ZdV, Zbx, ZgC, Zkz, Zd1, Zzu, ZR, Zaw, Zf3, Zcn, Zkq, Z6, Zpt, Zur, ZhI, Zhr, ZvI, Ze1, Zif, Zhy, ZvG, ZeV, Zvl, ZeI, ZA8, ZeO, Zpv, ZeG, ZeL, ZdJ, Zd3, ZpJ, ZhD, Zak, Y6, Zae, Zaj, Zac, Y9, Zzf, Zau, Zp6, ZaY, Zad, Y8, Zyd, ZqP, Zqd, ZeT, Zx4, Zks, ZyX, Zy5, Zgz, ZsK, Yz, Za9, ZvC, Zbb, Za8, Za2, Zbd, ZvD, Zo4, Zlp, ZkR, ZoG, ZhJ, ZtB, Zu0, Zs4, Zut, Zbc, Za1, Zbq, Zkh, Zwf, Zym, ZzP, Zo8, ZuO, Zkf, Zj0, Zxi, Zl4, Zvv, Zy8, ZgF, Zh6, Zg1, Znp, Zgf, Znd, Zgb, ZiF, Zne, Zdj, Znz, Zdr, ZjE, ZmF, ZiZ, Zar, Zan, Zm7, Zoc, Zao, Zaq, ZnV, Zeg, Zef, Zes, Zi3, Zja, Zdb, ZiG, Zix, Zjz, Zer, ZgW, ZmK, Zjg, Zey, ZjO, ZnS, ZnH, ZiK, ZfI, Znj, Ziy, Zna, Zap, Zot, Zof, ZnR, ZoB, ZmL, Znn, Zoq, Znl, Zju, ZmE, Znc, ZnA, Zch, ZnD, Zjt, Zn9, Znq, Zn0, Zor, Zm8, Zmm, Zm5, Zns, Zms, Zjb, Zoz, ZnP, Znv, ZmA, ZnT, Znt, Zno, ZmI, Zmt, Zmz, Zni, ZjB, Znm, Zmx, Znh, Zat, Zmu, Zmi, ZnY, Zov, Zmy, Zel, Zob, Z8, ZnG, ZfR, Zom, ZfF, ZmD, ZgI, Zos, ZfK, Zmk, Zg3, Zm1, ZfT, Zny, ZfC, ZnK, ZfS, Znu, Zgy, ZgB, Zgg, ZnU, Zjs, ZnZ, ZnI, Znb, Zmp, Zol, Zm6, ZmY, Zml, ZjL, ZnQ, ZmT, Zoo, Zed, Zgs, ZmZ, ZnJ, Zg4, ZmB, Zng, ZnO, Zox, ZmW, Zm4, Zoa, ZgO, Zjo, ZnM, Zje, hS.jb.rf.u511, hS.jb.rf.u523, hS.u540, hS.u541, hS.u542, hS.u543, hS.u544, hS.u545, hS.u546, hS.u547, hS.u548, hS.u549, hS.u550, hS.u551, hS.u552, hS.u553, hS.u554, hS.u555, hS.u556, hS.u557, hS.u558, hS.u559, hS.u560, hS.u561, hS.u562, hS.u563, hS.u564, hS.u565, hS.u566, hS.u568, hS.u569, hS.u570, hS.u571, ZI, ZN5, VC.den, SX.den, Env.upd, ZS, ZD, beq_iff_eq, ZNX, beq_eq_false_iff_ne, ne_eq, ZNW, ZNV, Int.reduceToNat, Nat.reduceEqDiff, reduceIte, sB, sC]
 generalize hX : (ρ 4).tR.take (ρ 2).tI.toNat = X
 intro h1
 intro h2
 intro h3
 intro h4
 have hlX : X.length = (ρ 2).tI.toNat := by rw [<- hX, ZN0]; omega
 refine ⟨?_, ?_⟩
 ·skip
  intro h6
  refine ⟨?_, ?_⟩
  ·unfold Zb5; rw [if_pos (by omega)]
  trivial
 ·skip
  intro h10
  intro v11
  intro h12
  refine ⟨?_, ?_⟩
  ·skip
   intro h14
   refine ⟨?_, ?_⟩
   ·have hq : Zi8 X X.length = false := by
     rw [<- hX, Zq2 (by omega)]; rw [h14] at h12; cases hc : Zi8 (ρ 4).tR (ρ 2).tI.toNat
     ·rfl
     ·rw [hc] at h12; cases h12
    unfold Zb5; rw [if_neg (by omega), hq]; rfl
   trivial
  ·skip
   intro h18
   have hck : Zb5 X = 0 := by
    have hq : Zi8 X X.length = true := by
     rw [<- hX, Zq2 (by omega)]; rw [h18] at h12; cases hc : Zi8 (ρ 4).tR (ρ 2).tI.toNat
     ·rw [hc] at h12; cases h12
     ·rfl
    unfold Zb5; rw [if_neg (by omega), hq]; rfl
   intro v19
   intro h20
   intro v21
   intro h22
   refine ⟨?_, ?_⟩
   ·show ((0 : Nat) : Int) <= 0; omega
   refine ⟨?_, ?_⟩
   ·exact .inr rfl
   refine ⟨?_, ?_⟩
   ·show ((0 : Nat) : Int) <= 0; omega
   refine ⟨?_, ?_⟩
   ·exact .inr rfl
   refine ⟨?_, ?_⟩
   ·exact List.Perm.nil
   refine ⟨?_, ?_⟩
   ·first | omega | trivial | (with_reducible assumption)
   refine ⟨?_, ?_⟩
   ·first | omega | trivial | (with_reducible assumption)
   refine ⟨?_, ?_⟩
   ·first | omega | trivial | (with_reducible assumption)
   refine ⟨?_, ?_⟩
   ·first | omega | trivial | (with_reducible assumption)
   refine ⟨?_, ?_⟩
   ·first | omega | trivial | (with_reducible assumption)
   refine ⟨?_, ?_⟩
   ·first | omega | trivial | (with_reducible assumption)
   refine ⟨?_, ?_⟩
   ·first | omega | trivial | (with_reducible assumption)
   refine ⟨?_, ?_⟩
   ·first | omega | trivial | (with_reducible assumption)
   intro v36
   intro v37
   intro v38
   intro v39
   intro v40
   intro v41
   intro v42
   intro v43
   intro v44
   intro h45
   intro h46
   intro h47
   intro h48
   intro h49
   intro h50
   intro h51
   intro h52
   intro h53
   intro h54
   intro h55
   obtain ⟨n, rfl⟩ := ZNQ h45
   have e1 : ((n : Int) + 1).toNat = n + 1 := by omega
   simp only [e1, ZN5] at h47 h48 h49 h50 h53 h54 h55 ⊢
   obtain ⟨B, hB⟩ : ∃ B, Z4 X n = B := ⟨_, rfl⟩
   have hw := ZhW X n
   simp only [hB] at h47 h48 h49 h50 h53 h54 h55 hw ⊢
   refine ⟨?_, ?_⟩
   ·skip
    intro h57
    intro h58
    have hnX : n < X.length := by omega
    have he : (ρ 4).tR.getD n [] = xa X n := by rw [<- hX]; exact (ZaZ (by omega)).symm
    have hsu := ZlG (x := X) (n := n) (by rw [hB]; exact h54)
    rw [hB] at hsu
    have htold := fun w => ZHl (w := w) hB h54 hnX
    obtain ⟨x, hx⟩ : ∃ x, xa X n = x := ⟨_, rfl⟩
    simp only [he, hx] at hsu htold ⊢
    obtain ⟨J, hJ⟩ : ∃ J, ixL (x.getD 1 0) B.txs = J := ⟨_, rfl⟩
    have hj : ixL (xw x) B.txs = J := hJ
    have hA := ZbF (w := x.getD 1 0) h58.1 (-1)
    simp only [hJ, Zct] at hA ⊢
    have hol := hw.ol
    have hkl := hw.kl
    have hlt := hw.lt
    have hfl := hw.fl
    have hlr : ∀ (R : List (List Int)) ks, (Zbh R ks).length = ks.length := fun R ks => by unfold Zbh; rw [ZN8]
    have hFl : v44.length = B.fal.length := by have := h53.length_eq; rw [hlr] at this; exact this
    simp only [hlr] at h47 h48 ⊢
    have hfi : ∀ k ∈ B.fal, k < v37.length := fun k hk => by have := hw.fi k hk; have := h58.1; omega
    have h560 : ∀ r ∈ v44, ∃ b', r = [b'] /\ Zn4 v37 b' := fun r hr => Zlw hfi r (h53.mem_iff.1 hr)
    refine ⟨?_, ?_⟩
    ·first | omega | trivial | (with_reducible assumption)
    intro v60
    intro h61
    refine ⟨?_, ?_⟩
    ·skip
     intro h63
     have hJl : J < B.txs.length := by
      rcases ZNS J B.txs.length with q | q
      ·exact q
      ·rw [hA.1, if_neg (by omega)] at h63; omega
     have hT := hA.1
     rw [if_pos hJl] at hT
     have hJR : J < v37.length := by have := h58.1; omega
     have hrI := ZaL h58.2.1 hJR
     simp only [hT, hrI, Zct, ZN5] at h63 ⊢
     refine ⟨?_, ?_⟩
     ·first | omega | trivial | (with_reducible assumption)
     refine ⟨?_, ?_⟩
     ·first | omega | trivial | (with_reducible assumption)
     intro h66
     intro h67
     intro h68
     intro h69
     intro h70
     intro h71
     intro h72
     refine ⟨?_, ?_⟩
     ·skip
      intro h74
      refine ⟨?_, ?_⟩
      ·first | omega | trivial | (with_reducible assumption)
      refine ⟨?_, ?_⟩
      ·skip
       intro h77
       refine ⟨?_, ?_⟩
       ·skip
        intro h79
        have hF := htold 1 (st1a hj h77 hJl)
        refine ⟨?_, ?_⟩
        ·first | (with_reducible rfl) | (with_reducible exact hck.symm) | (rw [hF]; done) | (rw [hF]; with_reducible exact h54.symm) | (rw [hF]; with_reducible exact h55.symm) | (rw [hF]; rfl) | (rw [Za.2 h22]; rfl) | trivial
        refine ⟨?_, ?_⟩
        ·first | (with_reducible rfl) | (with_reducible exact hck.symm) | (rw [hF]; done) | (rw [hF]; with_reducible exact h54.symm) | (rw [hF]; with_reducible exact h55.symm) | (rw [hF]; rfl) | (rw [Za.2 h22]; rfl) | trivial
        refine ⟨?_, ?_⟩
        ·first | (with_reducible rfl) | (with_reducible exact hck.symm) | (rw [hF]; done) | (rw [hF]; with_reducible exact h54.symm) | (rw [hF]; with_reducible exact h55.symm) | (rw [hF]; rfl) | (rw [Za.2 h22]; rfl) | trivial
        refine ⟨?_, ?_⟩
        ·first | (with_reducible rfl) | (with_reducible exact hck.symm) | (rw [hF]; done) | (rw [hF]; with_reducible exact h54.symm) | (rw [hF]; with_reducible exact h55.symm) | (rw [hF]; rfl) | (rw [Za.2 h22]; rfl) | trivial
        refine ⟨?_, ?_⟩
        ·first | (with_reducible rfl) | (with_reducible exact hck.symm) | (rw [hF]; done) | (rw [hF]; with_reducible exact h54.symm) | (rw [hF]; with_reducible exact h55.symm) | (rw [hF]; rfl) | (rw [Za.2 h22]; rfl) | trivial
        refine ⟨?_, ?_⟩
        ·first | (with_reducible rfl) | (with_reducible exact hck.symm) | (rw [hF]; done) | (rw [hF]; with_reducible exact h54.symm) | (rw [hF]; with_reducible exact h55.symm) | (rw [hF]; rfl) | (rw [Za.2 h22]; rfl) | trivial
        refine ⟨?_, ?_⟩
        ·first | (with_reducible rfl) | (with_reducible exact hck.symm) | (rw [hF]; done) | (rw [hF]; with_reducible exact h54.symm) | (rw [hF]; with_reducible exact h55.symm) | (rw [hF]; rfl) | (rw [Za.2 h22]; rfl) | trivial
        refine ⟨?_, ?_⟩
        ·first | (with_reducible rfl) | (with_reducible exact hck.symm) | (rw [hF]; done) | (rw [hF]; with_reducible exact h54.symm) | (rw [hF]; with_reducible exact h55.symm) | (rw [hF]; rfl) | (rw [Za.2 h22]; rfl) | trivial
        refine ⟨?_, ?_⟩
        ·first | (with_reducible rfl) | (with_reducible exact hck.symm) | (rw [hF]; done) | (rw [hF]; with_reducible exact h54.symm) | (rw [hF]; with_reducible exact h55.symm) | (rw [hF]; rfl) | (rw [Za.2 h22]; rfl) | trivial
        refine ⟨?_, ?_⟩
        ·first | (with_reducible rfl) | (with_reducible exact hck.symm) | (rw [hF]; done) | (rw [hF]; with_reducible exact h54.symm) | (rw [hF]; with_reducible exact h55.symm) | (rw [hF]; rfl) | (rw [Za.2 h22]; rfl) | trivial
        trivial
       ·skip
        trivial
      ·skip
       intro h94
       refine ⟨?_, ?_⟩
       ·skip
        intro h96
        refine ⟨?_, ?_⟩
        ·skip
         intro h98
         have hst := hsu.trans (st2a hj h96 h98)
         intro v99
         intro h100
         refine ⟨?_, ?_⟩
         ·first | omega | trivial | (with_reducible assumption)
         refine ⟨?_, ?_⟩
         ·first | omega | trivial | (with_reducible assumption)
         intro v103
         intro v104
         intro h105
         intro h106
         refine ⟨?_, ?_⟩
         ·omega
         refine ⟨?_, ?_⟩
         ·omega
         refine ⟨?_, ?_⟩
         ·omega
         refine ⟨?_, ?_⟩
         ·omega
         refine ⟨?_, ?_⟩
         ·omega
         refine ⟨?_, ?_⟩
         ·first | (simp only [hst, hlr, ZN3, ZNM]; first | omega | assumption | done) | (simp only [hst, hlr, ZN3, ZNM]; done)
         refine ⟨?_, ?_⟩
         ·first | (simp only [hst, hlr, ZN3, ZNM]; first | omega | assumption | done) | (simp only [hst, hlr, ZN3, ZNM]; done)
         refine ⟨?_, ?_⟩
         ·first | (simp only [hst, hlr, ZN3, ZNM]; first | omega | assumption | done) | (simp only [hst, hlr, ZN3, ZNM]; done)
         refine ⟨?_, ?_⟩
         ·first | (simp only [hst, hlr, ZN3, ZNM]; first | omega | assumption | done) | (simp only [hst, hlr, ZN3, ZNM]; done)
         refine ⟨?_, ?_⟩
         ·first | (rw [hst]; exact List.Perm.nil)
         refine ⟨?_, ?_⟩
         ·first | (rw [hst]; exact h54)
         refine ⟨?_, ?_⟩
         ·first | (rw [hst]; exact h55)
         refine ⟨?_, ?_⟩
         ·first | (rw [hst]; done) | (rw [hst]; rfl)
         refine ⟨?_, ?_⟩
         ·first | (rw [hst]; done) | (rw [hst]; rfl)
         refine ⟨?_, ?_⟩
         ·first | (rw [hst]; done) | (rw [hst]; rfl)
         refine ⟨?_, ?_⟩
         ·first | (rw [hst, Y5 hJR hJl hwho]; done) | (rw [hst]; done)
         refine ⟨?_, ?_⟩
         ·first | (simp only [hst, hlr, ZN3, ZNM]; first | omega | assumption | done) | (simp only [hst, hlr, ZN3, ZNM]; done)
         refine ⟨?_, ?_⟩
         ·first | (simp only [hst, hlr, ZN3, ZNM]; first | omega | assumption | done) | (simp only [hst, hlr, ZN3, ZNM]; done)
         trivial
        ·skip
         intro h127
         refine ⟨?_, ?_⟩
         ·skip
          intro h129
          have hF := htold 1 (st2c hj h96 h127 (fun _ => h129))
          refine ⟨?_, ?_⟩
          ·first | (with_reducible rfl) | (with_reducible exact hck.symm) | (rw [hF]; done) | (rw [hF]; with_reducible exact h54.symm) | (rw [hF]; with_reducible exact h55.symm) | (rw [hF]; rfl) | (rw [Za.2 h22]; rfl) | trivial
          refine ⟨?_, ?_⟩
          ·first | (with_reducible rfl) | (with_reducible exact hck.symm) | (rw [hF]; done) | (rw [hF]; with_reducible exact h54.symm) | (rw [hF]; with_reducible exact h55.symm) | (rw [hF]; rfl) | (rw [Za.2 h22]; rfl) | trivial
          refine ⟨?_, ?_⟩
          ·first | (with_reducible rfl) | (with_reducible exact hck.symm) | (rw [hF]; done) | (rw [hF]; with_reducible exact h54.symm) | (rw [hF]; with_reducible exact h55.symm) | (rw [hF]; rfl) | (rw [Za.2 h22]; rfl) | trivial
          refine ⟨?_, ?_⟩
          ·first | (with_reducible rfl) | (with_reducible exact hck.symm) | (rw [hF]; done) | (rw [hF]; with_reducible exact h54.symm) | (rw [hF]; with_reducible exact h55.symm) | (rw [hF]; rfl) | (rw [Za.2 h22]; rfl) | trivial
          refine ⟨?_, ?_⟩
          ·first | (with_reducible rfl) | (with_reducible exact hck.symm) | (rw [hF]; done) | (rw [hF]; with_reducible exact h54.symm) | (rw [hF]; with_reducible exact h55.symm) | (rw [hF]; rfl) | (rw [Za.2 h22]; rfl) | trivial
          refine ⟨?_, ?_⟩
          ·first | (with_reducible rfl) | (with_reducible exact hck.symm) | (rw [hF]; done) | (rw [hF]; with_reducible exact h54.symm) | (rw [hF]; with_reducible exact h55.symm) | (rw [hF]; rfl) | (rw [Za.2 h22]; rfl) | trivial
          refine ⟨?_, ?_⟩
          ·first | (with_reducible rfl) | (with_reducible exact hck.symm) | (rw [hF]; done) | (rw [hF]; with_reducible exact h54.symm) | (rw [hF]; with_reducible exact h55.symm) | (rw [hF]; rfl) | (rw [Za.2 h22]; rfl) | trivial
          refine ⟨?_, ?_⟩
          ·first | (with_reducible rfl) | (with_reducible exact hck.symm) | (rw [hF]; done) | (rw [hF]; with_reducible exact h54.symm) | (rw [hF]; with_reducible exact h55.symm) | (rw [hF]; rfl) | (rw [Za.2 h22]; rfl) | trivial
          refine ⟨?_, ?_⟩
          ·first | (with_reducible rfl) | (with_reducible exact hck.symm) | (rw [hF]; done) | (rw [hF]; with_reducible exact h54.symm) | (rw [hF]; with_reducible exact h55.symm) | (rw [hF]; rfl) | (rw [Za.2 h22]; rfl) | trivial
          refine ⟨?_, ?_⟩
          ·first | (with_reducible rfl) | (with_reducible exact hck.symm) | (rw [hF]; done) | (rw [hF]; with_reducible exact h54.symm) | (rw [hF]; with_reducible exact h55.symm) | (rw [hF]; rfl) | (rw [Za.2 h22]; rfl) | trivial
          trivial
         ·skip
          intro h142
          have hst := hsu.trans (st2b hj h96 h127 hJl h142)
          have hwho := (ZAi (B.txs.getD J tx0) n x).2.2
          intro h143
          intro h144
          intro h145
          intro h146
          intro h147
          intro h148
          intro h149
          refine ⟨?_, ?_⟩
          ·have := hw.at hJl; omega
          refine ⟨?_, ?_⟩
          ·have := hw.at hJl; omega
          intro v152
          intro v153
          intro v154
          intro v155
          intro h156
          intro h157
          intro h158
          intro h159
          refine ⟨?_, ?_⟩
          ·first | omega | trivial | (with_reducible assumption)
          refine ⟨?_, ?_⟩
          ·first | omega | trivial | (with_reducible assumption)
          refine ⟨?_, ?_⟩
          ·first | omega | trivial | (with_reducible assumption)
          refine ⟨?_, ?_⟩
          ·first | omega | trivial | (with_reducible assumption)
          refine ⟨?_, ?_⟩
          ·omega
          refine ⟨?_, ?_⟩
          ·omega
          refine ⟨?_, ?_⟩
          ·omega
          refine ⟨?_, ?_⟩
          ·omega
          refine ⟨?_, ?_⟩
          ·omega
          refine ⟨?_, ?_⟩
          ·first | (simp only [hst, Zk hJR, hlr, ZN3, ZNM]; first | omega | assumption | done) | (simp only [hst, Zk hJR, hlr, ZN3, ZNM]; done)
          refine ⟨?_, ?_⟩
          ·first | (simp only [hst, Zk hJR, hlr, ZN3, ZNM]; first | omega | assumption | done) | (simp only [hst, Zk hJR, hlr, ZN3, ZNM]; done)
          refine ⟨?_, ?_⟩
          ·first | (simp only [hst, hlr, ZN3, ZNM]; first | omega | assumption | done) | (simp only [hst, hlr, ZN3, ZNM]; done)
          refine ⟨?_, ?_⟩
          ·first | (simp only [hst, hlr, ZN3, ZNM]; first | omega | assumption | done) | (simp only [hst, hlr, ZN3, ZNM]; done)
          refine ⟨?_, ?_⟩
          ·first | (rw [hst]; exact List.Perm.nil)
          refine ⟨?_, ?_⟩
          ·first | (rw [hst]; exact h54)
          refine ⟨?_, ?_⟩
          ·first | (rw [hst]; exact h55)
          refine ⟨?_, ?_⟩
          ·rw [hst, Ze6 hJl]; exact congrArg (fun q => U.g (GG.tx (B.txs.set J q))) (rd_eq (B.txs.getD J tx0) n x).symm
          refine ⟨?_, ?_⟩
          ·first | (rw [hst]; done) | (rw [hst]; rfl)
          refine ⟨?_, ?_⟩
          ·first | (rw [hst, Zk hJR]; done) | (rw [hst, Zk hJR]; rfl)
          refine ⟨?_, ?_⟩
          ·first | (rw [hst, Y5 hJR hJl hwho]; done) | (rw [hst]; done)
          refine ⟨?_, ?_⟩
          ·first | (simp only [hst, hlr, ZN3, ZNM]; first | omega | assumption | done) | (simp only [hst, hlr, ZN3, ZNM]; done)
          refine ⟨?_, ?_⟩
          ·first | (simp only [hst, Zk hJR, hlr, ZN3, ZNM]; first | omega | assumption | done) | (simp only [hst, Zk hJR, hlr, ZN3, ZNM]; done)
          trivial
       ·skip
        intro h184
        refine ⟨?_, ?_⟩
        ·skip
         intro h186
         refine ⟨?_, ?_⟩
         ·skip
          intro h188
          refine ⟨?_, ?_⟩
          ·skip
           intro h190
           have hF := htold 1 (ZMQ hj (.inl h186) (fun _ => h190))
           refine ⟨?_, ?_⟩
           ·first | (with_reducible rfl) | (with_reducible exact hck.symm) | (rw [hF]; done) | (rw [hF]; with_reducible exact h54.symm) | (rw [hF]; with_reducible exact h55.symm) | (rw [hF]; rfl) | (rw [Za.2 h22]; rfl) | trivial
           refine ⟨?_, ?_⟩
           ·first | (with_reducible rfl) | (with_reducible exact hck.symm) | (rw [hF]; done) | (rw [hF]; with_reducible exact h54.symm) | (rw [hF]; with_reducible exact h55.symm) | (rw [hF]; rfl) | (rw [Za.2 h22]; rfl) | trivial
           refine ⟨?_, ?_⟩
           ·first | (with_reducible rfl) | (with_reducible exact hck.symm) | (rw [hF]; done) | (rw [hF]; with_reducible exact h54.symm) | (rw [hF]; with_reducible exact h55.symm) | (rw [hF]; rfl) | (rw [Za.2 h22]; rfl) | trivial
           refine ⟨?_, ?_⟩
           ·first | (with_reducible rfl) | (with_reducible exact hck.symm) | (rw [hF]; done) | (rw [hF]; with_reducible exact h54.symm) | (rw [hF]; with_reducible exact h55.symm) | (rw [hF]; rfl) | (rw [Za.2 h22]; rfl) | trivial
           refine ⟨?_, ?_⟩
           ·first | (with_reducible rfl) | (with_reducible exact hck.symm) | (rw [hF]; done) | (rw [hF]; with_reducible exact h54.symm) | (rw [hF]; with_reducible exact h55.symm) | (rw [hF]; rfl) | (rw [Za.2 h22]; rfl) | trivial
           refine ⟨?_, ?_⟩
           ·first | (with_reducible rfl) | (with_reducible exact hck.symm) | (rw [hF]; done) | (rw [hF]; with_reducible exact h54.symm) | (rw [hF]; with_reducible exact h55.symm) | (rw [hF]; rfl) | (rw [Za.2 h22]; rfl) | trivial
           refine ⟨?_, ?_⟩
           ·first | (with_reducible rfl) | (with_reducible exact hck.symm) | (rw [hF]; done) | (rw [hF]; with_reducible exact h54.symm) | (rw [hF]; with_reducible exact h55.symm) | (rw [hF]; rfl) | (rw [Za.2 h22]; rfl) | trivial
           refine ⟨?_, ?_⟩
           ·first | (with_reducible rfl) | (with_reducible exact hck.symm) | (rw [hF]; done) | (rw [hF]; with_reducible exact h54.symm) | (rw [hF]; with_reducible exact h55.symm) | (rw [hF]; rfl) | (rw [Za.2 h22]; rfl) | trivial
           refine ⟨?_, ?_⟩
           ·first | (with_reducible rfl) | (with_reducible exact hck.symm) | (rw [hF]; done) | (rw [hF]; with_reducible exact h54.symm) | (rw [hF]; with_reducible exact h55.symm) | (rw [hF]; rfl) | (rw [Za.2 h22]; rfl) | trivial
           refine ⟨?_, ?_⟩
           ·first | (with_reducible rfl) | (with_reducible exact hck.symm) | (rw [hF]; done) | (rw [hF]; with_reducible exact h54.symm) | (rw [hF]; with_reducible exact h55.symm) | (rw [hF]; rfl) | (rw [Za.2 h22]; rfl) | trivial
           trivial
          ·skip
           intro h203
           have hst := hsu.trans (st3a hj (.inl h186) hJl h203)
           have hwho : ({ B.txs.getD J tx0 with ch := Yw (B.txs.getD J tx0).ch (kc x) ((Zs (ZaB x) : Nat) * 2 + b01 (xk x == 4)) } : Tx).who = (B.txs.getD J tx0).who := rfl
           have hxx := h203
           intro h204
           intro h205
           intro h206
           intro h207
           intro h208
           intro h209
           intro h210
           refine ⟨?_, ?_⟩
           ·first | omega | trivial | (with_reducible assumption)
           refine ⟨?_, ?_⟩
           ·first | omega | trivial | (with_reducible assumption)
           refine ⟨?_, ?_⟩
           ·first | omega | trivial | (with_reducible assumption)
           refine ⟨?_, ?_⟩
           ·first | omega | trivial | (with_reducible assumption)
           refine ⟨?_, ?_⟩
           ·omega
           refine ⟨?_, ?_⟩
           ·omega
           refine ⟨?_, ?_⟩
           ·omega
           refine ⟨?_, ?_⟩
           ·omega
           refine ⟨?_, ?_⟩
           ·omega
           refine ⟨?_, ?_⟩
           ·first | (simp only [hst, Zk hJR, hlr, ZN3, ZNM]; first | omega | assumption | done) | (simp only [hst, Zk hJR, hlr, ZN3, ZNM]; done)
           refine ⟨?_, ?_⟩
           ·first | (simp only [hst, Zk hJR, hlr, ZN3, ZNM]; first | omega | assumption | done) | (simp only [hst, Zk hJR, hlr, ZN3, ZNM]; done)
           refine ⟨?_, ?_⟩
           ·first | (simp only [hst, hlr, ZN3, ZNM]; first | omega | assumption | done) | (simp only [hst, hlr, ZN3, ZNM]; done)
           refine ⟨?_, ?_⟩
           ·first | (simp only [hst, hlr, ZN3, ZNM]; first | omega | assumption | done) | (simp only [hst, hlr, ZN3, ZNM]; done)
           refine ⟨?_, ?_⟩
           ·first | (rw [hst, Zk hJR]; exact h53)
           refine ⟨?_, ?_⟩
           ·first | (rw [hst]; exact h54)
           refine ⟨?_, ?_⟩
           ·first | (rw [hst]; exact h55)
           refine ⟨?_, ?_⟩
           ·rw [hst, Ze6 hJl]; exact congrArg (fun q => U.g (GG.tx (B.txs.set J q))) (ZKf (B.txs.getD J tx0) _).symm
           refine ⟨?_, ?_⟩
           ·first | (rw [hst]; done) | (rw [hst]; rfl)
           refine ⟨?_, ?_⟩
           ·first | (rw [hst, Zk hJR]; done) | (rw [hst, Zk hJR]; rfl)
           refine ⟨?_, ?_⟩
           ·first | (rw [hst, Y5 hJR hJl hwho]; done) | (rw [hst]; done)
           refine ⟨?_, ?_⟩
           ·first | (simp only [hst, hlr, ZN3, ZNM]; first | omega | assumption | done) | (simp only [hst, hlr, ZN3, ZNM]; done)
           refine ⟨?_, ?_⟩
           ·first | (simp only [hst, Zk hJR, hlr, ZN3, ZNM]; first | omega | assumption | done) | (simp only [hst, Zk hJR, hlr, ZN3, ZNM]; done)
           trivial
         ·skip
          trivial
        ·skip
         intro h237
         refine ⟨?_, ?_⟩
         ·skip
          intro h239
          refine ⟨?_, ?_⟩
          ·skip
           intro h241
           have hF := htold 1 (ZMQ hj (.inr h239) (fun _ => h241))
           refine ⟨?_, ?_⟩
           ·first | (with_reducible rfl) | (with_reducible exact hck.symm) | (rw [hF]; done) | (rw [hF]; with_reducible exact h54.symm) | (rw [hF]; with_reducible exact h55.symm) | (rw [hF]; rfl) | (rw [Za.2 h22]; rfl) | trivial
           refine ⟨?_, ?_⟩
           ·first | (with_reducible rfl) | (with_reducible exact hck.symm) | (rw [hF]; done) | (rw [hF]; with_reducible exact h54.symm) | (rw [hF]; with_reducible exact h55.symm) | (rw [hF]; rfl) | (rw [Za.2 h22]; rfl) | trivial
           refine ⟨?_, ?_⟩
           ·first | (with_reducible rfl) | (with_reducible exact hck.symm) | (rw [hF]; done) | (rw [hF]; with_reducible exact h54.symm) | (rw [hF]; with_reducible exact h55.symm) | (rw [hF]; rfl) | (rw [Za.2 h22]; rfl) | trivial
           refine ⟨?_, ?_⟩
           ·first | (with_reducible rfl) | (with_reducible exact hck.symm) | (rw [hF]; done) | (rw [hF]; with_reducible exact h54.symm) | (rw [hF]; with_reducible exact h55.symm) | (rw [hF]; rfl) | (rw [Za.2 h22]; rfl) | trivial
           refine ⟨?_, ?_⟩
           ·first | (with_reducible rfl) | (with_reducible exact hck.symm) | (rw [hF]; done) | (rw [hF]; with_reducible exact h54.symm) | (rw [hF]; with_reducible exact h55.symm) | (rw [hF]; rfl) | (rw [Za.2 h22]; rfl) | trivial
           refine ⟨?_, ?_⟩
           ·first | (with_reducible rfl) | (with_reducible exact hck.symm) | (rw [hF]; done) | (rw [hF]; with_reducible exact h54.symm) | (rw [hF]; with_reducible exact h55.symm) | (rw [hF]; rfl) | (rw [Za.2 h22]; rfl) | trivial
           refine ⟨?_, ?_⟩
           ·first | (with_reducible rfl) | (with_reducible exact hck.symm) | (rw [hF]; done) | (rw [hF]; with_reducible exact h54.symm) | (rw [hF]; with_reducible exact h55.symm) | (rw [hF]; rfl) | (rw [Za.2 h22]; rfl) | trivial
           refine ⟨?_, ?_⟩
           ·first | (with_reducible rfl) | (with_reducible exact hck.symm) | (rw [hF]; done) | (rw [hF]; with_reducible exact h54.symm) | (rw [hF]; with_reducible exact h55.symm) | (rw [hF]; rfl) | (rw [Za.2 h22]; rfl) | trivial
           refine ⟨?_, ?_⟩
           ·first | (with_reducible rfl) | (with_reducible exact hck.symm) | (rw [hF]; done) | (rw [hF]; with_reducible exact h54.symm) | (rw [hF]; with_reducible exact h55.symm) | (rw [hF]; rfl) | (rw [Za.2 h22]; rfl) | trivial
           refine ⟨?_, ?_⟩
           ·first | (with_reducible rfl) | (with_reducible exact hck.symm) | (rw [hF]; done) | (rw [hF]; with_reducible exact h54.symm) | (rw [hF]; with_reducible exact h55.symm) | (rw [hF]; rfl) | (rw [Za.2 h22]; rfl) | trivial
           trivial
          ·skip
           intro h254
           have hst := hsu.trans (st3a hj (.inr h239) hJl h254)
           have hwho : ({ B.txs.getD J tx0 with ch := Yw (B.txs.getD J tx0).ch (kc x) ((Zs (ZaB x) : Nat) * 2 + b01 (xk x == 4)) } : Tx).who = (B.txs.getD J tx0).who := rfl
           have hxx := h254
           intro h255
           intro h256
           intro h257
           intro h258
           intro h259
           intro h260
           intro h261
           refine ⟨?_, ?_⟩
           ·first | omega | trivial | (with_reducible assumption)
           refine ⟨?_, ?_⟩
           ·first | omega | trivial | (with_reducible assumption)
           refine ⟨?_, ?_⟩
           ·first | omega | trivial | (with_reducible assumption)
           refine ⟨?_, ?_⟩
           ·first | omega | trivial | (with_reducible assumption)
           refine ⟨?_, ?_⟩
           ·omega
           refine ⟨?_, ?_⟩
           ·omega
           refine ⟨?_, ?_⟩
           ·omega
           refine ⟨?_, ?_⟩
           ·omega
           refine ⟨?_, ?_⟩
           ·omega
           refine ⟨?_, ?_⟩
           ·first | (simp only [hst, Zk hJR, hlr, ZN3, ZNM]; first | omega | assumption | done) | (simp only [hst, Zk hJR, hlr, ZN3, ZNM]; done)
           refine ⟨?_, ?_⟩
           ·first | (simp only [hst, Zk hJR, hlr, ZN3, ZNM]; first | omega | assumption | done) | (simp only [hst, Zk hJR, hlr, ZN3, ZNM]; done)
           refine ⟨?_, ?_⟩
           ·first | (simp only [hst, hlr, ZN3, ZNM]; first | omega | assumption | done) | (simp only [hst, hlr, ZN3, ZNM]; done)
           refine ⟨?_, ?_⟩
           ·first | (simp only [hst, hlr, ZN3, ZNM]; first | omega | assumption | done) | (simp only [hst, hlr, ZN3, ZNM]; done)
           refine ⟨?_, ?_⟩
           ·first | (rw [hst, Zk hJR]; exact h53)
           refine ⟨?_, ?_⟩
           ·first | (rw [hst]; exact h54)
           refine ⟨?_, ?_⟩
           ·first | (rw [hst]; exact h55)
           refine ⟨?_, ?_⟩
           ·rw [hst, Ze6 hJl]; exact congrArg (fun q => U.g (GG.tx (B.txs.set J q))) (ZKf (B.txs.getD J tx0) _).symm
           refine ⟨?_, ?_⟩
           ·first | (rw [hst]; done) | (rw [hst]; rfl)
           refine ⟨?_, ?_⟩
           ·first | (rw [hst, Zk hJR]; done) | (rw [hst, Zk hJR]; rfl)
           refine ⟨?_, ?_⟩
           ·first | (rw [hst, Y5 hJR hJl hwho]; done) | (rw [hst]; done)
           refine ⟨?_, ?_⟩
           ·first | (simp only [hst, hlr, ZN3, ZNM]; first | omega | assumption | done) | (simp only [hst, hlr, ZN3, ZNM]; done)
           refine ⟨?_, ?_⟩
           ·first | (simp only [hst, Zk hJR, hlr, ZN3, ZNM]; first | omega | assumption | done) | (simp only [hst, Zk hJR, hlr, ZN3, ZNM]; done)
           trivial
         ·skip
          intro h286
          refine ⟨?_, ?_⟩
          ·skip
           intro h288
           refine ⟨?_, ?_⟩
           ·skip
            intro h290
            have hF := htold 1 (st6b hj h288 (fun _ => h290))
            refine ⟨?_, ?_⟩
            ·first | (with_reducible rfl) | (with_reducible exact hck.symm) | (rw [hF]; done) | (rw [hF]; with_reducible exact h54.symm) | (rw [hF]; with_reducible exact h55.symm) | (rw [hF]; rfl) | (rw [Za.2 h22]; rfl) | trivial
            refine ⟨?_, ?_⟩
            ·first | (with_reducible rfl) | (with_reducible exact hck.symm) | (rw [hF]; done) | (rw [hF]; with_reducible exact h54.symm) | (rw [hF]; with_reducible exact h55.symm) | (rw [hF]; rfl) | (rw [Za.2 h22]; rfl) | trivial
            refine ⟨?_, ?_⟩
            ·first | (with_reducible rfl) | (with_reducible exact hck.symm) | (rw [hF]; done) | (rw [hF]; with_reducible exact h54.symm) | (rw [hF]; with_reducible exact h55.symm) | (rw [hF]; rfl) | (rw [Za.2 h22]; rfl) | trivial
            refine ⟨?_, ?_⟩
            ·first | (with_reducible rfl) | (with_reducible exact hck.symm) | (rw [hF]; done) | (rw [hF]; with_reducible exact h54.symm) | (rw [hF]; with_reducible exact h55.symm) | (rw [hF]; rfl) | (rw [Za.2 h22]; rfl) | trivial
            refine ⟨?_, ?_⟩
            ·first | (with_reducible rfl) | (with_reducible exact hck.symm) | (rw [hF]; done) | (rw [hF]; with_reducible exact h54.symm) | (rw [hF]; with_reducible exact h55.symm) | (rw [hF]; rfl) | (rw [Za.2 h22]; rfl) | trivial
            refine ⟨?_, ?_⟩
            ·first | (with_reducible rfl) | (with_reducible exact hck.symm) | (rw [hF]; done) | (rw [hF]; with_reducible exact h54.symm) | (rw [hF]; with_reducible exact h55.symm) | (rw [hF]; rfl) | (rw [Za.2 h22]; rfl) | trivial
            refine ⟨?_, ?_⟩
            ·first | (with_reducible rfl) | (with_reducible exact hck.symm) | (rw [hF]; done) | (rw [hF]; with_reducible exact h54.symm) | (rw [hF]; with_reducible exact h55.symm) | (rw [hF]; rfl) | (rw [Za.2 h22]; rfl) | trivial
            refine ⟨?_, ?_⟩
            ·first | (with_reducible rfl) | (with_reducible exact hck.symm) | (rw [hF]; done) | (rw [hF]; with_reducible exact h54.symm) | (rw [hF]; with_reducible exact h55.symm) | (rw [hF]; rfl) | (rw [Za.2 h22]; rfl) | trivial
            refine ⟨?_, ?_⟩
            ·first | (with_reducible rfl) | (with_reducible exact hck.symm) | (rw [hF]; done) | (rw [hF]; with_reducible exact h54.symm) | (rw [hF]; with_reducible exact h55.symm) | (rw [hF]; rfl) | (rw [Za.2 h22]; rfl) | trivial
            refine ⟨?_, ?_⟩
            ·first | (with_reducible rfl) | (with_reducible exact hck.symm) | (rw [hF]; done) | (rw [hF]; with_reducible exact h54.symm) | (rw [hF]; with_reducible exact h55.symm) | (rw [hF]; rfl) | (rw [Za.2 h22]; rfl) | trivial
            trivial
           ·skip
            intro h303
            have hst := hsu.trans (st6a hj h288 hJl h303)
            have hwho : ({ B.txs.getD J tx0 with opn := false } : Tx).who = (B.txs.getD J tx0).who := rfl
            have hxx := h303
            intro h304
            intro h305
            intro h306
            intro h307
            intro h308
            intro h309
            intro h310
            refine ⟨?_, ?_⟩
            ·first | omega | trivial | (with_reducible assumption)
            refine ⟨?_, ?_⟩
            ·first | omega | trivial | (with_reducible assumption)
            refine ⟨?_, ?_⟩
            ·first | omega | trivial | (with_reducible assumption)
            refine ⟨?_, ?_⟩
            ·first | omega | trivial | (with_reducible assumption)
            refine ⟨?_, ?_⟩
            ·omega
            refine ⟨?_, ?_⟩
            ·omega
            refine ⟨?_, ?_⟩
            ·omega
            refine ⟨?_, ?_⟩
            ·omega
            refine ⟨?_, ?_⟩
            ·omega
            refine ⟨?_, ?_⟩
            ·first | (simp only [hst, Zk hJR, hlr, ZN3, ZNM]; first | omega | assumption | done) | (simp only [hst, Zk hJR, hlr, ZN3, ZNM]; done)
            refine ⟨?_, ?_⟩
            ·first | (simp only [hst, Zk hJR, hlr, ZN3, ZNM]; first | omega | assumption | done) | (simp only [hst, Zk hJR, hlr, ZN3, ZNM]; done)
            refine ⟨?_, ?_⟩
            ·first | (simp only [hst, hlr, ZN3, ZNM]; first | omega | assumption | done) | (simp only [hst, hlr, ZN3, ZNM]; done)
            refine ⟨?_, ?_⟩
            ·first | (simp only [hst, hlr, ZN3, ZNM]; first | omega | assumption | done) | (simp only [hst, hlr, ZN3, ZNM]; done)
            refine ⟨?_, ?_⟩
            ·first | (rw [hst, Zk hJR]; exact h53)
            refine ⟨?_, ?_⟩
            ·first | (rw [hst]; exact h54)
            refine ⟨?_, ?_⟩
            ·first | (rw [hst]; exact h55)
            refine ⟨?_, ?_⟩
            ·rw [hst, Ze6 hJl]; rfl
            refine ⟨?_, ?_⟩
            ·first | (rw [hst]; done) | (rw [hst]; rfl)
            refine ⟨?_, ?_⟩
            ·first | (rw [hst, Zk hJR]; done) | (rw [hst, Zk hJR]; rfl)
            refine ⟨?_, ?_⟩
            ·first | (rw [hst, Y5 hJR hJl hwho]; done) | (rw [hst]; done)
            refine ⟨?_, ?_⟩
            ·first | (simp only [hst, hlr, ZN3, ZNM]; first | omega | assumption | done) | (simp only [hst, hlr, ZN3, ZNM]; done)
            refine ⟨?_, ?_⟩
            ·first | (simp only [hst, Zk hJR, hlr, ZN3, ZNM]; first | omega | assumption | done) | (simp only [hst, Zk hJR, hlr, ZN3, ZNM]; done)
            trivial
          ·skip
           intro h335
           refine ⟨?_, ?_⟩
           ·skip
            intro h337
            refine ⟨?_, ?_⟩
            ·exact ⟨J, hJR, rfl⟩
            intro h339
            intro h340
            intro h341
            intro h342
            intro h343
            intro h344
            intro h345
            intro h346
            intro h347
            refine ⟨?_, ?_⟩
            ·skip
             intro h349
             refine ⟨?_, ?_⟩
             ·first | omega | trivial | (with_reducible assumption)
             refine ⟨?_, ?_⟩
             ·first | omega | trivial | (with_reducible assumption)
             refine ⟨?_, ?_⟩
             ·exact h560
             intro v353
             intro h354
             refine ⟨?_, ?_⟩
             ·skip
              intro h356
              have hfal : J ∈ B.fal := by
               rw [h356] at h354
               exact (Zp7 h58.2.1 hfi hJR).1 (h53.mem_iff.1 ((Zl (p := _ ∈ v44)).mp h354.symm))
              refine ⟨?_, ?_⟩
              ·first | omega | trivial | (with_reducible assumption)
              refine ⟨?_, ?_⟩
              ·skip
               intro h359
               have hF := htold 1 (ZKc hj h337 (.inr h359))
               refine ⟨?_, ?_⟩
               ·first | (with_reducible rfl) | (with_reducible exact hck.symm) | (rw [hF]; done) | (rw [hF]; with_reducible exact h54.symm) | (rw [hF]; with_reducible exact h55.symm) | (rw [hF]; rfl) | (rw [Za.2 h22]; rfl) | trivial
               refine ⟨?_, ?_⟩
               ·first | (with_reducible rfl) | (with_reducible exact hck.symm) | (rw [hF]; done) | (rw [hF]; with_reducible exact h54.symm) | (rw [hF]; with_reducible exact h55.symm) | (rw [hF]; rfl) | (rw [Za.2 h22]; rfl) | trivial
               refine ⟨?_, ?_⟩
               ·first | (with_reducible rfl) | (with_reducible exact hck.symm) | (rw [hF]; done) | (rw [hF]; with_reducible exact h54.symm) | (rw [hF]; with_reducible exact h55.symm) | (rw [hF]; rfl) | (rw [Za.2 h22]; rfl) | trivial
               refine ⟨?_, ?_⟩
               ·first | (with_reducible rfl) | (with_reducible exact hck.symm) | (rw [hF]; done) | (rw [hF]; with_reducible exact h54.symm) | (rw [hF]; with_reducible exact h55.symm) | (rw [hF]; rfl) | (rw [Za.2 h22]; rfl) | trivial
               refine ⟨?_, ?_⟩
               ·first | (with_reducible rfl) | (with_reducible exact hck.symm) | (rw [hF]; done) | (rw [hF]; with_reducible exact h54.symm) | (rw [hF]; with_reducible exact h55.symm) | (rw [hF]; rfl) | (rw [Za.2 h22]; rfl) | trivial
               refine ⟨?_, ?_⟩
               ·first | (with_reducible rfl) | (with_reducible exact hck.symm) | (rw [hF]; done) | (rw [hF]; with_reducible exact h54.symm) | (rw [hF]; with_reducible exact h55.symm) | (rw [hF]; rfl) | (rw [Za.2 h22]; rfl) | trivial
               refine ⟨?_, ?_⟩
               ·first | (with_reducible rfl) | (with_reducible exact hck.symm) | (rw [hF]; done) | (rw [hF]; with_reducible exact h54.symm) | (rw [hF]; with_reducible exact h55.symm) | (rw [hF]; rfl) | (rw [Za.2 h22]; rfl) | trivial
               refine ⟨?_, ?_⟩
               ·first | (with_reducible rfl) | (with_reducible exact hck.symm) | (rw [hF]; done) | (rw [hF]; with_reducible exact h54.symm) | (rw [hF]; with_reducible exact h55.symm) | (rw [hF]; rfl) | (rw [Za.2 h22]; rfl) | trivial
               refine ⟨?_, ?_⟩
               ·first | (with_reducible rfl) | (with_reducible exact hck.symm) | (rw [hF]; done) | (rw [hF]; with_reducible exact h54.symm) | (rw [hF]; with_reducible exact h55.symm) | (rw [hF]; rfl) | (rw [Za.2 h22]; rfl) | trivial
               refine ⟨?_, ?_⟩
               ·first | (with_reducible rfl) | (with_reducible exact hck.symm) | (rw [hF]; done) | (rw [hF]; with_reducible exact h54.symm) | (rw [hF]; with_reducible exact h55.symm) | (rw [hF]; rfl) | (rw [Za.2 h22]; rfl) | trivial
               trivial
              ·skip
               intro h372
               refine ⟨?_, ?_⟩
               ·first | omega | trivial | (with_reducible assumption)
               refine ⟨?_, ?_⟩
               ·skip
                intro h375
                have hF := htold 2 (st5b hj h337 (.inr hfal) h372 h375)
                refine ⟨?_, ?_⟩
                ·first | (with_reducible rfl) | (with_reducible exact hck.symm) | (rw [hF]; done) | (rw [hF]; with_reducible exact h54.symm) | (rw [hF]; with_reducible exact h55.symm) | (rw [hF]; rfl) | (rw [Za.2 h22]; rfl) | trivial
                refine ⟨?_, ?_⟩
                ·first | (with_reducible rfl) | (with_reducible exact hck.symm) | (rw [hF]; done) | (rw [hF]; with_reducible exact h54.symm) | (rw [hF]; with_reducible exact h55.symm) | (rw [hF]; rfl) | (rw [Za.2 h22]; rfl) | trivial
                refine ⟨?_, ?_⟩
                ·first | (with_reducible rfl) | (with_reducible exact hck.symm) | (rw [hF]; done) | (rw [hF]; with_reducible exact h54.symm) | (rw [hF]; with_reducible exact h55.symm) | (rw [hF]; rfl) | (rw [Za.2 h22]; rfl) | trivial
                refine ⟨?_, ?_⟩
                ·first | (with_reducible rfl) | (with_reducible exact hck.symm) | (rw [hF]; done) | (rw [hF]; with_reducible exact h54.symm) | (rw [hF]; with_reducible exact h55.symm) | (rw [hF]; rfl) | (rw [Za.2 h22]; rfl) | trivial
                refine ⟨?_, ?_⟩
                ·first | (with_reducible rfl) | (with_reducible exact hck.symm) | (rw [hF]; done) | (rw [hF]; with_reducible exact h54.symm) | (rw [hF]; with_reducible exact h55.symm) | (rw [hF]; rfl) | (rw [Za.2 h22]; rfl) | trivial
                refine ⟨?_, ?_⟩
                ·first | (with_reducible rfl) | (with_reducible exact hck.symm) | (rw [hF]; done) | (rw [hF]; with_reducible exact h54.symm) | (rw [hF]; with_reducible exact h55.symm) | (rw [hF]; rfl) | (rw [Za.2 h22]; rfl) | trivial
                refine ⟨?_, ?_⟩
                ·first | (with_reducible rfl) | (with_reducible exact hck.symm) | (rw [hF]; done) | (rw [hF]; with_reducible exact h54.symm) | (rw [hF]; with_reducible exact h55.symm) | (rw [hF]; rfl) | (rw [Za.2 h22]; rfl) | trivial
                refine ⟨?_, ?_⟩
                ·first | (with_reducible rfl) | (with_reducible exact hck.symm) | (rw [hF]; done) | (rw [hF]; with_reducible exact h54.symm) | (rw [hF]; with_reducible exact h55.symm) | (rw [hF]; rfl) | (rw [Za.2 h22]; rfl) | trivial
                refine ⟨?_, ?_⟩
                ·first | (with_reducible rfl) | (with_reducible exact hck.symm) | (rw [hF]; done) | (rw [hF]; with_reducible exact h54.symm) | (rw [hF]; with_reducible exact h55.symm) | (rw [hF]; rfl) | (rw [Za.2 h22]; rfl) | trivial
                refine ⟨?_, ?_⟩
                ·first | (with_reducible rfl) | (with_reducible exact hck.symm) | (rw [hF]; done) | (rw [hF]; with_reducible exact h54.symm) | (rw [hF]; with_reducible exact h55.symm) | (rw [hF]; rfl) | (rw [Za.2 h22]; rfl) | trivial
                trivial
               ·skip
                intro h388
                have hst := hsu.trans (st5c hj h337 (.inr hfal) h372 h388)
                have hwho : ({ B.txs.getD J tx0 with opn := false, com := (n : Int) } : Tx).who = (B.txs.getD J tx0).who := rfl
                intro h389
                intro h390
                intro h391
                intro h392
                intro h393
                intro h394
                intro h395
                refine ⟨?_, ?_⟩
                ·first | omega | trivial | (with_reducible assumption)
                refine ⟨?_, ?_⟩
                ·first | omega | trivial | (with_reducible assumption)
                refine ⟨?_, ?_⟩
                ·first | omega | trivial | (with_reducible assumption)
                refine ⟨?_, ?_⟩
                ·first | omega | trivial | (with_reducible assumption)
                intro v400
                intro h401
                refine ⟨?_, ?_⟩
                ·first | omega | trivial | (with_reducible assumption)
                refine ⟨?_, ?_⟩
                ·first | omega | trivial | (with_reducible assumption)
                intro v404
                intro v405
                intro h406
                intro h407
                refine ⟨?_, ?_⟩
                ·omega
                refine ⟨?_, ?_⟩
                ·omega
                refine ⟨?_, ?_⟩
                ·omega
                refine ⟨?_, ?_⟩
                ·omega
                refine ⟨?_, ?_⟩
                ·omega
                refine ⟨?_, ?_⟩
                ·simp only [hst, Zk hJR, hlr, ZN3, ZNM]; omega
                refine ⟨?_, ?_⟩
                ·simp only [hst, Zk hJR, hlr, ZN3, ZNM]; omega
                refine ⟨?_, ?_⟩
                ·first | (simp only [hst, hlr, ZN3, ZNM]; first | omega | assumption | done) | (simp only [hst, hlr, ZN3, ZNM]; done)
                refine ⟨?_, ?_⟩
                ·first | (simp only [hst, hlr, ZN3, ZNM]; first | omega | assumption | done) | (simp only [hst, hlr, ZN3, ZNM]; done)
                refine ⟨?_, ?_⟩
                ·rw [hst, Zk hJR]; exact h53
                refine ⟨?_, ?_⟩
                ·first | (rw [hst]; exact h54)
                refine ⟨?_, ?_⟩
                ·first | (rw [hst]; exact h55)
                refine ⟨?_, ?_⟩
                ·rw [hst, Ze6 hJl]; rfl
                refine ⟨?_, ?_⟩
                ·first | (rw [hst]; done) | (rw [hst]; rfl)
                refine ⟨?_, ?_⟩
                ·rw [hst, Zk hJR, Zd2]
                refine ⟨?_, ?_⟩
                ·first | (rw [hst, Y5 hJR hJl hwho]; done) | (rw [hst]; done)
                refine ⟨?_, ?_⟩
                ·first | (simp only [hst, hlr, ZN3, ZNM]; first | omega | assumption | done) | (simp only [hst, hlr, ZN3, ZNM]; done)
                refine ⟨?_, ?_⟩
                ·simp only [hst, Zk hJR, hlr, ZN3, ZNM]; omega
                trivial
             ·skip
              intro h428
              have hnf : ¬ J ∈ B.fal := fun hm => by
               rw [h428] at h354
               have hq : [g0 (v37.getD J [])] ∈ v44 := h53.mem_iff.2 ((Zp7 h58.2.1 hfi hJR).2 hm)
               rw [Zu hq] at h354; cases h354
              have hF := htold 1 (ZKc hj h337 (.inl ⟨fun _ => h349, hnf⟩))
              refine ⟨?_, ?_⟩
              ·first | omega | trivial | (with_reducible assumption)
              refine ⟨?_, ?_⟩
              ·first | (with_reducible rfl) | (with_reducible exact hck.symm) | (rw [hF]; done) | (rw [hF]; with_reducible exact h54.symm) | (rw [hF]; with_reducible exact h55.symm) | (rw [hF]; rfl) | (rw [Za.2 h22]; rfl) | trivial
              refine ⟨?_, ?_⟩
              ·first | (with_reducible rfl) | (with_reducible exact hck.symm) | (rw [hF]; done) | (rw [hF]; with_reducible exact h54.symm) | (rw [hF]; with_reducible exact h55.symm) | (rw [hF]; rfl) | (rw [Za.2 h22]; rfl) | trivial
              refine ⟨?_, ?_⟩
              ·first | (with_reducible rfl) | (with_reducible exact hck.symm) | (rw [hF]; done) | (rw [hF]; with_reducible exact h54.symm) | (rw [hF]; with_reducible exact h55.symm) | (rw [hF]; rfl) | (rw [Za.2 h22]; rfl) | trivial
              refine ⟨?_, ?_⟩
              ·first | (with_reducible rfl) | (with_reducible exact hck.symm) | (rw [hF]; done) | (rw [hF]; with_reducible exact h54.symm) | (rw [hF]; with_reducible exact h55.symm) | (rw [hF]; rfl) | (rw [Za.2 h22]; rfl) | trivial
              refine ⟨?_, ?_⟩
              ·first | (with_reducible rfl) | (with_reducible exact hck.symm) | (rw [hF]; done) | (rw [hF]; with_reducible exact h54.symm) | (rw [hF]; with_reducible exact h55.symm) | (rw [hF]; rfl) | (rw [Za.2 h22]; rfl) | trivial
              refine ⟨?_, ?_⟩
              ·first | (with_reducible rfl) | (with_reducible exact hck.symm) | (rw [hF]; done) | (rw [hF]; with_reducible exact h54.symm) | (rw [hF]; with_reducible exact h55.symm) | (rw [hF]; rfl) | (rw [Za.2 h22]; rfl) | trivial
              refine ⟨?_, ?_⟩
              ·first | (with_reducible rfl) | (with_reducible exact hck.symm) | (rw [hF]; done) | (rw [hF]; with_reducible exact h54.symm) | (rw [hF]; with_reducible exact h55.symm) | (rw [hF]; rfl) | (rw [Za.2 h22]; rfl) | trivial
              refine ⟨?_, ?_⟩
              ·first | (with_reducible rfl) | (with_reducible exact hck.symm) | (rw [hF]; done) | (rw [hF]; with_reducible exact h54.symm) | (rw [hF]; with_reducible exact h55.symm) | (rw [hF]; rfl) | (rw [Za.2 h22]; rfl) | trivial
              refine ⟨?_, ?_⟩
              ·first | (with_reducible rfl) | (with_reducible exact hck.symm) | (rw [hF]; done) | (rw [hF]; with_reducible exact h54.symm) | (rw [hF]; with_reducible exact h55.symm) | (rw [hF]; rfl) | (rw [Za.2 h22]; rfl) | trivial
              refine ⟨?_, ?_⟩
              ·first | (with_reducible rfl) | (with_reducible exact hck.symm) | (rw [hF]; done) | (rw [hF]; with_reducible exact h54.symm) | (rw [hF]; with_reducible exact h55.symm) | (rw [hF]; rfl) | (rw [Za.2 h22]; rfl) | trivial
              trivial
            ·skip
             intro h442
             refine ⟨?_, ?_⟩
             ·first | omega | trivial | (with_reducible assumption)
             refine ⟨?_, ?_⟩
             ·skip
              intro h445
              have hF := htold 1 (ZKc hj h337 (.inr h445))
              refine ⟨?_, ?_⟩
              ·first | (with_reducible rfl) | (with_reducible exact hck.symm) | (rw [hF]; done) | (rw [hF]; with_reducible exact h54.symm) | (rw [hF]; with_reducible exact h55.symm) | (rw [hF]; rfl) | (rw [Za.2 h22]; rfl) | trivial
              refine ⟨?_, ?_⟩
              ·first | (with_reducible rfl) | (with_reducible exact hck.symm) | (rw [hF]; done) | (rw [hF]; with_reducible exact h54.symm) | (rw [hF]; with_reducible exact h55.symm) | (rw [hF]; rfl) | (rw [Za.2 h22]; rfl) | trivial
              refine ⟨?_, ?_⟩
              ·first | (with_reducible rfl) | (with_reducible exact hck.symm) | (rw [hF]; done) | (rw [hF]; with_reducible exact h54.symm) | (rw [hF]; with_reducible exact h55.symm) | (rw [hF]; rfl) | (rw [Za.2 h22]; rfl) | trivial
              refine ⟨?_, ?_⟩
              ·first | (with_reducible rfl) | (with_reducible exact hck.symm) | (rw [hF]; done) | (rw [hF]; with_reducible exact h54.symm) | (rw [hF]; with_reducible exact h55.symm) | (rw [hF]; rfl) | (rw [Za.2 h22]; rfl) | trivial
              refine ⟨?_, ?_⟩
              ·first | (with_reducible rfl) | (with_reducible exact hck.symm) | (rw [hF]; done) | (rw [hF]; with_reducible exact h54.symm) | (rw [hF]; with_reducible exact h55.symm) | (rw [hF]; rfl) | (rw [Za.2 h22]; rfl) | trivial
              refine ⟨?_, ?_⟩
              ·first | (with_reducible rfl) | (with_reducible exact hck.symm) | (rw [hF]; done) | (rw [hF]; with_reducible exact h54.symm) | (rw [hF]; with_reducible exact h55.symm) | (rw [hF]; rfl) | (rw [Za.2 h22]; rfl) | trivial
              refine ⟨?_, ?_⟩
              ·first | (with_reducible rfl) | (with_reducible exact hck.symm) | (rw [hF]; done) | (rw [hF]; with_reducible exact h54.symm) | (rw [hF]; with_reducible exact h55.symm) | (rw [hF]; rfl) | (rw [Za.2 h22]; rfl) | trivial
              refine ⟨?_, ?_⟩
              ·first | (with_reducible rfl) | (with_reducible exact hck.symm) | (rw [hF]; done) | (rw [hF]; with_reducible exact h54.symm) | (rw [hF]; with_reducible exact h55.symm) | (rw [hF]; rfl) | (rw [Za.2 h22]; rfl) | trivial
              refine ⟨?_, ?_⟩
              ·first | (with_reducible rfl) | (with_reducible exact hck.symm) | (rw [hF]; done) | (rw [hF]; with_reducible exact h54.symm) | (rw [hF]; with_reducible exact h55.symm) | (rw [hF]; rfl) | (rw [Za.2 h22]; rfl) | trivial
              refine ⟨?_, ?_⟩
              ·first | (with_reducible rfl) | (with_reducible exact hck.symm) | (rw [hF]; done) | (rw [hF]; with_reducible exact h54.symm) | (rw [hF]; with_reducible exact h55.symm) | (rw [hF]; rfl) | (rw [Za.2 h22]; rfl) | trivial
              trivial
             ·skip
              intro h458
              refine ⟨?_, ?_⟩
              ·first | omega | trivial | (with_reducible assumption)
              refine ⟨?_, ?_⟩
              ·skip
               intro h461
               have hF := htold 2 (st5b hj h337 (.inl ⟨hJl, h442⟩) h458 h461)
               refine ⟨?_, ?_⟩
               ·first | (with_reducible rfl) | (with_reducible exact hck.symm) | (rw [hF]; done) | (rw [hF]; with_reducible exact h54.symm) | (rw [hF]; with_reducible exact h55.symm) | (rw [hF]; rfl) | (rw [Za.2 h22]; rfl) | trivial
               refine ⟨?_, ?_⟩
               ·first | (with_reducible rfl) | (with_reducible exact hck.symm) | (rw [hF]; done) | (rw [hF]; with_reducible exact h54.symm) | (rw [hF]; with_reducible exact h55.symm) | (rw [hF]; rfl) | (rw [Za.2 h22]; rfl) | trivial
               refine ⟨?_, ?_⟩
               ·first | (with_reducible rfl) | (with_reducible exact hck.symm) | (rw [hF]; done) | (rw [hF]; with_reducible exact h54.symm) | (rw [hF]; with_reducible exact h55.symm) | (rw [hF]; rfl) | (rw [Za.2 h22]; rfl) | trivial
               refine ⟨?_, ?_⟩
               ·first | (with_reducible rfl) | (with_reducible exact hck.symm) | (rw [hF]; done) | (rw [hF]; with_reducible exact h54.symm) | (rw [hF]; with_reducible exact h55.symm) | (rw [hF]; rfl) | (rw [Za.2 h22]; rfl) | trivial
               refine ⟨?_, ?_⟩
               ·first | (with_reducible rfl) | (with_reducible exact hck.symm) | (rw [hF]; done) | (rw [hF]; with_reducible exact h54.symm) | (rw [hF]; with_reducible exact h55.symm) | (rw [hF]; rfl) | (rw [Za.2 h22]; rfl) | trivial
               refine ⟨?_, ?_⟩
               ·first | (with_reducible rfl) | (with_reducible exact hck.symm) | (rw [hF]; done) | (rw [hF]; with_reducible exact h54.symm) | (rw [hF]; with_reducible exact h55.symm) | (rw [hF]; rfl) | (rw [Za.2 h22]; rfl) | trivial
               refine ⟨?_, ?_⟩
               ·first | (with_reducible rfl) | (with_reducible exact hck.symm) | (rw [hF]; done) | (rw [hF]; with_reducible exact h54.symm) | (rw [hF]; with_reducible exact h55.symm) | (rw [hF]; rfl) | (rw [Za.2 h22]; rfl) | trivial
               refine ⟨?_, ?_⟩
               ·first | (with_reducible rfl) | (with_reducible exact hck.symm) | (rw [hF]; done) | (rw [hF]; with_reducible exact h54.symm) | (rw [hF]; with_reducible exact h55.symm) | (rw [hF]; rfl) | (rw [Za.2 h22]; rfl) | trivial
               refine ⟨?_, ?_⟩
               ·first | (with_reducible rfl) | (with_reducible exact hck.symm) | (rw [hF]; done) | (rw [hF]; with_reducible exact h54.symm) | (rw [hF]; with_reducible exact h55.symm) | (rw [hF]; rfl) | (rw [Za.2 h22]; rfl) | trivial
               refine ⟨?_, ?_⟩
               ·first | (with_reducible rfl) | (with_reducible exact hck.symm) | (rw [hF]; done) | (rw [hF]; with_reducible exact h54.symm) | (rw [hF]; with_reducible exact h55.symm) | (rw [hF]; rfl) | (rw [Za.2 h22]; rfl) | trivial
               trivial
              ·skip
               intro h474
               have hst := hsu.trans (st5c hj h337 (.inl ⟨hJl, h442⟩) h458 h474)
               have hwho : ({ B.txs.getD J tx0 with opn := false, com := (n : Int) } : Tx).who = (B.txs.getD J tx0).who := rfl
               intro h475
               intro h476
               intro h477
               intro h478
               intro h479
               intro h480
               intro h481
               refine ⟨?_, ?_⟩
               ·first | omega | trivial | (with_reducible assumption)
               refine ⟨?_, ?_⟩
               ·first | omega | trivial | (with_reducible assumption)
               refine ⟨?_, ?_⟩
               ·first | omega | trivial | (with_reducible assumption)
               refine ⟨?_, ?_⟩
               ·first | omega | trivial | (with_reducible assumption)
               intro v486
               intro h487
               refine ⟨?_, ?_⟩
               ·first | omega | trivial | (with_reducible assumption)
               refine ⟨?_, ?_⟩
               ·first | omega | trivial | (with_reducible assumption)
               intro v490
               intro v491
               intro h492
               intro h493
               refine ⟨?_, ?_⟩
               ·omega
               refine ⟨?_, ?_⟩
               ·omega
               refine ⟨?_, ?_⟩
               ·omega
               refine ⟨?_, ?_⟩
               ·omega
               refine ⟨?_, ?_⟩
               ·omega
               refine ⟨?_, ?_⟩
               ·simp only [hst, Zk hJR, hlr, ZN3, ZNM]; omega
               refine ⟨?_, ?_⟩
               ·simp only [hst, Zk hJR, hlr, ZN3, ZNM]; omega
               refine ⟨?_, ?_⟩
               ·first | (simp only [hst, hlr, ZN3, ZNM]; first | omega | assumption | done) | (simp only [hst, hlr, ZN3, ZNM]; done)
               refine ⟨?_, ?_⟩
               ·first | (simp only [hst, hlr, ZN3, ZNM]; first | omega | assumption | done) | (simp only [hst, hlr, ZN3, ZNM]; done)
               refine ⟨?_, ?_⟩
               ·rw [hst, Zk hJR]; exact h53
               refine ⟨?_, ?_⟩
               ·first | (rw [hst]; exact h54)
               refine ⟨?_, ?_⟩
               ·first | (rw [hst]; exact h55)
               refine ⟨?_, ?_⟩
               ·rw [hst, Ze6 hJl]; rfl
               refine ⟨?_, ?_⟩
               ·first | (rw [hst]; done) | (rw [hst]; rfl)
               refine ⟨?_, ?_⟩
               ·rw [hst, Zk hJR, Zd2]
               refine ⟨?_, ?_⟩
               ·first | (rw [hst, Y5 hJR hJl hwho]; done) | (rw [hst]; done)
               refine ⟨?_, ?_⟩
               ·first | (simp only [hst, hlr, ZN3, ZNM]; first | omega | assumption | done) | (simp only [hst, hlr, ZN3, ZNM]; done)
               refine ⟨?_, ?_⟩
               ·simp only [hst, Zk hJR, hlr, ZN3, ZNM]; omega
               trivial
           ·skip
            intro h514
            refine ⟨?_, ?_⟩
            ·skip
             intro h516
             intro v517
             intro h518
             refine ⟨?_, ?_⟩
             ·first | omega | trivial | (with_reducible assumption)
             refine ⟨?_, ?_⟩
             ·rw [ZjW (ZdG h58.1)]; exact List.Perm.nil
             refine ⟨?_, ?_⟩
             ·exact ⟨by rw [Zgt h58.1]; exact hw.nd, fun _ q => q⟩
             refine ⟨?_, ?_⟩
             ·exact congrArg (fun q => U.g (GG.tx q)) (Zlc (ZdG h58.1))
             intro v523
             intro v524
             intro v525
             intro v526
             intro v527
             intro v528
             intro h529
             intro h530
             intro h531
             intro h532
             intro h533
             have hFl2 : v528.length <= B.txs.length := by have q := h532.length_eq; rw [hlr] at q; have := Zf0 v523 B.txs 0; omega
             refine ⟨?_, ?_⟩
             ·skip
              intro h535
              have hM : v523 = [] := ZOd (by omega)
              have hst := hsu.trans (st7 hj h516)
              refine ⟨?_, ?_⟩
              ·omega
              refine ⟨?_, ?_⟩
              ·omega
              refine ⟨?_, ?_⟩
              ·omega
              refine ⟨?_, ?_⟩
              ·omega
              refine ⟨?_, ?_⟩
              ·omega
              refine ⟨?_, ?_⟩
              ·first | (simp only [hst, hlr]; first | omega | assumption | done) | (simp only [hst, hlr]; done)
              refine ⟨?_, ?_⟩
              ·first | (simp only [hst, hlr]; first | omega | assumption | done) | (simp only [hst, hlr]; done)
              refine ⟨?_, ?_⟩
              ·first | (simp only [hst, hlr]; first | omega | assumption | done) | (simp only [hst, hlr]; done)
              refine ⟨?_, ?_⟩
              ·first | (simp only [hst, hlr]; first | omega | assumption | done) | (simp only [hst, hlr]; done)
              refine ⟨?_, ?_⟩
              ·rw [hst, Zf1 h531]; rw [hM, ZdB] at h532; exact h532
              refine ⟨?_, ?_⟩
              ·rw [hst]; exact h54
              refine ⟨?_, ?_⟩
              ·rw [hst]; exact h55
              refine ⟨?_, ?_⟩
              ·rw [hst, hM]; rfl
              refine ⟨?_, ?_⟩
              ·rw [hst]
              refine ⟨?_, ?_⟩
              ·rw [hst, Zf1 h531]
              refine ⟨?_, ?_⟩
              ·rw [hst]; exact congrArg U.amap (Zm3 h531 (by rw [List.map_map]; rfl))
              refine ⟨?_, ?_⟩
              ·first | (simp only [hst, hlr]; first | omega | assumption | done) | (simp only [hst, hlr]; done)
              refine ⟨?_, ?_⟩
              ·first | (simp only [hst, hlr]; first | omega | assumption | done) | (simp only [hst, hlr]; done)
              trivial
             ·skip
              intro v556
              intro h557
              have hjk0 := h533.2 _ h557
              have hAk := ZbF (w := v556) h58.1 0
              obtain ⟨j, hjd⟩ : ∃ j, ixL v556 B.txs = j := ⟨_, rfl⟩
              rw [hjd] at hAk
              have hjl : j < B.txs.length := by rw [hAk.2] at hjk0; simpa using hjk0
              have hR22 : v525.length = v37.length := by have := congrArg List.length h531; simpa using this
              have hjR : j < v525.length := by have := h58.1; omega
              have hg0 : g0 (v525.getD j []) = g0 (v37.getD j []) := by rw [<- ZcR g0 v525, <- ZcR g0 v37, h531]
              have hmk : YC 0 (Zez v37 B.txs) v556 = g0 (v525.getD j []) := by rw [hAk.1, if_pos hjl, hg0]
              have hrj := ZaL (R := v525) (by rw [h531]; exact h58.2.1) hjR
              have hwj : (B.txs.getD j tx0).who = v556 := by have := ZaK (w := v556) (L := B.txs) (by omega); rw [hjd] at this; exact this
              have hgj : (Zce B.txs v523).getD j tx0 = B.txs.getD j tx0 := by rw [ZdU _ _ hjl, hwj, if_pos h557]
              have hsl := ZdZ B.txs v523
              simp only [hmk, hrj, ZN5, Zct]
              refine ⟨?_, ?_⟩
              ·exact ⟨j, hjR, rfl⟩
              intro h559
              intro h560
              intro h561
              intro h562
              intro h563
              intro h564
              intro h565
              intro h566
              intro h567
              refine ⟨?_, ?_⟩
              ·first | omega | trivial | (with_reducible assumption)
              refine ⟨?_, ?_⟩
              ·skip
               intro h570
               rw [hgj] at h570
               intro h571
               intro h572
               intro h573
               intro h574
               intro h575
               intro h576
               intro h577
               intro h578
               intro h579
               refine ⟨?_, ?_⟩
               ·first | omega | trivial | (with_reducible assumption)
               refine ⟨?_, ?_⟩
               ·first | omega | trivial | (with_reducible assumption)
               refine ⟨?_, ?_⟩
               ·first | omega | trivial | (with_reducible assumption)
               refine ⟨?_, ?_⟩
               ·first | omega | trivial | (with_reducible assumption)
               intro v584
               intro h585
               refine ⟨?_, ?_⟩
               ·first | omega | trivial | (with_reducible assumption)
               refine ⟨?_, ?_⟩
               ·first | omega | trivial | (with_reducible assumption)
               intro v588
               intro v589
               intro h590
               intro h591
               refine ⟨?_, ?_⟩
               ·have := Zda h557; omega
               refine ⟨?_, ?_⟩
               ·rw [Zft hjR]; exact (YB (f := g0) (d := []) (x := g0 (v525.getD j []) :: _) rfl hjR).trans h531
               refine ⟨?_, ?_⟩
               ·refine (h532.append_right _).trans ?_
                rw [hg0, <- Zd2]
                exact Zd5 (Zlq h533.1 hw.nd hjd hjl h557 h570)
               refine ⟨?_, ?_⟩
               ·exact ⟨Zbv h533.1 _, fun q hq => h533.2 q (by rw [Zaz h533.1] at hq; simp only [Bool.and_eq_true] at hq; exact hq.2)⟩
               refine ⟨?_, ?_⟩
               ·rw [Ze6 (by rw [hsl]; exact hjl), Zgx h533.1 hw.nd hjd hjl h557, hgj]; rfl
               trivial
              ·skip
               intro h599
               rw [hgj] at h599
               refine ⟨?_, ?_⟩
               ·have := Zda h557; omega
               refine ⟨?_, ?_⟩
               ·exact h532.trans (Zd5 (Zhz h533.1 hw.nd hjd hjl h599))
               refine ⟨?_, ?_⟩
               ·exact ⟨Zbv h533.1 _, fun q hq => h533.2 q (by rw [Zaz h533.1] at hq; simp only [Bool.and_eq_true] at hq; exact hq.2)⟩
               refine ⟨?_, ?_⟩
               ·exact congrArg (fun q => U.g (GG.tx q)) (ZhE h533.1 hw.nd hjd hjl h557 (by rw [hgj]; exact h599))
               trivial
            ·skip
             intro h606
             have hst := hsu.trans (st0 hj ⟨h94, h184, h237, h286, h514, h335, h606⟩)
             refine ⟨?_, ?_⟩
             ·omega
             refine ⟨?_, ?_⟩
             ·omega
             refine ⟨?_, ?_⟩
             ·omega
             refine ⟨?_, ?_⟩
             ·omega
             refine ⟨?_, ?_⟩
             ·omega
             refine ⟨?_, ?_⟩
             ·first | (simp only [hst, hlr, ZN3, ZNM]; first | omega | assumption | done) | (simp only [hst, hlr, ZN3, ZNM]; done)
             refine ⟨?_, ?_⟩
             ·first | (simp only [hst, hlr, ZN3, ZNM]; first | omega | assumption | done) | (simp only [hst, hlr, ZN3, ZNM]; done)
             refine ⟨?_, ?_⟩
             ·first | (simp only [hst, hlr, ZN3, ZNM]; first | omega | assumption | done) | (simp only [hst, hlr, ZN3, ZNM]; done)
             refine ⟨?_, ?_⟩
             ·first | (simp only [hst, hlr, ZN3, ZNM]; first | omega | assumption | done) | (simp only [hst, hlr, ZN3, ZNM]; done)
             refine ⟨?_, ?_⟩
             ·first | (rw [hst]; exact h53)
             refine ⟨?_, ?_⟩
             ·first | (rw [hst]; exact h54)
             refine ⟨?_, ?_⟩
             ·first | (rw [hst]; exact h55)
             refine ⟨?_, ?_⟩
             ·first | (rw [hst]; done) | (rw [hst]; rfl)
             refine ⟨?_, ?_⟩
             ·first | (rw [hst]; done) | (rw [hst]; rfl)
             refine ⟨?_, ?_⟩
             ·first | (rw [hst]; done) | (rw [hst]; rfl)
             refine ⟨?_, ?_⟩
             ·first | (rw [hst, Y5 hJR hJl hwho]; done) | (rw [hst]; done)
             refine ⟨?_, ?_⟩
             ·first | (simp only [hst, hlr, ZN3, ZNM]; first | omega | assumption | done) | (simp only [hst, hlr, ZN3, ZNM]; done)
             refine ⟨?_, ?_⟩
             ·first | (simp only [hst, hlr, ZN3, ZNM]; first | omega | assumption | done) | (simp only [hst, hlr, ZN3, ZNM]; done)
             trivial
     ·skip
      trivial
    ·skip
     intro h629
     have hJn : ¬ J < B.txs.length := fun q => by
      rw [hA.1, if_pos q] at h629
      have := h58.2.2 _ (Zue (R := v37) (J := J) (by have := h58.1; omega)); omega
     have hnop : J < B.txs.length -> (B.txs.getD J tx0).opn = false := fun q => absurd q hJn
     refine ⟨?_, ?_⟩
     ·skip
      trivial
     ·skip
      intro h633
      refine ⟨?_, ?_⟩
      ·skip
       intro h635
       refine ⟨?_, ?_⟩
       ·skip
        trivial
       ·skip
        intro h639
        have hst := hsu.trans (st1b hj h635 hJn)
        have hkR : ∀ k ∈ B.kept, k < v37.length := fun k hk => by have := hw.ki k hk; have := h58.1; omega
        intro v640
        intro h641
        intro v642
        intro h643
        refine ⟨?_, ?_⟩
        ·omega
        refine ⟨?_, ?_⟩
        ·omega
        refine ⟨?_, ?_⟩
        ·omega
        refine ⟨?_, ?_⟩
        ·omega
        refine ⟨?_, ?_⟩
        ·omega
        refine ⟨?_, ?_⟩
        ·first | (simp only [hst, hlr]; first | omega | assumption | done) | (simp only [hst, hlr]; done)
        refine ⟨?_, ?_⟩
        ·first | (simp only [hst, hlr]; first | omega | assumption | done) | (simp only [hst, hlr]; done)
        refine ⟨?_, ?_⟩
        ·first | (simp only [hst, hlr, ZN3, ZNM]; first | omega | assumption | done) | (simp only [hst, hlr, ZN3, ZNM]; done)
        refine ⟨?_, ?_⟩
        ·first | (simp only [hst, hlr, ZN3, ZNM]; first | omega | assumption | done) | (simp only [hst, hlr, ZN3, ZNM]; done)
        refine ⟨?_, ?_⟩
        ·first | (rw [hst]; exact List.Perm.nil)
        refine ⟨?_, ?_⟩
        ·first | (rw [hst]; exact h54)
        refine ⟨?_, ?_⟩
        ·first | (rw [hst]; exact h55)
        refine ⟨?_, ?_⟩
        ·first | (rw [hst]; done) | (rw [hst]; rfl)
        refine ⟨?_, ?_⟩
        ·first | (rw [hst]; done) | (rw [hst]; rfl)
        refine ⟨?_, ?_⟩
        ·rw [hst]; exact ZCV hkR _
        refine ⟨?_, ?_⟩
        ·rw [hst]; exact congrArg U.amap (ZCP h58.1 _ _ (by show ¬ ixL (x.getD 1 0) B.txs < _; rw [hJ]; exact hJn))
        refine ⟨?_, ?_⟩
        ·first | (simp only [hst, hlr, ZN3, ZNM]; first | omega | assumption | done) | (simp only [hst, hlr, ZN3, ZNM]; done)
        refine ⟨?_, ?_⟩
        ·first | (simp only [hst, hlr]; first | omega | assumption | done) | (simp only [hst, hlr]; done)
        trivial
      ·skip
       intro h664
       refine ⟨?_, ?_⟩
       ·skip
        intro h666
        refine ⟨?_, ?_⟩
        ·skip
         intro h668
         have hst := hsu.trans (st2a hj h666 h668)
         intro v669
         intro h670
         refine ⟨?_, ?_⟩
         ·first | omega | trivial | (with_reducible assumption)
         refine ⟨?_, ?_⟩
         ·first | omega | trivial | (with_reducible assumption)
         intro v673
         intro v674
         intro h675
         intro h676
         refine ⟨?_, ?_⟩
         ·omega
         refine ⟨?_, ?_⟩
         ·omega
         refine ⟨?_, ?_⟩
         ·omega
         refine ⟨?_, ?_⟩
         ·omega
         refine ⟨?_, ?_⟩
         ·omega
         refine ⟨?_, ?_⟩
         ·first | (simp only [hst, hlr, ZN3, ZNM]; first | omega | assumption | done) | (simp only [hst, hlr, ZN3, ZNM]; done)
         refine ⟨?_, ?_⟩
         ·first | (simp only [hst, hlr, ZN3, ZNM]; first | omega | assumption | done) | (simp only [hst, hlr, ZN3, ZNM]; done)
         refine ⟨?_, ?_⟩
         ·first | (simp only [hst, hlr, ZN3, ZNM]; first | omega | assumption | done) | (simp only [hst, hlr, ZN3, ZNM]; done)
         refine ⟨?_, ?_⟩
         ·first | (simp only [hst, hlr, ZN3, ZNM]; first | omega | assumption | done) | (simp only [hst, hlr, ZN3, ZNM]; done)
         refine ⟨?_, ?_⟩
         ·first | (rw [hst]; exact List.Perm.nil)
         refine ⟨?_, ?_⟩
         ·first | (rw [hst]; exact h54)
         refine ⟨?_, ?_⟩
         ·first | (rw [hst]; exact h55)
         refine ⟨?_, ?_⟩
         ·first | (rw [hst]; done) | (rw [hst]; rfl)
         refine ⟨?_, ?_⟩
         ·first | (rw [hst]; done) | (rw [hst]; rfl)
         refine ⟨?_, ?_⟩
         ·first | (rw [hst]; done) | (rw [hst]; rfl)
         refine ⟨?_, ?_⟩
         ·first | (rw [hst, Y5 hJR hJl hwho]; done) | (rw [hst]; done)
         refine ⟨?_, ?_⟩
         ·first | (simp only [hst, hlr, ZN3, ZNM]; first | omega | assumption | done) | (simp only [hst, hlr, ZN3, ZNM]; done)
         refine ⟨?_, ?_⟩
         ·first | (simp only [hst, hlr, ZN3, ZNM]; first | omega | assumption | done) | (simp only [hst, hlr, ZN3, ZNM]; done)
         trivial
        ·skip
         intro h697
         have hF := htold 1 (st2c hj h666 h697 hnop)
         refine ⟨?_, ?_⟩
         ·first | (with_reducible rfl) | (with_reducible exact hck.symm) | (rw [hF]; done) | (rw [hF]; with_reducible exact h54.symm) | (rw [hF]; with_reducible exact h55.symm) | (rw [hF]; rfl) | (rw [Za.2 h22]; rfl) | trivial
         refine ⟨?_, ?_⟩
         ·first | (with_reducible rfl) | (with_reducible exact hck.symm) | (rw [hF]; done) | (rw [hF]; with_reducible exact h54.symm) | (rw [hF]; with_reducible exact h55.symm) | (rw [hF]; rfl) | (rw [Za.2 h22]; rfl) | trivial
         refine ⟨?_, ?_⟩
         ·first | (with_reducible rfl) | (with_reducible exact hck.symm) | (rw [hF]; done) | (rw [hF]; with_reducible exact h54.symm) | (rw [hF]; with_reducible exact h55.symm) | (rw [hF]; rfl) | (rw [Za.2 h22]; rfl) | trivial
         refine ⟨?_, ?_⟩
         ·first | (with_reducible rfl) | (with_reducible exact hck.symm) | (rw [hF]; done) | (rw [hF]; with_reducible exact h54.symm) | (rw [hF]; with_reducible exact h55.symm) | (rw [hF]; rfl) | (rw [Za.2 h22]; rfl) | trivial
         refine ⟨?_, ?_⟩
         ·first | (with_reducible rfl) | (with_reducible exact hck.symm) | (rw [hF]; done) | (rw [hF]; with_reducible exact h54.symm) | (rw [hF]; with_reducible exact h55.symm) | (rw [hF]; rfl) | (rw [Za.2 h22]; rfl) | trivial
         refine ⟨?_, ?_⟩
         ·first | (with_reducible rfl) | (with_reducible exact hck.symm) | (rw [hF]; done) | (rw [hF]; with_reducible exact h54.symm) | (rw [hF]; with_reducible exact h55.symm) | (rw [hF]; rfl) | (rw [Za.2 h22]; rfl) | trivial
         refine ⟨?_, ?_⟩
         ·first | (with_reducible rfl) | (with_reducible exact hck.symm) | (rw [hF]; done) | (rw [hF]; with_reducible exact h54.symm) | (rw [hF]; with_reducible exact h55.symm) | (rw [hF]; rfl) | (rw [Za.2 h22]; rfl) | trivial
         refine ⟨?_, ?_⟩
         ·first | (with_reducible rfl) | (with_reducible exact hck.symm) | (rw [hF]; done) | (rw [hF]; with_reducible exact h54.symm) | (rw [hF]; with_reducible exact h55.symm) | (rw [hF]; rfl) | (rw [Za.2 h22]; rfl) | trivial
         refine ⟨?_, ?_⟩
         ·first | (with_reducible rfl) | (with_reducible exact hck.symm) | (rw [hF]; done) | (rw [hF]; with_reducible exact h54.symm) | (rw [hF]; with_reducible exact h55.symm) | (rw [hF]; rfl) | (rw [Za.2 h22]; rfl) | trivial
         refine ⟨?_, ?_⟩
         ·first | (with_reducible rfl) | (with_reducible exact hck.symm) | (rw [hF]; done) | (rw [hF]; with_reducible exact h54.symm) | (rw [hF]; with_reducible exact h55.symm) | (rw [hF]; rfl) | (rw [Za.2 h22]; rfl) | trivial
         trivial
       ·skip
        intro h710
        refine ⟨?_, ?_⟩
        ·skip
         intro h712
         refine ⟨?_, ?_⟩
         ·skip
          intro h714
          have hF := htold 1 (ZMQ hj (.inl h712) hnop)
          refine ⟨?_, ?_⟩
          ·first | (with_reducible rfl) | (with_reducible exact hck.symm) | (rw [hF]; done) | (rw [hF]; with_reducible exact h54.symm) | (rw [hF]; with_reducible exact h55.symm) | (rw [hF]; rfl) | (rw [Za.2 h22]; rfl) | trivial
          refine ⟨?_, ?_⟩
          ·first | (with_reducible rfl) | (with_reducible exact hck.symm) | (rw [hF]; done) | (rw [hF]; with_reducible exact h54.symm) | (rw [hF]; with_reducible exact h55.symm) | (rw [hF]; rfl) | (rw [Za.2 h22]; rfl) | trivial
          refine ⟨?_, ?_⟩
          ·first | (with_reducible rfl) | (with_reducible exact hck.symm) | (rw [hF]; done) | (rw [hF]; with_reducible exact h54.symm) | (rw [hF]; with_reducible exact h55.symm) | (rw [hF]; rfl) | (rw [Za.2 h22]; rfl) | trivial
          refine ⟨?_, ?_⟩
          ·first | (with_reducible rfl) | (with_reducible exact hck.symm) | (rw [hF]; done) | (rw [hF]; with_reducible exact h54.symm) | (rw [hF]; with_reducible exact h55.symm) | (rw [hF]; rfl) | (rw [Za.2 h22]; rfl) | trivial
          refine ⟨?_, ?_⟩
          ·first | (with_reducible rfl) | (with_reducible exact hck.symm) | (rw [hF]; done) | (rw [hF]; with_reducible exact h54.symm) | (rw [hF]; with_reducible exact h55.symm) | (rw [hF]; rfl) | (rw [Za.2 h22]; rfl) | trivial
          refine ⟨?_, ?_⟩
          ·first | (with_reducible rfl) | (with_reducible exact hck.symm) | (rw [hF]; done) | (rw [hF]; with_reducible exact h54.symm) | (rw [hF]; with_reducible exact h55.symm) | (rw [hF]; rfl) | (rw [Za.2 h22]; rfl) | trivial
          refine ⟨?_, ?_⟩
          ·first | (with_reducible rfl) | (with_reducible exact hck.symm) | (rw [hF]; done) | (rw [hF]; with_reducible exact h54.symm) | (rw [hF]; with_reducible exact h55.symm) | (rw [hF]; rfl) | (rw [Za.2 h22]; rfl) | trivial
          refine ⟨?_, ?_⟩
          ·first | (with_reducible rfl) | (with_reducible exact hck.symm) | (rw [hF]; done) | (rw [hF]; with_reducible exact h54.symm) | (rw [hF]; with_reducible exact h55.symm) | (rw [hF]; rfl) | (rw [Za.2 h22]; rfl) | trivial
          refine ⟨?_, ?_⟩
          ·first | (with_reducible rfl) | (with_reducible exact hck.symm) | (rw [hF]; done) | (rw [hF]; with_reducible exact h54.symm) | (rw [hF]; with_reducible exact h55.symm) | (rw [hF]; rfl) | (rw [Za.2 h22]; rfl) | trivial
          refine ⟨?_, ?_⟩
          ·first | (with_reducible rfl) | (with_reducible exact hck.symm) | (rw [hF]; done) | (rw [hF]; with_reducible exact h54.symm) | (rw [hF]; with_reducible exact h55.symm) | (rw [hF]; rfl) | (rw [Za.2 h22]; rfl) | trivial
          trivial
         ·skip
          trivial
        ·skip
         intro h729
         refine ⟨?_, ?_⟩
         ·skip
          intro h731
          have hF := htold 1 (ZMQ hj (.inr h731) hnop)
          refine ⟨?_, ?_⟩
          ·first | (with_reducible rfl) | (with_reducible exact hck.symm) | (rw [hF]; done) | (rw [hF]; with_reducible exact h54.symm) | (rw [hF]; with_reducible exact h55.symm) | (rw [hF]; rfl) | (rw [Za.2 h22]; rfl) | trivial
          refine ⟨?_, ?_⟩
          ·first | (with_reducible rfl) | (with_reducible exact hck.symm) | (rw [hF]; done) | (rw [hF]; with_reducible exact h54.symm) | (rw [hF]; with_reducible exact h55.symm) | (rw [hF]; rfl) | (rw [Za.2 h22]; rfl) | trivial
          refine ⟨?_, ?_⟩
          ·first | (with_reducible rfl) | (with_reducible exact hck.symm) | (rw [hF]; done) | (rw [hF]; with_reducible exact h54.symm) | (rw [hF]; with_reducible exact h55.symm) | (rw [hF]; rfl) | (rw [Za.2 h22]; rfl) | trivial
          refine ⟨?_, ?_⟩
          ·first | (with_reducible rfl) | (with_reducible exact hck.symm) | (rw [hF]; done) | (rw [hF]; with_reducible exact h54.symm) | (rw [hF]; with_reducible exact h55.symm) | (rw [hF]; rfl) | (rw [Za.2 h22]; rfl) | trivial
          refine ⟨?_, ?_⟩
          ·first | (with_reducible rfl) | (with_reducible exact hck.symm) | (rw [hF]; done) | (rw [hF]; with_reducible exact h54.symm) | (rw [hF]; with_reducible exact h55.symm) | (rw [hF]; rfl) | (rw [Za.2 h22]; rfl) | trivial
          refine ⟨?_, ?_⟩
          ·first | (with_reducible rfl) | (with_reducible exact hck.symm) | (rw [hF]; done) | (rw [hF]; with_reducible exact h54.symm) | (rw [hF]; with_reducible exact h55.symm) | (rw [hF]; rfl) | (rw [Za.2 h22]; rfl) | trivial
          refine ⟨?_, ?_⟩
          ·first | (with_reducible rfl) | (with_reducible exact hck.symm) | (rw [hF]; done) | (rw [hF]; with_reducible exact h54.symm) | (rw [hF]; with_reducible exact h55.symm) | (rw [hF]; rfl) | (rw [Za.2 h22]; rfl) | trivial
          refine ⟨?_, ?_⟩
          ·first | (with_reducible rfl) | (with_reducible exact hck.symm) | (rw [hF]; done) | (rw [hF]; with_reducible exact h54.symm) | (rw [hF]; with_reducible exact h55.symm) | (rw [hF]; rfl) | (rw [Za.2 h22]; rfl) | trivial
          refine ⟨?_, ?_⟩
          ·first | (with_reducible rfl) | (with_reducible exact hck.symm) | (rw [hF]; done) | (rw [hF]; with_reducible exact h54.symm) | (rw [hF]; with_reducible exact h55.symm) | (rw [hF]; rfl) | (rw [Za.2 h22]; rfl) | trivial
          refine ⟨?_, ?_⟩
          ·first | (with_reducible rfl) | (with_reducible exact hck.symm) | (rw [hF]; done) | (rw [hF]; with_reducible exact h54.symm) | (rw [hF]; with_reducible exact h55.symm) | (rw [hF]; rfl) | (rw [Za.2 h22]; rfl) | trivial
          trivial
         ·skip
          intro h744
          refine ⟨?_, ?_⟩
          ·skip
           intro h746
           have hF := htold 1 (st6b hj h746 hnop)
           refine ⟨?_, ?_⟩
           ·first | (with_reducible rfl) | (with_reducible exact hck.symm) | (rw [hF]; done) | (rw [hF]; with_reducible exact h54.symm) | (rw [hF]; with_reducible exact h55.symm) | (rw [hF]; rfl) | (rw [Za.2 h22]; rfl) | trivial
           refine ⟨?_, ?_⟩
           ·first | (with_reducible rfl) | (with_reducible exact hck.symm) | (rw [hF]; done) | (rw [hF]; with_reducible exact h54.symm) | (rw [hF]; with_reducible exact h55.symm) | (rw [hF]; rfl) | (rw [Za.2 h22]; rfl) | trivial
           refine ⟨?_, ?_⟩
           ·first | (with_reducible rfl) | (with_reducible exact hck.symm) | (rw [hF]; done) | (rw [hF]; with_reducible exact h54.symm) | (rw [hF]; with_reducible exact h55.symm) | (rw [hF]; rfl) | (rw [Za.2 h22]; rfl) | trivial
           refine ⟨?_, ?_⟩
           ·first | (with_reducible rfl) | (with_reducible exact hck.symm) | (rw [hF]; done) | (rw [hF]; with_reducible exact h54.symm) | (rw [hF]; with_reducible exact h55.symm) | (rw [hF]; rfl) | (rw [Za.2 h22]; rfl) | trivial
           refine ⟨?_, ?_⟩
           ·first | (with_reducible rfl) | (with_reducible exact hck.symm) | (rw [hF]; done) | (rw [hF]; with_reducible exact h54.symm) | (rw [hF]; with_reducible exact h55.symm) | (rw [hF]; rfl) | (rw [Za.2 h22]; rfl) | trivial
           refine ⟨?_, ?_⟩
           ·first | (with_reducible rfl) | (with_reducible exact hck.symm) | (rw [hF]; done) | (rw [hF]; with_reducible exact h54.symm) | (rw [hF]; with_reducible exact h55.symm) | (rw [hF]; rfl) | (rw [Za.2 h22]; rfl) | trivial
           refine ⟨?_, ?_⟩
           ·first | (with_reducible rfl) | (with_reducible exact hck.symm) | (rw [hF]; done) | (rw [hF]; with_reducible exact h54.symm) | (rw [hF]; with_reducible exact h55.symm) | (rw [hF]; rfl) | (rw [Za.2 h22]; rfl) | trivial
           refine ⟨?_, ?_⟩
           ·first | (with_reducible rfl) | (with_reducible exact hck.symm) | (rw [hF]; done) | (rw [hF]; with_reducible exact h54.symm) | (rw [hF]; with_reducible exact h55.symm) | (rw [hF]; rfl) | (rw [Za.2 h22]; rfl) | trivial
           refine ⟨?_, ?_⟩
           ·first | (with_reducible rfl) | (with_reducible exact hck.symm) | (rw [hF]; done) | (rw [hF]; with_reducible exact h54.symm) | (rw [hF]; with_reducible exact h55.symm) | (rw [hF]; rfl) | (rw [Za.2 h22]; rfl) | trivial
           refine ⟨?_, ?_⟩
           ·first | (with_reducible rfl) | (with_reducible exact hck.symm) | (rw [hF]; done) | (rw [hF]; with_reducible exact h54.symm) | (rw [hF]; with_reducible exact h55.symm) | (rw [hF]; rfl) | (rw [Za.2 h22]; rfl) | trivial
           trivial
          ·skip
           intro h759
           refine ⟨?_, ?_⟩
           ·skip
            intro h761
            refine ⟨?_, ?_⟩
            ·first | omega | trivial | (with_reducible assumption)
            refine ⟨?_, ?_⟩
            ·first | omega | trivial | (with_reducible assumption)
            refine ⟨?_, ?_⟩
            ·exact h560
            refine ⟨?_, ?_⟩
            ·exact .inl h629
            intro v766
            intro h767
            refine ⟨?_, ?_⟩
            ·skip
             intro h769
             have hbad : False := by
              rw [h769] at h767
              obtain ⟨b', hb1, hb2⟩ := h560 _ ((Zl (p := _ ∈ v44)).mp h767.symm)
              injection hb1 with hb1
              obtain ⟨k, hk, rfl⟩ := hb2
              have := h58.2.2 _ (Zue hk)
              omega
             refine ⟨?_, ?_⟩
             ·exact hbad.elim
             exact hbad.elim
            ·skip
             intro h773
             have hnf : ¬ J ∈ B.fal := fun hm => hJn (hw.fi J hm)
             have hF := htold 1 (ZKc hj h761 (.inl ⟨hnop, hnf⟩))
             refine ⟨?_, ?_⟩
             ·first | (with_reducible rfl) | (with_reducible exact hck.symm) | (rw [hF]; done) | (rw [hF]; with_reducible exact h54.symm) | (rw [hF]; with_reducible exact h55.symm) | (rw [hF]; rfl) | (rw [Za.2 h22]; rfl) | trivial
             refine ⟨?_, ?_⟩
             ·first | (with_reducible rfl) | (with_reducible exact hck.symm) | (rw [hF]; done) | (rw [hF]; with_reducible exact h54.symm) | (rw [hF]; with_reducible exact h55.symm) | (rw [hF]; rfl) | (rw [Za.2 h22]; rfl) | trivial
             refine ⟨?_, ?_⟩
             ·first | (with_reducible rfl) | (with_reducible exact hck.symm) | (rw [hF]; done) | (rw [hF]; with_reducible exact h54.symm) | (rw [hF]; with_reducible exact h55.symm) | (rw [hF]; rfl) | (rw [Za.2 h22]; rfl) | trivial
             refine ⟨?_, ?_⟩
             ·first | (with_reducible rfl) | (with_reducible exact hck.symm) | (rw [hF]; done) | (rw [hF]; with_reducible exact h54.symm) | (rw [hF]; with_reducible exact h55.symm) | (rw [hF]; rfl) | (rw [Za.2 h22]; rfl) | trivial
             refine ⟨?_, ?_⟩
             ·first | (with_reducible rfl) | (with_reducible exact hck.symm) | (rw [hF]; done) | (rw [hF]; with_reducible exact h54.symm) | (rw [hF]; with_reducible exact h55.symm) | (rw [hF]; rfl) | (rw [Za.2 h22]; rfl) | trivial
             refine ⟨?_, ?_⟩
             ·first | (with_reducible rfl) | (with_reducible exact hck.symm) | (rw [hF]; done) | (rw [hF]; with_reducible exact h54.symm) | (rw [hF]; with_reducible exact h55.symm) | (rw [hF]; rfl) | (rw [Za.2 h22]; rfl) | trivial
             refine ⟨?_, ?_⟩
             ·first | (with_reducible rfl) | (with_reducible exact hck.symm) | (rw [hF]; done) | (rw [hF]; with_reducible exact h54.symm) | (rw [hF]; with_reducible exact h55.symm) | (rw [hF]; rfl) | (rw [Za.2 h22]; rfl) | trivial
             refine ⟨?_, ?_⟩
             ·first | (with_reducible rfl) | (with_reducible exact hck.symm) | (rw [hF]; done) | (rw [hF]; with_reducible exact h54.symm) | (rw [hF]; with_reducible exact h55.symm) | (rw [hF]; rfl) | (rw [Za.2 h22]; rfl) | trivial
             refine ⟨?_, ?_⟩
             ·first | (with_reducible rfl) | (with_reducible exact hck.symm) | (rw [hF]; done) | (rw [hF]; with_reducible exact h54.symm) | (rw [hF]; with_reducible exact h55.symm) | (rw [hF]; rfl) | (rw [Za.2 h22]; rfl) | trivial
             refine ⟨?_, ?_⟩
             ·first | (with_reducible rfl) | (with_reducible exact hck.symm) | (rw [hF]; done) | (rw [hF]; with_reducible exact h54.symm) | (rw [hF]; with_reducible exact h55.symm) | (rw [hF]; rfl) | (rw [Za.2 h22]; rfl) | trivial
             trivial
           ·skip
            intro h786
            refine ⟨?_, ?_⟩
            ·skip
             intro h788
             intro v789
             intro h790
             refine ⟨?_, ?_⟩
             ·first | omega | trivial | (with_reducible assumption)
             refine ⟨?_, ?_⟩
             ·rw [ZjW (ZdG h58.1)]; exact List.Perm.nil
             refine ⟨?_, ?_⟩
             ·exact ⟨by rw [Zgt h58.1]; exact hw.nd, fun _ q => q⟩
             refine ⟨?_, ?_⟩
             ·exact congrArg (fun q => U.g (GG.tx q)) (Zlc (ZdG h58.1))
             intro v795
             intro v796
             intro v797
             intro v798
             intro v799
             intro v800
             intro h801
             intro h802
             intro h803
             intro h804
             intro h805
             have hFl2 : v800.length <= B.txs.length := by have q := h804.length_eq; rw [hlr] at q; have := Zf0 v795 B.txs 0; omega
             refine ⟨?_, ?_⟩
             ·skip
              intro h807
              have hM : v795 = [] := ZOd (by omega)
              have hst := hsu.trans (st7 hj h788)
              refine ⟨?_, ?_⟩
              ·omega
              refine ⟨?_, ?_⟩
              ·omega
              refine ⟨?_, ?_⟩
              ·omega
              refine ⟨?_, ?_⟩
              ·omega
              refine ⟨?_, ?_⟩
              ·omega
              refine ⟨?_, ?_⟩
              ·first | (simp only [hst, hlr]; first | omega | assumption | done) | (simp only [hst, hlr]; done)
              refine ⟨?_, ?_⟩
              ·first | (simp only [hst, hlr]; first | omega | assumption | done) | (simp only [hst, hlr]; done)
              refine ⟨?_, ?_⟩
              ·first | (simp only [hst, hlr]; first | omega | assumption | done) | (simp only [hst, hlr]; done)
              refine ⟨?_, ?_⟩
              ·first | (simp only [hst, hlr]; first | omega | assumption | done) | (simp only [hst, hlr]; done)
              refine ⟨?_, ?_⟩
              ·rw [hst, Zf1 h803]; rw [hM, ZdB] at h804; exact h804
              refine ⟨?_, ?_⟩
              ·rw [hst]; exact h54
              refine ⟨?_, ?_⟩
              ·rw [hst]; exact h55
              refine ⟨?_, ?_⟩
              ·rw [hst, hM]; rfl
              refine ⟨?_, ?_⟩
              ·rw [hst]
              refine ⟨?_, ?_⟩
              ·rw [hst, Zf1 h803]
              refine ⟨?_, ?_⟩
              ·rw [hst]; exact congrArg U.amap (Zm3 h803 (by rw [List.map_map]; rfl))
              refine ⟨?_, ?_⟩
              ·first | (simp only [hst, hlr]; first | omega | assumption | done) | (simp only [hst, hlr]; done)
              refine ⟨?_, ?_⟩
              ·first | (simp only [hst, hlr]; first | omega | assumption | done) | (simp only [hst, hlr]; done)
              trivial
             ·skip
              intro v828
              intro h829
              have hjk0 := h805.2 _ h829
              have hAk := ZbF (w := v828) h58.1 0
              obtain ⟨j, hjd⟩ : ∃ j, ixL v828 B.txs = j := ⟨_, rfl⟩
              rw [hjd] at hAk
              have hjl : j < B.txs.length := by rw [hAk.2] at hjk0; simpa using hjk0
              have hR22 : v797.length = v37.length := by have := congrArg List.length h803; simpa using this
              have hjR : j < v797.length := by have := h58.1; omega
              have hg0 : g0 (v797.getD j []) = g0 (v37.getD j []) := by rw [<- ZcR g0 v797, <- ZcR g0 v37, h803]
              have hmk : YC 0 (Zez v37 B.txs) v828 = g0 (v797.getD j []) := by rw [hAk.1, if_pos hjl, hg0]
              have hrj := ZaL (R := v797) (by rw [h803]; exact h58.2.1) hjR
              have hwj : (B.txs.getD j tx0).who = v828 := by have := ZaK (w := v828) (L := B.txs) (by omega); rw [hjd] at this; exact this
              have hgj : (Zce B.txs v795).getD j tx0 = B.txs.getD j tx0 := by rw [ZdU _ _ hjl, hwj, if_pos h829]
              have hsl := ZdZ B.txs v795
              simp only [hmk, hrj, ZN5, Zct]
              refine ⟨?_, ?_⟩
              ·exact ⟨j, hjR, rfl⟩
              intro h831
              intro h832
              intro h833
              intro h834
              intro h835
              intro h836
              intro h837
              intro h838
              intro h839
              refine ⟨?_, ?_⟩
              ·first | omega | trivial | (with_reducible assumption)
              refine ⟨?_, ?_⟩
              ·skip
               intro h842
               rw [hgj] at h842
               intro h843
               intro h844
               intro h845
               intro h846
               intro h847
               intro h848
               intro h849
               intro h850
               intro h851
               refine ⟨?_, ?_⟩
               ·first | omega | trivial | (with_reducible assumption)
               refine ⟨?_, ?_⟩
               ·first | omega | trivial | (with_reducible assumption)
               refine ⟨?_, ?_⟩
               ·first | omega | trivial | (with_reducible assumption)
               refine ⟨?_, ?_⟩
               ·first | omega | trivial | (with_reducible assumption)
               intro v856
               intro h857
               refine ⟨?_, ?_⟩
               ·first | omega | trivial | (with_reducible assumption)
               refine ⟨?_, ?_⟩
               ·first | omega | trivial | (with_reducible assumption)
               intro v860
               intro v861
               intro h862
               intro h863
               refine ⟨?_, ?_⟩
               ·have := Zda h829; omega
               refine ⟨?_, ?_⟩
               ·rw [Zft hjR]; exact (YB (f := g0) (d := []) (x := g0 (v797.getD j []) :: _) rfl hjR).trans h803
               refine ⟨?_, ?_⟩
               ·refine (h804.append_right _).trans ?_
                rw [hg0, <- Zd2]
                exact Zd5 (Zlq h805.1 hw.nd hjd hjl h829 h842)
               refine ⟨?_, ?_⟩
               ·exact ⟨Zbv h805.1 _, fun q hq => h805.2 q (by rw [Zaz h805.1] at hq; simp only [Bool.and_eq_true] at hq; exact hq.2)⟩
               refine ⟨?_, ?_⟩
               ·rw [Ze6 (by rw [hsl]; exact hjl), Zgx h805.1 hw.nd hjd hjl h829, hgj]; rfl
               trivial
              ·skip
               intro h871
               rw [hgj] at h871
               refine ⟨?_, ?_⟩
               ·have := Zda h829; omega
               refine ⟨?_, ?_⟩
               ·exact h804.trans (Zd5 (Zhz h805.1 hw.nd hjd hjl h871))
               refine ⟨?_, ?_⟩
               ·exact ⟨Zbv h805.1 _, fun q hq => h805.2 q (by rw [Zaz h805.1] at hq; simp only [Bool.and_eq_true] at hq; exact hq.2)⟩
               refine ⟨?_, ?_⟩
               ·exact congrArg (fun q => U.g (GG.tx q)) (ZhE h805.1 hw.nd hjd hjl h829 (by rw [hgj]; exact h871))
               trivial
            ·skip
             intro h878
             have hst := hsu.trans (st0 hj ⟨h664, h710, h729, h744, h786, h759, h878⟩)
             refine ⟨?_, ?_⟩
             ·omega
             refine ⟨?_, ?_⟩
             ·omega
             refine ⟨?_, ?_⟩
             ·omega
             refine ⟨?_, ?_⟩
             ·omega
             refine ⟨?_, ?_⟩
             ·omega
             refine ⟨?_, ?_⟩
             ·first | (simp only [hst, hlr, ZN3, ZNM]; first | omega | assumption | done) | (simp only [hst, hlr, ZN3, ZNM]; done)
             refine ⟨?_, ?_⟩
             ·first | (simp only [hst, hlr, ZN3, ZNM]; first | omega | assumption | done) | (simp only [hst, hlr, ZN3, ZNM]; done)
             refine ⟨?_, ?_⟩
             ·first | (simp only [hst, hlr, ZN3, ZNM]; first | omega | assumption | done) | (simp only [hst, hlr, ZN3, ZNM]; done)
             refine ⟨?_, ?_⟩
             ·first | (simp only [hst, hlr, ZN3, ZNM]; first | omega | assumption | done) | (simp only [hst, hlr, ZN3, ZNM]; done)
             refine ⟨?_, ?_⟩
             ·first | (rw [hst]; exact h53)
             refine ⟨?_, ?_⟩
             ·first | (rw [hst]; exact h54)
             refine ⟨?_, ?_⟩
             ·first | (rw [hst]; exact h55)
             refine ⟨?_, ?_⟩
             ·first | (rw [hst]; done) | (rw [hst]; rfl)
             refine ⟨?_, ?_⟩
             ·first | (rw [hst]; done) | (rw [hst]; rfl)
             refine ⟨?_, ?_⟩
             ·first | (rw [hst]; done) | (rw [hst]; rfl)
             refine ⟨?_, ?_⟩
             ·first | (rw [hst, Y5 hJR hJl hwho]; done) | (rw [hst]; done)
             refine ⟨?_, ?_⟩
             ·first | (simp only [hst, hlr, ZN3, ZNM]; first | omega | assumption | done) | (simp only [hst, hlr, ZN3, ZNM]; done)
             refine ⟨?_, ?_⟩
             ·first | (simp only [hst, hlr, ZN3, ZNM]; first | omega | assumption | done) | (simp only [hst, hlr, ZN3, ZNM]; done)
             trivial
   ·skip
    intro h899
    have hF : Z4 X X.length = B := by rw [show X.length = n by omega]; exact hB
    refine ⟨?_, ?_⟩
    ·first | (with_reducible rfl) | (with_reducible exact hck.symm) | (rw [hF]; done) | (rw [hF]; with_reducible exact h54.symm) | (rw [hF]; with_reducible exact h55.symm) | (rw [hF]; rfl) | (rw [Za.2 h22]; rfl) | trivial
    refine ⟨?_, ?_⟩
    ·first | (with_reducible rfl) | (with_reducible exact hck.symm) | (rw [hF]; done) | (rw [hF]; with_reducible exact h54.symm) | (rw [hF]; with_reducible exact h55.symm) | (rw [hF]; rfl) | (rw [Za.2 h22]; rfl) | trivial
    refine ⟨?_, ?_⟩
    ·first | (with_reducible rfl) | (with_reducible exact hck.symm) | (rw [hF]; done) | (rw [hF]; with_reducible exact h54.symm) | (rw [hF]; with_reducible exact h55.symm) | (rw [hF]; rfl) | (rw [Za.2 h22]; rfl) | trivial
    refine ⟨?_, ?_⟩
    ·first | (with_reducible rfl) | (with_reducible exact hck.symm) | (rw [hF]; done) | (rw [hF]; with_reducible exact h54.symm) | (rw [hF]; with_reducible exact h55.symm) | (rw [hF]; rfl) | (rw [Za.2 h22]; rfl) | trivial
    refine ⟨?_, ?_⟩
    ·first | (with_reducible rfl) | (with_reducible exact hck.symm) | (rw [hF]; done) | (rw [hF]; with_reducible exact h54.symm) | (rw [hF]; with_reducible exact h55.symm) | (rw [hF]; rfl) | (rw [Za.2 h22]; rfl) | trivial
    refine ⟨?_, ?_⟩
    ·first | (with_reducible rfl) | (with_reducible exact hck.symm) | (rw [hF]; done) | (rw [hF]; with_reducible exact h54.symm) | (rw [hF]; with_reducible exact h55.symm) | (rw [hF]; rfl) | (rw [Za.2 h22]; rfl) | trivial
    refine ⟨?_, ?_⟩
    ·first | (with_reducible rfl) | (with_reducible exact hck.symm) | (rw [hF]; done) | (rw [hF]; with_reducible exact h54.symm) | (rw [hF]; with_reducible exact h55.symm) | (rw [hF]; rfl) | (rw [Za.2 h22]; rfl) | trivial
    refine ⟨?_, ?_⟩
    ·first | (with_reducible rfl) | (with_reducible exact hck.symm) | (rw [hF]; done) | (rw [hF]; with_reducible exact h54.symm) | (rw [hF]; with_reducible exact h55.symm) | (rw [hF]; rfl) | (rw [Za.2 h22]; rfl) | trivial
    refine ⟨?_, ?_⟩
    ·first | (with_reducible rfl) | (with_reducible exact hck.symm) | (rw [hF]; done) | (rw [hF]; with_reducible exact h54.symm) | (rw [hF]; with_reducible exact h55.symm) | (rw [hF]; rfl) | (rw [Za.2 h22]; rfl) | trivial
    refine ⟨?_, ?_⟩
    ·first | (with_reducible rfl) | (with_reducible exact hck.symm) | (rw [hF]; done) | (rw [hF]; with_reducible exact h54.symm) | (rw [hF]; with_reducible exact h55.symm) | (rw [hF]; rfl) | (rw [Za.2 h22]; rfl) | trivial
    trivial
/-! ### Plain words -/
def ZdW (s : Int × Int) (i r : Int) : Int × Int := if i < s.1 then (i, r) else s
def ZlS (l : List Int) : Int × Int := (l.getD 0 0, l.getD 1 0)
def ZE6 (s : Int × Int) (l : List Int) : Nat -> Int × Int
 | 0 => s
 | j + 1 => ZdW (ZE6 s l j) (l.getD j 0) 3
def YD (F : Int -> Int -> Prop) (n : Int) (s : Int × Int) : Prop := (s = (n, 0) /\ ∀ i r, ¬ F i r) \/ (s.2 ≠ 0 /\ F s.1 s.2 /\ ∀ i r, F i r -> s.1 <= i)
def ZBb (B : Bk) (left : List (Int × Int)) (i r : Int) : Prop := r = 3 /\ ∃ t ∈ B.txs, Zx left t.who = false /\ i ∈ t.bad
def ZmO (B : Bk) (left : List (Int × Int)) : List Ent := B.out ++ (B.txs.filter fun t => !Zx left t.who && decide (t.com < 0)).flatMap (·.rds)
def SrtP (x y : List (List Int)) : Prop := y.Perm x /\ y.Pairwise fun a b => g0 a <= g0 b
def stF (B : Bk) : Nat -> Int -> Bool × (List UInt8 × Bool)
 | 0, _ => (false, vw 0)
 | k + 1, q => if Zx (B.txs.getD (B.kept.getD k 0) tx0).ch q = true then (true, vw (YC 0 (B.txs.getD (B.kept.getD k 0) tx0).ch q)) else stF B k q
def ZgU (m : List (Int × Int)) (f : Int -> Bool × (List UInt8 × Bool)) : Prop := ∀ q, Zx m q = (f q).1 /\ vw (YC 0 m q) = (f q).2
def ZY (f : Int -> Bool × (List UInt8 × Bool)) (r : Ent) : Bool := (ZbW r == ((f (kc r)).1 && (f (kc r)).2.2)) && (!ZbW r || ZaB r == (f (kc r)).2.1)
def Zso (f : Ent -> Bool) (L : List (List Int)) (place : Int) : Nat -> Nat -> Int × Int -> Nat × (Int × Int)
 | 0, p, s => (p, s)
 | n + 1, p, s => if p < L.length /\ g0 (L.getD p []) < place then Zso f L place n (p + 1) (if f ((L.getD p []).drop 1) = true then s else ZdW s (g0 (L.getD p [])) 4) else (p, s)
def Zfa (f : Ent -> Bool) (L : List (List Int)) (place : Int) (p : Nat) (s : Int × Int) : Nat × (Int × Int) := Zso f L place (L.length - p) p s
def Zjm (f : Ent -> Bool) (s : Int × Int) (l : List (List Int)) : Nat -> Int × Int
 | 0 => s
 | j + 1 => if f ((l.getD j []).drop 1) = true then Zjm f s l j else ZdW (Zjm f s l j) (g0 (l.getD j [])) 4
def YU (B : Bk) (L : List (List Int)) (s : Int × Int) : Nat -> Nat × (Int × Int)
 | 0 => (0, s)
 | k + 1 =>
  let e := Zfa (ZY (stF B k)) L (B.txs.getD (B.kept.getD k 0) tx0).com (YU B L s k).1 (YU B L s k).2
  (e.1, Zjm (ZY (stF B k)) e.2 (B.txs.getD (B.kept.getD k 0) tx0).rds (B.txs.getD (B.kept.getD k 0) tx0).rds.length)
theorem ZmG {m : List (Int × Int)} {f : Int -> Bool × (List UInt8 × Bool)} (h : ZgU m f) (r : Ent) : ZZ m r = ZY f r := by
 obtain ⟨h1, h2⟩ := h (kc r)
 have a := congrArg Prod.fst h2
 have b := congrArg Prod.snd h2
 have a : YW ((YC 0 m (kc r)).tdiv 2).toNat = (f (kc r)).2.1 := a
 have b : decide ((YC 0 m (kc r)).tmod 2 = 0) = (f (kc r)).2.2 := b
 unfold ZZ ZY
 rw [h1, a, b]
theorem Zzk {f : Ent -> Bool} {L : List (List Int)} {place : Int} {p : Nat} (s : Int × Int) (h : p < L.length) (h2 : g0 (L.getD p []) < place) :
  Zfa f L place p s = Zfa f L place (p + 1) (if f ((L.getD p []).drop 1) = true then s else ZdW s (g0 (L.getD p [])) 4) := by
 unfold Zfa
 rw [show L.length - p = (L.length - (p + 1)) + 1 by omega]
 show (if _ then _ else _) = _
 rw [if_pos ⟨h, h2⟩]
theorem Zzz {f : Ent -> Bool} {L : List (List Int)} {place : Int} {p : Nat} (s : Int × Int) (h : ¬ (p < L.length /\ g0 (L.getD p []) < place)) : Zfa f L place p s = (p, s) := by
 unfold Zfa
 cases L.length - p with
 | zero => rfl
 | succ n => show (if _ then _ else _) = _; rw [if_neg h]
theorem ZpA {B : Bk} {k : Nat} {m c m' : List (Int × Int)} (h : ZgU m (stF B k)) (hc : c = (B.txs.getD (B.kept.getD k 0) tx0).ch) (hl : ZvE m c m') : ZgU m' (stF B (k + 1)) := by
 intro q
 obtain ⟨a, b⟩ := hl q
 obtain ⟨c1, c2⟩ := h q
 subst hc
 show _ = (if _ then _ else _ : Bool × (List UInt8 × Bool)).1 /\ _ = (if _ then _ else _ : Bool × (List UInt8 × Bool)).2
 rw [a, b]
 by_cases hq : Zx (B.txs.getD (B.kept.getD k 0) tx0).ch q = true
 ·rw [if_pos hq, if_pos hq, hq]; exact ⟨by simp, rfl⟩
 ·rw [if_neg hq, if_neg hq, c1, c2, show Zx (B.txs.getD (B.kept.getD k 0) tx0).ch q = false by simpa using hq]; exact ⟨by simp, rfl⟩
def ZjS (x : List Ent) : Bk := Z4 x x.length
def ZIx (a : List (List Int)) (m : List (Int × Int)) (l : List Int) : Nat × (Int × Int) := Zfa (ZZ m) a (l.getD 3 0) (l.getD 0 0).toNat (l.getD 1 0, l.getD 2 0)
theorem Zui (L : List (List Int)) (m : List (Int × Int)) (k a w pl : Int) : ZIx L m [k, a, w, pl] = Zfa (ZZ m) L pl k.toNat (a, w) := rfl
theorem Zjk (r : List Int) : [r.getD 1 0, r.getD 2 0, ((Zs (YW (r.getD 3 0).toNat) : Nat) : Int), ((Zs (YW (r.getD 4 0).toNat) : Nat) : Int), b01 (!r.getD 5 0 == 0), r.getD 6 0] = nr (r.drop 1) := by cases r <;> rfl
structure JsSig (S : Sig GG) : Prop where
 jt : JtSig S
 u580 : ∀ a b c d, S.usr 580 a b c d = .bool (Zn (SrtP a.tR b.tR))
 u582 : ∀ a b c d, S.usr 582 a b c d = .int (ZdW (a.tI, b.tI) c.tI d.tI).1
 u583 : ∀ a b c d, S.usr 583 a b c d = .int (ZdW (a.tI, b.tI) c.tI d.tI).2
 u584 : ∀ a b c d, S.usr 584 a b c d = .int (ZE6 (ZlS a.tN) b.tN c.tI.toNat).1
 u585 : ∀ a b c d, S.usr 585 a b c d = .int (ZE6 (ZlS a.tN) b.tN c.tI.toNat).2
 u586 : ∀ a b c d, S.usr 586 a b c d = .bool (Zn (YD (ZBb (ZjS a.tR) b.tM) d.tI (ZlS c.tN)))
 u587 : ∀ a b c d, S.usr 587 a b c d = .bool (Zn (c.tR.Perm (ZmO (ZjS a.tR) b.tM)))
 u590 : ∀ a b c d, S.usr 590 a b c d = .int ((ZIx a.tR b.tM c.tN).1 : Nat)
 u591 : ∀ a b c d, S.usr 591 a b c d = .int (ZIx a.tR b.tM c.tN).2.1
 u592 : ∀ a b c d, S.usr 592 a b c d = .int (ZIx a.tR b.tM c.tN).2.2
 u593 : ∀ a b c d, S.usr 593 a b c d = .int ((YU (ZjS a.tR) b.tR (ZlS c.tN) d.tI.toNat).1 : Nat)
 u594 : ∀ a b c d, S.usr 594 a b c d = .int (YU (ZjS a.tR) b.tR (ZlS c.tN) d.tI.toNat).2.1
 u595 : ∀ a b c d, S.usr 595 a b c d = .int (YU (ZjS a.tR) b.tR (ZlS c.tN) d.tI.toNat).2.2
 u596 : ∀ a b c d, S.usr 596 a b c d = .bool (Zn (ZgU c.tM (stF (ZjS a.tR) b.tI.toNat)))
 u597 : ∀ a b c d, S.usr 597 a b c d = .int (Zjm (ZZ d.tM) (ZlS a.tN) b.tR c.tI.toNat).1
 u598 : ∀ a b c d, S.usr 598 a b c d = .int (Zjm (ZZ d.tM) (ZlS a.tN) b.tR c.tI.toNat).2
theorem JsSig.of {S T : Sig GG} (h : JsSig S) (hu : T.usr = S.usr) (hp : T.prd = S.prd) : JsSig T := by
 constructor
 ·exact h.jt.of hu hp
 all_goals (rw [hu]; first | exact h.u580 | exact h.u582 | exact h.u583 | exact h.u584 | exact h.u585 | exact h.u586 | exact h.u587 | exact h.u590 | exact h.u591 | exact h.u592 | exact h.u593 | exact h.u594 | exact h.u595 | exact h.u596 | exact h.u597 | exact h.u598)
/-! ### Contracts -/
def srtX (x y : SX) : SX := usB 580 x y z0
def Zcx : Ctr := ⟨[.int, .rows, .int, .int, .int], [.one (.slice (ai 0) z0 z0 z0 (ai 2) (ai 3) 7), .one (.fn 45)], [rAr (ai 0) (rA 1) (ai 4)],
 [eLe z0 (ai 2), .f2 45 (ai 2) (Zj (rA 1)), eLe (ai 2) (ai 3), eLe (ai 2) (.int 140737488355328)], [.rows], .tup [], [rAr (ai 0) (rA 5) (ai 4)], [.f2 45 (Zj (rA 5)) (Zj (rA 1)), srtX (rA 1) (rA 5)]⟩
def Zvs : Ctr := ⟨[.int, .int, .int, .rows, .int], [.one (slC (ai 0) (ai 1) (ai 2) 7)], [rAr (ai 0) (rA 3) (ai 4)], [.f2 45 (ai 1) (Zj (rA 3)), eLe (ai 1) (ai 2), eLe (ai 1) mil, .f2 50 (eLe z0 (ai 0)) (.f2 45 (ai 1) z0)], [.int, .int], .one (slC (ai 5) (ai 1) (ai 6) 7),
 [rAr (ai 0) (rA 3) (ai 4), rAr (ai 5) (rA 3) (ai 6)], [eLe (ai 1) (ai 6), .f2 50 (eLe z0 (ai 5)) (.f2 45 (ai 1) z0)]⟩
def ZJ2 : Cx := { specs := [], anns := [(43, [(999999, .ghost ZJK [])])] }
def Zyp : Ctr := ⟨[.int, .int, .int, .int, .int, .int], [.one (.int .i64 (ai 0)), .one (.int .i64 (ai 1)), .one (.ptr (ai 2) 0), .one (.ptr (ai 3) 0)], [.cel (ai 2) 0 [.int .i64 (ai 4)], .cel (ai 3) 0 [.int .i64 (ai 5)]], [], [], .tup [],
 [.cel (ai 2) 0 [.int .i64 (.us .int 582 (ai 4) (ai 5) (ai 0) (ai 1))], .cel (ai 3) 0 [.int .i64 (.us .int 583 (ai 4) (ai 5) (ai 0) (ai 1))]], []⟩
def ZNK : Cx := { specs := [], anns := [] }
def notS : List (Nat × List Ctr) := [(42, [Zyp])]
def clN (a b : SX) : SC := .cap (.cap (.fn 42) (.ptr a 0)) (.ptr b 0)
def endI : Inv := ⟨[.int, .int, .int, .int, .int, .int], [], [.cel (ai 1) 0 [.slice (ai 6) z0 (di 0) (di 1) (di 2) (di 3) 7], .cel (ai 4) 0 [.int .i64 (di 4)], .cel (ai 5) 0 [.int .i64 (di 5)]],
 [eLe z0 (di 0), eLe z0 (di 2), .f2 45 (.f2 40 (di 0) (di 2)) (Zj (rA 11)), eLe (di 2) (di 3)] ++
 [590, 591, 592].map fun k => .f2 45 (usI k (rA 11) (mA 14) (Zdd (di 0) (di 4) (di 5) (ai 0))) (usI k (rA 11) (mA 14) (Zdd (ai 7) (ai 15) (ai 16) (ai 0))), di 2⟩
def ZsS : Ctr := ⟨[.int, .int, .int, .int, .int, .int, .int, .int, .int, .int, .int, .rows, .int, .int, .amap, .int, .int], [.one (.int .i64 (ai 0)), .one (.ptr (ai 1) 0), .one (.ptr (ai 2) 0), .one (.ptr (ai 3) 0)],
 [.cel (ai 1) 0 [.slice (ai 6) z0 (ai 7) (ai 8) (ai 9) (ai 10) 7], rAr (ai 6) (rA 11) (ai 12), .cel (ai 2) 0 [.map (ai 13)], scC (ai 13) (mA 14), .cel (ai 3) 0 [clN (ai 4) (ai 5)], .cel (ai 4) 0 [.int .i64 (ai 15)], .cel (ai 5) 0 [.int .i64 (ai 16)]],
 [eLe z0 (ai 7), eLe z0 (ai 9), .f2 45 (.f2 40 (ai 7) (ai 9)) (Zj (rA 11)), eLe (ai 9) (ai 10), eLe (Zj (rA 11)) mil, eLe z0 (ai 13), .f2 50 (eLe z0 (ai 6)) (.f2 45 (ai 9) z0)], [.int, .int, .int], .tup [],
 [.cel (ai 1) 0 [.slice (ai 6) z0 (usI 590 (rA 11) (mA 14) (Zdd (ai 7) (ai 15) (ai 16) (ai 0))) (ai 17) (ai 18) (ai 19) 7], rAr (ai 6) (rA 11) (ai 12), .cel (ai 2) 0 [.map (ai 13)], scC (ai 13) (mA 14), .cel (ai 3) 0 [clN (ai 4) (ai 5)],
  .cel (ai 4) 0 [.int .i64 (usI 591 (rA 11) (mA 14) (Zdd (ai 7) (ai 15) (ai 16) (ai 0)))], .cel (ai 5) 0 [.int .i64 (usI 592 (rA 11) (mA 14) (Zdd (ai 7) (ai 15) (ai 16) (ai 0)))]],
 [eLe z0 (ai 18), eLe (ai 18) (ai 19), .f2 45 (.f2 40 (usI 590 (rA 11) (mA 14) (Zdd (ai 7) (ai 15) (ai 16) (ai 0))) (ai 18)) (Zj (rA 11))]⟩
def ZJP : Cx := { specs := notS ++ [(47, [Zie])], anns := [(46, [(0, .inv endI)])] }
def ZHn : SX := l z (a 0)
def ZyU : SX := e (a 1) z
def ZK7 : VC := i (e (a 1) (.f1 32 (r 3))) (i (l (a 1) (a 2)) (i (l (a 1) (k 1000000)) (i (.f2 50 ZHn ZyU) (.and (i (t (a 0) z) (n (l (a 1) z) (n (.f2 50 (.bool false) ZyU) (n (.f2 155 (r 3) (.f1 154 z)) (n ZyU .tt))))) (i ZHn (u 5 .int (i (l z (a 5)) (n (l (.f2 42 (a 1) (k 72)) k1) (n (l z (a 1)) (n (l (a 1) (.f1 32 (r 3))) (u 6 .int (u 7 .int (i (l (a 1) (a 7)) (i (.f2 50 (l z (a 6)) ZyU) (n (.f2 155 (r 3) (.f2 115 (r 3) (a 1))) .tt)))))))))))))))
theorem ZKl : Yq Tryz.prog ZJ2 12 43 Zvs = ZK7 := by kernel_rfl
def ZEP : SX := .us .int 583 (a 4) (a 5) (a 0) (a 1)
def ZF0 : SX := .us .int 582 (a 4) (a 5) (a 0) (a 1)
def ZK1 : VC := .and (i (t (a 0) (a 4)) (n (e ZEP (a 1)) (n (e ZF0 (a 0)) .tt))) (i (l (a 4) (a 0)) (n (e ZEP (a 5)) (n (e ZF0 (a 4)) .tt)))
theorem ZML : Yq Tryz.prog ZNK 12 42 Zyp = ZK1 := by kernel_rfl
def ZC3 : SX := .f2 122 (a 0) (.f1 152 z)
def ZBL : SX := .f2 122 (a 7) (.f2 122 (a 15) (.f2 122 (a 16) ZC3))
def Zki : SX := x 590 (r 11) (m 14) ZBL
def ZnC : SX := x 591 (r 11) (m 14) ZBL
def Zn6 : SX := x 592 (r 11) (m 14) ZBL
def ZHj : SX := .f2 122 (a 21) (.f2 122 (a 22) ZC3)
def ZB8 : SX := .f2 122 (a 17) ZHj
def ZyP : SX := .f3 112 (r 11) (a 17) z
def ZG2 : SX := l z (a 20)
def ZI9 : SX := l (k 1) (a 19)
def ZjY : SX := .f2 40 (a 19) (k (-1))
def ZwY : SX := t ZjY (a 19)
def Zp5 : SX := .f2 40 (a 17) (k 1)
def Zs3 : SX := l z Zp5
def ZtG : SX := l z ZjY
def Zzn : SX := e (.f2 40 (.f2 40 (a 17) ZjY) (k 1)) (.f1 32 (r 11))
def Zyb : SX := l ZjY (.f2 40 (a 20) (k (-1)))
def Zqz : SX := .f2 122 Zp5 (.f2 122 (.us .int 582 (a 21) (a 22) ZyP (k 4)) (.f2 122 (.us .int 583 (a 21) (a 22) ZyP (k 4)) ZC3))
def ZoN : SX := .f2 122 Zp5 ZHj
def Zt7 : SX := e (.f2 40 Zki (a 19)) (.f1 32 (r 11))
def ZAc : SX := e Zn6 (a 22)
def ZyR : SX := e ZnC (a 21)
def Zw7 : SX := e Zki (a 17)
def ZMS : VC := i (l z (a 7)) (i (l z (a 9)) (i (e (.f2 40 (a 7) (a 9)) (.f1 32 (r 11))) (i (l (a 9) (a 10)) (i (l (.f1 32 (r 11)) (k 1000000)) (i (l z (a 13)) (i (.f2 50 (l z (a 6)) (e (a 9) z)) (n (e Zki Zki) (n (e ZnC ZnC) (n (e Zn6 Zn6) (u 17 .int (u 18 .int (u 19 .int (u 20 .int (u 21 .int (u 22 .int (i (l z (a 17)) (i (l z (a 19)) (i (e (.f2 40 (a 17) (a 19)) (.f1 32 (r 11))) (i (l (a 19) (a 20)) (i (e (x 590 (r 11) (m 14) ZB8) Zki) (i (e (x 591 (r 11) (m 14) ZB8) ZnC) (i (e (x 592 (r 11) (m 14) ZB8) Zn6) (.and (i (t z (a 19)) (n (t (a 17) (.f1 32 (r 11))) (n (t z (a 20)) (.and (i (t ZyP (a 0)) (u 23 .bool (i (.f2 48 (q 23) (c 530 (m 14) (.f2 122 (.f3 112 (r 11) (a 17) (k 1)) (.f2 122 (.f3 112 (r 11) (a 17) (k 2)) (.f2 122 (.f1 35 (.f1 36 (.f3 112 (r 11) (a 17) (k 3)))) (.f2 122 (.f1 35 (.f1 36 (.f3 112 (r 11) (a 17) (k 4)))) (.f2 122 (.f1 3 (.f1 2 (e (.f3 112 (r 11) (a 17) (k 5)) z))) (.f2 122 (.f3 112 (r 11) (a 17) (k 6)) (.f1 152 z))))))))) (.and (i (.f1 2 (q 23)) (n ZG2 (n ZI9 (n ZwY (n Zs3 (n ZtG (n Zzn (n Zyb (n (e (x 590 (r 11) (m 14) Zqz) Zki) (n (e (x 591 (r 11) (m 14) Zqz) ZnC) (n (e (x 592 (r 11) (m 14) Zqz) Zn6) .tt))))))))))) (i (.f1 2 (.f1 2 (q 23))) (n ZG2 (n ZI9 (n ZwY (n Zs3 (n ZtG (n Zzn (n Zyb (n (e (x 590 (r 11) (m 14) ZoN) Zki) (n (e (x 591 (r 11) (m 14) ZoN) ZnC) (n (e (x 592 (r 11) (m 14) ZoN) Zn6) .tt))))))))))))))) (i (l (a 0) ZyP) (n Zt7 (n ZAc (n ZyR (n Zw7 .tt))))))))) (i (l (a 19) z) (n Zt7 (n ZAc (n ZyR (n Zw7 .tt))))))))))))))))))))))))))))
theorem ZMF : Yq Tryz.prog ZJP 12 46 ZsS = ZMS := by kernel_rfl
theorem ZJW (S : Sig GG) (hS : JsSig S) : Zy S Tryz.prog 43 Zvs := by
 refine Ze S (C := ZJ2) (fuel := 12) (ZQ trivial ⟨⟨⟨by decide, ZD4 S⟩, trivial⟩, trivial⟩ trivial) fun ρ => ?_
 rw [ZKl]
 simp only [ZK7, ZHn, ZyU, ZI, ZN5, VC.den, SX.den, Env.upd, ZS, ZD, beq_iff_eq, ZNX, beq_eq_false_iff_ne, ne_eq, ZNW, ZNV, Int.reduceToNat, Nat.reduceEqDiff, reduceIte, sB, sC]
 generalize (ρ 3).tR = R
 intro h1 h2 h3 h4
 refine ⟨fun h => ⟨by omega, .inr (by omega), ?_, by omega, trivial⟩, fun h i5 h5 => ⟨by omega, by omega, by omega, fun i6 i7 h6 h7 => ⟨?_, trivial⟩⟩⟩
 ·exact ZOd (by omega)
 ·rw [h1]; simp
theorem ZEk (S : Sig GG) (hS : JsSig S) : Zy S Tryz.prog 42 Zyp := by
 refine Ze S (C := ZNK) (fuel := 12) (ZQ trivial trivial trivial) fun ρ => ?_
 rw [ZML]
 simp only [ZK1, ZEP, ZF0, hS.u582, hS.u583, ZI, ZN5, VC.den, SX.den, Env.upd, ZS, ZD, beq_iff_eq, ZNX, beq_eq_false_iff_ne, ne_eq, ZNW, ZNV, Int.reduceToNat, Nat.reduceEqDiff, reduceIte, sB, sC]
 refine ⟨fun h => ?_, fun h => ?_⟩
 ·rw [show ZdW ((ρ 4).tI, (ρ 5).tI) (ρ 0).tI (ρ 1).tI = ((ρ 0).tI, (ρ 1).tI) from if_pos h]; exact ⟨rfl, rfl, trivial⟩
 ·rw [show ZdW ((ρ 4).tI, (ρ 5).tI) (ρ 0).tI (ρ 1).tI = ((ρ 4).tI, (ρ 5).tI) from if_neg (by show ¬ (ρ 0).tI < (ρ 4).tI; omega)]; exact ⟨rfl, rfl, trivial⟩
theorem ZK6 (S : Sig GG) (hS : JsSig S) : Zy S Tryz.prog 46 ZsS := by
 refine Ze S (C := ZJP) (fuel := 12) (ZQ ⟨Zg (by decide) (ZEk S hS), Zg (by decide) (Zpo S hS.jt.jb), trivial⟩ ⟨⟨trivial, trivial⟩, trivial⟩ trivial) fun ρ => ?_
 rw [ZMF]
 simp only [ZMS, ZC3, ZBL, Zki, ZnC, Zn6, ZHj, ZB8, ZyP, ZG2, ZI9, ZjY, ZwY, Zp5, Zs3, ZtG, Zzn, Zyb, Zqz, ZoN, Zt7, ZAc, ZyR, Zw7, hS.jt.jb.u530, hS.u582, hS.u583, hS.u590, hS.u591, hS.u592, ZI, ZN5, VC.den, SX.den, Env.upd, ZS, ZD, beq_iff_eq, ZNX, beq_eq_false_iff_ne, ne_eq, ZNW, ZNV, Int.reduceToNat, Nat.reduceEqDiff, reduceIte, sB, sC]
 simp only [Zui, Zjk, ZfB]
 generalize (ρ 11).tR = L
 generalize (ρ 14).tM = m
 generalize (ρ 0).tI = pl
 generalize hs : Zfa (ZZ m) L pl (ρ 7).tI.toNat ((ρ 15).tI, (ρ 16).tI) = E0
 intro q1 q2 q3 q4 q5 q6 q7
 refine ⟨trivial, trivial, trivial, fun k z l c a w j1 j2 j3 j4 j5 j6 j7 => ?_⟩
 have stop : ¬ (k.toNat < L.length /\ g0 (L.getD k.toNat []) < pl) -> (E0.1 : Int) = k /\ E0.2.1 = a /\ E0.2.2 = w := fun h => by
  rw [Zzz _ h] at j5 j6 j7
  refine ⟨?_, j6.symm, j7.symm⟩
  rw [<- j5]; show ((k.toNat : Nat) : Int) = k; omega
 refine ⟨fun hl => ⟨by omega, by omega, fun hp b hb => ?_, fun hp => ?_⟩, fun hl => ?_⟩
 ·have st := Zzk (f := ZZ m) (a, w) (show k.toNat < L.length by omega) hp
  have e1 : (k + 1).toNat = k.toNat + 1 := by omega
  rw [st] at j5 j6 j7
  rw [e1]
  rw [hb]
  refine ⟨fun hn => ?_, fun hn => ?_⟩
  ·have hn : ¬ ZZ m ((L.getD k.toNat []).drop 1) = true := by simpa using hn
   rw [if_neg hn] at j5 j6 j7
   exact ⟨by omega, by omega, by omega, by omega, by omega, by omega, by omega, j5, j6, j7, trivial⟩
  ·have hn : ZZ m ((L.getD k.toNat []).drop 1) = true := by simpa using hn
   rw [if_pos hn] at j5 j6 j7
   exact ⟨by omega, by omega, by omega, by omega, by omega, by omega, by omega, j5, j6, j7, trivial⟩
 ·obtain ⟨a1, a2, a3⟩ := stop fun h => absurd h.2 (by show ¬ (L.getD k.toNat []).getD 0 0 < pl; omega)
  exact ⟨by omega, a3, a2, a1, trivial⟩
 ·obtain ⟨a1, a2, a3⟩ := stop fun h => absurd h.1 (by omega)
  exact ⟨by omega, a3, a2, a1, trivial⟩
def Zha (w : Int) (s : Tx) (i : Int) (r : Ent) : Tx :=
 if xk r = 7 then { s with opn := false }
 else if xw r = w then (if xk r = 1 then ⟨w, i, -1, true, [], [], []⟩ else if xk r = 2 then rdT s i r else if xk r = 3 \/ xk r = 4 then { s with ch := Yw s.ch (kc r) ((Zs (ZaB r) : Nat) * 2 + b01 (xk r == 4)) }
  else if xk r = 6 then { s with opn := false } else if xk r = 5 then { s with opn := false, com := i } else s)
 else s
def txN (x : List Ent) (w : Int) : Nat -> Tx
 | 0 => { tx0 with who := w, com := -1 }
 | n + 1 => Zha w (txN x w n) n (xa x n)
theorem Zbf (x : List Ent) (w : Int) (n : Nat) : txN x w (n + 1) = Zha w (txN x w n) n (xa x n) := rfl
theorem ZeD (t : Tx) (i : Int) (x : Ent) : (rdT t i x).opn = t.opn /\ (rdT t i x).com = t.com /\ (rdT t i x).ch = t.ch /\ (rdT t i x).who = t.who /\ (rdT t i x).beg = t.beg := by
 unfold rdT
 split
 ·split
  ·exact ⟨rfl, rfl, rfl, rfl, rfl⟩
  ·exact ⟨rfl, rfl, rfl, rfl, rfl⟩
 ·exact ⟨rfl, rfl, rfl, rfl, rfl⟩
theorem ZDR (x : List Ent) (w : Int) : ∀ n, (txN x w n).who = w
 | 0 => rfl
 | n + 1 => by
  have ih := ZDR x w n
  rw [Zbf]
  unfold Zha
  repeat' split
  all_goals first | exact ih | rfl | (rw [(ZeD _ _ _).2.2.2.1]; exact ih)
theorem ZuW (x : List Ent) (w : Int) : ∀ n, (txN x w n).opn = (Zbo x w n).1
 | 0 => rfl
 | n + 1 => by
  have ih := ZuW x w n
  rw [Zbf, ZcL]
  unfold Zha
  by_cases h7 : xk (xa x n) = 7
  ·rw [if_pos h7, if_neg (by omega), if_neg (by omega)]
   by_cases ho : (Zbo x w n).1 = true
   ·rw [if_pos ⟨h7, ho⟩]
   ·rw [if_neg (fun h => ho h.2)]; simpa using ho
  ·rw [if_neg h7, if_neg (fun h : xk (xa x n) = 7 /\ _ => h7 h.1)]
   by_cases hw : xw (xa x n) = w
   ·rw [if_pos hw]
    by_cases h1 : xk (xa x n) = 1
    ·rw [if_pos h1, if_pos ⟨h1, hw⟩]
    ·rw [if_neg h1, if_neg (fun h : xk (xa x n) = 1 /\ _ => h1 h.1)]
     by_cases h2 : xk (xa x n) = 2
     ·rw [if_pos h2, (ZeD _ _ _).1, if_neg (by omega)]; exact ih
     ·rw [if_neg h2]
      by_cases h3 : xk (xa x n) = 3 \/ xk (xa x n) = 4
      ·rw [if_pos h3, if_neg (by omega)]; exact ih
      ·rw [if_neg h3]
       by_cases h6 : xk (xa x n) = 6
       ·rw [if_pos h6, if_pos ⟨.inr h6, hw⟩]
       ·rw [if_neg h6]
        by_cases h5 : xk (xa x n) = 5
        ·rw [if_pos h5, if_pos ⟨.inl h5, hw⟩]
        ·rw [if_neg h5, if_neg (by omega)]; exact ih
   ·rw [if_neg hw, if_neg (fun h : xk (xa x n) = 1 /\ _ => hw h.2), if_neg (fun h : _ /\ xw (xa x n) = w => hw h.2)]; exact ih
theorem Zxm {x : List Ent} {w : Int} : ∀ {n : Nat}, ¬ 0 <= Yd x 1 w n -> Zbo x w n = (false, -1)
 | 0, _ => rfl
 | n + 1, h => by
  rw [Ye] at h
  by_cases h0 : 0 <= Yd x 1 w n
  ·rw [if_pos h0] at h; exact absurd h0 h
  ·rw [if_neg h0] at h
   have ih := Zxm h0
   by_cases h1 : xk (xa x n) = 1 /\ xw (xa x n) = w
   ·rw [if_pos h1] at h; exact absurd (show (0 : Int) <= n by omega) h
   ·rw [ZcL, if_neg h1, ih]
    split
    ·rfl
    ·rw [if_neg (fun h => by cases h.2)]
def NF (x : List Ent) (n : Nat) : Prop := ¬ 0 <= (ZcG x n).1 /\ ∀ i < n, ZbI (xa x i) = true
theorem NF.pred {x : List Ent} {n : Nat} (h : NF x (n + 1)) : NF x n /\ Zl8 x n = false /\ Zmd x n = false /\ ZbI (xa x n) = true := by
 obtain ⟨h1, h2⟩ := h
 rw [ZbZ] at h1
 split at h1
 ·rename_i q; exact absurd q h1
 ·rename_i q
  split at h1
  ·exact absurd (show (0 : Int) <= n by omega) h1
  ·rename_i a
   split at h1
   ·exact absurd (show (0 : Int) <= n by omega) h1
   ·rename_i b
    exact ⟨⟨q, fun i hi => h2 i (by omega)⟩, by simpa using a, by simpa using b, h2 n (by omega)⟩
theorem NF.le {x : List Ent} {n : Nat} (h : NF x n) : ∀ {m : Nat}, m <= n -> NF x m := by
 induction n with
 | zero => intro m hm; rw [show m = 0 by omega]; exact h
 | succ n ih =>
  intro m hm
  rcases ZNS m (n + 1) with q | q
  ·exact ih h.pred.1 (by omega)
  ·rw [show m = n + 1 by omega]; exact h
theorem Zii {x : List Ent} {w : Int} (hw : 0 < w) : ∀ {n : Nat}, NF x n -> ¬ 0 <= Yd x 1 w n -> Yd x 5 w n = -1 /\ (∀ k, YA x w k n = -1) /\ ∀ i < n, xw (xa x i) = w -> xk (xa x i) ≠ 2
 | 0, _, _ => ⟨rfl, fun _ => rfl, fun i hi => absurd hi (Nat.not_lt_zero i)⟩
 | n + 1, h, hb => by
  obtain ⟨hn, ho, _, _⟩ := h.pred
  rw [Ye] at hb
  by_cases h0 : 0 <= Yd x 1 w n
  ·rw [if_pos h0] at hb; exact absurd h0 hb
  ·rw [if_neg h0] at hb
   have h1 : ¬ (xk (xa x n) = 1 /\ xw (xa x n) = w) := fun q => by rw [if_pos q] at hb; exact hb (by omega)
   obtain ⟨i1, i2, i3⟩ := Zii hw hn h0
   have hop := Zxm h0
   rw [Zgd] at ho
   have key : xw (xa x n) = w -> xk (xa x n) ≠ 2 /\ ¬ (xk (xa x n) = 3 \/ xk (xa x n) = 4) /\ xk (xa x n) ≠ 5 := fun hx => by
    rw [hx, hop] at ho
    refine ⟨fun h2 => ?_, fun h3 => ?_, fun h5 => ?_⟩
    ·rw [if_neg (by omega), if_pos h2] at ho; simp at ho; omega
    ·rw [if_neg (by omega), if_neg (by omega), if_pos (by omega)] at ho; simp at ho
    ·rw [if_neg (by omega), if_neg (by omega), if_neg (by omega), if_pos h5] at ho
     have : Zhb x (-1) n = false := by rw [ZgS]; rfl
     simp [this] at ho
   refine ⟨?_, fun k => ?_, fun i hi hx => ?_⟩
   ·rw [Ye, if_neg (by rw [i1]; omega), if_neg (fun q => (key q.2).2.2 q.1)]
   ·rw [ZbA, if_neg (fun q => (key q.2.1).2.1 q.1)]; exact i2 k
   ·rcases ZNS i n with q | q
    ·exact i3 i q hx
    ·rw [show i = n by omega] at hx ⊢
     exact (key hx).1
theorem ZfU {x : List Ent} {w : Int} (hw : 0 < w) : ∀ {n : Nat}, NF x n -> (txN x w n).com = Yd x 5 w n
 | 0, _ => rfl
 | n + 1, h => by
  obtain ⟨hn, ho, _, _⟩ := h.pred
  have ih := ZfU hw hn
  rw [Zbf, Ye]
  unfold Zha
  rw [Zgd] at ho
  by_cases hx : xw (xa x n) = w
  ·by_cases h7 : xk (xa x n) = 7
   ·rw [if_pos h7, if_neg (by omega : ¬ (xk (xa x n) = 5 /\ _))]
    show (txN x w n).com = _
    rw [ih]; split
    ·rfl
    ·have := (Zb6 x 5 w n).1; omega
   ·rw [if_neg h7, if_pos hx]
    by_cases h1 : xk (xa x n) = 1
    ·rw [if_pos h1] at ho ⊢
     rw [hx] at ho
     have hb : ¬ 0 <= Yd x 1 w n := by simpa using ho
     rw [(Zii hw hn hb).1, if_neg (by omega), if_neg (by omega)]
    ·rw [if_neg h1]
     by_cases h5 : xk (xa x n) = 5
     ·rw [if_neg (by omega), if_neg (by omega), if_neg (by omega), if_pos h5]
      rw [if_neg h1, if_neg (by omega), if_neg (by omega), if_pos h5, hx] at ho
      have hb : ¬ 0 <= Yd x 5 w n := fun q => by simp [q] at ho
      rw [if_neg hb, if_pos ⟨h5, hx⟩]
     ·have e : (if 0 <= Yd x 5 w n then Yd x 5 w n else if xk (xa x n) = 5 /\ xw (xa x n) = w then (n : Int) else -1) = Yd x 5 w n := by
       split
       ·rfl
       ·rw [if_neg (fun q => h5 q.1)]; have := (Zb6 x 5 w n).1; omega
      rw [e]
      repeat' split
      all_goals first | exact ih | (rw [(ZeD _ _ _).2.1]; exact ih) | omega
  ·have e : (if 0 <= Yd x 5 w n then Yd x 5 w n else if xk (xa x n) = 5 /\ xw (xa x n) = w then (n : Int) else -1) = Yd x 5 w n := by
    split
    ·rfl
    ·rw [if_neg (fun q => hx q.2)]; have := (Zb6 x 5 w n).1; omega
   rw [e]
   by_cases h7 : xk (xa x n) = 7
   ·rw [if_pos h7]; exact ih
   ·rw [if_neg h7, if_neg hx]; exact ih
def chIs (x : List Ent) (w : Int) (m : List (Int × Int)) (n : Nat) : Prop :=
 ∀ k : List UInt8, Zx m (Zs k : Nat) = decide (0 <= YA x w k n) /\ (0 <= YA x w k n -> vw (YC 0 m (Zs k : Nat)) = (ZaB (xa x (YA x w k n).toNat), decide (xk (xa x (YA x w k n).toNat) = 3)))
theorem encB_inj' {a b : List UInt8} (h : ((Zs a : Nat) : Int) = (Zs b : Nat)) : a = b := by
 have : Zs a = Zs b := by omega
 rw [<- Zo a, this, Zo]
theorem ZuS {x : List Ent} {w : Int} (hw : 0 < w) : ∀ {n : Nat}, NF x n -> chIs x w (txN x w n).ch n
 | 0, _ => fun k => ⟨rfl, fun h => absurd h (by show ¬ (0 : Int) <= -1; omega)⟩
 | n + 1, h => by
  obtain ⟨hn, ho, _, _⟩ := h.pred
  have ih := ZuS hw hn
  have same : ∀ {m : List (Int × Int)}, m = (txN x w n).ch -> ¬ ((xk (xa x n) = 3 \/ xk (xa x n) = 4) /\ xw (xa x n) = w) -> chIs x w m (n + 1) := fun hm hno k => by
   rw [hm, ZbA, if_neg (fun q => hno ⟨q.1, q.2.1⟩)]; exact ih k
  rw [Zbf]
  unfold Zha
  by_cases h7 : xk (xa x n) = 7
  ·rw [if_pos h7]; exact same rfl (by omega)
  ·rw [if_neg h7]
   by_cases hx : xw (xa x n) = w
   ·rw [if_pos hx]
    by_cases h1 : xk (xa x n) = 1
    ·rw [if_pos h1]
     rw [Zgd, if_pos h1, hx] at ho
     have hb : ¬ 0 <= Yd x 1 w n := by simpa using ho
     intro k
     rw [ZbA, if_neg (by omega), (Zii hw hn hb).2.1 k]
     exact ⟨rfl, fun h => absurd h (by omega)⟩
    ·rw [if_neg h1]
     by_cases h2 : xk (xa x n) = 2
     ·rw [if_pos h2]; exact same (ZeD _ _ _).2.2.1 (by omega)
     ·rw [if_neg h2]
      by_cases h3 : xk (xa x n) = 3 \/ xk (xa x n) = 4
      ·rw [if_pos h3]
       intro k
       show Zx (Yw (txN x w n).ch (kc (xa x n)) _) _ = _ /\ (_ -> vw (YC 0 (Yw (txN x w n).ch (kc (xa x n)) _) _) = _)
       rw [ZbA, Zpp, Zqo]
       by_cases hk : ZV (xa x n) = k
       ·rw [if_pos ⟨h3, hx, hk⟩, if_pos (show kc (xa x n) = (Zs k : Nat) by unfold kc; rw [hk]), ZKH, ZN5]
        refine ⟨by simp [show kc (xa x n) = (Zs k : Nat) by unfold kc; rw [hk]], fun _ => ?_⟩
        rcases h3 with h | h <;> rw [h] <;> rfl
       ·have hne : ¬ kc (xa x n) = (Zs k : Nat) := fun q => hk (encB_inj' q)
        rw [if_neg (fun q => hk q.2.2), if_neg hne]
        simp only [hne, decide_false, Bool.false_or]
        exact ih k
      ·rw [if_neg h3]
       split
       ·exact same rfl (fun q => h3 q.1)
       ·split
        ·exact same rfl (fun q => h3 q.1)
        ·exact same rfl (fun q => h3 q.1)
   ·rw [if_neg hx]; exact same rfl (fun q => hx q.2)
theorem Znf {r : Ent} (h : ZbI r = true) (hk : xk r = 2 \/ xk r = 4) (hn : ZbW r = false) : ZaB r = [] := by
 unfold ZbI at h
 rcases hk with hk | hk
 ·simp [hk, hn] at h; exact h.1.2
 ·simp [hk, hn] at h; exact h.1.2
theorem ZqZ (x : List Ent) (w : Int) (k : List UInt8) : ∀ n : Nat, YA x w k n < n /\ -1 <= YA x w k n /\ (0 <= YA x w k n -> xk (xa x (YA x w k n).toNat) = 3 \/ xk (xa x (YA x w k n).toNat) = 4)
 | 0 => ⟨by show (-1 : Int) < 0; omega, ZN9 _, fun h => absurd h (by show ¬ (0 : Int) <= -1; omega)⟩
 | n + 1 => by
  have ih := ZqZ x w k n
  rw [ZbA]
  split
  ·rename_i q
   exact ⟨by omega, by omega, fun _ => by rw [ZN5]; exact q.1⟩
  ·exact ⟨by omega, ih.2.1, ih.2.2⟩
theorem Zoh {r : Ent} (h : ZbI r = true) (hk : xk r = 4) : ZaB r = [] := by
 unfold ZbI at h
 simp [hk] at h
 exact h.1.1.2
def ZEW (x : List Ent) (n : Nat) : Bool := (ZbW (xa x n) == decide (xk (xa x (YA x (xw (xa x n)) (ZV (xa x n)) n).toNat) = 3)) && (ZaB (xa x n) == ZaB (xa x (YA x (xw (xa x n)) (ZV (xa x n)) n).toNat))
theorem ZBA {x : List Ent} {n : Nat} {m : List (Int × Int)} (hm : ∀ i ≤ n, ZbI (xa x i) = true) (hk : xk (xa x n) = 2) (hc : chIs x (xw (xa x n)) m n) (hl : 0 <= YA x (xw (xa x n)) (ZV (xa x n)) n) : ZZ m (xa x n) = ZEW x n := by
 obtain ⟨c1, c2⟩ := hc (ZV (xa x n))
 have c2 := c2 hl
 have a := congrArg Prod.fst c2
 have b := congrArg Prod.snd c2
 have a : YW ((YC 0 m (kc (xa x n))).tdiv 2).toNat = ZaB (xa x (YA x (xw (xa x n)) (ZV (xa x n)) n).toNat) := a
 have b : decide ((YC 0 m (kc (xa x n))).tmod 2 = 0) = decide (xk (xa x (YA x (xw (xa x n)) (ZV (xa x n)) n).toNat) = 3) := b
 have c1 : Zx m (kc (xa x n)) = true := by show Zx m (Zs (ZV (xa x n)) : Nat) = true; rw [c1]; simp [hl]
 obtain ⟨l1, _, l3⟩ := ZqZ x (xw (xa x n)) (ZV (xa x n)) n
 have l3 := l3 hl
 have hmj := hm (YA x (xw (xa x n)) (ZV (xa x n)) n).toNat (by omega)
 unfold ZZ ZEW
 rw [c1, a, b]
 generalize (YA x (xw (xa x n)) (ZV (xa x n)) n).toNat = j at *
 cases hh : ZbW (xa x n)
 ·rcases l3 with h | h
  ·rw [h]; simp
  ·rw [h, Znf (hm n (ZNO n)) (.inl hk) hh, Zoh hmj h]; simp
 ·simp
theorem ZCD {i n : Nat} (hi : i < n + 1) (h : i ≠ n) : i < n := by omega
theorem ZdX {x : List Ent} {w : Int} (hw : 0 < w) : ∀ {n : Nat}, NF x n →
  (∀ r, r ∈ (txN x w n).rds ↔ ∃ i < n, xk (xa x i) = 2 /\ xw (xa x i) = w /\ YA x w (ZV (xa x i)) i < 0 /\ r = (i : Int) :: nr (xa x i)) ∧
  (∀ b, b ∈ (txN x w n).bad ↔ ∃ i < n, xk (xa x i) = 2 /\ xw (xa x i) = w /\ 0 <= YA x w (ZV (xa x i)) i /\ ZEW x i = false /\ b = (i : Int))
 | 0, _ => ⟨fun r => ⟨fun h => (nomatch h), fun ⟨i, hi, _⟩ => absurd hi (Nat.not_lt_zero i)⟩, fun r => ⟨fun h => (nomatch h), fun ⟨i, hi, _⟩ => absurd hi (Nat.not_lt_zero i)⟩⟩
 | n + 1, h => by
  obtain ⟨hn, ho, _, hmn⟩ := h.pred
  obtain ⟨ih1, ih2⟩ := ZdX hw hn
  have same : ∀ {t : Tx}, t.rds = (txN x w n).rds -> t.bad = (txN x w n).bad -> ¬ (xk (xa x n) = 2 /\ xw (xa x n) = w) →
    (∀ r, r ∈ t.rds ↔ ∃ i < n + 1, xk (xa x i) = 2 /\ xw (xa x i) = w /\ YA x w (ZV (xa x i)) i < 0 /\ r = (i : Int) :: nr (xa x i)) ∧
    (∀ b, b ∈ t.bad ↔ ∃ i < n + 1, xk (xa x i) = 2 /\ xw (xa x i) = w /\ 0 <= YA x w (ZV (xa x i)) i /\ ZEW x i = false /\ b = (i : Int)) := fun e1 e2 hno => by
   rw [e1, e2]
   refine ⟨fun r => (ih1 r).trans ⟨fun ⟨i, hi, q⟩ => ⟨i, by omega, q⟩, fun ⟨i, hi, q⟩ => ⟨i, ?_, q⟩⟩, fun r => (ih2 r).trans ⟨fun ⟨i, hi, q⟩ => ⟨i, by omega, q⟩, fun ⟨i, hi, q⟩ => ⟨i, ?_, q⟩⟩⟩
   all_goals (
    rcases ZNS i n with p | p
    ·exact p
    ·exfalso; rw [show i = n by omega] at q; exact hno ⟨q.1, q.2.1⟩)
  rw [Zbf]
  unfold Zha
  by_cases h7 : xk (xa x n) = 7
  ·rw [if_pos h7]; exact same rfl rfl (by omega)
  ·rw [if_neg h7]
   by_cases hx : xw (xa x n) = w
   ·rw [if_pos hx]
    by_cases h1 : xk (xa x n) = 1
    ·rw [if_pos h1]
     rw [Zgd, if_pos h1, hx] at ho
     have hb : ¬ 0 <= Yd x 1 w n := by simpa using ho
     have no := (Zii hw hn hb).2.2
     refine ⟨fun r => ⟨fun h => (nomatch h), fun ⟨i, hi, q⟩ => ?_⟩, fun r => ⟨fun h => (nomatch h), fun ⟨i, hi, q⟩ => ?_⟩⟩
     all_goals (
      rcases ZNS i n with p | p
      ·exact absurd q.1 (no i p q.2.1)
      ·rw [show i = n by omega] at q; omega)
    ·rw [if_neg h1]
     by_cases h2 : xk (xa x n) = 2
     ·rw [if_pos h2]
      have hc := ZuS hw hn
      have hch := (hc (ZV (xa x n))).1
      have hm := h.2
      unfold rdT
      by_cases hl : 0 <= YA x w (ZV (xa x n)) n
      ·have hin : Zx (txN x w n).ch (kc (xa x n)) = true := by unfold kc; rw [hch]; simp [hl]
       rw [if_pos hin]
       have hs := ZBA (m := (txN x w n).ch) (fun i hi => hm i (by omega)) h2 (by rw [hx]; exact hc) (by rw [hx]; exact hl)
       rw [hs]
       have r1 : ∀ r, r ∈ (txN x w n).rds ↔ ∃ i < n + 1, xk (xa x i) = 2 /\ xw (xa x i) = w /\ YA x w (ZV (xa x i)) i < 0 /\ r = (i : Int) :: nr (xa x i) := fun r =>
        (ih1 r).trans ⟨fun ⟨i, hi, q⟩ => ⟨i, by omega, q⟩, fun ⟨i, hi, q⟩ => ⟨i, ZCD hi (fun e => by rw [e] at q; omega), q⟩⟩
       by_cases ht : ZEW x n = true
       ·rw [if_pos ht]
        exact ⟨r1, fun r => (ih2 r).trans ⟨fun ⟨i, hi, q⟩ => ⟨i, by omega, q⟩, fun ⟨i, hi, q⟩ => ⟨i, ZCD hi (fun e => by rw [e, ht] at q; exact absurd q.2.2.2.1 (by simp)), q⟩⟩⟩
       ·rw [if_neg ht]
        refine ⟨r1, fun r => ?_⟩
        show r ∈ (txN x w n).bad ++ [(n : Int)] ↔ _
        rw [ZOj, ih2 r, ZNR]
        constructor
        ·rintro (⟨i, hi, q⟩ | rfl)
         ·exact ⟨i, by omega, q⟩
         ·exact ⟨n, by omega, h2, hx, hl, by simpa using ht, rfl⟩
        ·rintro ⟨i, hi, q⟩
         rcases ZNS i n with p | p
         ·exact .inl ⟨i, p, q⟩
         ·right; rw [q.2.2.2.2, show i = n by omega]
      ·have hin : ¬ Zx (txN x w n).ch (kc (xa x n)) = true := by unfold kc; rw [hch]; simp [hl]
       rw [if_neg hin]
       refine ⟨fun r => ?_, fun r => (ih2 r).trans ⟨fun ⟨i, hi, q⟩ => ⟨i, by omega, q⟩, fun ⟨i, hi, q⟩ => ⟨i, ZCD hi (fun e => by rw [e] at q; exact hl q.2.2.1), q⟩⟩⟩
       show r ∈ (txN x w n).rds ++ [(n : Int) :: nr (xa x n)] ↔ _
       rw [ZOj, ih1 r, ZNR]
       constructor
       ·rintro (⟨i, hi, q⟩ | rfl)
        ·exact ⟨i, by omega, q⟩
        ·exact ⟨n, by omega, h2, hx, by omega, rfl⟩
       ·rintro ⟨i, hi, q⟩
        rcases ZNS i n with p | p
        ·exact .inl ⟨i, p, q⟩
        ·right; rw [q.2.2.2, show i = n by omega]
     ·rw [if_neg h2]
      repeat' split
      all_goals exact same rfl rfl (fun q => h2 q.1)
   ·rw [if_neg hx]; exact same rfl rfl (fun q => hx q.2)
end
end Go.Proofs.YtidlngnhjffepaaGreat
