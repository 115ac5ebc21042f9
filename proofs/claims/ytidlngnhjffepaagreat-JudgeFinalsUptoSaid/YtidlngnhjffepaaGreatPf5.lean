/- Part of a proof. -/
import Derived.Test.YtidlngnhjffepaaGreatPf4
set_option linter.unusedSimpArgs false
set_option linter.unusedVariables false
set_option maxRecDepth 20000
namespace Go.Proofs.YtidlngnhjffepaaGreat
noncomputable section
open Go.Eng
theorem ZFk (w : Int) : ∀ L : List Tx, ixL w L <= L.length
 | [] => ZPH _
 | t :: L => by
  have := ZFk w L
  unfold ixL
  cases t.who == w
  ·show ixL w L + 1 <= L.length + 1; omega
  ·exact Nat.zero_le _
theorem ZaN {w : Int} : ∀ {L : List Tx}, ixL w L < L.length -> (L.getD (ixL w L) tx0).who = w
 | [], h => absurd h (Nat.not_lt_zero _)
 | t :: L, h => by
  unfold ixL at h ⊢
  cases hp : t.who == w
  ·rw [hp] at h
   have h : ixL w L + 1 < L.length + 1 := h
   show (L.getD (ixL w L) tx0).who = w
   exact ZaN (by omega)
  ·exact beq_iff_eq.1 hp
theorem Zxn {w : Int} : ∀ {L : List Tx}, ¬ ixL w L < L.length -> ∀ t ∈ L, t.who ≠ w
 | [], _, t, ht => by cases ht
 | s :: L, h, t, ht => by
  unfold ixL at h
  cases hp : s.who == w
  ·rw [hp] at h
   have h : ¬ ixL w L + 1 < L.length + 1 := h
   rcases List.mem_cons.1 ht with rfl | ht
   ·exact beq_eq_false_iff_ne.1 hp
   ·exact Zxn (by omega) t ht
  ·rw [hp] at h; exact absurd (Nat.zero_lt_succ _) h
theorem Zeo {L : List Tx} (hn : (L.map (·.who)).Nodup) {j : Nat} (hj : j < L.length) : ixL (L.getD j tx0).who L = j := by
 induction L generalizing j with
 | nil => exact absurd hj (Nat.not_lt_zero _)
 | cons t L ih =>
  simp only [ZP0, List.nodup_cons] at hn
  unfold ixL
  cases j with
  | zero => rw [show (t.who == ((t :: L).getD 0 tx0).who) = true from by simp]; rfl
  | succ j =>
   have hj : j < L.length := by simpa using hj
   have e : (t :: L).getD (j + 1) tx0 = L.getD j tx0 := rfl
   rw [e]
   have hne : ¬ t.who = (L.getD j tx0).who := fun h => hn.1 (by
    rw [h]
    refine List.mem_map.2 ⟨L.getD j tx0, ?_, rfl⟩
    rw [ZPR, ZPU hj, ZPM]; exact ZQe hj)
   rw [show (t.who == (L.getD j tx0).who) = false from beq_eq_false_iff_ne.2 hne]
   show ixL _ L + 1 = j + 1
   rw [ih hn.2 hj]
theorem ZbI {w : Int} : ∀ {R : List (List Int)} {L : List Tx}, R.length = L.length -> ∀ d, YB d (ZeQ R L) w = (if ixL w L < L.length then g0 (R.getD (ixL w L) []) else d) /\ Zx (ZeQ R L) w = decide (ixL w L < L.length)
 | [], [], _, d => ⟨rfl, rfl⟩
 | r :: R, t :: L, h, d => by
  obtain ⟨i1, i2⟩ := ZbI (w := w) (R := R) (L := L) (by simpa using h) d
  have e : ZeQ (r :: R) (t :: L) = (t.who, g0 r) :: ZeQ R L := rfl
  rw [e]
  unfold ixL YB Zx
  by_cases hw : t.who = w
  ·rw [if_pos hw, if_pos hw, show (t.who == w) = true from beq_iff_eq.2 hw]
   exact ⟨rfl, rfl⟩
  ·rw [if_neg hw, if_neg hw, show (t.who == w) = false from beq_eq_false_iff_ne.2 hw]
   show YB d (ZeQ R L) w = (if ixL w L + 1 < L.length + 1 then _ else d) /\ Zx (ZeQ R L) w = decide (ixL w L + 1 < L.length + 1)
   rw [i1, i2]
   by_cases hq : ixL w L < L.length
   ·rw [if_pos hq, if_pos (by omega)]; exact ⟨rfl, by simp [hq]⟩
   ·rw [if_neg hq, if_neg (by omega)]; exact ⟨rfl, by simp [hq]⟩
 | [], _ :: _, h, _ => by simp at h
 | _ :: _, [], h, _ => by simp at h
theorem ZDX {L : List Tx} {j : Nat} (hj : j < L.length) (t : Tx) : setT L (j : Nat) t = L.set j t := by
 unfold setT
 rw [ZPY, List.set_eq_take_append_cons_drop, if_pos hj]
theorem ZfQ {R : List (List Int)} {j : Nat} (hj : j < R.length) (t : List Int) : ZCC R (j : Nat) t = R.set j t := by
 unfold ZCC
 rw [ZPY, List.set_eq_take_append_cons_drop, if_pos hj]
theorem YA {α β : Type} {f : α -> β} {l : List α} {j : Nat} {d x : α} (h : f x = f (l.getD j d)) (hj : j < l.length) : (l.set j x).map f = l.map f := by
 rw [List.map_set, h]
 have : (l.map f)[j]? = some (f (l.getD j d)) := by
  rw [ZPN, ZPR, ZPU hj]; rfl
 apply List.ext_getElem?
 intro q
 by_cases hq : j = q
 ·subst hq
  rw [List.getElem?_set_self (by simpa using hj), this]
 ·rw [List.getElem?_set_ne hq]
theorem Zn3 {R R' : List (List Int)} {L L' : List Tx} (h1 : R'.map g0 = R.map g0) (h2 : L'.map (·.who) = L.map (·.who)) : ZeQ R' L' = ZeQ R L := by
 have e : ∀ (L : List Tx) (R : List (List Int)), ZeQ R L = ((L.map (·.who)).zip (R.map g0)) := fun L R => by
  unfold ZeQ
  rw [List.zip_map]; rfl
 rw [e, e, h1, h2]
theorem Zc0 {α β : Type} (f : α -> β) (l : List α) (j : Nat) (d : α) : (l.map f).getD j (f d) = f (l.getD j d) := by
 rw [ZPR, ZPR, ZPN]
 cases l[j]? <;> rfl
theorem Zgv {R R' : List (List Int)} (h : R'.map g0 = R.map g0) (ks : List Nat) : Zbk R' ks = Zbk R ks := by
 unfold Zbk
 apply List.map_congr_left
 intro k _
 rw [<- Zc0 g0 R', <- Zc0 g0 R, h]
theorem ZEl {R : List (List Int)} {ks : List Nat} (hk : ∀ k ∈ ks, k < R.length) (S : List (List Int)) : Zbk (R ++ S) ks = Zbk R ks := by
 unfold Zbk
 apply List.map_congr_left
 intro k hk'
 have := hk k hk'
 rw [ZPR, ZPR, ZP9 this]
theorem ZFZ {m : List (Int × Int)} {k v : Int} (h : Zx m k = false) : Yw m k v = m ++ [(k, v)] := by
 induction m with
 | nil => rfl
 | cons p m ih =>
  obtain ⟨a, b⟩ := p
  simp only [Zx] at h
  unfold Yw
  by_cases hk : a = k
  ·rw [if_pos hk] at h; cases h
  ·rw [if_neg hk] at h ⊢
   rw [ih h]; rfl
theorem ZEe {R : List (List Int)} {L : List Tx} (hl : R.length = L.length) (r : List Int) (t : Tx) (h : ¬ ixL t.who L < L.length) : ZeQ (R ++ [r]) (L ++ [t]) = Yw (ZeQ R L) t.who (g0 r) := by
 rw [ZFZ (by rw [(ZbI hl 0).2]; simp [h])]
 unfold ZeQ
 rw [List.zip_append hl.symm, ZP7]; rfl
theorem Zmx {R : List (List Int)} {ks : List Nat} (hk : ∀ k ∈ ks, k < R.length) : ∀ r ∈ Zbk R ks, ∃ b, r = [b] /\ Zo7 R b := by
 intro r hr
 obtain ⟨k, h1, rfl⟩ := List.mem_map.1 hr
 exact ⟨_, rfl, k, hk k h1, rfl⟩
theorem Zkr {R : List (List Int)} (hn : (R.map g0).Nodup) {j k : Nat} (hj : j < R.length) (hk : k < R.length) (h : g0 (R.getD j []) = g0 (R.getD k [])) : j = k := by
 have e : ∀ (i : Nat) (hi : i < R.length), (R.map g0)[i]'(by simpa using hi) = g0 (R.getD i []) := fun i hi => by
  rw [List.getElem_map, ZPR, ZPU hi, ZPM]
 exact (List.getElem_inj hn).1 (by rw [e j hj, e k hk, h])
theorem Zq0 {R : List (List Int)} (hn : (R.map g0).Nodup) {ks : List Nat} (hk : ∀ k ∈ ks, k < R.length) {j : Nat} (hj : j < R.length) : [g0 (R.getD j [])] ∈ Zbk R ks ↔ j ∈ ks := by
 constructor
 ·intro h
  obtain ⟨k, h1, h2⟩ := List.mem_map.1 h
  injection h2 with h2
  rw [Zkr hn hj (hk k h1) h2.symm]; exact h1
 ·intro h
  exact List.mem_map.2 ⟨j, h, rfl⟩
theorem Zrt : ∀ (L : List Tx) (n : Nat), (Zm4 L n).length <= L.length
 | [], _ => ZPH _
 | t :: L, n => by
  have := Zrt L (n + 1)
  unfold Zm4
  cases t.opn
  ·show (Zm4 L (n + 1)).length <= L.length + 1; omega
  ·show (Zm4 L (n + 1)).length + 1 <= L.length + 1; omega
theorem Zo0 : ∀ (L : List Tx) (n k : Nat), k ∈ Zm4 L n -> k < n + L.length
 | [], _, _, h => by cases h
 | t :: L, n, k, h => by
  unfold Zm4 at h
  cases ho : t.opn
  ·rw [ho] at h
   have := Zo0 L (n + 1) k h
   rw [ZQb]; omega
  ·rw [ho] at h
   rcases List.mem_cons.1 h with rfl | h
   ·rw [ZQb]; omega
   ·have := Zo0 L (n + 1) k h
    rw [ZQb]; omega
structure WfB (B : Bk) (n : Nat) : Prop where
 nd : (B.txs.map (·.who)).Nodup
 lt : B.txs.length <= n
 kl : B.kept.length <= n
 ki : ∀ k ∈ B.kept, k < B.txs.length
 ol : B.out.length <= n
 rl : ∀ t ∈ B.txs, t.rds.length <= n /\ t.bad.length <= n
 fi : ∀ k ∈ B.fal, k < B.txs.length
 fl : B.fal.length <= n
theorem WfB.mono {B : Bk} {n m : Nat} (h : WfB B n) (hm : n <= m) : WfB B m :=
 ⟨h.nd, Nat.le_trans h.lt hm, Nat.le_trans h.kl hm, h.ki, Nat.le_trans h.ol hm, fun t ht => ⟨Nat.le_trans (h.rl t ht).1 hm, Nat.le_trans (h.rl t ht).2 hm⟩, h.fi, Nat.le_trans h.fl hm⟩
theorem ZBt (t : Tx) (i : Int) (x : Ent) : (rdT t i x).rds.length <= t.rds.length + 1 /\ (rdT t i x).bad.length <= t.bad.length + 1 /\ (rdT t i x).who = t.who := by
 unfold rdT
 split
 ·split
  ·exact ⟨by omega, by omega, rfl⟩
  ·refine ⟨by simp, by simp, rfl⟩
 ·exact ⟨by simp, by simp, rfl⟩
theorem WfB.set {B : Bk} {n : Nat} (h : WfB B n) {j : Nat} (hj : j < B.txs.length) {t : Tx} (hw : t.who = (B.txs.getD j tx0).who) (h1 : t.rds.length <= n + 1) (h2 : t.bad.length <= n + 1)
  {k : List Nat} (hk : k = B.kept \/ k = B.kept ++ [j]) {f : List Nat} (hf : f = B.fal \/ f = []) : WfB { B with txs := B.txs.set j t, kept := k, fal := f } (n + 1) := by
 have hm := YA (f := Tx.who) (l := B.txs) hw hj
 refine ⟨by show ((B.txs.set j t).map Tx.who).Nodup; rw [hm]; exact h.nd, ?_, ?_, ?_, by have := h.ol; show B.out.length <= n + 1; omega, ?_, ?_, ?_⟩
 ·show (B.txs.set j t).length <= n + 1
  rw [List.length_set]; have := h.lt; omega
 ·show k.length <= n + 1
  have := h.kl
  rcases hk with rfl | rfl
  ·omega
  ·rw [ZPW, ZPF]; omega
 ·show ∀ q ∈ k, q < (B.txs.set j t).length
  rw [List.length_set]
  rcases hk with rfl | rfl
  ·exact h.ki
  ·intro q hq
   rcases List.mem_append.1 hq with hq | hq
   ·exact h.ki q hq
   ·rw [List.mem_singleton.1 hq]; exact hj
 ·intro u hu
  rcases List.mem_or_eq_of_mem_set hu with hu | rfl
  ·have := h.rl u hu; omega
  ·exact ⟨h1, h2⟩
 ·show ∀ q ∈ f, q < (B.txs.set j t).length
  rw [List.length_set]
  rcases hf with rfl | rfl
  ·exact h.fi
  ·intro q hq; cases hq
 ·show f.length <= n + 1
  have := h.fl
  rcases hf with rfl | rfl
  ·omega
  ·exact Nat.zero_le _
theorem WfB.at {B : Bk} {n : Nat} (h : WfB B n) {j : Nat} (hj : j < B.txs.length) : (B.txs.getD j tx0).rds.length <= n /\ (B.txs.getD j tx0).bad.length <= n := by
 refine h.rl _ ?_
 rw [ZPR, ZPU hj, ZPM]; exact ZQe hj
theorem ZIq {B : Bk} {n : Nat} (h : WfB B n) (i : Int) (x : Ent) : WfB (Zag B i x) (n + 1) := by
 have hmono := h.mono (Nat.le_succ n)
 have hflt : ∀ w, WfB (B.flt i w) (n + 1) := fun w => ⟨hmono.nd, hmono.lt, hmono.kl, hmono.ki, hmono.ol, hmono.rl, hmono.fi, hmono.fl⟩
 unfold Zag
 generalize hj : ixL (xw x) B.txs = j
 have ho : ∀ {q : Bool}, (decide (j < B.txs.length) && q) = true -> j < B.txs.length := fun hq => by simp at hq; exact hq.1
 dsimp only
 split
 ·split
  ·exact hflt 1
  ·rename_i hne
   rw [<- hj] at hne
   have hno := Zxn hne
   refine ⟨?_, ?_, hmono.kl, ?_, hmono.ol, ?_, (fun q hq => nomatch hq), Nat.zero_le _⟩
   ·show ((B.txs ++ [_]).map Tx.who).Nodup
    rw [ZP7, List.nodup_append]
    refine ⟨h.nd, by simp, fun a ha b hb => ?_⟩
    rw [List.map_singleton, ZPK] at hb
    obtain ⟨t, ht, rfl⟩ := List.mem_map.1 ha
    rw [hb]; exact hno t ht
   ·show (B.txs ++ [_]).length <= n + 1
    rw [ZPW, ZPF]; have := h.lt; omega
   ·intro q hq
    have := h.ki q hq
    show q < (B.txs ++ [_]).length
    rw [ZPW]; omega
   ·intro u hu
    rcases List.mem_append.1 hu with hu | hu
    ·exact hmono.rl u hu
    ·rw [List.mem_singleton.1 hu]; exact ⟨Nat.zero_le _, Nat.zero_le _⟩
 ·split
  ·split
   ·exact ⟨hmono.nd, hmono.lt, hmono.kl, hmono.ki, by show (B.out ++ [_]).length <= n + 1; rw [ZPW, ZPF]; have := h.ol; omega, hmono.rl, (fun q hq => nomatch hq), Nat.zero_le _⟩
   ·split
    ·rename_i hop
     have hjl := ho hop
     have hl := ZBt (B.txs.getD j tx0) i x
     have ha := h.at hjl
     exact h.set hjl hl.2.2 (by omega) (by omega) (.inl rfl) (.inr rfl)
    ·exact hflt 1
  ·split
   ·split
    ·rename_i hop
     have hjl := ho hop
     have ha := h.at hjl
     exact h.set hjl (t := { B.txs.getD j tx0 with ch := Yw (B.txs.getD j tx0).ch (kc x) ((Zr (Zao x) : Nat) * 2 + b01 (xk x == 4)) }) rfl (by show (B.txs.getD j tx0).rds.length <= n + 1; omega) (by show (B.txs.getD j tx0).bad.length <= n + 1; omega) (.inl rfl) (.inl rfl)
    ·exact hflt 1
   ·split
    ·split
     ·rename_i hop
      have hjl := ho hop
      have ha := h.at hjl
      exact h.set hjl (t := { B.txs.getD j tx0 with opn := false }) rfl (by show (B.txs.getD j tx0).rds.length <= n + 1; omega) (by show (B.txs.getD j tx0).bad.length <= n + 1; omega) (.inl rfl) (.inl rfl)
     ·exact hflt 1
    ·split
     ·split
      ·exact hflt 1
      ·split
       ·exact hflt 2
       ·rename_i hq _
        have hjl : j < B.txs.length := by
         by_cases hop : (decide (j < B.txs.length) && (B.txs.getD j tx0).opn) = true
         ·exact ho hop
         ·have hm : j ∈ B.fal := by
           by_cases hm : j ∈ B.fal
           ·exact hm
           ·exact absurd (.inl ⟨by simpa using hop, hm⟩) hq
          exact h.fi j hm
        have ha := h.at hjl
        exact h.set hjl (t := { B.txs.getD j tx0 with opn := false, com := i }) rfl (by show (B.txs.getD j tx0).rds.length <= n + 1; omega) (by show (B.txs.getD j tx0).bad.length <= n + 1; omega) (.inr rfl) (.inl rfl)
     ·split
      ·refine ⟨?_, ?_, hmono.kl, ?_, hmono.ol, ?_, ?_, ?_⟩
       ·show ((B.txs.map fun t => { t with opn := false }).map Tx.who).Nodup
        rw [List.map_map]; exact h.nd
       ·show (B.txs.map _).length <= n + 1
        rw [ZP1]; exact hmono.lt
       ·intro q hq
        have := h.ki q hq
        show q < (B.txs.map _).length
        rw [ZP1]; exact this
       ·intro u hu
        obtain ⟨t, ht, rfl⟩ := List.mem_map.1 hu
        exact hmono.rl t ht
       ·intro q hq
        have := Zo0 B.txs 0 q hq
        show q < (B.txs.map _).length
        rw [ZP1]; omega
       ·show (Zm4 B.txs 0).length <= n + 1
        have := Zrt B.txs 0
        have := h.lt
        omega
      ·exact hmono
theorem YK (B : Bk) (i : Int) (x : Ent) {j : Nat} (hj : ixL (xw x) B.txs = j) : Zag B i x =
 if xk x = 1 then (if j < B.txs.length then B.flt i 1 else { B with txs := B.txs ++ [⟨xw x, i, -1, true, [], [], []⟩], fal := [] })
 else if xk x = 2 then (if xw x = 0 then { B with out := B.out ++ [i :: nr x], fal := [] } else if (decide (j < B.txs.length) && (B.txs.getD j tx0).opn) = true then { B with txs := B.txs.set j (rdT (B.txs.getD j tx0) i x), fal := [] } else B.flt i 1)
 else if xk x = 3 \/ xk x = 4 then (if (decide (j < B.txs.length) && (B.txs.getD j tx0).opn) = true then { B with txs := B.txs.set j { B.txs.getD j tx0 with ch := Yw (B.txs.getD j tx0).ch (kc x) ((Zr (Zao x) : Nat) * 2 + b01 (xk x == 4)) } } else B.flt i 1)
 else if xk x = 6 then (if (decide (j < B.txs.length) && (B.txs.getD j tx0).opn) = true then { B with txs := B.txs.set j { B.txs.getD j tx0 with opn := false } } else B.flt i 1)
 else if xk x = 5 then (if ((decide (j < B.txs.length) && (B.txs.getD j tx0).opn) = false /\ ¬ j ∈ B.fal) \/ 0 <= (B.txs.getD j tx0).com then B.flt i 1 else if ¬ xt x = B.kept.length + 1 then B.flt i 2 else { B with txs := B.txs.set j { B.txs.getD j tx0 with opn := false, com := i }, kept := B.kept ++ [j] })
 else if xk x = 7 then { B with txs := B.txs.map fun t => { t with opn := false }, fal := Zm4 B.txs 0 }
 else B := by subst hj; rfl
section
variable {B : Bk} {i : Int} {x : Ent} {j : Nat} (hj : ixL (xw x) B.txs = j)
include hj
theorem st1a (hk : xk x = 1) (h : j < B.txs.length) : Zag B i x = B.flt i 1 := by rw [YK B i x hj, if_pos hk, if_pos h]
theorem st1b (hk : xk x = 1) (h : ¬ j < B.txs.length) : Zag B i x = { B with txs := B.txs ++ [⟨xw x, i, -1, true, [], [], []⟩], fal := [] } := by rw [YK B i x hj, if_pos hk, if_neg h]
theorem st2a (hk : xk x = 2) (h : xw x = 0) : Zag B i x = { B with out := B.out ++ [i :: nr x], fal := [] } := by rw [YK B i x hj, if_neg (by omega), if_pos hk, if_pos h]
theorem st2b (hk : xk x = 2) (h : ¬ xw x = 0) (h1 : j < B.txs.length) (h2 : (B.txs.getD j tx0).opn = true) : Zag B i x = { B with txs := B.txs.set j (rdT (B.txs.getD j tx0) i x), fal := [] } := by
 rw [YK B i x hj, if_neg (by omega), if_pos hk, if_neg h, if_pos (by rw [h2, decide_eq_true h1]; rfl)]
theorem st2c (hk : xk x = 2) (h : ¬ xw x = 0) (h1 : j < B.txs.length -> (B.txs.getD j tx0).opn = false) : Zag B i x = B.flt i 1 := by
 rw [YK B i x hj, if_neg (by omega), if_pos hk, if_neg h, if_neg (by simpa using h1)]
theorem st3a (hk : xk x = 3 \/ xk x = 4) (h1 : j < B.txs.length) (h2 : (B.txs.getD j tx0).opn = true) : Zag B i x = { B with txs := B.txs.set j { B.txs.getD j tx0 with ch := Yw (B.txs.getD j tx0).ch (kc x) ((Zr (Zao x) : Nat) * 2 + b01 (xk x == 4)) } } := by
 rw [YK B i x hj, if_neg (by omega), if_neg (by omega), if_pos hk, if_pos (by rw [h2, decide_eq_true h1]; rfl)]
theorem ZOv (hk : xk x = 3 \/ xk x = 4) (h1 : j < B.txs.length -> (B.txs.getD j tx0).opn = false) : Zag B i x = B.flt i 1 := by
 rw [YK B i x hj, if_neg (by omega), if_neg (by omega), if_pos hk, if_neg (by simpa using h1)]
theorem st6a (hk : xk x = 6) (h1 : j < B.txs.length) (h2 : (B.txs.getD j tx0).opn = true) : Zag B i x = { B with txs := B.txs.set j { B.txs.getD j tx0 with opn := false } } := by
 rw [YK B i x hj, if_neg (by omega), if_neg (by omega), if_neg (by omega), if_pos hk, if_pos (by rw [h2, decide_eq_true h1]; rfl)]
theorem st6b (hk : xk x = 6) (h1 : j < B.txs.length -> (B.txs.getD j tx0).opn = false) : Zag B i x = B.flt i 1 := by
 rw [YK B i x hj, if_neg (by omega), if_neg (by omega), if_neg (by omega), if_pos hk, if_neg (by simpa using h1)]
theorem ZLG (hk : xk x = 5) (h : ((j < B.txs.length -> (B.txs.getD j tx0).opn = false) /\ ¬ j ∈ B.fal) \/ 0 <= (B.txs.getD j tx0).com) : Zag B i x = B.flt i 1 := by
 rw [YK B i x hj, if_neg (by omega), if_neg (by omega), if_neg (by omega), if_neg (by omega), if_pos hk, if_pos (h.imp (fun q => ⟨by simpa using q.1, q.2⟩) id)]
theorem st5b (hk : xk x = 5) (h : (j < B.txs.length /\ (B.txs.getD j tx0).opn = true) \/ j ∈ B.fal) (h2 : (B.txs.getD j tx0).com < 0) (h3 : ¬ xt x = B.kept.length + 1) : Zag B i x = B.flt i 2 := by
 rw [YK B i x hj, if_neg (by omega), if_neg (by omega), if_neg (by omega), if_neg (by omega), if_pos hk, if_neg, if_pos h3]
 rintro (⟨q1, q2⟩ | q)
 ·rcases h with ⟨a, b⟩ | a
  ·rw [b, decide_eq_true a] at q1; cases q1
  ·exact q2 a
 ·omega
theorem st5c (hk : xk x = 5) (h : (j < B.txs.length /\ (B.txs.getD j tx0).opn = true) \/ j ∈ B.fal) (h2 : (B.txs.getD j tx0).com < 0) (h3 : xt x = B.kept.length + 1) :
  Zag B i x = { B with txs := B.txs.set j { B.txs.getD j tx0 with opn := false, com := i }, kept := B.kept ++ [j] } := by
 rw [YK B i x hj, if_neg (by omega), if_neg (by omega), if_neg (by omega), if_neg (by omega), if_pos hk, if_neg, if_neg (by omega)]
 rintro (⟨q1, q2⟩ | q)
 ·rcases h with ⟨a, b⟩ | a
  ·rw [b, decide_eq_true a] at q1; cases q1
  ·exact q2 a
 ·omega
theorem st7 (hk : xk x = 7) : Zag B i x = { B with txs := B.txs.map fun t => { t with opn := false }, fal := Zm4 B.txs 0 } := by
 rw [YK B i x hj, if_neg (by omega), if_neg (by omega), if_neg (by omega), if_neg (by omega), if_neg (by omega), if_pos hk]
theorem st0 (h : ¬ xk x = 1 /\ ¬ xk x = 2 /\ ¬ xk x = 3 /\ ¬ xk x = 4 /\ ¬ xk x = 5 /\ ¬ xk x = 6 /\ ¬ xk x = 7) : Zag B i x = B := by
 rw [YK B i x hj, if_neg (by omega), if_neg (by omega), if_neg (by omega), if_neg (by omega), if_neg (by omega), if_neg (by omega)]
end
theorem Zl {R : List (List Int)} {J : Nat} (hJ : J < R.length) {row : List Int} (ks : List Nat) : Zbk (ZCC R (J : Nat) (g0 (R.getD J []) :: row)) ks = Zbk R ks := by
 rw [ZfQ hJ]
 exact Zgv (YA (f := g0) (d := []) (x := g0 (R.getD J []) :: row) rfl hJ) ks
theorem Y6 {R : List (List Int)} {L : List Tx} {J : Nat} (hJ : J < R.length) {row : List Int} {t : Tx} (hL : J < L.length) (ht : t.who = (L.getD J tx0).who) : ZeQ (ZCC R (J : Nat) (g0 (R.getD J []) :: row)) (L.set J t) = ZeQ R L := by
 rw [ZfQ hJ]
 exact Zn3 (YA (f := g0) (d := []) (x := g0 (R.getD J []) :: row) rfl hJ) (YA (f := Tx.who) (d := tx0) ht hL)
theorem Zfr {L : List Tx} {J : Nat} (hL : J < L.length) {m : List (Int × Int)} {p : List Int} {r : List Ent} {b : List Int} :
  setT (setT L (J : Nat) (Zs6 (L.getD J tx0) m p)) (J : Nat) (ZAB ((setT L (J : Nat) (Zs6 (L.getD J tx0) m p)).getD J tx0) r b) = L.set J (ZAB (Zs6 (L.getD J tx0) m p) r b) := by
 have h := ZfE (L := L) (i := (J : Nat)) (t := Zs6 (L.getD J tx0) m p) (u := tx0) (by omega) (by omega)
 have h2 := h.2
 unfold atT at h2
 rw [ZPY] at h2
 rw [h2, (ZfE (by omega) (by omega)).1, ZDX hL]
theorem ZmK {x : List Ent} {n : Nat} (h : (Z7 x n).fault = -1) : Z7 x (n + 1) = Zag (Z7 x n) n (xa x n) := by
 show (if 0 <= (Z7 x n).fault then Z7 x n else Zag (Z7 x n) n (xa x n)) = _
 rw [if_neg (by rw [h]; omega)]
theorem ZlJ {x : List Ent} {n : Nat} (h : 0 <= (Z7 x n).fault) : ∀ {m : Nat}, n <= m -> Z7 x m = Z7 x n
 | 0, hm => by rw [Nat.le_zero.1 hm]
 | m + 1, hm => by
  rcases ZPL m n with hlt | hge
  ·rw [show m + 1 = n by omega]
  ·have := ZlJ h hge
   show (if 0 <= (Z7 x m).fault then Z7 x m else _) = _
   rw [this, if_pos h]
theorem ZIJ {x : List Ent} {n : Nat} {B : Bk} {w : Int} (hB : Z7 x n = B) (hf : B.fault = -1) (hn : n < x.length) (hs : Zag B n (xa x n) = B.flt n w) : Z7 x x.length = B.flt n w := by
 have h1 := ZmK (x := x) (n := n) (by rw [hB]; exact hf)
 rw [hB, hs] at h1
 rw [ZlJ (n := n + 1) (by rw [h1]; show (0 : Int) <= n; omega) hn, h1]
theorem ZiA (x : List Ent) : ∀ n, WfB (Z7 x n) n
 | 0 => ⟨List.nodup_nil, ZPH _, ZPH _, (fun k hk => nomatch hk), ZPH _, (fun t ht => nomatch ht), (fun k hk => nomatch hk), ZPH _⟩
 | n + 1 => by
  have ih := ZiA x n
  show WfB (if 0 <= (Z7 x n).fault then Z7 x n else Zag (Z7 x n) n (xa x n)) (n + 1)
  split
  ·exact ih.mono (Nat.le_succ n)
  ·exact ZIq ih _ _
theorem ZJ2 (x : Ent) : kc (nr x) = kc x := by unfold kc; rw [Zkm]
theorem Zf2 (m : List (Int × Int)) (x : Ent) : Z3 m (nr x) = Z3 m x := by unfold Z3; rw [ZJ2, ZgH, Zg3]
theorem Zuy (q : Bool) : (b01 q == 1) = q := by cases q <;> rfl
theorem ZLJ (t : Tx) (m : List (Int × Int)) : ZAB (Zs6 t m [t.com, b01 t.opn]) t.rds t.bad = { t with ch := m } := by
 have h := Zuy t.opn
 unfold ZAB Zs6
 simp only [List.getD_cons_zero, List.getD_cons_succ, h]
theorem rd_eq (t : Tx) (i : Int) (x : Ent) : ZAB (Zs6 t t.ch [t.com, b01 t.opn]) (if Zx t.ch (kc (nr x)) = true then t.rds else t.rds ++ [i :: nr (nr x)]) (if Zx t.ch (kc (nr x)) = true /\ Z3 t.ch (nr x) = false then t.bad ++ [i] else t.bad) = rdT t i x := by
 have h := Zuy t.opn
 unfold ZAB Zs6 rdT
 simp only [List.getD_cons_zero, List.getD_cons_succ, h, ZJ2, Zf2, ZLP]
 cases Zx t.ch (kc x)
 ·simp
 ·cases Z3 t.ch x <;> simp
theorem Zef (R : List (List Int)) (ks : List Nat) (J : Nat) : Zbk R (ks ++ [J]) = Zbk R ks ++ [[g0 (R.getD J [])]] := by unfold Zbk; rw [ZP7]; rfl
theorem ZEp {α : Type} {l : List α} {j : Nat} {d : α} (hj : j < l.length) : l.set j (l.getD j d) = l := by
 apply List.ext_getElem?
 intro q
 by_cases hq : j = q
 ·subst hq
  rw [List.getElem?_set_self hj, ZPR, ZPU hj, ZPM]
 ·rw [List.getElem?_set_ne hq]
theorem Zr5 {x : List Ent} {n : Nat} (h : n <= x.length) : ZjV (x.take n) (x.take n).length = ZjV x n := by
 have hl : (x.take n).length = n := by rw [ZPT]; omega
 have e : ∀ i, i < n -> xa (x.take n) i = xa x i := fun i hi => Z5 hi
 unfold ZjV
 congr 1
 apply propext
 rw [hl]
 exact ⟨fun q i hi => by rw [<- e i hi]; exact q i hi, fun q i hi => by rw [e i hi]; exact q i hi⟩
theorem ZcA (L : List Tx) (J : Nat) : atT L (J : Nat) = L.getD J tx0 := by unfold atT; rw [ZPY]
theorem ZaP {R : List (List Int)} (hn : (R.map g0).Nodup) {J : Nat} (hJ : J < R.length) : Zc2 (g0 (R.getD J [])) R = J := by
 have hb : Zo7 R (g0 (R.getD J [])) := ⟨J, hJ, rfl⟩
 exact Zkr hn (YY hb) hJ (ZbY (YY hb))
theorem Zvk {R : List (List Int)} {J : Nat} (hJ : J < R.length) : R.getD J [] ∈ R := by
 rw [ZPR, ZPU hJ, ZPM]; exact ZQe hJ
end
end Go.Proofs.YtidlngnhjffepaaGreat
namespace Go.Proofs.YtidlngnhjffepaaGreat
noncomputable section
open Go.Eng
theorem Zzh {L : List Tx} {t : Tx} (ht : t ∈ L) : ixL t.who L < L.length := by
 rcases ZPL (ixL t.who L) L.length with h | h
 ·exact h
 ·exact absurd rfl (Zxn (by omega) t ht)
theorem YL {left : List (Int × Int)} : ∀ {L : List Tx} {n k : Nat}, k ∈ Zcc left L n ↔ n <= k /\ k - n < L.length /\ (L.getD (k - n) tx0).opn = true /\ Zx left (L.getD (k - n) tx0).who = false
 | [], n, k => by
  constructor
  ·intro h; cases h
  ·rintro ⟨_, h, _⟩; exact absurd h (Nat.not_lt_zero _)
 | t :: L, n, k => by
  have ih := YL (left := left) (L := L) (n := n + 1) (k := k)
  have hs : n + 1 <= k -> (t :: L).getD (k - n) tx0 = L.getD (k - (n + 1)) tx0 := fun h => by
   rw [show k - n = (k - (n + 1)) + 1 by omega]; rfl
  have h0 : k = n -> (t :: L).getD (k - n) tx0 = t := fun h => by rw [show k - n = 0 by omega]; rfl
  unfold Zcc
  split
  ·rename_i hc
   rw [List.mem_cons, ih]
   constructor
   ·rintro (h | ⟨a, b, c⟩)
    ·rw [h0 h]; exact ⟨by omega, by rw [ZQb]; omega, hc⟩
    ·rw [hs a]; exact ⟨by omega, by rw [ZQb]; omega, c⟩
   ·rintro ⟨a, b, c⟩
    rw [ZQb] at b
    by_cases h : k = n
    ·exact .inl h
    ·rw [hs (by omega)] at c
     exact .inr ⟨by omega, by omega, c⟩
  ·rename_i hc
   rw [ih]
   constructor
   ·rintro ⟨a, b, c⟩
    rw [hs a]; exact ⟨by omega, by rw [ZQb]; omega, c⟩
   ·rintro ⟨a, b, c⟩
    rw [ZQb] at b
    by_cases h : k = n
    ·rw [h0 h] at c; exact absurd c hc
    ·rw [hs (by omega)] at c
     exact ⟨by omega, by omega, c⟩
theorem YZ {left : List (Int × Int)} : ∀ {L : List Tx} {n : Nat}, (Zcc left L n).Nodup
 | [], _ => List.nodup_nil
 | t :: L, n => by
  unfold Zcc
  split
  ·rw [List.nodup_cons]
   exact ⟨fun h => by have := (YL.1 h).1; omega, YZ⟩
  ·exact YZ
theorem Zgu (left : List (Int × Int)) : ∀ (L : List Tx) (n : Nat), (Zcc left L n).length <= L.length
 | [], _ => ZPH _
 | t :: L, n => by
  have := Zgu left L (n + 1)
  unfold Zcc
  split
  ·rw [ZQb, ZQb]; omega
  ·rw [ZQb]; omega
theorem ZdK : ∀ (L : List Tx) (n : Nat), Zcc [] L n = Zm4 L n
 | [], _ => rfl
 | t :: L, n => by
  unfold Zcc Zm4
  rw [ZdK L (n + 1)]
  cases t.opn <;> simp [Zx]
theorem ZkP {left : List (Int × Int)} {L : List Tx} (h : ∀ t ∈ L, Zx left t.who = true) (n : Nat) : Zcc left L n = [] := by
 rw [List.eq_nil_iff_forall_not_mem]
 intro k hk
 obtain ⟨_, h2, _, h4⟩ := YL.1 hk
 rw [h _ (by rw [ZPR, ZPU h2, ZPM]; exact ZQe h2)] at h4
 cases h4
theorem Zma {left : List (Int × Int)} {L : List Tx} (h : ∀ t ∈ L, Zx left t.who = true) : Zcf L left = L := by
 unfold Zcf
 have e : (L.map fun t => if Zx left t.who = true then t else { t with opn := false }) = L.map id := List.map_congr_left fun t ht => if_pos (h t ht)
 rw [e, List.map_id]
theorem ZdP {R : List (List Int)} {L : List Tx} (hl : R.length = L.length) : ∀ t ∈ L, Zx (ZeQ R L) t.who = true := fun t ht => by
 rw [(ZbI hl 0).2]; simp [Zzh ht]
theorem ZgZ {R : List (List Int)} {L : List Tx} (hl : R.length = L.length) : (ZeQ R L).map (·.1) = L.map (·.who) := by
 unfold ZeQ
 rw [List.map_map]
 have : ((·.1) ∘ fun p : Tx × List Int => (p.1.who, g0 p.2)) = (fun t : Tx => t.who) ∘ Prod.fst := rfl
 rw [this, <- List.map_map, List.map_fst_zip (by omega)]
theorem Zeb (L : List Tx) (left : List (Int × Int)) : (Zcf L left).length = L.length := by unfold Zcf; rw [ZP1]
theorem Zd4 (L : List Tx) (left : List (Int × Int)) {j : Nat} (hj : j < L.length) : (Zcf L left).getD j tx0 = if Zx left (L.getD j tx0).who = true then L.getD j tx0 else { L.getD j tx0 with opn := false } := by
 unfold Zcf
 rw [ZPR, ZPN, ZPR, ZPU hj]; rfl
theorem Zg5 {L : List Tx} {left : List (Int × Int)} (hn : (left.map (·.1)).Nodup) (hw : (L.map (·.who)).Nodup) {k : Int} {j : Nat} (hj : ixL k L = j) (hjl : j < L.length) (hk : Zx left k = true) :
  Zcf L (Y0 left k) = (Zcf L left).set j { L.getD j tx0 with opn := false } := by
 have hwho : (L.getD j tx0).who = k := by rw [<- hj]; exact ZaN (by omega)
 apply List.ext_getElem?
 intro q
 rw [List.getElem?_set]
 have hg : ∀ (lf : List (Int × Int)), (Zcf L lf)[q]? = (L[q]?).map (fun t => if Zx lf t.who = true then t else { t with opn := false }) := fun lf => by unfold Zcf; rw [ZPN]
 rw [hg, hg, Zeb]
 by_cases hq : j = q
 ·subst hq
  rw [if_pos rfl, if_pos hjl]
  have e : L[j]? = some (L.getD j tx0) := by rw [ZPR, ZPU hjl, ZPM]
  rw [e, Option.map_some]
  congr 1
  exact if_neg (by rw [ZaD hn, hwho, decide_eq_true rfl]; simp)
 ·rw [if_neg hq]
  cases hL : L[q]? with
  | none => rfl
  | some t =>
   simp only [Option.map_some]
   have hne : ¬ k = t.who := fun h => hq (by
    have hql : q < L.length := (List.getElem?_eq_some_iff.1 hL).1
    have := Zeo hw hql
    rw [ZPR, hL, ZPM, <- h, hj] at this
    exact this)
   rw [ZaD hn]
   simp [hne]
theorem Zik {L : List Tx} {left : List (Int × Int)} (hn : (left.map (·.1)).Nodup) (hw : (L.map (·.who)).Nodup) {k : Int} {j : Nat} (hj : ixL k L = j) (hjl : j < L.length) (hk : Zx left k = true) (ho : ((Zcf L left).getD j tx0).opn = false) :
  Zcf L (Y0 left k) = Zcf L left := by
 rw [Zg5 hn hw hj hjl hk]
 have hwho : (L.getD j tx0).who = k := by rw [<- hj]; exact ZaN (by omega)
 rw [Zd4 L left hjl, hwho, if_pos hk] at ho
 have e : ({ L.getD j tx0 with opn := false } : Tx) = (Zcf L left).getD j tx0 := by
  rw [Zd4 L left hjl, hwho, if_pos hk]
  generalize L.getD j tx0 = t at ho
  cases t; simp only at ho; rw [ho]
 rw [e]
 exact ZEp (by rw [Zeb]; exact hjl)
theorem mhas_del' {m : List (Int × Int)} (hn : (m.map (·.1)).Nodup) (k q : Int) : Zx (Y0 m k) q = if k = q then false else Zx m q := by
 rw [ZaD hn]
 by_cases h : k = q <;> simp [h]
theorem Zmq {L : List Tx} {left : List (Int × Int)} (hn : (left.map (·.1)).Nodup) (hw : (L.map (·.who)).Nodup) {k : Int} {j : Nat} (hj : ixL k L = j) (hjl : j < L.length) (hk : Zx left k = true) (ho : (L.getD j tx0).opn = true) :
  (Zcc left L 0 ++ [j]).Perm (Zcc (Y0 left k) L 0) := by
 have hwho : (L.getD j tx0).who = k := by rw [<- hj]; exact ZaN (by omega)
 have hnj : ¬ j ∈ Zcc left L 0 := fun h => by
  have := (YL.1 h).2.2.2
  rw [Nat.sub_zero, hwho, hk] at this; cases this
 refine (List.perm_ext_iff_of_nodup ?_ YZ).2 fun q => ?_
 ·rw [List.nodup_append]
  refine ⟨YZ, by simp, fun a ha b hb => ?_⟩
  rw [ZPK] at hb; subst hb
  intro e; subst e; exact hnj ha
 ·rw [ZQc, ZPK, YL, YL, mhas_del' hn]
  simp only [Nat.sub_zero]
  constructor
  ·rintro (⟨a, b, c, d⟩ | rfl)
   ·exact ⟨a, b, c, by rw [d]; split <;> rfl⟩
   ·exact ⟨Nat.zero_le _, hjl, ho, if_pos hwho.symm⟩
  ·rintro ⟨a, b, c, d⟩
   by_cases hq : q = j
   ·exact .inr hq
   ·refine .inl ⟨a, b, c, ?_⟩
    have hne : ¬ k = (L.getD q tx0).who := fun h => hq (by
     have := Zeo hw b
     rw [<- h, hj] at this; exact this.symm)
    rw [if_neg hne] at d; exact d
theorem Zid {L : List Tx} {left : List (Int × Int)} (hn : (left.map (·.1)).Nodup) (hw : (L.map (·.who)).Nodup) {k : Int} {j : Nat} (hj : ixL k L = j) (hjl : j < L.length) (ho : (L.getD j tx0).opn = false) :
  (Zcc left L 0).Perm (Zcc (Y0 left k) L 0) := by
 refine (List.perm_ext_iff_of_nodup YZ YZ).2 fun q => ?_
 rw [YL, YL, mhas_del' hn]
 simp only [Nat.sub_zero]
 constructor
 ·rintro ⟨a, b, c, d⟩
  exact ⟨a, b, c, by rw [d]; split <;> rfl⟩
 ·rintro ⟨a, b, c, d⟩
  refine ⟨a, b, c, ?_⟩
  have hne : ¬ k = (L.getD q tx0).who := fun h => by
   have := Zeo hw b
   rw [<- h, hj] at this
   rw [this, c] at ho; cases ho
  rw [if_neg hne] at d; exact d
theorem Zei {R : List (List Int)} {a b : List Nat} (h : a.Perm b) : (Zbk R a).Perm (Zbk R b) := h.map _
def ZKH : SX := ixB (rA 5) (ai 4)
def ZwD : Ctr := ⟨[.int, .int, .int, .rows, .int, .rows, .g], [.one (slC (ai 0) (ai 1) (ai 2) 1), .one (.ptr (ai 4) 0)], [pAr (ai 0) (rA 3) (ai 2), txO ZKH (rA 5) (gA 6)] ++ txP (ai 4) (rA 5) (gA 6) ZKH,
 [.f2 45 (ai 1) (Zh (rA 3)), eLe (ai 1) (ai 2), eLe (ai 1) mil, usB 560 (rA 3) (rA 5) z0, usB 565 (rA 5) (ai 4) z0, usB 558 (rA 5) (gA 6) z0, .f2 45 (Zh (rA 5)) (usI 552 (gA 6) z0 z0), eLt ZKH (usI 552 (gA 6) z0 z0), .f2 45 (ai 4) (nt (rA 5) ZKH 0)], [.bool], .one (.bool (qA 7)),
 [pAr (ai 0) (rA 3) (ai 2), txO ZKH (rA 5) (gA 6)] ++ txP (ai 4) (rA 5) (gA 6) ZKH, [.f2 48 (qA 7) (usB 562 (rA 3) (ai 4) z0)]⟩
def cn2I : Inv := cntI
def cn2E : SX := .f2 45 (ai 4) (nt (rA 3) (ai 7) 0)
def ZNa : Cx := { specs := [], anns := [(55, [(0, .ghost ZkN [.tmp 1]), (999999, .ghost ZrY [.tmp 1])]),
 (76, [(2, .inv cn2I), (4, .split cn2E), (4, .iff (ZcP cn2E)), (4, .ghost ZD4 [.tmp 0, .tmp 5, .tmp 1]), (500004, .iff (ZcP cn2E)), (500004, .ghost ZDy [.tmp 1])])] }
def ZmX : Ctr := ⟨hA, [.one (hS 0)], [hC 0 0], [eLe z0 (ai 2), eLe (ai 2) (Zh (rA 4)), eLe (ai 2) (ai 3), eLe (ai 2) (.int 1099511627776)], [.int, .int], .tup [(false, [.ptr (ai 6) 0]), (false, [.int .i64 (ai 7)])], [hC 0 0, bkC (ai 6) xX],
 [.f2 45 (ai 7) (usI 523 xX z0 z0), .f2 48 (eLe z0 (ai 6)) (.f2 45 (ai 7) z0)]⟩
def wG (i : SX) : SX := usG 561 xX i z0
def wK (i R : SX) : SX := usR 548 xX i R
def wO (i : SX) : SX := usR 549 xX i z0
def wM (R g : SX) : SX := .us .amap 547 R g z0 z0
def wrtI (m b : Nat) : Inv := ⟨[.int, .rows, .int, .int, .int, .int, .int, .int, .rows], [(22, .one (.int .i64 (di 0))), (5, .one (slC (di 6) (Zh (rA 1000008)) (di 7) 1))],
 [.cel (ai b) 0 (bkQ (ai m) (di 2) (Zh (wK (di 0) (rA 1000001))) (di 3) (di 4) (Zh (wO (di 0))) (di 5) (.int (-1)) z0), imC (ai m) (wM (rA 1000001) (wG (di 0))), pAr (di 2) (wK (di 0) (rA 1000001)) (di 3), rAr (di 4) (wO (di 0)) (di 5), pAr (di 6) (rA 1000008) (di 7), txC (rA 1000001) (wG (di 0))],
 [eLe z0 (di 0), eLe (di 0) (ai 2), eLe (Zh (wK (di 0) (rA 1000001))) (di 3), .f2 50 (eLe z0 (di 2)) (.f2 45 (Zh (wK (di 0) (rA 1000001))) z0), eLe (Zh (wO (di 0))) (di 5), .f2 50 (eLe z0 (di 4)) (.f2 45 (Zh (wO (di 0))) z0),
  eLe (Zh (rA 1000008)) (di 7), .f2 50 (eLe z0 (di 6)) (.f2 45 (Zh (rA 1000008)) z0), .us .bool 559 xX (di 0) (rA 1000001) (rA 1000008), .f2 45 (usI 550 xX (di 0) z0) (.int (-1)), .f2 45 (usI 551 xX (di 0) z0) z0], .f2 41 (ai 2) (di 0)⟩
def wrcI (m g R it : Nat) : Inv := ⟨[.amap, .ints, .rows, .int, .int, .rows], [(5, .one (slC (di 3) (Zh (rA 1000005)) (di 4) 1))],
 [.itr (.int .i64) (.one .ptr) (ai m) (wM (rA R) (wG (ai g))) (ai it) (mA 1000000) (iA 1000001), pAr (di 3) (rA 1000005) (di 4), txC (rA 1000002) (.us .g 568 (wG (ai g)) (mA 1000000) z0 z0)],
 [eLe (Zh (rA 1000005)) (di 4), .f2 50 (eLe z0 (di 3)) (.f2 45 (Zh (rA 1000005)) z0), usB 569 (rA 1000002) (rA R) z0, .us .bool 570 (wG (ai g)) (mA 1000000) (rA R) (rA 1000005), usB 571 (mA 1000000) (wM (rA R) (wG (ai g))) z0], .f1 33 (mA 1000000)⟩
def wT (n : Nat) : SX := .f3 140 (.int (-1)) (wM (rA (n + 1)) (wG (ai n))) (nt (rA 4) (ai n) 1)
def ZLX : Cx := { specs := [(50, [ZuP]), (54, [ZBn]), (55, [ZwD, Zw5])], anns := [(25, [(6, .ghost ZFD []), (6, .ghost ZFD []), (6, .ghost ZK8 []), (6, .ghost emTC []), (8, .inv (wrtI 7 8)), (9, .ghost ZM6 []), (11, .split (eLe z0 (wT 9))), (11, .iff (eLe z0 (wT 9))), (11, .ghost ZDa [.tmp 8, .tmp 32]), (500011, .iff (eLe z0 (wT 9))), (500011, .ghost ZkN [.tmp 8]),
  (500016, .ghost adTC [.tmp 62]), (500017, .ghost ZFD []), (500019, .ghost ZFD []), (20, .ghost ZDa [.tmp 8, .tmp 32]), (500020, .ghost ZnY [.tmp 8]), (29, .ghost ZDa [.tmp 8, .tmp 32]), (500029, .ghost ZnY [.tmp 8]), (33, .ghost ZDa [.tmp 8, .tmp 32]), (500033, .ghost ZnY [.tmp 8]),
  (35, .iff (eLe z0 (wT 9))), (35, .ghost ZrY [.tmp 8]), (500035, .iff (eLe z0 (wT 9))), (500035, .ghost ZkN [.tmp 8]), (39, .ghost ZDa [.tmp 8, .tmp 32]), (500039, .ghost ZnY [.tmp 8]), (500042, .ghost ZFD []), (44, .inv (wrcI 7 9 10 19)), (46, .ghost ZrY [.tmp 11]), (500046, .ghost ZkN [.tmp 11]), (47, .ghost ZrY [.tmp 11]), (500047, .ghost ZnY [.tmp 11]), (999999, .iff (eLt (.int 400) (ai 2))), (999999, .ghost ZKY [.tmp 0, .tmp 2]), (999999, .iff (qA 6)), (999999, .ghost ZKY [.tmp 0, .tmp 2]), (999999, .iff (ZcP (qA 6))), (999999, .ghost Ztn [.tmp 0, .tmp 2])])] }
def ZG8 : SX := v 552 (g 6)
def ZCJ : SX := e (.f1 32 (r 5)) ZG8
def Zhg : SX := d 566 (r 5) (a 4)
def ZEn : SX := t Zhg ZG8
def ZHR : SX := .f3 112 (r 5) Zhg z
def ZCY : SX := e (a 4) ZHR
def ZG6 : SX := l z (a 7)
def ZJE : SX := .f3 112 (r 3) (a 7) z
def ZF4 : SX := e (a 4) ZJE
def ZID : SX := t (a 7) (.f1 32 (r 3))
def ZwT : SX := .f1 32 (wR 545 (g 6) Zhg)
def ZAl : SX := l ZwT (.f3 112 (r 5) Zhg (k 3))
def ZzU : SX := .f1 30 (wN 546 (g 6) Zhg)
def ZAY : SX := l ZzU (.f3 112 (r 5) Zhg (k 5))
def ZAb : SX := .f2 50 (l z (.f3 112 (r 5) Zhg (k 2))) (e ZwT z)
def ZtR : SX := .f2 50 (l z (.f3 112 (r 5) Zhg (k 4))) (e ZzU z)
def ZAr : SX := l z (.f3 112 (r 5) Zhg (k 1))
def ZzG : SX := l z ZHR
def ZzY : SX := c 562 (r 3) (a 4)
def ZiR : SX := .f2 40 (a 7) (k 1)
def Zxc : SX := .f2 41 (a 1) ZiR
def ZMn : VC := i (e (a 1) (.f1 32 (r 3))) (i (l (a 1) (a 2)) (i (l (a 1) (k 1000000)) (i (c 560 (r 3) (r 5)) (i (c 565 (r 5) (a 4)) (i (c 558 (r 5) (g 6)) (i ZCJ (i ZEn (i ZCY (n (l z Zhg) (n (l z (a 1)) (n (.f1 2 (c 562 (.f2 115 (r 3) z) (a 4))) (u 7 .int (i ZG6 (i (l (a 7) (a 1)) (i (.f1 2 (c 562 (.f2 115 (r 3) (a 7)) (a 4))) (.and (i (t (a 7) (a 1)) (.and (i ZF4 (n ZID (n (l z (a 4)) (i ZCY (i ZEn (i ZAl (i ZAY (i ZAb (i ZtR (i ZAr (i ZzG (i ZCJ (n (.f2 48 ZG6 ZzY) .tt))))))))))))) (i (.f1 2 ZF4) (n (c 565 (r 5) ZJE) (n ZID (n (.f1 23 ZiR) (n (l z Zxc) (n (t Zxc (.f2 41 (a 1) (a 7))) (n (l z ZiR) (n (l ZiR (a 1)) (n (.f1 2 (c 562 (.f2 115 (r 3) ZiR) (a 4))) .tt))))))))))) (i (l (a 1) (a 7)) (i ZCY (i ZEn (i ZAl (i ZAY (i ZAb (i ZtR (i ZAr (i ZzG (i ZCJ (n (.f2 48 (.bool false) ZzY) .tt)))))))))))))))))))))))))))
theorem ZNA : YV Tryz.prog ZNa 12 55 ZwD = ZMn := by kernel_rfl
def Yn : SX := .f2 115 (r 4) (a 2)
def ZEk : SX := v 523 Yn
def ZG9 : SX := l z (a 8)
def ZGJ : SX := hR0 548 Yn z (.f1 154 z)
def ZGz : SX := .f1 32 ZGJ
def ZKq : SX := e ZGz z
def ZGG : SX := vR 549 Yn
def ZIE : SX := .f1 32 ZGG
def ZJk : SX := e ZIE z
def ZIU : SX := w 561 Yn
def Zd5 : SX := hR0 548 Yn (a 9) (r 10)
def ZbB : SX := .f1 32 Zd5
def Zhb : SX := l z (a 11)
def Zlp : SX := wR 549 Yn (a 9)
def Zed : SX := .f1 32 Zlp
def ZAH : SX := l z (a 13)
def ZW : SX := f 561 Yn (a 9)
def Zaz : SX := wM0 547 (r 10) ZW
def Zgz : SX := .f3 112 (r 4) (a 9) (k 1)
def Zcq : SX := .f3 140 (k (-1)) Zaz Zgz
def Zli : SX := l z Zcq
def Z9 : SX := d 553 ZW Zgz
def Zqn : SX := v 552 ZW
def ZvB : SX := .f3 112 (r 10) Z9 z
def Zin : SX := wR 545 ZW Z9
def Zh6 : SX := .f1 32 Zin
def ZwP : SX := .f3 112 (r 10) Z9 (k 3)
def Zfm : SX := l Zh6 ZwP
def ZiV : SX := wN 546 ZW Z9
def Zic : SX := .f1 30 ZiV
def ZwM : SX := .f3 112 (r 10) Z9 (k 5)
def Zfh : SX := l Zic ZwM
def Zws : SX := .f3 112 (r 10) Z9 (k 2)
def Ze3 : SX := .f2 50 (l z Zws) (e Zh6 z)
def ZCv : SX := .f3 112 (r 10) Z9 (k 4)
def Zfa : SX := .f2 50 (l z ZCv) (e Zic z)
def Zqo : SX := .f3 112 (r 10) Z9 (k 1)
def Ze0 : SX := l z Zqo
def Ze8 : SX := l z ZvB
def ZdS : SX := e (.f1 32 (r 10)) Zqn
def Zeg : SX := .f3 112 (r 4) (a 9) z
def ZqF : SX := e Zeg (k 1)
def Zij : SX := .f1 32 Yn
def Zam : SX := .f2 155 ZW (f 561 Yn Zij)
def Y7 : SX := .f2 155 Zaz Zaz
def Zaf : SX := .f2 155 Zd5 (hR0 548 Yn Zij (r 10))
def Zal : SX := .f2 155 Zlp (wR 549 Yn Zij)
def Zad : SX := e ZbB ZbB
def Zaa : SX := e Zed Zed
def ZAp : SX := d 550 Yn Zij
def Zax : SX := e (a 9) ZAp
def ZqZ : SX := d 551 Yn Zij
def Za2 : SX := e (k 1) ZqZ
def Zae : SX := e z ZEk
def Y9 : SX := .f2 48 ZG9 (.bool true)
def Zzk : SX := .f1 2 ZqF
def ZrR : SX := e Zeg (k 2)
def Zq8 : SX := e Zgz z
def Zff : SX := l z (a 19)
def Zy9 : SX := l Zed Zed
def Zll : SX := .f2 40 Zed (k 1)
def ZAa : SX := l (.f2 42 Zll (k 72)) k1
def ZAh : SX := l Zll (a 21)
def Zg7 : SX := l z (a 20)
def ZtW : SX := .f2 50 Zg7 (e Zll z)
def Yz : SX := .f2 40 (a 9) (k 1)
def Zbc : SX := .f1 23 Yz
def ZwG : SX := .f2 41 (a 2) Yz
def Zbe : SX := l z ZwG
def Zbb : SX := t ZwG (.f2 41 (a 2) (a 9))
def Za5 : SX := l z Yz
def Zbg : SX := l Yz (a 2)
def ZwH : SX := hR0 548 Yn Yz (r 10)
def Zp0 : SX := .f1 32 ZwH
def Zmp : SX := l Zp0 (a 12)
def ZlL : SX := .f2 50 Zhb (e Zp0 z)
def ZpE : SX := wR 549 Yn Yz
def Zio : SX := .f1 32 ZpE
def ZuL : SX := l Zio (a 21)
def Zv2 : SX := e Zio z
def Zud : SX := .f2 50 Zg7 Zv2
def ZvD : SX := .us .bool 559 Yn Yz (r 10) (.f1 154 z)
def Zbf : SX := e (d 550 Yn Yz) (k (-1))
def Za4 : SX := e (d 551 Yn Yz) z
def Zbu : SX := f 561 Yn Yz
def Zk9 : SX := .f2 155 Zbu ZW
def Zxr : SX := .f1 35 (.f1 36 (.f3 112 (r 4) (a 9) (k 2)))
def Zzs : SX := .f1 35 (.f1 36 (.f3 112 (r 4) (a 9) (k 3)))
def ZA1 : SX := .f3 112 (r 4) (a 9) (k 5)
def Zp3 : SX := .f2 122 Zeg (.f2 122 Zgz (.f2 122 Zxr (.f2 122 Zzs (.f2 122 (.f1 3 (.f1 2 (e (.f3 112 (r 4) (a 9) (k 4)) z))) (.f2 122 ZA1 (.f1 152 z))))))
def ZvT : SX := .f2 155 ZpE (.f2 121 Zlp (.f2 124 (.f2 122 (a 9) Zp3) (.f1 154 z)))
def Zk7 : SX := .f2 155 ZwH Zd5
def ZkT : SX := .f2 155 (wM0 547 (r 10) Zbu) Zaz
def Zyq : SX := e Zio Zll
def Zm1 : SX := e Zp0 ZbB
def ZwA : SX := .f1 2 Zq8
def ZAk : SX := c 543 ZW Z9
def Zhe : SX := .f1 2 ZAk
def ZiL : SX := .f1 2 Zhe
def Zhy : SX := wM0 544 ZW Z9
def Zoq : SX := .us .rows 563 Zhy Zp3 Zin (a 9)
def ZgK : SX := .f1 32 Zoq
def Zoe : SX := .us .ints 564 Zhy Zp3 ZiV (a 9)
def ZgG : SX := .f1 30 Zoe
def Zjn : SX := l z (a 21)
def Zof : SX := d 540 ZW Z9
def Zds : SX := e Zof Zof
def ZoA : SX := d 541 ZW Z9
def Zdz : SX := e ZoA ZoA
def Zkw : SX := hR0 554 (r 10) Z9 (.f2 122 Zcq (.f2 122 Zqo (.f2 122 (a 19) (.f2 122 (a 20) (.f2 122 (a 21) (.f2 122 (a 22) (.f1 152 z)))))))
def ZnE : SX := hR0 548 Yn Yz Zkw
def ZjL : SX := .f1 32 ZnE
def Zat : SX := l Zio (a 14)
def Zap : SX := .f2 50 ZAH Zv2
def Zn7 : SX := d 542 ZW Z9
def Zpe : SX := .f2 122 Zn7 (.f2 122 (.f1 3 ZAk) (.f1 152 z))
def Zaq : SX := .f2 155 ZpE Zlp
def Zas : SX := e Zio Zed
def ZoZ : SX := .f1 2 ZrR
def Zev : SX := e Zeg (k 3)
def Zeu : SX := e Zh6 Zh6
def ZeI : SX := e Zic Zic
def ZjP : SX := hR0 554 (r 10) Z9 (.f2 122 Zcq (.f2 122 Zqo (.f2 122 Zws (.f2 122 ZwP (.f2 122 ZCv (.f2 122 ZwM (.f1 152 z)))))))
def ZjY : SX := hR0 548 Yn Yz ZjP
def Zdl : SX := .f1 32 ZjY
def Zjp : SX := l Zdl (a 12)
def Zje : SX := e Zdl z
def Zkp : SX := .f2 50 Zhb Zje
def ZeH : SX := .us .bool 559 Yn Yz ZjP (r 17)
def Zhu : SX := e Zeg (k 4)
def ZnK : SX := .f2 155 Zbu (.us .g 556 (.us .g 555 ZW Z9 (.f3 142 Zhy Zxr (.f2 40 (.f2 42 Zzs (k 2)) (.f1 3 Zhu))) Zpe) Z9 Zin ZiV)
def Zj4 : SX := .f2 155 ZjY Zd5
def ZeP : SX := .f2 155 (wM0 547 ZjP Zbu) Zaz
def ZkH : SX := e Zdl ZbB
def ZoW : SX := .f1 2 Zev
def ZoI : SX := .f1 2 Zhu
def Zjv : SX := e Zeg (k 6)
def Zf9 : SX := .f2 122 z (.f1 152 z)
def Zok : SX := .f1 2 Zjv
def Zjg : SX := e Zeg (k 5)
def Zoa : SX := c 565 (r 10) Zcq
def Zar : SX := d 566 (r 10) Zcq
def Zpt : SX := .f3 112 (r 10) Zar z
def Zph : SX := .f1 32 (wR 545 ZW Zar)
def ZoT : SX := .f1 30 (wN 546 ZW Zar)
def Zpz : SX := e (.f1 32 (r 17)) (.f1 32 (r 17))
def ZnL : SX := l (.f1 32 (r 17)) (k 1000000)
def Zoo : SX := c 560 (r 17) (r 10)
def Zpq : SX := .f2 48 (q 19) (c 562 (r 17) Zcq)
def Zom : SX := .f1 2 (.f1 2 (q 19))
def Zkl : SX := l z Zar
def ZnD : SX := d 542 ZW Zar
def Zod : SX := l z ZnD
def ZoB : SX := t ZnD z
def Zck : SX := .f2 40 ZbB (k 1)
def ZoE : SX := .f1 23 Zck
def Zkk : SX := e ZA1 Zck
def Zpb : SX := .f1 2 Zkk
def Zor : SX := e (k 2) ZqZ
def Zo4 : SX := l ZbB ZbB
def Zpr : SX := l (.f2 42 Zck (k 8)) k1
def Zn8 : SX := e Zck z
def Znj : SX := .f2 155 Zbu (.us .g 556 (.us .g 555 ZW Z9 Zhy (.f2 122 (a 9) Zf9)) Z9 Zin ZiV)
def Zn5 : SX := .f2 155 ZjY (.f2 121 Zd5 (.f2 124 (.f2 122 Zcq (.f1 152 z)) (.f1 154 z)))
def Zot : SX := e Zdl Zck
def Znp : SX := .f1 2 Zjg
def ZjZ : SX := e Zeg (k 7)
def Zpy : SX := c 569 (r 10) (r 10)
def ZoR : SX := .us .bool 570 ZW Zaz (r 10) (.f1 154 z)
def Zow : SX := c 571 Zaz Zaz
def Znx : SX := .f2 155 (f 568 ZW Zaz) ZW
def ZoX : SX := l (.f1 32 (r 25)) (a 24)
def Zou : SX := .f2 50 (l z (a 23)) (e (.f1 32 (r 25)) z)
def Zop : SX := c 569 (r 22) (r 10)
def ZnH : SX := .us .bool 570 ZW (m 20) (r 10) (r 25)
def Znq : SX := c 571 (m 20) Zaz
def Znw : SX := e (.f1 33 (m 20)) z
def Zoj : SX := hR0 548 Yn Yz (r 22)
def Zkt : SX := .f1 32 Zoj
def Zon : SX := l Zkt (a 12)
def Znu : SX := .f2 50 Zhb (e Zkt z)
def Zoi : SX := .us .bool 559 Yn Yz (r 22) (r 25)
def Zaw : SX := f 568 ZW (m 20)
def Znr : SX := .f2 155 Zbu Zaw
def Zng : SX := .f2 155 Zoj Zd5
def Zo2 : SX := .f2 155 (wM0 547 (r 22) Zbu) Zaz
def Zpu : SX := e Zkt ZbB
def Znv : SX := .f2 141 (m 20) (a 26)
def ZeC : SX := .f3 140 z Zaz (a 26)
def Zpd : SX := c 565 (r 22) ZeC
def Yb : SX := d 566 (r 22) ZeC
def ZoH : SX := .f3 112 (r 22) Yb z
def Zgk : SX := e ZeC ZoH
def Zpn : SX := v 552 Zaw
def Zf6 : SX := t Yb Zpn
def ZnA : SX := wR 545 Zaw Yb
def Zhi : SX := .f1 32 ZnA
def Zps : SX := .f3 112 (r 22) Yb (k 3)
def Zgc : SX := l Zhi Zps
def Znh : SX := wN 546 Zaw Yb
def ZhB : SX := .f1 30 Znh
def Zn1 : SX := .f3 112 (r 22) Yb (k 5)
def Zgm : SX := l ZhB Zn1
def Zoz : SX := .f3 112 (r 22) Yb (k 2)
def Zf3 : SX := .f2 50 (l z Zoz) (e Zhi z)
def ZoL : SX := .f3 112 (r 22) Yb (k 4)
def Zgl : SX := .f2 50 (l z ZoL) (e ZhB z)
def Zov : SX := .f3 112 (r 22) Yb (k 1)
def Zg6 : SX := l z Zov
def Zg9 : SX := l z ZoH
def ZgL : SX := e (.f1 32 (r 22)) Zpn
def ZoY : SX := l z Yb
def Zki : SX := c 543 Zaw Yb
def Zo3 : SX := d 540 Zaw Yb
def ZoJ : SX := e Zo3 Zo3
def Zoc : SX := d 541 Zaw Yb
def Znm : SX := e Zoc Zoc
def Zpm : SX := e Zhi Zhi
def Zn6 : SX := e ZhB ZhB
def ZnW : SX := l z (a 27)
def Zni : SX := l (.f1 32 (r 25)) (.f1 32 (r 25))
def ZkF : SX := .f2 40 (.f1 32 (r 25)) (k 1)
def ZoS : SX := l (.f2 42 ZkF (k 8)) k1
def ZnR : SX := l ZkF (a 29)
def Zpo : SX := .f2 50 (l z (a 28)) (e ZkF z)
def Zer : SX := .f2 143 (m 20) (a 26)
def ZgX : SX := t (.f1 33 Zer) (.f1 33 (m 20))
def ZnX : SX := c 569 (hR0 554 (r 22) Yb (.f2 122 ZeC (.f2 122 Zov (.f2 122 Zoz (.f2 122 Zps (.f2 122 ZoL (.f2 122 Zn1 (.f1 152 z)))))))) (r 10)
def ZoK : SX := .us .bool 570 ZW Zer (r 10) (.f2 121 (r 25) (.f2 124 (.f2 122 ZeC (.f1 152 z)) (.f1 154 z)))
def ZhC : SX := c 571 Zer Zaz
def Zny : SX := f 568 ZW Zer
def Zoh : SX := .f2 155 Zny (.us .g 556 (.us .g 555 Zaw Yb (wM0 544 Zaw Yb) (.f2 122 (d 542 Zaw Yb) Zf9)) Yb ZnA Znh)
def ZoP : SX := .f1 2 Zki
def Zpw : SX := .us .bool 570 ZW Zer (r 10) (r 25)
def ZnU : SX := .f2 155 Zny Zaw
def Zn4 : SX := .f1 2 ZjZ
def Zpc : SX := .us .bool 559 Yn Yz (r 10) (r 17)
def Zhm : SX := t Zcq z
def Zkf : SX := .f2 121 (r 10) (.f2 124 (.f2 122 (a 20) (.f2 122 (a 19) (.f2 122 (k (-1)) (.f2 122 z (.f2 122 (k (-1)) Zf9))))) (.f1 154 z))
def ZoN : SX := hR0 548 Yn Yz Zkf
def Zj2 : SX := .f1 32 ZoN
def ZMw : VC := i (l z (a 2)) (i (l (a 2) (.f1 32 (r 4))) (i (l (a 2) (a 3)) (i (l (a 2) k0) (.and (i (t (k 400) (a 2)) (n (e (k 2) ZEk) .tt)) (i (l (a 2) (k 400)) (u 6 .bool (i (.f2 48 (q 6) (.f1 2 (c 511 (r 4) (a 2)))) (.and (i (q 6) (n (e (k 280) ZEk) .tt)) (i (.f1 2 (q 6)) (u 7 .int (i (l z (a 7)) (u 8 .int (i ZG9 (n (l ZGz z) (n (.f2 50 (.bool false) ZKq) (n (l ZIE z) (n (.f2 50 (.bool false) ZJk) (n (.us .bool 559 Yn z (.f1 154 z) (.f1 154 z)) (n (e (v 550 Yn) (k (-1))) (n (e (v 551 Yn) z) (n (.f2 155 ZIU (w 561 (.f1 154 z))) (n (.f2 155 ZGG (.f1 154 z)) (n (.f2 155 ZGJ (.f1 154 z)) (n (.f2 155 (wM0 547 (.f1 154 z) ZIU) (.f1 155 z)) (n ZJk (n ZKq (u 9 .int (u 10 .rows (u 11 .int (u 12 .int (u 13 .int (u 14 .int (u 15 .int (u 16 .int (u 17 .rows (i (l z (a 9)) (i (l (a 9) (a 2)) (i (l ZbB (a 12)) (i (.f2 50 Zhb (e ZbB z)) (i (l Zed (a 14)) (i (.f2 50 ZAH (e Zed z)) (i (l (.f1 32 (r 17)) (a 16)) (i (.f2 50 (l z (a 15)) (e (.f1 32 (r 17)) z)) (i (.us .bool 559 Yn (a 9) (r 10) (r 17)) (i (e (d 550 Yn (a 9)) (k (-1))) (i (e (d 551 Yn (a 9)) z) (.and (i (t (a 9) (a 2)) (i (c 558 (r 10) ZW) (n (t (a 9) (.f1 32 (r 4))) (u 18 .int (i (l z (a 18)) (.and (i Zli (n (t Z9 Zqn) (n (e Zcq ZvB) (i Zfm (i Zfh (i Ze3 (i Zfa (i Ze0 (i Ze8 (i ZdS (.and (i Zli (n (l z Z9) (.and (i ZqF (.and (i Zli (n Zam (n Y7 (n Zaf (n Zal (n Zad (n Zaa (n Zax (n Za2 (n Zae (n Y9 .tt))))))))))) .tt)) (i Zzk (.and (i ZrR (.and (i Zq8 (u 19 .int (i Zff (n Zy9 (n ZAa (u 20 .int (u 21 .int (i ZAh (i ZtW (n Zbc (n Zbe (n Zbb (n Za5 (n Zbg (n Zmp (n ZlL (n ZuL (n Zud (n ZvD (n Zbf (n Za4 (n Zk9 (n ZvT (n Zk7 (n ZkT (n Zyq (n Zm1 .tt))))))))))))))))))))))))))) (i ZwA (.and (i Zhe (n Zam (n Y7 (n Zaf (n Zal (n Zad (n Zaa (n Zax (n Za2 (n Zae (n Y9 .tt))))))))))) (i ZiL (i Zfm (i Zfh (i Ze3 (i Zfa (i Ze0 (i Ze8 (i ZdS (n (l Zh6 (k 1000000)) (n (l Zic (k 1000000)) (u 19 .int (u 20 .int (u 21 .int (u 22 .int (i (l ZgK (a 20)) (i (l ZgG (a 22)) (i (.f2 50 Zff (e ZgK z)) (i (.f2 50 Zjn (e ZgG z)) (n Zds (n Zdz (n (e ZgK ZgK) (n (e ZgG ZgG) (n Zbc (n Zbe (n Zbb (n Za5 (n Zbg (n (l ZjL (a 12)) (n (.f2 50 Zhb (e ZjL z)) (n Zat (n Zap (n (.us .bool 559 Yn Yz Zkw (.f1 154 z)) (n Zbf (n Za4 (n (.f2 155 Zbu (.us .g 556 (.us .g 555 ZW Z9 Zhy Zpe) Z9 Zoq Zoe)) (n Zaq (n (.f2 155 ZnE Zd5) (n (.f2 155 (wM0 547 Zkw Zbu) Zaz) (n Zas (n (e ZjL ZbB) .tt)))))))))))))))))))))))))))))))))))))))))))) (i ZoZ (.and (i Zev (.and (i Zev (.and (i Zhe (n Zam (n Y7 (n Zaf (n Zal (n Zad (n Zaa (n Zax (n Za2 (n Zae (n Y9 .tt))))))))))) (i ZiL (i Zfm (i Zfh (i Ze3 (i Zfa (i Ze0 (i Ze8 (i ZdS (n Zds (n Zdz (n Zeu (n ZeI (n Zbc (n Zbe (n Zbb (n Za5 (n Zbg (n Zjp (n Zkp (n Zat (n Zap (n ZeH (n Zbf (n Za4 (n ZnK (n Zaq (n Zj4 (n ZeP (n Zas (n ZkH .tt)))))))))))))))))))))))))))))))) .tt)) (i ZoW (.and (i Zhu (.and (i Zhe (n Zam (n Y7 (n Zaf (n Zal (n Zad (n Zaa (n Zax (n Za2 (n Zae (n Y9 .tt))))))))))) (i ZiL (i Zfm (i Zfh (i Ze3 (i Zfa (i Ze0 (i Ze8 (i ZdS (n Zds (n Zdz (n Zeu (n ZeI (n Zbc (n Zbe (n Zbb (n Za5 (n Zbg (n Zjp (n Zkp (n Zat (n Zap (n ZeH (n Zbf (n Za4 (n ZnK (n Zaq (n Zj4 (n ZeP (n Zas (n ZkH .tt)))))))))))))))))))))))))))))))) (i ZoI (.and (i Zjv (.and (i Zhe (n Zam (n Y7 (n Zaf (n Zal (n Zad (n Zaa (n Zax (n Za2 (n Zae (n Y9 .tt))))))))))) (i ZiL (i Zfm (i Zfh (i Ze3 (i Zfa (i Ze0 (i Ze8 (i ZdS (n Zds (n Zdz (n Zeu (n ZeI (n Zbc (n Zbe (n Zbb (n Za5 (n Zbg (n Zjp (n Zkp (n Zat (n Zap (n ZeH (n Zbf (n Za4 (n (.f2 155 Zbu (.us .g 556 (.us .g 555 ZW Z9 Zhy (.f2 122 Zn7 Zf9)) Z9 Zin ZiV)) (n Zaq (n Zj4 (n ZeP (n Zas (n ZkH .tt)))))))))))))))))))))))))))))))) (i Zok (.and (i Zjg (n Zoa (i (e Zcq Zpt) (i (t Zar Zqn) (i (l Zph (.f3 112 (r 10) Zar (k 3))) (i (l ZoT (.f3 112 (r 10) Zar (k 5))) (i (.f2 50 (l z (.f3 112 (r 10) Zar (k 2))) (e Zph z)) (i (.f2 50 (l z (.f3 112 (r 10) Zar (k 4))) (e ZoT z)) (i (l z (.f3 112 (r 10) Zar (k 1))) (i (l z Zpt) (i ZdS (.and (i Zhe (n Zpz (n ZnL (n Zoo (u 19 .bool (i Zpq (.and (i Zom (n Zkl (.and (i Zod (n Zam (n Y7 (n Zaf (n Zal (n Zad (n Zaa (n Zax (n Za2 (n Zae (n Y9 .tt))))))))))) (i ZoB (n ZoE (.and (i Zpb (n Zam (n Y7 (n Zaf (n Zal (n Zad (n Zaa (n Zax (n Zor (n Zae (n Y9 .tt))))))))))) (i Zkk (i Zfm (i Zfh (i Ze3 (i Zfa (i Ze0 (i Ze8 (i ZdS (n Zds (n Zdz (n Zeu (n ZeI (u 20 .int (i Zg7 (n Zo4 (n Zpr (u 21 .int (u 22 .int (i (l Zck (a 22)) (i (.f2 50 Zjn Zn8) (n Zbc (n Zbe (n Zbb (n Za5 (n Zbg (n (l Zdl (a 22)) (n (.f2 50 Zjn Zje) (n Zat (n Zap (n ZeH (n Zbf (n Za4 (n Znj (n Zaq (n Zn5 (n ZeP (n Zas (n Zot .tt)))))))))))))))))))))))))))))))))))))))))))) (i (.f1 2 (q 19)) (n Zkl (n Zam (n Y7 (n Zaf (n Zal (n Zad (n Zaa (n Zax (n Za2 (n Zae (n Y9 .tt))))))))))))))))))) (i ZiL (n Zkl (.and (i Zod (n Zam (n Y7 (n Zaf (n Zal (n Zad (n Zaa (n Zax (n
 Za2 (n Zae (n Y9 .tt))))))))))) (i ZoB (n ZoE (.and (i Zpb (n Zam (n Y7 (n Zaf (n Zal (n Zad (n Zaa (n Zax (n Zor (n Zae (n Y9 .tt))))))))))) (i Zkk (i Zfm (i Zfh (i Ze3 (i Zfa (i Ze0 (i Ze8 (i ZdS (n Zds (n Zdz (n Zeu (n ZeI (u 19 .int (i Zff (n Zo4 (n Zpr (u 20 .int (u 21 .int (i (l Zck (a 21)) (i (.f2 50 Zg7 Zn8) (n Zbc (n Zbe (n Zbb (n Za5 (n Zbg (n (l Zdl (a 21)) (n (.f2 50 Zg7 Zje) (n Zat (n Zap (n ZeH (n Zbf (n Za4 (n Znj (n Zaq (n Zn5 (n ZeP (n Zas (n Zot .tt)))))))))))))))))))))))))))))))))))))))))))))))))))))))) (i Znp (.and (i ZjZ (u 19 .int (i Zff (n Zpy (n ZoR (n Zow (n Znx (u 20 .amap (u 21 .ints (u 22 .rows (u 23 .int (u 24 .int (u 25 .rows (i ZoX (i Zou (i Zop (i ZnH (i Znq (.and (i Znw (n Zbc (n Zbe (n Zbb (n Za5 (n Zbg (n Zon (n Znu (n Zat (n Zap (n Zoi (n Zbf (n Za4 (n Znr (n Zaq (n Zng (n Zo2 (n Zas (n Zpu .tt))))))))))))))))))) (u 26 .int (i Znv (n Zpd (i Zgk (i Zf6 (i Zgc (i Zgm (i Zf3 (i Zgl (i Zg6 (i Zg9 (i ZgL (n ZoY (.and (i Zki (i Zgk (i Zf6 (i Zgc (i Zgm (i Zf3 (i Zgl (i Zg6 (i Zg9 (i ZgL (n ZoJ (n Znm (n Zpm (n Zn6 (u 27 .int (i ZnW (n Zni (n ZoS (u 28 .int (u 29 .int (i ZnR (i Zpo (n ZgX (n ZnX (n ZoK (n ZhC (n Zoh .tt))))))))))))))))))))))))))) (i ZoP (n ZgX (n Zpw (n ZhC (n ZnU .tt)))))))))))))))))))))))))))))))))))))) (i Zn4 (n Zbc (n Zbe (n Zbb (n Za5 (n Zbg (n Zmp (n ZlL (n Zat (n Zap (n Zpc (n Zbf (n Za4 (n Zk9 (n Zaq (n Zk7 (n ZkT (n Zas (n Zm1 .tt)))))))))))))))))))))))))))))))))) .tt))))))))))) (i Zhm (.and .tt (i Zhm (.and (i ZqF (.and .tt (i Zhm (u 19 .int (i Zff (u 20 .int (i Zg7 (n Zbc (n Zbe (n Zbb (n Za5 (n Zbg (n (l Zj2 (a 12)) (n (.f2 50 Zhb (e Zj2 z)) (n Zat (n Zap (n (.us .bool 559 Yn Yz Zkf (.f1 154 z)) (n Zbf (n Za4 (n (.f2 155 Zbu (h 557 ZW Zgz (a 9))) (n Zaq (n (.f2 155 ZoN Zd5) (n (.f2 155 (wM0 547 Zkf Zbu) (.f3 142 Zaz Zgz (a 20))) (n Zas (n (e Zj2 ZbB) .tt))))))))))))))))))))))))) (i Zzk (.and (i ZrR (.and (i Zq8 (u 19 .int (i Zff (n Zy9 (n ZAa (u 20 .int (u 21 .int (i ZAh (i ZtW (n Zbc (n Zbe (n Zbb (n Za5 (n Zbg (n Zmp (n ZlL (n ZuL (n Zud (n ZvD (n Zbf (n Za4 (n Zk9 (n ZvT (n Zk7 (n ZkT (n Zyq (n Zm1 .tt))))))))))))))))))))))))))) (i ZwA (n Zam (n Y7 (n Zaf (n Zal (n Zad (n Zaa (n Zax (n Za2 (n Zae (n Y9 .tt))))))))))))) (i ZoZ (.and (i Zev (.and (i Zev (n Zam (n Y7 (n Zaf (n Zal (n Zad (n Zaa (n Zax (n Za2 (n Zae (n Y9 .tt))))))))))) .tt)) (i ZoW (.and (i Zhu (n Zam (n Y7 (n Zaf (n Zal (n Zad (n Zaa (n Zax (n Za2 (n Zae (n Y9 .tt))))))))))) (i ZoI (.and (i Zjv (n Zam (n Y7 (n Zaf (n Zal (n Zad (n Zaa (n Zax (n Za2 (n Zae (n Y9 .tt))))))))))) (i Zok (.and (i Zjg (n Zpz (n ZnL (n Zoo (n (.f2 50 Zhm Zoa) (u 19 .bool (i Zpq (.and (i Zom (n Zli (.ff 31))) (i (.f1 2 (q 19)) (n Zam (n Y7 (n Zaf (n Zal (n Zad (n Zaa (n Zax (n Za2 (n Zae (n Y9 .tt))))))))))))))))))) (i Znp (.and (i ZjZ (u 19 .int (i Zff (n Zpy (n ZoR (n Zow (n Znx (u 20 .amap (u 21 .ints (u 22 .rows (u 23 .int (u 24 .int (u 25 .rows (i ZoX (i Zou (i Zop (i ZnH (i Znq (.and (i Znw (n Zbc (n Zbe (n Zbb (n Za5 (n Zbg (n Zon (n Znu (n Zat (n Zap (n Zoi (n Zbf (n Za4 (n Znr (n Zaq (n Zng (n Zo2 (n Zas (n Zpu .tt))))))))))))))))))) (u 26 .int (i Znv (n Zpd (i Zgk (i Zf6 (i Zgc (i Zgm (i Zf3 (i Zgl (i Zg6 (i Zg9 (i ZgL (n ZoY (.and (i Zki (i Zgk (i Zf6 (i Zgc (i Zgm (i Zf3 (i Zgl (i Zg6 (i Zg9 (i ZgL (n ZoJ (n Znm (n Zpm (n Zn6 (u 27 .int (i ZnW (n Zni (n ZoS (u 28 .int (u 29 .int (i ZnR (i Zpo (n ZgX (n ZnX (n ZoK (n ZhC (n Zoh .tt))))))))))))))))))))))))))) (i ZoP (n ZgX (n Zpw (n ZhC (n ZnU .tt)))))))))))))))))))))))))))))))))))))) (i Zn4 (n Zbc (n Zbe (n Zbb (n Za5 (n Zbg (n Zmp (n ZlL (n Zat (n Zap (n Zpc (n Zbf (n Za4 (n Zk9 (n Zaq (n Zk7 (n ZkT (n Zas (n Zm1 .tt))))))))))))))))))))))))))))))))))))))))) (i (l (a 2) (a 9)) (n Zam (n Y7 (n Zaf (n Zal (n Zad (n Zaa (n (e (k (-1)) ZAp) (n (e z ZqZ) (n Zae (n Y9 .tt))))))))))))))))))))))))))))))))))))))))))))))))))))))))))
theorem ZOZ : YV Tryz.prog ZLX 12 25 ZmX = ZMw := by kernel_rfl
theorem ZO1 (S : Sig GG) (hS : JtSig S) : ZA S Tryz.prog 55 ZwD := by
 refine Zg S (C := ZNa) (fuel := 12) (ZU trivial ⟨⟨⟨by decide, Zcw S hS⟩, ⟨by decide, ZcM S hS⟩, trivial⟩, ⟨trivial, trivial, trivial, ⟨by decide, ZAU S hS⟩, trivial, ⟨by decide, ZrB S hS⟩, trivial⟩, trivial⟩ trivial) fun ρ => ?_
 rw [ZNA]
 simp only [ZMn, ZG8, ZCJ, Zhg, ZEn, ZHR, ZCY, ZG6, ZJE, ZF4, ZID, ZwT, ZAl, ZzU, ZAY, ZAb, ZtR, ZAr, ZzG, ZzY, ZiR, Zxc, hS.u545, hS.u546, hS.u552, hS.u558, hS.u560, hS.u562, hS.u565, hS.u566, ZQ, ZPY, VC.den, SX.den, Env.upd, ZX, ZE, beq_iff_eq, ZPQ, beq_eq_false_iff_ne, ne_eq, ZPP, ZPO, Int.reduceToNat, Nat.reduceEqDiff, reduceIte, sB, sC]
 generalize (ρ 3).tR = F
 generalize (ρ 5).tR = R
 generalize (ρ 4).tI = v
 generalize (ρ 1).tI = l
 generalize ZO _ = L
 intro h1 h2 h3 h4 h5 h6 h7 h8 h9
 refine ⟨by omega, by omega, ZD (by rw [List.take_zero]; exact List.not_mem_nil), fun x hx0 hx1 hx2 => ?_⟩
 obtain ⟨n, rfl⟩ := ZPJ hx0
 have e1 : ((n : Int) + 1).toNat = n + 1 := by omega
 simp only [e1, ZPY] at hx2 ⊢
 have hx2 : ¬ [v] ∈ F.take n := fun h => by rw [ZC h] at hx2; cases hx2
 have hv0 : 0 <= v := by
  obtain ⟨k, hk, rfl⟩ := h5
  refine h6.2.2 _ ?_
  rw [ZPR, ZPU hk, ZPM]; exact ZQe hk
 refine ⟨fun hlt => ?_, fun hge _ _ _ _ _ _ _ _ _ => ⟨?_, trivial⟩⟩
 ·have hn : n < F.length := by omega
  have hgt : F.getD n [] = F[n] := by rw [ZPR, ZPU hn, ZPM]
  have hm : F.getD n [] ∈ F := by rw [hgt]; exact ZQe hn
  obtain ⟨b, hb, hbl⟩ := h4 _ hm
  have e2 : F.take (n + 1) = F.take n ++ [F.getD n []] := by rw [hgt]; exact (List.take_append_getElem hn).symm
  rw [e2, hb]
  have hb0 : ([b] : List Int).getD 0 0 = b := rfl
  rw [hb0]
  have no : ¬ v = b -> Zn ([v] ∈ F.take n ++ [[b]]) = false := fun hne => ZD fun h => by
   rcases List.mem_append.1 h with h | h
   ·exact hx2 h
   ·rw [ZPK] at h; injection h with h; exact hne h
  refine ⟨fun he => ⟨by omega, by omega, fun _ _ _ _ _ _ _ _ _ => ⟨?_, trivial⟩⟩, fun he => ⟨hbl, by omega, by omega, by omega, by omega, by omega, by omega, no he, trivial⟩⟩
  rw [ZC (by rw [he, <- hb]; exact hm), Za.2 (by omega)]
 ·rw [ZP3 (by omega)] at hx2
  rw [ZD hx2]
set_option maxRecDepth 100000 in
set_option maxHeartbeats 4000000 in
theorem Zz4 (S : Sig GG) (hS : JtSig S) : ZA S Tryz.prog 25 ZmX := by
 refine Zg S (C := ZLX) (fuel := 12) (ZU ⟨Zi (by decide) (ZMd S hS.jb), Zi (by decide) (ZLg S hS), ZEa (by decide) (ZO1 S hS) (by decide) (ZLh S hS), trivial⟩ ⟨⟨⟨by decide, ZlU S⟩, ⟨by decide, ZlU S⟩, ⟨by decide, ZFA S⟩, ⟨by decide, ZMl S hS⟩, trivial, ⟨by decide, ZFj S hS⟩, trivial, trivial, ⟨by decide, Zm2 S hS⟩, trivial, ⟨by decide, Zcw S hS⟩, ⟨by decide, ZLf S hS⟩, ⟨by decide, ZlU S⟩, ⟨by decide, ZlU S⟩, ⟨by decide, Zm2 S hS⟩, ⟨by decide, ZkV S hS⟩, ⟨by decide, Zm2 S hS⟩, ⟨by decide, ZkV S hS⟩, ⟨by decide, Zm2 S hS⟩, ⟨by decide, ZkV S hS⟩, trivial, ⟨by decide, ZcM S hS⟩, trivial, ⟨by decide, Zcw S hS⟩, ⟨by decide, Zm2 S hS⟩, ⟨by decide, ZkV S hS⟩, ⟨by decide, ZlU S⟩, trivial, ⟨by decide, ZcM S hS⟩, ⟨by decide, Zcw S hS⟩, ⟨by decide, ZcM S hS⟩, ⟨by decide, ZkV S hS⟩, trivial, ⟨by decide, ZFH S hS⟩, trivial, ⟨by decide, ZFH S hS⟩, trivial, ⟨by decide, ZL1 S hS⟩, trivial⟩, trivial⟩ trivial) fun ρ => ?_
 rw [ZOZ]
 simp only [ZMw, Yn, ZEk, ZG9, ZGJ, ZGz, ZKq, ZGG, ZIE, ZJk, ZIU, Zd5, ZbB, Zhb, Zlp, Zed, ZAH, ZW, Zaz, Zgz, Zcq, Zli, Z9, Zqn, ZvB, Zin, Zh6, ZwP, Zfm, ZiV, Zic, ZwM, Zfh, Zws, Ze3, ZCv, Zfa, Zqo, Ze0, Ze8, ZdS, Zeg, ZqF, Zij, Zam, Y7, Zaf, Zal, Zad, Zaa, ZAp, Zax, ZqZ, Za2, Zae, Y9, Zzk, ZrR, Zq8, Zff, Zy9, Zll, ZAa, ZAh, Zg7, ZtW, Yz, Zbc, ZwG, Zbe, Zbb, Za5, Zbg, ZwH, Zp0, Zmp, ZlL, ZpE, Zio, ZuL, Zv2, Zud, ZvD, Zbf, Za4, Zbu, Zk9, Zxr, Zzs, ZA1, Zp3, ZvT, Zk7, ZkT, Zyq, Zm1, ZwA, ZAk, Zhe, ZiL, Zhy, Zoq, ZgK, Zoe, ZgG, Zjn, Zof, Zds, ZoA, Zdz, Zkw, ZnE, ZjL, Zat, Zap, Zn7, Zpe, Zaq, Zas, ZoZ, Zev, Zeu, ZeI, ZjP, ZjY, Zdl, Zjp, Zje, Zkp, ZeH, Zhu, ZnK, Zj4, ZeP, ZkH, ZoW, ZoI, Zjv, Zf9, Zok, Zjg, Zoa, Zar, Zpt, Zph, ZoT, Zpz, ZnL, Zoo, Zpq, Zom, Zkl, ZnD, Zod, ZoB, Zck, ZoE, Zkk, Zpb, Zor, Zo4, Zpr, Zn8, Znj, Zn5, Zot, Znp, ZjZ, Zpy, ZoR, Zow, Znx, ZoX, Zou, Zop, ZnH, Znq, Znw, Zoj, Zkt, Zon, Znu, Zoi, Zaw, Znr, Zng, Zo2, Zpu, Znv, ZeC, Zpd, Yb, ZoH, Zgk, Zpn, Zf6, ZnA, Zhi, Zps, Zgc, Znh, ZhB, Zn1, Zgm, Zoz, Zf3, ZoL, Zgl, Zov, Zg6, Zg9, ZgL, ZoY, Zki, Zo3, ZoJ, Zoc, Znm, Zpm, Zn6, ZnW, Zni, ZkF, ZoS, ZnR, Zpo, Zer, ZgX, ZnX, ZoK, ZhC, Zny, Zoh, ZoP, Zpw, ZnU, Zn4, Zpc, Zhm, Zkf, ZoN, Zj2, hS.jb.rf.u511, hS.jb.rf.u523, hS.u540, hS.u541, hS.u542, hS.u543, hS.u544, hS.u545, hS.u546, hS.u547, hS.u548, hS.u549, hS.u550, hS.u551, hS.u552, hS.u553, hS.u554, hS.u555, hS.u556, hS.u557, hS.u558, hS.u559, hS.u560, hS.u561, hS.u562, hS.u563, hS.u564, hS.u565, hS.u566, hS.u568, hS.u569, hS.u570, hS.u571, ZQ, ZPY, VC.den, SX.den, Env.upd, ZX, ZE, beq_iff_eq, ZPQ, beq_eq_false_iff_ne, ne_eq, ZPP, ZPO, Int.reduceToNat, Nat.reduceEqDiff, reduceIte, sB, sC]
 generalize hX : (ρ 4).tR.take (ρ 2).tI.toNat = X
 intro h1
 intro h2
 intro h3
 intro h4
 have hlX : X.length = (ρ 2).tI.toNat := by rw [<- hX, ZPT]; omega
 refine ⟨?_, ?_⟩
 ·skip
  intro h6
  refine ⟨?_, ?_⟩
  ·unfold Zb9; rw [if_pos (by omega)]
  trivial
 ·skip
  intro h10
  intro v11
  intro h12
  refine ⟨?_, ?_⟩
  ·skip
   intro h14
   refine ⟨?_, ?_⟩
   ·have hq : ZjV X X.length = false := by
     rw [<- hX, Zr5 (by omega)]; rw [h14] at h12; cases hc : ZjV (ρ 4).tR (ρ 2).tI.toNat
     ·rfl
     ·rw [hc] at h12; cases h12
    unfold Zb9; rw [if_neg (by omega), hq]; rfl
   trivial
  ·skip
   intro h18
   have hck : Zb9 X = 0 := by
    have hq : ZjV X X.length = true := by
     rw [<- hX, Zr5 (by omega)]; rw [h18] at h12; cases hc : ZjV (ρ 4).tR (ρ 2).tI.toNat
     ·rw [hc] at h12; cases h12
     ·rfl
    unfold Zb9; rw [if_neg (by omega), hq]; rfl
   intro v19
   intro h20
   intro v21
   intro h22
   refine ⟨?_, ?_⟩
   ·show ((0 : Nat) : Int) <= 0; omega
   refine ⟨?_, ?_⟩
   ·exact .inr rfl
   refine ⟨?_, ?_⟩
   ·show ((0 : Nat) : Int) <= 0; omega
   refine ⟨?_, ?_⟩
   ·exact .inr rfl
   refine ⟨?_, ?_⟩
   ·exact List.Perm.nil
   refine ⟨?_, ?_⟩
   ·first | omega | trivial | (with_reducible assumption)
   refine ⟨?_, ?_⟩
   ·first | omega | trivial | (with_reducible assumption)
   refine ⟨?_, ?_⟩
   ·first | omega | trivial | (with_reducible assumption)
   refine ⟨?_, ?_⟩
   ·first | omega | trivial | (with_reducible assumption)
   refine ⟨?_, ?_⟩
   ·first | omega | trivial | (with_reducible assumption)
   refine ⟨?_, ?_⟩
   ·first | omega | trivial | (with_reducible assumption)
   refine ⟨?_, ?_⟩
   ·first | omega | trivial | (with_reducible assumption)
   refine ⟨?_, ?_⟩
   ·first | omega | trivial | (with_reducible assumption)
   intro v36
   intro v37
   intro v38
   intro v39
   intro v40
   intro v41
   intro v42
   intro v43
   intro v44
   intro h45
   intro h46
   intro h47
   intro h48
   intro h49
   intro h50
   intro h51
   intro h52
   intro h53
   intro h54
   intro h55
   obtain ⟨n, rfl⟩ := ZPJ h45
   have e1 : ((n : Int) + 1).toNat = n + 1 := by omega
   simp only [e1, ZPY] at h47 h48 h49 h50 h53 h54 h55 ⊢
   obtain ⟨B, hB⟩ : ∃ B, Z7 X n = B := ⟨_, rfl⟩
   have hw := ZiA X n
   simp only [hB] at h47 h48 h49 h50 h53 h54 h55 hw ⊢
   refine ⟨?_, ?_⟩
   ·skip
    intro h57
    intro h58
    have hnX : n < X.length := by omega
    have he : (ρ 4).tR.getD n [] = xa X n := by rw [<- hX]; exact (Z5 (by omega)).symm
    have hsu := ZmK (x := X) (n := n) (by rw [hB]; exact h54)
    rw [hB] at hsu
    have htold := fun w => ZIJ (w := w) hB h54 hnX
    obtain ⟨x, hx⟩ : ∃ x, xa X n = x := ⟨_, rfl⟩
    simp only [he, hx] at hsu htold ⊢
    obtain ⟨J, hJ⟩ : ∃ J, ixL (x.getD 1 0) B.txs = J := ⟨_, rfl⟩
    have hj : ixL (xw x) B.txs = J := hJ
    have hA := ZbI (w := x.getD 1 0) h58.1 (-1)
    simp only [hJ, ZcA] at hA ⊢
    have hol := hw.ol
    have hkl := hw.kl
    have hlt := hw.lt
    have hfl := hw.fl
    have hlr : ∀ (R : List (List Int)) ks, (Zbk R ks).length = ks.length := fun R ks => by unfold Zbk; rw [ZP1]
    have hFl : v44.length = B.fal.length := by have := h53.length_eq; rw [hlr] at this; exact this
    simp only [hlr] at h47 h48 ⊢
    have hfi : ∀ k ∈ B.fal, k < v37.length := fun k hk => by have := hw.fi k hk; have := h58.1; omega
    have h560 : ∀ r ∈ v44, ∃ b', r = [b'] /\ Zo7 v37 b' := fun r hr => Zmx hfi r (h53.mem_iff.1 hr)
    refine ⟨?_, ?_⟩
    ·first | omega | trivial | (with_reducible assumption)
    intro v60
    intro h61
    refine ⟨?_, ?_⟩
    ·skip
     intro h63
     have hJl : J < B.txs.length := by
      rcases ZPL J B.txs.length with q | q
      ·exact q
      ·rw [hA.1, if_neg (by omega)] at h63; omega
     have hT := hA.1
     rw [if_pos hJl] at hT
     have hJR : J < v37.length := by have := h58.1; omega
     have hrI := ZaP h58.2.1 hJR
     simp only [hT, hrI, ZcA, ZPY] at h63 ⊢
     refine ⟨?_, ?_⟩
     ·first | omega | trivial | (with_reducible assumption)
     refine ⟨?_, ?_⟩
     ·first | omega | trivial | (with_reducible assumption)
     intro h66
     intro h67
     intro h68
     intro h69
     intro h70
     intro h71
     intro h72
     refine ⟨?_, ?_⟩
     ·skip
      intro h74
      refine ⟨?_, ?_⟩
      ·first | omega | trivial | (with_reducible assumption)
      refine ⟨?_, ?_⟩
      ·skip
       intro h77
       refine ⟨?_, ?_⟩
       ·skip
        intro h79
        have hF := htold 1 (st1a hj h77 hJl)
        refine ⟨?_, ?_⟩
        ·first | (with_reducible rfl) | (with_reducible exact hck.symm) | (rw [hF]; done) | (rw [hF]; with_reducible exact h54.symm) | (rw [hF]; with_reducible exact h55.symm) | (rw [hF]; rfl) | (rw [Za.2 h22]; rfl) | trivial
        refine ⟨?_, ?_⟩
        ·first | (with_reducible rfl) | (with_reducible exact hck.symm) | (rw [hF]; done) | (rw [hF]; with_reducible exact h54.symm) | (rw [hF]; with_reducible exact h55.symm) | (rw [hF]; rfl) | (rw [Za.2 h22]; rfl) | trivial
        refine ⟨?_, ?_⟩
        ·first | (with_reducible rfl) | (with_reducible exact hck.symm) | (rw [hF]; done) | (rw [hF]; with_reducible exact h54.symm) | (rw [hF]; with_reducible exact h55.symm) | (rw [hF]; rfl) | (rw [Za.2 h22]; rfl) | trivial
        refine ⟨?_, ?_⟩
        ·first | (with_reducible rfl) | (with_reducible exact hck.symm) | (rw [hF]; done) | (rw [hF]; with_reducible exact h54.symm) | (rw [hF]; with_reducible exact h55.symm) | (rw [hF]; rfl) | (rw [Za.2 h22]; rfl) | trivial
        refine ⟨?_, ?_⟩
        ·first | (with_reducible rfl) | (with_reducible exact hck.symm) | (rw [hF]; done) | (rw [hF]; with_reducible exact h54.symm) | (rw [hF]; with_reducible exact h55.symm) | (rw [hF]; rfl) | (rw [Za.2 h22]; rfl) | trivial
        refine ⟨?_, ?_⟩
        ·first | (with_reducible rfl) | (with_reducible exact hck.symm) | (rw [hF]; done) | (rw [hF]; with_reducible exact h54.symm) | (rw [hF]; with_reducible exact h55.symm) | (rw [hF]; rfl) | (rw [Za.2 h22]; rfl) | trivial
        refine ⟨?_, ?_⟩
        ·first | (with_reducible rfl) | (with_reducible exact hck.symm) | (rw [hF]; done) | (rw [hF]; with_reducible exact h54.symm) | (rw [hF]; with_reducible exact h55.symm) | (rw [hF]; rfl) | (rw [Za.2 h22]; rfl) | trivial
        refine ⟨?_, ?_⟩
        ·first | (with_reducible rfl) | (with_reducible exact hck.symm) | (rw [hF]; done) | (rw [hF]; with_reducible exact h54.symm) | (rw [hF]; with_reducible exact h55.symm) | (rw [hF]; rfl) | (rw [Za.2 h22]; rfl) | trivial
        refine ⟨?_, ?_⟩
        ·first | (with_reducible rfl) | (with_reducible exact hck.symm) | (rw [hF]; done) | (rw [hF]; with_reducible exact h54.symm) | (rw [hF]; with_reducible exact h55.symm) | (rw [hF]; rfl) | (rw [Za.2 h22]; rfl) | trivial
        refine ⟨?_, ?_⟩
        ·first | (with_reducible rfl) | (with_reducible exact hck.symm) | (rw [hF]; done) | (rw [hF]; with_reducible exact h54.symm) | (rw [hF]; with_reducible exact h55.symm) | (rw [hF]; rfl) | (rw [Za.2 h22]; rfl) | trivial
        trivial
       ·skip
        trivial
      ·skip
       intro h94
       refine ⟨?_, ?_⟩
       ·skip
        intro h96
        refine ⟨?_, ?_⟩
        ·skip
         intro h98
         have hst := hsu.trans (st2a hj h96 h98)
         intro v99
         intro h100
         refine ⟨?_, ?_⟩
         ·first | omega | trivial | (with_reducible assumption)
         refine ⟨?_, ?_⟩
         ·first | omega | trivial | (with_reducible assumption)
         intro v103
         intro v104
         intro h105
         intro h106
         refine ⟨?_, ?_⟩
         ·omega
         refine ⟨?_, ?_⟩
         ·omega
         refine ⟨?_, ?_⟩
         ·omega
         refine ⟨?_, ?_⟩
         ·omega
         refine ⟨?_, ?_⟩
         ·omega
         refine ⟨?_, ?_⟩
         ·first | (simp only [hst, hlr, ZPW, ZPF]; first | omega | assumption | done) | (simp only [hst, hlr, ZPW, ZPF]; done)
         refine ⟨?_, ?_⟩
         ·first | (simp only [hst, hlr, ZPW, ZPF]; first | omega | assumption | done) | (simp only [hst, hlr, ZPW, ZPF]; done)
         refine ⟨?_, ?_⟩
         ·first | (simp only [hst, hlr, ZPW, ZPF]; first | omega | assumption | done) | (simp only [hst, hlr, ZPW, ZPF]; done)
         refine ⟨?_, ?_⟩
         ·first | (simp only [hst, hlr, ZPW, ZPF]; first | omega | assumption | done) | (simp only [hst, hlr, ZPW, ZPF]; done)
         refine ⟨?_, ?_⟩
         ·first | (rw [hst]; exact List.Perm.nil)
         refine ⟨?_, ?_⟩
         ·first | (rw [hst]; exact h54)
         refine ⟨?_, ?_⟩
         ·first | (rw [hst]; exact h55)
         refine ⟨?_, ?_⟩
         ·first | (rw [hst]; done) | (rw [hst]; rfl)
         refine ⟨?_, ?_⟩
         ·first | (rw [hst]; done) | (rw [hst]; rfl)
         refine ⟨?_, ?_⟩
         ·first | (rw [hst]; done) | (rw [hst]; rfl)
         refine ⟨?_, ?_⟩
         ·first | (rw [hst, Y6 hJR hJl hwho]; done) | (rw [hst]; done)
         refine ⟨?_, ?_⟩
         ·first | (simp only [hst, hlr, ZPW, ZPF]; first | omega | assumption | done) | (simp only [hst, hlr, ZPW, ZPF]; done)
         refine ⟨?_, ?_⟩
         ·first | (simp only [hst, hlr, ZPW, ZPF]; first | omega | assumption | done) | (simp only [hst, hlr, ZPW, ZPF]; done)
         trivial
        ·skip
         intro h127
         refine ⟨?_, ?_⟩
         ·skip
          intro h129
          have hF := htold 1 (st2c hj h96 h127 (fun _ => h129))
          refine ⟨?_, ?_⟩
          ·first | (with_reducible rfl) | (with_reducible exact hck.symm) | (rw [hF]; done) | (rw [hF]; with_reducible exact h54.symm) | (rw [hF]; with_reducible exact h55.symm) | (rw [hF]; rfl) | (rw [Za.2 h22]; rfl) | trivial
          refine ⟨?_, ?_⟩
          ·first | (with_reducible rfl) | (with_reducible exact hck.symm) | (rw [hF]; done) | (rw [hF]; with_reducible exact h54.symm) | (rw [hF]; with_reducible exact h55.symm) | (rw [hF]; rfl) | (rw [Za.2 h22]; rfl) | trivial
          refine ⟨?_, ?_⟩
          ·first | (with_reducible rfl) | (with_reducible exact hck.symm) | (rw [hF]; done) | (rw [hF]; with_reducible exact h54.symm) | (rw [hF]; with_reducible exact h55.symm) | (rw [hF]; rfl) | (rw [Za.2 h22]; rfl) | trivial
          refine ⟨?_, ?_⟩
          ·first | (with_reducible rfl) | (with_reducible exact hck.symm) | (rw [hF]; done) | (rw [hF]; with_reducible exact h54.symm) | (rw [hF]; with_reducible exact h55.symm) | (rw [hF]; rfl) | (rw [Za.2 h22]; rfl) | trivial
          refine ⟨?_, ?_⟩
          ·first | (with_reducible rfl) | (with_reducible exact hck.symm) | (rw [hF]; done) | (rw [hF]; with_reducible exact h54.symm) | (rw [hF]; with_reducible exact h55.symm) | (rw [hF]; rfl) | (rw [Za.2 h22]; rfl) | trivial
          refine ⟨?_, ?_⟩
          ·first | (with_reducible rfl) | (with_reducible exact hck.symm) | (rw [hF]; done) | (rw [hF]; with_reducible exact h54.symm) | (rw [hF]; with_reducible exact h55.symm) | (rw [hF]; rfl) | (rw [Za.2 h22]; rfl) | trivial
          refine ⟨?_, ?_⟩
          ·first | (with_reducible rfl) | (with_reducible exact hck.symm) | (rw [hF]; done) | (rw [hF]; with_reducible exact h54.symm) | (rw [hF]; with_reducible exact h55.symm) | (rw [hF]; rfl) | (rw [Za.2 h22]; rfl) | trivial
          refine ⟨?_, ?_⟩
          ·first | (with_reducible rfl) | (with_reducible exact hck.symm) | (rw [hF]; done) | (rw [hF]; with_reducible exact h54.symm) | (rw [hF]; with_reducible exact h55.symm) | (rw [hF]; rfl) | (rw [Za.2 h22]; rfl) | trivial
          refine ⟨?_, ?_⟩
          ·first | (with_reducible rfl) | (with_reducible exact hck.symm) | (rw [hF]; done) | (rw [hF]; with_reducible exact h54.symm) | (rw [hF]; with_reducible exact h55.symm) | (rw [hF]; rfl) | (rw [Za.2 h22]; rfl) | trivial
          refine ⟨?_, ?_⟩
          ·first | (with_reducible rfl) | (with_reducible exact hck.symm) | (rw [hF]; done) | (rw [hF]; with_reducible exact h54.symm) | (rw [hF]; with_reducible exact h55.symm) | (rw [hF]; rfl) | (rw [Za.2 h22]; rfl) | trivial
          trivial
         ·skip
          intro h142
          have hst := hsu.trans (st2b hj h96 h127 hJl h142)
          have hwho := (ZBt (B.txs.getD J tx0) n x).2.2
          intro h143
          intro h144
          intro h145
          intro h146
          intro h147
          intro h148
          intro h149
          refine ⟨?_, ?_⟩
          ·have := hw.at hJl; omega
          refine ⟨?_, ?_⟩
          ·have := hw.at hJl; omega
          intro v152
          intro v153
          intro v154
          intro v155
          intro h156
          intro h157
          intro h158
          intro h159
          refine ⟨?_, ?_⟩
          ·first | omega | trivial | (with_reducible assumption)
          refine ⟨?_, ?_⟩
          ·first | omega | trivial | (with_reducible assumption)
          refine ⟨?_, ?_⟩
          ·first | omega | trivial | (with_reducible assumption)
          refine ⟨?_, ?_⟩
          ·first | omega | trivial | (with_reducible assumption)
          refine ⟨?_, ?_⟩
          ·omega
          refine ⟨?_, ?_⟩
          ·omega
          refine ⟨?_, ?_⟩
          ·omega
          refine ⟨?_, ?_⟩
          ·omega
          refine ⟨?_, ?_⟩
          ·omega
          refine ⟨?_, ?_⟩
          ·first | (simp only [hst, Zl hJR, hlr, ZPW, ZPF]; first | omega | assumption | done) | (simp only [hst, Zl hJR, hlr, ZPW, ZPF]; done)
          refine ⟨?_, ?_⟩
          ·first | (simp only [hst, Zl hJR, hlr, ZPW, ZPF]; first | omega | assumption | done) | (simp only [hst, Zl hJR, hlr, ZPW, ZPF]; done)
          refine ⟨?_, ?_⟩
          ·first | (simp only [hst, hlr, ZPW, ZPF]; first | omega | assumption | done) | (simp only [hst, hlr, ZPW, ZPF]; done)
          refine ⟨?_, ?_⟩
          ·first | (simp only [hst, hlr, ZPW, ZPF]; first | omega | assumption | done) | (simp only [hst, hlr, ZPW, ZPF]; done)
          refine ⟨?_, ?_⟩
          ·first | (rw [hst]; exact List.Perm.nil)
          refine ⟨?_, ?_⟩
          ·first | (rw [hst]; exact h54)
          refine ⟨?_, ?_⟩
          ·first | (rw [hst]; exact h55)
          refine ⟨?_, ?_⟩
          ·rw [hst, Zfr hJl]; exact congrArg (fun q => U.g (GG.tx (B.txs.set J q))) (rd_eq (B.txs.getD J tx0) n x).symm
          refine ⟨?_, ?_⟩
          ·first | (rw [hst]; done) | (rw [hst]; rfl)
          refine ⟨?_, ?_⟩
          ·first | (rw [hst, Zl hJR]; done) | (rw [hst, Zl hJR]; rfl)
          refine ⟨?_, ?_⟩
          ·first | (rw [hst, Y6 hJR hJl hwho]; done) | (rw [hst]; done)
          refine ⟨?_, ?_⟩
          ·first | (simp only [hst, hlr, ZPW, ZPF]; first | omega | assumption | done) | (simp only [hst, hlr, ZPW, ZPF]; done)
          refine ⟨?_, ?_⟩
          ·first | (simp only [hst, Zl hJR, hlr, ZPW, ZPF]; first | omega | assumption | done) | (simp only [hst, Zl hJR, hlr, ZPW, ZPF]; done)
          trivial
       ·skip
        intro h184
        refine ⟨?_, ?_⟩
        ·skip
         intro h186
         refine ⟨?_, ?_⟩
         ·skip
          intro h188
          refine ⟨?_, ?_⟩
          ·skip
           intro h190
           have hF := htold 1 (ZOv hj (.inl h186) (fun _ => h190))
           refine ⟨?_, ?_⟩
           ·first | (with_reducible rfl) | (with_reducible exact hck.symm) | (rw [hF]; done) | (rw [hF]; with_reducible exact h54.symm) | (rw [hF]; with_reducible exact h55.symm) | (rw [hF]; rfl) | (rw [Za.2 h22]; rfl) | trivial
           refine ⟨?_, ?_⟩
           ·first | (with_reducible rfl) | (with_reducible exact hck.symm) | (rw [hF]; done) | (rw [hF]; with_reducible exact h54.symm) | (rw [hF]; with_reducible exact h55.symm) | (rw [hF]; rfl) | (rw [Za.2 h22]; rfl) | trivial
           refine ⟨?_, ?_⟩
           ·first | (with_reducible rfl) | (with_reducible exact hck.symm) | (rw [hF]; done) | (rw [hF]; with_reducible exact h54.symm) | (rw [hF]; with_reducible exact h55.symm) | (rw [hF]; rfl) | (rw [Za.2 h22]; rfl) | trivial
           refine ⟨?_, ?_⟩
           ·first | (with_reducible rfl) | (with_reducible exact hck.symm) | (rw [hF]; done) | (rw [hF]; with_reducible exact h54.symm) | (rw [hF]; with_reducible exact h55.symm) | (rw [hF]; rfl) | (rw [Za.2 h22]; rfl) | trivial
           refine ⟨?_, ?_⟩
           ·first | (with_reducible rfl) | (with_reducible exact hck.symm) | (rw [hF]; done) | (rw [hF]; with_reducible exact h54.symm) | (rw [hF]; with_reducible exact h55.symm) | (rw [hF]; rfl) | (rw [Za.2 h22]; rfl) | trivial
           refine ⟨?_, ?_⟩
           ·first | (with_reducible rfl) | (with_reducible exact hck.symm) | (rw [hF]; done) | (rw [hF]; with_reducible exact h54.symm) | (rw [hF]; with_reducible exact h55.symm) | (rw [hF]; rfl) | (rw [Za.2 h22]; rfl) | trivial
           refine ⟨?_, ?_⟩
           ·first | (with_reducible rfl) | (with_reducible exact hck.symm) | (rw [hF]; done) | (rw [hF]; with_reducible exact h54.symm) | (rw [hF]; with_reducible exact h55.symm) | (rw [hF]; rfl) | (rw [Za.2 h22]; rfl) | trivial
           refine ⟨?_, ?_⟩
           ·first | (with_reducible rfl) | (with_reducible exact hck.symm) | (rw [hF]; done) | (rw [hF]; with_reducible exact h54.symm) | (rw [hF]; with_reducible exact h55.symm) | (rw [hF]; rfl) | (rw [Za.2 h22]; rfl) | trivial
           refine ⟨?_, ?_⟩
           ·first | (with_reducible rfl) | (with_reducible exact hck.symm) | (rw [hF]; done) | (rw [hF]; with_reducible exact h54.symm) | (rw [hF]; with_reducible exact h55.symm) | (rw [hF]; rfl) | (rw [Za.2 h22]; rfl) | trivial
           refine ⟨?_, ?_⟩
           ·first | (with_reducible rfl) | (with_reducible exact hck.symm) | (rw [hF]; done) | (rw [hF]; with_reducible exact h54.symm) | (rw [hF]; with_reducible exact h55.symm) | (rw [hF]; rfl) | (rw [Za.2 h22]; rfl) | trivial
           trivial
          ·skip
           intro h203
           have hst := hsu.trans (st3a hj (.inl h186) hJl h203)
           have hwho : ({ B.txs.getD J tx0 with ch := Yw (B.txs.getD J tx0).ch (kc x) ((Zr (Zao x) : Nat) * 2 + b01 (xk x == 4)) } : Tx).who = (B.txs.getD J tx0).who := rfl
           have hxx := h203
           intro h204
           intro h205
           intro h206
           intro h207
           intro h208
           intro h209
           intro h210
           refine ⟨?_, ?_⟩
           ·first | omega | trivial | (with_reducible assumption)
           refine ⟨?_, ?_⟩
           ·first | omega | trivial | (with_reducible assumption)
           refine ⟨?_, ?_⟩
           ·first | omega | trivial | (with_reducible assumption)
           refine ⟨?_, ?_⟩
           ·first | omega | trivial | (with_reducible assumption)
           refine ⟨?_, ?_⟩
           ·omega
           refine ⟨?_, ?_⟩
           ·omega
           refine ⟨?_, ?_⟩
           ·omega
           refine ⟨?_, ?_⟩
           ·omega
           refine ⟨?_, ?_⟩
           ·omega
           refine ⟨?_, ?_⟩
           ·first | (simp only [hst, Zl hJR, hlr, ZPW, ZPF]; first | omega | assumption | done) | (simp only [hst, Zl hJR, hlr, ZPW, ZPF]; done)
           refine ⟨?_, ?_⟩
           ·first | (simp only [hst, Zl hJR, hlr, ZPW, ZPF]; first | omega | assumption | done) | (simp only [hst, Zl hJR, hlr, ZPW, ZPF]; done)
           refine ⟨?_, ?_⟩
           ·first | (simp only [hst, hlr, ZPW, ZPF]; first | omega | assumption | done) | (simp only [hst, hlr, ZPW, ZPF]; done)
           refine ⟨?_, ?_⟩
           ·first | (simp only [hst, hlr, ZPW, ZPF]; first | omega | assumption | done) | (simp only [hst, hlr, ZPW, ZPF]; done)
           refine ⟨?_, ?_⟩
           ·first | (rw [hst, Zl hJR]; exact h53)
           refine ⟨?_, ?_⟩
           ·first | (rw [hst]; exact h54)
           refine ⟨?_, ?_⟩
           ·first | (rw [hst]; exact h55)
           refine ⟨?_, ?_⟩
           ·rw [hst, Zfr hJl]; exact congrArg (fun q => U.g (GG.tx (B.txs.set J q))) (ZLJ (B.txs.getD J tx0) _).symm
           refine ⟨?_, ?_⟩
           ·first | (rw [hst]; done) | (rw [hst]; rfl)
           refine ⟨?_, ?_⟩
           ·first | (rw [hst, Zl hJR]; done) | (rw [hst, Zl hJR]; rfl)
           refine ⟨?_, ?_⟩
           ·first | (rw [hst, Y6 hJR hJl hwho]; done) | (rw [hst]; done)
           refine ⟨?_, ?_⟩
           ·first | (simp only [hst, hlr, ZPW, ZPF]; first | omega | assumption | done) | (simp only [hst, hlr, ZPW, ZPF]; done)
           refine ⟨?_, ?_⟩
           ·first | (simp only [hst, Zl hJR, hlr, ZPW, ZPF]; first | omega | assumption | done) | (simp only [hst, Zl hJR, hlr, ZPW, ZPF]; done)
           trivial
         ·skip
          trivial
        ·skip
         intro h237
         refine ⟨?_, ?_⟩
         ·skip
          intro h239
          refine ⟨?_, ?_⟩
          ·skip
           intro h241
           have hF := htold 1 (ZOv hj (.inr h239) (fun _ => h241))
           refine ⟨?_, ?_⟩
           ·first | (with_reducible rfl) | (with_reducible exact hck.symm) | (rw [hF]; done) | (rw [hF]; with_reducible exact h54.symm) | (rw [hF]; with_reducible exact h55.symm) | (rw [hF]; rfl) | (rw [Za.2 h22]; rfl) | trivial
           refine ⟨?_, ?_⟩
           ·first | (with_reducible rfl) | (with_reducible exact hck.symm) | (rw [hF]; done) | (rw [hF]; with_reducible exact h54.symm) | (rw [hF]; with_reducible exact h55.symm) | (rw [hF]; rfl) | (rw [Za.2 h22]; rfl) | trivial
           refine ⟨?_, ?_⟩
           ·first | (with_reducible rfl) | (with_reducible exact hck.symm) | (rw [hF]; done) | (rw [hF]; with_reducible exact h54.symm) | (rw [hF]; with_reducible exact h55.symm) | (rw [hF]; rfl) | (rw [Za.2 h22]; rfl) | trivial
           refine ⟨?_, ?_⟩
           ·first | (with_reducible rfl) | (with_reducible exact hck.symm) | (rw [hF]; done) | (rw [hF]; with_reducible exact h54.symm) | (rw [hF]; with_reducible exact h55.symm) | (rw [hF]; rfl) | (rw [Za.2 h22]; rfl) | trivial
           refine ⟨?_, ?_⟩
           ·first | (with_reducible rfl) | (with_reducible exact hck.symm) | (rw [hF]; done) | (rw [hF]; with_reducible exact h54.symm) | (rw [hF]; with_reducible exact h55.symm) | (rw [hF]; rfl) | (rw [Za.2 h22]; rfl) | trivial
           refine ⟨?_, ?_⟩
           ·first | (with_reducible rfl) | (with_reducible exact hck.symm) | (rw [hF]; done) | (rw [hF]; with_reducible exact h54.symm) | (rw [hF]; with_reducible exact h55.symm) | (rw [hF]; rfl) | (rw [Za.2 h22]; rfl) | trivial
           refine ⟨?_, ?_⟩
           ·first | (with_reducible rfl) | (with_reducible exact hck.symm) | (rw [hF]; done) | (rw [hF]; with_reducible exact h54.symm) | (rw [hF]; with_reducible exact h55.symm) | (rw [hF]; rfl) | (rw [Za.2 h22]; rfl) | trivial
           refine ⟨?_, ?_⟩
           ·first | (with_reducible rfl) | (with_reducible exact hck.symm) | (rw [hF]; done) | (rw [hF]; with_reducible exact h54.symm) | (rw [hF]; with_reducible exact h55.symm) | (rw [hF]; rfl) | (rw [Za.2 h22]; rfl) | trivial
           refine ⟨?_, ?_⟩
           ·first | (with_reducible rfl) | (with_reducible exact hck.symm) | (rw [hF]; done) | (rw [hF]; with_reducible exact h54.symm) | (rw [hF]; with_reducible exact h55.symm) | (rw [hF]; rfl) | (rw [Za.2 h22]; rfl) | trivial
           refine ⟨?_, ?_⟩
           ·first | (with_reducible rfl) | (with_reducible exact hck.symm) | (rw [hF]; done) | (rw [hF]; with_reducible exact h54.symm) | (rw [hF]; with_reducible exact h55.symm) | (rw [hF]; rfl) | (rw [Za.2 h22]; rfl) | trivial
           trivial
          ·skip
           intro h254
           have hst := hsu.trans (st3a hj (.inr h239) hJl h254)
           have hwho : ({ B.txs.getD J tx0 with ch := Yw (B.txs.getD J tx0).ch (kc x) ((Zr (Zao x) : Nat) * 2 + b01 (xk x == 4)) } : Tx).who = (B.txs.getD J tx0).who := rfl
           have hxx := h254
           intro h255
           intro h256
           intro h257
           intro h258
           intro h259
           intro h260
           intro h261
           refine ⟨?_, ?_⟩
           ·first | omega | trivial | (with_reducible assumption)
           refine ⟨?_, ?_⟩
           ·first | omega | trivial | (with_reducible assumption)
           refine ⟨?_, ?_⟩
           ·first | omega | trivial | (with_reducible assumption)
           refine ⟨?_, ?_⟩
           ·first | omega | trivial | (with_reducible assumption)
           refine ⟨?_, ?_⟩
           ·omega
           refine ⟨?_, ?_⟩
           ·omega
           refine ⟨?_, ?_⟩
           ·omega
           refine ⟨?_, ?_⟩
           ·omega
           refine ⟨?_, ?_⟩
           ·omega
           refine ⟨?_, ?_⟩
           ·first | (simp only [hst, Zl hJR, hlr, ZPW, ZPF]; first | omega | assumption | done) | (simp only [hst, Zl hJR, hlr, ZPW, ZPF]; done)
           refine ⟨?_, ?_⟩
           ·first | (simp only [hst, Zl hJR, hlr, ZPW, ZPF]; first | omega | assumption | done) | (simp only [hst, Zl hJR, hlr, ZPW, ZPF]; done)
           refine ⟨?_, ?_⟩
           ·first | (simp only [hst, hlr, ZPW, ZPF]; first | omega | assumption | done) | (simp only [hst, hlr, ZPW, ZPF]; done)
           refine ⟨?_, ?_⟩
           ·first | (simp only [hst, hlr, ZPW, ZPF]; first | omega | assumption | done) | (simp only [hst, hlr, ZPW, ZPF]; done)
           refine ⟨?_, ?_⟩
           ·first | (rw [hst, Zl hJR]; exact h53)
           refine ⟨?_, ?_⟩
           ·first | (rw [hst]; exact h54)
           refine ⟨?_, ?_⟩
           ·first | (rw [hst]; exact h55)
           refine ⟨?_, ?_⟩
           ·rw [hst, Zfr hJl]; exact congrArg (fun q => U.g (GG.tx (B.txs.set J q))) (ZLJ (B.txs.getD J tx0) _).symm
           refine ⟨?_, ?_⟩
           ·first | (rw [hst]; done) | (rw [hst]; rfl)
           refine ⟨?_, ?_⟩
           ·first | (rw [hst, Zl hJR]; done) | (rw [hst, Zl hJR]; rfl)
           refine ⟨?_, ?_⟩
           ·first | (rw [hst, Y6 hJR hJl hwho]; done) | (rw [hst]; done)
           refine ⟨?_, ?_⟩
           ·first | (simp only [hst, hlr, ZPW, ZPF]; first | omega | assumption | done) | (simp only [hst, hlr, ZPW, ZPF]; done)
           refine ⟨?_, ?_⟩
           ·first | (simp only [hst, Zl hJR, hlr, ZPW, ZPF]; first | omega | assumption | done) | (simp only [hst, Zl hJR, hlr, ZPW, ZPF]; done)
           trivial
         ·skip
          intro h286
          refine ⟨?_, ?_⟩
          ·skip
           intro h288
           refine ⟨?_, ?_⟩
           ·skip
            intro h290
            have hF := htold 1 (st6b hj h288 (fun _ => h290))
            refine ⟨?_, ?_⟩
            ·first | (with_reducible rfl) | (with_reducible exact hck.symm) | (rw [hF]; done) | (rw [hF]; with_reducible exact h54.symm) | (rw [hF]; with_reducible exact h55.symm) | (rw [hF]; rfl) | (rw [Za.2 h22]; rfl) | trivial
            refine ⟨?_, ?_⟩
            ·first | (with_reducible rfl) | (with_reducible exact hck.symm) | (rw [hF]; done) | (rw [hF]; with_reducible exact h54.symm) | (rw [hF]; with_reducible exact h55.symm) | (rw [hF]; rfl) | (rw [Za.2 h22]; rfl) | trivial
            refine ⟨?_, ?_⟩
            ·first | (with_reducible rfl) | (with_reducible exact hck.symm) | (rw [hF]; done) | (rw [hF]; with_reducible exact h54.symm) | (rw [hF]; with_reducible exact h55.symm) | (rw [hF]; rfl) | (rw [Za.2 h22]; rfl) | trivial
            refine ⟨?_, ?_⟩
            ·first | (with_reducible rfl) | (with_reducible exact hck.symm) | (rw [hF]; done) | (rw [hF]; with_reducible exact h54.symm) | (rw [hF]; with_reducible exact h55.symm) | (rw [hF]; rfl) | (rw [Za.2 h22]; rfl) | trivial
            refine ⟨?_, ?_⟩
            ·first | (with_reducible rfl) | (with_reducible exact hck.symm) | (rw [hF]; done) | (rw [hF]; with_reducible exact h54.symm) | (rw [hF]; with_reducible exact h55.symm) | (rw [hF]; rfl) | (rw [Za.2 h22]; rfl) | trivial
            refine ⟨?_, ?_⟩
            ·first | (with_reducible rfl) | (with_reducible exact hck.symm) | (rw [hF]; done) | (rw [hF]; with_reducible exact h54.symm) | (rw [hF]; with_reducible exact h55.symm) | (rw [hF]; rfl) | (rw [Za.2 h22]; rfl) | trivial
            refine ⟨?_, ?_⟩
            ·first | (with_reducible rfl) | (with_reducible exact hck.symm) | (rw [hF]; done) | (rw [hF]; with_reducible exact h54.symm) | (rw [hF]; with_reducible exact h55.symm) | (rw [hF]; rfl) | (rw [Za.2 h22]; rfl) | trivial
            refine ⟨?_, ?_⟩
            ·first | (with_reducible rfl) | (with_reducible exact hck.symm) | (rw [hF]; done) | (rw [hF]; with_reducible exact h54.symm) | (rw [hF]; with_reducible exact h55.symm) | (rw [hF]; rfl) | (rw [Za.2 h22]; rfl) | trivial
            refine ⟨?_, ?_⟩
            ·first | (with_reducible rfl) | (with_reducible exact hck.symm) | (rw [hF]; done) | (rw [hF]; with_reducible exact h54.symm) | (rw [hF]; with_reducible exact h55.symm) | (rw [hF]; rfl) | (rw [Za.2 h22]; rfl) | trivial
            refine ⟨?_, ?_⟩
            ·first | (with_reducible rfl) | (with_reducible exact hck.symm) | (rw [hF]; done) | (rw [hF]; with_reducible exact h54.symm) | (rw [hF]; with_reducible exact h55.symm) | (rw [hF]; rfl) | (rw [Za.2 h22]; rfl) | trivial
            trivial
           ·skip
            intro h303
            have hst := hsu.trans (st6a hj h288 hJl h303)
            have hwho : ({ B.txs.getD J tx0 with opn := false } : Tx).who = (B.txs.getD J tx0).who := rfl
            have hxx := h303
            intro h304
            intro h305
            intro h306
            intro h307
            intro h308
            intro h309
            intro h310
            refine ⟨?_, ?_⟩
            ·first | omega | trivial | (with_reducible assumption)
            refine ⟨?_, ?_⟩
            ·first | omega | trivial | (with_reducible assumption)
            refine ⟨?_, ?_⟩
            ·first | omega | trivial | (with_reducible assumption)
            refine ⟨?_, ?_⟩
            ·first | omega | trivial | (with_reducible assumption)
            refine ⟨?_, ?_⟩
            ·omega
            refine ⟨?_, ?_⟩
            ·omega
            refine ⟨?_, ?_⟩
            ·omega
            refine ⟨?_, ?_⟩
            ·omega
            refine ⟨?_, ?_⟩
            ·omega
            refine ⟨?_, ?_⟩
            ·first | (simp only [hst, Zl hJR, hlr, ZPW, ZPF]; first | omega | assumption | done) | (simp only [hst, Zl hJR, hlr, ZPW, ZPF]; done)
            refine ⟨?_, ?_⟩
            ·first | (simp only [hst, Zl hJR, hlr, ZPW, ZPF]; first | omega | assumption | done) | (simp only [hst, Zl hJR, hlr, ZPW, ZPF]; done)
            refine ⟨?_, ?_⟩
            ·first | (simp only [hst, hlr, ZPW, ZPF]; first | omega | assumption | done) | (simp only [hst, hlr, ZPW, ZPF]; done)
            refine ⟨?_, ?_⟩
            ·first | (simp only [hst, hlr, ZPW, ZPF]; first | omega | assumption | done) | (simp only [hst, hlr, ZPW, ZPF]; done)
            refine ⟨?_, ?_⟩
            ·first | (rw [hst, Zl hJR]; exact h53)
            refine ⟨?_, ?_⟩
            ·first | (rw [hst]; exact h54)
            refine ⟨?_, ?_⟩
            ·first | (rw [hst]; exact h55)
            refine ⟨?_, ?_⟩
            ·rw [hst, Zfr hJl]; rfl
            refine ⟨?_, ?_⟩
            ·first | (rw [hst]; done) | (rw [hst]; rfl)
            refine ⟨?_, ?_⟩
            ·first | (rw [hst, Zl hJR]; done) | (rw [hst, Zl hJR]; rfl)
            refine ⟨?_, ?_⟩
            ·first | (rw [hst, Y6 hJR hJl hwho]; done) | (rw [hst]; done)
            refine ⟨?_, ?_⟩
            ·first | (simp only [hst, hlr, ZPW, ZPF]; first | omega | assumption | done) | (simp only [hst, hlr, ZPW, ZPF]; done)
            refine ⟨?_, ?_⟩
            ·first | (simp only [hst, Zl hJR, hlr, ZPW, ZPF]; first | omega | assumption | done) | (simp only [hst, Zl hJR, hlr, ZPW, ZPF]; done)
            trivial
          ·skip
           intro h335
           refine ⟨?_, ?_⟩
           ·skip
            intro h337
            refine ⟨?_, ?_⟩
            ·exact ⟨J, hJR, rfl⟩
            intro h339
            intro h340
            intro h341
            intro h342
            intro h343
            intro h344
            intro h345
            intro h346
            intro h347
            refine ⟨?_, ?_⟩
            ·skip
             intro h349
             refine ⟨?_, ?_⟩
             ·first | omega | trivial | (with_reducible assumption)
             refine ⟨?_, ?_⟩
             ·first | omega | trivial | (with_reducible assumption)
             refine ⟨?_, ?_⟩
             ·exact h560
             intro v353
             intro h354
             refine ⟨?_, ?_⟩
             ·skip
              intro h356
              have hfal : J ∈ B.fal := by
               rw [h356] at h354
               exact (Zq0 h58.2.1 hfi hJR).1 (h53.mem_iff.1 ((Zj (p := _ ∈ v44)).mp h354.symm))
              refine ⟨?_, ?_⟩
              ·first | omega | trivial | (with_reducible assumption)
              refine ⟨?_, ?_⟩
              ·skip
               intro h359
               have hF := htold 1 (ZLG hj h337 (.inr h359))
               refine ⟨?_, ?_⟩
               ·first | (with_reducible rfl) | (with_reducible exact hck.symm) | (rw [hF]; done) | (rw [hF]; with_reducible exact h54.symm) | (rw [hF]; with_reducible exact h55.symm) | (rw [hF]; rfl) | (rw [Za.2 h22]; rfl) | trivial
               refine ⟨?_, ?_⟩
               ·first | (with_reducible rfl) | (with_reducible exact hck.symm) | (rw [hF]; done) | (rw [hF]; with_reducible exact h54.symm) | (rw [hF]; with_reducible exact h55.symm) | (rw [hF]; rfl) | (rw [Za.2 h22]; rfl) | trivial
               refine ⟨?_, ?_⟩
               ·first | (with_reducible rfl) | (with_reducible exact hck.symm) | (rw [hF]; done) | (rw [hF]; with_reducible exact h54.symm) | (rw [hF]; with_reducible exact h55.symm) | (rw [hF]; rfl) | (rw [Za.2 h22]; rfl) | trivial
               refine ⟨?_, ?_⟩
               ·first | (with_reducible rfl) | (with_reducible exact hck.symm) | (rw [hF]; done) | (rw [hF]; with_reducible exact h54.symm) | (rw [hF]; with_reducible exact h55.symm) | (rw [hF]; rfl) | (rw [Za.2 h22]; rfl) | trivial
               refine ⟨?_, ?_⟩
               ·first | (with_reducible rfl) | (with_reducible exact hck.symm) | (rw [hF]; done) | (rw [hF]; with_reducible exact h54.symm) | (rw [hF]; with_reducible exact h55.symm) | (rw [hF]; rfl) | (rw [Za.2 h22]; rfl) | trivial
               refine ⟨?_, ?_⟩
               ·first | (with_reducible rfl) | (with_reducible exact hck.symm) | (rw [hF]; done) | (rw [hF]; with_reducible exact h54.symm) | (rw [hF]; with_reducible exact h55.symm) | (rw [hF]; rfl) | (rw [Za.2 h22]; rfl) | trivial
               refine ⟨?_, ?_⟩
               ·first | (with_reducible rfl) | (with_reducible exact hck.symm) | (rw [hF]; done) | (rw [hF]; with_reducible exact h54.symm) | (rw [hF]; with_reducible exact h55.symm) | (rw [hF]; rfl) | (rw [Za.2 h22]; rfl) | trivial
               refine ⟨?_, ?_⟩
               ·first | (with_reducible rfl) | (with_reducible exact hck.symm) | (rw [hF]; done) | (rw [hF]; with_reducible exact h54.symm) | (rw [hF]; with_reducible exact h55.symm) | (rw [hF]; rfl) | (rw [Za.2 h22]; rfl) | trivial
               refine ⟨?_, ?_⟩
               ·first | (with_reducible rfl) | (with_reducible exact hck.symm) | (rw [hF]; done) | (rw [hF]; with_reducible exact h54.symm) | (rw [hF]; with_reducible exact h55.symm) | (rw [hF]; rfl) | (rw [Za.2 h22]; rfl) | trivial
               refine ⟨?_, ?_⟩
               ·first | (with_reducible rfl) | (with_reducible exact hck.symm) | (rw [hF]; done) | (rw [hF]; with_reducible exact h54.symm) | (rw [hF]; with_reducible exact h55.symm) | (rw [hF]; rfl) | (rw [Za.2 h22]; rfl) | trivial
               trivial
              ·skip
               intro h372
               refine ⟨?_, ?_⟩
               ·first | omega | trivial | (with_reducible assumption)
               refine ⟨?_, ?_⟩
               ·skip
                intro h375
                have hF := htold 2 (st5b hj h337 (.inr hfal) h372 h375)
                refine ⟨?_, ?_⟩
                ·first | (with_reducible rfl) | (with_reducible exact hck.symm) | (rw [hF]; done) | (rw [hF]; with_reducible exact h54.symm) | (rw [hF]; with_reducible exact h55.symm) | (rw [hF]; rfl) | (rw [Za.2 h22]; rfl) | trivial
                refine ⟨?_, ?_⟩
                ·first | (with_reducible rfl) | (with_reducible exact hck.symm) | (rw [hF]; done) | (rw [hF]; with_reducible exact h54.symm) | (rw [hF]; with_reducible exact h55.symm) | (rw [hF]; rfl) | (rw [Za.2 h22]; rfl) | trivial
                refine ⟨?_, ?_⟩
                ·first | (with_reducible rfl) | (with_reducible exact hck.symm) | (rw [hF]; done) | (rw [hF]; with_reducible exact h54.symm) | (rw [hF]; with_reducible exact h55.symm) | (rw [hF]; rfl) | (rw [Za.2 h22]; rfl) | trivial
                refine ⟨?_, ?_⟩
                ·first | (with_reducible rfl) | (with_reducible exact hck.symm) | (rw [hF]; done) | (rw [hF]; with_reducible exact h54.symm) | (rw [hF]; with_reducible exact h55.symm) | (rw [hF]; rfl) | (rw [Za.2 h22]; rfl) | trivial
                refine ⟨?_, ?_⟩
                ·first | (with_reducible rfl) | (with_reducible exact hck.symm) | (rw [hF]; done) | (rw [hF]; with_reducible exact h54.symm) | (rw [hF]; with_reducible exact h55.symm) | (rw [hF]; rfl) | (rw [Za.2 h22]; rfl) | trivial
                refine ⟨?_, ?_⟩
                ·first | (with_reducible rfl) | (with_reducible exact hck.symm) | (rw [hF]; done) | (rw [hF]; with_reducible exact h54.symm) | (rw [hF]; with_reducible exact h55.symm) | (rw [hF]; rfl) | (rw [Za.2 h22]; rfl) | trivial
                refine ⟨?_, ?_⟩
                ·first | (with_reducible rfl) | (with_reducible exact hck.symm) | (rw [hF]; done) | (rw [hF]; with_reducible exact h54.symm) | (rw [hF]; with_reducible exact h55.symm) | (rw [hF]; rfl) | (rw [Za.2 h22]; rfl) | trivial
                refine ⟨?_, ?_⟩
                ·first | (with_reducible rfl) | (with_reducible exact hck.symm) | (rw [hF]; done) | (rw [hF]; with_reducible exact h54.symm) | (rw [hF]; with_reducible exact h55.symm) | (rw [hF]; rfl) | (rw [Za.2 h22]; rfl) | trivial
                refine ⟨?_, ?_⟩
                ·first | (with_reducible rfl) | (with_reducible exact hck.symm) | (rw [hF]; done) | (rw [hF]; with_reducible exact h54.symm) | (rw [hF]; with_reducible exact h55.symm) | (rw [hF]; rfl) | (rw [Za.2 h22]; rfl) | trivial
                refine ⟨?_, ?_⟩
                ·first | (with_reducible rfl) | (with_reducible exact hck.symm) | (rw [hF]; done) | (rw [hF]; with_reducible exact h54.symm) | (rw [hF]; with_reducible exact h55.symm) | (rw [hF]; rfl) | (rw [Za.2 h22]; rfl) | trivial
                trivial
               ·skip
                intro h388
                have hst := hsu.trans (st5c hj h337 (.inr hfal) h372 h388)
                have hwho : ({ B.txs.getD J tx0 with opn := false, com := (n : Int) } : Tx).who = (B.txs.getD J tx0).who := rfl
                intro h389
                intro h390
                intro h391
                intro h392
                intro h393
                intro h394
                intro h395
                refine ⟨?_, ?_⟩
                ·first | omega | trivial | (with_reducible assumption)
                refine ⟨?_, ?_⟩
                ·first | omega | trivial | (with_reducible assumption)
                refine ⟨?_, ?_⟩
                ·first | omega | trivial | (with_reducible assumption)
                refine ⟨?_, ?_⟩
                ·first | omega | trivial | (with_reducible assumption)
                intro v400
                intro h401
                refine ⟨?_, ?_⟩
                ·first | omega | trivial | (with_reducible assumption)
                refine ⟨?_, ?_⟩
                ·first | omega | trivial | (with_reducible assumption)
                intro v404
                intro v405
                intro h406
                intro h407
                refine ⟨?_, ?_⟩
                ·omega
                refine ⟨?_, ?_⟩
                ·omega
                refine ⟨?_, ?_⟩
                ·omega
                refine ⟨?_, ?_⟩
                ·omega
                refine ⟨?_, ?_⟩
                ·omega
                refine ⟨?_, ?_⟩
                ·simp only [hst, Zl hJR, hlr, ZPW, ZPF]; omega
                refine ⟨?_, ?_⟩
                ·simp only [hst, Zl hJR, hlr, ZPW, ZPF]; omega
                refine ⟨?_, ?_⟩
                ·first | (simp only [hst, hlr, ZPW, ZPF]; first | omega | assumption | done) | (simp only [hst, hlr, ZPW, ZPF]; done)
                refine ⟨?_, ?_⟩
                ·first | (simp only [hst, hlr, ZPW, ZPF]; first | omega | assumption | done) | (simp only [hst, hlr, ZPW, ZPF]; done)
                refine ⟨?_, ?_⟩
                ·rw [hst, Zl hJR]; exact h53
                refine ⟨?_, ?_⟩
                ·first | (rw [hst]; exact h54)
                refine ⟨?_, ?_⟩
                ·first | (rw [hst]; exact h55)
                refine ⟨?_, ?_⟩
                ·rw [hst, Zfr hJl]; rfl
                refine ⟨?_, ?_⟩
                ·first | (rw [hst]; done) | (rw [hst]; rfl)
                refine ⟨?_, ?_⟩
                ·rw [hst, Zl hJR, Zef]
                refine ⟨?_, ?_⟩
                ·first | (rw [hst, Y6 hJR hJl hwho]; done) | (rw [hst]; done)
                refine ⟨?_, ?_⟩
                ·first | (simp only [hst, hlr, ZPW, ZPF]; first | omega | assumption | done) | (simp only [hst, hlr, ZPW, ZPF]; done)
                refine ⟨?_, ?_⟩
                ·simp only [hst, Zl hJR, hlr, ZPW, ZPF]; omega
                trivial
             ·skip
              intro h428
              have hnf : ¬ J ∈ B.fal := fun hm => by
               rw [h428] at h354
               have hq : [g0 (v37.getD J [])] ∈ v44 := h53.mem_iff.2 ((Zq0 h58.2.1 hfi hJR).2 hm)
               rw [ZC hq] at h354; cases h354
              have hF := htold 1 (ZLG hj h337 (.inl ⟨fun _ => h349, hnf⟩))
              refine ⟨?_, ?_⟩
              ·first | omega | trivial | (with_reducible assumption)
              refine ⟨?_, ?_⟩
              ·first | (with_reducible rfl) | (with_reducible exact hck.symm) | (rw [hF]; done) | (rw [hF]; with_reducible exact h54.symm) | (rw [hF]; with_reducible exact h55.symm) | (rw [hF]; rfl) | (rw [Za.2 h22]; rfl) | trivial
              refine ⟨?_, ?_⟩
              ·first | (with_reducible rfl) | (with_reducible exact hck.symm) | (rw [hF]; done) | (rw [hF]; with_reducible exact h54.symm) | (rw [hF]; with_reducible exact h55.symm) | (rw [hF]; rfl) | (rw [Za.2 h22]; rfl) | trivial
              refine ⟨?_, ?_⟩
              ·first | (with_reducible rfl) | (with_reducible exact hck.symm) | (rw [hF]; done) | (rw [hF]; with_reducible exact h54.symm) | (rw [hF]; with_reducible exact h55.symm) | (rw [hF]; rfl) | (rw [Za.2 h22]; rfl) | trivial
              refine ⟨?_, ?_⟩
              ·first | (with_reducible rfl) | (with_reducible exact hck.symm) | (rw [hF]; done) | (rw [hF]; with_reducible exact h54.symm) | (rw [hF]; with_reducible exact h55.symm) | (rw [hF]; rfl) | (rw [Za.2 h22]; rfl) | trivial
              refine ⟨?_, ?_⟩
              ·first | (with_reducible rfl) | (with_reducible exact hck.symm) | (rw [hF]; done) | (rw [hF]; with_reducible exact h54.symm) | (rw [hF]; with_reducible exact h55.symm) | (rw [hF]; rfl) | (rw [Za.2 h22]; rfl) | trivial
              refine ⟨?_, ?_⟩
              ·first | (with_reducible rfl) | (with_reducible exact hck.symm) | (rw [hF]; done) | (rw [hF]; with_reducible exact h54.symm) | (rw [hF]; with_reducible exact h55.symm) | (rw [hF]; rfl) | (rw [Za.2 h22]; rfl) | trivial
              refine ⟨?_, ?_⟩
              ·first | (with_reducible rfl) | (with_reducible exact hck.symm) | (rw [hF]; done) | (rw [hF]; with_reducible exact h54.symm) | (rw [hF]; with_reducible exact h55.symm) | (rw [hF]; rfl) | (rw [Za.2 h22]; rfl) | trivial
              refine ⟨?_, ?_⟩
              ·first | (with_reducible rfl) | (with_reducible exact hck.symm) | (rw [hF]; done) | (rw [hF]; with_reducible exact h54.symm) | (rw [hF]; with_reducible exact h55.symm) | (rw [hF]; rfl) | (rw [Za.2 h22]; rfl) | trivial
              refine ⟨?_, ?_⟩
              ·first | (with_reducible rfl) | (with_reducible exact hck.symm) | (rw [hF]; done) | (rw [hF]; with_reducible exact h54.symm) | (rw [hF]; with_reducible exact h55.symm) | (rw [hF]; rfl) | (rw [Za.2 h22]; rfl) | trivial
              refine ⟨?_, ?_⟩
              ·first | (with_reducible rfl) | (with_reducible exact hck.symm) | (rw [hF]; done) | (rw [hF]; with_reducible exact h54.symm) | (rw [hF]; with_reducible exact h55.symm) | (rw [hF]; rfl) | (rw [Za.2 h22]; rfl) | trivial
              trivial
            ·skip
             intro h442
             refine ⟨?_, ?_⟩
             ·first | omega | trivial | (with_reducible assumption)
             refine ⟨?_, ?_⟩
             ·skip
              intro h445
              have hF := htold 1 (ZLG hj h337 (.inr h445))
              refine ⟨?_, ?_⟩
              ·first | (with_reducible rfl) | (with_reducible exact hck.symm) | (rw [hF]; done) | (rw [hF]; with_reducible exact h54.symm) | (rw [hF]; with_reducible exact h55.symm) | (rw [hF]; rfl) | (rw [Za.2 h22]; rfl) | trivial
              refine ⟨?_, ?_⟩
              ·first | (with_reducible rfl) | (with_reducible exact hck.symm) | (rw [hF]; done) | (rw [hF]; with_reducible exact h54.symm) | (rw [hF]; with_reducible exact h55.symm) | (rw [hF]; rfl) | (rw [Za.2 h22]; rfl) | trivial
              refine ⟨?_, ?_⟩
              ·first | (with_reducible rfl) | (with_reducible exact hck.symm) | (rw [hF]; done) | (rw [hF]; with_reducible exact h54.symm) | (rw [hF]; with_reducible exact h55.symm) | (rw [hF]; rfl) | (rw [Za.2 h22]; rfl) | trivial
              refine ⟨?_, ?_⟩
              ·first | (with_reducible rfl) | (with_reducible exact hck.symm) | (rw [hF]; done) | (rw [hF]; with_reducible exact h54.symm) | (rw [hF]; with_reducible exact h55.symm) | (rw [hF]; rfl) | (rw [Za.2 h22]; rfl) | trivial
              refine ⟨?_, ?_⟩
              ·first | (with_reducible rfl) | (with_reducible exact hck.symm) | (rw [hF]; done) | (rw [hF]; with_reducible exact h54.symm) | (rw [hF]; with_reducible exact h55.symm) | (rw [hF]; rfl) | (rw [Za.2 h22]; rfl) | trivial
              refine ⟨?_, ?_⟩
              ·first | (with_reducible rfl) | (with_reducible exact hck.symm) | (rw [hF]; done) | (rw [hF]; with_reducible exact h54.symm) | (rw [hF]; with_reducible exact h55.symm) | (rw [hF]; rfl) | (rw [Za.2 h22]; rfl) | trivial
              refine ⟨?_, ?_⟩
              ·first | (with_reducible rfl) | (with_reducible exact hck.symm) | (rw [hF]; done) | (rw [hF]; with_reducible exact h54.symm) | (rw [hF]; with_reducible exact h55.symm) | (rw [hF]; rfl) | (rw [Za.2 h22]; rfl) | trivial
              refine ⟨?_, ?_⟩
              ·first | (with_reducible rfl) | (with_reducible exact hck.symm) | (rw [hF]; done) | (rw [hF]; with_reducible exact h54.symm) | (rw [hF]; with_reducible exact h55.symm) | (rw [hF]; rfl) | (rw [Za.2 h22]; rfl) | trivial
              refine ⟨?_, ?_⟩
              ·first | (with_reducible rfl) | (with_reducible exact hck.symm) | (rw [hF]; done) | (rw [hF]; with_reducible exact h54.symm) | (rw [hF]; with_reducible exact h55.symm) | (rw [hF]; rfl) | (rw [Za.2 h22]; rfl) | trivial
              refine ⟨?_, ?_⟩
              ·first | (with_reducible rfl) | (with_reducible exact hck.symm) | (rw [hF]; done) | (rw [hF]; with_reducible exact h54.symm) | (rw [hF]; with_reducible exact h55.symm) | (rw [hF]; rfl) | (rw [Za.2 h22]; rfl) | trivial
              trivial
             ·skip
              intro h458
              refine ⟨?_, ?_⟩
              ·first | omega | trivial | (with_reducible assumption)
              refine ⟨?_, ?_⟩
              ·skip
               intro h461
               have hF := htold 2 (st5b hj h337 (.inl ⟨hJl, h442⟩) h458 h461)
               refine ⟨?_, ?_⟩
               ·first | (with_reducible rfl) | (with_reducible exact hck.symm) | (rw [hF]; done) | (rw [hF]; with_reducible exact h54.symm) | (rw [hF]; with_reducible exact h55.symm) | (rw [hF]; rfl) | (rw [Za.2 h22]; rfl) | trivial
               refine ⟨?_, ?_⟩
               ·first | (with_reducible rfl) | (with_reducible exact hck.symm) | (rw [hF]; done) | (rw [hF]; with_reducible exact h54.symm) | (rw [hF]; with_reducible exact h55.symm) | (rw [hF]; rfl) | (rw [Za.2 h22]; rfl) | trivial
               refine ⟨?_, ?_⟩
               ·first | (with_reducible rfl) | (with_reducible exact hck.symm) | (rw [hF]; done) | (rw [hF]; with_reducible exact h54.symm) | (rw [hF]; with_reducible exact h55.symm) | (rw [hF]; rfl) | (rw [Za.2 h22]; rfl) | trivial
               refine ⟨?_, ?_⟩
               ·first | (with_reducible rfl) | (with_reducible exact hck.symm) | (rw [hF]; done) | (rw [hF]; with_reducible exact h54.symm) | (rw [hF]; with_reducible exact h55.symm) | (rw [hF]; rfl) | (rw [Za.2 h22]; rfl) | trivial
               refine ⟨?_, ?_⟩
               ·first | (with_reducible rfl) | (with_reducible exact hck.symm) | (rw [hF]; done) | (rw [hF]; with_reducible exact h54.symm) | (rw [hF]; with_reducible exact h55.symm) | (rw [hF]; rfl) | (rw [Za.2 h22]; rfl) | trivial
               refine ⟨?_, ?_⟩
               ·first | (with_reducible rfl) | (with_reducible exact hck.symm) | (rw [hF]; done) | (rw [hF]; with_reducible exact h54.symm) | (rw [hF]; with_reducible exact h55.symm) | (rw [hF]; rfl) | (rw [Za.2 h22]; rfl) | trivial
               refine ⟨?_, ?_⟩
               ·first | (with_reducible rfl) | (with_reducible exact hck.symm) | (rw [hF]; done) | (rw [hF]; with_reducible exact h54.symm) | (rw [hF]; with_reducible exact h55.symm) | (rw [hF]; rfl) | (rw [Za.2 h22]; rfl) | trivial
               refine ⟨?_, ?_⟩
               ·first | (with_reducible rfl) | (with_reducible exact hck.symm) | (rw [hF]; done) | (rw [hF]; with_reducible exact h54.symm) | (rw [hF]; with_reducible exact h55.symm) | (rw [hF]; rfl) | (rw [Za.2 h22]; rfl) | trivial
               refine ⟨?_, ?_⟩
               ·first | (with_reducible rfl) | (with_reducible exact hck.symm) | (rw [hF]; done) | (rw [hF]; with_reducible exact h54.symm) | (rw [hF]; with_reducible exact h55.symm) | (rw [hF]; rfl) | (rw [Za.2 h22]; rfl) | trivial
               refine ⟨?_, ?_⟩
               ·first | (with_reducible rfl) | (with_reducible exact hck.symm) | (rw [hF]; done) | (rw [hF]; with_reducible exact h54.symm) | (rw [hF]; with_reducible exact h55.symm) | (rw [hF]; rfl) | (rw [Za.2 h22]; rfl) | trivial
               trivial
              ·skip
               intro h474
               have hst := hsu.trans (st5c hj h337 (.inl ⟨hJl, h442⟩) h458 h474)
               have hwho : ({ B.txs.getD J tx0 with opn := false, com := (n : Int) } : Tx).who = (B.txs.getD J tx0).who := rfl
               intro h475
               intro h476
               intro h477
               intro h478
               intro h479
               intro h480
               intro h481
               refine ⟨?_, ?_⟩
               ·first | omega | trivial | (with_reducible assumption)
               refine ⟨?_, ?_⟩
               ·first | omega | trivial | (with_reducible assumption)
               refine ⟨?_, ?_⟩
               ·first | omega | trivial | (with_reducible assumption)
               refine ⟨?_, ?_⟩
               ·first | omega | trivial | (with_reducible assumption)
               intro v486
               intro h487
               refine ⟨?_, ?_⟩
               ·first | omega | trivial | (with_reducible assumption)
               refine ⟨?_, ?_⟩
               ·first | omega | trivial | (with_reducible assumption)
               intro v490
               intro v491
               intro h492
               intro h493
               refine ⟨?_, ?_⟩
               ·omega
               refine ⟨?_, ?_⟩
               ·omega
               refine ⟨?_, ?_⟩
               ·omega
               refine ⟨?_, ?_⟩
               ·omega
               refine ⟨?_, ?_⟩
               ·omega
               refine ⟨?_, ?_⟩
               ·simp only [hst, Zl hJR, hlr, ZPW, ZPF]; omega
               refine ⟨?_, ?_⟩
               ·simp only [hst, Zl hJR, hlr, ZPW, ZPF]; omega
               refine ⟨?_, ?_⟩
               ·first | (simp only [hst, hlr, ZPW, ZPF]; first | omega | assumption | done) | (simp only [hst, hlr, ZPW, ZPF]; done)
               refine ⟨?_, ?_⟩
               ·first | (simp only [hst, hlr, ZPW, ZPF]; first | omega | assumption | done) | (simp only [hst, hlr, ZPW, ZPF]; done)
               refine ⟨?_, ?_⟩
               ·rw [hst, Zl hJR]; exact h53
               refine ⟨?_, ?_⟩
               ·first | (rw [hst]; exact h54)
               refine ⟨?_, ?_⟩
               ·first | (rw [hst]; exact h55)
               refine ⟨?_, ?_⟩
               ·rw [hst, Zfr hJl]; rfl
               refine ⟨?_, ?_⟩
               ·first | (rw [hst]; done) | (rw [hst]; rfl)
               refine ⟨?_, ?_⟩
               ·rw [hst, Zl hJR, Zef]
               refine ⟨?_, ?_⟩
               ·first | (rw [hst, Y6 hJR hJl hwho]; done) | (rw [hst]; done)
               refine ⟨?_, ?_⟩
               ·first | (simp only [hst, hlr, ZPW, ZPF]; first | omega | assumption | done) | (simp only [hst, hlr, ZPW, ZPF]; done)
               refine ⟨?_, ?_⟩
               ·simp only [hst, Zl hJR, hlr, ZPW, ZPF]; omega
               trivial
           ·skip
            intro h514
            refine ⟨?_, ?_⟩
            ·skip
             intro h516
             intro v517
             intro h518
             refine ⟨?_, ?_⟩
             ·first | omega | trivial | (with_reducible assumption)
             refine ⟨?_, ?_⟩
             ·rw [ZkP (ZdP h58.1)]; exact List.Perm.nil
             refine ⟨?_, ?_⟩
             ·exact ⟨by rw [ZgZ h58.1]; exact hw.nd, fun _ q => q⟩
             refine ⟨?_, ?_⟩
             ·exact congrArg (fun q => U.g (GG.tx q)) (Zma (ZdP h58.1))
             intro v523
             intro v524
             intro v525
             intro v526
             intro v527
             intro v528
             intro h529
             intro h530
             intro h531
             intro h532
             intro h533
             have hFl2 : v528.length <= B.txs.length := by have q := h532.length_eq; rw [hlr] at q; have := Zgu v523 B.txs 0; omega
             refine ⟨?_, ?_⟩
             ·skip
              intro h535
              have hM : v523 = [] := ZP6 (by omega)
              have hst := hsu.trans (st7 hj h516)
              refine ⟨?_, ?_⟩
              ·omega
              refine ⟨?_, ?_⟩
              ·omega
              refine ⟨?_, ?_⟩
              ·omega
              refine ⟨?_, ?_⟩
              ·omega
              refine ⟨?_, ?_⟩
              ·omega
              refine ⟨?_, ?_⟩
              ·first | (simp only [hst, hlr]; first | omega | assumption | done) | (simp only [hst, hlr]; done)
              refine ⟨?_, ?_⟩
              ·first | (simp only [hst, hlr]; first | omega | assumption | done) | (simp only [hst, hlr]; done)
              refine ⟨?_, ?_⟩
              ·first | (simp only [hst, hlr]; first | omega | assumption | done) | (simp only [hst, hlr]; done)
              refine ⟨?_, ?_⟩
              ·first | (simp only [hst, hlr]; first | omega | assumption | done) | (simp only [hst, hlr]; done)
              refine ⟨?_, ?_⟩
              ·rw [hst, Zgv h531]; rw [hM, ZdK] at h532; exact h532
              refine ⟨?_, ?_⟩
              ·rw [hst]; exact h54
              refine ⟨?_, ?_⟩
              ·rw [hst]; exact h55
              refine ⟨?_, ?_⟩
              ·rw [hst, hM]; rfl
              refine ⟨?_, ?_⟩
              ·rw [hst]
              refine ⟨?_, ?_⟩
              ·rw [hst, Zgv h531]
              refine ⟨?_, ?_⟩
              ·rw [hst]; exact congrArg U.amap (Zn3 h531 (by rw [List.map_map]; rfl))
              refine ⟨?_, ?_⟩
              ·first | (simp only [hst, hlr]; first | omega | assumption | done) | (simp only [hst, hlr]; done)
              refine ⟨?_, ?_⟩
              ·first | (simp only [hst, hlr]; first | omega | assumption | done) | (simp only [hst, hlr]; done)
              trivial
             ·skip
              intro v556
              intro h557
              have hjk0 := h533.2 _ h557
              have hAk := ZbI (w := v556) h58.1 0
              obtain ⟨j, hjd⟩ : ∃ j, ixL v556 B.txs = j := ⟨_, rfl⟩
              rw [hjd] at hAk
              have hjl : j < B.txs.length := by rw [hAk.2] at hjk0; simpa using hjk0
              have hR22 : v525.length = v37.length := by have := congrArg List.length h531; simpa using this
              have hjR : j < v525.length := by have := h58.1; omega
              have hg0 : g0 (v525.getD j []) = g0 (v37.getD j []) := by rw [<- Zc0 g0 v525, <- Zc0 g0 v37, h531]
              have hmk : YB 0 (ZeQ v37 B.txs) v556 = g0 (v525.getD j []) := by rw [hAk.1, if_pos hjl, hg0]
              have hrj := ZaP (R := v525) (by rw [h531]; exact h58.2.1) hjR
              have hwj : (B.txs.getD j tx0).who = v556 := by have := ZaN (w := v556) (L := B.txs) (by omega); rw [hjd] at this; exact this
              have hgj : (Zcf B.txs v523).getD j tx0 = B.txs.getD j tx0 := by rw [Zd4 _ _ hjl, hwj, if_pos h557]
              have hsl := Zeb B.txs v523
              simp only [hmk, hrj, ZPY, ZcA]
              refine ⟨?_, ?_⟩
              ·exact ⟨j, hjR, rfl⟩
              intro h559
              intro h560
              intro h561
              intro h562
              intro h563
              intro h564
              intro h565
              intro h566
              intro h567
              refine ⟨?_, ?_⟩
              ·first | omega | trivial | (with_reducible assumption)
              refine ⟨?_, ?_⟩
              ·skip
               intro h570
               rw [hgj] at h570
               intro h571
               intro h572
               intro h573
               intro h574
               intro h575
               intro h576
               intro h577
               intro h578
               intro h579
               refine ⟨?_, ?_⟩
               ·first | omega | trivial | (with_reducible assumption)
               refine ⟨?_, ?_⟩
               ·first | omega | trivial | (with_reducible assumption)
               refine ⟨?_, ?_⟩
               ·first | omega | trivial | (with_reducible assumption)
               refine ⟨?_, ?_⟩
               ·first | omega | trivial | (with_reducible assumption)
               intro v584
               intro h585
               refine ⟨?_, ?_⟩
               ·first | omega | trivial | (with_reducible assumption)
               refine ⟨?_, ?_⟩
               ·first | omega | trivial | (with_reducible assumption)
               intro v588
               intro v589
               intro h590
               intro h591
               refine ⟨?_, ?_⟩
               ·have := Zdk h557; omega
               refine ⟨?_, ?_⟩
               ·rw [ZfQ hjR]; exact (YA (f := g0) (d := []) (x := g0 (v525.getD j []) :: _) rfl hjR).trans h531
               refine ⟨?_, ?_⟩
               ·refine (h532.append_right _).trans ?_
                rw [hg0, <- Zef]
                exact Zei (Zmq h533.1 hw.nd hjd hjl h557 h570)
               refine ⟨?_, ?_⟩
               ·exact ⟨Zbz h533.1 _, fun q hq => h533.2 q (by rw [ZaD h533.1] at hq; simp only [Bool.and_eq_true] at hq; exact hq.2)⟩
               refine ⟨?_, ?_⟩
               ·rw [Zfr (by rw [hsl]; exact hjl), Zg5 h533.1 hw.nd hjd hjl h557, hgj]; rfl
               trivial
              ·skip
               intro h599
               rw [hgj] at h599
               refine ⟨?_, ?_⟩
               ·have := Zdk h557; omega
               refine ⟨?_, ?_⟩
               ·exact h532.trans (Zei (Zid h533.1 hw.nd hjd hjl h599))
               refine ⟨?_, ?_⟩
               ·exact ⟨Zbz h533.1 _, fun q hq => h533.2 q (by rw [ZaD h533.1] at hq; simp only [Bool.and_eq_true] at hq; exact hq.2)⟩
               refine ⟨?_, ?_⟩
               ·exact congrArg (fun q => U.g (GG.tx q)) (Zik h533.1 hw.nd hjd hjl h557 (by rw [hgj]; exact h599))
               trivial
            ·skip
             intro h606
             have hst := hsu.trans (st0 hj ⟨h94, h184, h237, h286, h514, h335, h606⟩)
             refine ⟨?_, ?_⟩
             ·omega
             refine ⟨?_, ?_⟩
             ·omega
             refine ⟨?_, ?_⟩
             ·omega
             refine ⟨?_, ?_⟩
             ·omega
             refine ⟨?_, ?_⟩
             ·omega
             refine ⟨?_, ?_⟩
             ·first | (simp only [hst, hlr, ZPW, ZPF]; first | omega | assumption | done) | (simp only [hst, hlr, ZPW, ZPF]; done)
             refine ⟨?_, ?_⟩
             ·first | (simp only [hst, hlr, ZPW, ZPF]; first | omega | assumption | done) | (simp only [hst, hlr, ZPW, ZPF]; done)
             refine ⟨?_, ?_⟩
             ·first | (simp only [hst, hlr, ZPW, ZPF]; first | omega | assumption | done) | (simp only [hst, hlr, ZPW, ZPF]; done)
             refine ⟨?_, ?_⟩
             ·first | (simp only [hst, hlr, ZPW, ZPF]; first | omega | assumption | done) | (simp only [hst, hlr, ZPW, ZPF]; done)
             refine ⟨?_, ?_⟩
             ·first | (rw [hst]; exact h53)
             refine ⟨?_, ?_⟩
             ·first | (rw [hst]; exact h54)
             refine ⟨?_, ?_⟩
             ·first | (rw [hst]; exact h55)
             refine ⟨?_, ?_⟩
             ·first | (rw [hst]; done) | (rw [hst]; rfl)
             refine ⟨?_, ?_⟩
             ·first | (rw [hst]; done) | (rw [hst]; rfl)
             refine ⟨?_, ?_⟩
             ·first | (rw [hst]; done) | (rw [hst]; rfl)
             refine ⟨?_, ?_⟩
             ·first | (rw [hst, Y6 hJR hJl hwho]; done) | (rw [hst]; done)
             refine ⟨?_, ?_⟩
             ·first | (simp only [hst, hlr, ZPW, ZPF]; first | omega | assumption | done) | (simp only [hst, hlr, ZPW, ZPF]; done)
             refine ⟨?_, ?_⟩
             ·first | (simp only [hst, hlr, ZPW, ZPF]; first | omega | assumption | done) | (simp only [hst, hlr, ZPW, ZPF]; done)
             trivial
     ·skip
      trivial
    ·skip
     intro h629
     have hJn : ¬ J < B.txs.length := fun q => by
      rw [hA.1, if_pos q] at h629
      have := h58.2.2 _ (Zvk (R := v37) (J := J) (by have := h58.1; omega)); omega
     have hnop : J < B.txs.length -> (B.txs.getD J tx0).opn = false := fun q => absurd q hJn
     refine ⟨?_, ?_⟩
     ·skip
      trivial
     ·skip
      intro h633
      refine ⟨?_, ?_⟩
      ·skip
       intro h635
       refine ⟨?_, ?_⟩
       ·skip
        trivial
       ·skip
        intro h639
        have hst := hsu.trans (st1b hj h635 hJn)
        have hkR : ∀ k ∈ B.kept, k < v37.length := fun k hk => by have := hw.ki k hk; have := h58.1; omega
        intro v640
        intro h641
        intro v642
        intro h643
        refine ⟨?_, ?_⟩
        ·omega
        refine ⟨?_, ?_⟩
        ·omega
        refine ⟨?_, ?_⟩
        ·omega
        refine ⟨?_, ?_⟩
        ·omega
        refine ⟨?_, ?_⟩
        ·omega
        refine ⟨?_, ?_⟩
        ·first | (simp only [hst, hlr]; first | omega | assumption | done) | (simp only [hst, hlr]; done)
        refine ⟨?_, ?_⟩
        ·first | (simp only [hst, hlr]; first | omega | assumption | done) | (simp only [hst, hlr]; done)
        refine ⟨?_, ?_⟩
        ·first | (simp only [hst, hlr, ZPW, ZPF]; first | omega | assumption | done) | (simp only [hst, hlr, ZPW, ZPF]; done)
        refine ⟨?_, ?_⟩
        ·first | (simp only [hst, hlr, ZPW, ZPF]; first | omega | assumption | done) | (simp only [hst, hlr, ZPW, ZPF]; done)
        refine ⟨?_, ?_⟩
        ·first | (rw [hst]; exact List.Perm.nil)
        refine ⟨?_, ?_⟩
        ·first | (rw [hst]; exact h54)
        refine ⟨?_, ?_⟩
        ·first | (rw [hst]; exact h55)
        refine ⟨?_, ?_⟩
        ·first | (rw [hst]; done) | (rw [hst]; rfl)
        refine ⟨?_, ?_⟩
        ·first | (rw [hst]; done) | (rw [hst]; rfl)
        refine ⟨?_, ?_⟩
        ·rw [hst]; exact ZEl hkR _
        refine ⟨?_, ?_⟩
        ·rw [hst]; exact congrArg U.amap (ZEe h58.1 _ _ (by show ¬ ixL (x.getD 1 0) B.txs < _; rw [hJ]; exact hJn))
        refine ⟨?_, ?_⟩
        ·first | (simp only [hst, hlr, ZPW, ZPF]; first | omega | assumption | done) | (simp only [hst, hlr, ZPW, ZPF]; done)
        refine ⟨?_, ?_⟩
        ·first | (simp only [hst, hlr]; first | omega | assumption | done) | (simp only [hst, hlr]; done)
        trivial
      ·skip
       intro h664
       refine ⟨?_, ?_⟩
       ·skip
        intro h666
        refine ⟨?_, ?_⟩
        ·skip
         intro h668
         have hst := hsu.trans (st2a hj h666 h668)
         intro v669
         intro h670
         refine ⟨?_, ?_⟩
         ·first | omega | trivial | (with_reducible assumption)
         refine ⟨?_, ?_⟩
         ·first | omega | trivial | (with_reducible assumption)
         intro v673
         intro v674
         intro h675
         intro h676
         refine ⟨?_, ?_⟩
         ·omega
         refine ⟨?_, ?_⟩
         ·omega
         refine ⟨?_, ?_⟩
         ·omega
         refine ⟨?_, ?_⟩
         ·omega
         refine ⟨?_, ?_⟩
         ·omega
         refine ⟨?_, ?_⟩
         ·first | (simp only [hst, hlr, ZPW, ZPF]; first | omega | assumption | done) | (simp only [hst, hlr, ZPW, ZPF]; done)
         refine ⟨?_, ?_⟩
         ·first | (simp only [hst, hlr, ZPW, ZPF]; first | omega | assumption | done) | (simp only [hst, hlr, ZPW, ZPF]; done)
         refine ⟨?_, ?_⟩
         ·first | (simp only [hst, hlr, ZPW, ZPF]; first | omega | assumption | done) | (simp only [hst, hlr, ZPW, ZPF]; done)
         refine ⟨?_, ?_⟩
         ·first | (simp only [hst, hlr, ZPW, ZPF]; first | omega | assumption | done) | (simp only [hst, hlr, ZPW, ZPF]; done)
         refine ⟨?_, ?_⟩
         ·first | (rw [hst]; exact List.Perm.nil)
         refine ⟨?_, ?_⟩
         ·first | (rw [hst]; exact h54)
         refine ⟨?_, ?_⟩
         ·first | (rw [hst]; exact h55)
         refine ⟨?_, ?_⟩
         ·first | (rw [hst]; done) | (rw [hst]; rfl)
         refine ⟨?_, ?_⟩
         ·first | (rw [hst]; done) | (rw [hst]; rfl)
         refine ⟨?_, ?_⟩
         ·first | (rw [hst]; done) | (rw [hst]; rfl)
         refine ⟨?_, ?_⟩
         ·first | (rw [hst, Y6 hJR hJl hwho]; done) | (rw [hst]; done)
         refine ⟨?_, ?_⟩
         ·first | (simp only [hst, hlr, ZPW, ZPF]; first | omega | assumption | done) | (simp only [hst, hlr, ZPW, ZPF]; done)
         refine ⟨?_, ?_⟩
         ·first | (simp only [hst, hlr, ZPW, ZPF]; first | omega | assumption | done) | (simp only [hst, hlr, ZPW, ZPF]; done)
         trivial
        ·skip
         intro h697
         have hF := htold 1 (st2c hj h666 h697 hnop)
         refine ⟨?_, ?_⟩
         ·first | (with_reducible rfl) | (with_reducible exact hck.symm) | (rw [hF]; done) | (rw [hF]; with_reducible exact h54.symm) | (rw [hF]; with_reducible exact h55.symm) | (rw [hF]; rfl) | (rw [Za.2 h22]; rfl) | trivial
         refine ⟨?_, ?_⟩
         ·first | (with_reducible rfl) | (with_reducible exact hck.symm) | (rw [hF]; done) | (rw [hF]; with_reducible exact h54.symm) | (rw [hF]; with_reducible exact h55.symm) | (rw [hF]; rfl) | (rw [Za.2 h22]; rfl) | trivial
         refine ⟨?_, ?_⟩
         ·first | (with_reducible rfl) | (with_reducible exact hck.symm) | (rw [hF]; done) | (rw [hF]; with_reducible exact h54.symm) | (rw [hF]; with_reducible exact h55.symm) | (rw [hF]; rfl) | (rw [Za.2 h22]; rfl) | trivial
         refine ⟨?_, ?_⟩
         ·first | (with_reducible rfl) | (with_reducible exact hck.symm) | (rw [hF]; done) | (rw [hF]; with_reducible exact h54.symm) | (rw [hF]; with_reducible exact h55.symm) | (rw [hF]; rfl) | (rw [Za.2 h22]; rfl) | trivial
         refine ⟨?_, ?_⟩
         ·first | (with_reducible rfl) | (with_reducible exact hck.symm) | (rw [hF]; done) | (rw [hF]; with_reducible exact h54.symm) | (rw [hF]; with_reducible exact h55.symm) | (rw [hF]; rfl) | (rw [Za.2 h22]; rfl) | trivial
         refine ⟨?_, ?_⟩
         ·first | (with_reducible rfl) | (with_reducible exact hck.symm) | (rw [hF]; done) | (rw [hF]; with_reducible exact h54.symm) | (rw [hF]; with_reducible exact h55.symm) | (rw [hF]; rfl) | (rw [Za.2 h22]; rfl) | trivial
         refine ⟨?_, ?_⟩
         ·first | (with_reducible rfl) | (with_reducible exact hck.symm) | (rw [hF]; done) | (rw [hF]; with_reducible exact h54.symm) | (rw [hF]; with_reducible exact h55.symm) | (rw [hF]; rfl) | (rw [Za.2 h22]; rfl) | trivial
         refine ⟨?_, ?_⟩
         ·first | (with_reducible rfl) | (with_reducible exact hck.symm) | (rw [hF]; done) | (rw [hF]; with_reducible exact h54.symm) | (rw [hF]; with_reducible exact h55.symm) | (rw [hF]; rfl) | (rw [Za.2 h22]; rfl) | trivial
         refine ⟨?_, ?_⟩
         ·first | (with_reducible rfl) | (with_reducible exact hck.symm) | (rw [hF]; done) | (rw [hF]; with_reducible exact h54.symm) | (rw [hF]; with_reducible exact h55.symm) | (rw [hF]; rfl) | (rw [Za.2 h22]; rfl) | trivial
         refine ⟨?_, ?_⟩
         ·first | (with_reducible rfl) | (with_reducible exact hck.symm) | (rw [hF]; done) | (rw [hF]; with_reducible exact h54.symm) | (rw [hF]; with_reducible exact h55.symm) | (rw [hF]; rfl) | (rw [Za.2 h22]; rfl) | trivial
         trivial
       ·skip
        intro h710
        refine ⟨?_, ?_⟩
        ·skip
         intro h712
         refine ⟨?_, ?_⟩
         ·skip
          intro h714
          have hF := htold 1 (ZOv hj (.inl h712) hnop)
          refine ⟨?_, ?_⟩
          ·first | (with_reducible rfl) | (with_reducible exact hck.symm) | (rw [hF]; done) | (rw [hF]; with_reducible exact h54.symm) | (rw [hF]; with_reducible exact h55.symm) | (rw [hF]; rfl) | (rw [Za.2 h22]; rfl) | trivial
          refine ⟨?_, ?_⟩
          ·first | (with_reducible rfl) | (with_reducible exact hck.symm) | (rw [hF]; done) | (rw [hF]; with_reducible exact h54.symm) | (rw [hF]; with_reducible exact h55.symm) | (rw [hF]; rfl) | (rw [Za.2 h22]; rfl) | trivial
          refine ⟨?_, ?_⟩
          ·first | (with_reducible rfl) | (with_reducible exact hck.symm) | (rw [hF]; done) | (rw [hF]; with_reducible exact h54.symm) | (rw [hF]; with_reducible exact h55.symm) | (rw [hF]; rfl) | (rw [Za.2 h22]; rfl) | trivial
          refine ⟨?_, ?_⟩
          ·first | (with_reducible rfl) | (with_reducible exact hck.symm) | (rw [hF]; done) | (rw [hF]; with_reducible exact h54.symm) | (rw [hF]; with_reducible exact h55.symm) | (rw [hF]; rfl) | (rw [Za.2 h22]; rfl) | trivial
          refine ⟨?_, ?_⟩
          ·first | (with_reducible rfl) | (with_reducible exact hck.symm) | (rw [hF]; done) | (rw [hF]; with_reducible exact h54.symm) | (rw [hF]; with_reducible exact h55.symm) | (rw [hF]; rfl) | (rw [Za.2 h22]; rfl) | trivial
          refine ⟨?_, ?_⟩
          ·first | (with_reducible rfl) | (with_reducible exact hck.symm) | (rw [hF]; done) | (rw [hF]; with_reducible exact h54.symm) | (rw [hF]; with_reducible exact h55.symm) | (rw [hF]; rfl) | (rw [Za.2 h22]; rfl) | trivial
          refine ⟨?_, ?_⟩
          ·first | (with_reducible rfl) | (with_reducible exact hck.symm) | (rw [hF]; done) | (rw [hF]; with_reducible exact h54.symm) | (rw [hF]; with_reducible exact h55.symm) | (rw [hF]; rfl) | (rw [Za.2 h22]; rfl) | trivial
          refine ⟨?_, ?_⟩
          ·first | (with_reducible rfl) | (with_reducible exact hck.symm) | (rw [hF]; done) | (rw [hF]; with_reducible exact h54.symm) | (rw [hF]; with_reducible exact h55.symm) | (rw [hF]; rfl) | (rw [Za.2 h22]; rfl) | trivial
          refine ⟨?_, ?_⟩
          ·first | (with_reducible rfl) | (with_reducible exact hck.symm) | (rw [hF]; done) | (rw [hF]; with_reducible exact h54.symm) | (rw [hF]; with_reducible exact h55.symm) | (rw [hF]; rfl) | (rw [Za.2 h22]; rfl) | trivial
          refine ⟨?_, ?_⟩
          ·first | (with_reducible rfl) | (with_reducible exact hck.symm) | (rw [hF]; done) | (rw [hF]; with_reducible exact h54.symm) | (rw [hF]; with_reducible exact h55.symm) | (rw [hF]; rfl) | (rw [Za.2 h22]; rfl) | trivial
          trivial
         ·skip
          trivial
        ·skip
         intro h729
         refine ⟨?_, ?_⟩
         ·skip
          intro h731
          have hF := htold 1 (ZOv hj (.inr h731) hnop)
          refine ⟨?_, ?_⟩
          ·first | (with_reducible rfl) | (with_reducible exact hck.symm) | (rw [hF]; done) | (rw [hF]; with_reducible exact h54.symm) | (rw [hF]; with_reducible exact h55.symm) | (rw [hF]; rfl) | (rw [Za.2 h22]; rfl) | trivial
          refine ⟨?_, ?_⟩
          ·first | (with_reducible rfl) | (with_reducible exact hck.symm) | (rw [hF]; done) | (rw [hF]; with_reducible exact h54.symm) | (rw [hF]; with_reducible exact h55.symm) | (rw [hF]; rfl) | (rw [Za.2 h22]; rfl) | trivial
          refine ⟨?_, ?_⟩
          ·first | (with_reducible rfl) | (with_reducible exact hck.symm) | (rw [hF]; done) | (rw [hF]; with_reducible exact h54.symm) | (rw [hF]; with_reducible exact h55.symm) | (rw [hF]; rfl) | (rw [Za.2 h22]; rfl) | trivial
          refine ⟨?_, ?_⟩
          ·first | (with_reducible rfl) | (with_reducible exact hck.symm) | (rw [hF]; done) | (rw [hF]; with_reducible exact h54.symm) | (rw [hF]; with_reducible exact h55.symm) | (rw [hF]; rfl) | (rw [Za.2 h22]; rfl) | trivial
          refine ⟨?_, ?_⟩
          ·first | (with_reducible rfl) | (with_reducible exact hck.symm) | (rw [hF]; done) | (rw [hF]; with_reducible exact h54.symm) | (rw [hF]; with_reducible exact h55.symm) | (rw [hF]; rfl) | (rw [Za.2 h22]; rfl) | trivial
          refine ⟨?_, ?_⟩
          ·first | (with_reducible rfl) | (with_reducible exact hck.symm) | (rw [hF]; done) | (rw [hF]; with_reducible exact h54.symm) | (rw [hF]; with_reducible exact h55.symm) | (rw [hF]; rfl) | (rw [Za.2 h22]; rfl) | trivial
          refine ⟨?_, ?_⟩
          ·first | (with_reducible rfl) | (with_reducible exact hck.symm) | (rw [hF]; done) | (rw [hF]; with_reducible exact h54.symm) | (rw [hF]; with_reducible exact h55.symm) | (rw [hF]; rfl) | (rw [Za.2 h22]; rfl) | trivial
          refine ⟨?_, ?_⟩
          ·first | (with_reducible rfl) | (with_reducible exact hck.symm) | (rw [hF]; done) | (rw [hF]; with_reducible exact h54.symm) | (rw [hF]; with_reducible exact h55.symm) | (rw [hF]; rfl) | (rw [Za.2 h22]; rfl) | trivial
          refine ⟨?_, ?_⟩
          ·first | (with_reducible rfl) | (with_reducible exact hck.symm) | (rw [hF]; done) | (rw [hF]; with_reducible exact h54.symm) | (rw [hF]; with_reducible exact h55.symm) | (rw [hF]; rfl) | (rw [Za.2 h22]; rfl) | trivial
          refine ⟨?_, ?_⟩
          ·first | (with_reducible rfl) | (with_reducible exact hck.symm) | (rw [hF]; done) | (rw [hF]; with_reducible exact h54.symm) | (rw [hF]; with_reducible exact h55.symm) | (rw [hF]; rfl) | (rw [Za.2 h22]; rfl) | trivial
          trivial
         ·skip
          intro h744
          refine ⟨?_, ?_⟩
          ·skip
           intro h746
           have hF := htold 1 (st6b hj h746 hnop)
           refine ⟨?_, ?_⟩
           ·first | (with_reducible rfl) | (with_reducible exact hck.symm) | (rw [hF]; done) | (rw [hF]; with_reducible exact h54.symm) | (rw [hF]; with_reducible exact h55.symm) | (rw [hF]; rfl) | (rw [Za.2 h22]; rfl) | trivial
           refine ⟨?_, ?_⟩
           ·first | (with_reducible rfl) | (with_reducible exact hck.symm) | (rw [hF]; done) | (rw [hF]; with_reducible exact h54.symm) | (rw [hF]; with_reducible exact h55.symm) | (rw [hF]; rfl) | (rw [Za.2 h22]; rfl) | trivial
           refine ⟨?_, ?_⟩
           ·first | (with_reducible rfl) | (with_reducible exact hck.symm) | (rw [hF]; done) | (rw [hF]; with_reducible exact h54.symm) | (rw [hF]; with_reducible exact h55.symm) | (rw [hF]; rfl) | (rw [Za.2 h22]; rfl) | trivial
           refine ⟨?_, ?_⟩
           ·first | (with_reducible rfl) | (with_reducible exact hck.symm) | (rw [hF]; done) | (rw [hF]; with_reducible exact h54.symm) | (rw [hF]; with_reducible exact h55.symm) | (rw [hF]; rfl) | (rw [Za.2 h22]; rfl) | trivial
           refine ⟨?_, ?_⟩
           ·first | (with_reducible rfl) | (with_reducible exact hck.symm) | (rw [hF]; done) | (rw [hF]; with_reducible exact h54.symm) | (rw [hF]; with_reducible exact h55.symm) | (rw [hF]; rfl) | (rw [Za.2 h22]; rfl) | trivial
           refine ⟨?_, ?_⟩
           ·first | (with_reducible rfl) | (with_reducible exact hck.symm) | (rw [hF]; done) | (rw [hF]; with_reducible exact h54.symm) | (rw [hF]; with_reducible exact h55.symm) | (rw [hF]; rfl) | (rw [Za.2 h22]; rfl) | trivial
           refine ⟨?_, ?_⟩
           ·first | (with_reducible rfl) | (with_reducible exact hck.symm) | (rw [hF]; done) | (rw [hF]; with_reducible exact h54.symm) | (rw [hF]; with_reducible exact h55.symm) | (rw [hF]; rfl) | (rw [Za.2 h22]; rfl) | trivial
           refine ⟨?_, ?_⟩
           ·first | (with_reducible rfl) | (with_reducible exact hck.symm) | (rw [hF]; done) | (rw [hF]; with_reducible exact h54.symm) | (rw [hF]; with_reducible exact h55.symm) | (rw [hF]; rfl) | (rw [Za.2 h22]; rfl) | trivial
           refine ⟨?_, ?_⟩
           ·first | (with_reducible rfl) | (with_reducible exact hck.symm) | (rw [hF]; done) | (rw [hF]; with_reducible exact h54.symm) | (rw [hF]; with_reducible exact h55.symm) | (rw [hF]; rfl) | (rw [Za.2 h22]; rfl) | trivial
           refine ⟨?_, ?_⟩
           ·first | (with_reducible rfl) | (with_reducible exact hck.symm) | (rw [hF]; done) | (rw [hF]; with_reducible exact h54.symm) | (rw [hF]; with_reducible exact h55.symm) | (rw [hF]; rfl) | (rw [Za.2 h22]; rfl) | trivial
           trivial
          ·skip
           intro h759
           refine ⟨?_, ?_⟩
           ·skip
            intro h761
            refine ⟨?_, ?_⟩
            ·first | omega | trivial | (with_reducible assumption)
            refine ⟨?_, ?_⟩
            ·first | omega | trivial | (with_reducible assumption)
            refine ⟨?_, ?_⟩
            ·exact h560
            refine ⟨?_, ?_⟩
            ·exact .inl h629
            intro v766
            intro h767
            refine ⟨?_, ?_⟩
            ·skip
             intro h769
             have hbad : False := by
              rw [h769] at h767
              obtain ⟨b', hb1, hb2⟩ := h560 _ ((Zj (p := _ ∈ v44)).mp h767.symm)
              injection hb1 with hb1
              obtain ⟨k, hk, rfl⟩ := hb2
              have := h58.2.2 _ (Zvk hk)
              omega
             refine ⟨?_, ?_⟩
             ·exact hbad.elim
             exact hbad.elim
            ·skip
             intro h773
             have hnf : ¬ J ∈ B.fal := fun hm => hJn (hw.fi J hm)
             have hF := htold 1 (ZLG hj h761 (.inl ⟨hnop, hnf⟩))
             refine ⟨?_, ?_⟩
             ·first | (with_reducible rfl) | (with_reducible exact hck.symm) | (rw [hF]; done) | (rw [hF]; with_reducible exact h54.symm) | (rw [hF]; with_reducible exact h55.symm) | (rw [hF]; rfl) | (rw [Za.2 h22]; rfl) | trivial
             refine ⟨?_, ?_⟩
             ·first | (with_reducible rfl) | (with_reducible exact hck.symm) | (rw [hF]; done) | (rw [hF]; with_reducible exact h54.symm) | (rw [hF]; with_reducible exact h55.symm) | (rw [hF]; rfl) | (rw [Za.2 h22]; rfl) | trivial
             refine ⟨?_, ?_⟩
             ·first | (with_reducible rfl) | (with_reducible exact hck.symm) | (rw [hF]; done) | (rw [hF]; with_reducible exact h54.symm) | (rw [hF]; with_reducible exact h55.symm) | (rw [hF]; rfl) | (rw [Za.2 h22]; rfl) | trivial
             refine ⟨?_, ?_⟩
             ·first | (with_reducible rfl) | (with_reducible exact hck.symm) | (rw [hF]; done) | (rw [hF]; with_reducible exact h54.symm) | (rw [hF]; with_reducible exact h55.symm) | (rw [hF]; rfl) | (rw [Za.2 h22]; rfl) | trivial
             refine ⟨?_, ?_⟩
             ·first | (with_reducible rfl) | (with_reducible exact hck.symm) | (rw [hF]; done) | (rw [hF]; with_reducible exact h54.symm) | (rw [hF]; with_reducible exact h55.symm) | (rw [hF]; rfl) | (rw [Za.2 h22]; rfl) | trivial
             refine ⟨?_, ?_⟩
             ·first | (with_reducible rfl) | (with_reducible exact hck.symm) | (rw [hF]; done) | (rw [hF]; with_reducible exact h54.symm) | (rw [hF]; with_reducible exact h55.symm) | (rw [hF]; rfl) | (rw [Za.2 h22]; rfl) | trivial
             refine ⟨?_, ?_⟩
             ·first | (with_reducible rfl) | (with_reducible exact hck.symm) | (rw [hF]; done) | (rw [hF]; with_reducible exact h54.symm) | (rw [hF]; with_reducible exact h55.symm) | (rw [hF]; rfl) | (rw [Za.2 h22]; rfl) | trivial
             refine ⟨?_, ?_⟩
             ·first | (with_reducible rfl) | (with_reducible exact hck.symm) | (rw [hF]; done) | (rw [hF]; with_reducible exact h54.symm) | (rw [hF]; with_reducible exact h55.symm) | (rw [hF]; rfl) | (rw [Za.2 h22]; rfl) | trivial
             refine ⟨?_, ?_⟩
             ·first | (with_reducible rfl) | (with_reducible exact hck.symm) | (rw [hF]; done) | (rw [hF]; with_reducible exact h54.symm) | (rw [hF]; with_reducible exact h55.symm) | (rw [hF]; rfl) | (rw [Za.2 h22]; rfl) | trivial
             refine ⟨?_, ?_⟩
             ·first | (with_reducible rfl) | (with_reducible exact hck.symm) | (rw [hF]; done) | (rw [hF]; with_reducible exact h54.symm) | (rw [hF]; with_reducible exact h55.symm) | (rw [hF]; rfl) | (rw [Za.2 h22]; rfl) | trivial
             trivial
           ·skip
            intro h786
            refine ⟨?_, ?_⟩
            ·skip
             intro h788
             intro v789
             intro h790
             refine ⟨?_, ?_⟩
             ·first | omega | trivial | (with_reducible assumption)
             refine ⟨?_, ?_⟩
             ·rw [ZkP (ZdP h58.1)]; exact List.Perm.nil
             refine ⟨?_, ?_⟩
             ·exact ⟨by rw [ZgZ h58.1]; exact hw.nd, fun _ q => q⟩
             refine ⟨?_, ?_⟩
             ·exact congrArg (fun q => U.g (GG.tx q)) (Zma (ZdP h58.1))
             intro v795
             intro v796
             intro v797
             intro v798
             intro v799
             intro v800
             intro h801
             intro h802
             intro h803
             intro h804
             intro h805
             have hFl2 : v800.length <= B.txs.length := by have q := h804.length_eq; rw [hlr] at q; have := Zgu v795 B.txs 0; omega
             refine ⟨?_, ?_⟩
             ·skip
              intro h807
              have hM : v795 = [] := ZP6 (by omega)
              have hst := hsu.trans (st7 hj h788)
              refine ⟨?_, ?_⟩
              ·omega
              refine ⟨?_, ?_⟩
              ·omega
              refine ⟨?_, ?_⟩
              ·omega
              refine ⟨?_, ?_⟩
              ·omega
              refine ⟨?_, ?_⟩
              ·omega
              refine ⟨?_, ?_⟩
              ·first | (simp only [hst, hlr]; first | omega | assumption | done) | (simp only [hst, hlr]; done)
              refine ⟨?_, ?_⟩
              ·first | (simp only [hst, hlr]; first | omega | assumption | done) | (simp only [hst, hlr]; done)
              refine ⟨?_, ?_⟩
              ·first | (simp only [hst, hlr]; first | omega | assumption | done) | (simp only [hst, hlr]; done)
              refine ⟨?_, ?_⟩
              ·first | (simp only [hst, hlr]; first | omega | assumption | done) | (simp only [hst, hlr]; done)
              refine ⟨?_, ?_⟩
              ·rw [hst, Zgv h803]; rw [hM, ZdK] at h804; exact h804
              refine ⟨?_, ?_⟩
              ·rw [hst]; exact h54
              refine ⟨?_, ?_⟩
              ·rw [hst]; exact h55
              refine ⟨?_, ?_⟩
              ·rw [hst, hM]; rfl
              refine ⟨?_, ?_⟩
              ·rw [hst]
              refine ⟨?_, ?_⟩
              ·rw [hst, Zgv h803]
              refine ⟨?_, ?_⟩
              ·rw [hst]; exact congrArg U.amap (Zn3 h803 (by rw [List.map_map]; rfl))
              refine ⟨?_, ?_⟩
              ·first | (simp only [hst, hlr]; first | omega | assumption | done) | (simp only [hst, hlr]; done)
              refine ⟨?_, ?_⟩
              ·first | (simp only [hst, hlr]; first | omega | assumption | done) | (simp only [hst, hlr]; done)
              trivial
             ·skip
              intro v828
              intro h829
              have hjk0 := h805.2 _ h829
              have hAk := ZbI (w := v828) h58.1 0
              obtain ⟨j, hjd⟩ : ∃ j, ixL v828 B.txs = j := ⟨_, rfl⟩
              rw [hjd] at hAk
              have hjl : j < B.txs.length := by rw [hAk.2] at hjk0; simpa using hjk0
              have hR22 : v797.length = v37.length := by have := congrArg List.length h803; simpa using this
              have hjR : j < v797.length := by have := h58.1; omega
              have hg0 : g0 (v797.getD j []) = g0 (v37.getD j []) := by rw [<- Zc0 g0 v797, <- Zc0 g0 v37, h803]
              have hmk : YB 0 (ZeQ v37 B.txs) v828 = g0 (v797.getD j []) := by rw [hAk.1, if_pos hjl, hg0]
              have hrj := ZaP (R := v797) (by rw [h803]; exact h58.2.1) hjR
              have hwj : (B.txs.getD j tx0).who = v828 := by have := ZaN (w := v828) (L := B.txs) (by omega); rw [hjd] at this; exact this
              have hgj : (Zcf B.txs v795).getD j tx0 = B.txs.getD j tx0 := by rw [Zd4 _ _ hjl, hwj, if_pos h829]
              have hsl := Zeb B.txs v795
              simp only [hmk, hrj, ZPY, ZcA]
              refine ⟨?_, ?_⟩
              ·exact ⟨j, hjR, rfl⟩
              intro h831
              intro h832
              intro h833
              intro h834
              intro h835
              intro h836
              intro h837
              intro h838
              intro h839
              refine ⟨?_, ?_⟩
              ·first | omega | trivial | (with_reducible assumption)
              refine ⟨?_, ?_⟩
              ·skip
               intro h842
               rw [hgj] at h842
               intro h843
               intro h844
               intro h845
               intro h846
               intro h847
               intro h848
               intro h849
               intro h850
               intro h851
               refine ⟨?_, ?_⟩
               ·first | omega | trivial | (with_reducible assumption)
               refine ⟨?_, ?_⟩
               ·first | omega | trivial | (with_reducible assumption)
               refine ⟨?_, ?_⟩
               ·first | omega | trivial | (with_reducible assumption)
               refine ⟨?_, ?_⟩
               ·first | omega | trivial | (with_reducible assumption)
               intro v856
               intro h857
               refine ⟨?_, ?_⟩
               ·first | omega | trivial | (with_reducible assumption)
               refine ⟨?_, ?_⟩
               ·first | omega | trivial | (with_reducible assumption)
               intro v860
               intro v861
               intro h862
               intro h863
               refine ⟨?_, ?_⟩
               ·have := Zdk h829; omega
               refine ⟨?_, ?_⟩
               ·rw [ZfQ hjR]; exact (YA (f := g0) (d := []) (x := g0 (v797.getD j []) :: _) rfl hjR).trans h803
               refine ⟨?_, ?_⟩
               ·refine (h804.append_right _).trans ?_
                rw [hg0, <- Zef]
                exact Zei (Zmq h805.1 hw.nd hjd hjl h829 h842)
               refine ⟨?_, ?_⟩
               ·exact ⟨Zbz h805.1 _, fun q hq => h805.2 q (by rw [ZaD h805.1] at hq; simp only [Bool.and_eq_true] at hq; exact hq.2)⟩
               refine ⟨?_, ?_⟩
               ·rw [Zfr (by rw [hsl]; exact hjl), Zg5 h805.1 hw.nd hjd hjl h829, hgj]; rfl
               trivial
              ·skip
               intro h871
               rw [hgj] at h871
               refine ⟨?_, ?_⟩
               ·have := Zdk h829; omega
               refine ⟨?_, ?_⟩
               ·exact h804.trans (Zei (Zid h805.1 hw.nd hjd hjl h871))
               refine ⟨?_, ?_⟩
               ·exact ⟨Zbz h805.1 _, fun q hq => h805.2 q (by rw [ZaD h805.1] at hq; simp only [Bool.and_eq_true] at hq; exact hq.2)⟩
               refine ⟨?_, ?_⟩
               ·exact congrArg (fun q => U.g (GG.tx q)) (Zik h805.1 hw.nd hjd hjl h829 (by rw [hgj]; exact h871))
               trivial
            ·skip
             intro h878
             have hst := hsu.trans (st0 hj ⟨h664, h710, h729, h744, h786, h759, h878⟩)
             refine ⟨?_, ?_⟩
             ·omega
             refine ⟨?_, ?_⟩
             ·omega
             refine ⟨?_, ?_⟩
             ·omega
             refine ⟨?_, ?_⟩
             ·omega
             refine ⟨?_, ?_⟩
             ·omega
             refine ⟨?_, ?_⟩
             ·first | (simp only [hst, hlr, ZPW, ZPF]; first | omega | assumption | done) | (simp only [hst, hlr, ZPW, ZPF]; done)
             refine ⟨?_, ?_⟩
             ·first | (simp only [hst, hlr, ZPW, ZPF]; first | omega | assumption | done) | (simp only [hst, hlr, ZPW, ZPF]; done)
             refine ⟨?_, ?_⟩
             ·first | (simp only [hst, hlr, ZPW, ZPF]; first | omega | assumption | done) | (simp only [hst, hlr, ZPW, ZPF]; done)
             refine ⟨?_, ?_⟩
             ·first | (simp only [hst, hlr, ZPW, ZPF]; first | omega | assumption | done) | (simp only [hst, hlr, ZPW, ZPF]; done)
             refine ⟨?_, ?_⟩
             ·first | (rw [hst]; exact h53)
             refine ⟨?_, ?_⟩
             ·first | (rw [hst]; exact h54)
             refine ⟨?_, ?_⟩
             ·first | (rw [hst]; exact h55)
             refine ⟨?_, ?_⟩
             ·first | (rw [hst]; done) | (rw [hst]; rfl)
             refine ⟨?_, ?_⟩
             ·first | (rw [hst]; done) | (rw [hst]; rfl)
             refine ⟨?_, ?_⟩
             ·first | (rw [hst]; done) | (rw [hst]; rfl)
             refine ⟨?_, ?_⟩
             ·first | (rw [hst, Y6 hJR hJl hwho]; done) | (rw [hst]; done)
             refine ⟨?_, ?_⟩
             ·first | (simp only [hst, hlr, ZPW, ZPF]; first | omega | assumption | done) | (simp only [hst, hlr, ZPW, ZPF]; done)
             refine ⟨?_, ?_⟩
             ·first | (simp only [hst, hlr, ZPW, ZPF]; first | omega | assumption | done) | (simp only [hst, hlr, ZPW, ZPF]; done)
             trivial
   ·skip
    intro h899
    have hF : Z7 X X.length = B := by rw [show X.length = n by omega]; exact hB
    refine ⟨?_, ?_⟩
    ·first | (with_reducible rfl) | (with_reducible exact hck.symm) | (rw [hF]; done) | (rw [hF]; with_reducible exact h54.symm) | (rw [hF]; with_reducible exact h55.symm) | (rw [hF]; rfl) | (rw [Za.2 h22]; rfl) | trivial
    refine ⟨?_, ?_⟩
    ·first | (with_reducible rfl) | (with_reducible exact hck.symm) | (rw [hF]; done) | (rw [hF]; with_reducible exact h54.symm) | (rw [hF]; with_reducible exact h55.symm) | (rw [hF]; rfl) | (rw [Za.2 h22]; rfl) | trivial
    refine ⟨?_, ?_⟩
    ·first | (with_reducible rfl) | (with_reducible exact hck.symm) | (rw [hF]; done) | (rw [hF]; with_reducible exact h54.symm) | (rw [hF]; with_reducible exact h55.symm) | (rw [hF]; rfl) | (rw [Za.2 h22]; rfl) | trivial
    refine ⟨?_, ?_⟩
    ·first | (with_reducible rfl) | (with_reducible exact hck.symm) | (rw [hF]; done) | (rw [hF]; with_reducible exact h54.symm) | (rw [hF]; with_reducible exact h55.symm) | (rw [hF]; rfl) | (rw [Za.2 h22]; rfl) | trivial
    refine ⟨?_, ?_⟩
    ·first | (with_reducible rfl) | (with_reducible exact hck.symm) | (rw [hF]; done) | (rw [hF]; with_reducible exact h54.symm) | (rw [hF]; with_reducible exact h55.symm) | (rw [hF]; rfl) | (rw [Za.2 h22]; rfl) | trivial
    refine ⟨?_, ?_⟩
    ·first | (with_reducible rfl) | (with_reducible exact hck.symm) | (rw [hF]; done) | (rw [hF]; with_reducible exact h54.symm) | (rw [hF]; with_reducible exact h55.symm) | (rw [hF]; rfl) | (rw [Za.2 h22]; rfl) | trivial
    refine ⟨?_, ?_⟩
    ·first | (with_reducible rfl) | (with_reducible exact hck.symm) | (rw [hF]; done) | (rw [hF]; with_reducible exact h54.symm) | (rw [hF]; with_reducible exact h55.symm) | (rw [hF]; rfl) | (rw [Za.2 h22]; rfl) | trivial
    refine ⟨?_, ?_⟩
    ·first | (with_reducible rfl) | (with_reducible exact hck.symm) | (rw [hF]; done) | (rw [hF]; with_reducible exact h54.symm) | (rw [hF]; with_reducible exact h55.symm) | (rw [hF]; rfl) | (rw [Za.2 h22]; rfl) | trivial
    refine ⟨?_, ?_⟩
    ·first | (with_reducible rfl) | (with_reducible exact hck.symm) | (rw [hF]; done) | (rw [hF]; with_reducible exact h54.symm) | (rw [hF]; with_reducible exact h55.symm) | (rw [hF]; rfl) | (rw [Za.2 h22]; rfl) | trivial
    refine ⟨?_, ?_⟩
    ·first | (with_reducible rfl) | (with_reducible exact hck.symm) | (rw [hF]; done) | (rw [hF]; with_reducible exact h54.symm) | (rw [hF]; with_reducible exact h55.symm) | (rw [hF]; rfl) | (rw [Za.2 h22]; rfl) | trivial
    trivial
/-! ### Plain words -/
def Zd6 (s : Int × Int) (i r : Int) : Int × Int := if i < s.1 then (i, r) else s
def ZmU (l : List Int) : Int × Int := (l.getD 0 0, l.getD 1 0)
def ZGF (s : Int × Int) (l : List Int) : Nat -> Int × Int
 | 0 => s
 | j + 1 => Zd6 (ZGF s l j) (l.getD j 0) 3
def YC (F : Int -> Int -> Prop) (n : Int) (s : Int × Int) : Prop := (s = (n, 0) /\ ∀ i r, ¬ F i r) \/ (s.2 ≠ 0 /\ F s.1 s.2 /\ ∀ i r, F i r -> s.1 <= i)
def ZCy (B : Bk) (left : List (Int × Int)) (i r : Int) : Prop := r = 3 /\ ∃ t ∈ B.txs, Zx left t.who = false /\ i ∈ t.bad
def ZnN (B : Bk) (left : List (Int × Int)) : List Ent := B.out ++ (B.txs.filter fun t => !Zx left t.who && decide (t.com < 0)).flatMap (·.rds)
def SrtP (x y : List (List Int)) : Prop := y.Perm x /\ y.Pairwise fun a b => g0 a <= g0 b
def stF (B : Bk) : Nat -> Int -> Bool × (List UInt8 × Bool)
 | 0, _ => (false, vw 0)
 | k + 1, q => if Zx (B.txs.getD (B.kept.getD k 0) tx0).ch q = true then (true, vw (YB 0 (B.txs.getD (B.kept.getD k 0) tx0).ch q)) else stF B k q
def Zhs (m : List (Int × Int)) (f : Int -> Bool × (List UInt8 × Bool)) : Prop := ∀ q, Zx m q = (f q).1 /\ vw (YB 0 m q) = (f q).2
def Z2 (f : Int -> Bool × (List UInt8 × Bool)) (r : Ent) : Bool := (Zcb r == ((f (kc r)).1 && (f (kc r)).2.2)) && (!Zcb r || Zao r == (f (kc r)).2.1)
def Ztz (f : Ent -> Bool) (L : List (List Int)) (place : Int) : Nat -> Nat -> Int × Int -> Nat × (Int × Int)
 | 0, p, s => (p, s)
 | n + 1, p, s => if p < L.length /\ g0 (L.getD p []) < place then Ztz f L place n (p + 1) (if f ((L.getD p []).drop 1) = true then s else Zd6 s (g0 (L.getD p [])) 4) else (p, s)
def Zfw (f : Ent -> Bool) (L : List (List Int)) (place : Int) (p : Nat) (s : Int × Int) : Nat × (Int × Int) := Ztz f L place (L.length - p) p s
def Zke (f : Ent -> Bool) (s : Int × Int) (l : List (List Int)) : Nat -> Int × Int
 | 0 => s
 | j + 1 => if f ((l.getD j []).drop 1) = true then Zke f s l j else Zd6 (Zke f s l j) (g0 (l.getD j [])) 4
def YW (B : Bk) (L : List (List Int)) (s : Int × Int) : Nat -> Nat × (Int × Int)
 | 0 => (0, s)
 | k + 1 =>
  let e := Zfw (Z2 (stF B k)) L (B.txs.getD (B.kept.getD k 0) tx0).com (YW B L s k).1 (YW B L s k).2
  (e.1, Zke (Z2 (stF B k)) e.2 (B.txs.getD (B.kept.getD k 0) tx0).rds (B.txs.getD (B.kept.getD k 0) tx0).rds.length)
theorem ZnF {m : List (Int × Int)} {f : Int -> Bool × (List UInt8 × Bool)} (h : Zhs m f) (r : Ent) : Z3 m r = Z2 f r := by
 obtain ⟨h1, h2⟩ := h (kc r)
 have a := congrArg Prod.fst h2
 have b := congrArg Prod.snd h2
 have a : Yc ((YB 0 m (kc r)).tdiv 2).toNat = (f (kc r)).2.1 := a
 have b : decide ((YB 0 m (kc r)).tmod 2 = 0) = (f (kc r)).2.2 := b
 unfold Z3 Z2
 rw [h1, a, b]
theorem ZAz {f : Ent -> Bool} {L : List (List Int)} {place : Int} {p : Nat} (s : Int × Int) (h : p < L.length) (h2 : g0 (L.getD p []) < place) :
  Zfw f L place p s = Zfw f L place (p + 1) (if f ((L.getD p []).drop 1) = true then s else Zd6 s (g0 (L.getD p [])) 4) := by
 unfold Zfw
 rw [show L.length - p = (L.length - (p + 1)) + 1 by omega]
 show (if _ then _ else _) = _
 rw [if_pos ⟨h, h2⟩]
theorem ZAL {f : Ent -> Bool} {L : List (List Int)} {place : Int} {p : Nat} (s : Int × Int) (h : ¬ (p < L.length /\ g0 (L.getD p []) < place)) : Zfw f L place p s = (p, s) := by
 unfold Zfw
 cases L.length - p with
 | zero => rfl
 | succ n => show (if _ then _ else _) = _; rw [if_neg h]
theorem Zqv {B : Bk} {k : Nat} {m c m' : List (Int × Int)} (h : Zhs m (stF B k)) (hc : c = (B.txs.getD (B.kept.getD k 0) tx0).ch) (hl : ZwI m c m') : Zhs m' (stF B (k + 1)) := by
 intro q
 obtain ⟨a, b⟩ := hl q
 obtain ⟨c1, c2⟩ := h q
 subst hc
 show _ = (if _ then _ else _ : Bool × (List UInt8 × Bool)).1 /\ _ = (if _ then _ else _ : Bool × (List UInt8 × Bool)).2
 rw [a, b]
 by_cases hq : Zx (B.txs.getD (B.kept.getD k 0) tx0).ch q = true
 ·rw [if_pos hq, if_pos hq, hq]; exact ⟨by simp, rfl⟩
 ·rw [if_neg hq, if_neg hq, c1, c2, show Zx (B.txs.getD (B.kept.getD k 0) tx0).ch q = false by simpa using hq]; exact ⟨by simp, rfl⟩
def ZkM (x : List Ent) : Bk := Z7 x x.length
def ZJW (a : List (List Int)) (m : List (Int × Int)) (l : List Int) : Nat × (Int × Int) := Zfw (Z3 m) a (l.getD 3 0) (l.getD 0 0).toNat (l.getD 1 0, l.getD 2 0)
theorem Zvp (L : List (List Int)) (m : List (Int × Int)) (k a w pl : Int) : ZJW L m [k, a, w, pl] = Zfw (Z3 m) L pl k.toNat (a, w) := rfl
theorem Zkb (r : List Int) : [r.getD 1 0, r.getD 2 0, ((Zr (Yc (r.getD 3 0).toNat) : Nat) : Int), ((Zr (Yc (r.getD 4 0).toNat) : Nat) : Int), b01 (!r.getD 5 0 == 0), r.getD 6 0] = nr (r.drop 1) := by cases r <;> rfl
structure JsSig (S : Sig GG) : Prop where
 jt : JtSig S
 u580 : ∀ a b c d, S.usr 580 a b c d = .bool (Zn (SrtP a.tR b.tR))
 u582 : ∀ a b c d, S.usr 582 a b c d = .int (Zd6 (a.tI, b.tI) c.tI d.tI).1
 u583 : ∀ a b c d, S.usr 583 a b c d = .int (Zd6 (a.tI, b.tI) c.tI d.tI).2
 u584 : ∀ a b c d, S.usr 584 a b c d = .int (ZGF (ZmU a.tN) b.tN c.tI.toNat).1
 u585 : ∀ a b c d, S.usr 585 a b c d = .int (ZGF (ZmU a.tN) b.tN c.tI.toNat).2
 u586 : ∀ a b c d, S.usr 586 a b c d = .bool (Zn (YC (ZCy (ZkM a.tR) b.tM) d.tI (ZmU c.tN)))
 u587 : ∀ a b c d, S.usr 587 a b c d = .bool (Zn (c.tR.Perm (ZnN (ZkM a.tR) b.tM)))
 u590 : ∀ a b c d, S.usr 590 a b c d = .int ((ZJW a.tR b.tM c.tN).1 : Nat)
 u591 : ∀ a b c d, S.usr 591 a b c d = .int (ZJW a.tR b.tM c.tN).2.1
 u592 : ∀ a b c d, S.usr 592 a b c d = .int (ZJW a.tR b.tM c.tN).2.2
 u593 : ∀ a b c d, S.usr 593 a b c d = .int ((YW (ZkM a.tR) b.tR (ZmU c.tN) d.tI.toNat).1 : Nat)
 u594 : ∀ a b c d, S.usr 594 a b c d = .int (YW (ZkM a.tR) b.tR (ZmU c.tN) d.tI.toNat).2.1
 u595 : ∀ a b c d, S.usr 595 a b c d = .int (YW (ZkM a.tR) b.tR (ZmU c.tN) d.tI.toNat).2.2
 u596 : ∀ a b c d, S.usr 596 a b c d = .bool (Zn (Zhs c.tM (stF (ZkM a.tR) b.tI.toNat)))
 u597 : ∀ a b c d, S.usr 597 a b c d = .int (Zke (Z3 d.tM) (ZmU a.tN) b.tR c.tI.toNat).1
 u598 : ∀ a b c d, S.usr 598 a b c d = .int (Zke (Z3 d.tM) (ZmU a.tN) b.tR c.tI.toNat).2
theorem JsSig.of {S T : Sig GG} (h : JsSig S) (hu : T.usr = S.usr) (hp : T.prd = S.prd) : JsSig T := by
 constructor
 ·exact h.jt.of hu hp
 all_goals (rw [hu]; first | exact h.u580 | exact h.u582 | exact h.u583 | exact h.u584 | exact h.u585 | exact h.u586 | exact h.u587 | exact h.u590 | exact h.u591 | exact h.u592 | exact h.u593 | exact h.u594 | exact h.u595 | exact h.u596 | exact h.u597 | exact h.u598)
/-! ### Contracts -/
def srtX (x y : SX) : SX := usB 580 x y z0
def ZcE : Ctr := ⟨[.int, .rows, .int, .int, .int], [.one (.slice (ai 0) z0 z0 z0 (ai 2) (ai 3) 7), .one (.fn 45)], [rAr (ai 0) (rA 1) (ai 4)],
 [eLe z0 (ai 2), .f2 45 (ai 2) (Zh (rA 1)), eLe (ai 2) (ai 3), eLe (ai 2) (.int 140737488355328)], [.rows], .tup [], [rAr (ai 0) (rA 5) (ai 4)], [.f2 45 (Zh (rA 5)) (Zh (rA 1)), srtX (rA 1) (rA 5)]⟩
def Zwy : Ctr := ⟨[.int, .int, .int, .rows, .int], [.one (slC (ai 0) (ai 1) (ai 2) 7)], [rAr (ai 0) (rA 3) (ai 4)], [.f2 45 (ai 1) (Zh (rA 3)), eLe (ai 1) (ai 2), eLe (ai 1) mil, .f2 50 (eLe z0 (ai 0)) (.f2 45 (ai 1) z0)], [.int, .int], .one (slC (ai 5) (ai 1) (ai 6) 7),
 [rAr (ai 0) (rA 3) (ai 4), rAr (ai 5) (rA 3) (ai 6)], [eLe (ai 1) (ai 6), .f2 50 (eLe z0 (ai 5)) (.f2 45 (ai 1) z0)]⟩
def ZLr : Cx := { specs := [], anns := [(43, [(999999, .ghost ZK8 [])])] }
def Zzx : Ctr := ⟨[.int, .int, .int, .int, .int, .int], [.one (.int .i64 (ai 0)), .one (.int .i64 (ai 1)), .one (.ptr (ai 2) 0), .one (.ptr (ai 3) 0)], [.cel (ai 2) 0 [.int .i64 (ai 4)], .cel (ai 3) 0 [.int .i64 (ai 5)]], [], [], .tup [],
 [.cel (ai 2) 0 [.int .i64 (.us .int 582 (ai 4) (ai 5) (ai 0) (ai 1))], .cel (ai 3) 0 [.int .i64 (.us .int 583 (ai 4) (ai 5) (ai 0) (ai 1))]], []⟩
def ZPD : Cx := { specs := [], anns := [] }
def notS : List (Nat × List Ctr) := [(42, [Zzx])]
def clN (a b : SX) : SC := .cap (.cap (.fn 42) (.ptr a 0)) (.ptr b 0)
def endI : Inv := ⟨[.int, .int, .int, .int, .int, .int], [], [.cel (ai 1) 0 [.slice (ai 6) z0 (di 0) (di 1) (di 2) (di 3) 7], .cel (ai 4) 0 [.int .i64 (di 4)], .cel (ai 5) 0 [.int .i64 (di 5)]],
 [eLe z0 (di 0), eLe z0 (di 2), .f2 45 (.f2 40 (di 0) (di 2)) (Zh (rA 11)), eLe (di 2) (di 3)] ++
 [590, 591, 592].map fun k => .f2 45 (usI k (rA 11) (mA 14) (Zc7 (di 0) (di 4) (di 5) (ai 0))) (usI k (rA 11) (mA 14) (Zc7 (ai 7) (ai 15) (ai 16) (ai 0))), di 2⟩
def Zt4 : Ctr := ⟨[.int, .int, .int, .int, .int, .int, .int, .int, .int, .int, .int, .rows, .int, .int, .amap, .int, .int], [.one (.int .i64 (ai 0)), .one (.ptr (ai 1) 0), .one (.ptr (ai 2) 0), .one (.ptr (ai 3) 0)],
 [.cel (ai 1) 0 [.slice (ai 6) z0 (ai 7) (ai 8) (ai 9) (ai 10) 7], rAr (ai 6) (rA 11) (ai 12), .cel (ai 2) 0 [.map (ai 13)], scC (ai 13) (mA 14), .cel (ai 3) 0 [clN (ai 4) (ai 5)], .cel (ai 4) 0 [.int .i64 (ai 15)], .cel (ai 5) 0 [.int .i64 (ai 16)]],
 [eLe z0 (ai 7), eLe z0 (ai 9), .f2 45 (.f2 40 (ai 7) (ai 9)) (Zh (rA 11)), eLe (ai 9) (ai 10), eLe (Zh (rA 11)) mil, eLe z0 (ai 13), .f2 50 (eLe z0 (ai 6)) (.f2 45 (ai 9) z0)], [.int, .int, .int], .tup [],
 [.cel (ai 1) 0 [.slice (ai 6) z0 (usI 590 (rA 11) (mA 14) (Zc7 (ai 7) (ai 15) (ai 16) (ai 0))) (ai 17) (ai 18) (ai 19) 7], rAr (ai 6) (rA 11) (ai 12), .cel (ai 2) 0 [.map (ai 13)], scC (ai 13) (mA 14), .cel (ai 3) 0 [clN (ai 4) (ai 5)],
  .cel (ai 4) 0 [.int .i64 (usI 591 (rA 11) (mA 14) (Zc7 (ai 7) (ai 15) (ai 16) (ai 0)))], .cel (ai 5) 0 [.int .i64 (usI 592 (rA 11) (mA 14) (Zc7 (ai 7) (ai 15) (ai 16) (ai 0)))]],
 [eLe z0 (ai 18), eLe (ai 18) (ai 19), .f2 45 (.f2 40 (usI 590 (rA 11) (mA 14) (Zc7 (ai 7) (ai 15) (ai 16) (ai 0))) (ai 18)) (Zh (rA 11))]⟩
def ZLe : Cx := { specs := notS ++ [(47, [ZiU])], anns := [(46, [(0, .inv endI)])] }
def ZIK : SX := l z (a 0)
def Zz5 : SX := e (a 1) z
def ZMC : VC := i (e (a 1) (.f1 32 (r 3))) (i (l (a 1) (a 2)) (i (l (a 1) (k 1000000)) (i (.f2 50 ZIK Zz5) (.and (i (t (a 0) z) (n (l (a 1) z) (n (.f2 50 (.bool false) Zz5) (n (.f2 155 (r 3) (.f1 154 z)) (n Zz5 .tt))))) (i ZIK (u 5 .int (i (l z (a 5)) (n (l (.f2 42 (a 1) (k 72)) k1) (n (l z (a 1)) (n (l (a 1) (.f1 32 (r 3))) (u 6 .int (u 7 .int (i (l (a 1) (a 7)) (i (.f2 50 (l z (a 6)) Zz5) (n (.f2 155 (r 3) (.f2 115 (r 3) (a 1))) .tt)))))))))))))))
theorem ZLR : YV Tryz.prog ZLr 12 43 Zwy = ZMC := by kernel_rfl
def ZGl : SX := .us .int 583 (a 4) (a 5) (a 0) (a 1)
def ZHB : SX := .us .int 582 (a 4) (a 5) (a 0) (a 1)
def ZMx : VC := .and (i (t (a 0) (a 4)) (n (e ZGl (a 1)) (n (e ZHB (a 0)) .tt))) (i (l (a 4) (a 0)) (n (e ZGl (a 5)) (n (e ZHB (a 4)) .tt)))
theorem ZOr : YV Tryz.prog ZPD 12 42 Zzx = ZMx := by kernel_rfl
def ZEt : SX := .f2 122 (a 0) (.f1 152 z)
def ZDd : SX := .f2 122 (a 7) (.f2 122 (a 15) (.f2 122 (a 16) ZEt))
def Zla : SX := x 590 (r 11) (m 14) ZDd
def ZoD : SX := x 591 (r 11) (m 14) ZDd
def Zo8 : SX := x 592 (r 11) (m 14) ZDd
def ZII : SX := .f2 122 (a 21) (.f2 122 (a 22) ZEt)
def ZDz : SX := .f2 122 (a 17) ZII
def Zz0 : SX := .f3 112 (r 11) (a 17) z
def ZIs : SX := l z (a 20)
def ZKt : SX := l (k 1) (a 19)
def ZkR : SX := .f2 40 (a 19) (k (-1))
def Zx8 : SX := t ZkR (a 19)
def ZqY : SX := .f2 40 (a 17) (k 1)
def Zuc : SX := l z ZqY
def ZuQ : SX := l z ZkR
def ZAC : SX := e (.f2 40 (.f2 40 (a 17) ZkR) (k 1)) (.f1 32 (r 11))
def Zzi : SX := l ZkR (.f2 40 (a 20) (k (-1)))
def ZrA : SX := .f2 122 ZqY (.f2 122 (.us .int 582 (a 21) (a 22) Zz0 (k 4)) (.f2 122 (.us .int 583 (a 21) (a 22) Zz0 (k 4)) ZEt))
def ZpJ : SX := .f2 122 ZqY ZII
def Zvc : SX := e (.f2 40 Zla (a 19)) (.f1 32 (r 11))
def ZBm : SX := e Zo8 (a 22)
def Zz2 : SX := e ZoD (a 21)
def Zyg : SX := e Zla (a 17)
def ZOx : VC := i (l z (a 7)) (i (l z (a 9)) (i (e (.f2 40 (a 7) (a 9)) (.f1 32 (r 11))) (i (l (a 9) (a 10)) (i (l (.f1 32 (r 11)) (k 1000000)) (i (l z (a 13)) (i (.f2 50 (l z (a 6)) (e (a 9) z)) (n (e Zla Zla) (n (e ZoD ZoD) (n (e Zo8 Zo8) (u 17 .int (u 18 .int (u 19 .int (u 20 .int (u 21 .int (u 22 .int (i (l z (a 17)) (i (l z (a 19)) (i (e (.f2 40 (a 17) (a 19)) (.f1 32 (r 11))) (i (l (a 19) (a 20)) (i (e (x 590 (r 11) (m 14) ZDz) Zla) (i (e (x 591 (r 11) (m 14) ZDz) ZoD) (i (e (x 592 (r 11) (m 14) ZDz) Zo8) (.and (i (t z (a 19)) (n (t (a 17) (.f1 32 (r 11))) (n (t z (a 20)) (.and (i (t Zz0 (a 0)) (u 23 .bool (i (.f2 48 (q 23) (c 530 (m 14) (.f2 122 (.f3 112 (r 11) (a 17) (k 1)) (.f2 122 (.f3 112 (r 11) (a 17) (k 2)) (.f2 122 (.f1 35 (.f1 36 (.f3 112 (r 11) (a 17) (k 3)))) (.f2 122 (.f1 35 (.f1 36 (.f3 112 (r 11) (a 17) (k 4)))) (.f2 122 (.f1 3 (.f1 2 (e (.f3 112 (r 11) (a 17) (k 5)) z))) (.f2 122 (.f3 112 (r 11) (a 17) (k 6)) (.f1 152 z))))))))) (.and (i (.f1 2 (q 23)) (n ZIs (n ZKt (n Zx8 (n Zuc (n ZuQ (n ZAC (n Zzi (n (e (x 590 (r 11) (m 14) ZrA) Zla) (n (e (x 591 (r 11) (m 14) ZrA) ZoD) (n (e (x 592 (r 11) (m 14) ZrA) Zo8) .tt))))))))))) (i (.f1 2 (.f1 2 (q 23))) (n ZIs (n ZKt (n Zx8 (n Zuc (n ZuQ (n ZAC (n Zzi (n (e (x 590 (r 11) (m 14) ZpJ) Zla) (n (e (x 591 (r 11) (m 14) ZpJ) ZoD) (n (e (x 592 (r 11) (m 14) ZpJ) Zo8) .tt))))))))))))))) (i (l (a 0) Zz0) (n Zvc (n ZBm (n Zz2 (n Zyg .tt))))))))) (i (l (a 19) z) (n Zvc (n ZBm (n Zz2 (n Zyg .tt))))))))))))))))))))))))))))
theorem ZOj : YV Tryz.prog ZLe 12 46 Zt4 = ZOx := by kernel_rfl
theorem ZLk (S : Sig GG) (hS : JsSig S) : ZA S Tryz.prog 43 Zwy := by
 refine Zg S (C := ZLr) (fuel := 12) (ZU trivial ⟨⟨⟨by decide, ZFA S⟩, trivial⟩, trivial⟩ trivial) fun ρ => ?_
 rw [ZLR]
 simp only [ZMC, ZIK, Zz5, ZQ, ZPY, VC.den, SX.den, Env.upd, ZX, ZE, beq_iff_eq, ZPQ, beq_eq_false_iff_ne, ne_eq, ZPP, ZPO, Int.reduceToNat, Nat.reduceEqDiff, reduceIte, sB, sC]
 generalize (ρ 3).tR = R
 intro h1 h2 h3 h4
 refine ⟨fun h => ⟨by omega, .inr (by omega), ?_, by omega, trivial⟩, fun h i5 h5 => ⟨by omega, by omega, by omega, fun i6 i7 h6 h7 => ⟨?_, trivial⟩⟩⟩
 ·exact ZP6 (by omega)
 ·rw [h1]; simp
theorem ZFU (S : Sig GG) (hS : JsSig S) : ZA S Tryz.prog 42 Zzx := by
 refine Zg S (C := ZPD) (fuel := 12) (ZU trivial trivial trivial) fun ρ => ?_
 rw [ZOr]
 simp only [ZMx, ZGl, ZHB, hS.u582, hS.u583, ZQ, ZPY, VC.den, SX.den, Env.upd, ZX, ZE, beq_iff_eq, ZPQ, beq_eq_false_iff_ne, ne_eq, ZPP, ZPO, Int.reduceToNat, Nat.reduceEqDiff, reduceIte, sB, sC]
 refine ⟨fun h => ?_, fun h => ?_⟩
 ·rw [show Zd6 ((ρ 4).tI, (ρ 5).tI) (ρ 0).tI (ρ 1).tI = ((ρ 0).tI, (ρ 1).tI) from if_pos h]; exact ⟨rfl, rfl, trivial⟩
 ·rw [show Zd6 ((ρ 4).tI, (ρ 5).tI) (ρ 0).tI (ρ 1).tI = ((ρ 4).tI, (ρ 5).tI) from if_neg (by show ¬ (ρ 0).tI < (ρ 4).tI; omega)]; exact ⟨rfl, rfl, trivial⟩
theorem ZMB (S : Sig GG) (hS : JsSig S) : ZA S Tryz.prog 46 Zt4 := by
 refine Zg S (C := ZLe) (fuel := 12) (ZU ⟨Zi (by decide) (ZFU S hS), Zi (by decide) (Zqi S hS.jt.jb), trivial⟩ ⟨⟨trivial, trivial⟩, trivial⟩ trivial) fun ρ => ?_
 rw [ZOj]
 simp only [ZOx, ZEt, ZDd, Zla, ZoD, Zo8, ZII, ZDz, Zz0, ZIs, ZKt, ZkR, Zx8, ZqY, Zuc, ZuQ, ZAC, Zzi, ZrA, ZpJ, Zvc, ZBm, Zz2, Zyg, hS.jt.jb.u530, hS.u582, hS.u583, hS.u590, hS.u591, hS.u592, ZQ, ZPY, VC.den, SX.den, Env.upd, ZX, ZE, beq_iff_eq, ZPQ, beq_eq_false_iff_ne, ne_eq, ZPP, ZPO, Int.reduceToNat, Nat.reduceEqDiff, reduceIte, sB, sC]
 simp only [Zvp, Zkb, Zf2]
 generalize (ρ 11).tR = L
 generalize (ρ 14).tM = m
 generalize (ρ 0).tI = pl
 generalize hs : Zfw (Z3 m) L pl (ρ 7).tI.toNat ((ρ 15).tI, (ρ 16).tI) = E0
 intro q1 q2 q3 q4 q5 q6 q7
 refine ⟨trivial, trivial, trivial, fun k z l c a w j1 j2 j3 j4 j5 j6 j7 => ?_⟩
 have stop : ¬ (k.toNat < L.length /\ g0 (L.getD k.toNat []) < pl) -> (E0.1 : Int) = k /\ E0.2.1 = a /\ E0.2.2 = w := fun h => by
  rw [ZAL _ h] at j5 j6 j7
  refine ⟨?_, j6.symm, j7.symm⟩
  rw [<- j5]; show ((k.toNat : Nat) : Int) = k; omega
 refine ⟨fun hl => ⟨by omega, by omega, fun hp b hb => ?_, fun hp => ?_⟩, fun hl => ?_⟩
 ·have st := ZAz (f := Z3 m) (a, w) (show k.toNat < L.length by omega) hp
  have e1 : (k + 1).toNat = k.toNat + 1 := by omega
  rw [st] at j5 j6 j7
  rw [e1]
  rw [hb]
  refine ⟨fun hn => ?_, fun hn => ?_⟩
  ·have hn : ¬ Z3 m ((L.getD k.toNat []).drop 1) = true := by simpa using hn
   rw [if_neg hn] at j5 j6 j7
   exact ⟨by omega, by omega, by omega, by omega, by omega, by omega, by omega, j5, j6, j7, trivial⟩
  ·have hn : Z3 m ((L.getD k.toNat []).drop 1) = true := by simpa using hn
   rw [if_pos hn] at j5 j6 j7
   exact ⟨by omega, by omega, by omega, by omega, by omega, by omega, by omega, j5, j6, j7, trivial⟩
 ·obtain ⟨a1, a2, a3⟩ := stop fun h => absurd h.2 (by show ¬ (L.getD k.toNat []).getD 0 0 < pl; omega)
  exact ⟨by omega, a3, a2, a1, trivial⟩
 ·obtain ⟨a1, a2, a3⟩ := stop fun h => absurd h.1 (by omega)
  exact ⟨by omega, a3, a2, a1, trivial⟩
def ZhK (w : Int) (s : Tx) (i : Int) (r : Ent) : Tx :=
 if xk r = 7 then { s with opn := false }
 else if xw r = w then (if xk r = 1 then ⟨w, i, -1, true, [], [], []⟩ else if xk r = 2 then rdT s i r else if xk r = 3 \/ xk r = 4 then { s with ch := Yw s.ch (kc r) ((Zr (Zao r) : Nat) * 2 + b01 (xk r == 4)) }
  else if xk r = 6 then { s with opn := false } else if xk r = 5 then { s with opn := false, com := i } else s)
 else s
def txN (x : List Ent) (w : Int) : Nat -> Tx
 | 0 => { tx0 with who := w, com := -1 }
 | n + 1 => ZhK w (txN x w n) n (xa x n)
theorem Zbi (x : List Ent) (w : Int) (n : Nat) : txN x w (n + 1) = ZhK w (txN x w n) n (xa x n) := rfl
theorem ZeW (t : Tx) (i : Int) (x : Ent) : (rdT t i x).opn = t.opn /\ (rdT t i x).com = t.com /\ (rdT t i x).ch = t.ch /\ (rdT t i x).who = t.who /\ (rdT t i x).beg = t.beg := by
 unfold rdT
 split
 ·split
  ·exact ⟨rfl, rfl, rfl, rfl, rfl⟩
  ·exact ⟨rfl, rfl, rfl, rfl, rfl⟩
 ·exact ⟨rfl, rfl, rfl, rfl, rfl⟩
theorem ZFn (x : List Ent) (w : Int) : ∀ n, (txN x w n).who = w
 | 0 => rfl
 | n + 1 => by
  have ih := ZFn x w n
  rw [Zbi]
  unfold ZhK
  repeat' split
  all_goals first | exact ih | rfl | (rw [(ZeW _ _ _).2.2.2.1]; exact ih)
theorem ZvY (x : List Ent) (w : Int) : ∀ n, (txN x w n).opn = (Zbs x w n).1
 | 0 => rfl
 | n + 1 => by
  have ih := ZvY x w n
  rw [Zbi, ZcT]
  unfold ZhK
  by_cases h7 : xk (xa x n) = 7
  ·rw [if_pos h7, if_neg (by omega), if_neg (by omega)]
   by_cases ho : (Zbs x w n).1 = true
   ·rw [if_pos ⟨h7, ho⟩]
   ·rw [if_neg (fun h => ho h.2)]; simpa using ho
  ·rw [if_neg h7, if_neg (fun h : xk (xa x n) = 7 /\ _ => h7 h.1)]
   by_cases hw : xw (xa x n) = w
   ·rw [if_pos hw]
    by_cases h1 : xk (xa x n) = 1
    ·rw [if_pos h1, if_pos ⟨h1, hw⟩]
    ·rw [if_neg h1, if_neg (fun h : xk (xa x n) = 1 /\ _ => h1 h.1)]
     by_cases h2 : xk (xa x n) = 2
     ·rw [if_pos h2, (ZeW _ _ _).1, if_neg (by omega)]; exact ih
     ·rw [if_neg h2]
      by_cases h3 : xk (xa x n) = 3 \/ xk (xa x n) = 4
      ·rw [if_pos h3, if_neg (by omega)]; exact ih
      ·rw [if_neg h3]
       by_cases h6 : xk (xa x n) = 6
       ·rw [if_pos h6, if_pos ⟨.inr h6, hw⟩]
       ·rw [if_neg h6]
        by_cases h5 : xk (xa x n) = 5
        ·rw [if_pos h5, if_pos ⟨.inl h5, hw⟩]
        ·rw [if_neg h5, if_neg (by omega)]; exact ih
   ·rw [if_neg hw, if_neg (fun h : xk (xa x n) = 1 /\ _ => hw h.2), if_neg (fun h : _ /\ xw (xa x n) = w => hw h.2)]; exact ih
theorem Zyt {x : List Ent} {w : Int} : ∀ {n : Nat}, ¬ 0 <= Yl x 1 w n -> Zbs x w n = (false, -1)
 | 0, _ => rfl
 | n + 1, h => by
  rw [Yk] at h
  by_cases h0 : 0 <= Yl x 1 w n
  ·rw [if_pos h0] at h; exact absurd h0 h
  ·rw [if_neg h0] at h
   have ih := Zyt h0
   by_cases h1 : xk (xa x n) = 1 /\ xw (xa x n) = w
   ·rw [if_pos h1] at h; exact absurd (show (0 : Int) <= n by omega) h
   ·rw [ZcT, if_neg h1, ih]
    split
    ·rfl
    ·rw [if_neg (fun h => by cases h.2)]
def NF (x : List Ent) (n : Nat) : Prop := ¬ 0 <= (ZcO x n).1 /\ ∀ i < n, ZbL (xa x i) = true
theorem NF.pred {x : List Ent} {n : Nat} (h : NF x (n + 1)) : NF x n /\ Zm5 x n = false /\ Znc x n = false /\ ZbL (xa x n) = true := by
 obtain ⟨h1, h2⟩ := h
 rw [Zb2] at h1
 split at h1
 ·rename_i q; exact absurd q h1
 ·rename_i q
  split at h1
  ·exact absurd (show (0 : Int) <= n by omega) h1
  ·rename_i a
   split at h1
   ·exact absurd (show (0 : Int) <= n by omega) h1
   ·rename_i b
    exact ⟨⟨q, fun i hi => h2 i (by omega)⟩, by simpa using a, by simpa using b, h2 n (by omega)⟩
theorem NF.le {x : List Ent} {n : Nat} (h : NF x n) : ∀ {m : Nat}, m <= n -> NF x m := by
 induction n with
 | zero => intro m hm; rw [show m = 0 by omega]; exact h
 | succ n ih =>
  intro m hm
  rcases ZPL m (n + 1) with q | q
  ·exact ih h.pred.1 (by omega)
  ·rw [show m = n + 1 by omega]; exact h
theorem ZiY {x : List Ent} {w : Int} (hw : 0 < w) : ∀ {n : Nat}, NF x n -> ¬ 0 <= Yl x 1 w n -> Yl x 5 w n = -1 /\ (∀ k, YF x w k n = -1) /\ ∀ i < n, xw (xa x i) = w -> xk (xa x i) ≠ 2
 | 0, _, _ => ⟨rfl, fun _ => rfl, fun i hi => absurd hi (Nat.not_lt_zero i)⟩
 | n + 1, h, hb => by
  obtain ⟨hn, ho, _, _⟩ := h.pred
  rw [Yk] at hb
  by_cases h0 : 0 <= Yl x 1 w n
  ·rw [if_pos h0] at hb; exact absurd h0 hb
  ·rw [if_neg h0] at hb
   have h1 : ¬ (xk (xa x n) = 1 /\ xw (xa x n) = w) := fun q => by rw [if_pos q] at hb; exact hb (by omega)
   obtain ⟨i1, i2, i3⟩ := ZiY hw hn h0
   have hop := Zyt h0
   rw [ZgI] at ho
   have key : xw (xa x n) = w -> xk (xa x n) ≠ 2 /\ ¬ (xk (xa x n) = 3 \/ xk (xa x n) = 4) /\ xk (xa x n) ≠ 5 := fun hx => by
    rw [hx, hop] at ho
    refine ⟨fun h2 => ?_, fun h3 => ?_, fun h5 => ?_⟩
    ·rw [if_neg (by omega), if_pos h2] at ho; simp at ho; omega
    ·rw [if_neg (by omega), if_neg (by omega), if_pos (by omega)] at ho; simp at ho
    ·rw [if_neg (by omega), if_neg (by omega), if_neg (by omega), if_pos h5] at ho
     have : ZhL x (-1) n = false := by rw [Zhq]; rfl
     simp [this] at ho
   refine ⟨?_, fun k => ?_, fun i hi hx => ?_⟩
   ·rw [Yk, if_neg (by rw [i1]; omega), if_neg (fun q => (key q.2).2.2 q.1)]
   ·rw [ZbE, if_neg (fun q => (key q.2.1).2.1 q.1)]; exact i2 k
   ·rcases ZPL i n with q | q
    ·exact i3 i q hx
    ·rw [show i = n by omega] at hx ⊢
     exact (key hx).1
theorem Zgn {x : List Ent} {w : Int} (hw : 0 < w) : ∀ {n : Nat}, NF x n -> (txN x w n).com = Yl x 5 w n
 | 0, _ => rfl
 | n + 1, h => by
  obtain ⟨hn, ho, _, _⟩ := h.pred
  have ih := Zgn hw hn
  rw [Zbi, Yk]
  unfold ZhK
  rw [ZgI] at ho
  by_cases hx : xw (xa x n) = w
  ·by_cases h7 : xk (xa x n) = 7
   ·rw [if_pos h7, if_neg (by omega : ¬ (xk (xa x n) = 5 /\ _))]
    show (txN x w n).com = _
    rw [ih]; split
    ·rfl
    ·have := (Zcy x 5 w n).1; omega
   ·rw [if_neg h7, if_pos hx]
    by_cases h1 : xk (xa x n) = 1
    ·rw [if_pos h1] at ho ⊢
     rw [hx] at ho
     have hb : ¬ 0 <= Yl x 1 w n := by simpa using ho
     rw [(ZiY hw hn hb).1, if_neg (by omega), if_neg (by omega)]
    ·rw [if_neg h1]
     by_cases h5 : xk (xa x n) = 5
     ·rw [if_neg (by omega), if_neg (by omega), if_neg (by omega), if_pos h5]
      rw [if_neg h1, if_neg (by omega), if_neg (by omega), if_pos h5, hx] at ho
      have hb : ¬ 0 <= Yl x 5 w n := fun q => by simp [q] at ho
      rw [if_neg hb, if_pos ⟨h5, hx⟩]
     ·have e : (if 0 <= Yl x 5 w n then Yl x 5 w n else if xk (xa x n) = 5 /\ xw (xa x n) = w then (n : Int) else -1) = Yl x 5 w n := by
       split
       ·rfl
       ·rw [if_neg (fun q => h5 q.1)]; have := (Zcy x 5 w n).1; omega
      rw [e]
      repeat' split
      all_goals first | exact ih | (rw [(ZeW _ _ _).2.1]; exact ih) | omega
  ·have e : (if 0 <= Yl x 5 w n then Yl x 5 w n else if xk (xa x n) = 5 /\ xw (xa x n) = w then (n : Int) else -1) = Yl x 5 w n := by
    split
    ·rfl
    ·rw [if_neg (fun q => hx q.2)]; have := (Zcy x 5 w n).1; omega
   rw [e]
   by_cases h7 : xk (xa x n) = 7
   ·rw [if_pos h7]; exact ih
   ·rw [if_neg h7, if_neg hx]; exact ih
def chIs (x : List Ent) (w : Int) (m : List (Int × Int)) (n : Nat) : Prop :=
 ∀ k : List UInt8, Zx m (Zr k : Nat) = decide (0 <= YF x w k n) /\ (0 <= YF x w k n -> vw (YB 0 m (Zr k : Nat)) = (Zao (xa x (YF x w k n).toNat), decide (xk (xa x (YF x w k n).toNat) = 3)))
theorem encB_inj' {a b : List UInt8} (h : ((Zr a : Nat) : Int) = (Zr b : Nat)) : a = b := by
 have : Zr a = Zr b := by omega
 rw [<- Zm a, this, Zm]
theorem ZvV {x : List Ent} {w : Int} (hw : 0 < w) : ∀ {n : Nat}, NF x n -> chIs x w (txN x w n).ch n
 | 0, _ => fun k => ⟨rfl, fun h => absurd h (by show ¬ (0 : Int) <= -1; omega)⟩
 | n + 1, h => by
  obtain ⟨hn, ho, _, _⟩ := h.pred
  have ih := ZvV hw hn
  have same : ∀ {m : List (Int × Int)}, m = (txN x w n).ch -> ¬ ((xk (xa x n) = 3 \/ xk (xa x n) = 4) /\ xw (xa x n) = w) -> chIs x w m (n + 1) := fun hm hno k => by
   rw [hm, ZbE, if_neg (fun q => hno ⟨q.1, q.2.1⟩)]; exact ih k
  rw [Zbi]
  unfold ZhK
  by_cases h7 : xk (xa x n) = 7
  ·rw [if_pos h7]; exact same rfl (by omega)
  ·rw [if_neg h7]
   by_cases hx : xw (xa x n) = w
   ·rw [if_pos hx]
    by_cases h1 : xk (xa x n) = 1
    ·rw [if_pos h1]
     rw [ZgI, if_pos h1, hx] at ho
     have hb : ¬ 0 <= Yl x 1 w n := by simpa using ho
     intro k
     rw [ZbE, if_neg (by omega), (ZiY hw hn hb).2.1 k]
     exact ⟨rfl, fun h => absurd h (by omega)⟩
    ·rw [if_neg h1]
     by_cases h2 : xk (xa x n) = 2
     ·rw [if_pos h2]; exact same (ZeW _ _ _).2.2.1 (by omega)
     ·rw [if_neg h2]
      by_cases h3 : xk (xa x n) = 3 \/ xk (xa x n) = 4
      ·rw [if_pos h3]
       intro k
       show Zx (Yw (txN x w n).ch (kc (xa x n)) _) _ = _ /\ (_ -> vw (YB 0 (Yw (txN x w n).ch (kc (xa x n)) _) _) = _)
       rw [ZbE, Zqj, Zrj]
       by_cases hk : ZY (xa x n) = k
       ·rw [if_pos ⟨h3, hx, hk⟩, if_pos (show kc (xa x n) = (Zr k : Nat) by unfold kc; rw [hk]), ZMf, ZPY]
        refine ⟨by simp [show kc (xa x n) = (Zr k : Nat) by unfold kc; rw [hk]], fun _ => ?_⟩
        rcases h3 with h | h <;> rw [h] <;> rfl
       ·have hne : ¬ kc (xa x n) = (Zr k : Nat) := fun q => hk (encB_inj' q)
        rw [if_neg (fun q => hk q.2.2), if_neg hne]
        simp only [hne, decide_false, Bool.false_or]
        exact ih k
      ·rw [if_neg h3]
       split
       ·exact same rfl (fun q => h3 q.1)
       ·split
        ·exact same rfl (fun q => h3 q.1)
        ·exact same rfl (fun q => h3 q.1)
   ·rw [if_neg hx]; exact same rfl (fun q => hx q.2)
theorem Zog {r : Ent} (h : ZbL r = true) (hk : xk r = 2 \/ xk r = 4) (hn : Zcb r = false) : Zao r = [] := by
 unfold ZbL at h
 rcases hk with hk | hk
 ·simp [hk, hn] at h; exact h.1.2
 ·simp [hk, hn] at h; exact h.1.2
theorem Zr0 (x : List Ent) (w : Int) (k : List UInt8) : ∀ n : Nat, YF x w k n < n /\ -1 <= YF x w k n /\ (0 <= YF x w k n -> xk (xa x (YF x w k n).toNat) = 3 \/ xk (xa x (YF x w k n).toNat) = 4)
 | 0 => ⟨by show (-1 : Int) < 0; omega, ZP2 _, fun h => absurd h (by show ¬ (0 : Int) <= -1; omega)⟩
 | n + 1 => by
  have ih := Zr0 x w k n
  rw [ZbE]
  split
  ·rename_i q
   exact ⟨by omega, by omega, fun _ => by rw [ZPY]; exact q.1⟩
  ·exact ⟨by omega, ih.2.1, ih.2.2⟩
theorem Zpi {r : Ent} (h : ZbL r = true) (hk : xk r = 4) : Zao r = [] := by
 unfold ZbL at h
 simp [hk] at h
 exact h.1.1.2
def ZGw (x : List Ent) (n : Nat) : Bool := (Zcb (xa x n) == decide (xk (xa x (YF x (xw (xa x n)) (ZY (xa x n)) n).toNat) = 3)) && (Zao (xa x n) == Zao (xa x (YF x (xw (xa x n)) (ZY (xa x n)) n).toNat))
theorem ZC2 {x : List Ent} {n : Nat} {m : List (Int × Int)} (hm : ∀ i ≤ n, ZbL (xa x i) = true) (hk : xk (xa x n) = 2) (hc : chIs x (xw (xa x n)) m n) (hl : 0 <= YF x (xw (xa x n)) (ZY (xa x n)) n) : Z3 m (xa x n) = ZGw x n := by
 obtain ⟨c1, c2⟩ := hc (ZY (xa x n))
 have c2 := c2 hl
 have a := congrArg Prod.fst c2
 have b := congrArg Prod.snd c2
 have a : Yc ((YB 0 m (kc (xa x n))).tdiv 2).toNat = Zao (xa x (YF x (xw (xa x n)) (ZY (xa x n)) n).toNat) := a
 have b : decide ((YB 0 m (kc (xa x n))).tmod 2 = 0) = decide (xk (xa x (YF x (xw (xa x n)) (ZY (xa x n)) n).toNat) = 3) := b
 have c1 : Zx m (kc (xa x n)) = true := by show Zx m (Zr (ZY (xa x n)) : Nat) = true; rw [c1]; simp [hl]
 obtain ⟨l1, _, l3⟩ := Zr0 x (xw (xa x n)) (ZY (xa x n)) n
 have l3 := l3 hl
 have hmj := hm (YF x (xw (xa x n)) (ZY (xa x n)) n).toNat (by omega)
 unfold Z3 ZGw
 rw [c1, a, b]
 generalize (YF x (xw (xa x n)) (ZY (xa x n)) n).toNat = j at *
 cases hh : Zcb (xa x n)
 ·rcases l3 with h | h
  ·rw [h]; simp
  ·rw [h, Zog (hm n (ZPH n)) (.inl hk) hh, Zpi hmj h]; simp
 ·simp
theorem ZD1 {i n : Nat} (hi : i < n + 1) (h : i ≠ n) : i < n := by omega
theorem Zd8 {x : List Ent} {w : Int} (hw : 0 < w) : ∀ {n : Nat}, NF x n →
  (∀ r, r ∈ (txN x w n).rds ↔ ∃ i < n, xk (xa x i) = 2 /\ xw (xa x i) = w /\ YF x w (ZY (xa x i)) i < 0 /\ r = (i : Int) :: nr (xa x i)) ∧
  (∀ b, b ∈ (txN x w n).bad ↔ ∃ i < n, xk (xa x i) = 2 /\ xw (xa x i) = w /\ 0 <= YF x w (ZY (xa x i)) i /\ ZGw x i = false /\ b = (i : Int))
 | 0, _ => ⟨fun r => ⟨fun h => (nomatch h), fun ⟨i, hi, _⟩ => absurd hi (Nat.not_lt_zero i)⟩, fun r => ⟨fun h => (nomatch h), fun ⟨i, hi, _⟩ => absurd hi (Nat.not_lt_zero i)⟩⟩
 | n + 1, h => by
  obtain ⟨hn, ho, _, hmn⟩ := h.pred
  obtain ⟨ih1, ih2⟩ := Zd8 hw hn
  have same : ∀ {t : Tx}, t.rds = (txN x w n).rds -> t.bad = (txN x w n).bad -> ¬ (xk (xa x n) = 2 /\ xw (xa x n) = w) →
    (∀ r, r ∈ t.rds ↔ ∃ i < n + 1, xk (xa x i) = 2 /\ xw (xa x i) = w /\ YF x w (ZY (xa x i)) i < 0 /\ r = (i : Int) :: nr (xa x i)) ∧
    (∀ b, b ∈ t.bad ↔ ∃ i < n + 1, xk (xa x i) = 2 /\ xw (xa x i) = w /\ 0 <= YF x w (ZY (xa x i)) i /\ ZGw x i = false /\ b = (i : Int)) := fun e1 e2 hno => by
   rw [e1, e2]
   refine ⟨fun r => (ih1 r).trans ⟨fun ⟨i, hi, q⟩ => ⟨i, by omega, q⟩, fun ⟨i, hi, q⟩ => ⟨i, ?_, q⟩⟩, fun r => (ih2 r).trans ⟨fun ⟨i, hi, q⟩ => ⟨i, by omega, q⟩, fun ⟨i, hi, q⟩ => ⟨i, ?_, q⟩⟩⟩
   all_goals (
    rcases ZPL i n with p | p
    ·exact p
    ·exfalso; rw [show i = n by omega] at q; exact hno ⟨q.1, q.2.1⟩)
  rw [Zbi]
  unfold ZhK
  by_cases h7 : xk (xa x n) = 7
  ·rw [if_pos h7]; exact same rfl rfl (by omega)
  ·rw [if_neg h7]
   by_cases hx : xw (xa x n) = w
   ·rw [if_pos hx]
    by_cases h1 : xk (xa x n) = 1
    ·rw [if_pos h1]
     rw [ZgI, if_pos h1, hx] at ho
     have hb : ¬ 0 <= Yl x 1 w n := by simpa using ho
     have no := (ZiY hw hn hb).2.2
     refine ⟨fun r => ⟨fun h => (nomatch h), fun ⟨i, hi, q⟩ => ?_⟩, fun r => ⟨fun h => (nomatch h), fun ⟨i, hi, q⟩ => ?_⟩⟩
     all_goals (
      rcases ZPL i n with p | p
      ·exact absurd q.1 (no i p q.2.1)
      ·rw [show i = n by omega] at q; omega)
    ·rw [if_neg h1]
     by_cases h2 : xk (xa x n) = 2
     ·rw [if_pos h2]
      have hc := ZvV hw hn
      have hch := (hc (ZY (xa x n))).1
      have hm := h.2
      unfold rdT
      by_cases hl : 0 <= YF x w (ZY (xa x n)) n
      ·have hin : Zx (txN x w n).ch (kc (xa x n)) = true := by unfold kc; rw [hch]; simp [hl]
       rw [if_pos hin]
       have hs := ZC2 (m := (txN x w n).ch) (fun i hi => hm i (by omega)) h2 (by rw [hx]; exact hc) (by rw [hx]; exact hl)
       rw [hs]
       have r1 : ∀ r, r ∈ (txN x w n).rds ↔ ∃ i < n + 1, xk (xa x i) = 2 /\ xw (xa x i) = w /\ YF x w (ZY (xa x i)) i < 0 /\ r = (i : Int) :: nr (xa x i) := fun r =>
        (ih1 r).trans ⟨fun ⟨i, hi, q⟩ => ⟨i, by omega, q⟩, fun ⟨i, hi, q⟩ => ⟨i, ZD1 hi (fun e => by rw [e] at q; omega), q⟩⟩
       by_cases ht : ZGw x n = true
       ·rw [if_pos ht]
        exact ⟨r1, fun r => (ih2 r).trans ⟨fun ⟨i, hi, q⟩ => ⟨i, by omega, q⟩, fun ⟨i, hi, q⟩ => ⟨i, ZD1 hi (fun e => by rw [e, ht] at q; exact absurd q.2.2.2.1 (by simp)), q⟩⟩⟩
       ·rw [if_neg ht]
        refine ⟨r1, fun r => ?_⟩
        show r ∈ (txN x w n).bad ++ [(n : Int)] ↔ _
        rw [ZQc, ih2 r, ZPK]
        constructor
        ·rintro (⟨i, hi, q⟩ | rfl)
         ·exact ⟨i, by omega, q⟩
         ·exact ⟨n, by omega, h2, hx, hl, by simpa using ht, rfl⟩
        ·rintro ⟨i, hi, q⟩
         rcases ZPL i n with p | p
         ·exact .inl ⟨i, p, q⟩
         ·right; rw [q.2.2.2.2, show i = n by omega]
      ·have hin : ¬ Zx (txN x w n).ch (kc (xa x n)) = true := by unfold kc; rw [hch]; simp [hl]
       rw [if_neg hin]
       refine ⟨fun r => ?_, fun r => (ih2 r).trans ⟨fun ⟨i, hi, q⟩ => ⟨i, by omega, q⟩, fun ⟨i, hi, q⟩ => ⟨i, ZD1 hi (fun e => by rw [e] at q; exact hl q.2.2.1), q⟩⟩⟩
       show r ∈ (txN x w n).rds ++ [(n : Int) :: nr (xa x n)] ↔ _
       rw [ZQc, ih1 r, ZPK]
       constructor
       ·rintro (⟨i, hi, q⟩ | rfl)
        ·exact ⟨i, by omega, q⟩
        ·exact ⟨n, by omega, h2, hx, by omega, rfl⟩
       ·rintro ⟨i, hi, q⟩
        rcases ZPL i n with p | p
        ·exact .inl ⟨i, p, q⟩
        ·right; rw [q.2.2.2, show i = n by omega]
     ·rw [if_neg h2]
      repeat' split
      all_goals exact same rfl rfl (fun q => h2 q.1)
   ·rw [if_neg hx]; exact same rfl rfl (fun q => hx q.2)
end
end Go.Proofs.YtidlngnhjffepaaGreat
