/- Part of a proof. -/
import Derived.Test.YtidlngnhjffepaaGreatPs4
import Derived.Shelf.GgSortFunc.RowK
import Derived.Shelf.SlSortCmp.Insertion
import Derived.Shelf.GgSortFunc.InsertionK
import Derived.Test.YtidlngnhjffepaaGreatPs1
import Derived.Shelf.SlSortCmp.NoneTotal
import Derived.Shelf.SlicesG.Cmp
set_option linter.unusedSimpArgs false
set_option linter.unusedVariables false
set_option maxRecDepth 20000
namespace Go.Proofs.YtidlngnhjffepaaGreat
noncomputable section
open Go.Eng
theorem ZA2 (w : Int) : ∀ L : List Tx, ixL w L <= L.length
 | [] => ZIQ _
 | t :: L => by
  have := ZA2 w L
  unfold ixL
  cases t.who == w
  ·show ixL w L + 1 <= L.length + 1; omega
  ·exact Nat.zero_le _
theorem Za3 {w : Int} : ∀ {L : List Tx}, ixL w L < L.length -> (L.getD (ixL w L) tx0).who = w
 | [], h => absurd h (Nat.not_lt_zero _)
 | t :: L, h => by
  unfold ixL at h ⊢
  cases hp : t.who == w
  ·rw [hp] at h
   have h : ixL w L + 1 < L.length + 1 := h
   show (L.getD (ixL w L) tx0).who = w
   exact Za3 (by omega)
  ·exact beq_iff_eq.1 hp
theorem ZuO {w : Int} : ∀ {L : List Tx}, ¬ ixL w L < L.length -> ∀ t ∈ L, t.who ≠ w
 | [], _, t, ht => by cases ht
 | s :: L, h, t, ht => by
  unfold ixL at h
  cases hp : s.who == w
  ·rw [hp] at h
   have h : ¬ ixL w L + 1 < L.length + 1 := h
   rcases List.mem_cons.1 ht with rfl | ht
   ·exact beq_eq_false_iff_ne.1 hp
   ·exact ZuO (by omega) t ht
  ·rw [hp] at h; exact absurd (Nat.zero_lt_succ _) h
theorem ZeL {L : List Tx} (hn : (L.map (·.who)).Nodup) {j : Nat} (hj : j < L.length) : ixL (L.getD j tx0).who L = j := by
 induction L generalizing j with
 | nil => exact absurd hj (Nat.not_lt_zero _)
 | cons t L ih =>
  simp only [ZI9, List.nodup_cons] at hn
  unfold ixL
  cases j with
  | zero => rw [show (t.who == ((t :: L).getD 0 tx0).who) = true from by simp]; rfl
  | succ j =>
   have hj : j < L.length := by simpa using hj
   have e : (t :: L).getD (j + 1) tx0 = L.getD j tx0 := rfl
   rw [e]
   have hne : ¬ t.who = (L.getD j tx0).who := fun h => hn.1 (by
    rw [h]
    refine List.mem_map.2 ⟨L.getD j tx0, ?_, rfl⟩
    rw [ZI0, ZI3 hj, ZIV]; exact ZJn hj)
   rw [show (t.who == (L.getD j tx0).who) = false from beq_eq_false_iff_ne.2 hne]
   show ixL _ L + 1 = j + 1
   rw [ih hn.2 hj]
theorem Zcb {w : Int} : ∀ {R : List (List Int)} {L : List Tx}, R.length = L.length -> ∀ d, Zas d (Zff R L) w = (if ixL w L < L.length then g0 (R.getD (ixL w L) []) else d) /\ Zu (Zff R L) w = decide (ixL w L < L.length)
 | [], [], _, d => ⟨rfl, rfl⟩
 | r :: R, t :: L, h, d => by
  obtain ⟨i1, i2⟩ := Zcb (w := w) (R := R) (L := L) (by simpa using h) d
  have e : Zff (r :: R) (t :: L) = (t.who, g0 r) :: Zff R L := rfl
  rw [e]
  unfold ixL Zas Zu
  by_cases hw : t.who = w
  ·rw [if_pos hw, if_pos hw, show (t.who == w) = true from beq_iff_eq.2 hw]
   exact ⟨rfl, rfl⟩
  ·rw [if_neg hw, if_neg hw, show (t.who == w) = false from beq_eq_false_iff_ne.2 hw]
   show Zas d (Zff R L) w = (if ixL w L + 1 < L.length + 1 then _ else d) /\ Zu (Zff R L) w = decide (ixL w L + 1 < L.length + 1)
   rw [i1, i2]
   by_cases hq : ixL w L < L.length
   ·rw [if_pos hq, if_pos (by omega)]; exact ⟨rfl, by simp [hq]⟩
   ·rw [if_neg hq, if_neg (by omega)]; exact ⟨rfl, by simp [hq]⟩
 | [], _ :: _, h, _ => by simp at h
 | _ :: _, [], h, _ => by simp at h
theorem ZzI {L : List Tx} {j : Nat} (hj : j < L.length) (t : Tx) : setT L (j : Nat) t = L.set j t := by
 unfold setT
 rw [ZI7, List.set_eq_take_append_cons_drop, if_pos hj]
theorem Zgc {R : List (List Int)} {j : Nat} (hj : j < R.length) (t : List Int) : ZyB R (j : Nat) t = R.set j t := by
 unfold ZyB
 rw [ZI7, List.set_eq_take_append_cons_drop, if_pos hj]
theorem YK {α β : Type} {f : α -> β} {l : List α} {j : Nat} {d x : α} (h : f x = f (l.getD j d)) (hj : j < l.length) : (l.set j x).map f = l.map f := by
 rw [List.map_set, h]
 have : (l.map f)[j]? = some (f (l.getD j d)) := by
  rw [ZIW, ZI0, ZI3 hj]; rfl
 apply List.ext_getElem?
 intro q
 by_cases hq : j = q
 ·subst hq
  rw [List.getElem?_set_self (by simpa using hj), this]
 ·rw [List.getElem?_set_ne hq]
theorem ZnC {R R' : List (List Int)} {L L' : List Tx} (h1 : R'.map g0 = R.map g0) (h2 : L'.map (·.who) = L.map (·.who)) : Zff R' L' = Zff R L := by
 have e : ∀ (L : List Tx) (R : List (List Int)), Zff R L = ((L.map (·.who)).zip (R.map g0)) := fun L R => by
  unfold Zff
  rw [List.zip_map]; rfl
 rw [e, e, h1, h2]
theorem Zdo {α β : Type} (f : α -> β) (l : List α) (j : Nat) (d : α) : (l.map f).getD j (f d) = f (l.getD j d) := by
 rw [ZI0, ZI0, ZIW]
 cases l[j]? <;> rfl
theorem ZgM {R R' : List (List Int)} (h : R'.map g0 = R.map g0) (ks : List Nat) : Zdb R' ks = Zdb R ks := by
 unfold Zdb
 apply List.map_congr_left
 intro k _
 rw [<- Zdo g0 R', <- Zdo g0 R, h]
theorem Zz7 {R : List (List Int)} {ks : List Nat} (hk : ∀ k ∈ ks, k < R.length) (S : List (List Int)) : Zdb (R ++ S) ks = Zdb R ks := by
 unfold Zdb
 apply List.map_congr_left
 intro k hk'
 have := hk k hk'
 rw [ZI0, ZI0, ZJi this]
theorem ZBE {m : List (Int × Int)} {k v : Int} (h : Zu m k = false) : YD m k v = m ++ [(k, v)] := by
 induction m with
 | nil => rfl
 | cons p m ih =>
  obtain ⟨a, b⟩ := p
  simp only [Zu] at h
  unfold YD
  by_cases hk : a = k
  ·rw [if_pos hk] at h; cases h
  ·rw [if_neg hk] at h ⊢
   rw [ih h]; rfl
theorem ZzX {R : List (List Int)} {L : List Tx} (hl : R.length = L.length) (r : List Int) (t : Tx) (h : ¬ ixL t.who L < L.length) : Zff (R ++ [r]) (L ++ [t]) = YD (Zff R L) t.who (g0 r) := by
 rw [ZBE (by rw [(Zcb hl 0).2]; simp [h])]
 unfold Zff
 rw [List.zip_append hl.symm, ZJg]; rfl
theorem Zmc {R : List (List Int)} {ks : List Nat} (hk : ∀ k ∈ ks, k < R.length) : ∀ r ∈ Zdb R ks, ∃ b, r = [b] /\ ZAo R b := by
 intro r hr
 obtain ⟨k, h1, rfl⟩ := List.mem_map.1 hr
 exact ⟨_, rfl, k, hk k h1, rfl⟩
theorem Zq3 {R : List (List Int)} (hn : (R.map g0).Nodup) {j k : Nat} (hj : j < R.length) (hk : k < R.length) (h : g0 (R.getD j []) = g0 (R.getD k [])) : j = k := by
 have e : ∀ (i : Nat) (hi : i < R.length), (R.map g0)[i]'(by simpa using hi) = g0 (R.getD i []) := fun i hi => by
  rw [List.getElem_map, ZI0, ZI3 hi, ZIV]
 exact (List.getElem_inj hn).1 (by rw [e j hj, e k hk, h])
theorem Zqk {R : List (List Int)} (hn : (R.map g0).Nodup) {ks : List Nat} (hk : ∀ k ∈ ks, k < R.length) {j : Nat} (hj : j < R.length) : [g0 (R.getD j [])] ∈ Zdb R ks ↔ j ∈ ks := by
 constructor
 ·intro h
  obtain ⟨k, h1, h2⟩ := List.mem_map.1 h
  injection h2 with h2
  rw [Zq3 hn hj (hk k h1) h2.symm]; exact h1
 ·intro h
  exact List.mem_map.2 ⟨j, h, rfl⟩
theorem ZqI : ∀ (L : List Tx) (n : Nat), (ZmN L n).length <= L.length
 | [], _ => ZIQ _
 | t :: L, n => by
  have := ZqI L (n + 1)
  unfold ZmN
  cases t.opn
  ·show (ZmN L (n + 1)).length <= L.length + 1; omega
  ·show (ZmN L (n + 1)).length + 1 <= L.length + 1; omega
theorem ZoE : ∀ (L : List Tx) (n k : Nat), k ∈ ZmN L n -> k < n + L.length
 | [], _, _, h => by cases h
 | t :: L, n, k, h => by
  unfold ZmN at h
  cases ho : t.opn
  ·rw [ho] at h
   have := ZoE L (n + 1) k h
   rw [ZJk]; omega
  ·rw [ho] at h
   rcases List.mem_cons.1 h with rfl | h
   ·rw [ZJk]; omega
   ·have := ZoE L (n + 1) k h
    rw [ZJk]; omega
structure WfB (B : Bk) (n : Nat) : Prop where
 nd : (B.txs.map (·.who)).Nodup
 lt : B.txs.length <= n
 kl : B.kept.length <= n
 ki : ∀ k ∈ B.kept, k < B.txs.length
 ol : B.out.length <= n
 rl : ∀ t ∈ B.txs, t.rds.length <= n /\ t.bad.length <= n
 fi : ∀ k ∈ B.fal, k < B.txs.length
 fl : B.fal.length <= n
theorem WfB.mono {B : Bk} {n m : Nat} (h : WfB B n) (hm : n <= m) : WfB B m :=
 ⟨h.nd, Nat.le_trans h.lt hm, Nat.le_trans h.kl hm, h.ki, Nat.le_trans h.ol hm, fun t ht => ⟨Nat.le_trans (h.rl t ht).1 hm, Nat.le_trans (h.rl t ht).2 hm⟩, h.fi, Nat.le_trans h.fl hm⟩
theorem ZxL (t : Tx) (i : Int) (x : Ent) : (rdT t i x).rds.length <= t.rds.length + 1 /\ (rdT t i x).bad.length <= t.bad.length + 1 /\ (rdT t i x).who = t.who := by
 unfold rdT
 split
 ·split
  ·exact ⟨by omega, by omega, rfl⟩
  ·refine ⟨by simp, by simp, rfl⟩
 ·exact ⟨by simp, by simp, rfl⟩
theorem WfB.set {B : Bk} {n : Nat} (h : WfB B n) {j : Nat} (hj : j < B.txs.length) {t : Tx} (hw : t.who = (B.txs.getD j tx0).who) (h1 : t.rds.length <= n + 1) (h2 : t.bad.length <= n + 1)
  {k : List Nat} (hk : k = B.kept \/ k = B.kept ++ [j]) {f : List Nat} (hf : f = B.fal \/ f = []) : WfB { B with txs := B.txs.set j t, kept := k, fal := f } (n + 1) := by
 have hm := YK (f := Tx.who) (l := B.txs) hw hj
 refine ⟨by show ((B.txs.set j t).map Tx.who).Nodup; rw [hm]; exact h.nd, ?_, ?_, ?_, by have := h.ol; show B.out.length <= n + 1; omega, ?_, ?_, ?_⟩
 ·show (B.txs.set j t).length <= n + 1
  rw [List.length_set]; have := h.lt; omega
 ·show k.length <= n + 1
  have := h.kl
  rcases hk with rfl | rfl
  ·omega
  ·rw [ZI5, ZIO]; omega
 ·show ∀ q ∈ k, q < (B.txs.set j t).length
  rw [List.length_set]
  rcases hk with rfl | rfl
  ·exact h.ki
  ·intro q hq
   rcases List.mem_append.1 hq with hq | hq
   ·exact h.ki q hq
   ·rw [List.mem_singleton.1 hq]; exact hj
 ·intro u hu
  rcases List.mem_or_eq_of_mem_set hu with hu | rfl
  ·have := h.rl u hu; omega
  ·exact ⟨h1, h2⟩
 ·show ∀ q ∈ f, q < (B.txs.set j t).length
  rw [List.length_set]
  rcases hf with rfl | rfl
  ·exact h.fi
  ·intro q hq; cases hq
 ·show f.length <= n + 1
  have := h.fl
  rcases hf with rfl | rfl
  ·omega
  ·exact Nat.zero_le _
theorem WfB.at {B : Bk} {n : Nat} (h : WfB B n) {j : Nat} (hj : j < B.txs.length) : (B.txs.getD j tx0).rds.length <= n /\ (B.txs.getD j tx0).bad.length <= n := by
 refine h.rl _ ?_
 rw [ZI0, ZI3 hj, ZIV]; exact ZJn hj
theorem ZDA {B : Bk} {n : Nat} (h : WfB B n) (i : Int) (x : Ent) : WfB (Zap B i x) (n + 1) := by
 have hmono := h.mono (Nat.le_succ n)
 have hflt : ∀ w, WfB (B.flt i w) (n + 1) := fun w => ⟨hmono.nd, hmono.lt, hmono.kl, hmono.ki, hmono.ol, hmono.rl, hmono.fi, hmono.fl⟩
 unfold Zap
 generalize hj : ixL (xw x) B.txs = j
 have ho : ∀ {q : Bool}, (decide (j < B.txs.length) && q) = true -> j < B.txs.length := fun hq => by simp at hq; exact hq.1
 dsimp only
 split
 ·split
  ·exact hflt 1
  ·rename_i hne
   rw [<- hj] at hne
   have hno := ZuO hne
   refine ⟨?_, ?_, hmono.kl, ?_, hmono.ol, ?_, (fun q hq => nomatch hq), Nat.zero_le _⟩
   ·show ((B.txs ++ [_]).map Tx.who).Nodup
    rw [ZJg, List.nodup_append]
    refine ⟨h.nd, by simp, fun a ha b hb => ?_⟩
    rw [List.map_singleton, ZIT] at hb
    obtain ⟨t, ht, rfl⟩ := List.mem_map.1 ha
    rw [hb]; exact hno t ht
   ·show (B.txs ++ [_]).length <= n + 1
    rw [ZI5, ZIO]; have := h.lt; omega
   ·intro q hq
    have := h.ki q hq
    show q < (B.txs ++ [_]).length
    rw [ZI5]; omega
   ·intro u hu
    rcases List.mem_append.1 hu with hu | hu
    ·exact hmono.rl u hu
    ·rw [List.mem_singleton.1 hu]; exact ⟨Nat.zero_le _, Nat.zero_le _⟩
 ·split
  ·split
   ·exact ⟨hmono.nd, hmono.lt, hmono.kl, hmono.ki, by show (B.out ++ [_]).length <= n + 1; rw [ZI5, ZIO]; have := h.ol; omega, hmono.rl, (fun q hq => nomatch hq), Nat.zero_le _⟩
   ·split
    ·rename_i hop
     have hjl := ho hop
     have hl := ZxL (B.txs.getD j tx0) i x
     have ha := h.at hjl
     exact h.set hjl hl.2.2 (by omega) (by omega) (.inl rfl) (.inr rfl)
    ·exact hflt 1
  ·split
   ·split
    ·rename_i hop
     have hjl := ho hop
     have ha := h.at hjl
     exact h.set hjl (t := { B.txs.getD j tx0 with ch := YD (B.txs.getD j tx0).ch (kc x) ((ZP (Zbl x) : Nat) * 2 + b01 (xk x == 4)) }) rfl (by show (B.txs.getD j tx0).rds.length <= n + 1; omega) (by show (B.txs.getD j tx0).bad.length <= n + 1; omega) (.inl rfl) (.inl rfl)
    ·exact hflt 1
   ·split
    ·split
     ·rename_i hop
      have hjl := ho hop
      have ha := h.at hjl
      exact h.set hjl (t := { B.txs.getD j tx0 with opn := false }) rfl (by show (B.txs.getD j tx0).rds.length <= n + 1; omega) (by show (B.txs.getD j tx0).bad.length <= n + 1; omega) (.inl rfl) (.inl rfl)
     ·exact hflt 1
    ·split
     ·split
      ·exact hflt 1
      ·split
       ·exact hflt 2
       ·rename_i hq _
        have hjl : j < B.txs.length := by
         by_cases hop : (decide (j < B.txs.length) && (B.txs.getD j tx0).opn) = true
         ·exact ho hop
         ·have hm : j ∈ B.fal := by
           by_cases hm : j ∈ B.fal
           ·exact hm
           ·exact absurd (.inl ⟨by simpa using hop, hm⟩) hq
          exact h.fi j hm
        have ha := h.at hjl
        exact h.set hjl (t := { B.txs.getD j tx0 with opn := false, com := i }) rfl (by show (B.txs.getD j tx0).rds.length <= n + 1; omega) (by show (B.txs.getD j tx0).bad.length <= n + 1; omega) (.inr rfl) (.inl rfl)
     ·split
      ·refine ⟨?_, ?_, hmono.kl, ?_, hmono.ol, ?_, ?_, ?_⟩
       ·show ((B.txs.map fun t => { t with opn := false }).map Tx.who).Nodup
        rw [List.map_map]; exact h.nd
       ·show (B.txs.map _).length <= n + 1
        rw [ZJa]; exact hmono.lt
       ·intro q hq
        have := h.ki q hq
        show q < (B.txs.map _).length
        rw [ZJa]; exact this
       ·intro u hu
        obtain ⟨t, ht, rfl⟩ := List.mem_map.1 hu
        exact hmono.rl t ht
       ·intro q hq
        have := ZoE B.txs 0 q hq
        show q < (B.txs.map _).length
        rw [ZJa]; omega
       ·show (ZmN B.txs 0).length <= n + 1
        have := ZqI B.txs 0
        have := h.lt
        omega
      ·exact hmono
theorem YT (B : Bk) (i : Int) (x : Ent) {j : Nat} (hj : ixL (xw x) B.txs = j) : Zap B i x =
 if xk x = 1 then (if j < B.txs.length then B.flt i 1 else { B with txs := B.txs ++ [⟨xw x, i, -1, true, [], [], []⟩], fal := [] })
 else if xk x = 2 then (if xw x = 0 then { B with out := B.out ++ [i :: nr x], fal := [] } else if (decide (j < B.txs.length) && (B.txs.getD j tx0).opn) = true then { B with txs := B.txs.set j (rdT (B.txs.getD j tx0) i x), fal := [] } else B.flt i 1)
 else if xk x = 3 \/ xk x = 4 then (if (decide (j < B.txs.length) && (B.txs.getD j tx0).opn) = true then { B with txs := B.txs.set j { B.txs.getD j tx0 with ch := YD (B.txs.getD j tx0).ch (kc x) ((ZP (Zbl x) : Nat) * 2 + b01 (xk x == 4)) } } else B.flt i 1)
 else if xk x = 6 then (if (decide (j < B.txs.length) && (B.txs.getD j tx0).opn) = true then { B with txs := B.txs.set j { B.txs.getD j tx0 with opn := false } } else B.flt i 1)
 else if xk x = 5 then (if ((decide (j < B.txs.length) && (B.txs.getD j tx0).opn) = false /\ ¬ j ∈ B.fal) \/ 0 <= (B.txs.getD j tx0).com then B.flt i 1 else if ¬ xt x = B.kept.length + 1 then B.flt i 2 else { B with txs := B.txs.set j { B.txs.getD j tx0 with opn := false, com := i }, kept := B.kept ++ [j] })
 else if xk x = 7 then { B with txs := B.txs.map fun t => { t with opn := false }, fal := ZmN B.txs 0 }
 else B := by subst hj; rfl
section
variable {B : Bk} {i : Int} {x : Ent} {j : Nat} (hj : ixL (xw x) B.txs = j)
include hj
theorem st1a (hk : xk x = 1) (h : j < B.txs.length) : Zap B i x = B.flt i 1 := by rw [YT B i x hj, if_pos hk, if_pos h]
theorem st1b (hk : xk x = 1) (h : ¬ j < B.txs.length) : Zap B i x = { B with txs := B.txs ++ [⟨xw x, i, -1, true, [], [], []⟩], fal := [] } := by rw [YT B i x hj, if_pos hk, if_neg h]
theorem st2a (hk : xk x = 2) (h : xw x = 0) : Zap B i x = { B with out := B.out ++ [i :: nr x], fal := [] } := by rw [YT B i x hj, if_neg (by omega), if_pos hk, if_pos h]
theorem st2b (hk : xk x = 2) (h : ¬ xw x = 0) (h1 : j < B.txs.length) (h2 : (B.txs.getD j tx0).opn = true) : Zap B i x = { B with txs := B.txs.set j (rdT (B.txs.getD j tx0) i x), fal := [] } := by
 rw [YT B i x hj, if_neg (by omega), if_pos hk, if_neg h, if_pos (by rw [h2, decide_eq_true h1]; rfl)]
theorem st2c (hk : xk x = 2) (h : ¬ xw x = 0) (h1 : j < B.txs.length -> (B.txs.getD j tx0).opn = false) : Zap B i x = B.flt i 1 := by
 rw [YT B i x hj, if_neg (by omega), if_pos hk, if_neg h, if_neg (by simpa using h1)]
theorem st3a (hk : xk x = 3 \/ xk x = 4) (h1 : j < B.txs.length) (h2 : (B.txs.getD j tx0).opn = true) : Zap B i x = { B with txs := B.txs.set j { B.txs.getD j tx0 with ch := YD (B.txs.getD j tx0).ch (kc x) ((ZP (Zbl x) : Nat) * 2 + b01 (xk x == 4)) } } := by
 rw [YT B i x hj, if_neg (by omega), if_neg (by omega), if_pos hk, if_pos (by rw [h2, decide_eq_true h1]; rfl)]
theorem ZHW (hk : xk x = 3 \/ xk x = 4) (h1 : j < B.txs.length -> (B.txs.getD j tx0).opn = false) : Zap B i x = B.flt i 1 := by
 rw [YT B i x hj, if_neg (by omega), if_neg (by omega), if_pos hk, if_neg (by simpa using h1)]
theorem st6a (hk : xk x = 6) (h1 : j < B.txs.length) (h2 : (B.txs.getD j tx0).opn = true) : Zap B i x = { B with txs := B.txs.set j { B.txs.getD j tx0 with opn := false } } := by
 rw [YT B i x hj, if_neg (by omega), if_neg (by omega), if_neg (by omega), if_pos hk, if_pos (by rw [h2, decide_eq_true h1]; rfl)]
theorem st6b (hk : xk x = 6) (h1 : j < B.txs.length -> (B.txs.getD j tx0).opn = false) : Zap B i x = B.flt i 1 := by
 rw [YT B i x hj, if_neg (by omega), if_neg (by omega), if_neg (by omega), if_pos hk, if_neg (by simpa using h1)]
theorem ZF5 (hk : xk x = 5) (h : ((j < B.txs.length -> (B.txs.getD j tx0).opn = false) /\ ¬ j ∈ B.fal) \/ 0 <= (B.txs.getD j tx0).com) : Zap B i x = B.flt i 1 := by
 rw [YT B i x hj, if_neg (by omega), if_neg (by omega), if_neg (by omega), if_neg (by omega), if_pos hk, if_pos (h.imp (fun q => ⟨by simpa using q.1, q.2⟩) id)]
theorem st5b (hk : xk x = 5) (h : (j < B.txs.length /\ (B.txs.getD j tx0).opn = true) \/ j ∈ B.fal) (h2 : (B.txs.getD j tx0).com < 0) (h3 : ¬ xt x = B.kept.length + 1) : Zap B i x = B.flt i 2 := by
 rw [YT B i x hj, if_neg (by omega), if_neg (by omega), if_neg (by omega), if_neg (by omega), if_pos hk, if_neg, if_pos h3]
 rintro (⟨q1, q2⟩ | q)
 ·rcases h with ⟨a, b⟩ | a
  ·rw [b, decide_eq_true a] at q1; cases q1
  ·exact q2 a
 ·omega
theorem st5c (hk : xk x = 5) (h : (j < B.txs.length /\ (B.txs.getD j tx0).opn = true) \/ j ∈ B.fal) (h2 : (B.txs.getD j tx0).com < 0) (h3 : xt x = B.kept.length + 1) :
  Zap B i x = { B with txs := B.txs.set j { B.txs.getD j tx0 with opn := false, com := i }, kept := B.kept ++ [j] } := by
 rw [YT B i x hj, if_neg (by omega), if_neg (by omega), if_neg (by omega), if_neg (by omega), if_pos hk, if_neg, if_neg (by omega)]
 rintro (⟨q1, q2⟩ | q)
 ·rcases h with ⟨a, b⟩ | a
  ·rw [b, decide_eq_true a] at q1; cases q1
  ·exact q2 a
 ·omega
theorem st7 (hk : xk x = 7) : Zap B i x = { B with txs := B.txs.map fun t => { t with opn := false }, fal := ZmN B.txs 0 } := by
 rw [YT B i x hj, if_neg (by omega), if_neg (by omega), if_neg (by omega), if_neg (by omega), if_neg (by omega), if_pos hk]
theorem st0 (h : ¬ xk x = 1 /\ ¬ xk x = 2 /\ ¬ xk x = 3 /\ ¬ xk x = 4 /\ ¬ xk x = 5 /\ ¬ xk x = 6 /\ ¬ xk x = 7) : Zap B i x = B := by
 rw [YT B i x hj, if_neg (by omega), if_neg (by omega), if_neg (by omega), if_neg (by omega), if_neg (by omega), if_neg (by omega)]
end
theorem Zg {R : List (List Int)} {J : Nat} (hJ : J < R.length) {row : List Int} (ks : List Nat) : Zdb (ZyB R (J : Nat) (g0 (R.getD J []) :: row)) ks = Zdb R ks := by
 rw [Zgc hJ]
 exact ZgM (YK (f := g0) (d := []) (x := g0 (R.getD J []) :: row) rfl hJ) ks
theorem Zaf {R : List (List Int)} {L : List Tx} {J : Nat} (hJ : J < R.length) {row : List Int} {t : Tx} (hL : J < L.length) (ht : t.who = (L.getD J tx0).who) : Zff (ZyB R (J : Nat) (g0 (R.getD J []) :: row)) (L.set J t) = Zff R L := by
 rw [Zgc hJ]
 exact ZnC (YK (f := g0) (d := []) (x := g0 (R.getD J []) :: row) rfl hJ) (YK (f := Tx.who) (d := tx0) ht hL)
theorem ZfT {L : List Tx} {J : Nat} (hL : J < L.length) {m : List (Int × Int)} {p : List Int} {r : List Ent} {b : List Int} :
  setT (setT L (J : Nat) (ZrZ (L.getD J tx0) m p)) (J : Nat) (Zw8 ((setT L (J : Nat) (ZrZ (L.getD J tx0) m p)).getD J tx0) r b) = L.set J (Zw8 (ZrZ (L.getD J tx0) m p) r b) := by
 have h := Zf1 (L := L) (i := (J : Nat)) (t := ZrZ (L.getD J tx0) m p) (u := tx0) (by omega) (by omega)
 have h2 := h.2
 unfold atT at h2
 rw [ZI7] at h2
 rw [h2, (Zf1 (by omega) (by omega)).1, ZzI hL]
theorem Zmp {x : List Ent} {n : Nat} (h : (Yf x n).fault = -1) : Yf x (n + 1) = Zap (Yf x n) n (xa x n) := by
 show (if 0 <= (Yf x n).fault then Yf x n else Zap (Yf x n) n (xa x n)) = _
 rw [if_neg (by rw [h]; omega)]
theorem Zlq {x : List Ent} {n : Nat} (h : 0 <= (Yf x n).fault) : ∀ {m : Nat}, n <= m -> Yf x m = Yf x n
 | 0, hm => by rw [Nat.le_zero.1 hm]
 | m + 1, hm => by
  rcases ZIU m n with hlt | hge
  ·rw [show m + 1 = n by omega]
  ·have := Zlq h hge
   show (if 0 <= (Yf x m).fault then Yf x m else _) = _
   rw [this, if_pos h]
theorem ZDV {x : List Ent} {n : Nat} {B : Bk} {w : Int} (hB : Yf x n = B) (hf : B.fault = -1) (hn : n < x.length) (hs : Zap B n (xa x n) = B.flt n w) : Yf x x.length = B.flt n w := by
 have h1 := Zmp (x := x) (n := n) (by rw [hB]; exact hf)
 rw [hB, hs] at h1
 rw [Zlq (n := n + 1) (by rw [h1]; show (0 : Int) <= n; omega) hn, h1]
theorem Zit (x : List Ent) : ∀ n, WfB (Yf x n) n
 | 0 => ⟨List.nodup_nil, ZIQ _, ZIQ _, (fun k hk => nomatch hk), ZIQ _, (fun t ht => nomatch ht), (fun k hk => nomatch hk), ZIQ _⟩
 | n + 1 => by
  have ih := Zit x n
  show WfB (if 0 <= (Yf x n).fault then Yf x n else Zap (Yf x n) n (xa x n)) (n + 1)
  split
  ·exact ih.mono (Nat.le_succ n)
  ·exact ZDA ih _ _
theorem ZEY (x : Ent) : kc (nr x) = kc x := by unfold kc; rw [Zj9]
theorem ZmU (m : List (Int × Int)) (x : Ent) : Z5 m (nr x) = Z5 m x := by unfold Z5; rw [ZEY, ZgX, Zhb]
theorem Zs3 (q : Bool) : (b01 q == 1) = q := by cases q <;> rfl
theorem ZF7 (t : Tx) (m : List (Int × Int)) : Zw8 (ZrZ t m [t.com, b01 t.opn]) t.rds t.bad = { t with ch := m } := by
 have h := Zs3 t.opn
 unfold Zw8 ZrZ
 simp only [List.getD_cons_zero, List.getD_cons_succ, h]
theorem rd_eq (t : Tx) (i : Int) (x : Ent) : Zw8 (ZrZ t t.ch [t.com, b01 t.opn]) (if Zu t.ch (kc (nr x)) = true then t.rds else t.rds ++ [i :: nr (nr x)]) (if Zu t.ch (kc (nr x)) = true /\ Z5 t.ch (nr x) = false then t.bad ++ [i] else t.bad) = rdT t i x := by
 have h := Zs3 t.opn
 unfold Zw8 ZrZ rdT
 simp only [List.getD_cons_zero, List.getD_cons_succ, h, ZEY, ZmU, ZGe]
 cases Zu t.ch (kc x)
 ·simp
 ·cases Z5 t.ch x <;> simp
theorem ZeE (R : List (List Int)) (ks : List Nat) (J : Nat) : Zdb R (ks ++ [J]) = Zdb R ks ++ [[g0 (R.getD J [])]] := by unfold Zdb; rw [ZJg]; rfl
theorem ZAd {α : Type} {l : List α} {j : Nat} {d : α} (hj : j < l.length) : l.set j (l.getD j d) = l := by
 apply List.ext_getElem?
 intro q
 by_cases hq : j = q
 ·subst hq
  rw [List.getElem?_set_self hj, ZI0, ZI3 hj, ZIV]
 ·rw [List.getElem?_set_ne hq]
theorem Zq9 {x : List Ent} {n : Nat} (h : n <= x.length) : Zkv (x.take n) (x.take n).length = Zkv x n := by
 have hl : (x.take n).length = n := by rw [ZI2]; omega
 have e : ∀ i, i < n -> xa (x.take n) i = xa x i := fun i hi => ZfZ hi
 unfold Zkv
 congr 1
 apply propext
 rw [hl]
 exact ⟨fun q i hi => by rw [<- e i hi]; exact q i hi, fun q i hi => by rw [e i hi]; exact q i hi⟩
theorem Ze8 (L : List Tx) (J : Nat) : atT L (J : Nat) = L.getD J tx0 := by unfold atT; rw [ZI7]
theorem ZcM {R : List (List Int)} (hn : (R.map g0).Nodup) {J : Nat} (hJ : J < R.length) : ZhM (g0 (R.getD J [])) R = J := by
 have hb : ZAo R (g0 (R.getD J [])) := ⟨J, hJ, rfl⟩
 exact Zq3 hn (Zb8 hb) hJ (ZdV (Zb8 hb))
theorem ZA4 {R : List (List Int)} {J : Nat} (hJ : J < R.length) : R.getD J [] ∈ R := by
 rw [ZI0, ZI3 hJ, ZIV]; exact ZJn hJ
end
end Go.Proofs.YtidlngnhjffepaaGreat
namespace Go.Proofs.YtidlngnhjffepaaGreat
noncomputable section
open Go.Eng
theorem ZEd {L : List Tx} {t : Tx} (ht : t ∈ L) : ixL t.who L < L.length := by
 rcases ZIU (ixL t.who L) L.length with h | h
 ·exact h
 ·exact absurd rfl (ZuO (by omega) t ht)
theorem YU {left : List (Int × Int)} : ∀ {L : List Tx} {n k : Nat}, k ∈ Zcx left L n ↔ n <= k /\ k - n < L.length /\ (L.getD (k - n) tx0).opn = true /\ Zu left (L.getD (k - n) tx0).who = false
 | [], n, k => by
  constructor
  ·intro h; cases h
  ·rintro ⟨_, h, _⟩; exact absurd h (Nat.not_lt_zero _)
 | t :: L, n, k => by
  have ih := YU (left := left) (L := L) (n := n + 1) (k := k)
  have hs : n + 1 <= k -> (t :: L).getD (k - n) tx0 = L.getD (k - (n + 1)) tx0 := fun h => by
   rw [show k - n = (k - (n + 1)) + 1 by omega]; rfl
  have h0 : k = n -> (t :: L).getD (k - n) tx0 = t := fun h => by rw [show k - n = 0 by omega]; rfl
  unfold Zcx
  split
  ·rename_i hc
   rw [List.mem_cons, ih]
   constructor
   ·rintro (h | ⟨a, b, c⟩)
    ·rw [h0 h]; exact ⟨by omega, by rw [ZJk]; omega, hc⟩
    ·rw [hs a]; exact ⟨by omega, by rw [ZJk]; omega, c⟩
   ·rintro ⟨a, b, c⟩
    rw [ZJk] at b
    by_cases h : k = n
    ·exact .inl h
    ·rw [hs (by omega)] at c
     exact .inr ⟨by omega, by omega, c⟩
  ·rename_i hc
   rw [ih]
   constructor
   ·rintro ⟨a, b, c⟩
    rw [hs a]; exact ⟨by omega, by rw [ZJk]; omega, c⟩
   ·rintro ⟨a, b, c⟩
    rw [ZJk] at b
    by_cases h : k = n
    ·rw [h0 h] at c; exact absurd c hc
    ·rw [hs (by omega)] at c
     exact ⟨by omega, by omega, c⟩
theorem Y7 {left : List (Int × Int)} : ∀ {L : List Tx} {n : Nat}, (Zcx left L n).Nodup
 | [], _ => List.nodup_nil
 | t :: L, n => by
  unfold Zcx
  split
  ·rw [List.nodup_cons]
   exact ⟨fun h => by have := (YU.1 h).1; omega, Y7⟩
  ·exact Y7
theorem ZgL (left : List (Int × Int)) : ∀ (L : List Tx) (n : Nat), (Zcx left L n).length <= L.length
 | [], _ => ZIQ _
 | t :: L, n => by
  have := ZgL left L (n + 1)
  unfold Zcx
  split
  ·rw [ZJk, ZJk]; omega
  ·rw [ZJk]; omega
theorem Zeb : ∀ (L : List Tx) (n : Nat), Zcx [] L n = ZmN L n
 | [], _ => rfl
 | t :: L, n => by
  unfold Zcx ZmN
  rw [Zeb L (n + 1)]
  cases t.opn <;> simp [Zu]
theorem Zkx {left : List (Int × Int)} {L : List Tx} (h : ∀ t ∈ L, Zu left t.who = true) (n : Nat) : Zcx left L n = [] := by
 rw [List.eq_nil_iff_forall_not_mem]
 intro k hk
 obtain ⟨_, h2, _, h4⟩ := YU.1 hk
 rw [h _ (by rw [ZI0, ZI3 h2, ZIV]; exact ZJn h2)] at h4
 cases h4
theorem ZlP {left : List (Int × Int)} {L : List Tx} (h : ∀ t ∈ L, Zu left t.who = true) : Zcz L left = L := by
 unfold Zcz
 have e : (L.map fun t => if Zu left t.who = true then t else { t with opn := false }) = L.map id := List.map_congr_left fun t ht => if_pos (h t ht)
 rw [e, List.map_id]
theorem Zeh {R : List (List Int)} {L : List Tx} (hl : R.length = L.length) : ∀ t ∈ L, Zu (Zff R L) t.who = true := fun t ht => by
 rw [(Zcb hl 0).2]; simp [ZEd ht]
theorem Zg7 {R : List (List Int)} {L : List Tx} (hl : R.length = L.length) : (Zff R L).map (·.1) = L.map (·.who) := by
 unfold Zff
 rw [List.map_map]
 have : ((·.1) ∘ fun p : Tx × List Int => (p.1.who, g0 p.2)) = (fun t : Tx => t.who) ∘ Prod.fst := rfl
 rw [this, <- List.map_map, List.map_fst_zip (by omega)]
theorem ZeB (L : List Tx) (left : List (Int × Int)) : (Zcz L left).length = L.length := by unfold Zcz; rw [ZJa]
theorem Zeu (L : List Tx) (left : List (Int × Int)) {j : Nat} (hj : j < L.length) : (Zcz L left).getD j tx0 = if Zu left (L.getD j tx0).who = true then L.getD j tx0 else { L.getD j tx0 with opn := false } := by
 unfold Zcz
 rw [ZI0, ZIW, ZI0, ZI3 hj]; rfl
theorem Zhd {L : List Tx} {left : List (Int × Int)} (hn : (left.map (·.1)).Nodup) (hw : (L.map (·.who)).Nodup) {k : Int} {j : Nat} (hj : ixL k L = j) (hjl : j < L.length) (hk : Zu left k = true) :
  Zcz L (ZaQ left k) = (Zcz L left).set j { L.getD j tx0 with opn := false } := by
 have hwho : (L.getD j tx0).who = k := by rw [<- hj]; exact Za3 (by omega)
 apply List.ext_getElem?
 intro q
 rw [List.getElem?_set]
 have hg : ∀ (lf : List (Int × Int)), (Zcz L lf)[q]? = (L[q]?).map (fun t => if Zu lf t.who = true then t else { t with opn := false }) := fun lf => by unfold Zcz; rw [ZIW]
 rw [hg, hg, ZeB]
 by_cases hq : j = q
 ·subst hq
  rw [if_pos rfl, if_pos hjl]
  have e : L[j]? = some (L.getD j tx0) := by rw [ZI0, ZI3 hjl, ZIV]
  rw [e, Option.map_some]
  congr 1
  exact if_neg (by rw [ZaS hn, hwho, decide_eq_true rfl]; simp)
 ·rw [if_neg hq]
  cases hL : L[q]? with
  | none => rfl
  | some t =>
   simp only [Option.map_some]
   have hne : ¬ k = t.who := fun h => hq (by
    have hql : q < L.length := (List.getElem?_eq_some_iff.1 hL).1
    have := ZeL hw hql
    rw [ZI0, hL, ZIV, <- h, hj] at this
    exact this)
   rw [ZaS hn]
   simp [hne]
theorem Zic {L : List Tx} {left : List (Int × Int)} (hn : (left.map (·.1)).Nodup) (hw : (L.map (·.who)).Nodup) {k : Int} {j : Nat} (hj : ixL k L = j) (hjl : j < L.length) (hk : Zu left k = true) (ho : ((Zcz L left).getD j tx0).opn = false) :
  Zcz L (ZaQ left k) = Zcz L left := by
 rw [Zhd hn hw hj hjl hk]
 have hwho : (L.getD j tx0).who = k := by rw [<- hj]; exact Za3 (by omega)
 rw [Zeu L left hjl, hwho, if_pos hk] at ho
 have e : ({ L.getD j tx0 with opn := false } : Tx) = (Zcz L left).getD j tx0 := by
  rw [Zeu L left hjl, hwho, if_pos hk]
  generalize L.getD j tx0 = t at ho
  cases t; simp only at ho; rw [ho]
 rw [e]
 exact ZAd (by rw [ZeB]; exact hjl)
theorem mhas_del' {m : List (Int × Int)} (hn : (m.map (·.1)).Nodup) (k q : Int) : Zu (ZaQ m k) q = if k = q then false else Zu m q := by
 rw [ZaS hn]
 by_cases h : k = q <;> simp [h]
theorem Zl4 {L : List Tx} {left : List (Int × Int)} (hn : (left.map (·.1)).Nodup) (hw : (L.map (·.who)).Nodup) {k : Int} {j : Nat} (hj : ixL k L = j) (hjl : j < L.length) (hk : Zu left k = true) (ho : (L.getD j tx0).opn = true) :
  (Zcx left L 0 ++ [j]).Perm (Zcx (ZaQ left k) L 0) := by
 have hwho : (L.getD j tx0).who = k := by rw [<- hj]; exact Za3 (by omega)
 have hnj : ¬ j ∈ Zcx left L 0 := fun h => by
  have := (YU.1 h).2.2.2
  rw [Nat.sub_zero, hwho, hk] at this; cases this
 refine (List.perm_ext_iff_of_nodup ?_ Y7).2 fun q => ?_
 ·rw [List.nodup_append]
  refine ⟨Y7, by simp, fun a ha b hb => ?_⟩
  rw [ZIT] at hb; subst hb
  intro e; subst e; exact hnj ha
 ·rw [ZJl, ZIT, YU, YU, mhas_del' hn]
  simp only [Nat.sub_zero]
  constructor
  ·rintro (⟨a, b, c, d⟩ | rfl)
   ·exact ⟨a, b, c, by rw [d]; split <;> rfl⟩
   ·exact ⟨Nat.zero_le _, hjl, ho, if_pos hwho.symm⟩
  ·rintro ⟨a, b, c, d⟩
   by_cases hq : q = j
   ·exact .inr hq
   ·refine .inl ⟨a, b, c, ?_⟩
    have hne : ¬ k = (L.getD q tx0).who := fun h => hq (by
     have := ZeL hw b
     rw [<- h, hj] at this; exact this.symm)
    rw [if_neg hne] at d; exact d
theorem Zia {L : List Tx} {left : List (Int × Int)} (hn : (left.map (·.1)).Nodup) (hw : (L.map (·.who)).Nodup) {k : Int} {j : Nat} (hj : ixL k L = j) (hjl : j < L.length) (ho : (L.getD j tx0).opn = false) :
  (Zcx left L 0).Perm (Zcx (ZaQ left k) L 0) := by
 refine (List.perm_ext_iff_of_nodup Y7 Y7).2 fun q => ?_
 rw [YU, YU, mhas_del' hn]
 simp only [Nat.sub_zero]
 constructor
 ·rintro ⟨a, b, c, d⟩
  exact ⟨a, b, c, by rw [d]; split <;> rfl⟩
 ·rintro ⟨a, b, c, d⟩
  refine ⟨a, b, c, ?_⟩
  have hne : ¬ k = (L.getD q tx0).who := fun h => by
   have := ZeL hw b
   rw [<- h, hj] at this
   rw [this, c] at ho; cases ho
  rw [if_neg hne] at d; exact d
theorem ZeH {R : List (List Int)} {a b : List Nat} (h : a.Perm b) : (Zdb R a).Perm (Zdb R b) := h.map _
def ZFv : SX := ixB (rA 5) (ai 4)
def Zug : Ctr := ⟨[.int, .int, .int, .rows, .int, .rows, .g], [.one (slC (ai 0) (ai 1) (ai 2) 1), .one (.ptr (ai 4) 0)], [pAr (ai 0) (rA 3) (ai 2), txO ZFv (rA 5) (gA 6)] ++ txP (ai 4) (rA 5) (gA 6) ZFv,
 [.f2 45 (ai 1) (Zr (rA 3)), eLe (ai 1) (ai 2), eLe (ai 1) mil, usB 560 (rA 3) (rA 5) z0, usB 565 (rA 5) (ai 4) z0, usB 558 (rA 5) (gA 6) z0, .f2 45 (Zr (rA 5)) (usI 552 (gA 6) z0 z0), eLt ZFv (usI 552 (gA 6) z0 z0), .f2 45 (ai 4) (nt (rA 5) ZFv 0)], [.bool], .one (.bool (qA 7)),
 [pAr (ai 0) (rA 3) (ai 2), txO ZFv (rA 5) (gA 6)] ++ txP (ai 4) (rA 5) (gA 6) ZFv, [.f2 48 (qA 7) (usB 562 (rA 3) (ai 4) z0)]⟩
def cn2I : Inv := cntI
def cn2E : SX := .f2 45 (ai 4) (nt (rA 3) (ai 7) 0)
def ZHa : Cx := { specs := [], anns := [(55, [(0, .ghost Zrj [.tmp 1]), (999999, .ghost ZyE [.tmp 1])]),
 (76, [(2, .inv cn2I), (4, .split cn2E), (4, .iff (Zdz cn2E)), (4, .ghost ZBm [.tmp 0, .tmp 5, .tmp 1]), (500004, .iff (Zdz cn2E)), (500004, .ghost ZCW [.tmp 1])])] }
def Zyh : Ctr := ⟨hA, [.one (hS 0)], [hC 0 0], [eLe z0 (ai 2), eLe (ai 2) (Zr (rA 4)), eLe (ai 2) (ai 3), eLe (ai 2) (.int 1099511627776)], [.int, .int], .tup [(false, [.ptr (ai 6) 0]), (false, [.int .i64 (ai 7)])], [hC 0 0, bkC (ai 6) xX],
 [.f2 45 (ai 7) (usI 523 xX z0 z0), .f2 48 (eLe z0 (ai 6)) (.f2 45 (ai 7) z0)]⟩
def wG (i : SX) : SX := usG 561 xX i z0
def wK (i R : SX) : SX := usR 548 xX i R
def wO (i : SX) : SX := usR 549 xX i z0
def wM (R g : SX) : SX := .us .amap 547 R g z0 z0
def wrtI (m b : Nat) : Inv := ⟨[.int, .rows, .int, .int, .int, .int, .int, .int, .rows], [(22, .one (.int .i64 (di 0))), (5, .one (slC (di 6) (Zr (rA 1000008)) (di 7) 1))],
 [.cel (ai b) 0 (bkQ (ai m) (di 2) (Zr (wK (di 0) (rA 1000001))) (di 3) (di 4) (Zr (wO (di 0))) (di 5) (.int (-1)) z0), imC (ai m) (wM (rA 1000001) (wG (di 0))), pAr (di 2) (wK (di 0) (rA 1000001)) (di 3), rAr (di 4) (wO (di 0)) (di 5), pAr (di 6) (rA 1000008) (di 7), txC (rA 1000001) (wG (di 0))],
 [eLe z0 (di 0), eLe (di 0) (ai 2), eLe (Zr (wK (di 0) (rA 1000001))) (di 3), .f2 50 (eLe z0 (di 2)) (.f2 45 (Zr (wK (di 0) (rA 1000001))) z0), eLe (Zr (wO (di 0))) (di 5), .f2 50 (eLe z0 (di 4)) (.f2 45 (Zr (wO (di 0))) z0),
  eLe (Zr (rA 1000008)) (di 7), .f2 50 (eLe z0 (di 6)) (.f2 45 (Zr (rA 1000008)) z0), .us .bool 559 xX (di 0) (rA 1000001) (rA 1000008), .f2 45 (usI 550 xX (di 0) z0) (.int (-1)), .f2 45 (usI 551 xX (di 0) z0) z0], .f2 41 (ai 2) (di 0)⟩
def wrcI (m g R it : Nat) : Inv := ⟨[.amap, .ints, .rows, .int, .int, .rows], [(5, .one (slC (di 3) (Zr (rA 1000005)) (di 4) 1))],
 [.itr (.int .i64) (.one .ptr) (ai m) (wM (rA R) (wG (ai g))) (ai it) (mA 1000000) (iA 1000001), pAr (di 3) (rA 1000005) (di 4), txC (rA 1000002) (.us .g 568 (wG (ai g)) (mA 1000000) z0 z0)],
 [eLe (Zr (rA 1000005)) (di 4), .f2 50 (eLe z0 (di 3)) (.f2 45 (Zr (rA 1000005)) z0), usB 569 (rA 1000002) (rA R) z0, .us .bool 570 (wG (ai g)) (mA 1000000) (rA R) (rA 1000005), usB 571 (mA 1000000) (wM (rA R) (wG (ai g))) z0], .f1 33 (mA 1000000)⟩
def wT (n : Nat) : SX := .f3 140 (.int (-1)) (wM (rA (n + 1)) (wG (ai n))) (nt (rA 4) (ai n) 1)
def ZGl : Cx := { specs := [(50, [Ztf]), (54, [ZxH]), (55, [Zug, ZuD])], anns := [(25, [(6, .ghost ZBo []), (6, .ghost ZBo []), (6, .ghost ZFL []), (6, .ghost emTC []), (8, .inv (wrtI 7 8)), (9, .ghost gdTC []), (11, .split (eLe z0 (wT 9))), (11, .iff (eLe z0 (wT 9))), (11, .ghost Zy2 [.tmp 8, .tmp 32]), (500011, .iff (eLe z0 (wT 9))), (500011, .ghost Zrj [.tmp 8]),
  (500016, .ghost adTC [.tmp 62]), (500017, .ghost ZBo []), (500019, .ghost ZBo []), (20, .ghost Zy2 [.tmp 8, .tmp 32]), (500020, .ghost Znx [.tmp 8]), (29, .ghost Zy2 [.tmp 8, .tmp 32]), (500029, .ghost Znx [.tmp 8]), (33, .ghost Zy2 [.tmp 8, .tmp 32]), (500033, .ghost Znx [.tmp 8]),
  (35, .iff (eLe z0 (wT 9))), (35, .ghost ZyE [.tmp 8]), (500035, .iff (eLe z0 (wT 9))), (500035, .ghost Zrj [.tmp 8]), (39, .ghost Zy2 [.tmp 8, .tmp 32]), (500039, .ghost Znx [.tmp 8]), (500042, .ghost ZBo []), (44, .inv (wrcI 7 9 10 19)), (46, .ghost ZyE [.tmp 11]), (500046, .ghost Zrj [.tmp 11]), (47, .ghost ZyE [.tmp 11]), (500047, .ghost Znx [.tmp 11]), (999999, .iff (eLt (.int 400) (ai 2))), (999999, .ghost ZFF [.tmp 0, .tmp 2]), (999999, .iff (qA 6)), (999999, .ghost ZFF [.tmp 0, .tmp 2]), (999999, .iff (Zdz (qA 6))), (999999, .ghost Zsf [.tmp 0, .tmp 2])])] }
def ZCv : SX := v 552 (g 6)
def ZyH : SX := e (.f1 32 (r 5)) ZCv
def Zhq : SX := d 566 (r 5) (a 4)
def ZAb : SX := t Zhq ZCv
def ZC3 : SX := .f3 112 (r 5) Zhq z
def ZyS : SX := e (a 4) ZC3
def ZCt : SX := l z (a 7)
def ZEE : SX := .f3 112 (r 3) (a 7) z
def ZBI : SX := e (a 4) ZEE
def ZDP : SX := t (a 7) (.f1 32 (r 3))
def Zuv : SX := .f1 32 (wR 545 (g 6) Zhq)
def ZwW : SX := l Zuv (.f3 112 (r 5) Zhq (k 3))
def ZwC : SX := .f1 30 (wN 546 (g 6) Zhq)
def Zxp : SX := l ZwC (.f3 112 (r 5) Zhq (k 5))
def ZwN : SX := .f2 50 (l z (.f3 112 (r 5) Zhq (k 2))) (e Zuv z)
def ZsA : SX := .f2 50 (l z (.f3 112 (r 5) Zhq (k 4))) (e ZwC z)
def ZwZ : SX := l z (.f3 112 (r 5) Zhq (k 1))
def Zwu : SX := l z ZC3
def ZwE : SX := c 562 (r 3) (a 4)
def ZiH : SX := .f2 40 (a 7) (k 1)
def ZuI : SX := .f2 41 (a 1) ZiH
def ZGD : VC := i (e (a 1) (.f1 32 (r 3))) (i (l (a 1) (a 2)) (i (l (a 1) (k 1000000)) (i (c 560 (r 3) (r 5)) (i (c 565 (r 5) (a 4)) (i (c 558 (r 5) (g 6)) (i ZyH (i ZAb (i ZyS (n (l z Zhq) (n (l z (a 1)) (n (.f1 2 (c 562 (.f2 115 (r 3) z) (a 4))) (u 7 .int (i ZCt (i (l (a 7) (a 1)) (i (.f1 2 (c 562 (.f2 115 (r 3) (a 7)) (a 4))) (.and (i (t (a 7) (a 1)) (.and (i ZBI (n ZDP (n (l z (a 4)) (i ZyS (i ZAb (i ZwW (i Zxp (i ZwN (i ZsA (i ZwZ (i Zwu (i ZyH (n (.f2 48 ZCt ZwE) .tt))))))))))))) (i (.f1 2 ZBI) (n (c 565 (r 5) ZEE) (n ZDP (n (.f1 23 ZiH) (n (l z ZuI) (n (t ZuI (.f2 41 (a 1) (a 7))) (n (l z ZiH) (n (l ZiH (a 1)) (n (.f1 2 (c 562 (.f2 115 (r 3) ZiH) (a 4))) .tt))))))))))) (i (l (a 1) (a 7)) (i ZyS (i ZAb (i ZwW (i Zxp (i ZwN (i ZsA (i ZwZ (i Zwu (i ZyH (n (.f2 48 (.bool false) ZwE) .tt)))))))))))))))))))))))))))
theorem ZHq : Zdt Tryz.prog ZHa 12 55 Zug = ZGD := by kernel_rfl
def Ye : SX := .f2 115 (r 4) (a 2)
def Zz6 : SX := v 523 Ye
def ZCw : SX := l z (a 8)
def ZCe : SX := hR0 548 Ye z (.f1 154 z)
def ZB2 : SX := .f1 32 ZCe
def ZFf : SX := e ZB2 z
def ZCb : SX := vR 549 Ye
def ZDQ : SX := .f1 32 ZCb
def ZEn : SX := e ZDQ z
def ZD9 : SX := w 561 Ye
def Zev : SX := hR0 548 Ye (a 9) (r 10)
def ZbW : SX := .f1 32 Zev
def Zhk : SX := l z (a 11)
def Zk3 : SX := wR 549 Ye (a 9)
def ZeD : SX := .f1 32 Zk3
def Zxf : SX := l z (a 13)
def ZM : SX := f 561 Ye (a 9)
def ZaJ : SX := wM0 547 (r 10) ZM
def ZgR : SX := .f3 112 (r 4) (a 9) (k 1)
def ZcP : SX := .f3 140 (k (-1)) ZaJ ZgR
def ZkV : SX := l z ZcP
def ZX : SX := d 553 ZM ZgR
def ZpP : SX := v 552 ZM
def ZtJ : SX := .f3 112 (r 10) ZX z
def Zif : SX := wR 545 ZM ZX
def Zh5 : SX := .f1 32 Zif
def Zuq : SX := .f3 112 (r 10) ZX (k 3)
def ZfK : SX := l Zh5 Zuq
def ZiJ : SX := wN 546 ZM ZX
def Zh9 : SX := .f1 30 ZiJ
def Zun : SX := .f3 112 (r 10) ZX (k 5)
def ZfE : SX := l Zh9 Zun
def Zt9 : SX := .f3 112 (r 10) ZX (k 2)
def Zfr : SX := .f2 50 (l z Zt9) (e Zh5 z)
def Zyx : SX := .f3 112 (r 10) ZX (k 4)
def Zfx : SX := .f2 50 (l z Zyx) (e Zh9 z)
def ZpS : SX := .f3 112 (r 10) ZX (k 1)
def Zfp : SX := l z ZpS
def Zfv : SX := l z ZtJ
def Zej : SX := e (.f1 32 (r 10)) ZpP
def ZeF : SX := .f3 112 (r 4) (a 9) z
def Zp4 : SX := e ZeF (k 1)
def Zib : SX := .f1 32 Ye
def Zax : SX := .f2 155 ZM (f 561 Ye Zib)
def Zah : SX := .f2 155 ZaJ ZaJ
def Zao : SX := .f2 155 Zev (hR0 548 Ye Zib (r 10))
def Zaw : SX := .f2 155 Zk3 (wR 549 Ye Zib)
def Zam : SX := e ZbW ZbW
def Zak : SX := e ZeD ZeD
def ZwY : SX := d 550 Ye Zib
def ZaH : SX := e (a 9) ZwY
def Zqj : SX := d 551 Ye Zib
def Zbm : SX := e (k 1) Zqj
def Zan : SX := e z Zz6
def Zaj : SX := .f2 48 ZCw (.bool true)
def Zwd : SX := .f1 2 Zp4
def ZqZ : SX := e ZeF (k 2)
def Zqp : SX := e ZgR z
def ZfC : SX := l z (a 19)
def Zv5 : SX := l ZeD ZeD
def ZkY : SX := .f2 40 ZeD (k 1)
def ZwM : SX := l (.f2 42 ZkY (k 72)) k1
def ZwT : SX := l ZkY (a 21)
def Zhg : SX := l z (a 20)
def ZsD : SX := .f2 50 Zhg (e ZkY z)
def YJ : SX := .f2 40 (a 9) (k 1)
def Zbv : SX := .f1 23 YJ
def Zuj : SX := .f2 41 (a 2) YJ
def Zby : SX := l z Zuj
def Zbu : SX := t Zuj (.f2 41 (a 2) (a 9))
def Zbp : SX := l z YJ
def ZbA : SX := l YJ (a 2)
def Zuk : SX := hR0 548 Ye YJ (r 10)
def Zpz : SX := .f1 32 Zuk
def Zl3 : SX := l Zpz (a 12)
def Zlt : SX := .f2 50 Zhk (e Zpz z)
def Zpn : SX := wR 549 Ye YJ
def Zig : SX := .f1 32 Zpn
def Ztc : SX := l Zig (a 21)
def ZtZ : SX := e Zig z
def ZsO : SX := .f2 50 Zhg ZtZ
def ZtL : SX := .us .bool 559 Ye YJ (r 10) (.f1 154 z)
def Zbz : SX := e (d 550 Ye YJ) (k (-1))
def Zbo : SX := e (d 551 Ye YJ) z
def ZbQ : SX := f 561 Ye YJ
def ZkP : SX := .f2 155 ZbQ ZM
def ZuP : SX := .f1 35 (.f1 36 (.f3 112 (r 4) (a 9) (k 2)))
def Zwj : SX := .f1 35 (.f1 36 (.f3 112 (r 4) (a 9) (k 3)))
def Zxr : SX := .f3 112 (r 4) (a 9) (k 5)
def ZpB : SX := .f2 122 ZeF (.f2 122 ZgR (.f2 122 ZuP (.f2 122 Zwj (.f2 122 (.f1 3 (.f1 2 (e (.f3 112 (r 4) (a 9) (k 4)) z))) (.f2 122 Zxr (.f1 152 z))))))
def ZtU : SX := .f2 155 Zpn (.f2 121 Zk3 (.f2 124 (.f2 122 (a 9) ZpB) (.f1 154 z)))
def ZkN : SX := .f2 155 Zuk Zev
def ZkB : SX := .f2 155 (wM0 547 (r 10) ZbQ) ZaJ
def ZvD : SX := e Zig ZkY
def ZmI : SX := e Zpz ZbW
def Zue : SX := .f1 2 Zqp
def ZwV : SX := c 543 ZM ZX
def Zho : SX := .f1 2 ZwV
def ZiC : SX := .f1 2 Zho
def ZhG : SX := wM0 544 ZM ZX
def Zoa : SX := .us .rows 563 ZhG ZpB Zif (a 9)
def ZgZ : SX := .f1 32 Zoa
def ZnQ : SX := .us .ints 564 ZhG ZpB ZiJ (a 9)
def ZgV : SX := .f1 30 ZnQ
def Zi6 : SX := l z (a 21)
def ZnR : SX := d 540 ZM ZX
def ZdM : SX := e ZnR ZnR
def Zoh : SX := d 541 ZM ZX
def ZdY : SX := e Zoh Zoh
def Zkj : SX := hR0 554 (r 10) ZX (.f2 122 ZcP (.f2 122 ZpS (.f2 122 (a 19) (.f2 122 (a 20) (.f2 122 (a 21) (.f2 122 (a 22) (.f1 152 z)))))))
def Zng : SX := hR0 548 Ye YJ Zkj
def ZjA : SX := .f1 32 Zng
def ZaD : SX := l Zig (a 14)
def Zaz : SX := .f2 50 Zxf ZtZ
def ZnH : SX := d 542 ZM ZX
def ZoR : SX := .f2 122 ZnH (.f2 122 (.f1 3 ZwV) (.f1 152 z))
def ZaA : SX := .f2 155 Zpn Zk3
def ZaC : SX := e Zig ZeD
def ZoD : SX := .f1 2 ZqZ
def ZeS : SX := e ZeF (k 3)
def ZeR : SX := e Zh5 Zh5
def Ze5 : SX := e Zh9 Zh9
def ZjE : SX := hR0 554 (r 10) ZX (.f2 122 ZcP (.f2 122 ZpS (.f2 122 Zt9 (.f2 122 Zuq (.f2 122 Zyx (.f2 122 Zun (.f1 152 z)))))))
def ZjJ : SX := hR0 548 Ye YJ ZjE
def ZdE : SX := .f1 32 ZjJ
def Zi8 : SX := l ZdE (a 12)
def ZiZ : SX := e ZdE z
def Zkd : SX := .f2 50 Zhk ZiZ
def Ze4 : SX := .us .bool 559 Ye YJ ZjE (r 17)
def ZhE : SX := e ZeF (k 4)
def Znl : SX := .f2 155 ZbQ (.us .g 556 (.us .g 555 ZM ZX (.f3 142 ZhG ZuP (.f2 40 (.f2 42 Zwj (k 2)) (.f1 3 ZhE))) ZoR) ZX Zif ZiJ)
def ZjP : SX := .f2 155 ZjJ Zev
def Zfe : SX := .f2 155 (wM0 547 ZjE ZbQ) ZaJ
def Zkt : SX := e ZdE ZbW
def ZoA : SX := .f1 2 ZeS
def Zoo : SX := .f1 2 ZhE
def Zjg : SX := e ZeF (k 6)
def Zgr : SX := .f2 122 z (.f1 152 z)
def ZnX : SX := .f1 2 Zjg
def Zi0 : SX := e ZeF (k 5)
def ZnN : SX := c 565 (r 10) ZcP
def ZaB : SX := d 566 (r 10) ZcP
def Zo6 : SX := .f3 112 (r 10) ZaB z
def ZoV : SX := .f1 32 (wR 545 ZM ZaB)
def Zoz : SX := .f1 30 (wN 546 ZM ZaB)
def Zpb : SX := e (.f1 32 (r 17)) (.f1 32 (r 17))
def Znm : SX := l (.f1 32 (r 17)) (k 1000000)
def Zn3 : SX := c 560 (r 17) (r 10)
def Zo2 : SX := .f2 48 (q 19) (c 562 (r 17) ZcP)
def ZnZ : SX := .f1 2 (.f1 2 (q 19))
def Zj8 : SX := l z ZaB
def Znf : SX := d 542 ZM ZaB
def ZnP : SX := l z Znf
def Zoi : SX := t Znf z
def ZcB : SX := .f2 40 ZbW (k 1)
def Zok : SX := .f1 23 ZcB
def Zj6 : SX := e Zxr ZcB
def ZoO : SX := .f1 2 Zj6
def Zob : SX := e (k 2) Zqj
def ZoJ : SX := l ZbW ZbW
def Zo3 : SX := l (.f2 42 ZcB (k 8)) k1
def ZnJ : SX := e ZcB z
def ZmX : SX := .f2 155 ZbQ (.us .g 556 (.us .g 555 ZM ZX ZhG (.f2 122 (a 9) Zgr)) ZX Zif ZiJ)
def ZnE : SX := .f2 155 ZjJ (.f2 121 Zev (.f2 124 (.f2 122 ZcP (.f1 152 z)) (.f1 154 z)))
def Zoc : SX := e ZdE ZcB
def Zm3 : SX := .f1 2 Zi0
def ZjK : SX := e ZeF (k 7)
def Zpa : SX := c 569 (r 10) (r 10)
def Zox : SX := .us .bool 570 ZM ZaJ (r 10) (.f1 154 z)
def Zof : SX := c 571 ZaJ ZaJ
def Zna : SX := .f2 155 (f 568 ZM ZaJ) ZM
def ZoB : SX := l (.f1 32 (r 25)) (a 24)
def Zod : SX := .f2 50 (l z (a 23)) (e (.f1 32 (r 25)) z)
def Zn4 : SX := c 569 (r 22) (r 10)
def Znj : SX := .us .bool 570 ZM (m 20) (r 10) (r 25)
def Zm4 : SX := c 571 (m 20) ZaJ
def Zm9 : SX := e (.f1 33 (m 20)) z
def ZnW : SX := hR0 548 Ye YJ (r 22)
def Zkf : SX := .f1 32 ZnW
def Zn1 : SX := l Zkf (a 12)
def Zm7 : SX := .f2 50 Zhk (e Zkf z)
def ZnU : SX := .us .bool 559 Ye YJ (r 22) (r 25)
def ZaG : SX := f 568 ZM (m 20)
def Zm5 : SX := .f2 155 ZbQ ZaG
def ZmT : SX := .f2 155 ZnW Zev
def ZoG : SX := .f2 155 (wM0 547 (r 22) ZbQ) ZaJ
def Zo7 : SX := e Zkf ZbW
def Zm8 : SX := .f2 141 (m 20) (a 26)
def ZeY : SX := .f3 140 z ZaJ (a 26)
def ZoQ : SX := c 565 (r 22) ZeY
def ZZ : SX := d 566 (r 22) ZeY
def Zom : SX := .f3 112 (r 22) ZZ z
def ZgE : SX := e ZeY Zom
def Zo0 : SX := v 552 ZaG
def Zgp : SX := t ZZ Zo0
def Znd : SX := wR 545 ZaG ZZ
def Zhr : SX := .f1 32 Znd
def Zo5 : SX := .f3 112 (r 22) ZZ (k 3)
def Zgv : SX := l Zhr Zo5
def ZmV : SX := wN 546 ZaG ZZ
def ZhJ : SX := .f1 30 ZmV
def ZnA : SX := .f3 112 (r 22) ZZ (k 5)
def ZgG : SX := l ZhJ ZnA
def Zog : SX := .f3 112 (r 22) ZZ (k 2)
def Zgl : SX := .f2 50 (l z Zog) (e Zhr z)
def Zor : SX := .f3 112 (r 22) ZZ (k 4)
def ZgF : SX := .f2 50 (l z Zor) (e ZhJ z)
def Zoe : SX := .f3 112 (r 22) ZZ (k 1)
def Zhe : SX := l z Zoe
def Zhj : SX := l z Zom
def Zg0 : SX := e (.f1 32 (r 22)) Zo0
def ZoC : SX := l z ZZ
def Zj3 : SX := c 543 ZaG ZZ
def ZoI : SX := d 540 ZaG ZZ
def Zop : SX := e ZoI ZoI
def ZnO : SX := d 541 ZaG ZZ
def Zm0 : SX := e ZnO ZnO
def ZoZ : SX := e Zhr Zhr
def ZnF : SX := e ZhJ ZhJ
def Znv : SX := l z (a 27)
def ZmW : SX := l (.f1 32 (r 25)) (.f1 32 (r 25))
def Zkq : SX := .f2 40 (.f1 32 (r 25)) (k 1)
def Zoy : SX := l (.f2 42 Zkq (k 8)) k1
def Znq : SX := l Zkq (a 29)
def Zo1 : SX := .f2 50 (l z (a 28)) (e Zkq z)
def ZeO : SX := .f2 143 (m 20) (a 26)
def Zg6 : SX := t (.f1 33 ZeO) (.f1 33 (m 20))
def Znw : SX := c 569 (hR0 554 (r 22) ZZ (.f2 122 ZeY (.f2 122 Zoe (.f2 122 Zog (.f2 122 Zo5 (.f2 122 Zor (.f2 122 ZnA (.f1 152 z)))))))) (r 10)
def Zoq : SX := .us .bool 570 ZM ZeO (r 10) (.f2 121 (r 25) (.f2 124 (.f2 122 ZeY (.f1 152 z)) (.f1 154 z)))
def ZhK : SX := c 571 ZeO ZaJ
def Znb : SX := f 568 ZM ZeO
def ZnS : SX := .f2 155 Znb (.us .g 556 (.us .g 555 ZaG ZZ (wM0 544 ZaG ZZ) (.f2 122 (d 542 ZaG ZZ) Zgr)) ZZ Znd ZmV)
def Zov : SX := .f1 2 Zj3
def Zo9 : SX := .us .bool 570 ZM ZeO (r 10) (r 25)
def Znt : SX := .f2 155 Znb ZaG
def ZnD : SX := .f1 2 ZjK
def ZoP : SX := .us .bool 559 Ye YJ (r 10) (r 17)
def Zhy : SX := t ZcP z
def ZjX : SX := .f2 121 (r 10) (.f2 124 (.f2 122 (a 20) (.f2 122 (a 19) (.f2 122 (k (-1)) (.f2 122 z (.f2 122 (k (-1)) Zgr))))) (.f1 154 z))
def Zot : SX := hR0 548 Ye YJ ZjX
def ZjM : SX := .f1 32 Zot
def ZGJ : VC := i (l z (a 2)) (i (l (a 2) (.f1 32 (r 4))) (i (l (a 2) (a 3)) (i (l (a 2) k0) (.and (i (t (k 400) (a 2)) (n (e (k 2) Zz6) .tt)) (i (l (a 2) (k 400)) (u 6 .bool (i (.f2 48 (q 6) (.f1 2 (c 511 (r 4) (a 2)))) (.and (i (q 6) (n (e (k 280) Zz6) .tt)) (i (.f1 2 (q 6)) (u 7 .int (i (l z (a 7)) (u 8 .int (i ZCw (n (l ZB2 z) (n (.f2 50 (.bool false) ZFf) (n (l ZDQ z) (n (.f2 50 (.bool false) ZEn) (n (.us .bool 559 Ye z (.f1 154 z) (.f1 154 z)) (n (e (v 550 Ye) (k (-1))) (n (e (v 551 Ye) z) (n (.f2 155 ZD9 (w 561 (.f1 154 z))) (n (.f2 155 ZCb (.f1 154 z)) (n (.f2 155 ZCe (.f1 154 z)) (n (.f2 155 (wM0 547 (.f1 154 z) ZD9) (.f1 155 z)) (n ZEn (n ZFf (u 9 .int (u 10 .rows (u 11 .int (u 12 .int (u 13 .int (u 14 .int (u 15 .int (u 16 .int (u 17 .rows (i (l z (a 9)) (i (l (a 9) (a 2)) (i (l ZbW (a 12)) (i (.f2 50 Zhk (e ZbW z)) (i (l ZeD (a 14)) (i (.f2 50 Zxf (e ZeD z)) (i (l (.f1 32 (r 17)) (a 16)) (i (.f2 50 (l z (a 15)) (e (.f1 32 (r 17)) z)) (i (.us .bool 559 Ye (a 9) (r 10) (r 17)) (i (e (d 550 Ye (a 9)) (k (-1))) (i (e (d 551 Ye (a 9)) z) (.and (i (t (a 9) (a 2)) (i (c 558 (r 10) ZM) (n (t (a 9) (.f1 32 (r 4))) (u 18 .int (i (l z (a 18)) (.and (i ZkV (n (t ZX ZpP) (n (e ZcP ZtJ) (i ZfK (i ZfE (i Zfr (i Zfx (i Zfp (i Zfv (i Zej (.and (i ZkV (n (l z ZX) (.and (i Zp4 (.and (i ZkV (n Zax (n Zah (n Zao (n Zaw (n Zam (n Zak (n ZaH (n Zbm (n Zan (n Zaj .tt))))))))))) .tt)) (i Zwd (.and (i ZqZ (.and (i Zqp (u 19 .int (i ZfC (n Zv5 (n ZwM (u 20 .int (u 21 .int (i ZwT (i ZsD (n Zbv (n Zby (n Zbu (n Zbp (n ZbA (n Zl3 (n Zlt (n Ztc (n ZsO (n ZtL (n Zbz (n Zbo (n ZkP (n ZtU (n ZkN (n ZkB (n ZvD (n ZmI .tt))))))))))))))))))))))))))) (i Zue (.and (i Zho (n Zax (n Zah (n Zao (n Zaw (n Zam (n Zak (n ZaH (n Zbm (n Zan (n Zaj .tt))))))))))) (i ZiC (i ZfK (i ZfE (i Zfr (i Zfx (i Zfp (i Zfv (i Zej (n (l Zh5 (k 1000000)) (n (l Zh9 (k 1000000)) (u 19 .int (u 20 .int (u 21 .int (u 22 .int (i (l ZgZ (a 20)) (i (l ZgV (a 22)) (i (.f2 50 ZfC (e ZgZ z)) (i (.f2 50 Zi6 (e ZgV z)) (n ZdM (n ZdY (n (e ZgZ ZgZ) (n (e ZgV ZgV) (n Zbv (n Zby (n Zbu (n Zbp (n ZbA (n (l ZjA (a 12)) (n (.f2 50 Zhk (e ZjA z)) (n ZaD (n Zaz (n (.us .bool 559 Ye YJ Zkj (.f1 154 z)) (n Zbz (n Zbo (n (.f2 155 ZbQ (.us .g 556 (.us .g 555 ZM ZX ZhG ZoR) ZX Zoa ZnQ)) (n ZaA (n (.f2 155 Zng Zev) (n (.f2 155 (wM0 547 Zkj ZbQ) ZaJ) (n ZaC (n (e ZjA ZbW) .tt)))))))))))))))))))))))))))))))))))))))))))) (i ZoD (.and (i ZeS (.and (i ZeS (.and (i Zho (n Zax (n Zah (n Zao (n Zaw (n Zam (n Zak (n ZaH (n Zbm (n Zan (n Zaj .tt))))))))))) (i ZiC (i ZfK (i ZfE (i Zfr (i Zfx (i Zfp (i Zfv (i Zej (n ZdM (n ZdY (n ZeR (n Ze5 (n Zbv (n Zby (n Zbu (n Zbp (n ZbA (n Zi8 (n Zkd (n ZaD (n Zaz (n Ze4 (n Zbz (n Zbo (n Znl (n ZaA (n ZjP (n Zfe (n ZaC (n Zkt .tt)))))))))))))))))))))))))))))))) .tt)) (i ZoA (.and (i ZhE (.and (i Zho (n Zax (n Zah (n Zao (n Zaw (n Zam (n Zak (n ZaH (n Zbm (n Zan (n Zaj .tt))))))))))) (i ZiC (i ZfK (i ZfE (i Zfr (i Zfx (i Zfp (i Zfv (i Zej (n ZdM (n ZdY (n ZeR (n Ze5 (n Zbv (n Zby (n Zbu (n Zbp (n ZbA (n Zi8 (n Zkd (n ZaD (n Zaz (n Ze4 (n Zbz (n Zbo (n Znl (n ZaA (n ZjP (n Zfe (n ZaC (n Zkt .tt)))))))))))))))))))))))))))))))) (i Zoo (.and (i Zjg (.and (i Zho (n Zax (n Zah (n Zao (n Zaw (n Zam (n Zak (n ZaH (n Zbm (n Zan (n Zaj .tt))))))))))) (i ZiC (i ZfK (i ZfE (i Zfr (i Zfx (i Zfp (i Zfv (i Zej (n ZdM (n ZdY (n ZeR (n Ze5 (n Zbv (n Zby (n Zbu (n Zbp (n ZbA (n Zi8 (n Zkd (n ZaD (n Zaz (n Ze4 (n Zbz (n Zbo (n (.f2 155 ZbQ (.us .g 556 (.us .g 555 ZM ZX ZhG (.f2 122 ZnH Zgr)) ZX Zif ZiJ)) (n ZaA (n ZjP (n Zfe (n ZaC (n Zkt .tt)))))))))))))))))))))))))))))))) (i ZnX (.and (i Zi0 (n ZnN (i (e ZcP Zo6) (i (t ZaB ZpP) (i (l ZoV (.f3 112 (r 10) ZaB (k 3))) (i (l Zoz (.f3 112 (r 10) ZaB (k 5))) (i (.f2 50 (l z (.f3 112 (r 10) ZaB (k 2))) (e ZoV z)) (i (.f2 50 (l z (.f3 112 (r 10) ZaB (k 4))) (e Zoz z)) (i (l z (.f3 112 (r 10) ZaB (k 1))) (i (l z Zo6) (i Zej (.and (i Zho (n Zpb (n Znm (n Zn3 (u 19 .bool (i Zo2 (.and (i ZnZ (n Zj8 (.and (i ZnP (n Zax (n Zah (n Zao (n Zaw (n Zam (n Zak (n ZaH (n Zbm (n Zan (n Zaj .tt))))))))))) (i Zoi (n Zok (.and (i ZoO (n Zax (n Zah (n Zao (n Zaw (n Zam (n Zak (n ZaH (n Zob (n Zan (n Zaj .tt))))))))))) (i Zj6 (i ZfK (i ZfE (i Zfr (i Zfx (i Zfp (i Zfv (i Zej (n ZdM (n ZdY (n ZeR (n Ze5 (u 20 .int (i Zhg (n ZoJ (n Zo3 (u 21 .int (u 22 .int (i (l ZcB (a 22)) (i (.f2 50 Zi6 ZnJ) (n Zbv (n Zby (n Zbu (n Zbp (n ZbA (n (l ZdE (a 22)) (n (.f2 50 Zi6 ZiZ) (n ZaD (n Zaz (n Ze4 (n Zbz (n Zbo (n ZmX (n ZaA (n ZnE (n Zfe (n ZaC (n Zoc .tt)))))))))))))))))))))))))))))))))))))))))))) (i (.f1 2 (q 19)) (n Zj8 (n Zax (n Zah (n Zao (n Zaw (n Zam (n Zak (n ZaH (n Zbm (n Zan (n Zaj .tt))))))))))))))))))) (i ZiC (n Zj8 (.and (i ZnP (n Zax (n Zah (n Zao (n Zaw (n Zam (n Zak (n ZaH (n
 Zbm (n Zan (n Zaj .tt))))))))))) (i Zoi (n Zok (.and (i ZoO (n Zax (n Zah (n Zao (n Zaw (n Zam (n Zak (n ZaH (n Zob (n Zan (n Zaj .tt))))))))))) (i Zj6 (i ZfK (i ZfE (i Zfr (i Zfx (i Zfp (i Zfv (i Zej (n ZdM (n ZdY (n ZeR (n Ze5 (u 19 .int (i ZfC (n ZoJ (n Zo3 (u 20 .int (u 21 .int (i (l ZcB (a 21)) (i (.f2 50 Zhg ZnJ) (n Zbv (n Zby (n Zbu (n Zbp (n ZbA (n (l ZdE (a 21)) (n (.f2 50 Zhg ZiZ) (n ZaD (n Zaz (n Ze4 (n Zbz (n Zbo (n ZmX (n ZaA (n ZnE (n Zfe (n ZaC (n Zoc .tt)))))))))))))))))))))))))))))))))))))))))))))))))))))))) (i Zm3 (.and (i ZjK (u 19 .int (i ZfC (n Zpa (n Zox (n Zof (n Zna (u 20 .amap (u 21 .ints (u 22 .rows (u 23 .int (u 24 .int (u 25 .rows (i ZoB (i Zod (i Zn4 (i Znj (i Zm4 (.and (i Zm9 (n Zbv (n Zby (n Zbu (n Zbp (n ZbA (n Zn1 (n Zm7 (n ZaD (n Zaz (n ZnU (n Zbz (n Zbo (n Zm5 (n ZaA (n ZmT (n ZoG (n ZaC (n Zo7 .tt))))))))))))))))))) (u 26 .int (i Zm8 (n ZoQ (i ZgE (i Zgp (i Zgv (i ZgG (i Zgl (i ZgF (i Zhe (i Zhj (i Zg0 (n ZoC (.and (i Zj3 (i ZgE (i Zgp (i Zgv (i ZgG (i Zgl (i ZgF (i Zhe (i Zhj (i Zg0 (n Zop (n Zm0 (n ZoZ (n ZnF (u 27 .int (i Znv (n ZmW (n Zoy (u 28 .int (u 29 .int (i Znq (i Zo1 (n Zg6 (n Znw (n Zoq (n ZhK (n ZnS .tt))))))))))))))))))))))))))) (i Zov (n Zg6 (n Zo9 (n ZhK (n Znt .tt)))))))))))))))))))))))))))))))))))))) (i ZnD (n Zbv (n Zby (n Zbu (n Zbp (n ZbA (n Zl3 (n Zlt (n ZaD (n Zaz (n ZoP (n Zbz (n Zbo (n ZkP (n ZaA (n ZkN (n ZkB (n ZaC (n ZmI .tt)))))))))))))))))))))))))))))))))) .tt))))))))))) (i Zhy (.and .tt (i Zhy (.and (i Zp4 (.and .tt (i Zhy (u 19 .int (i ZfC (u 20 .int (i Zhg (n Zbv (n Zby (n Zbu (n Zbp (n ZbA (n (l ZjM (a 12)) (n (.f2 50 Zhk (e ZjM z)) (n ZaD (n Zaz (n (.us .bool 559 Ye YJ ZjX (.f1 154 z)) (n Zbz (n Zbo (n (.f2 155 ZbQ (h 557 ZM ZgR (a 9))) (n ZaA (n (.f2 155 Zot Zev) (n (.f2 155 (wM0 547 ZjX ZbQ) (.f3 142 ZaJ ZgR (a 20))) (n ZaC (n (e ZjM ZbW) .tt))))))))))))))))))))))))) (i Zwd (.and (i ZqZ (.and (i Zqp (u 19 .int (i ZfC (n Zv5 (n ZwM (u 20 .int (u 21 .int (i ZwT (i ZsD (n Zbv (n Zby (n Zbu (n Zbp (n ZbA (n Zl3 (n Zlt (n Ztc (n ZsO (n ZtL (n Zbz (n Zbo (n ZkP (n ZtU (n ZkN (n ZkB (n ZvD (n ZmI .tt))))))))))))))))))))))))))) (i Zue (n Zax (n Zah (n Zao (n Zaw (n Zam (n Zak (n ZaH (n Zbm (n Zan (n Zaj .tt))))))))))))) (i ZoD (.and (i ZeS (.and (i ZeS (n Zax (n Zah (n Zao (n Zaw (n Zam (n Zak (n ZaH (n Zbm (n Zan (n Zaj .tt))))))))))) .tt)) (i ZoA (.and (i ZhE (n Zax (n Zah (n Zao (n Zaw (n Zam (n Zak (n ZaH (n Zbm (n Zan (n Zaj .tt))))))))))) (i Zoo (.and (i Zjg (n Zax (n Zah (n Zao (n Zaw (n Zam (n Zak (n ZaH (n Zbm (n Zan (n Zaj .tt))))))))))) (i ZnX (.and (i Zi0 (n Zpb (n Znm (n Zn3 (n (.f2 50 Zhy ZnN) (u 19 .bool (i Zo2 (.and (i ZnZ (n ZkV (.ff 31))) (i (.f1 2 (q 19)) (n Zax (n Zah (n Zao (n Zaw (n Zam (n Zak (n ZaH (n Zbm (n Zan (n Zaj .tt))))))))))))))))))) (i Zm3 (.and (i ZjK (u 19 .int (i ZfC (n Zpa (n Zox (n Zof (n Zna (u 20 .amap (u 21 .ints (u 22 .rows (u 23 .int (u 24 .int (u 25 .rows (i ZoB (i Zod (i Zn4 (i Znj (i Zm4 (.and (i Zm9 (n Zbv (n Zby (n Zbu (n Zbp (n ZbA (n Zn1 (n Zm7 (n ZaD (n Zaz (n ZnU (n Zbz (n Zbo (n Zm5 (n ZaA (n ZmT (n ZoG (n ZaC (n Zo7 .tt))))))))))))))))))) (u 26 .int (i Zm8 (n ZoQ (i ZgE (i Zgp (i Zgv (i ZgG (i Zgl (i ZgF (i Zhe (i Zhj (i Zg0 (n ZoC (.and (i Zj3 (i ZgE (i Zgp (i Zgv (i ZgG (i Zgl (i ZgF (i Zhe (i Zhj (i Zg0 (n Zop (n Zm0 (n ZoZ (n ZnF (u 27 .int (i Znv (n ZmW (n Zoy (u 28 .int (u 29 .int (i Znq (i Zo1 (n Zg6 (n Znw (n Zoq (n ZhK (n ZnS .tt))))))))))))))))))))))))))) (i Zov (n Zg6 (n Zo9 (n ZhK (n Znt .tt)))))))))))))))))))))))))))))))))))))) (i ZnD (n Zbv (n Zby (n Zbu (n Zbp (n ZbA (n Zl3 (n Zlt (n ZaD (n Zaz (n ZoP (n Zbz (n Zbo (n ZkP (n ZaA (n ZkN (n ZkB (n ZaC (n ZmI .tt))))))))))))))))))))))))))))))))))))))))) (i (l (a 2) (a 9)) (n Zax (n Zah (n Zao (n Zaw (n Zam (n Zak (n (e (k (-1)) ZwY) (n (e z Zqj) (n Zan (n Zaj .tt))))))))))))))))))))))))))))))))))))))))))))))))))))))))))
theorem ZId : Zdt Tryz.prog ZGl 12 25 Zyh = ZGJ := by kernel_rfl
theorem ZIe (S : Sig GG) (hS : JtSig S) : ZG S Tryz.prog 55 Zug := by
 refine Zh S (C := ZHa) (fuel := 12) (YC trivial ⟨⟨⟨by decide, Zha S hS⟩, ⟨by decide, ZhO S hS⟩, trivial⟩, ⟨trivial, trivial, trivial, ⟨by decide, ZBA S hS⟩, trivial, ⟨by decide, ZBx S hS⟩, trivial⟩, trivial⟩ trivial) fun ρ => ?_
 rw [ZHq]
 simp only [ZGD, ZCv, ZyH, Zhq, ZAb, ZC3, ZyS, ZCt, ZEE, ZBI, ZDP, Zuv, ZwW, ZwC, Zxp, ZwN, ZsA, ZwZ, Zwu, ZwE, ZiH, ZuI, hS.u545, hS.u546, hS.u552, hS.u558, hS.u560, hS.u562, hS.u565, hS.u566, ZaN, ZI7, VC.den, SX.den, Env.upd, YA, ZV, beq_iff_eq, ZIZ, beq_eq_false_iff_ne, ne_eq, ZIY, ZIX, Int.reduceToNat, Nat.reduceEqDiff, reduceIte, sB, sC]
 generalize (ρ 3).tR = F
 generalize (ρ 5).tR = R
 generalize (ρ 4).tI = v
 generalize (ρ 1).tI = l
 generalize Z8 _ = L
 intro h1 h2 h3 h4 h5 h6 h7 h8 h9
 refine ⟨by omega, by omega, ZF (by rw [List.take_zero]; exact List.not_mem_nil), fun x hx0 hx1 hx2 => ?_⟩
 obtain ⟨n, rfl⟩ := ZIS hx0
 have e1 : ((n : Int) + 1).toNat = n + 1 := by omega
 simp only [e1, ZI7] at hx2 ⊢
 have hx2 : ¬ [v] ∈ F.take n := fun h => by rw [ZE h] at hx2; cases hx2
 have hv0 : 0 <= v := by
  obtain ⟨k, hk, rfl⟩ := h5
  refine h6.2.2 _ ?_
  rw [ZI0, ZI3 hk, ZIV]; exact ZJn hk
 refine ⟨fun hlt => ?_, fun hge _ _ _ _ _ _ _ _ _ => ⟨?_, trivial⟩⟩
 ·have hn : n < F.length := by omega
  have hgt : F.getD n [] = F[n] := by rw [ZI0, ZI3 hn, ZIV]
  have hm : F.getD n [] ∈ F := by rw [hgt]; exact ZJn hn
  obtain ⟨b, hb, hbl⟩ := h4 _ hm
  have e2 : F.take (n + 1) = F.take n ++ [F.getD n []] := by rw [hgt]; exact (List.take_append_getElem hn).symm
  rw [e2, hb]
  have hb0 : ([b] : List Int).getD 0 0 = b := rfl
  rw [hb0]
  have no : ¬ v = b -> ZN ([v] ∈ F.take n ++ [[b]]) = false := fun hne => ZF fun h => by
   rcases List.mem_append.1 h with h | h
   ·exact hx2 h
   ·rw [ZIT] at h; injection h with h; exact hne h
  refine ⟨fun he => ⟨by omega, by omega, fun _ _ _ _ _ _ _ _ _ => ⟨?_, trivial⟩⟩, fun he => ⟨hbl, by omega, by omega, by omega, by omega, by omega, by omega, no he, trivial⟩⟩
  rw [ZE (by rw [he, <- hb]; exact hm), Za.2 (by omega)]
 ·rw [ZJc (by omega)] at hx2
  rw [ZF hx2]
set_option maxRecDepth 100000 in
set_option maxHeartbeats 4000000 in
theorem ZH5 (S : Sig GG) (hS : JtSig S) : ZG S Tryz.prog 25 Zyh := by
 refine Zh S (C := ZGl) (fuel := 12) (YC ⟨Zk (by decide) (ZGt S hS.jb), Zk (by decide) (ZFR S hS), ZzU (by decide) (ZIe S hS) (by decide) (ZFS S hS), trivial⟩ ⟨⟨⟨by decide, Zly S⟩, ⟨by decide, Zly S⟩, ⟨by decide, ZBj S⟩, ⟨by decide, ZGB S hS⟩, trivial, ⟨by decide, ZGk S hS⟩, trivial, trivial, ⟨by decide, ZmK S hS⟩, trivial, ⟨by decide, Zha S hS⟩, ⟨by decide, ZFQ S hS⟩, ⟨by decide, Zly S⟩, ⟨by decide, Zly S⟩, ⟨by decide, ZmK S hS⟩, ⟨by decide, ZkD S hS⟩, ⟨by decide, ZmK S hS⟩, ⟨by decide, ZkD S hS⟩, ⟨by decide, ZmK S hS⟩, ⟨by decide, ZkD S hS⟩, trivial, ⟨by decide, ZhO S hS⟩, trivial, ⟨by decide, Zha S hS⟩, ⟨by decide, ZmK S hS⟩, ⟨by decide, ZkD S hS⟩, ⟨by decide, Zly S⟩, trivial, ⟨by decide, ZhO S hS⟩, ⟨by decide, Zha S hS⟩, ⟨by decide, ZhO S hS⟩, ⟨by decide, ZkD S hS⟩, trivial, ⟨by decide, ZBp S hS⟩, trivial, ⟨by decide, ZBp S hS⟩, trivial, ⟨by decide, ZGo S hS⟩, trivial⟩, trivial⟩ trivial) fun ρ => ?_
 rw [ZId]
 simp only [ZGJ, Ye, Zz6, ZCw, ZCe, ZB2, ZFf, ZCb, ZDQ, ZEn, ZD9, Zev, ZbW, Zhk, Zk3, ZeD, Zxf, ZM, ZaJ, ZgR, ZcP, ZkV, ZX, ZpP, ZtJ, Zif, Zh5, Zuq, ZfK, ZiJ, Zh9, Zun, ZfE, Zt9, Zfr, Zyx, Zfx, ZpS, Zfp, Zfv, Zej, ZeF, Zp4, Zib, Zax, Zah, Zao, Zaw, Zam, Zak, ZwY, ZaH, Zqj, Zbm, Zan, Zaj, Zwd, ZqZ, Zqp, ZfC, Zv5, ZkY, ZwM, ZwT, Zhg, ZsD, YJ, Zbv, Zuj, Zby, Zbu, Zbp, ZbA, Zuk, Zpz, Zl3, Zlt, Zpn, Zig, Ztc, ZtZ, ZsO, ZtL, Zbz, Zbo, ZbQ, ZkP, ZuP, Zwj, Zxr, ZpB, ZtU, ZkN, ZkB, ZvD, ZmI, Zue, ZwV, Zho, ZiC, ZhG, Zoa, ZgZ, ZnQ, ZgV, Zi6, ZnR, ZdM, Zoh, ZdY, Zkj, Zng, ZjA, ZaD, Zaz, ZnH, ZoR, ZaA, ZaC, ZoD, ZeS, ZeR, Ze5, ZjE, ZjJ, ZdE, Zi8, ZiZ, Zkd, Ze4, ZhE, Znl, ZjP, Zfe, Zkt, ZoA, Zoo, Zjg, Zgr, ZnX, Zi0, ZnN, ZaB, Zo6, ZoV, Zoz, Zpb, Znm, Zn3, Zo2, ZnZ, Zj8, Znf, ZnP, Zoi, ZcB, Zok, Zj6, ZoO, Zob, ZoJ, Zo3, ZnJ, ZmX, ZnE, Zoc, Zm3, ZjK, Zpa, Zox, Zof, Zna, ZoB, Zod, Zn4, Znj, Zm4, Zm9, ZnW, Zkf, Zn1, Zm7, ZnU, ZaG, Zm5, ZmT, ZoG, Zo7, Zm8, ZeY, ZoQ, ZZ, Zom, ZgE, Zo0, Zgp, Znd, Zhr, Zo5, Zgv, ZmV, ZhJ, ZnA, ZgG, Zog, Zgl, Zor, ZgF, Zoe, Zhe, Zhj, Zg0, ZoC, Zj3, ZoI, Zop, ZnO, Zm0, ZoZ, ZnF, Znv, ZmW, Zkq, Zoy, Znq, Zo1, ZeO, Zg6, Znw, Zoq, ZhK, Znb, ZnS, Zov, Zo9, Znt, ZnD, ZoP, Zhy, ZjX, Zot, ZjM, hS.jb.rf.u511, hS.jb.rf.u523, hS.u540, hS.u541, hS.u542, hS.u543, hS.u544, hS.u545, hS.u546, hS.u547, hS.u548, hS.u549, hS.u550, hS.u551, hS.u552, hS.u553, hS.u554, hS.u555, hS.u556, hS.u557, hS.u558, hS.u559, hS.u560, hS.u561, hS.u562, hS.u563, hS.u564, hS.u565, hS.u566, hS.u568, hS.u569, hS.u570, hS.u571, ZaN, ZI7, VC.den, SX.den, Env.upd, YA, ZV, beq_iff_eq, ZIZ, beq_eq_false_iff_ne, ne_eq, ZIY, ZIX, Int.reduceToNat, Nat.reduceEqDiff, reduceIte, sB, sC]
 generalize hX : (ρ 4).tR.take (ρ 2).tI.toNat = X
 intro h1
 intro h2
 intro h3
 intro h4
 have hlX : X.length = (ρ 2).tI.toNat := by rw [<- hX, ZI2]; omega
 refine ⟨?_, ?_⟩
 ·skip
  intro h6
  refine ⟨?_, ?_⟩
  ·unfold ZhS; rw [if_pos (by omega)]
  trivial
 ·skip
  intro h10
  intro v11
  intro h12
  refine ⟨?_, ?_⟩
  ·skip
   intro h14
   refine ⟨?_, ?_⟩
   ·have hq : Zkv X X.length = false := by
     rw [<- hX, Zq9 (by omega)]; rw [h14] at h12; cases hc : Zkv (ρ 4).tR (ρ 2).tI.toNat
     ·rfl
     ·rw [hc] at h12; cases h12
    unfold ZhS; rw [if_neg (by omega), hq]; rfl
   trivial
  ·skip
   intro h18
   have hck : ZhS X = 0 := by
    have hq : Zkv X X.length = true := by
     rw [<- hX, Zq9 (by omega)]; rw [h18] at h12; cases hc : Zkv (ρ 4).tR (ρ 2).tI.toNat
     ·rw [hc] at h12; cases h12
     ·rfl
    unfold ZhS; rw [if_neg (by omega), hq]; rfl
   intro v19
   intro h20
   intro v21
   intro h22
   refine ⟨?_, ?_⟩
   ·show ((0 : Nat) : Int) <= 0; omega
   refine ⟨?_, ?_⟩
   ·exact .inr rfl
   refine ⟨?_, ?_⟩
   ·show ((0 : Nat) : Int) <= 0; omega
   refine ⟨?_, ?_⟩
   ·exact .inr rfl
   refine ⟨?_, ?_⟩
   ·exact List.Perm.nil
   refine ⟨?_, ?_⟩
   ·first | omega | trivial | (with_reducible assumption)
   refine ⟨?_, ?_⟩
   ·first | omega | trivial | (with_reducible assumption)
   refine ⟨?_, ?_⟩
   ·first | omega | trivial | (with_reducible assumption)
   refine ⟨?_, ?_⟩
   ·first | omega | trivial | (with_reducible assumption)
   refine ⟨?_, ?_⟩
   ·first | omega | trivial | (with_reducible assumption)
   refine ⟨?_, ?_⟩
   ·first | omega | trivial | (with_reducible assumption)
   refine ⟨?_, ?_⟩
   ·first | omega | trivial | (with_reducible assumption)
   refine ⟨?_, ?_⟩
   ·first | omega | trivial | (with_reducible assumption)
   intro v36
   intro v37
   intro v38
   intro v39
   intro v40
   intro v41
   intro v42
   intro v43
   intro v44
   intro h45
   intro h46
   intro h47
   intro h48
   intro h49
   intro h50
   intro h51
   intro h52
   intro h53
   intro h54
   intro h55
   obtain ⟨n, rfl⟩ := ZIS h45
   have e1 : ((n : Int) + 1).toNat = n + 1 := by omega
   simp only [e1, ZI7] at h47 h48 h49 h50 h53 h54 h55 ⊢
   obtain ⟨B, hB⟩ : ∃ B, Yf X n = B := ⟨_, rfl⟩
   have hw := Zit X n
   simp only [hB] at h47 h48 h49 h50 h53 h54 h55 hw ⊢
   refine ⟨?_, ?_⟩
   ·skip
    intro h57
    intro h58
    have hnX : n < X.length := by omega
    have he : (ρ 4).tR.getD n [] = xa X n := by rw [<- hX]; exact (ZfZ (by omega)).symm
    have hsu := Zmp (x := X) (n := n) (by rw [hB]; exact h54)
    rw [hB] at hsu
    have htold := fun w => ZDV (w := w) hB h54 hnX
    obtain ⟨x, hx⟩ : ∃ x, xa X n = x := ⟨_, rfl⟩
    simp only [he, hx] at hsu htold ⊢
    obtain ⟨J, hJ⟩ : ∃ J, ixL (x.getD 1 0) B.txs = J := ⟨_, rfl⟩
    have hj : ixL (xw x) B.txs = J := hJ
    have hA := Zcb (w := x.getD 1 0) h58.1 (-1)
    simp only [hJ, Ze8] at hA ⊢
    have hol := hw.ol
    have hkl := hw.kl
    have hlt := hw.lt
    have hfl := hw.fl
    have hlr : ∀ (R : List (List Int)) ks, (Zdb R ks).length = ks.length := fun R ks => by unfold Zdb; rw [ZJa]
    have hFl : v44.length = B.fal.length := by have := h53.length_eq; rw [hlr] at this; exact this
    simp only [hlr] at h47 h48 ⊢
    have hfi : ∀ k ∈ B.fal, k < v37.length := fun k hk => by have := hw.fi k hk; have := h58.1; omega
    have h560 : ∀ r ∈ v44, ∃ b', r = [b'] /\ ZAo v37 b' := fun r hr => Zmc hfi r (h53.mem_iff.1 hr)
    refine ⟨?_, ?_⟩
    ·first | omega | trivial | (with_reducible assumption)
    intro v60
    intro h61
    refine ⟨?_, ?_⟩
    ·skip
     intro h63
     have hJl : J < B.txs.length := by
      rcases ZIU J B.txs.length with q | q
      ·exact q
      ·rw [hA.1, if_neg (by omega)] at h63; omega
     have hT := hA.1
     rw [if_pos hJl] at hT
     have hJR : J < v37.length := by have := h58.1; omega
     have hrI := ZcM h58.2.1 hJR
     simp only [hT, hrI, Ze8, ZI7] at h63 ⊢
     refine ⟨?_, ?_⟩
     ·first | omega | trivial | (with_reducible assumption)
     refine ⟨?_, ?_⟩
     ·first | omega | trivial | (with_reducible assumption)
     intro h66
     intro h67
     intro h68
     intro h69
     intro h70
     intro h71
     intro h72
     refine ⟨?_, ?_⟩
     ·skip
      intro h74
      refine ⟨?_, ?_⟩
      ·first | omega | trivial | (with_reducible assumption)
      refine ⟨?_, ?_⟩
      ·skip
       intro h77
       refine ⟨?_, ?_⟩
       ·skip
        intro h79
        have hF := htold 1 (st1a hj h77 hJl)
        refine ⟨?_, ?_⟩
        ·first | (with_reducible rfl) | (with_reducible exact hck.symm) | (rw [hF]; done) | (rw [hF]; with_reducible exact h54.symm) | (rw [hF]; with_reducible exact h55.symm) | (rw [hF]; rfl) | (rw [Za.2 h22]; rfl) | trivial
        refine ⟨?_, ?_⟩
        ·first | (with_reducible rfl) | (with_reducible exact hck.symm) | (rw [hF]; done) | (rw [hF]; with_reducible exact h54.symm) | (rw [hF]; with_reducible exact h55.symm) | (rw [hF]; rfl) | (rw [Za.2 h22]; rfl) | trivial
        refine ⟨?_, ?_⟩
        ·first | (with_reducible rfl) | (with_reducible exact hck.symm) | (rw [hF]; done) | (rw [hF]; with_reducible exact h54.symm) | (rw [hF]; with_reducible exact h55.symm) | (rw [hF]; rfl) | (rw [Za.2 h22]; rfl) | trivial
        refine ⟨?_, ?_⟩
        ·first | (with_reducible rfl) | (with_reducible exact hck.symm) | (rw [hF]; done) | (rw [hF]; with_reducible exact h54.symm) | (rw [hF]; with_reducible exact h55.symm) | (rw [hF]; rfl) | (rw [Za.2 h22]; rfl) | trivial
        refine ⟨?_, ?_⟩
        ·first | (with_reducible rfl) | (with_reducible exact hck.symm) | (rw [hF]; done) | (rw [hF]; with_reducible exact h54.symm) | (rw [hF]; with_reducible exact h55.symm) | (rw [hF]; rfl) | (rw [Za.2 h22]; rfl) | trivial
        refine ⟨?_, ?_⟩
        ·first | (with_reducible rfl) | (with_reducible exact hck.symm) | (rw [hF]; done) | (rw [hF]; with_reducible exact h54.symm) | (rw [hF]; with_reducible exact h55.symm) | (rw [hF]; rfl) | (rw [Za.2 h22]; rfl) | trivial
        refine ⟨?_, ?_⟩
        ·first | (with_reducible rfl) | (with_reducible exact hck.symm) | (rw [hF]; done) | (rw [hF]; with_reducible exact h54.symm) | (rw [hF]; with_reducible exact h55.symm) | (rw [hF]; rfl) | (rw [Za.2 h22]; rfl) | trivial
        refine ⟨?_, ?_⟩
        ·first | (with_reducible rfl) | (with_reducible exact hck.symm) | (rw [hF]; done) | (rw [hF]; with_reducible exact h54.symm) | (rw [hF]; with_reducible exact h55.symm) | (rw [hF]; rfl) | (rw [Za.2 h22]; rfl) | trivial
        refine ⟨?_, ?_⟩
        ·first | (with_reducible rfl) | (with_reducible exact hck.symm) | (rw [hF]; done) | (rw [hF]; with_reducible exact h54.symm) | (rw [hF]; with_reducible exact h55.symm) | (rw [hF]; rfl) | (rw [Za.2 h22]; rfl) | trivial
        refine ⟨?_, ?_⟩
        ·first | (with_reducible rfl) | (with_reducible exact hck.symm) | (rw [hF]; done) | (rw [hF]; with_reducible exact h54.symm) | (rw [hF]; with_reducible exact h55.symm) | (rw [hF]; rfl) | (rw [Za.2 h22]; rfl) | trivial
        trivial
       ·skip
        trivial
      ·skip
       intro h94
       refine ⟨?_, ?_⟩
       ·skip
        intro h96
        refine ⟨?_, ?_⟩
        ·skip
         intro h98
         have hst := hsu.trans (st2a hj h96 h98)
         intro v99
         intro h100
         refine ⟨?_, ?_⟩
         ·first | omega | trivial | (with_reducible assumption)
         refine ⟨?_, ?_⟩
         ·first | omega | trivial | (with_reducible assumption)
         intro v103
         intro v104
         intro h105
         intro h106
         refine ⟨?_, ?_⟩
         ·omega
         refine ⟨?_, ?_⟩
         ·omega
         refine ⟨?_, ?_⟩
         ·omega
         refine ⟨?_, ?_⟩
         ·omega
         refine ⟨?_, ?_⟩
         ·omega
         refine ⟨?_, ?_⟩
         ·first | (simp only [hst, hlr, ZI5, ZIO]; first | omega | assumption | done) | (simp only [hst, hlr, ZI5, ZIO]; done)
         refine ⟨?_, ?_⟩
         ·first | (simp only [hst, hlr, ZI5, ZIO]; first | omega | assumption | done) | (simp only [hst, hlr, ZI5, ZIO]; done)
         refine ⟨?_, ?_⟩
         ·first | (simp only [hst, hlr, ZI5, ZIO]; first | omega | assumption | done) | (simp only [hst, hlr, ZI5, ZIO]; done)
         refine ⟨?_, ?_⟩
         ·first | (simp only [hst, hlr, ZI5, ZIO]; first | omega | assumption | done) | (simp only [hst, hlr, ZI5, ZIO]; done)
         refine ⟨?_, ?_⟩
         ·first | (rw [hst]; exact List.Perm.nil)
         refine ⟨?_, ?_⟩
         ·first | (rw [hst]; exact h54)
         refine ⟨?_, ?_⟩
         ·first | (rw [hst]; exact h55)
         refine ⟨?_, ?_⟩
         ·first | (rw [hst]; done) | (rw [hst]; rfl)
         refine ⟨?_, ?_⟩
         ·first | (rw [hst]; done) | (rw [hst]; rfl)
         refine ⟨?_, ?_⟩
         ·first | (rw [hst]; done) | (rw [hst]; rfl)
         refine ⟨?_, ?_⟩
         ·first | (rw [hst, Zaf hJR hJl hwho]; done) | (rw [hst]; done)
         refine ⟨?_, ?_⟩
         ·first | (simp only [hst, hlr, ZI5, ZIO]; first | omega | assumption | done) | (simp only [hst, hlr, ZI5, ZIO]; done)
         refine ⟨?_, ?_⟩
         ·first | (simp only [hst, hlr, ZI5, ZIO]; first | omega | assumption | done) | (simp only [hst, hlr, ZI5, ZIO]; done)
         trivial
        ·skip
         intro h127
         refine ⟨?_, ?_⟩
         ·skip
          intro h129
          have hF := htold 1 (st2c hj h96 h127 (fun _ => h129))
          refine ⟨?_, ?_⟩
          ·first | (with_reducible rfl) | (with_reducible exact hck.symm) | (rw [hF]; done) | (rw [hF]; with_reducible exact h54.symm) | (rw [hF]; with_reducible exact h55.symm) | (rw [hF]; rfl) | (rw [Za.2 h22]; rfl) | trivial
          refine ⟨?_, ?_⟩
          ·first | (with_reducible rfl) | (with_reducible exact hck.symm) | (rw [hF]; done) | (rw [hF]; with_reducible exact h54.symm) | (rw [hF]; with_reducible exact h55.symm) | (rw [hF]; rfl) | (rw [Za.2 h22]; rfl) | trivial
          refine ⟨?_, ?_⟩
          ·first | (with_reducible rfl) | (with_reducible exact hck.symm) | (rw [hF]; done) | (rw [hF]; with_reducible exact h54.symm) | (rw [hF]; with_reducible exact h55.symm) | (rw [hF]; rfl) | (rw [Za.2 h22]; rfl) | trivial
          refine ⟨?_, ?_⟩
          ·first | (with_reducible rfl) | (with_reducible exact hck.symm) | (rw [hF]; done) | (rw [hF]; with_reducible exact h54.symm) | (rw [hF]; with_reducible exact h55.symm) | (rw [hF]; rfl) | (rw [Za.2 h22]; rfl) | trivial
          refine ⟨?_, ?_⟩
          ·first | (with_reducible rfl) | (with_reducible exact hck.symm) | (rw [hF]; done) | (rw [hF]; with_reducible exact h54.symm) | (rw [hF]; with_reducible exact h55.symm) | (rw [hF]; rfl) | (rw [Za.2 h22]; rfl) | trivial
          refine ⟨?_, ?_⟩
          ·first | (with_reducible rfl) | (with_reducible exact hck.symm) | (rw [hF]; done) | (rw [hF]; with_reducible exact h54.symm) | (rw [hF]; with_reducible exact h55.symm) | (rw [hF]; rfl) | (rw [Za.2 h22]; rfl) | trivial
          refine ⟨?_, ?_⟩
          ·first | (with_reducible rfl) | (with_reducible exact hck.symm) | (rw [hF]; done) | (rw [hF]; with_reducible exact h54.symm) | (rw [hF]; with_reducible exact h55.symm) | (rw [hF]; rfl) | (rw [Za.2 h22]; rfl) | trivial
          refine ⟨?_, ?_⟩
          ·first | (with_reducible rfl) | (with_reducible exact hck.symm) | (rw [hF]; done) | (rw [hF]; with_reducible exact h54.symm) | (rw [hF]; with_reducible exact h55.symm) | (rw [hF]; rfl) | (rw [Za.2 h22]; rfl) | trivial
          refine ⟨?_, ?_⟩
          ·first | (with_reducible rfl) | (with_reducible exact hck.symm) | (rw [hF]; done) | (rw [hF]; with_reducible exact h54.symm) | (rw [hF]; with_reducible exact h55.symm) | (rw [hF]; rfl) | (rw [Za.2 h22]; rfl) | trivial
          refine ⟨?_, ?_⟩
          ·first | (with_reducible rfl) | (with_reducible exact hck.symm) | (rw [hF]; done) | (rw [hF]; with_reducible exact h54.symm) | (rw [hF]; with_reducible exact h55.symm) | (rw [hF]; rfl) | (rw [Za.2 h22]; rfl) | trivial
          trivial
         ·skip
          intro h142
          have hst := hsu.trans (st2b hj h96 h127 hJl h142)
          have hwho := (ZxL (B.txs.getD J tx0) n x).2.2
          intro h143
          intro h144
          intro h145
          intro h146
          intro h147
          intro h148
          intro h149
          refine ⟨?_, ?_⟩
          ·have := hw.at hJl; omega
          refine ⟨?_, ?_⟩
          ·have := hw.at hJl; omega
          intro v152
          intro v153
          intro v154
          intro v155
          intro h156
          intro h157
          intro h158
          intro h159
          refine ⟨?_, ?_⟩
          ·first | omega | trivial | (with_reducible assumption)
          refine ⟨?_, ?_⟩
          ·first | omega | trivial | (with_reducible assumption)
          refine ⟨?_, ?_⟩
          ·first | omega | trivial | (with_reducible assumption)
          refine ⟨?_, ?_⟩
          ·first | omega | trivial | (with_reducible assumption)
          refine ⟨?_, ?_⟩
          ·omega
          refine ⟨?_, ?_⟩
          ·omega
          refine ⟨?_, ?_⟩
          ·omega
          refine ⟨?_, ?_⟩
          ·omega
          refine ⟨?_, ?_⟩
          ·omega
          refine ⟨?_, ?_⟩
          ·first | (simp only [hst, Zg hJR, hlr, ZI5, ZIO]; first | omega | assumption | done) | (simp only [hst, Zg hJR, hlr, ZI5, ZIO]; done)
          refine ⟨?_, ?_⟩
          ·first | (simp only [hst, Zg hJR, hlr, ZI5, ZIO]; first | omega | assumption | done) | (simp only [hst, Zg hJR, hlr, ZI5, ZIO]; done)
          refine ⟨?_, ?_⟩
          ·first | (simp only [hst, hlr, ZI5, ZIO]; first | omega | assumption | done) | (simp only [hst, hlr, ZI5, ZIO]; done)
          refine ⟨?_, ?_⟩
          ·first | (simp only [hst, hlr, ZI5, ZIO]; first | omega | assumption | done) | (simp only [hst, hlr, ZI5, ZIO]; done)
          refine ⟨?_, ?_⟩
          ·first | (rw [hst]; exact List.Perm.nil)
          refine ⟨?_, ?_⟩
          ·first | (rw [hst]; exact h54)
          refine ⟨?_, ?_⟩
          ·first | (rw [hst]; exact h55)
          refine ⟨?_, ?_⟩
          ·rw [hst, ZfT hJl]; exact congrArg (fun q => U.g (GG.tx (B.txs.set J q))) (rd_eq (B.txs.getD J tx0) n x).symm
          refine ⟨?_, ?_⟩
          ·first | (rw [hst]; done) | (rw [hst]; rfl)
          refine ⟨?_, ?_⟩
          ·first | (rw [hst, Zg hJR]; done) | (rw [hst, Zg hJR]; rfl)
          refine ⟨?_, ?_⟩
          ·first | (rw [hst, Zaf hJR hJl hwho]; done) | (rw [hst]; done)
          refine ⟨?_, ?_⟩
          ·first | (simp only [hst, hlr, ZI5, ZIO]; first | omega | assumption | done) | (simp only [hst, hlr, ZI5, ZIO]; done)
          refine ⟨?_, ?_⟩
          ·first | (simp only [hst, Zg hJR, hlr, ZI5, ZIO]; first | omega | assumption | done) | (simp only [hst, Zg hJR, hlr, ZI5, ZIO]; done)
          trivial
       ·skip
        intro h184
        refine ⟨?_, ?_⟩
        ·skip
         intro h186
         refine ⟨?_, ?_⟩
         ·skip
          intro h188
          refine ⟨?_, ?_⟩
          ·skip
           intro h190
           have hF := htold 1 (ZHW hj (.inl h186) (fun _ => h190))
           refine ⟨?_, ?_⟩
           ·first | (with_reducible rfl) | (with_reducible exact hck.symm) | (rw [hF]; done) | (rw [hF]; with_reducible exact h54.symm) | (rw [hF]; with_reducible exact h55.symm) | (rw [hF]; rfl) | (rw [Za.2 h22]; rfl) | trivial
           refine ⟨?_, ?_⟩
           ·first | (with_reducible rfl) | (with_reducible exact hck.symm) | (rw [hF]; done) | (rw [hF]; with_reducible exact h54.symm) | (rw [hF]; with_reducible exact h55.symm) | (rw [hF]; rfl) | (rw [Za.2 h22]; rfl) | trivial
           refine ⟨?_, ?_⟩
           ·first | (with_reducible rfl) | (with_reducible exact hck.symm) | (rw [hF]; done) | (rw [hF]; with_reducible exact h54.symm) | (rw [hF]; with_reducible exact h55.symm) | (rw [hF]; rfl) | (rw [Za.2 h22]; rfl) | trivial
           refine ⟨?_, ?_⟩
           ·first | (with_reducible rfl) | (with_reducible exact hck.symm) | (rw [hF]; done) | (rw [hF]; with_reducible exact h54.symm) | (rw [hF]; with_reducible exact h55.symm) | (rw [hF]; rfl) | (rw [Za.2 h22]; rfl) | trivial
           refine ⟨?_, ?_⟩
           ·first | (with_reducible rfl) | (with_reducible exact hck.symm) | (rw [hF]; done) | (rw [hF]; with_reducible exact h54.symm) | (rw [hF]; with_reducible exact h55.symm) | (rw [hF]; rfl) | (rw [Za.2 h22]; rfl) | trivial
           refine ⟨?_, ?_⟩
           ·first | (with_reducible rfl) | (with_reducible exact hck.symm) | (rw [hF]; done) | (rw [hF]; with_reducible exact h54.symm) | (rw [hF]; with_reducible exact h55.symm) | (rw [hF]; rfl) | (rw [Za.2 h22]; rfl) | trivial
           refine ⟨?_, ?_⟩
           ·first | (with_reducible rfl) | (with_reducible exact hck.symm) | (rw [hF]; done) | (rw [hF]; with_reducible exact h54.symm) | (rw [hF]; with_reducible exact h55.symm) | (rw [hF]; rfl) | (rw [Za.2 h22]; rfl) | trivial
           refine ⟨?_, ?_⟩
           ·first | (with_reducible rfl) | (with_reducible exact hck.symm) | (rw [hF]; done) | (rw [hF]; with_reducible exact h54.symm) | (rw [hF]; with_reducible exact h55.symm) | (rw [hF]; rfl) | (rw [Za.2 h22]; rfl) | trivial
           refine ⟨?_, ?_⟩
           ·first | (with_reducible rfl) | (with_reducible exact hck.symm) | (rw [hF]; done) | (rw [hF]; with_reducible exact h54.symm) | (rw [hF]; with_reducible exact h55.symm) | (rw [hF]; rfl) | (rw [Za.2 h22]; rfl) | trivial
           refine ⟨?_, ?_⟩
           ·first | (with_reducible rfl) | (with_reducible exact hck.symm) | (rw [hF]; done) | (rw [hF]; with_reducible exact h54.symm) | (rw [hF]; with_reducible exact h55.symm) | (rw [hF]; rfl) | (rw [Za.2 h22]; rfl) | trivial
           trivial
          ·skip
           intro h203
           have hst := hsu.trans (st3a hj (.inl h186) hJl h203)
           have hwho : ({ B.txs.getD J tx0 with ch := YD (B.txs.getD J tx0).ch (kc x) ((ZP (Zbl x) : Nat) * 2 + b01 (xk x == 4)) } : Tx).who = (B.txs.getD J tx0).who := rfl
           have hxx := h203
           intro h204
           intro h205
           intro h206
           intro h207
           intro h208
           intro h209
           intro h210
           refine ⟨?_, ?_⟩
           ·first | omega | trivial | (with_reducible assumption)
           refine ⟨?_, ?_⟩
           ·first | omega | trivial | (with_reducible assumption)
           refine ⟨?_, ?_⟩
           ·first | omega | trivial | (with_reducible assumption)
           refine ⟨?_, ?_⟩
           ·first | omega | trivial | (with_reducible assumption)
           refine ⟨?_, ?_⟩
           ·omega
           refine ⟨?_, ?_⟩
           ·omega
           refine ⟨?_, ?_⟩
           ·omega
           refine ⟨?_, ?_⟩
           ·omega
           refine ⟨?_, ?_⟩
           ·omega
           refine ⟨?_, ?_⟩
           ·first | (simp only [hst, Zg hJR, hlr, ZI5, ZIO]; first | omega | assumption | done) | (simp only [hst, Zg hJR, hlr, ZI5, ZIO]; done)
           refine ⟨?_, ?_⟩
           ·first | (simp only [hst, Zg hJR, hlr, ZI5, ZIO]; first | omega | assumption | done) | (simp only [hst, Zg hJR, hlr, ZI5, ZIO]; done)
           refine ⟨?_, ?_⟩
           ·first | (simp only [hst, hlr, ZI5, ZIO]; first | omega | assumption | done) | (simp only [hst, hlr, ZI5, ZIO]; done)
           refine ⟨?_, ?_⟩
           ·first | (simp only [hst, hlr, ZI5, ZIO]; first | omega | assumption | done) | (simp only [hst, hlr, ZI5, ZIO]; done)
           refine ⟨?_, ?_⟩
           ·first | (rw [hst, Zg hJR]; exact h53)
           refine ⟨?_, ?_⟩
           ·first | (rw [hst]; exact h54)
           refine ⟨?_, ?_⟩
           ·first | (rw [hst]; exact h55)
           refine ⟨?_, ?_⟩
           ·rw [hst, ZfT hJl]; exact congrArg (fun q => U.g (GG.tx (B.txs.set J q))) (ZF7 (B.txs.getD J tx0) _).symm
           refine ⟨?_, ?_⟩
           ·first | (rw [hst]; done) | (rw [hst]; rfl)
           refine ⟨?_, ?_⟩
           ·first | (rw [hst, Zg hJR]; done) | (rw [hst, Zg hJR]; rfl)
           refine ⟨?_, ?_⟩
           ·first | (rw [hst, Zaf hJR hJl hwho]; done) | (rw [hst]; done)
           refine ⟨?_, ?_⟩
           ·first | (simp only [hst, hlr, ZI5, ZIO]; first | omega | assumption | done) | (simp only [hst, hlr, ZI5, ZIO]; done)
           refine ⟨?_, ?_⟩
           ·first | (simp only [hst, Zg hJR, hlr, ZI5, ZIO]; first | omega | assumption | done) | (simp only [hst, Zg hJR, hlr, ZI5, ZIO]; done)
           trivial
         ·skip
          trivial
        ·skip
         intro h237
         refine ⟨?_, ?_⟩
         ·skip
          intro h239
          refine ⟨?_, ?_⟩
          ·skip
           intro h241
           have hF := htold 1 (ZHW hj (.inr h239) (fun _ => h241))
           refine ⟨?_, ?_⟩
           ·first | (with_reducible rfl) | (with_reducible exact hck.symm) | (rw [hF]; done) | (rw [hF]; with_reducible exact h54.symm) | (rw [hF]; with_reducible exact h55.symm) | (rw [hF]; rfl) | (rw [Za.2 h22]; rfl) | trivial
           refine ⟨?_, ?_⟩
           ·first | (with_reducible rfl) | (with_reducible exact hck.symm) | (rw [hF]; done) | (rw [hF]; with_reducible exact h54.symm) | (rw [hF]; with_reducible exact h55.symm) | (rw [hF]; rfl) | (rw [Za.2 h22]; rfl) | trivial
           refine ⟨?_, ?_⟩
           ·first | (with_reducible rfl) | (with_reducible exact hck.symm) | (rw [hF]; done) | (rw [hF]; with_reducible exact h54.symm) | (rw [hF]; with_reducible exact h55.symm) | (rw [hF]; rfl) | (rw [Za.2 h22]; rfl) | trivial
           refine ⟨?_, ?_⟩
           ·first | (with_reducible rfl) | (with_reducible exact hck.symm) | (rw [hF]; done) | (rw [hF]; with_reducible exact h54.symm) | (rw [hF]; with_reducible exact h55.symm) | (rw [hF]; rfl) | (rw [Za.2 h22]; rfl) | trivial
           refine ⟨?_, ?_⟩
           ·first | (with_reducible rfl) | (with_reducible exact hck.symm) | (rw [hF]; done) | (rw [hF]; with_reducible exact h54.symm) | (rw [hF]; with_reducible exact h55.symm) | (rw [hF]; rfl) | (rw [Za.2 h22]; rfl) | trivial
           refine ⟨?_, ?_⟩
           ·first | (with_reducible rfl) | (with_reducible exact hck.symm) | (rw [hF]; done) | (rw [hF]; with_reducible exact h54.symm) | (rw [hF]; with_reducible exact h55.symm) | (rw [hF]; rfl) | (rw [Za.2 h22]; rfl) | trivial
           refine ⟨?_, ?_⟩
           ·first | (with_reducible rfl) | (with_reducible exact hck.symm) | (rw [hF]; done) | (rw [hF]; with_reducible exact h54.symm) | (rw [hF]; with_reducible exact h55.symm) | (rw [hF]; rfl) | (rw [Za.2 h22]; rfl) | trivial
           refine ⟨?_, ?_⟩
           ·first | (with_reducible rfl) | (with_reducible exact hck.symm) | (rw [hF]; done) | (rw [hF]; with_reducible exact h54.symm) | (rw [hF]; with_reducible exact h55.symm) | (rw [hF]; rfl) | (rw [Za.2 h22]; rfl) | trivial
           refine ⟨?_, ?_⟩
           ·first | (with_reducible rfl) | (with_reducible exact hck.symm) | (rw [hF]; done) | (rw [hF]; with_reducible exact h54.symm) | (rw [hF]; with_reducible exact h55.symm) | (rw [hF]; rfl) | (rw [Za.2 h22]; rfl) | trivial
           refine ⟨?_, ?_⟩
           ·first | (with_reducible rfl) | (with_reducible exact hck.symm) | (rw [hF]; done) | (rw [hF]; with_reducible exact h54.symm) | (rw [hF]; with_reducible exact h55.symm) | (rw [hF]; rfl) | (rw [Za.2 h22]; rfl) | trivial
           trivial
          ·skip
           intro h254
           have hst := hsu.trans (st3a hj (.inr h239) hJl h254)
           have hwho : ({ B.txs.getD J tx0 with ch := YD (B.txs.getD J tx0).ch (kc x) ((ZP (Zbl x) : Nat) * 2 + b01 (xk x == 4)) } : Tx).who = (B.txs.getD J tx0).who := rfl
           have hxx := h254
           intro h255
           intro h256
           intro h257
           intro h258
           intro h259
           intro h260
           intro h261
           refine ⟨?_, ?_⟩
           ·first | omega | trivial | (with_reducible assumption)
           refine ⟨?_, ?_⟩
           ·first | omega | trivial | (with_reducible assumption)
           refine ⟨?_, ?_⟩
           ·first | omega | trivial | (with_reducible assumption)
           refine ⟨?_, ?_⟩
           ·first | omega | trivial | (with_reducible assumption)
           refine ⟨?_, ?_⟩
           ·omega
           refine ⟨?_, ?_⟩
           ·omega
           refine ⟨?_, ?_⟩
           ·omega
           refine ⟨?_, ?_⟩
           ·omega
           refine ⟨?_, ?_⟩
           ·omega
           refine ⟨?_, ?_⟩
           ·first | (simp only [hst, Zg hJR, hlr, ZI5, ZIO]; first | omega | assumption | done) | (simp only [hst, Zg hJR, hlr, ZI5, ZIO]; done)
           refine ⟨?_, ?_⟩
           ·first | (simp only [hst, Zg hJR, hlr, ZI5, ZIO]; first | omega | assumption | done) | (simp only [hst, Zg hJR, hlr, ZI5, ZIO]; done)
           refine ⟨?_, ?_⟩
           ·first | (simp only [hst, hlr, ZI5, ZIO]; first | omega | assumption | done) | (simp only [hst, hlr, ZI5, ZIO]; done)
           refine ⟨?_, ?_⟩
           ·first | (simp only [hst, hlr, ZI5, ZIO]; first | omega | assumption | done) | (simp only [hst, hlr, ZI5, ZIO]; done)
           refine ⟨?_, ?_⟩
           ·first | (rw [hst, Zg hJR]; exact h53)
           refine ⟨?_, ?_⟩
           ·first | (rw [hst]; exact h54)
           refine ⟨?_, ?_⟩
           ·first | (rw [hst]; exact h55)
           refine ⟨?_, ?_⟩
           ·rw [hst, ZfT hJl]; exact congrArg (fun q => U.g (GG.tx (B.txs.set J q))) (ZF7 (B.txs.getD J tx0) _).symm
           refine ⟨?_, ?_⟩
           ·first | (rw [hst]; done) | (rw [hst]; rfl)
           refine ⟨?_, ?_⟩
           ·first | (rw [hst, Zg hJR]; done) | (rw [hst, Zg hJR]; rfl)
           refine ⟨?_, ?_⟩
           ·first | (rw [hst, Zaf hJR hJl hwho]; done) | (rw [hst]; done)
           refine ⟨?_, ?_⟩
           ·first | (simp only [hst, hlr, ZI5, ZIO]; first | omega | assumption | done) | (simp only [hst, hlr, ZI5, ZIO]; done)
           refine ⟨?_, ?_⟩
           ·first | (simp only [hst, Zg hJR, hlr, ZI5, ZIO]; first | omega | assumption | done) | (simp only [hst, Zg hJR, hlr, ZI5, ZIO]; done)
           trivial
         ·skip
          intro h286
          refine ⟨?_, ?_⟩
          ·skip
           intro h288
           refine ⟨?_, ?_⟩
           ·skip
            intro h290
            have hF := htold 1 (st6b hj h288 (fun _ => h290))
            refine ⟨?_, ?_⟩
            ·first | (with_reducible rfl) | (with_reducible exact hck.symm) | (rw [hF]; done) | (rw [hF]; with_reducible exact h54.symm) | (rw [hF]; with_reducible exact h55.symm) | (rw [hF]; rfl) | (rw [Za.2 h22]; rfl) | trivial
            refine ⟨?_, ?_⟩
            ·first | (with_reducible rfl) | (with_reducible exact hck.symm) | (rw [hF]; done) | (rw [hF]; with_reducible exact h54.symm) | (rw [hF]; with_reducible exact h55.symm) | (rw [hF]; rfl) | (rw [Za.2 h22]; rfl) | trivial
            refine ⟨?_, ?_⟩
            ·first | (with_reducible rfl) | (with_reducible exact hck.symm) | (rw [hF]; done) | (rw [hF]; with_reducible exact h54.symm) | (rw [hF]; with_reducible exact h55.symm) | (rw [hF]; rfl) | (rw [Za.2 h22]; rfl) | trivial
            refine ⟨?_, ?_⟩
            ·first | (with_reducible rfl) | (with_reducible exact hck.symm) | (rw [hF]; done) | (rw [hF]; with_reducible exact h54.symm) | (rw [hF]; with_reducible exact h55.symm) | (rw [hF]; rfl) | (rw [Za.2 h22]; rfl) | trivial
            refine ⟨?_, ?_⟩
            ·first | (with_reducible rfl) | (with_reducible exact hck.symm) | (rw [hF]; done) | (rw [hF]; with_reducible exact h54.symm) | (rw [hF]; with_reducible exact h55.symm) | (rw [hF]; rfl) | (rw [Za.2 h22]; rfl) | trivial
            refine ⟨?_, ?_⟩
            ·first | (with_reducible rfl) | (with_reducible exact hck.symm) | (rw [hF]; done) | (rw [hF]; with_reducible exact h54.symm) | (rw [hF]; with_reducible exact h55.symm) | (rw [hF]; rfl) | (rw [Za.2 h22]; rfl) | trivial
            refine ⟨?_, ?_⟩
            ·first | (with_reducible rfl) | (with_reducible exact hck.symm) | (rw [hF]; done) | (rw [hF]; with_reducible exact h54.symm) | (rw [hF]; with_reducible exact h55.symm) | (rw [hF]; rfl) | (rw [Za.2 h22]; rfl) | trivial
            refine ⟨?_, ?_⟩
            ·first | (with_reducible rfl) | (with_reducible exact hck.symm) | (rw [hF]; done) | (rw [hF]; with_reducible exact h54.symm) | (rw [hF]; with_reducible exact h55.symm) | (rw [hF]; rfl) | (rw [Za.2 h22]; rfl) | trivial
            refine ⟨?_, ?_⟩
            ·first | (with_reducible rfl) | (with_reducible exact hck.symm) | (rw [hF]; done) | (rw [hF]; with_reducible exact h54.symm) | (rw [hF]; with_reducible exact h55.symm) | (rw [hF]; rfl) | (rw [Za.2 h22]; rfl) | trivial
            refine ⟨?_, ?_⟩
            ·first | (with_reducible rfl) | (with_reducible exact hck.symm) | (rw [hF]; done) | (rw [hF]; with_reducible exact h54.symm) | (rw [hF]; with_reducible exact h55.symm) | (rw [hF]; rfl) | (rw [Za.2 h22]; rfl) | trivial
            trivial
           ·skip
            intro h303
            have hst := hsu.trans (st6a hj h288 hJl h303)
            have hwho : ({ B.txs.getD J tx0 with opn := false } : Tx).who = (B.txs.getD J tx0).who := rfl
            have hxx := h303
            intro h304
            intro h305
            intro h306
            intro h307
            intro h308
            intro h309
            intro h310
            refine ⟨?_, ?_⟩
            ·first | omega | trivial | (with_reducible assumption)
            refine ⟨?_, ?_⟩
            ·first | omega | trivial | (with_reducible assumption)
            refine ⟨?_, ?_⟩
            ·first | omega | trivial | (with_reducible assumption)
            refine ⟨?_, ?_⟩
            ·first | omega | trivial | (with_reducible assumption)
            refine ⟨?_, ?_⟩
            ·omega
            refine ⟨?_, ?_⟩
            ·omega
            refine ⟨?_, ?_⟩
            ·omega
            refine ⟨?_, ?_⟩
            ·omega
            refine ⟨?_, ?_⟩
            ·omega
            refine ⟨?_, ?_⟩
            ·first | (simp only [hst, Zg hJR, hlr, ZI5, ZIO]; first | omega | assumption | done) | (simp only [hst, Zg hJR, hlr, ZI5, ZIO]; done)
            refine ⟨?_, ?_⟩
            ·first | (simp only [hst, Zg hJR, hlr, ZI5, ZIO]; first | omega | assumption | done) | (simp only [hst, Zg hJR, hlr, ZI5, ZIO]; done)
            refine ⟨?_, ?_⟩
            ·first | (simp only [hst, hlr, ZI5, ZIO]; first | omega | assumption | done) | (simp only [hst, hlr, ZI5, ZIO]; done)
            refine ⟨?_, ?_⟩
            ·first | (simp only [hst, hlr, ZI5, ZIO]; first | omega | assumption | done) | (simp only [hst, hlr, ZI5, ZIO]; done)
            refine ⟨?_, ?_⟩
            ·first | (rw [hst, Zg hJR]; exact h53)
            refine ⟨?_, ?_⟩
            ·first | (rw [hst]; exact h54)
            refine ⟨?_, ?_⟩
            ·first | (rw [hst]; exact h55)
            refine ⟨?_, ?_⟩
            ·rw [hst, ZfT hJl]; rfl
            refine ⟨?_, ?_⟩
            ·first | (rw [hst]; done) | (rw [hst]; rfl)
            refine ⟨?_, ?_⟩
            ·first | (rw [hst, Zg hJR]; done) | (rw [hst, Zg hJR]; rfl)
            refine ⟨?_, ?_⟩
            ·first | (rw [hst, Zaf hJR hJl hwho]; done) | (rw [hst]; done)
            refine ⟨?_, ?_⟩
            ·first | (simp only [hst, hlr, ZI5, ZIO]; first | omega | assumption | done) | (simp only [hst, hlr, ZI5, ZIO]; done)
            refine ⟨?_, ?_⟩
            ·first | (simp only [hst, Zg hJR, hlr, ZI5, ZIO]; first | omega | assumption | done) | (simp only [hst, Zg hJR, hlr, ZI5, ZIO]; done)
            trivial
          ·skip
           intro h335
           refine ⟨?_, ?_⟩
           ·skip
            intro h337
            refine ⟨?_, ?_⟩
            ·exact ⟨J, hJR, rfl⟩
            intro h339
            intro h340
            intro h341
            intro h342
            intro h343
            intro h344
            intro h345
            intro h346
            intro h347
            refine ⟨?_, ?_⟩
            ·skip
             intro h349
             refine ⟨?_, ?_⟩
             ·first | omega | trivial | (with_reducible assumption)
             refine ⟨?_, ?_⟩
             ·first | omega | trivial | (with_reducible assumption)
             refine ⟨?_, ?_⟩
             ·exact h560
             intro v353
             intro h354
             refine ⟨?_, ?_⟩
             ·skip
              intro h356
              have hfal : J ∈ B.fal := by
               rw [h356] at h354
               exact (Zqk h58.2.1 hfi hJR).1 (h53.mem_iff.1 ((Zo (p := _ ∈ v44)).mp h354.symm))
              refine ⟨?_, ?_⟩
              ·first | omega | trivial | (with_reducible assumption)
              refine ⟨?_, ?_⟩
              ·skip
               intro h359
               have hF := htold 1 (ZF5 hj h337 (.inr h359))
               refine ⟨?_, ?_⟩
               ·first | (with_reducible rfl) | (with_reducible exact hck.symm) | (rw [hF]; done) | (rw [hF]; with_reducible exact h54.symm) | (rw [hF]; with_reducible exact h55.symm) | (rw [hF]; rfl) | (rw [Za.2 h22]; rfl) | trivial
               refine ⟨?_, ?_⟩
               ·first | (with_reducible rfl) | (with_reducible exact hck.symm) | (rw [hF]; done) | (rw [hF]; with_reducible exact h54.symm) | (rw [hF]; with_reducible exact h55.symm) | (rw [hF]; rfl) | (rw [Za.2 h22]; rfl) | trivial
               refine ⟨?_, ?_⟩
               ·first | (with_reducible rfl) | (with_reducible exact hck.symm) | (rw [hF]; done) | (rw [hF]; with_reducible exact h54.symm) | (rw [hF]; with_reducible exact h55.symm) | (rw [hF]; rfl) | (rw [Za.2 h22]; rfl) | trivial
               refine ⟨?_, ?_⟩
               ·first | (with_reducible rfl) | (with_reducible exact hck.symm) | (rw [hF]; done) | (rw [hF]; with_reducible exact h54.symm) | (rw [hF]; with_reducible exact h55.symm) | (rw [hF]; rfl) | (rw [Za.2 h22]; rfl) | trivial
               refine ⟨?_, ?_⟩
               ·first | (with_reducible rfl) | (with_reducible exact hck.symm) | (rw [hF]; done) | (rw [hF]; with_reducible exact h54.symm) | (rw [hF]; with_reducible exact h55.symm) | (rw [hF]; rfl) | (rw [Za.2 h22]; rfl) | trivial
               refine ⟨?_, ?_⟩
               ·first | (with_reducible rfl) | (with_reducible exact hck.symm) | (rw [hF]; done) | (rw [hF]; with_reducible exact h54.symm) | (rw [hF]; with_reducible exact h55.symm) | (rw [hF]; rfl) | (rw [Za.2 h22]; rfl) | trivial
               refine ⟨?_, ?_⟩
               ·first | (with_reducible rfl) | (with_reducible exact hck.symm) | (rw [hF]; done) | (rw [hF]; with_reducible exact h54.symm) | (rw [hF]; with_reducible exact h55.symm) | (rw [hF]; rfl) | (rw [Za.2 h22]; rfl) | trivial
               refine ⟨?_, ?_⟩
               ·first | (with_reducible rfl) | (with_reducible exact hck.symm) | (rw [hF]; done) | (rw [hF]; with_reducible exact h54.symm) | (rw [hF]; with_reducible exact h55.symm) | (rw [hF]; rfl) | (rw [Za.2 h22]; rfl) | trivial
               refine ⟨?_, ?_⟩
               ·first | (with_reducible rfl) | (with_reducible exact hck.symm) | (rw [hF]; done) | (rw [hF]; with_reducible exact h54.symm) | (rw [hF]; with_reducible exact h55.symm) | (rw [hF]; rfl) | (rw [Za.2 h22]; rfl) | trivial
               refine ⟨?_, ?_⟩
               ·first | (with_reducible rfl) | (with_reducible exact hck.symm) | (rw [hF]; done) | (rw [hF]; with_reducible exact h54.symm) | (rw [hF]; with_reducible exact h55.symm) | (rw [hF]; rfl) | (rw [Za.2 h22]; rfl) | trivial
               trivial
              ·skip
               intro h372
               refine ⟨?_, ?_⟩
               ·first | omega | trivial | (with_reducible assumption)
               refine ⟨?_, ?_⟩
               ·skip
                intro h375
                have hF := htold 2 (st5b hj h337 (.inr hfal) h372 h375)
                refine ⟨?_, ?_⟩
                ·first | (with_reducible rfl) | (with_reducible exact hck.symm) | (rw [hF]; done) | (rw [hF]; with_reducible exact h54.symm) | (rw [hF]; with_reducible exact h55.symm) | (rw [hF]; rfl) | (rw [Za.2 h22]; rfl) | trivial
                refine ⟨?_, ?_⟩
                ·first | (with_reducible rfl) | (with_reducible exact hck.symm) | (rw [hF]; done) | (rw [hF]; with_reducible exact h54.symm) | (rw [hF]; with_reducible exact h55.symm) | (rw [hF]; rfl) | (rw [Za.2 h22]; rfl) | trivial
                refine ⟨?_, ?_⟩
                ·first | (with_reducible rfl) | (with_reducible exact hck.symm) | (rw [hF]; done) | (rw [hF]; with_reducible exact h54.symm) | (rw [hF]; with_reducible exact h55.symm) | (rw [hF]; rfl) | (rw [Za.2 h22]; rfl) | trivial
                refine ⟨?_, ?_⟩
                ·first | (with_reducible rfl) | (with_reducible exact hck.symm) | (rw [hF]; done) | (rw [hF]; with_reducible exact h54.symm) | (rw [hF]; with_reducible exact h55.symm) | (rw [hF]; rfl) | (rw [Za.2 h22]; rfl) | trivial
                refine ⟨?_, ?_⟩
                ·first | (with_reducible rfl) | (with_reducible exact hck.symm) | (rw [hF]; done) | (rw [hF]; with_reducible exact h54.symm) | (rw [hF]; with_reducible exact h55.symm) | (rw [hF]; rfl) | (rw [Za.2 h22]; rfl) | trivial
                refine ⟨?_, ?_⟩
                ·first | (with_reducible rfl) | (with_reducible exact hck.symm) | (rw [hF]; done) | (rw [hF]; with_reducible exact h54.symm) | (rw [hF]; with_reducible exact h55.symm) | (rw [hF]; rfl) | (rw [Za.2 h22]; rfl) | trivial
                refine ⟨?_, ?_⟩
                ·first | (with_reducible rfl) | (with_reducible exact hck.symm) | (rw [hF]; done) | (rw [hF]; with_reducible exact h54.symm) | (rw [hF]; with_reducible exact h55.symm) | (rw [hF]; rfl) | (rw [Za.2 h22]; rfl) | trivial
                refine ⟨?_, ?_⟩
                ·first | (with_reducible rfl) | (with_reducible exact hck.symm) | (rw [hF]; done) | (rw [hF]; with_reducible exact h54.symm) | (rw [hF]; with_reducible exact h55.symm) | (rw [hF]; rfl) | (rw [Za.2 h22]; rfl) | trivial
                refine ⟨?_, ?_⟩
                ·first | (with_reducible rfl) | (with_reducible exact hck.symm) | (rw [hF]; done) | (rw [hF]; with_reducible exact h54.symm) | (rw [hF]; with_reducible exact h55.symm) | (rw [hF]; rfl) | (rw [Za.2 h22]; rfl) | trivial
                refine ⟨?_, ?_⟩
                ·first | (with_reducible rfl) | (with_reducible exact hck.symm) | (rw [hF]; done) | (rw [hF]; with_reducible exact h54.symm) | (rw [hF]; with_reducible exact h55.symm) | (rw [hF]; rfl) | (rw [Za.2 h22]; rfl) | trivial
                trivial
               ·skip
                intro h388
                have hst := hsu.trans (st5c hj h337 (.inr hfal) h372 h388)
                have hwho : ({ B.txs.getD J tx0 with opn := false, com := (n : Int) } : Tx).who = (B.txs.getD J tx0).who := rfl
                intro h389
                intro h390
                intro h391
                intro h392
                intro h393
                intro h394
                intro h395
                refine ⟨?_, ?_⟩
                ·first | omega | trivial | (with_reducible assumption)
                refine ⟨?_, ?_⟩
                ·first | omega | trivial | (with_reducible assumption)
                refine ⟨?_, ?_⟩
                ·first | omega | trivial | (with_reducible assumption)
                refine ⟨?_, ?_⟩
                ·first | omega | trivial | (with_reducible assumption)
                intro v400
                intro h401
                refine ⟨?_, ?_⟩
                ·first | omega | trivial | (with_reducible assumption)
                refine ⟨?_, ?_⟩
                ·first | omega | trivial | (with_reducible assumption)
                intro v404
                intro v405
                intro h406
                intro h407
                refine ⟨?_, ?_⟩
                ·omega
                refine ⟨?_, ?_⟩
                ·omega
                refine ⟨?_, ?_⟩
                ·omega
                refine ⟨?_, ?_⟩
                ·omega
                refine ⟨?_, ?_⟩
                ·omega
                refine ⟨?_, ?_⟩
                ·simp only [hst, Zg hJR, hlr, ZI5, ZIO]; omega
                refine ⟨?_, ?_⟩
                ·simp only [hst, Zg hJR, hlr, ZI5, ZIO]; omega
                refine ⟨?_, ?_⟩
                ·first | (simp only [hst, hlr, ZI5, ZIO]; first | omega | assumption | done) | (simp only [hst, hlr, ZI5, ZIO]; done)
                refine ⟨?_, ?_⟩
                ·first | (simp only [hst, hlr, ZI5, ZIO]; first | omega | assumption | done) | (simp only [hst, hlr, ZI5, ZIO]; done)
                refine ⟨?_, ?_⟩
                ·rw [hst, Zg hJR]; exact h53
                refine ⟨?_, ?_⟩
                ·first | (rw [hst]; exact h54)
                refine ⟨?_, ?_⟩
                ·first | (rw [hst]; exact h55)
                refine ⟨?_, ?_⟩
                ·rw [hst, ZfT hJl]; rfl
                refine ⟨?_, ?_⟩
                ·first | (rw [hst]; done) | (rw [hst]; rfl)
                refine ⟨?_, ?_⟩
                ·rw [hst, Zg hJR, ZeE]
                refine ⟨?_, ?_⟩
                ·first | (rw [hst, Zaf hJR hJl hwho]; done) | (rw [hst]; done)
                refine ⟨?_, ?_⟩
                ·first | (simp only [hst, hlr, ZI5, ZIO]; first | omega | assumption | done) | (simp only [hst, hlr, ZI5, ZIO]; done)
                refine ⟨?_, ?_⟩
                ·simp only [hst, Zg hJR, hlr, ZI5, ZIO]; omega
                trivial
             ·skip
              intro h428
              have hnf : ¬ J ∈ B.fal := fun hm => by
               rw [h428] at h354
               have hq : [g0 (v37.getD J [])] ∈ v44 := h53.mem_iff.2 ((Zqk h58.2.1 hfi hJR).2 hm)
               rw [ZE hq] at h354; cases h354
              have hF := htold 1 (ZF5 hj h337 (.inl ⟨fun _ => h349, hnf⟩))
              refine ⟨?_, ?_⟩
              ·first | omega | trivial | (with_reducible assumption)
              refine ⟨?_, ?_⟩
              ·first | (with_reducible rfl) | (with_reducible exact hck.symm) | (rw [hF]; done) | (rw [hF]; with_reducible exact h54.symm) | (rw [hF]; with_reducible exact h55.symm) | (rw [hF]; rfl) | (rw [Za.2 h22]; rfl) | trivial
              refine ⟨?_, ?_⟩
              ·first | (with_reducible rfl) | (with_reducible exact hck.symm) | (rw [hF]; done) | (rw [hF]; with_reducible exact h54.symm) | (rw [hF]; with_reducible exact h55.symm) | (rw [hF]; rfl) | (rw [Za.2 h22]; rfl) | trivial
              refine ⟨?_, ?_⟩
              ·first | (with_reducible rfl) | (with_reducible exact hck.symm) | (rw [hF]; done) | (rw [hF]; with_reducible exact h54.symm) | (rw [hF]; with_reducible exact h55.symm) | (rw [hF]; rfl) | (rw [Za.2 h22]; rfl) | trivial
              refine ⟨?_, ?_⟩
              ·first | (with_reducible rfl) | (with_reducible exact hck.symm) | (rw [hF]; done) | (rw [hF]; with_reducible exact h54.symm) | (rw [hF]; with_reducible exact h55.symm) | (rw [hF]; rfl) | (rw [Za.2 h22]; rfl) | trivial
              refine ⟨?_, ?_⟩
              ·first | (with_reducible rfl) | (with_reducible exact hck.symm) | (rw [hF]; done) | (rw [hF]; with_reducible exact h54.symm) | (rw [hF]; with_reducible exact h55.symm) | (rw [hF]; rfl) | (rw [Za.2 h22]; rfl) | trivial
              refine ⟨?_, ?_⟩
              ·first | (with_reducible rfl) | (with_reducible exact hck.symm) | (rw [hF]; done) | (rw [hF]; with_reducible exact h54.symm) | (rw [hF]; with_reducible exact h55.symm) | (rw [hF]; rfl) | (rw [Za.2 h22]; rfl) | trivial
              refine ⟨?_, ?_⟩
              ·first | (with_reducible rfl) | (with_reducible exact hck.symm) | (rw [hF]; done) | (rw [hF]; with_reducible exact h54.symm) | (rw [hF]; with_reducible exact h55.symm) | (rw [hF]; rfl) | (rw [Za.2 h22]; rfl) | trivial
              refine ⟨?_, ?_⟩
              ·first | (with_reducible rfl) | (with_reducible exact hck.symm) | (rw [hF]; done) | (rw [hF]; with_reducible exact h54.symm) | (rw [hF]; with_reducible exact h55.symm) | (rw [hF]; rfl) | (rw [Za.2 h22]; rfl) | trivial
              refine ⟨?_, ?_⟩
              ·first | (with_reducible rfl) | (with_reducible exact hck.symm) | (rw [hF]; done) | (rw [hF]; with_reducible exact h54.symm) | (rw [hF]; with_reducible exact h55.symm) | (rw [hF]; rfl) | (rw [Za.2 h22]; rfl) | trivial
              refine ⟨?_, ?_⟩
              ·first | (with_reducible rfl) | (with_reducible exact hck.symm) | (rw [hF]; done) | (rw [hF]; with_reducible exact h54.symm) | (rw [hF]; with_reducible exact h55.symm) | (rw [hF]; rfl) | (rw [Za.2 h22]; rfl) | trivial
              trivial
            ·skip
             intro h442
             refine ⟨?_, ?_⟩
             ·first | omega | trivial | (with_reducible assumption)
             refine ⟨?_, ?_⟩
             ·skip
              intro h445
              have hF := htold 1 (ZF5 hj h337 (.inr h445))
              refine ⟨?_, ?_⟩
              ·first | (with_reducible rfl) | (with_reducible exact hck.symm) | (rw [hF]; done) | (rw [hF]; with_reducible exact h54.symm) | (rw [hF]; with_reducible exact h55.symm) | (rw [hF]; rfl) | (rw [Za.2 h22]; rfl) | trivial
              refine ⟨?_, ?_⟩
              ·first | (with_reducible rfl) | (with_reducible exact hck.symm) | (rw [hF]; done) | (rw [hF]; with_reducible exact h54.symm) | (rw [hF]; with_reducible exact h55.symm) | (rw [hF]; rfl) | (rw [Za.2 h22]; rfl) | trivial
              refine ⟨?_, ?_⟩
              ·first | (with_reducible rfl) | (with_reducible exact hck.symm) | (rw [hF]; done) | (rw [hF]; with_reducible exact h54.symm) | (rw [hF]; with_reducible exact h55.symm) | (rw [hF]; rfl) | (rw [Za.2 h22]; rfl) | trivial
              refine ⟨?_, ?_⟩
              ·first | (with_reducible rfl) | (with_reducible exact hck.symm) | (rw [hF]; done) | (rw [hF]; with_reducible exact h54.symm) | (rw [hF]; with_reducible exact h55.symm) | (rw [hF]; rfl) | (rw [Za.2 h22]; rfl) | trivial
              refine ⟨?_, ?_⟩
              ·first | (with_reducible rfl) | (with_reducible exact hck.symm) | (rw [hF]; done) | (rw [hF]; with_reducible exact h54.symm) | (rw [hF]; with_reducible exact h55.symm) | (rw [hF]; rfl) | (rw [Za.2 h22]; rfl) | trivial
              refine ⟨?_, ?_⟩
              ·first | (with_reducible rfl) | (with_reducible exact hck.symm) | (rw [hF]; done) | (rw [hF]; with_reducible exact h54.symm) | (rw [hF]; with_reducible exact h55.symm) | (rw [hF]; rfl) | (rw [Za.2 h22]; rfl) | trivial
              refine ⟨?_, ?_⟩
              ·first | (with_reducible rfl) | (with_reducible exact hck.symm) | (rw [hF]; done) | (rw [hF]; with_reducible exact h54.symm) | (rw [hF]; with_reducible exact h55.symm) | (rw [hF]; rfl) | (rw [Za.2 h22]; rfl) | trivial
              refine ⟨?_, ?_⟩
              ·first | (with_reducible rfl) | (with_reducible exact hck.symm) | (rw [hF]; done) | (rw [hF]; with_reducible exact h54.symm) | (rw [hF]; with_reducible exact h55.symm) | (rw [hF]; rfl) | (rw [Za.2 h22]; rfl) | trivial
              refine ⟨?_, ?_⟩
              ·first | (with_reducible rfl) | (with_reducible exact hck.symm) | (rw [hF]; done) | (rw [hF]; with_reducible exact h54.symm) | (rw [hF]; with_reducible exact h55.symm) | (rw [hF]; rfl) | (rw [Za.2 h22]; rfl) | trivial
              refine ⟨?_, ?_⟩
              ·first | (with_reducible rfl) | (with_reducible exact hck.symm) | (rw [hF]; done) | (rw [hF]; with_reducible exact h54.symm) | (rw [hF]; with_reducible exact h55.symm) | (rw [hF]; rfl) | (rw [Za.2 h22]; rfl) | trivial
              trivial
             ·skip
              intro h458
              refine ⟨?_, ?_⟩
              ·first | omega | trivial | (with_reducible assumption)
              refine ⟨?_, ?_⟩
              ·skip
               intro h461
               have hF := htold 2 (st5b hj h337 (.inl ⟨hJl, h442⟩) h458 h461)
               refine ⟨?_, ?_⟩
               ·first | (with_reducible rfl) | (with_reducible exact hck.symm) | (rw [hF]; done) | (rw [hF]; with_reducible exact h54.symm) | (rw [hF]; with_reducible exact h55.symm) | (rw [hF]; rfl) | (rw [Za.2 h22]; rfl) | trivial
               refine ⟨?_, ?_⟩
               ·first | (with_reducible rfl) | (with_reducible exact hck.symm) | (rw [hF]; done) | (rw [hF]; with_reducible exact h54.symm) | (rw [hF]; with_reducible exact h55.symm) | (rw [hF]; rfl) | (rw [Za.2 h22]; rfl) | trivial
               refine ⟨?_, ?_⟩
               ·first | (with_reducible rfl) | (with_reducible exact hck.symm) | (rw [hF]; done) | (rw [hF]; with_reducible exact h54.symm) | (rw [hF]; with_reducible exact h55.symm) | (rw [hF]; rfl) | (rw [Za.2 h22]; rfl) | trivial
               refine ⟨?_, ?_⟩
               ·first | (with_reducible rfl) | (with_reducible exact hck.symm) | (rw [hF]; done) | (rw [hF]; with_reducible exact h54.symm) | (rw [hF]; with_reducible exact h55.symm) | (rw [hF]; rfl) | (rw [Za.2 h22]; rfl) | trivial
               refine ⟨?_, ?_⟩
               ·first | (with_reducible rfl) | (with_reducible exact hck.symm) | (rw [hF]; done) | (rw [hF]; with_reducible exact h54.symm) | (rw [hF]; with_reducible exact h55.symm) | (rw [hF]; rfl) | (rw [Za.2 h22]; rfl) | trivial
               refine ⟨?_, ?_⟩
               ·first | (with_reducible rfl) | (with_reducible exact hck.symm) | (rw [hF]; done) | (rw [hF]; with_reducible exact h54.symm) | (rw [hF]; with_reducible exact h55.symm) | (rw [hF]; rfl) | (rw [Za.2 h22]; rfl) | trivial
               refine ⟨?_, ?_⟩
               ·first | (with_reducible rfl) | (with_reducible exact hck.symm) | (rw [hF]; done) | (rw [hF]; with_reducible exact h54.symm) | (rw [hF]; with_reducible exact h55.symm) | (rw [hF]; rfl) | (rw [Za.2 h22]; rfl) | trivial
               refine ⟨?_, ?_⟩
               ·first | (with_reducible rfl) | (with_reducible exact hck.symm) | (rw [hF]; done) | (rw [hF]; with_reducible exact h54.symm) | (rw [hF]; with_reducible exact h55.symm) | (rw [hF]; rfl) | (rw [Za.2 h22]; rfl) | trivial
               refine ⟨?_, ?_⟩
               ·first | (with_reducible rfl) | (with_reducible exact hck.symm) | (rw [hF]; done) | (rw [hF]; with_reducible exact h54.symm) | (rw [hF]; with_reducible exact h55.symm) | (rw [hF]; rfl) | (rw [Za.2 h22]; rfl) | trivial
               refine ⟨?_, ?_⟩
               ·first | (with_reducible rfl) | (with_reducible exact hck.symm) | (rw [hF]; done) | (rw [hF]; with_reducible exact h54.symm) | (rw [hF]; with_reducible exact h55.symm) | (rw [hF]; rfl) | (rw [Za.2 h22]; rfl) | trivial
               trivial
              ·skip
               intro h474
               have hst := hsu.trans (st5c hj h337 (.inl ⟨hJl, h442⟩) h458 h474)
               have hwho : ({ B.txs.getD J tx0 with opn := false, com := (n : Int) } : Tx).who = (B.txs.getD J tx0).who := rfl
               intro h475
               intro h476
               intro h477
               intro h478
               intro h479
               intro h480
               intro h481
               refine ⟨?_, ?_⟩
               ·first | omega | trivial | (with_reducible assumption)
               refine ⟨?_, ?_⟩
               ·first | omega | trivial | (with_reducible assumption)
               refine ⟨?_, ?_⟩
               ·first | omega | trivial | (with_reducible assumption)
               refine ⟨?_, ?_⟩
               ·first | omega | trivial | (with_reducible assumption)
               intro v486
               intro h487
               refine ⟨?_, ?_⟩
               ·first | omega | trivial | (with_reducible assumption)
               refine ⟨?_, ?_⟩
               ·first | omega | trivial | (with_reducible assumption)
               intro v490
               intro v491
               intro h492
               intro h493
               refine ⟨?_, ?_⟩
               ·omega
               refine ⟨?_, ?_⟩
               ·omega
               refine ⟨?_, ?_⟩
               ·omega
               refine ⟨?_, ?_⟩
               ·omega
               refine ⟨?_, ?_⟩
               ·omega
               refine ⟨?_, ?_⟩
               ·simp only [hst, Zg hJR, hlr, ZI5, ZIO]; omega
               refine ⟨?_, ?_⟩
               ·simp only [hst, Zg hJR, hlr, ZI5, ZIO]; omega
               refine ⟨?_, ?_⟩
               ·first | (simp only [hst, hlr, ZI5, ZIO]; first | omega | assumption | done) | (simp only [hst, hlr, ZI5, ZIO]; done)
               refine ⟨?_, ?_⟩
               ·first | (simp only [hst, hlr, ZI5, ZIO]; first | omega | assumption | done) | (simp only [hst, hlr, ZI5, ZIO]; done)
               refine ⟨?_, ?_⟩
               ·rw [hst, Zg hJR]; exact h53
               refine ⟨?_, ?_⟩
               ·first | (rw [hst]; exact h54)
               refine ⟨?_, ?_⟩
               ·first | (rw [hst]; exact h55)
               refine ⟨?_, ?_⟩
               ·rw [hst, ZfT hJl]; rfl
               refine ⟨?_, ?_⟩
               ·first | (rw [hst]; done) | (rw [hst]; rfl)
               refine ⟨?_, ?_⟩
               ·rw [hst, Zg hJR, ZeE]
               refine ⟨?_, ?_⟩
               ·first | (rw [hst, Zaf hJR hJl hwho]; done) | (rw [hst]; done)
               refine ⟨?_, ?_⟩
               ·first | (simp only [hst, hlr, ZI5, ZIO]; first | omega | assumption | done) | (simp only [hst, hlr, ZI5, ZIO]; done)
               refine ⟨?_, ?_⟩
               ·simp only [hst, Zg hJR, hlr, ZI5, ZIO]; omega
               trivial
           ·skip
            intro h514
            refine ⟨?_, ?_⟩
            ·skip
             intro h516
             intro v517
             intro h518
             refine ⟨?_, ?_⟩
             ·first | omega | trivial | (with_reducible assumption)
             refine ⟨?_, ?_⟩
             ·rw [Zkx (Zeh h58.1)]; exact List.Perm.nil
             refine ⟨?_, ?_⟩
             ·exact ⟨by rw [Zg7 h58.1]; exact hw.nd, fun _ q => q⟩
             refine ⟨?_, ?_⟩
             ·exact congrArg (fun q => U.g (GG.tx q)) (ZlP (Zeh h58.1))
             intro v523
             intro v524
             intro v525
             intro v526
             intro v527
             intro v528
             intro h529
             intro h530
             intro h531
             intro h532
             intro h533
             have hFl2 : v528.length <= B.txs.length := by have q := h532.length_eq; rw [hlr] at q; have := ZgL v523 B.txs 0; omega
             refine ⟨?_, ?_⟩
             ·skip
              intro h535
              have hM : v523 = [] := ZJf (by omega)
              have hst := hsu.trans (st7 hj h516)
              refine ⟨?_, ?_⟩
              ·omega
              refine ⟨?_, ?_⟩
              ·omega
              refine ⟨?_, ?_⟩
              ·omega
              refine ⟨?_, ?_⟩
              ·omega
              refine ⟨?_, ?_⟩
              ·omega
              refine ⟨?_, ?_⟩
              ·first | (simp only [hst, hlr]; first | omega | assumption | done) | (simp only [hst, hlr]; done)
              refine ⟨?_, ?_⟩
              ·first | (simp only [hst, hlr]; first | omega | assumption | done) | (simp only [hst, hlr]; done)
              refine ⟨?_, ?_⟩
              ·first | (simp only [hst, hlr]; first | omega | assumption | done) | (simp only [hst, hlr]; done)
              refine ⟨?_, ?_⟩
              ·first | (simp only [hst, hlr]; first | omega | assumption | done) | (simp only [hst, hlr]; done)
              refine ⟨?_, ?_⟩
              ·rw [hst, ZgM h531]; rw [hM, Zeb] at h532; exact h532
              refine ⟨?_, ?_⟩
              ·rw [hst]; exact h54
              refine ⟨?_, ?_⟩
              ·rw [hst]; exact h55
              refine ⟨?_, ?_⟩
              ·rw [hst, hM]; rfl
              refine ⟨?_, ?_⟩
              ·rw [hst]
              refine ⟨?_, ?_⟩
              ·rw [hst, ZgM h531]
              refine ⟨?_, ?_⟩
              ·rw [hst]; exact congrArg U.amap (ZnC h531 (by rw [List.map_map]; rfl))
              refine ⟨?_, ?_⟩
              ·first | (simp only [hst, hlr]; first | omega | assumption | done) | (simp only [hst, hlr]; done)
              refine ⟨?_, ?_⟩
              ·first | (simp only [hst, hlr]; first | omega | assumption | done) | (simp only [hst, hlr]; done)
              trivial
             ·skip
              intro v556
              intro h557
              have hjk0 := h533.2 _ h557
              have hAk := Zcb (w := v556) h58.1 0
              obtain ⟨j, hjd⟩ : ∃ j, ixL v556 B.txs = j := ⟨_, rfl⟩
              rw [hjd] at hAk
              have hjl : j < B.txs.length := by rw [hAk.2] at hjk0; simpa using hjk0
              have hR22 : v525.length = v37.length := by have := congrArg List.length h531; simpa using this
              have hjR : j < v525.length := by have := h58.1; omega
              have hg0 : g0 (v525.getD j []) = g0 (v37.getD j []) := by rw [<- Zdo g0 v525, <- Zdo g0 v37, h531]
              have hmk : Zas 0 (Zff v37 B.txs) v556 = g0 (v525.getD j []) := by rw [hAk.1, if_pos hjl, hg0]
              have hrj := ZcM (R := v525) (by rw [h531]; exact h58.2.1) hjR
              have hwj : (B.txs.getD j tx0).who = v556 := by have := Za3 (w := v556) (L := B.txs) (by omega); rw [hjd] at this; exact this
              have hgj : (Zcz B.txs v523).getD j tx0 = B.txs.getD j tx0 := by rw [Zeu _ _ hjl, hwj, if_pos h557]
              have hsl := ZeB B.txs v523
              simp only [hmk, hrj, ZI7, Ze8]
              refine ⟨?_, ?_⟩
              ·exact ⟨j, hjR, rfl⟩
              intro h559
              intro h560
              intro h561
              intro h562
              intro h563
              intro h564
              intro h565
              intro h566
              intro h567
              refine ⟨?_, ?_⟩
              ·first | omega | trivial | (with_reducible assumption)
              refine ⟨?_, ?_⟩
              ·skip
               intro h570
               rw [hgj] at h570
               intro h571
               intro h572
               intro h573
               intro h574
               intro h575
               intro h576
               intro h577
               intro h578
               intro h579
               refine ⟨?_, ?_⟩
               ·first | omega | trivial | (with_reducible assumption)
               refine ⟨?_, ?_⟩
               ·first | omega | trivial | (with_reducible assumption)
               refine ⟨?_, ?_⟩
               ·first | omega | trivial | (with_reducible assumption)
               refine ⟨?_, ?_⟩
               ·first | omega | trivial | (with_reducible assumption)
               intro v584
               intro h585
               refine ⟨?_, ?_⟩
               ·first | omega | trivial | (with_reducible assumption)
               refine ⟨?_, ?_⟩
               ·first | omega | trivial | (with_reducible assumption)
               intro v588
               intro v589
               intro h590
               intro h591
               refine ⟨?_, ?_⟩
               ·have := ZeT h557; omega
               refine ⟨?_, ?_⟩
               ·rw [Zgc hjR]; exact (YK (f := g0) (d := []) (x := g0 (v525.getD j []) :: _) rfl hjR).trans h531
               refine ⟨?_, ?_⟩
               ·refine (h532.append_right _).trans ?_
                rw [hg0, <- ZeE]
                exact ZeH (Zl4 h533.1 hw.nd hjd hjl h557 h570)
               refine ⟨?_, ?_⟩
               ·exact ⟨ZbU h533.1 _, fun q hq => h533.2 q (by rw [ZaS h533.1] at hq; simp only [Bool.and_eq_true] at hq; exact hq.2)⟩
               refine ⟨?_, ?_⟩
               ·rw [ZfT (by rw [hsl]; exact hjl), Zhd h533.1 hw.nd hjd hjl h557, hgj]; rfl
               trivial
              ·skip
               intro h599
               rw [hgj] at h599
               refine ⟨?_, ?_⟩
               ·have := ZeT h557; omega
               refine ⟨?_, ?_⟩
               ·exact h532.trans (ZeH (Zia h533.1 hw.nd hjd hjl h599))
               refine ⟨?_, ?_⟩
               ·exact ⟨ZbU h533.1 _, fun q hq => h533.2 q (by rw [ZaS h533.1] at hq; simp only [Bool.and_eq_true] at hq; exact hq.2)⟩
               refine ⟨?_, ?_⟩
               ·exact congrArg (fun q => U.g (GG.tx q)) (Zic h533.1 hw.nd hjd hjl h557 (by rw [hgj]; exact h599))
               trivial
            ·skip
             intro h606
             have hst := hsu.trans (st0 hj ⟨h94, h184, h237, h286, h514, h335, h606⟩)
             refine ⟨?_, ?_⟩
             ·omega
             refine ⟨?_, ?_⟩
             ·omega
             refine ⟨?_, ?_⟩
             ·omega
             refine ⟨?_, ?_⟩
             ·omega
             refine ⟨?_, ?_⟩
             ·omega
             refine ⟨?_, ?_⟩
             ·first | (simp only [hst, hlr, ZI5, ZIO]; first | omega | assumption | done) | (simp only [hst, hlr, ZI5, ZIO]; done)
             refine ⟨?_, ?_⟩
             ·first | (simp only [hst, hlr, ZI5, ZIO]; first | omega | assumption | done) | (simp only [hst, hlr, ZI5, ZIO]; done)
             refine ⟨?_, ?_⟩
             ·first | (simp only [hst, hlr, ZI5, ZIO]; first | omega | assumption | done) | (simp only [hst, hlr, ZI5, ZIO]; done)
             refine ⟨?_, ?_⟩
             ·first | (simp only [hst, hlr, ZI5, ZIO]; first | omega | assumption | done) | (simp only [hst, hlr, ZI5, ZIO]; done)
             refine ⟨?_, ?_⟩
             ·first | (rw [hst]; exact h53)
             refine ⟨?_, ?_⟩
             ·first | (rw [hst]; exact h54)
             refine ⟨?_, ?_⟩
             ·first | (rw [hst]; exact h55)
             refine ⟨?_, ?_⟩
             ·first | (rw [hst]; done) | (rw [hst]; rfl)
             refine ⟨?_, ?_⟩
             ·first | (rw [hst]; done) | (rw [hst]; rfl)
             refine ⟨?_, ?_⟩
             ·first | (rw [hst]; done) | (rw [hst]; rfl)
             refine ⟨?_, ?_⟩
             ·first | (rw [hst, Zaf hJR hJl hwho]; done) | (rw [hst]; done)
             refine ⟨?_, ?_⟩
             ·first | (simp only [hst, hlr, ZI5, ZIO]; first | omega | assumption | done) | (simp only [hst, hlr, ZI5, ZIO]; done)
             refine ⟨?_, ?_⟩
             ·first | (simp only [hst, hlr, ZI5, ZIO]; first | omega | assumption | done) | (simp only [hst, hlr, ZI5, ZIO]; done)
             trivial
     ·skip
      trivial
    ·skip
     intro h629
     have hJn : ¬ J < B.txs.length := fun q => by
      rw [hA.1, if_pos q] at h629
      have := h58.2.2 _ (ZA4 (R := v37) (J := J) (by have := h58.1; omega)); omega
     have hnop : J < B.txs.length -> (B.txs.getD J tx0).opn = false := fun q => absurd q hJn
     refine ⟨?_, ?_⟩
     ·skip
      trivial
     ·skip
      intro h633
      refine ⟨?_, ?_⟩
      ·skip
       intro h635
       refine ⟨?_, ?_⟩
       ·skip
        trivial
       ·skip
        intro h639
        have hst := hsu.trans (st1b hj h635 hJn)
        have hkR : ∀ k ∈ B.kept, k < v37.length := fun k hk => by have := hw.ki k hk; have := h58.1; omega
        intro v640
        intro h641
        intro v642
        intro h643
        refine ⟨?_, ?_⟩
        ·omega
        refine ⟨?_, ?_⟩
        ·omega
        refine ⟨?_, ?_⟩
        ·omega
        refine ⟨?_, ?_⟩
        ·omega
        refine ⟨?_, ?_⟩
        ·omega
        refine ⟨?_, ?_⟩
        ·first | (simp only [hst, hlr]; first | omega | assumption | done) | (simp only [hst, hlr]; done)
        refine ⟨?_, ?_⟩
        ·first | (simp only [hst, hlr]; first | omega | assumption | done) | (simp only [hst, hlr]; done)
        refine ⟨?_, ?_⟩
        ·first | (simp only [hst, hlr, ZI5, ZIO]; first | omega | assumption | done) | (simp only [hst, hlr, ZI5, ZIO]; done)
        refine ⟨?_, ?_⟩
        ·first | (simp only [hst, hlr, ZI5, ZIO]; first | omega | assumption | done) | (simp only [hst, hlr, ZI5, ZIO]; done)
        refine ⟨?_, ?_⟩
        ·first | (rw [hst]; exact List.Perm.nil)
        refine ⟨?_, ?_⟩
        ·first | (rw [hst]; exact h54)
        refine ⟨?_, ?_⟩
        ·first | (rw [hst]; exact h55)
        refine ⟨?_, ?_⟩
        ·first | (rw [hst]; done) | (rw [hst]; rfl)
        refine ⟨?_, ?_⟩
        ·first | (rw [hst]; done) | (rw [hst]; rfl)
        refine ⟨?_, ?_⟩
        ·rw [hst]; exact Zz7 hkR _
        refine ⟨?_, ?_⟩
        ·rw [hst]; exact congrArg U.amap (ZzX h58.1 _ _ (by show ¬ ixL (x.getD 1 0) B.txs < _; rw [hJ]; exact hJn))
        refine ⟨?_, ?_⟩
        ·first | (simp only [hst, hlr, ZI5, ZIO]; first | omega | assumption | done) | (simp only [hst, hlr, ZI5, ZIO]; done)
        refine ⟨?_, ?_⟩
        ·first | (simp only [hst, hlr]; first | omega | assumption | done) | (simp only [hst, hlr]; done)
        trivial
      ·skip
       intro h664
       refine ⟨?_, ?_⟩
       ·skip
        intro h666
        refine ⟨?_, ?_⟩
        ·skip
         intro h668
         have hst := hsu.trans (st2a hj h666 h668)
         intro v669
         intro h670
         refine ⟨?_, ?_⟩
         ·first | omega | trivial | (with_reducible assumption)
         refine ⟨?_, ?_⟩
         ·first | omega | trivial | (with_reducible assumption)
         intro v673
         intro v674
         intro h675
         intro h676
         refine ⟨?_, ?_⟩
         ·omega
         refine ⟨?_, ?_⟩
         ·omega
         refine ⟨?_, ?_⟩
         ·omega
         refine ⟨?_, ?_⟩
         ·omega
         refine ⟨?_, ?_⟩
         ·omega
         refine ⟨?_, ?_⟩
         ·first | (simp only [hst, hlr, ZI5, ZIO]; first | omega | assumption | done) | (simp only [hst, hlr, ZI5, ZIO]; done)
         refine ⟨?_, ?_⟩
         ·first | (simp only [hst, hlr, ZI5, ZIO]; first | omega | assumption | done) | (simp only [hst, hlr, ZI5, ZIO]; done)
         refine ⟨?_, ?_⟩
         ·first | (simp only [hst, hlr, ZI5, ZIO]; first | omega | assumption | done) | (simp only [hst, hlr, ZI5, ZIO]; done)
         refine ⟨?_, ?_⟩
         ·first | (simp only [hst, hlr, ZI5, ZIO]; first | omega | assumption | done) | (simp only [hst, hlr, ZI5, ZIO]; done)
         refine ⟨?_, ?_⟩
         ·first | (rw [hst]; exact List.Perm.nil)
         refine ⟨?_, ?_⟩
         ·first | (rw [hst]; exact h54)
         refine ⟨?_, ?_⟩
         ·first | (rw [hst]; exact h55)
         refine ⟨?_, ?_⟩
         ·first | (rw [hst]; done) | (rw [hst]; rfl)
         refine ⟨?_, ?_⟩
         ·first | (rw [hst]; done) | (rw [hst]; rfl)
         refine ⟨?_, ?_⟩
         ·first | (rw [hst]; done) | (rw [hst]; rfl)
         refine ⟨?_, ?_⟩
         ·first | (rw [hst, Zaf hJR hJl hwho]; done) | (rw [hst]; done)
         refine ⟨?_, ?_⟩
         ·first | (simp only [hst, hlr, ZI5, ZIO]; first | omega | assumption | done) | (simp only [hst, hlr, ZI5, ZIO]; done)
         refine ⟨?_, ?_⟩
         ·first | (simp only [hst, hlr, ZI5, ZIO]; first | omega | assumption | done) | (simp only [hst, hlr, ZI5, ZIO]; done)
         trivial
        ·skip
         intro h697
         have hF := htold 1 (st2c hj h666 h697 hnop)
         refine ⟨?_, ?_⟩
         ·first | (with_reducible rfl) | (with_reducible exact hck.symm) | (rw [hF]; done) | (rw [hF]; with_reducible exact h54.symm) | (rw [hF]; with_reducible exact h55.symm) | (rw [hF]; rfl) | (rw [Za.2 h22]; rfl) | trivial
         refine ⟨?_, ?_⟩
         ·first | (with_reducible rfl) | (with_reducible exact hck.symm) | (rw [hF]; done) | (rw [hF]; with_reducible exact h54.symm) | (rw [hF]; with_reducible exact h55.symm) | (rw [hF]; rfl) | (rw [Za.2 h22]; rfl) | trivial
         refine ⟨?_, ?_⟩
         ·first | (with_reducible rfl) | (with_reducible exact hck.symm) | (rw [hF]; done) | (rw [hF]; with_reducible exact h54.symm) | (rw [hF]; with_reducible exact h55.symm) | (rw [hF]; rfl) | (rw [Za.2 h22]; rfl) | trivial
         refine ⟨?_, ?_⟩
         ·first | (with_reducible rfl) | (with_reducible exact hck.symm) | (rw [hF]; done) | (rw [hF]; with_reducible exact h54.symm) | (rw [hF]; with_reducible exact h55.symm) | (rw [hF]; rfl) | (rw [Za.2 h22]; rfl) | trivial
         refine ⟨?_, ?_⟩
         ·first | (with_reducible rfl) | (with_reducible exact hck.symm) | (rw [hF]; done) | (rw [hF]; with_reducible exact h54.symm) | (rw [hF]; with_reducible exact h55.symm) | (rw [hF]; rfl) | (rw [Za.2 h22]; rfl) | trivial
         refine ⟨?_, ?_⟩
         ·first | (with_reducible rfl) | (with_reducible exact hck.symm) | (rw [hF]; done) | (rw [hF]; with_reducible exact h54.symm) | (rw [hF]; with_reducible exact h55.symm) | (rw [hF]; rfl) | (rw [Za.2 h22]; rfl) | trivial
         refine ⟨?_, ?_⟩
         ·first | (with_reducible rfl) | (with_reducible exact hck.symm) | (rw [hF]; done) | (rw [hF]; with_reducible exact h54.symm) | (rw [hF]; with_reducible exact h55.symm) | (rw [hF]; rfl) | (rw [Za.2 h22]; rfl) | trivial
         refine ⟨?_, ?_⟩
         ·first | (with_reducible rfl) | (with_reducible exact hck.symm) | (rw [hF]; done) | (rw [hF]; with_reducible exact h54.symm) | (rw [hF]; with_reducible exact h55.symm) | (rw [hF]; rfl) | (rw [Za.2 h22]; rfl) | trivial
         refine ⟨?_, ?_⟩
         ·first | (with_reducible rfl) | (with_reducible exact hck.symm) | (rw [hF]; done) | (rw [hF]; with_reducible exact h54.symm) | (rw [hF]; with_reducible exact h55.symm) | (rw [hF]; rfl) | (rw [Za.2 h22]; rfl) | trivial
         refine ⟨?_, ?_⟩
         ·first | (with_reducible rfl) | (with_reducible exact hck.symm) | (rw [hF]; done) | (rw [hF]; with_reducible exact h54.symm) | (rw [hF]; with_reducible exact h55.symm) | (rw [hF]; rfl) | (rw [Za.2 h22]; rfl) | trivial
         trivial
       ·skip
        intro h710
        refine ⟨?_, ?_⟩
        ·skip
         intro h712
         refine ⟨?_, ?_⟩
         ·skip
          intro h714
          have hF := htold 1 (ZHW hj (.inl h712) hnop)
          refine ⟨?_, ?_⟩
          ·first | (with_reducible rfl) | (with_reducible exact hck.symm) | (rw [hF]; done) | (rw [hF]; with_reducible exact h54.symm) | (rw [hF]; with_reducible exact h55.symm) | (rw [hF]; rfl) | (rw [Za.2 h22]; rfl) | trivial
          refine ⟨?_, ?_⟩
          ·first | (with_reducible rfl) | (with_reducible exact hck.symm) | (rw [hF]; done) | (rw [hF]; with_reducible exact h54.symm) | (rw [hF]; with_reducible exact h55.symm) | (rw [hF]; rfl) | (rw [Za.2 h22]; rfl) | trivial
          refine ⟨?_, ?_⟩
          ·first | (with_reducible rfl) | (with_reducible exact hck.symm) | (rw [hF]; done) | (rw [hF]; with_reducible exact h54.symm) | (rw [hF]; with_reducible exact h55.symm) | (rw [hF]; rfl) | (rw [Za.2 h22]; rfl) | trivial
          refine ⟨?_, ?_⟩
          ·first | (with_reducible rfl) | (with_reducible exact hck.symm) | (rw [hF]; done) | (rw [hF]; with_reducible exact h54.symm) | (rw [hF]; with_reducible exact h55.symm) | (rw [hF]; rfl) | (rw [Za.2 h22]; rfl) | trivial
          refine ⟨?_, ?_⟩
          ·first | (with_reducible rfl) | (with_reducible exact hck.symm) | (rw [hF]; done) | (rw [hF]; with_reducible exact h54.symm) | (rw [hF]; with_reducible exact h55.symm) | (rw [hF]; rfl) | (rw [Za.2 h22]; rfl) | trivial
          refine ⟨?_, ?_⟩
          ·first | (with_reducible rfl) | (with_reducible exact hck.symm) | (rw [hF]; done) | (rw [hF]; with_reducible exact h54.symm) | (rw [hF]; with_reducible exact h55.symm) | (rw [hF]; rfl) | (rw [Za.2 h22]; rfl) | trivial
          refine ⟨?_, ?_⟩
          ·first | (with_reducible rfl) | (with_reducible exact hck.symm) | (rw [hF]; done) | (rw [hF]; with_reducible exact h54.symm) | (rw [hF]; with_reducible exact h55.symm) | (rw [hF]; rfl) | (rw [Za.2 h22]; rfl) | trivial
          refine ⟨?_, ?_⟩
          ·first | (with_reducible rfl) | (with_reducible exact hck.symm) | (rw [hF]; done) | (rw [hF]; with_reducible exact h54.symm) | (rw [hF]; with_reducible exact h55.symm) | (rw [hF]; rfl) | (rw [Za.2 h22]; rfl) | trivial
          refine ⟨?_, ?_⟩
          ·first | (with_reducible rfl) | (with_reducible exact hck.symm) | (rw [hF]; done) | (rw [hF]; with_reducible exact h54.symm) | (rw [hF]; with_reducible exact h55.symm) | (rw [hF]; rfl) | (rw [Za.2 h22]; rfl) | trivial
          refine ⟨?_, ?_⟩
          ·first | (with_reducible rfl) | (with_reducible exact hck.symm) | (rw [hF]; done) | (rw [hF]; with_reducible exact h54.symm) | (rw [hF]; with_reducible exact h55.symm) | (rw [hF]; rfl) | (rw [Za.2 h22]; rfl) | trivial
          trivial
         ·skip
          trivial
        ·skip
         intro h729
         refine ⟨?_, ?_⟩
         ·skip
          intro h731
          have hF := htold 1 (ZHW hj (.inr h731) hnop)
          refine ⟨?_, ?_⟩
          ·first | (with_reducible rfl) | (with_reducible exact hck.symm) | (rw [hF]; done) | (rw [hF]; with_reducible exact h54.symm) | (rw [hF]; with_reducible exact h55.symm) | (rw [hF]; rfl) | (rw [Za.2 h22]; rfl) | trivial
          refine ⟨?_, ?_⟩
          ·first | (with_reducible rfl) | (with_reducible exact hck.symm) | (rw [hF]; done) | (rw [hF]; with_reducible exact h54.symm) | (rw [hF]; with_reducible exact h55.symm) | (rw [hF]; rfl) | (rw [Za.2 h22]; rfl) | trivial
          refine ⟨?_, ?_⟩
          ·first | (with_reducible rfl) | (with_reducible exact hck.symm) | (rw [hF]; done) | (rw [hF]; with_reducible exact h54.symm) | (rw [hF]; with_reducible exact h55.symm) | (rw [hF]; rfl) | (rw [Za.2 h22]; rfl) | trivial
          refine ⟨?_, ?_⟩
          ·first | (with_reducible rfl) | (with_reducible exact hck.symm) | (rw [hF]; done) | (rw [hF]; with_reducible exact h54.symm) | (rw [hF]; with_reducible exact h55.symm) | (rw [hF]; rfl) | (rw [Za.2 h22]; rfl) | trivial
          refine ⟨?_, ?_⟩
          ·first | (with_reducible rfl) | (with_reducible exact hck.symm) | (rw [hF]; done) | (rw [hF]; with_reducible exact h54.symm) | (rw [hF]; with_reducible exact h55.symm) | (rw [hF]; rfl) | (rw [Za.2 h22]; rfl) | trivial
          refine ⟨?_, ?_⟩
          ·first | (with_reducible rfl) | (with_reducible exact hck.symm) | (rw [hF]; done) | (rw [hF]; with_reducible exact h54.symm) | (rw [hF]; with_reducible exact h55.symm) | (rw [hF]; rfl) | (rw [Za.2 h22]; rfl) | trivial
          refine ⟨?_, ?_⟩
          ·first | (with_reducible rfl) | (with_reducible exact hck.symm) | (rw [hF]; done) | (rw [hF]; with_reducible exact h54.symm) | (rw [hF]; with_reducible exact h55.symm) | (rw [hF]; rfl) | (rw [Za.2 h22]; rfl) | trivial
          refine ⟨?_, ?_⟩
          ·first | (with_reducible rfl) | (with_reducible exact hck.symm) | (rw [hF]; done) | (rw [hF]; with_reducible exact h54.symm) | (rw [hF]; with_reducible exact h55.symm) | (rw [hF]; rfl) | (rw [Za.2 h22]; rfl) | trivial
          refine ⟨?_, ?_⟩
          ·first | (with_reducible rfl) | (with_reducible exact hck.symm) | (rw [hF]; done) | (rw [hF]; with_reducible exact h54.symm) | (rw [hF]; with_reducible exact h55.symm) | (rw [hF]; rfl) | (rw [Za.2 h22]; rfl) | trivial
          refine ⟨?_, ?_⟩
          ·first | (with_reducible rfl) | (with_reducible exact hck.symm) | (rw [hF]; done) | (rw [hF]; with_reducible exact h54.symm) | (rw [hF]; with_reducible exact h55.symm) | (rw [hF]; rfl) | (rw [Za.2 h22]; rfl) | trivial
          trivial
         ·skip
          intro h744
          refine ⟨?_, ?_⟩
          ·skip
           intro h746
           have hF := htold 1 (st6b hj h746 hnop)
           refine ⟨?_, ?_⟩
           ·first | (with_reducible rfl) | (with_reducible exact hck.symm) | (rw [hF]; done) | (rw [hF]; with_reducible exact h54.symm) | (rw [hF]; with_reducible exact h55.symm) | (rw [hF]; rfl) | (rw [Za.2 h22]; rfl) | trivial
           refine ⟨?_, ?_⟩
           ·first | (with_reducible rfl) | (with_reducible exact hck.symm) | (rw [hF]; done) | (rw [hF]; with_reducible exact h54.symm) | (rw [hF]; with_reducible exact h55.symm) | (rw [hF]; rfl) | (rw [Za.2 h22]; rfl) | trivial
           refine ⟨?_, ?_⟩
           ·first | (with_reducible rfl) | (with_reducible exact hck.symm) | (rw [hF]; done) | (rw [hF]; with_reducible exact h54.symm) | (rw [hF]; with_reducible exact h55.symm) | (rw [hF]; rfl) | (rw [Za.2 h22]; rfl) | trivial
           refine ⟨?_, ?_⟩
           ·first | (with_reducible rfl) | (with_reducible exact hck.symm) | (rw [hF]; done) | (rw [hF]; with_reducible exact h54.symm) | (rw [hF]; with_reducible exact h55.symm) | (rw [hF]; rfl) | (rw [Za.2 h22]; rfl) | trivial
           refine ⟨?_, ?_⟩
           ·first | (with_reducible rfl) | (with_reducible exact hck.symm) | (rw [hF]; done) | (rw [hF]; with_reducible exact h54.symm) | (rw [hF]; with_reducible exact h55.symm) | (rw [hF]; rfl) | (rw [Za.2 h22]; rfl) | trivial
           refine ⟨?_, ?_⟩
           ·first | (with_reducible rfl) | (with_reducible exact hck.symm) | (rw [hF]; done) | (rw [hF]; with_reducible exact h54.symm) | (rw [hF]; with_reducible exact h55.symm) | (rw [hF]; rfl) | (rw [Za.2 h22]; rfl) | trivial
           refine ⟨?_, ?_⟩
           ·first | (with_reducible rfl) | (with_reducible exact hck.symm) | (rw [hF]; done) | (rw [hF]; with_reducible exact h54.symm) | (rw [hF]; with_reducible exact h55.symm) | (rw [hF]; rfl) | (rw [Za.2 h22]; rfl) | trivial
           refine ⟨?_, ?_⟩
           ·first | (with_reducible rfl) | (with_reducible exact hck.symm) | (rw [hF]; done) | (rw [hF]; with_reducible exact h54.symm) | (rw [hF]; with_reducible exact h55.symm) | (rw [hF]; rfl) | (rw [Za.2 h22]; rfl) | trivial
           refine ⟨?_, ?_⟩
           ·first | (with_reducible rfl) | (with_reducible exact hck.symm) | (rw [hF]; done) | (rw [hF]; with_reducible exact h54.symm) | (rw [hF]; with_reducible exact h55.symm) | (rw [hF]; rfl) | (rw [Za.2 h22]; rfl) | trivial
           refine ⟨?_, ?_⟩
           ·first | (with_reducible rfl) | (with_reducible exact hck.symm) | (rw [hF]; done) | (rw [hF]; with_reducible exact h54.symm) | (rw [hF]; with_reducible exact h55.symm) | (rw [hF]; rfl) | (rw [Za.2 h22]; rfl) | trivial
           trivial
          ·skip
           intro h759
           refine ⟨?_, ?_⟩
           ·skip
            intro h761
            refine ⟨?_, ?_⟩
            ·first | omega | trivial | (with_reducible assumption)
            refine ⟨?_, ?_⟩
            ·first | omega | trivial | (with_reducible assumption)
            refine ⟨?_, ?_⟩
            ·exact h560
            refine ⟨?_, ?_⟩
            ·exact .inl h629
            intro v766
            intro h767
            refine ⟨?_, ?_⟩
            ·skip
             intro h769
             have hbad : False := by
              rw [h769] at h767
              obtain ⟨b', hb1, hb2⟩ := h560 _ ((Zo (p := _ ∈ v44)).mp h767.symm)
              injection hb1 with hb1
              obtain ⟨k, hk, rfl⟩ := hb2
              have := h58.2.2 _ (ZA4 hk)
              omega
             refine ⟨?_, ?_⟩
             ·exact hbad.elim
             exact hbad.elim
            ·skip
             intro h773
             have hnf : ¬ J ∈ B.fal := fun hm => hJn (hw.fi J hm)
             have hF := htold 1 (ZF5 hj h761 (.inl ⟨hnop, hnf⟩))
             refine ⟨?_, ?_⟩
             ·first | (with_reducible rfl) | (with_reducible exact hck.symm) | (rw [hF]; done) | (rw [hF]; with_reducible exact h54.symm) | (rw [hF]; with_reducible exact h55.symm) | (rw [hF]; rfl) | (rw [Za.2 h22]; rfl) | trivial
             refine ⟨?_, ?_⟩
             ·first | (with_reducible rfl) | (with_reducible exact hck.symm) | (rw [hF]; done) | (rw [hF]; with_reducible exact h54.symm) | (rw [hF]; with_reducible exact h55.symm) | (rw [hF]; rfl) | (rw [Za.2 h22]; rfl) | trivial
             refine ⟨?_, ?_⟩
             ·first | (with_reducible rfl) | (with_reducible exact hck.symm) | (rw [hF]; done) | (rw [hF]; with_reducible exact h54.symm) | (rw [hF]; with_reducible exact h55.symm) | (rw [hF]; rfl) | (rw [Za.2 h22]; rfl) | trivial
             refine ⟨?_, ?_⟩
             ·first | (with_reducible rfl) | (with_reducible exact hck.symm) | (rw [hF]; done) | (rw [hF]; with_reducible exact h54.symm) | (rw [hF]; with_reducible exact h55.symm) | (rw [hF]; rfl) | (rw [Za.2 h22]; rfl) | trivial
             refine ⟨?_, ?_⟩
             ·first | (with_reducible rfl) | (with_reducible exact hck.symm) | (rw [hF]; done) | (rw [hF]; with_reducible exact h54.symm) | (rw [hF]; with_reducible exact h55.symm) | (rw [hF]; rfl) | (rw [Za.2 h22]; rfl) | trivial
             refine ⟨?_, ?_⟩
             ·first | (with_reducible rfl) | (with_reducible exact hck.symm) | (rw [hF]; done) | (rw [hF]; with_reducible exact h54.symm) | (rw [hF]; with_reducible exact h55.symm) | (rw [hF]; rfl) | (rw [Za.2 h22]; rfl) | trivial
             refine ⟨?_, ?_⟩
             ·first | (with_reducible rfl) | (with_reducible exact hck.symm) | (rw [hF]; done) | (rw [hF]; with_reducible exact h54.symm) | (rw [hF]; with_reducible exact h55.symm) | (rw [hF]; rfl) | (rw [Za.2 h22]; rfl) | trivial
             refine ⟨?_, ?_⟩
             ·first | (with_reducible rfl) | (with_reducible exact hck.symm) | (rw [hF]; done) | (rw [hF]; with_reducible exact h54.symm) | (rw [hF]; with_reducible exact h55.symm) | (rw [hF]; rfl) | (rw [Za.2 h22]; rfl) | trivial
             refine ⟨?_, ?_⟩
             ·first | (with_reducible rfl) | (with_reducible exact hck.symm) | (rw [hF]; done) | (rw [hF]; with_reducible exact h54.symm) | (rw [hF]; with_reducible exact h55.symm) | (rw [hF]; rfl) | (rw [Za.2 h22]; rfl) | trivial
             refine ⟨?_, ?_⟩
             ·first | (with_reducible rfl) | (with_reducible exact hck.symm) | (rw [hF]; done) | (rw [hF]; with_reducible exact h54.symm) | (rw [hF]; with_reducible exact h55.symm) | (rw [hF]; rfl) | (rw [Za.2 h22]; rfl) | trivial
             trivial
           ·skip
            intro h786
            refine ⟨?_, ?_⟩
            ·skip
             intro h788
             intro v789
             intro h790
             refine ⟨?_, ?_⟩
             ·first | omega | trivial | (with_reducible assumption)
             refine ⟨?_, ?_⟩
             ·rw [Zkx (Zeh h58.1)]; exact List.Perm.nil
             refine ⟨?_, ?_⟩
             ·exact ⟨by rw [Zg7 h58.1]; exact hw.nd, fun _ q => q⟩
             refine ⟨?_, ?_⟩
             ·exact congrArg (fun q => U.g (GG.tx q)) (ZlP (Zeh h58.1))
             intro v795
             intro v796
             intro v797
             intro v798
             intro v799
             intro v800
             intro h801
             intro h802
             intro h803
             intro h804
             intro h805
             have hFl2 : v800.length <= B.txs.length := by have q := h804.length_eq; rw [hlr] at q; have := ZgL v795 B.txs 0; omega
             refine ⟨?_, ?_⟩
             ·skip
              intro h807
              have hM : v795 = [] := ZJf (by omega)
              have hst := hsu.trans (st7 hj h788)
              refine ⟨?_, ?_⟩
              ·omega
              refine ⟨?_, ?_⟩
              ·omega
              refine ⟨?_, ?_⟩
              ·omega
              refine ⟨?_, ?_⟩
              ·omega
              refine ⟨?_, ?_⟩
              ·omega
              refine ⟨?_, ?_⟩
              ·first | (simp only [hst, hlr]; first | omega | assumption | done) | (simp only [hst, hlr]; done)
              refine ⟨?_, ?_⟩
              ·first | (simp only [hst, hlr]; first | omega | assumption | done) | (simp only [hst, hlr]; done)
              refine ⟨?_, ?_⟩
              ·first | (simp only [hst, hlr]; first | omega | assumption | done) | (simp only [hst, hlr]; done)
              refine ⟨?_, ?_⟩
              ·first | (simp only [hst, hlr]; first | omega | assumption | done) | (simp only [hst, hlr]; done)
              refine ⟨?_, ?_⟩
              ·rw [hst, ZgM h803]; rw [hM, Zeb] at h804; exact h804
              refine ⟨?_, ?_⟩
              ·rw [hst]; exact h54
              refine ⟨?_, ?_⟩
              ·rw [hst]; exact h55
              refine ⟨?_, ?_⟩
              ·rw [hst, hM]; rfl
              refine ⟨?_, ?_⟩
              ·rw [hst]
              refine ⟨?_, ?_⟩
              ·rw [hst, ZgM h803]
              refine ⟨?_, ?_⟩
              ·rw [hst]; exact congrArg U.amap (ZnC h803 (by rw [List.map_map]; rfl))
              refine ⟨?_, ?_⟩
              ·first | (simp only [hst, hlr]; first | omega | assumption | done) | (simp only [hst, hlr]; done)
              refine ⟨?_, ?_⟩
              ·first | (simp only [hst, hlr]; first | omega | assumption | done) | (simp only [hst, hlr]; done)
              trivial
             ·skip
              intro v828
              intro h829
              have hjk0 := h805.2 _ h829
              have hAk := Zcb (w := v828) h58.1 0
              obtain ⟨j, hjd⟩ : ∃ j, ixL v828 B.txs = j := ⟨_, rfl⟩
              rw [hjd] at hAk
              have hjl : j < B.txs.length := by rw [hAk.2] at hjk0; simpa using hjk0
              have hR22 : v797.length = v37.length := by have := congrArg List.length h803; simpa using this
              have hjR : j < v797.length := by have := h58.1; omega
              have hg0 : g0 (v797.getD j []) = g0 (v37.getD j []) := by rw [<- Zdo g0 v797, <- Zdo g0 v37, h803]
              have hmk : Zas 0 (Zff v37 B.txs) v828 = g0 (v797.getD j []) := by rw [hAk.1, if_pos hjl, hg0]
              have hrj := ZcM (R := v797) (by rw [h803]; exact h58.2.1) hjR
              have hwj : (B.txs.getD j tx0).who = v828 := by have := Za3 (w := v828) (L := B.txs) (by omega); rw [hjd] at this; exact this
              have hgj : (Zcz B.txs v795).getD j tx0 = B.txs.getD j tx0 := by rw [Zeu _ _ hjl, hwj, if_pos h829]
              have hsl := ZeB B.txs v795
              simp only [hmk, hrj, ZI7, Ze8]
              refine ⟨?_, ?_⟩
              ·exact ⟨j, hjR, rfl⟩
              intro h831
              intro h832
              intro h833
              intro h834
              intro h835
              intro h836
              intro h837
              intro h838
              intro h839
              refine ⟨?_, ?_⟩
              ·first | omega | trivial | (with_reducible assumption)
              refine ⟨?_, ?_⟩
              ·skip
               intro h842
               rw [hgj] at h842
               intro h843
               intro h844
               intro h845
               intro h846
               intro h847
               intro h848
               intro h849
               intro h850
               intro h851
               refine ⟨?_, ?_⟩
               ·first | omega | trivial | (with_reducible assumption)
               refine ⟨?_, ?_⟩
               ·first | omega | trivial | (with_reducible assumption)
               refine ⟨?_, ?_⟩
               ·first | omega | trivial | (with_reducible assumption)
               refine ⟨?_, ?_⟩
               ·first | omega | trivial | (with_reducible assumption)
               intro v856
               intro h857
               refine ⟨?_, ?_⟩
               ·first | omega | trivial | (with_reducible assumption)
               refine ⟨?_, ?_⟩
               ·first | omega | trivial | (with_reducible assumption)
               intro v860
               intro v861
               intro h862
               intro h863
               refine ⟨?_, ?_⟩
               ·have := ZeT h829; omega
               refine ⟨?_, ?_⟩
               ·rw [Zgc hjR]; exact (YK (f := g0) (d := []) (x := g0 (v797.getD j []) :: _) rfl hjR).trans h803
               refine ⟨?_, ?_⟩
               ·refine (h804.append_right _).trans ?_
                rw [hg0, <- ZeE]
                exact ZeH (Zl4 h805.1 hw.nd hjd hjl h829 h842)
               refine ⟨?_, ?_⟩
               ·exact ⟨ZbU h805.1 _, fun q hq => h805.2 q (by rw [ZaS h805.1] at hq; simp only [Bool.and_eq_true] at hq; exact hq.2)⟩
               refine ⟨?_, ?_⟩
               ·rw [ZfT (by rw [hsl]; exact hjl), Zhd h805.1 hw.nd hjd hjl h829, hgj]; rfl
               trivial
              ·skip
               intro h871
               rw [hgj] at h871
               refine ⟨?_, ?_⟩
               ·have := ZeT h829; omega
               refine ⟨?_, ?_⟩
               ·exact h804.trans (ZeH (Zia h805.1 hw.nd hjd hjl h871))
               refine ⟨?_, ?_⟩
               ·exact ⟨ZbU h805.1 _, fun q hq => h805.2 q (by rw [ZaS h805.1] at hq; simp only [Bool.and_eq_true] at hq; exact hq.2)⟩
               refine ⟨?_, ?_⟩
               ·exact congrArg (fun q => U.g (GG.tx q)) (Zic h805.1 hw.nd hjd hjl h829 (by rw [hgj]; exact h871))
               trivial
            ·skip
             intro h878
             have hst := hsu.trans (st0 hj ⟨h664, h710, h729, h744, h786, h759, h878⟩)
             refine ⟨?_, ?_⟩
             ·omega
             refine ⟨?_, ?_⟩
             ·omega
             refine ⟨?_, ?_⟩
             ·omega
             refine ⟨?_, ?_⟩
             ·omega
             refine ⟨?_, ?_⟩
             ·omega
             refine ⟨?_, ?_⟩
             ·first | (simp only [hst, hlr, ZI5, ZIO]; first | omega | assumption | done) | (simp only [hst, hlr, ZI5, ZIO]; done)
             refine ⟨?_, ?_⟩
             ·first | (simp only [hst, hlr, ZI5, ZIO]; first | omega | assumption | done) | (simp only [hst, hlr, ZI5, ZIO]; done)
             refine ⟨?_, ?_⟩
             ·first | (simp only [hst, hlr, ZI5, ZIO]; first | omega | assumption | done) | (simp only [hst, hlr, ZI5, ZIO]; done)
             refine ⟨?_, ?_⟩
             ·first | (simp only [hst, hlr, ZI5, ZIO]; first | omega | assumption | done) | (simp only [hst, hlr, ZI5, ZIO]; done)
             refine ⟨?_, ?_⟩
             ·first | (rw [hst]; exact h53)
             refine ⟨?_, ?_⟩
             ·first | (rw [hst]; exact h54)
             refine ⟨?_, ?_⟩
             ·first | (rw [hst]; exact h55)
             refine ⟨?_, ?_⟩
             ·first | (rw [hst]; done) | (rw [hst]; rfl)
             refine ⟨?_, ?_⟩
             ·first | (rw [hst]; done) | (rw [hst]; rfl)
             refine ⟨?_, ?_⟩
             ·first | (rw [hst]; done) | (rw [hst]; rfl)
             refine ⟨?_, ?_⟩
             ·first | (rw [hst, Zaf hJR hJl hwho]; done) | (rw [hst]; done)
             refine ⟨?_, ?_⟩
             ·first | (simp only [hst, hlr, ZI5, ZIO]; first | omega | assumption | done) | (simp only [hst, hlr, ZI5, ZIO]; done)
             refine ⟨?_, ?_⟩
             ·first | (simp only [hst, hlr, ZI5, ZIO]; first | omega | assumption | done) | (simp only [hst, hlr, ZI5, ZIO]; done)
             trivial
   ·skip
    intro h899
    have hF : Yf X X.length = B := by rw [show X.length = n by omega]; exact hB
    refine ⟨?_, ?_⟩
    ·first | (with_reducible rfl) | (with_reducible exact hck.symm) | (rw [hF]; done) | (rw [hF]; with_reducible exact h54.symm) | (rw [hF]; with_reducible exact h55.symm) | (rw [hF]; rfl) | (rw [Za.2 h22]; rfl) | trivial
    refine ⟨?_, ?_⟩
    ·first | (with_reducible rfl) | (with_reducible exact hck.symm) | (rw [hF]; done) | (rw [hF]; with_reducible exact h54.symm) | (rw [hF]; with_reducible exact h55.symm) | (rw [hF]; rfl) | (rw [Za.2 h22]; rfl) | trivial
    refine ⟨?_, ?_⟩
    ·first | (with_reducible rfl) | (with_reducible exact hck.symm) | (rw [hF]; done) | (rw [hF]; with_reducible exact h54.symm) | (rw [hF]; with_reducible exact h55.symm) | (rw [hF]; rfl) | (rw [Za.2 h22]; rfl) | trivial
    refine ⟨?_, ?_⟩
    ·first | (with_reducible rfl) | (with_reducible exact hck.symm) | (rw [hF]; done) | (rw [hF]; with_reducible exact h54.symm) | (rw [hF]; with_reducible exact h55.symm) | (rw [hF]; rfl) | (rw [Za.2 h22]; rfl) | trivial
    refine ⟨?_, ?_⟩
    ·first | (with_reducible rfl) | (with_reducible exact hck.symm) | (rw [hF]; done) | (rw [hF]; with_reducible exact h54.symm) | (rw [hF]; with_reducible exact h55.symm) | (rw [hF]; rfl) | (rw [Za.2 h22]; rfl) | trivial
    refine ⟨?_, ?_⟩
    ·first | (with_reducible rfl) | (with_reducible exact hck.symm) | (rw [hF]; done) | (rw [hF]; with_reducible exact h54.symm) | (rw [hF]; with_reducible exact h55.symm) | (rw [hF]; rfl) | (rw [Za.2 h22]; rfl) | trivial
    refine ⟨?_, ?_⟩
    ·first | (with_reducible rfl) | (with_reducible exact hck.symm) | (rw [hF]; done) | (rw [hF]; with_reducible exact h54.symm) | (rw [hF]; with_reducible exact h55.symm) | (rw [hF]; rfl) | (rw [Za.2 h22]; rfl) | trivial
    refine ⟨?_, ?_⟩
    ·first | (with_reducible rfl) | (with_reducible exact hck.symm) | (rw [hF]; done) | (rw [hF]; with_reducible exact h54.symm) | (rw [hF]; with_reducible exact h55.symm) | (rw [hF]; rfl) | (rw [Za.2 h22]; rfl) | trivial
    refine ⟨?_, ?_⟩
    ·first | (with_reducible rfl) | (with_reducible exact hck.symm) | (rw [hF]; done) | (rw [hF]; with_reducible exact h54.symm) | (rw [hF]; with_reducible exact h55.symm) | (rw [hF]; rfl) | (rw [Za.2 h22]; rfl) | trivial
    refine ⟨?_, ?_⟩
    ·first | (with_reducible rfl) | (with_reducible exact hck.symm) | (rw [hF]; done) | (rw [hF]; with_reducible exact h54.symm) | (rw [hF]; with_reducible exact h55.symm) | (rw [hF]; rfl) | (rw [Za.2 h22]; rfl) | trivial
    trivial
/-! ### Plain words -/
def Zex (s : Int × Int) (i r : Int) : Int × Int := if i < s.1 then (i, r) else s
def ZmA (l : List Int) : Int × Int := (l.getD 0 0, l.getD 1 0)
def ZCa (s : Int × Int) (l : List Int) : Nat -> Int × Int
 | 0 => s
 | j + 1 => Zex (ZCa s l j) (l.getD j 0) 3
def YM (F : Int -> Int -> Prop) (n : Int) (s : Int × Int) : Prop := (s = (n, 0) /\ ∀ i r, ¬ F i r) \/ (s.2 ≠ 0 /\ F s.1 s.2 /\ ∀ i r, F i r -> s.1 <= i)
def Zyz (B : Bk) (left : List (Int × Int)) (i r : Int) : Prop := r = 3 /\ ∃ t ∈ B.txs, Zu left t.who = false /\ i ∈ t.bad
def Znn (B : Bk) (left : List (Int × Int)) : List Ent := B.out ++ (B.txs.filter fun t => !Zu left t.who && decide (t.com < 0)).flatMap (·.rds)
def SrtP (x y : List (List Int)) : Prop := y.Perm x /\ y.Pairwise fun a b => g0 a <= g0 b
def stF (B : Bk) : Nat -> Int -> Bool × (List UInt8 × Bool)
 | 0, _ => (false, vw 0)
 | k + 1, q => if Zu (B.txs.getD (B.kept.getD k 0) tx0).ch q = true then (true, vw (Zas 0 (B.txs.getD (B.kept.getD k 0) tx0).ch q)) else stF B k q
def Zmt (m : List (Int × Int)) (f : Int -> Bool × (List UInt8 × Bool)) : Prop := ∀ q, Zu m q = (f q).1 /\ vw (Zas 0 m q) = (f q).2
def Z2 (f : Int -> Bool × (List UInt8 × Bool)) (r : Ent) : Bool := (Zdq r == ((f (kc r)).1 && (f (kc r)).2.2)) && (!Zdq r || Zbl r == (f (kc r)).2.1)
def Zsp (f : Ent -> Bool) (L : List (List Int)) (place : Int) : Nat -> Nat -> Int × Int -> Nat × (Int × Int)
 | 0, p, s => (p, s)
 | n + 1, p, s => if p < L.length /\ g0 (L.getD p []) < place then Zsp f L place n (p + 1) (if f ((L.getD p []).drop 1) = true then s else Zex s (g0 (L.getD p [])) 4) else (p, s)
def ZfW (f : Ent -> Bool) (L : List (List Int)) (place : Int) (p : Nat) (s : Int × Int) : Nat × (Int × Int) := Zsp f L place (L.length - p) p s
def ZjW (f : Ent -> Bool) (s : Int × Int) (l : List (List Int)) : Nat -> Int × Int
 | 0 => s
 | j + 1 => if f ((l.getD j []).drop 1) = true then ZjW f s l j else Zex (ZjW f s l j) (g0 (l.getD j [])) 4
def Y3 (B : Bk) (L : List (List Int)) (s : Int × Int) : Nat -> Nat × (Int × Int)
 | 0 => (0, s)
 | k + 1 =>
  let e := ZfW (Z2 (stF B k)) L (B.txs.getD (B.kept.getD k 0) tx0).com (Y3 B L s k).1 (Y3 B L s k).2
  (e.1, ZjW (Z2 (stF B k)) e.2 (B.txs.getD (B.kept.getD k 0) tx0).rds (B.txs.getD (B.kept.getD k 0) tx0).rds.length)
theorem Zts {m : List (Int × Int)} {f : Int -> Bool × (List UInt8 × Bool)} (h : Zmt m f) (r : Ent) : Z5 m r = Z2 f r := by
 obtain ⟨h1, h2⟩ := h (kc r)
 have a := congrArg Prod.fst h2
 have b := congrArg Prod.snd h2
 have a : Zcw ((Zas 0 m (kc r)).tdiv 2).toNat = (f (kc r)).2.1 := a
 have b : decide ((Zas 0 m (kc r)).tmod 2 = 0) = (f (kc r)).2.2 := b
 unfold Z5 Z2
 rw [h1, a, b]
theorem Zw7 {f : Ent -> Bool} {L : List (List Int)} {place : Int} {p : Nat} (s : Int × Int) (h : p < L.length) (h2 : g0 (L.getD p []) < place) :
  ZfW f L place p s = ZfW f L place (p + 1) (if f ((L.getD p []).drop 1) = true then s else Zex s (g0 (L.getD p [])) 4) := by
 unfold ZfW
 rw [show L.length - p = (L.length - (p + 1)) + 1 by omega]
 show (if _ then _ else _) = _
 rw [if_pos ⟨h, h2⟩]
theorem Zxj {f : Ent -> Bool} {L : List (List Int)} {place : Int} {p : Nat} (s : Int × Int) (h : ¬ (p < L.length /\ g0 (L.getD p []) < place)) : ZfW f L place p s = (p, s) := by
 unfold ZfW
 cases L.length - p with
 | zero => rfl
 | succ n => show (if _ then _ else _) = _; rw [if_neg h]
theorem Zzk {B : Bk} {k : Nat} {m c m' : List (Int × Int)} (h : Zmt m (stF B k)) (hc : c = (B.txs.getD (B.kept.getD k 0) tx0).ch) (hl : Zzo m c m') : Zmt m' (stF B (k + 1)) := by
 intro q
 obtain ⟨a, b⟩ := hl q
 obtain ⟨c1, c2⟩ := h q
 subst hc
 show _ = (if _ then _ else _ : Bool × (List UInt8 × Bool)).1 /\ _ = (if _ then _ else _ : Bool × (List UInt8 × Bool)).2
 rw [a, b]
 by_cases hq : Zu (B.txs.getD (B.kept.getD k 0) tx0).ch q = true
 ·rw [if_pos hq, if_pos hq, hq]; exact ⟨by simp, rfl⟩
 ·rw [if_neg hq, if_neg hq, c1, c2, show Zu (B.txs.getD (B.kept.getD k 0) tx0).ch q = false by simpa using hq]; exact ⟨by simp, rfl⟩
def Zme (x : List Ent) : Bk := Yf x x.length
def ZEQ (a : List (List Int)) (m : List (Int × Int)) (l : List Int) : Nat × (Int × Int) := ZfW (Z5 m) a (l.getD 3 0) (l.getD 0 0).toNat (l.getD 1 0, l.getD 2 0)
theorem ZtC (L : List (List Int)) (m : List (Int × Int)) (k a w pl : Int) : ZEQ L m [k, a, w, pl] = ZfW (Z5 m) L pl k.toNat (a, w) := rfl
theorem Zwk (r : List Int) : [r.getD 1 0, r.getD 2 0, ((ZP (Zcw (r.getD 3 0).toNat) : Nat) : Int), ((ZP (Zcw (r.getD 4 0).toNat) : Nat) : Int), b01 (!r.getD 5 0 == 0), r.getD 6 0] = nr (r.drop 1) := by cases r <;> rfl
structure JsSig (S : Sig GG) : Prop where
 jt : JtSig S
 u580 : ∀ a b c d, S.usr 580 a b c d = .bool (ZN (SrtP a.tR b.tR))
 u582 : ∀ a b c d, S.usr 582 a b c d = .int (Zex (a.tI, b.tI) c.tI d.tI).1
 u583 : ∀ a b c d, S.usr 583 a b c d = .int (Zex (a.tI, b.tI) c.tI d.tI).2
 u584 : ∀ a b c d, S.usr 584 a b c d = .int (ZCa (ZmA a.tN) b.tN c.tI.toNat).1
 u585 : ∀ a b c d, S.usr 585 a b c d = .int (ZCa (ZmA a.tN) b.tN c.tI.toNat).2
 u586 : ∀ a b c d, S.usr 586 a b c d = .bool (ZN (YM (Zyz (Zme a.tR) b.tM) d.tI (ZmA c.tN)))
 u587 : ∀ a b c d, S.usr 587 a b c d = .bool (ZN (c.tR.Perm (Znn (Zme a.tR) b.tM)))
 u590 : ∀ a b c d, S.usr 590 a b c d = .int ((ZEQ a.tR b.tM c.tN).1 : Nat)
 u591 : ∀ a b c d, S.usr 591 a b c d = .int (ZEQ a.tR b.tM c.tN).2.1
 u592 : ∀ a b c d, S.usr 592 a b c d = .int (ZEQ a.tR b.tM c.tN).2.2
 u593 : ∀ a b c d, S.usr 593 a b c d = .int ((Y3 (Zme a.tR) b.tR (ZmA c.tN) d.tI.toNat).1 : Nat)
 u594 : ∀ a b c d, S.usr 594 a b c d = .int (Y3 (Zme a.tR) b.tR (ZmA c.tN) d.tI.toNat).2.1
 u595 : ∀ a b c d, S.usr 595 a b c d = .int (Y3 (Zme a.tR) b.tR (ZmA c.tN) d.tI.toNat).2.2
 u596 : ∀ a b c d, S.usr 596 a b c d = .bool (ZN (Zmt c.tM (stF (Zme a.tR) b.tI.toNat)))
 u597 : ∀ a b c d, S.usr 597 a b c d = .int (ZjW (Z5 d.tM) (ZmA a.tN) b.tR c.tI.toNat).1
 u598 : ∀ a b c d, S.usr 598 a b c d = .int (ZjW (Z5 d.tM) (ZmA a.tN) b.tR c.tI.toNat).2
theorem JsSig.of {S T : Sig GG} (h : JsSig S) (hu : T.usr = S.usr) (hp : T.prd = S.prd) : JsSig T := by
 constructor
 ·exact h.jt.of hu hp
 all_goals (rw [hu]; first | exact h.u580 | exact h.u582 | exact h.u583 | exact h.u584 | exact h.u585 | exact h.u586 | exact h.u587 | exact h.u590 | exact h.u591 | exact h.u592 | exact h.u593 | exact h.u594 | exact h.u595 | exact h.u596 | exact h.u597 | exact h.u598)
/-! ### Contracts -/
def srtX (x y : SX) : SX := usB 580 x y z0
def ZcV : Ctr := ⟨[.int, .rows, .int, .int, .int], [.one (.slice (ai 0) z0 z0 z0 (ai 2) (ai 3) 7), .one (.fn 45)], [rAr (ai 0) (rA 1) (ai 4)],
 [eLe z0 (ai 2), .f2 45 (ai 2) (Zr (rA 1)), eLe (ai 2) (ai 3), eLe (ai 2) (.int 140737488355328)], [.rows], .tup [], [rAr (ai 0) (rA 5) (ai 4)], [.f2 45 (Zr (rA 5)) (Zr (rA 1)), srtX (rA 1) (rA 5)]⟩
def Zuc : Ctr := ⟨[.int, .int, .int, .rows, .int], [.one (slC (ai 0) (ai 1) (ai 2) 7)], [rAr (ai 0) (rA 3) (ai 4)], [.f2 45 (ai 1) (Zr (rA 3)), eLe (ai 1) (ai 2), eLe (ai 1) mil, .f2 50 (eLe z0 (ai 0)) (.f2 45 (ai 1) z0)], [.int, .int], .one (slC (ai 5) (ai 1) (ai 6) 7),
 [rAr (ai 0) (rA 3) (ai 4), rAr (ai 5) (rA 3) (ai 6)], [eLe (ai 1) (ai 6), .f2 50 (eLe z0 (ai 5)) (.f2 45 (ai 1) z0)]⟩
def ZFY : Cx := { specs := [], anns := [(43, [(999999, .ghost ZFL [])])] }
def Zwm : Ctr := ⟨[.int, .int, .int, .int, .int, .int], [.one (.int .i64 (ai 0)), .one (.int .i64 (ai 1)), .one (.ptr (ai 2) 0), .one (.ptr (ai 3) 0)], [.cel (ai 2) 0 [.int .i64 (ai 4)], .cel (ai 3) 0 [.int .i64 (ai 5)]], [], [], .tup [],
 [.cel (ai 2) 0 [.int .i64 (.us .int 582 (ai 4) (ai 5) (ai 0) (ai 1))], .cel (ai 3) 0 [.int .i64 (.us .int 583 (ai 4) (ai 5) (ai 0) (ai 1))]], []⟩
def ZIL : Cx := { specs := [], anns := [] }
def notS : List (Nat × List Ctr) := [(42, [Zwm])]
def clN (a b : SX) : SC := .cap (.cap (.fn 42) (.ptr a 0)) (.ptr b 0)
def endI : Inv := ⟨[.int, .int, .int, .int, .int, .int], [], [.cel (ai 1) 0 [.slice (ai 6) z0 (di 0) (di 1) (di 2) (di 3) 7], .cel (ai 4) 0 [.int .i64 (di 4)], .cel (ai 5) 0 [.int .i64 (di 5)]],
 [eLe z0 (di 0), eLe z0 (di 2), .f2 45 (.f2 40 (di 0) (di 2)) (Zr (rA 11)), eLe (di 2) (di 3)] ++
 [590, 591, 592].map fun k => .f2 45 (usI k (rA 11) (mA 14) (Zk7 (di 0) (di 4) (di 5) (ai 0))) (usI k (rA 11) (mA 14) (Zk7 (ai 7) (ai 15) (ai 16) (ai 0))), di 2⟩
def ZsJ : Ctr := ⟨[.int, .int, .int, .int, .int, .int, .int, .int, .int, .int, .int, .rows, .int, .int, .amap, .int, .int], [.one (.int .i64 (ai 0)), .one (.ptr (ai 1) 0), .one (.ptr (ai 2) 0), .one (.ptr (ai 3) 0)],
 [.cel (ai 1) 0 [.slice (ai 6) z0 (ai 7) (ai 8) (ai 9) (ai 10) 7], rAr (ai 6) (rA 11) (ai 12), .cel (ai 2) 0 [.map (ai 13)], scC (ai 13) (mA 14), .cel (ai 3) 0 [clN (ai 4) (ai 5)], .cel (ai 4) 0 [.int .i64 (ai 15)], .cel (ai 5) 0 [.int .i64 (ai 16)]],
 [eLe z0 (ai 7), eLe z0 (ai 9), .f2 45 (.f2 40 (ai 7) (ai 9)) (Zr (rA 11)), eLe (ai 9) (ai 10), eLe (Zr (rA 11)) mil, eLe z0 (ai 13), .f2 50 (eLe z0 (ai 6)) (.f2 45 (ai 9) z0)], [.int, .int, .int], .tup [],
 [.cel (ai 1) 0 [.slice (ai 6) z0 (usI 590 (rA 11) (mA 14) (Zk7 (ai 7) (ai 15) (ai 16) (ai 0))) (ai 17) (ai 18) (ai 19) 7], rAr (ai 6) (rA 11) (ai 12), .cel (ai 2) 0 [.map (ai 13)], scC (ai 13) (mA 14), .cel (ai 3) 0 [clN (ai 4) (ai 5)],
  .cel (ai 4) 0 [.int .i64 (usI 591 (rA 11) (mA 14) (Zk7 (ai 7) (ai 15) (ai 16) (ai 0)))], .cel (ai 5) 0 [.int .i64 (usI 592 (rA 11) (mA 14) (Zk7 (ai 7) (ai 15) (ai 16) (ai 0)))]],
 [eLe z0 (ai 18), eLe (ai 18) (ai 19), .f2 45 (.f2 40 (usI 590 (rA 11) (mA 14) (Zk7 (ai 7) (ai 15) (ai 16) (ai 0))) (ai 18)) (Zr (rA 11))]⟩
def ZFO : Cx := { specs := notS ++ [(47, [Zl5])], anns := [(46, [(0, .inv endI)])] }
def ZDX : SX := l z (a 0)
def ZwJ : SX := e (a 1) z
def ZGM : VC := i (e (a 1) (.f1 32 (r 3))) (i (l (a 1) (a 2)) (i (l (a 1) (k 1000000)) (i (.f2 50 ZDX ZwJ) (.and (i (t (a 0) z) (n (l (a 1) z) (n (.f2 50 (.bool false) ZwJ) (n (.f2 155 (r 3) (.f1 154 z)) (n ZwJ .tt))))) (i ZDX (u 5 .int (i (l z (a 5)) (n (l (.f2 42 (a 1) (k 72)) k1) (n (l z (a 1)) (n (l (a 1) (.f1 32 (r 3))) (u 6 .int (u 7 .int (i (l (a 1) (a 7)) (i (.f2 50 (l z (a 6)) ZwJ) (n (.f2 155 (r 3) (.f2 115 (r 3) (a 1))) .tt)))))))))))))))
theorem ZGg : Zdt Tryz.prog ZFY 12 43 Zuc = ZGM := by kernel_rfl
def ZBW : SX := .us .int 583 (a 4) (a 5) (a 0) (a 1)
def ZCV : SX := .us .int 582 (a 4) (a 5) (a 0) (a 1)
def ZGK : VC := .and (i (t (a 0) (a 4)) (n (e ZBW (a 1)) (n (e ZCV (a 0)) .tt))) (i (l (a 4) (a 0)) (n (e ZBW (a 5)) (n (e ZCV (a 4)) .tt)))
theorem ZHS : Zdt Tryz.prog ZIL 12 42 Zwm = ZGK := by kernel_rfl
def ZAf : SX := .f2 122 (a 0) (.f1 152 z)
def Zy5 : SX := .f2 122 (a 7) (.f2 122 (a 15) (.f2 122 (a 16) ZAf))
def ZkQ : SX := x 590 (r 11) (m 14) Zy5
def Zoj : SX := x 591 (r 11) (m 14) Zy5
def ZoL : SX := x 592 (r 11) (m 14) Zy5
def ZDU : SX := .f2 122 (a 21) (.f2 122 (a 22) ZAf)
def Zzq : SX := .f2 122 (a 17) ZDU
def ZwG : SX := .f3 112 (r 11) (a 17) z
def ZDE : SX := l z (a 20)
def ZFi : SX := l (k 1) (a 19)
def ZkA : SX := .f2 40 (a 19) (k (-1))
def Zvp : SX := t ZkA (a 19)
def Zqi : SX := .f2 40 (a 17) (k 1)
def ZsN : SX := l z Zqi
def Ztg : SX := l z ZkA
def Zw9 : SX := e (.f2 40 (.f2 40 (a 17) ZkA) (k 1)) (.f1 32 (r 11))
def Zwb : SX := l ZkA (.f2 40 (a 20) (k (-1)))
def ZqO : SX := .f2 122 Zqi (.f2 122 (.us .int 582 (a 21) (a 22) ZwG (k 4)) (.f2 122 (.us .int 583 (a 21) (a 22) ZwG (k 4)) ZAf))
def Zpq : SX := .f2 122 Zqi ZDU
def Ztu : SX := e (.f2 40 ZkQ (a 19)) (.f1 32 (r 11))
def ZxG : SX := e ZoL (a 22)
def ZwH : SX := e Zoj (a 21)
def Zvx : SX := e ZkQ (a 17)
def ZHY : VC := i (l z (a 7)) (i (l z (a 9)) (i (e (.f2 40 (a 7) (a 9)) (.f1 32 (r 11))) (i (l (a 9) (a 10)) (i (l (.f1 32 (r 11)) (k 1000000)) (i (l z (a 13)) (i (.f2 50 (l z (a 6)) (e (a 9) z)) (n (e ZkQ ZkQ) (n (e Zoj Zoj) (n (e ZoL ZoL) (u 17 .int (u 18 .int (u 19 .int (u 20 .int (u 21 .int (u 22 .int (i (l z (a 17)) (i (l z (a 19)) (i (e (.f2 40 (a 17) (a 19)) (.f1 32 (r 11))) (i (l (a 19) (a 20)) (i (e (x 590 (r 11) (m 14) Zzq) ZkQ) (i (e (x 591 (r 11) (m 14) Zzq) Zoj) (i (e (x 592 (r 11) (m 14) Zzq) ZoL) (.and (i (t z (a 19)) (n (t (a 17) (.f1 32 (r 11))) (n (t z (a 20)) (.and (i (t ZwG (a 0)) (u 23 .bool (i (.f2 48 (q 23) (c 530 (m 14) (.f2 122 (.f3 112 (r 11) (a 17) (k 1)) (.f2 122 (.f3 112 (r 11) (a 17) (k 2)) (.f2 122 (.f1 35 (.f1 36 (.f3 112 (r 11) (a 17) (k 3)))) (.f2 122 (.f1 35 (.f1 36 (.f3 112 (r 11) (a 17) (k 4)))) (.f2 122 (.f1 3 (.f1 2 (e (.f3 112 (r 11) (a 17) (k 5)) z))) (.f2 122 (.f3 112 (r 11) (a 17) (k 6)) (.f1 152 z))))))))) (.and (i (.f1 2 (q 23)) (n ZDE (n ZFi (n Zvp (n ZsN (n Ztg (n Zw9 (n Zwb (n (e (x 590 (r 11) (m 14) ZqO) ZkQ) (n (e (x 591 (r 11) (m 14) ZqO) Zoj) (n (e (x 592 (r 11) (m 14) ZqO) ZoL) .tt))))))))))) (i (.f1 2 (.f1 2 (q 23))) (n ZDE (n ZFi (n Zvp (n ZsN (n Ztg (n Zw9 (n Zwb (n (e (x 590 (r 11) (m 14) Zpq) ZkQ) (n (e (x 591 (r 11) (m 14) Zpq) Zoj) (n (e (x 592 (r 11) (m 14) Zpq) ZoL) .tt))))))))))))))) (i (l (a 0) ZwG) (n Ztu (n ZxG (n ZwH (n Zvx .tt))))))))) (i (l (a 19) z) (n Ztu (n ZxG (n ZwH (n Zvx .tt))))))))))))))))))))))))))))
theorem ZHO : Zdt Tryz.prog ZFO 12 46 ZsJ = ZHY := by kernel_rfl
theorem ZFV (S : Sig GG) (hS : JsSig S) : ZG S Tryz.prog 43 Zuc := by
 refine Zh S (C := ZFY) (fuel := 12) (YC trivial ⟨⟨⟨by decide, ZBj S⟩, trivial⟩, trivial⟩ trivial) fun ρ => ?_
 rw [ZGg]
 simp only [ZGM, ZDX, ZwJ, ZaN, ZI7, VC.den, SX.den, Env.upd, YA, ZV, beq_iff_eq, ZIZ, beq_eq_false_iff_ne, ne_eq, ZIY, ZIX, Int.reduceToNat, Nat.reduceEqDiff, reduceIte, sB, sC]
 generalize (ρ 3).tR = R
 intro h1 h2 h3 h4
 refine ⟨fun h => ⟨by omega, .inr (by omega), ?_, by omega, trivial⟩, fun h i5 h5 => ⟨by omega, by omega, by omega, fun i6 i7 h6 h7 => ⟨?_, trivial⟩⟩⟩
 ·exact ZJf (by omega)
 ·rw [h1]; simp
theorem ZBB (S : Sig GG) (hS : JsSig S) : ZG S Tryz.prog 42 Zwm := by
 refine Zh S (C := ZIL) (fuel := 12) (YC trivial trivial trivial) fun ρ => ?_
 rw [ZHS]
 simp only [ZGK, ZBW, ZCV, hS.u582, hS.u583, ZaN, ZI7, VC.den, SX.den, Env.upd, YA, ZV, beq_iff_eq, ZIZ, beq_eq_false_iff_ne, ne_eq, ZIY, ZIX, Int.reduceToNat, Nat.reduceEqDiff, reduceIte, sB, sC]
 refine ⟨fun h => ?_, fun h => ?_⟩
 ·rw [show Zex ((ρ 4).tI, (ρ 5).tI) (ρ 0).tI (ρ 1).tI = ((ρ 0).tI, (ρ 1).tI) from if_pos h]; exact ⟨rfl, rfl, trivial⟩
 ·rw [show Zex ((ρ 4).tI, (ρ 5).tI) (ρ 0).tI (ρ 1).tI = ((ρ 4).tI, (ρ 5).tI) from if_neg (by show ¬ (ρ 0).tI < (ρ 4).tI; omega)]; exact ⟨rfl, rfl, trivial⟩
theorem ZGL (S : Sig GG) (hS : JsSig S) : ZG S Tryz.prog 46 ZsJ := by
 refine Zh S (C := ZFO) (fuel := 12) (YC ⟨Zk (by decide) (ZBB S hS), Zk (by decide) (ZtG S hS.jt.jb), trivial⟩ ⟨⟨trivial, trivial⟩, trivial⟩ trivial) fun ρ => ?_
 rw [ZHO]
 simp only [ZHY, ZAf, Zy5, ZkQ, Zoj, ZoL, ZDU, Zzq, ZwG, ZDE, ZFi, ZkA, Zvp, Zqi, ZsN, Ztg, Zw9, Zwb, ZqO, Zpq, Ztu, ZxG, ZwH, Zvx, hS.jt.jb.u530, hS.u582, hS.u583, hS.u590, hS.u591, hS.u592, ZaN, ZI7, VC.den, SX.den, Env.upd, YA, ZV, beq_iff_eq, ZIZ, beq_eq_false_iff_ne, ne_eq, ZIY, ZIX, Int.reduceToNat, Nat.reduceEqDiff, reduceIte, sB, sC]
 simp only [ZtC, Zwk, ZmU]
 generalize (ρ 11).tR = L
 generalize (ρ 14).tM = m
 generalize (ρ 0).tI = pl
 generalize hs : ZfW (Z5 m) L pl (ρ 7).tI.toNat ((ρ 15).tI, (ρ 16).tI) = E0
 intro q1 q2 q3 q4 q5 q6 q7
 refine ⟨trivial, trivial, trivial, fun k z l c a w j1 j2 j3 j4 j5 j6 j7 => ?_⟩
 have stop : ¬ (k.toNat < L.length /\ g0 (L.getD k.toNat []) < pl) -> (E0.1 : Int) = k /\ E0.2.1 = a /\ E0.2.2 = w := fun h => by
  rw [Zxj _ h] at j5 j6 j7
  refine ⟨?_, j6.symm, j7.symm⟩
  rw [<- j5]; show ((k.toNat : Nat) : Int) = k; omega
 refine ⟨fun hl => ⟨by omega, by omega, fun hp b hb => ?_, fun hp => ?_⟩, fun hl => ?_⟩
 ·have st := Zw7 (f := Z5 m) (a, w) (show k.toNat < L.length by omega) hp
  have e1 : (k + 1).toNat = k.toNat + 1 := by omega
  rw [st] at j5 j6 j7
  rw [e1]
  rw [hb]
  refine ⟨fun hn => ?_, fun hn => ?_⟩
  ·have hn : ¬ Z5 m ((L.getD k.toNat []).drop 1) = true := by simpa using hn
   rw [if_neg hn] at j5 j6 j7
   exact ⟨by omega, by omega, by omega, by omega, by omega, by omega, by omega, j5, j6, j7, trivial⟩
  ·have hn : Z5 m ((L.getD k.toNat []).drop 1) = true := by simpa using hn
   rw [if_pos hn] at j5 j6 j7
   exact ⟨by omega, by omega, by omega, by omega, by omega, by omega, by omega, j5, j6, j7, trivial⟩
 ·obtain ⟨a1, a2, a3⟩ := stop fun h => absurd h.2 (by show ¬ (L.getD k.toNat []).getD 0 0 < pl; omega)
  exact ⟨by omega, a3, a2, a1, trivial⟩
 ·obtain ⟨a1, a2, a3⟩ := stop fun h => absurd h.1 (by omega)
  exact ⟨by omega, a3, a2, a1, trivial⟩
end
end Go.Proofs.YtidlngnhjffepaaGreat
namespace Go.Proofs.YtidlngnhjffepaaGreat
noncomputable section
open Go.Eng
open Go.Sort (grow flatK putRow putRowK HoldsK setMany ahead PermIn SortedIn)
open Go.Proofs (ltOf sortWorldK)
def rF : List Go.Eng.Fd := .int .i64 :: hF
def ZaP (x : List Int) : List Value := rowVals rF x
theorem Zcl (x : List Int) : (ZaP x).length = 7 := ZR rF x
theorem Zb7 (l : List (List Int)) : (l.flatMap ZaP).length = l.length * 7 := by
 induction l with
 | nil => rfl
 | cons a l ih => rw [List.flatMap_cons, ZI5, ih, Zcl, ZJk]; omega
theorem ZqQ : ∀ (l : List (List Int)) (t : Nat), t < l.length * 7 -> (l.flatMap ZaP)[t]? = some ((ZaP (l.getD (t / 7) default))[t % 7]!)
 | [], t, h => by simp at h
 | x :: l, t, h => by
  rw [List.flatMap_cons]
  by_cases h7 : t < 7
  ·rw [ZJi (by rw [Zcl]; exact h7), Nat.div_eq_of_lt h7, Nat.mod_eq_of_lt h7]
   have hl : t < (ZaP x).length := by rw [Zcl]; exact h7
   rw [ZI3 hl]
   show some (ZaP x)[t] = some (ZaP x)[t]!
   rw [getElem!_pos _ t hl]
  ·rw [ZJj (by rw [Zcl]; omega), Zcl, ZqQ l (t - 7) (by rw [ZJk] at h; omega)]
   have e1 : t / 7 = (t - 7) / 7 + 1 := by omega
   have e2 : t % 7 = (t - 7) % 7 := by omega
   rw [e1, e2]; rfl
theorem Ze6 (l : List (List Int)) : (flatK ZaP 7 l.toArray).toList = l.flatMap ZaP := by
 apply List.ext_getElem?
 intro t
 by_cases h : t < l.length * 7
 ·rw [ZqQ l t h]
  have := Go.Sort.get_flatK ZaP 7 l.toArray t (by simpa using h)
  have hs : t < (flatK ZaP 7 l.toArray).size := by simpa using h
  rw [getElem!_pos _ t hs] at this
  rw [ZIP, Array.getElem?_eq_getElem hs, this]
  congr 2
  simp [Array.getElem!_eq_getD, Array.getD_eq_getD_getElem?, ZI0]
 ·rw [List.getElem?_eq_none (by simpa using h)]
  have hl : (l.flatMap ZaP).length = l.length * 7 := Zb7 l
  rw [List.getElem?_eq_none (by omega)]
theorem Sat.push' {w0 w : World} {H : HProp} (h : Sat w0 H w) (x : Obj) : Sat w0 H { w with heap := w.heap.push x } := by
 obtain ⟨y, hy, hi⟩ := h
 exact ⟨y, hy, hi.push x⟩
theorem Sat.grow {w0 : World} {H : HProp} : ∀ (os : List Obj) {w : World}, Sat w0 H w -> Sat w0 H (grow w os.toArray)
 | [], w, h => by rw [show (([] : List Obj).toArray) = #[] from rfl, Go.Sort.grow_empty]; exact h
 | x :: os, w, h => by
  have := Sat.grow os (Sat.push' h x)
  have e : Go.Sort.grow { w with heap := w.heap.push x } os.toArray = Go.Sort.grow w (x :: os).toArray := by
   unfold Go.Sort.grow; simp
  rw [e] at this; exact this
theorem Sat.cells {w0 : World} {b o : Nat} {z : Bool} {H : HProp} : ∀ (new : List Value) (i : Nat) (cs : List Value) (w : World), Sat w0 (Ze (row b o cs z) H) w -> i + new.length <= cs.length →
  Sat w0 (Ze (row b o (cs.take i ++ new ++ cs.drop (i + new.length)) z) H) (w.setCells b (o + i) new)
 | [], i, cs, w, h, _ => by simpa [World.setCells] using h
 | v :: new, i, cs, w, h, hl => by
  simp only [ZJk] at hl
  have hs := h.store (i := i) (by omega) v
  have := Sat.cells new (i + 1) (cs.set i v) _ hs (by simp; omega)
  have e : (cs.set i v).take (i + 1) ++ new ++ (cs.set i v).drop (i + 1 + new.length) = cs.take i ++ (v :: new) ++ cs.drop (i + (v :: new).length) := by
   have e1 : (cs.set i v).take (i + 1) = cs.take i ++ [v] := by
    rw [List.take_add_one, List.take_set_of_le (ZIQ i), List.getElem?_set_self (by omega)]
    rfl
   rw [e1, List.drop_set_of_lt (by omega), ZJk]
   simp [Nat.add_assoc, Nat.add_comm 1]
  rw [e] at this
  exact this
theorem Sat.put {w0 w : World} {b : Nat} {z : Bool} {H : HProp} {old new : List (List Int)} {spare : List Value} (h : Sat w0 (Ze (row b 0 (old.flatMap ZaP ++ spare) z) H) w) (hl : new.length = old.length) :
  Sat w0 (Ze (row b 0 (new.flatMap ZaP ++ spare) z) H) (putRowK ZaP 7 w b 0 new.toArray) := by
 have len : ∀ l : List (List Int), (l.flatMap ZaP).length = l.length * 7 := Zb7
 have hh : HoldsK ZaP 7 w b 0 old.toArray := by
  intro j hj
  rw [Go.Sort.size_flatK] at hj
  have hj' : j < (old.flatMap ZaP ++ spare).length := by rw [ZI5, len]; simp at hj; omega
  have := h.load hj'
  rw [List.getElem_append_left (by rw [len]; simpa using hj)] at this
  have e : (flatK ZaP 7 old.toArray)[j]! = (old.flatMap ZaP)[j]'(by rw [len]; simpa using hj) := by
   have hs : j < (flatK ZaP 7 old.toArray).size := by simpa using hj
   rw [getElem!_pos _ j hs, <- Array.getElem_toList]
   congr 1
   exact Ze6 old
  rw [e]
  exact this
 have e1 : putRowK ZaP 7 w b 0 old.toArray = w := Go.Sort.putRowK_self ZaP 7 w b 0 _ hh
 have e2 := Go.Sort.setCells_putRow w b 0 (new.flatMap ZaP) 0 (flatK ZaP 7 old.toArray) (by simp [len, hl])
 have e3 : setMany (flatK ZaP 7 old.toArray) 0 (new.flatMap ZaP) = flatK ZaP 7 new.toArray := by
  refine Go.Sort.ext_get! (by simp [hl]) fun t ht => ?_
  have ht' : t < old.length * 7 := by simpa using ht
  rw [Go.Sort.get_setMany _ _ _ _ (by simpa using ht'), if_pos (by rw [len]; omega), Nat.sub_zero]
  have hs : t < (flatK ZaP 7 new.toArray).size := by simp [hl]; exact ht'
  have ht2 : t < (new.flatMap ZaP).length := by rw [len]; omega
  rw [getElem!_pos _ t ht2, getElem!_pos _ t hs, <- Array.getElem_toList]
  congr 1
  exact (Ze6 new).symm
 rw [show putRow id w b 0 (flatK ZaP 7 old.toArray) = w from e1, e3] at e2
 have := Sat.cells (new.flatMap ZaP) 0 _ w h (by rw [ZI5, len, len]; omega)
 rw [e2, List.take_zero, List.nil_append, Nat.zero_add, show (new.flatMap ZaP).length = (old.flatMap ZaP).length by rw [len, len, hl], List.drop_left] at this
 exact this
theorem ltPage' (x y : List Int) : ltOf (fun x y : List Int => Go.Lib.compareInt (g0 x) (g0 y)) x y = decide (g0 x < g0 y) := by
 unfold ltOf Go.Lib.compareInt
 by_cases h1 : g0 x < g0 y
 ·simp [h1]
 ·by_cases h2 : g0 y < g0 x <;> simp [h1, h2]
theorem ZrF {R : List (List Int)} {d' : Array (List Int)} (hp : Go.Sort.PermIn 0 R.length R.toArray d')
  (hs : Go.Sort.SortedIn (ltOf fun x y : List Int => Go.Lib.compareInt (g0 x) (g0 y)) 0 R.length d') : d'.toList.length = R.length /\ SrtP R d'.toList := by
 obtain ⟨h1, h2, h3⟩ := hp
 have hsz : d'.size = R.length := by simpa using h1
 have h3 : d'.toList.Perm R := by
  have e1 : (d'.extract 0 R.length) = d' := by rw [<- hsz]; simp
  have e2 : (R.toArray.extract 0 R.length) = R.toArray := by simp
  rw [e1, e2] at h3
  simpa using h3
 refine ⟨by simpa using hsz, h3, ?_⟩
 rw [List.pairwise_iff_getElem]
 intro i j hi hj hij
 have := hs i j (Nat.zero_le _) hij (by rw [Array.length_toList] at hj; omega)
 rw [ltPage', decide_eq_false_iff_not, getElem!_pos _ _ (by simpa using hj), getElem!_pos _ _ (by simpa using hi)] at this
 simp only [Array.getElem_toList]
 omega
def ZAt (P : Program) (f g : FuncId) : Prop := ∀ (blk cap : Nat) (d : Array (List Int)) (w : World), HoldsK ZaP 7 w blk 0 d -> blk < w.heap.size -> d.size < 4611686018427387904 →
  Calls P f #[.slice (some ⟨blk, 0, none⟩) d.size cap, .func (.func g) #[] #[]] w fun e w' => e = .returned (.tuple #[]) ∧
   ∃ d' n os, PermIn 0 d.size d d' /\ SortedIn (ltOf fun x y : List Int => Go.Lib.compareInt (g0 x) (g0 y)) 0 d.size d' /\ w' = sortWorldK ZaP 7 w blk 0 n d' os
def ZAj (P : Program) (f : FuncId) : Prop := ∀ (p : Option Addr) (cap : Nat) (fv : Value) (w : World), Calls P f #[.slice p 0 cap, fv] w fun e w' => e = .returned (.tuple #[]) /\ w' = w
theorem ZgY (R : List (List Int)) : R.flatMap (rowVals rF) = R.flatMap ZaP := rfl
theorem ZHy (S : Sig GG) (hS : JsSig S) {P : Program} {f : FuncId} (hsome : ZAt P f 45) (hnone : ZAj P f) : ZG S P f ZcV := by
 intro ch w0 F ρ w xs hx hq hsat
 obtain ⟨v1, v2, rfl, hv1, hv2⟩ : ∃ v1 v2, xs = [v1, v2] /\ SV.R S ρ (.one (.slice (ai 0) z0 z0 z0 (ai 2) (ai 3) 7)) v1 /\ SV.R S ρ (.one (.fn 45)) v2 := by
  match xs, hx with
  | [v1, v2], hx => exact ⟨v1, v2, rfl, hx.1, hx.2.1⟩
 have hv1 := R_one S ρ hv1
 have hv2 := R_one S ρ hv2
 have q1 := hq (eLe z0 (ai 2)) (by simp [ZcV])
 have q2 := hq (.f2 45 (ai 2) (Zr (rA 1))) (by simp [ZcV])
 have q3 := hq (eLe (ai 2) (.int 140737488355328)) (by simp [ZcV])
 rw [Zj] at q1 q3
 have q2 : ((ai 2).den S ρ).tI = ((Zr (rA 1)).den S ρ).tI := by
  have : (ap2 45 ((ai 2).den S ρ) ((Zr (rA 1)).den S ρ)).tP := q2
  rw [p45] at this; exact this
 simp only [ZcV, Zn, star_assoc, Ch.den, rAr] at hsat
 rw [SX.den_wc, SX.den_wc, SX.den_wc] at hsat
 simp only [SX.den, ai, rA, Zr, Zdx, U.co, U.tIi, z0] at q1 q2 q3 hsat
 subst hv1 hv2
 simp only [SC.den, SX.den, ai, U.co, U.tIi, z0, if_true, ZIX, Nat.zero_mul, Nat.zero_add, ite_self]
 generalize hb : (ρ 0).tI = b at *
 generalize hn : (ρ 2).tI = n at *
 generalize hR : (ρ 1).tR = R at *
 generalize hc : (ρ 4).tI = c at *
 obtain ⟨spare, hsat⟩ := ZaL hsat
 obtain ⟨g1, hsat⟩ := Zq hsat
 obtain ⟨g2, hsat⟩ := Zq hsat
 obtain ⟨g3, hsat⟩ := Zq hsat
 have hlen := Zb7 R
 simp only [rE, En.vals, En.stride, ZJk, List.length_nil, U.tIi, U.tRi] at g1 g2 g3 q2 hsat
 simp only [show (Go.Eng.Fd.int IntKind.i64 :: hF) = rF from rfl, ZgY] at g1 g3 hsat
 by_cases hR0 : R = []
 ·subst hR0
  have hn0 : n = 0 := by simpa using q2
  subst hn0
  refine (hnone _ _ _ w).mono ?_
  rintro e w' ⟨rfl, rfl⟩
  refine ⟨ρ.upd 5 (.rows []), .tuple #[], Ext.upd _ _, rfl, .inr rfl, ?_, ?_⟩
  ·simp only [ZcV, Zn, star_assoc, Ch.den, rAr]
   rw [SX.den_wc, SX.den_wc, SX.den_wc]
   simp only [SX.den, ai, rA, U.co, U.tIi, Env.upd, if_true, Nat.reduceEqDiff, reduceIte, hb, hc, U.tRi]
   exact ZkM spare (Y5 (by simpa [rE, En.vals, En.stride] using g1) (Y5 g2 (Y5 g3 (by simp only [rE, En.vals, List.flatMap_nil, U.tRi]; exact hsat))))
  ·intro x hx
   simp only [ZcV, List.mem_cons, List.not_mem_nil, or_false] at hx
   rcases hx with rfl | rfl
   ·show (ap2 45 ((Zr (rA 5)).den S _) ((Zr (rA 1)).den S _)).tP
    rw [p45]; simp [SX.den, Zr, rA, Zdx, Env.upd, hR, U.co]
   ·simp only [srtX, usB, SX.den, hS.u580, rA, Env.upd, if_true, Nat.reduceEqDiff, reduceIte, U.co, hR, U.tRi, U.tPi, U.tQi, Zo]
    exact ⟨List.Perm.refl _, List.Pairwise.nil⟩
 ·have hRl : 0 < R.length := List.length_pos_iff.2 hR0
  have hb0 : 0 <= b := by
   rcases g3 with h | h
   ·exact h
   ·exfalso; rw [h, hlen] at g1; simp at g1; omega
  have hn' : n.toNat = R.length := by omega
  have hlt := hsat.row_lt (by intro e; have := congrArg List.length e; rw [ZI5, hlen] at this; simp at this; omega)
  have hold : HoldsK ZaP 7 w b.toNat 0 R.toArray := by
   intro j hj
   have hj0 := hj
   rw [Go.Sort.size_flatK] at hj
   have hj' : j < (R.flatMap ZaP ++ spare).length := by rw [ZI5, hlen]; simp at hj; omega
   have := hsat.load hj'
   rw [List.getElem_append_left (by rw [hlen]; simpa using hj)] at this
   rw [getElem!_pos _ j hj0, <- Array.getElem_toList]
   have e : (flatK ZaP 7 R.toArray).toList[j]'(by simpa using hj0) = (R.flatMap ZaP)[j]'(by rw [hlen]; simpa using hj) := by
    congr 1
    exact Ze6 _
   rw [e]
   exact this
  have hcall := hsome b.toNat (SX.den S ρ (ai 3)).tI.toNat R.toArray w hold hlt.2 (by simp; omega)
  rw [if_neg (by omega), hn']
  refine hcall.mono ?_
  rintro e w' ⟨rfl, d', m, os, hp, hs, rfl⟩
  obtain ⟨hyl, hys⟩ := ZrF (by simpa using hp) (by simpa using hs)
  refine ⟨ρ.upd 5 (.rows d'.toList), .tuple #[], Ext.upd _ _, rfl, .inr rfl, ?_, ?_⟩
  ·simp only [ZcV, Zn, star_assoc, Ch.den, rAr]
   rw [SX.den_wc, SX.den_wc, SX.den_wc]
   simp only [SX.den, ai, rA, U.co, U.tIi, Env.upd, if_true, Nat.reduceEqDiff, reduceIte, hb, hc, U.tRi]
   have hput : Sat w0 (Ze (row b.toNat 0 (d'.toList.flatMap ZaP ++ spare) true) (Ze (hpDen (S.wc ch) (ρ.upd 5 (.rows d'.toList)) w0 []) F)) (sortWorldK ZaP 7 w b.toNat 0 m d' os) := by
    have h1 := Sat.put (new := d'.toList) (hsat.drew (w.drawn + m)) (by simpa using hp.1)
    have h2 := Sat.grow os.toList h1
    exact h2
   refine ZkM spare (Y5 ?_ (Y5 g2 (Y5 g3 ?_)))
   ·simp only [rE, En.vals, En.stride, ZJk, List.length_nil, U.tIi, U.tRi, show (Go.Eng.Fd.int IntKind.i64 :: hF) = rF from rfl, ZgY]
    rw [Zb7, hyl, <- hlen]; exact g1
   ·simp only [rE, En.vals, U.tRi, show (Go.Eng.Fd.int IntKind.i64 :: hF) = rF from rfl, ZgY]
    exact hput
  ·intro x hx
   simp only [ZcV, List.mem_cons, List.not_mem_nil, or_false] at hx
   rcases hx with rfl | rfl
   ·show (ap2 45 ((Zr (rA 5)).den S _) ((Zr (rA 1)).den S _)).tP
    rw [p45]; simp only [SX.den, Zr, rA, Zdx, Env.upd, hR, U.co, if_true, Nat.reduceEqDiff, reduceIte, U.tRi, U.tIi, hyl]
   ·simp only [srtX, usB, SX.den, hS.u580, rA, Env.upd, if_true, Nat.reduceEqDiff, reduceIte, U.co, hR, U.tRi, U.tPi, U.tQi, Zo]
    exact hys
end
end Go.Proofs.YtidlngnhjffepaaGreat
namespace Go.Proofs
open Go.Shelf Go.RowKit Go.Lib Go.Sort
open Go.Proofs.YtidlngnhjffepaaGreat (ZaP rF hF g0 Zcl)
set_option maxHeartbeats 1000000 in
theorem Tryz.closureSort0 (x y : Int) (a1 a2 a3 a4 a5 a6 b1 b2 b3 b4 b5 b6 : Value) (W : World) : Calls Tryz.prog 45 #[.agg #[.int .i64 x, a1, a2, a3, a4, a5, a6], .agg #[.int .i64 y, b1, b2, b3, b4, b5, b6]] W fun e w' => e = .returned (.int .i64 (Lib.compareInt x y)) /\ ∃ q os', w' = grow (W.drewN q) os' := by
 have hcon := fun W' => AnyG.cmp_Compare_int Tryz.cmpInt x y W'
 change ∀ W', Calls Tryz.prog 38 _ _ _ at hcon
 generalize Lib.compareInt x y = r at hcon ⊢
 go_enter Tryz.func45, Tryz.ntmps45
 go_wp2_with (go_at_call 38; refine (hcon _).mono ?_; rintro e w' ⟨rfl, rfl⟩)
 go_ret
 exact ⟨rfl, 0, _, by rw [alloc_eq_grow, alloc_eq_grow, grow_grow]; rfl⟩
theorem Tryz.closureSort (x y : List Int) (W : World) : Calls Tryz.prog 45 #[.agg (ZaP x).toArray, .agg (ZaP y).toArray] W fun e w' => e = .returned (.int .i64 (Lib.compareInt (g0 x) (g0 y))) /\ ∃ q os', w' = grow (W.drewN q) os' :=
 Tryz.closureSort0 (g0 x) (g0 y) _ _ _ _ _ _ _ _ _ _ _ _ W
theorem Tryz.ltPage (x y : List Int) : ltOf (fun x y : List Int => Lib.compareInt (g0 x) (g0 y)) x y = decide (g0 x < g0 y) := by
 unfold ltOf Lib.compareInt
 by_cases h1 : g0 x < g0 y
 ·simp [h1]
 ·by_cases h2 : g0 y < g0 x <;> simp [h1, h2]
theorem Tryz.swoPage : SWO (ltOf fun x y : List Int => Lib.compareInt (g0 x) (g0 y)) where
 irrefl x := by rw [Tryz.ltPage]; simp
 trans x y z h1 h2 := by rw [Tryz.ltPage] at *; simp at *; omega
 ntrans x y z h1 h2 := by rw [Tryz.ltPage] at *; simp at *; omega
theorem Tryz.sortEntries (blk cap : Nat) (d : Array (List Int)) (w : World) (hH : HoldsK ZaP 7 w blk 0 d) (hblk : blk < w.heap.size) (hsz : d.size < 4611686018427387904) :
  Calls Tryz.prog 44 #[.slice (some ⟨blk, 0, none⟩) d.size cap, .func (.func 45) #[] #[]] w fun e w' => e = .returned (.tuple #[]) ∧
   ∃ d' n os, PermIn 0 d.size d d' /\ SortedIn (ltOf fun x y : List Int => Lib.compareInt (g0 x) (g0 y)) 0 d.size d' /\ w' = sortWorldK ZaP 7 w blk 0 n d' os := by
 have eg : ∀ args w, (callFunc 45 args).run Tryz.prog w = .ok (.enter 45 args) w := enters_of Tryz.func45 (by kernel_rfl) rfl
 exact AnyQ.slices_SortFunc Tryz.sortEn 7 Tryz.isAgg95 Tryz.sizeOf95 ZaP (fun x => Zcl x) (fun x v hv => by simp [ZaP, rF, hF, Go.Eng.rowVals, Go.Eng.Fd.val, Go.Eng.Fd.width] at hv; rcases hv with rfl | rfl | rfl | rfl | rfl | rfl | rfl <;> rfl) (fun x y => Lib.compareInt (g0 x) (g0 y)) Tryz.swoPage 45 #[] blk 0 cap d w eg
  (fun _ _ _ _ x y => Tryz.closureSort x y _) hH hblk hsz
theorem Tryz.sortNone (p : Option Addr) (cap : Nat) (fv : Value) (w : World) :
  Calls Tryz.prog 44 #[.slice p 0 cap, fv] w fun e w' => e = .returned (.tuple #[]) /\ w' = w := AnyF.slices_SortFunc_none Tryz.sortEn p cap fv w
end Go.Proofs
namespace Go.Proofs.YtidlngnhjffepaaGreat
noncomputable section
open Go.Eng
theorem ZF1 (S : Sig GG) (hS : JsSig S) : ZG S Tryz.prog 44 ZcV :=
 ZHy S hS (fun blk cap d w h1 h2 h3 => Tryz.sortEntries blk cap d w h1 h2 h3) (fun p cap fv w => Tryz.sortNone p cap fv w)
end
end Go.Proofs.YtidlngnhjffepaaGreat
