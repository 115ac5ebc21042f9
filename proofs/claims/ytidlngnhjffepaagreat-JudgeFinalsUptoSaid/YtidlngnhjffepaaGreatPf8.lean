/- JudgeFinals answers true, and what was handed in stays as it is, where it is of bulk at most 1048576. No other condition. -/
import Derived.Test.YtidlngnhjffepaaGreatPf7
import Derived.Test.YtidlngnhjffepaaGreatPf6
import Derived.Test.YtidlngnhjffepaaGreatPf4
import Derived.Deep.Slices
import Derived.Test.YtidlngnhjffepaaGreatRows
import Derived.WalkKit
import Derived.ProofKit
import Derived.OpenShut
import Derived.JoinedCond
import Derived.Carry
set_option linter.unusedSimpArgs false
set_option linter.unusedVariables false
set_option maxRecDepth 20000
namespace Go.Proofs.YtidlngnhjffepaaGreat
noncomputable section
open Go.Eng
/-! ### Lists -/
theorem Zqe {β : Type} (F : Int -> Option β) : ∀ l : List Int, (List.range l.length).findSome? (fun j => F (l.getD j 0)) = l.findSome? F
 | [] => rfl
 | a :: l => by
  have ih := Zqe F l
  rw [ZQb, List.range_succ_eq_map, List.findSome?_cons, List.findSome?_map, List.findSome?_cons]
  show (match F a with | some b => some b | none => (List.range l.length).findSome? (fun j => F (l.getD j 0))) = _
  rw [ih]; cases F a <;> rfl
theorem Zlb {β : Type} (F : List Int -> Option β) : ∀ l : List (List Int), (List.range l.length).findSome? (fun j => F (l.getD j [])) = l.findSome? F
 | [] => rfl
 | a :: l => by
  have ih := Zlb F l
  rw [ZQb, List.range_succ_eq_map, List.findSome?_cons, List.findSome?_map, List.findSome?_cons]
  show (match F a with | some b => some b | none => (List.range l.length).findSome? (fun j => F (l.getD j []))) = _
  rw [ih]; cases F a <;> rfl
theorem Zmt {α β : Type} {F : α -> Option β} {p : α -> Bool} : ∀ {l : List α}, (∀ a ∈ l, p a = false -> F a = none) -> (l.filter p).findSome? F = l.findSome? F
 | [], _ => rfl
 | a :: l, h => by
  have ih := Zmt (l := l) fun b hb => h b (ZPX _ hb)
  cases hp : p a
  ·rw [List.filter_cons_of_neg (by rw [hp]; exact Bool.false_ne_true), ih, List.findSome?_cons, h a ZPZ hp]
  ·rw [List.filter_cons_of_pos hp, List.findSome?_cons, List.findSome?_cons, ih]
theorem Zsa {α β γ : Type} (h : β -> γ) (F : α -> Option β) : ∀ l : List α, (l.findSome? F).map h = l.findSome? fun a => (F a).map h
 | [] => rfl
 | a :: l => by
  rw [List.findSome?_cons, List.findSome?_cons]
  cases F a with
  | none => exact Zsa h F l
  | some b => rfl
theorem Zh4 {α β : Type} {F G : α -> Option β} : ∀ {l : List α}, (∀ a ∈ l, F a = G a) -> l.findSome? F = l.findSome? G
 | [], _ => rfl
 | a :: l, h => by
  rw [List.findSome?_cons, List.findSome?_cons, h a ZPZ, Zh4 (l := l) fun b hb => h b (ZPX _ hb)]
theorem Zq3 : ∀ {l : List Int} {i : Nat}, l.Nodup -> i < l.length -> l.eraseIdx i = l.filter fun a => !(a == l.getD i 0)
 | [], i, _, h => absurd h (Nat.not_lt_zero i)
 | a :: l, 0, hn, _ => by
  rw [List.nodup_cons] at hn
  show l = (a :: l).filter fun b => !(b == a)
  rw [List.filter_cons_of_neg (by simp)]
  exact (List.filter_eq_self.2 fun b hb => by
   have : b ≠ a := fun e => hn.1 (by rw [<- e]; exact hb)
   simpa using this).symm
 | a :: l, i + 1, hn, h => by
  rw [List.nodup_cons] at hn
  have hi : i < l.length := by simpa using h
  show a :: l.eraseIdx i = (a :: l).filter fun b => !(b == l.getD i 0)
  have ha : a ≠ l.getD i 0 := fun e => hn.1 (by rw [e, ZPR, ZPU hi]; exact ZQe _)
  rw [List.filter_cons_of_pos (by simpa using ha), Zq3 hn.2 hi]
theorem Zk5 {α β : Type} (f : α -> β) : ∀ (l : List α) (i : Nat), (l.eraseIdx i).map f = (l.map f).eraseIdx i
 | [], i => rfl
 | a :: l, 0 => rfl
 | a :: l, i + 1 => by show f a :: (l.eraseIdx i).map f = f a :: (l.map f).eraseIdx i; rw [Zk5 f l i]
/-! ### The numbers, rising -/
theorem Zf8 (k : Int) : ∀ l : List Int, (ZCS l k).Perm (k :: l)
 | [] => List.Perm.refl _
 | a :: l => by
  unfold ZCS
  split
  ·exact ((Zf8 k l).cons a).trans (List.Perm.swap k a l)
  ·exact List.Perm.refl _
theorem Zp9 (k : Int) : ∀ {l : List Int}, (l.Pairwise fun a b => a <= b) -> (ZCS l k).Pairwise fun a b => a <= b
 | [], _ => List.pairwise_singleton _ _
 | a :: l, h => by
  rw [List.pairwise_cons] at h
  unfold ZCS
  split
  ·rename_i q
   refine List.pairwise_cons.2 ⟨fun b hb => ?_, Zp9 k h.2⟩
   rcases List.mem_cons.1 ((Zf8 k l).mem_iff.1 hb) with rfl | hb
   ·omega
   ·exact h.1 b hb
  ·rename_i q
   refine List.pairwise_cons.2 ⟨fun b hb => ?_, List.pairwise_cons.2 h⟩
   rcases List.mem_cons.1 hb with rfl | hb
   ·omega
   ·have := h.1 b hb; omega
theorem ZrS (l : List Int) : ∀ n, (Ztr l n).Pairwise fun a b => a <= b
 | 0 => List.Pairwise.nil
 | n + 1 => Zp9 _ (ZrS l n)
theorem ZmS (l : List Int) : ∀ n ≤ l.length, (Ztr l n).Perm (l.take n)
 | 0, _ => List.Perm.refl _
 | n + 1, h => by
  refine (Zf8 _ _).trans (((ZmS l n (by omega)).cons _).trans ?_)
  rw [List.take_add_one, ZPR, ZPU (by omega)]
  exact List.perm_append_comm (l₁ := [l[n]])
/-! ### Transactions -/
theorem ZFy {x : List Ent} {w : Int} : ∀ {n : Nat}, NF x n -> 0 <= Yl x 1 w n -> (txN x w n).beg = Yl x 1 w n
 | 0, _, h => absurd h (by show ¬ (0 : Int) <= -1; omega)
 | n + 1, hn, h => by
  obtain ⟨hp, ho, _, _⟩ := hn.pred
  rw [Zbi]
  by_cases h1 : xk (xa x n) = 1 /\ xw (xa x n) = w
  ·rw [ZgI, if_pos h1.1, h1.2] at ho
   have hb : ¬ 0 <= Yl x 1 w n := by simpa using ho
   unfold ZhK
   rw [if_neg (by omega), if_pos h1.2, if_pos h1.1, Yk, if_neg hb, if_pos h1]
  ·rw [Zgq h1] at h ⊢
   have ih := ZFy hp h
   rw [<- ih]
   unfold ZhK
   by_cases h7 : xk (xa x n) = 7
   ·rw [if_pos h7]
   ·rw [if_neg h7]
    by_cases hx : xw (xa x n) = w
    ·rw [if_pos hx, if_neg (fun q => h1 ⟨q, hx⟩)]
     by_cases h2 : xk (xa x n) = 2
     ·rw [if_pos h2]; exact (ZeW _ _ _).2.2.2.2
     ·rw [if_neg h2]
      by_cases h3 : xk (xa x n) = 3 \/ xk (xa x n) = 4
      ·rw [if_pos h3]
      ·rw [if_neg h3]
       by_cases h6 : xk (xa x n) = 6
       ·rw [if_pos h6]
       ·rw [if_neg h6]
        by_cases h5 : xk (xa x n) = 5
        ·rw [if_pos h5]
        ·rw [if_neg h5]
    ·rw [if_neg hx]
theorem ZyQ {x : List Ent} {k w : Int} {j n : Nat} (hj : j < n) (hk : xk (xa x j) = k) (hw : xw (xa x j) = w) : 0 <= Yl x k w n /\ Yl x k w n <= j := by
 have h : 0 <= Yl x k w (j + 1) := by
  rw [Yk]
  split
  ·assumption
  ·rw [if_pos ⟨hk, hw⟩]; omega
 rw [ZfL h (by omega)]
 exact ⟨h, by have := (Zcy x k w (j + 1)).2.1; omega⟩
theorem ZH3 {x : List Ent} {n j : Nat} (hj : j < n) (hk : xk (xa x j) = 5) : xw (xa x j) ∈ ZM x n := Zyi (ZyQ hj hk rfl).1
theorem ZFs {x : List Ent} {B : Bk} (h : Go x B) : (ZM x x.length).Nodup := by
 refine List.pairwise_iff_getElem.2 fun i j hi hj hij e => ?_
 have ki : (ZM x x.length).getD i 0 = (ZM x x.length)[i] := by rw [ZPR, ZPU hi, ZPM]
 have kj : (ZM x x.length).getD j 0 = (ZM x x.length)[j] := by rw [ZPR, ZPU hj, ZPM]
 have a := (h.ri.com i (by rw [<- ZbJ h]; exact hi)).2
 have b := (h.ri.com j (by rw [<- ZbJ h]; exact hj)).2
 rw [ki, e, <- kj, b] at a
 omega
/-! ### What stands -/
def StL (x : List Ent) (f : Stf) (asg : List Int) : Prop := ∀ key : List UInt8,
 (f (Zr key : Nat) = (false, vw 0) /\ Zch x asg key asg.length = ([], false)) \/ (f (Zr key : Nat) = (true, Zch x asg key asg.length) /\ ((Zch x asg key asg.length).2 = false -> (Zch x asg key asg.length).1 = []))
theorem ZHd (x : List Ent) : StL x (Zm6 []) [] := fun _ => .inl ⟨rfl, rfl⟩
theorem ZGs {x : List Ent} {B : Bk} (h : Go x B) {f : Stf} {asg : List Int} (hs : StL x f asg) {t : Tx} (ht : t ∈ B.txs) : StL x (ZFr f t.ch) (asg ++ [t.who]) := fun key => by
 obtain ⟨t1, t2⟩ := h.tx ht
 have hc := ZvV t2 h.nf key
 rw [<- t1] at hc
 have e1 : ZFr f t.ch (Zr key : Nat) = if Zx t.ch (Zr key : Nat) = true then (true, vw (YB 0 t.ch (Zr key : Nat))) else f (Zr key : Nat) := rfl
 have e2 : (asg ++ [t.who]).getD asg.length 0 = t.who := by rw [ZPR, ZQa (ZPH _), Nat.sub_self]; rfl
 have e3 : Zch x (asg ++ [t.who]) key asg.length = Zch x asg key asg.length := Zo6 x key _ fun i hi => by
  rw [ZPR, ZPR, ZP9 hi]
 rw [e1, ZPW, ZPF, Zc4, e2, e3, hc.1]
 by_cases hl : 0 <= YF x t.who key x.length
 ·rw [if_pos hl, if_pos (decide_eq_true hl), hc.2 hl]
  refine .inr ⟨rfl, fun q => ?_⟩
  obtain ⟨l1, _, l3⟩ := Zr0 x t.who key x.length
  have q : ¬ xk (xa x (YF x t.who key x.length).toNat) = 3 := by simpa using q
  exact Zpi (h.may _ (by omega)) (by have := l3 hl; omega)
 ·rw [if_neg hl, if_neg (fun q => hl (of_decide_eq_true q))]; exact hs key
theorem ZqI {x : List Ent} {f : Stf} {asg : List Int} (h : StL x f asg) {r : Ent} (hm : ZbL r = true) (h2 : xk r = 2) :
  Z2 f r = ((Zcb r == (Zch x asg (ZY r) asg.length).2) && (Zao r == (Zch x asg (ZY r) asg.length).1)) := by
 have hs := h (ZY r)
 unfold Z2
 show ((Zcb r == ((f (Zr (ZY r) : Nat)).1 && (f (Zr (ZY r) : Nat)).2.2)) && (!Zcb r || Zao r == (f (Zr (ZY r) : Nat)).2.1)) = _
 cases hh : Zcb r
 ·have hv := Zog hm (.inl h2) hh
  rcases hs with ⟨a, b⟩ | ⟨a, b⟩
  ·rw [a, b, hv]; rfl
  ·rw [a, hv]
   generalize Zch x asg (ZY r) asg.length = v at *
   cases hv2 : v.2
   ·rw [b hv2]; rfl
   ·rfl
 ·rcases hs with ⟨a, b⟩ | ⟨a, b⟩
  ·rw [a, b]; rfl
  ·rw [a]; simp
theorem ZFJ {x : List Ent} {n : Nat} {asg : List Int} (h : ¬ (0 <= YF x (xw (xa x n)) (ZY (xa x n)) n /\ 0 < xw (xa x n))) :
  (ZhN x n asg).1 = ((Zcb (xa x n) == (Zch x asg (ZY (xa x n)) asg.length).2) && (Zao (xa x n) == (Zch x asg (ZY (xa x n)) asg.length).1)) := by
 unfold ZhN; rw [if_neg h]
/-! ### Whether one fits -/
def LfP (x : List Ent) (R : List (List Int)) (B : Bk) (P : List (List Int)) : Prop := ∀ r ∈ P, Y4 R B.txs (g0 r) ∈ B.txs /\ (Y4 R B.txs (g0 r)).who ∈ ZM x x.length
theorem ZKr {x : List Ent} {B : Bk} (h : Go x B) {R P : List (List Int)} {asg K : List Int} (hP : LfP x R B P) (hK : ∀ w, w ∈ K ↔ w ∈ ZM x x.length)
  (hW : P.map (fun r => (Y4 R B.txs (g0 r)).who) = K.filter fun a => Zn (a ∉ asg)) {r : List Int} (hr : r ∈ P) :
  (∀ u ∈ P, okU R B.txs (g0 r) u) ↔ ZOn x asg (Y4 R B.txs (g0 r)).who (Yl x 1 (Y4 R B.txs (g0 r)).who x.length) := by
 obtain ⟨m1, _⟩ := hP r hr
 obtain ⟨t1, t2⟩ := h.tx m1
 generalize hw : (Y4 R B.txs (g0 r)).who = w at *
 have hl := Zcy x 1 w x.length
 have hb : 0 <= Yl x 1 w x.length := by
  obtain ⟨j, hj, e⟩ := List.getElem_of_mem m1
  refine (h.ri.beg w).1 ?_
  have := Zzh m1
  rw [hw] at this; exact this
 have hbeg : (Y4 R B.txs (g0 r)).beg = Yl x 1 w x.length := by rw [t1]; exact ZFy h.nf hb
 have mem : ∀ u ∈ P, (Y4 R B.txs (g0 u)).who ∉ asg := fun u hu => by
  have : (Y4 R B.txs (g0 u)).who ∈ K.filter fun a => Zn (a ∉ asg) := by rw [<- hW]; exact List.mem_map.2 ⟨u, hu, rfl⟩
  have := (List.mem_filter.1 this).2
  rw [Zj] at this; exact this
 constructor
 ·intro hu j hj hk
  refine Classical.byContradiction fun hn => ?_
  have hjn : j < x.length := by omega
  have hv := ZH3 hjn hk
  have : xw (xa x j) ∈ K.filter fun a => Zn (a ∉ asg) := List.mem_filter.2 ⟨(hK _).2 hv, ZC hn⟩
  rw [<- hW] at this
  obtain ⟨u, hup, hue⟩ := List.mem_map.1 this
  obtain ⟨n1, _⟩ := hP u hup
  obtain ⟨u1, u2⟩ := h.tx n1
  have hcom := Zgn u2 h.nf
  rw [<- u1, hue] at hcom
  have hle := ZyQ (w := xw (xa x j)) hjn hk rfl
  by_cases he : g0 u = g0 r
  ·rw [he] at hue
   have hue : w = xw (xa x j) := hw.symm.trans hue
   have hnf := NF.le h.nf (m := j + 1) (by omega)
   have hnb : ¬ 0 <= Yl x 1 w (j + 1) := fun q => by
    have := ZfL q (m := x.length) (by omega)
    have := (Zcy x 1 w (j + 1)).2.1
    omega
   have h5 := (ZiY t2 hnf hnb).1
   have := (ZyQ (w := w) (n := j + 1) (Nat.lt_succ_self j) hk hue.symm).1
   omega
  ·refine hu u hup he ?_
   rw [hcom, hbeg]; omega
 ·intro hf u hup hne hlt
  obtain ⟨n1, n2⟩ := hP u hup
  obtain ⟨u1, u2⟩ := h.tx n1
  have hcom := Zgn u2 h.nf
  rw [<- u1] at hcom
  rw [hbeg, hcom] at hlt
  obtain ⟨k, hk, hkw⟩ := List.getElem_of_mem n2
  have c1 := (h.ri.com k (by rw [<- ZbJ h]; exact hk)).1
  rw [ZPR, ZPU hk, ZPM, hkw] at c1
  have c3 := (Zcy x 5 (Y4 R B.txs (g0 u)).who x.length).2.2 c1
  have := hf (Yl x 5 (Y4 R B.txs (g0 u)).who x.length).toNat (by omega) c3.1
  rw [c3.2] at this
  exact mem u hup this
theorem ZKk {x : List Ent} {B : Bk} (h : Go x B) {f : Stf} {asg : List Int} (hs : StL x f asg) {t : Tx} (ht : t ∈ B.txs) : (t.bad = [] /\ ∀ r ∈ t.rds, Z2 f (r.drop 1) = true) ↔ ZMN x asg t.who x.length := by
 obtain ⟨t1, t2⟩ := h.tx ht
 have rd := Zd8 t2 h.nf
 rw [<- t1] at rd
 generalize t.who = w at *
 constructor
 ·intro ⟨hb, hr⟩ j hj h2 hw
  have hjn : j < x.length := by omega
  by_cases hl : 0 <= YF x w (ZY (xa x j)) j
  ·have hh : 0 <= YF x (xw (xa x j)) (ZY (xa x j)) j /\ 0 < xw (xa x j) := by rw [hw]; exact ⟨hl, t2⟩
   rw [ZLK hh]
   refine Classical.byContradiction fun q => ?_
   have : (j : Int) ∈ t.bad := (rd.2 _).2 ⟨j, hjn, h2, hw, hl, by simpa using q, rfl⟩
   rw [hb] at this; cases this
  ·have hno : ¬ (0 <= YF x (xw (xa x j)) (ZY (xa x j)) j /\ 0 < xw (xa x j)) := by rw [hw]; exact fun q => hl q.1
   rw [ZFJ hno, <- ZqI hs (h.may j hjn) h2, <- Za6]
   exact hr _ ((rd.1 _).2 ⟨j, hjn, h2, hw, by omega, rfl⟩)
 ·intro hf
  refine ⟨List.eq_nil_iff_forall_not_mem.2 fun b hb => ?_, fun r hr => ?_⟩
  ·obtain ⟨j, hj, h2, hw, hl, ho, _⟩ := (rd.2 _).1 hb
   have := hf j (by omega) h2 hw
   have hh : 0 <= YF x (xw (xa x j)) (ZY (xa x j)) j /\ 0 < xw (xa x j) := by rw [hw]; exact ⟨hl, t2⟩
   rw [ZLK hh] at this
   have this : ZGw x j = true := this
   rw [ho] at this; cases this
  ·obtain ⟨j, hj, h2, hw, hl, rfl⟩ := (rd.1 _).1 hr
   have hno : ¬ (0 <= YF x (xw (xa x j)) (ZY (xa x j)) j /\ 0 < xw (xa x j)) := by rw [hw]; omega
   have := hf j (by omega) h2 hw
   rw [ZFJ hno, <- ZqI hs (h.may j hj) h2, <- Za6] at this
   exact this
theorem ZM1 {x : List Ent} {B : Bk} (h : Go x B) {R P : List (List Int)} {f : Stf} {asg K : List Int} (hs : StL x f asg) (hP : LfP x R B P) (hK : ∀ w, w ∈ K ↔ w ∈ ZM x x.length)
  (hW : P.map (fun r => (Y4 R B.txs (g0 r)).who) = K.filter fun a => Zn (a ∉ asg)) {r : List Int} (hr : r ∈ P) :
  ZsE x asg (Y4 R B.txs (g0 r)).who ↔ ZCB R B.txs f P (g0 r) := by
 have hn : (Y4 R B.txs (g0 r)).who ∉ asg := by
  have : (Y4 R B.txs (g0 r)).who ∈ K.filter fun a => Zn (a ∉ asg) := by rw [<- hW]; exact List.mem_map.2 ⟨r, hr, rfl⟩
  have := (List.mem_filter.1 this).2
  rw [Zj] at this; exact this
 unfold ZsE ZCB
 rw [ZKr h hP hK hW hr, ZKk h hs (hP r hr).1]
 exact ⟨fun ⟨a, b, _⟩ => ⟨a, b⟩, fun ⟨a, b⟩ => ⟨a, b, hn⟩⟩
/-! ### The search -/
theorem Zxl {x : List Ent} {B : Bk} (h : Go x B) {R : List (List Int)} {K : List Int} (hn : K.Nodup) (hK : ∀ w, w ∈ K ↔ w ∈ ZM x x.length) :
  ∀ (n : Nat) (P : List (List Int)) (f : Stf) (asg : List Int), StL x f asg -> LfP x R B P -> (P.map fun r => (Y4 R B.txs (g0 r)).who) = (K.filter fun a => Zn (a ∉ asg)) -> P.length = n -> asg.length + n = K.length →
  Znb x K n asg = (ZtB R B.txs n f P).map (asg ++ ·)
 | 0, P, f, asg, _, _, _, hl, ha => by
  have hp : P = [] := ZP6 hl
  subst hp
  show (if asg.length = K.length then some asg else none) = _
  rw [if_pos (by omega)]
  show some asg = some (asg ++ [])
  rw [List.append_nil]
 | n + 1, P, f, asg, hs, hP, hW, hl, ha => by
  have hne : P ≠ [] := fun e => by rw [e] at hl; cases hl
  show (if asg.length = K.length then some asg else _) = ((if P = [] then some [] else _) : Option (List Int)).map _
  rw [if_neg (by omega), if_neg hne, Zsa]
  have e1 : (List.range K.length).findSome? (fun j => ZFG x K asg (Znb x K n) j) = K.findSome? fun w => if Zn (ZsE x asg w) = true then Znb x K n (asg ++ [w]) else none :=
   Zqe (fun w => if Zn (ZsE x asg w) = true then Znb x K n (asg ++ [w]) else none) K
  have e2 : (P.map fun r => (Y4 R B.txs (g0 r)).who).findSome? (fun w => if Zn (ZsE x asg w) = true then Znb x K n (asg ++ [w]) else none) = K.findSome? fun w => if Zn (ZsE x asg w) = true then Znb x K n (asg ++ [w]) else none := by
   rw [hW]
   refine Zmt fun a _ hp => ?_
   rw [if_neg fun q => ?_]
   rw [Zj] at q
   rw [ZC q.2.2] at hp; cases hp
  rw [e1, <- e2, List.findSome?_map, <- Zlb]
  refine Zh4 fun i hi => ?_
  have hi : i < P.length := List.mem_range.1 hi
  have hr : P.getD i [] ∈ P := by rw [ZPR, ZPU hi]; exact ZQe _
  have hm := (hP _ hr).1
  have fe := ZM1 h hs hP hK hW hr
  show (if Zn (ZsE x asg (Y4 R B.txs (g0 (P.getD i []))).who) = true then _ else none) = _
  unfold ZtD
  have fe2 : Zn (ZsE x asg (Y4 R B.txs (g0 (P.getD i []))).who) = Zn (ZCB R B.txs f P (g0 (P.getD i []))) := by rw [propext fe]
  rw [fe2]
  by_cases hq : Zn (ZCB R B.txs f P (g0 (P.getD i []))) = true
  ·rw [if_pos hq, if_pos hq]
   have hlen : (P.eraseIdx i).length = n := by rw [List.length_eraseIdx_of_lt hi]; omega
   have hnd : (P.map fun r => (Y4 R B.txs (g0 r)).who).Nodup := by rw [hW]; exact hn.filter _
   have hget : (P.map fun r => (Y4 R B.txs (g0 r)).who).getD i 0 = (Y4 R B.txs (g0 (P.getD i []))).who := by
    rw [ZPR, ZPN, ZPU hi, ZPR, ZPU hi]; rfl
   rw [Zxl h hn hK n (P.eraseIdx i) (ZFr f (Y4 R B.txs (g0 (P.getD i []))).ch) (asg ++ [(Y4 R B.txs (g0 (P.getD i []))).who]) (ZGs h hs hm) (fun r hr => hP r (List.mem_of_mem_eraseIdx hr)) ?_ hlen (by rw [ZPW, ZPF]; omega)]
   ·rw [Option.map_map]
    cases ZtB R B.txs n (ZFr f (Y4 R B.txs (g0 (P.getD i []))).ch) (P.eraseIdx i) with
    | none => rfl
    | some l => exact congrArg some (ZQf asg [(Y4 R B.txs (g0 (P.getD i []))).who] l)
   ·rw [Zk5, Zq3 hnd (by rw [ZP1]; exact hi), hget, hW, List.filter_filter]
    refine List.filter_congr fun a _ => ?_
    by_cases h1 : a = (Y4 R B.txs (g0 (P.getD i []))).who
    ·subst h1
     rw [ZD (p := (Y4 R B.txs (g0 (P.getD i []))).who ∉ asg ++ [(Y4 R B.txs (g0 (P.getD i []))).who]) (fun q => q (by simp))]
     simp
    ·have e : (a ∉ asg ++ [(Y4 R B.txs (g0 (P.getD i []))).who]) = (a ∉ asg) := propext ⟨fun q r => q (List.mem_append_left _ r), fun q r => (List.mem_append.1 r).elim q fun e => h1 (List.mem_singleton.1 e)⟩
     rw [e]
     have : (a == (Y4 R B.txs (g0 (P.getD i []))).who) = false := by simpa using h1
     rw [this]; simp
  ·rw [if_neg hq, if_neg hq]; rfl
theorem ZGy {x : List Ent} {B : Bk} (h : Go x B) {R Q : List (List Int)} (hp : plOk R B.txs) (hQ : Q.Perm (Zbk R B.kept)) (hs : ZFI R B.txs Q) :
  Zm8 R B.txs [] Q = ZAt x (Ztr (ZM x x.length) (ZM x x.length).length) [] := by
 have hw : ∀ k ∈ B.kept, Y4 R B.txs (g0 [g0 (R.getD k [])]) = B.txs.getD k tx0 := fun k hk => by
  have := h.wf.ki k hk
  show atT B.txs (Zc2 (g0 (R.getD k [])) R : Nat) = _
  rw [ZaP hp.2.1 (by rw [hp.1]; exact this), ZcA]
 have hm : (Zbk R B.kept).map (fun r => (Y4 R B.txs (g0 r)).who) = ZM x x.length := by
  rw [<- h.ri.kep]
  unfold Zbk
  rw [List.map_map]
  exact List.map_congr_left fun k hk => by show (Y4 R B.txs (g0 [g0 (R.getD k [])])).who = _; rw [hw k hk]
 have hr := ZmS (ZM x x.length) _ (ZPH _)
 rw [List.take_length] at hr
 generalize hKd : Ztr (ZM x x.length) (ZM x x.length).length = K at *
 have hW : Q.map (fun r => (Y4 R B.txs (g0 r)).who) = K := by
  refine List.Perm.eq_of_pairwise (le := fun a b => a <= b) (fun a b _ _ q1 q2 => Int.le_antisymm q1 q2) ?_ ?_ ((hQ.map _).trans (by rw [hm]; exact hr.symm))
  ·exact List.pairwise_map.2 hs
  ·rw [<- hKd]; exact ZrS _ _
 have hf : (K.filter fun a => Zn (a ∉ ([] : List Int))) = K := List.filter_eq_self.2 fun a _ => ZC (by simp)
 have hlen : Q.length = K.length := by rw [<- hW, ZP1]
 have hP : LfP x R B Q := fun r hr => by
  have hr := hQ.mem_iff.1 hr
  obtain ⟨k, hk, rfl⟩ := List.mem_map.1 hr
  have hk2 := h.wf.ki k hk
  rw [hw k hk]
  refine ⟨by rw [Yv hk2]; exact ZQe hk2, ?_⟩
  rw [<- h.ri.kep]; exact List.mem_map.2 ⟨k, hk, rfl⟩
 have := Zxl h (R := R) (hr.nodup_iff.2 (ZFs h)) (fun w => hr.mem_iff) K.length Q (Zm6 []) [] (ZHd x) hP (by rw [hf]; exact hW) hlen (by simp)
 unfold Zm8 ZAt
 rw [List.length_nil, Nat.sub_zero, this, hlen]
 cases ZtB R B.txs K.length (Zm6 []) Q <;> rfl
def joL : SX := usN 660 xX z0 z0
def Zxb : Ctr := ⟨hA, [.one (hS 0)], [hC 0 0], [eLe z0 (ai 2), eLe (ai 2) (Zh (rA 4)), eLe (ai 2) (ai 3), eLe (ai 2) (.int 1099511627776)], [.int, .int, .bool, .int], .tup [(false, [sl1 (ai 6) (Zcs joL) (ai 7)]), (false, [.bool (qA 8)]), (false, [.int .i64 (ai 9)])],
 [hC 0 0, iAr (ai 6) joL (ai 7)], [.f2 48 (qA 8) (usB 661 xX z0 z0), .f2 45 (ai 9) (usI 662 xX z0 z0), eLe (Zcs joL) (ai 7), .f2 50 (eLe z0 (ai 6)) (.f2 45 (Zcs joL) z0), eLe (Zcs joL) (.int 8)]⟩
def ZLA : Cx := { specs := [(25, [ZmX]), (35, [Zyo]), (39, [Zcr (.int 108)])], anns := [(17, [(3, .ghost ZE8 []), (4, .ghost Zm0 [.tmp 0, .tmp 5]), (5, .ghost ZE8 []), (7, .ghost ZE8 [])])] }
theorem ZHC (x : List Ent) : ((orS x).getD []).length <= 8 := by
 unfold orS
 by_cases h : orE x = 0
 ·rw [if_pos h]
  have h8 : ¬ 8 < (ZM x x.length).length := fun q => by
   unfold orE at h
   by_cases h1 : Zb9 x ≠ 0
   ·rw [if_pos h1] at h; exact h1 h
   ·rw [if_neg h1] at h
    by_cases h2 : 0 <= (ZcO x x.length).1
    ·rw [if_pos h2] at h; cases h
    ·rw [if_neg h2, if_pos q] at h; cases h
  have := ZED x (Ztr (ZM x x.length) (ZM x x.length).length) [] (Nat.zero_le _)
  rw [Zsf] at this
  omega
 ·rw [if_neg h]; exact Nat.zero_le _
def ZhP : SX := .f2 115 (r 4) (a 2)
def ZGb : SX := l z (a 6)
def ZDC : SX := e (a 7) z
def ZGR : SX := p 661 ZhP
def ZDT : SX := .f2 48 (.bool false) ZGR
def ZyM : SX := v 662 ZhP
def ZCZ : SX := o 660 ZhP
def Zte : SX := .f1 30 ZCZ
def ZEI : SX := l Zte z
def Ztk : SX := e Zte z
def Zqk : SX := .f2 50 (.bool false) Ztk
def Zmz : SX := l Zte (k 8)
def ZpF : SX := .f2 155 ZCZ (.f1 152 z)
def Zgo : SX := .f1 32 ZhP
def Zh9 : SX := hR0 548 ZhP Zgo (r 13)
def ZdR : SX := .f1 32 Zh9
def Zxs : SX := e ZdR z
def Zqs : SX := .f1 32 (wR 549 ZhP Zgo)
def Ziw : SX := f 561 ZhP Zgo
def ZyO : SX := d 550 ZhP Zgo
def ZBf : SX := l z (a 15)
def Zui : SX := .us .ints 641 Ziw (.f1 155 z) (r 13) (r 17)
def Zlw : SX := .f1 30 Zui
def ZyD : SX := l z (a 19)
def ZLT : VC := i (l z (a 2)) (i (l (a 2) (.f1 32 (r 4))) (i (l (a 2) (a 3)) (i (l (a 2) k0) (u 6 .int (u 7 .int (i (e (a 7) (v 523 ZhP)) (i (.f2 48 ZGb ZDC) (.and (i (.f1 2 ZDC) (n ZDT (n (e (a 7) ZyM) (n ZEI (n Zqk (n Zmz (n ZpF (n Ztk .tt)))))))) (i ZDC (n ZGb (u 8 .int (u 9 .int (u 10 .int (u 11 .int (u 12 .int (u 13 .rows (i (l z (a 8)) (i (l ZdR (a 10)) (i (.f2 50 (l z (a 9)) Zxs) (i (l Zqs (a 12)) (i (.f2 50 (l z (a 11)) (e Zqs z)) (i (c 558 (r 13) Ziw) (i (c 560 Zh9 (r 13)) (i (l ZdR Zgo) (i (l Zqs Zgo) (.and (i (l z ZyO) (n ZDT (n (e (k 280) ZyM) (n ZEI (n Zqk (n Zmz (n ZpF (n Ztk .tt)))))))) (i (t ZyO z) (.and (i (t (k 8) ZdR) (n ZDT (n (e (k 2) ZyM) (n ZEI (n Zqk (n Zmz (n ZpF (n Ztk .tt)))))))) (i (l ZdR (k 8)) (u 14 .int (i (l z (a 14)) (n (p 620 Zh9) (n (l ZdR (k 12)) (n (p 621 Zh9) (u 15 .int (u 16 .int (u 17 .rows (i (.us .bool 622 (r 17) Zh9 (r 13) Ziw) (i (l ZdR (a 16)) (i (.f2 50 ZBf Zxs) (i (e (.f1 32 (r 17)) ZdR) (u 18 .int (i (l z (a 18)) (n (l (.f2 40 (.f1 32 (r 17)) (k 100)) (k 108)) (n (l (.f1 32 (r 17)) (k 1000)) (n (c 560 (r 17) (r 13)) (n (p 621 (r 17)) (n (p 633 Ziw) (n (l (.f1 32 (r 17)) (a 16)) (n (l (a 16) (a 16)) (n (.f2 50 ZBf (e (.f1 32 (r 17)) z)) (u 19 .int (u 20 .int (u 21 .bool (i (.f2 48 (q 21) (.us .bool 642 Ziw (.f1 155 z) (r 13) (r 17))) (i (l Zlw (a 20)) (i (.f2 50 ZyD (e Zlw z)) (i (l Zlw (.f1 32 (r 17))) (n (.f2 48 (q 21) ZGR) (n (e z ZyM) (n (l Zte (a 20)) (n (.f2 50 ZyD Ztk) (n Zmz (n (.f2 155 ZCZ Zui) (n (e Zte Zlw) .tt)))))))))))))))))))))))))))))))))))))))))))))))))))))))))))))))))
theorem ZPo : YV Tryz.prog ZLA 12 17 Zxb = ZLT := by kernel_rfl
theorem ZL5 (S : Sig GG) (hS : OrSig S) : ZA S Tryz.prog 17 Zxb := by
 refine Zg S (C := ZLA) (fuel := 12) (ZU ⟨Zi (by decide) (Zz4 S hS.ou.ft.od.fi.js.jt), Zi (by decide) (ZLF S hS.ou.ft), Zi (by decide) (ZL8 S hS.ou), trivial⟩ ⟨⟨⟨by decide, ZiZ S⟩, ⟨by decide, Zox S hS.ou.ft.od.fi.js.jt⟩, ⟨by decide, ZiZ S⟩, ⟨by decide, ZiZ S⟩, trivial⟩, trivial⟩ trivial) fun ρ => ?_
 rw [ZPo]
 simp only [ZLT, ZhP, ZGb, ZDC, ZGR, ZDT, ZyM, ZCZ, Zte, ZEI, Ztk, Zqk, Zmz, ZpF, Zgo, Zh9, ZdR, Zxs, Zqs, Ziw, ZyO, ZBf, Zui, Zlw, ZyD, hS.ou.ft.od.fi.js.jt.jb.rf.u523, hS.ou.ft.od.fi.js.jt.u548, hS.ou.ft.od.fi.js.jt.u549, hS.ou.ft.od.fi.js.jt.u550, hS.ou.ft.od.fi.js.jt.u558, hS.ou.ft.od.fi.js.jt.u560, hS.ou.ft.od.fi.js.jt.u561, hS.ou.ft.od.u620, hS.ou.ft.od.u621, hS.ou.ft.od.u622, hS.ou.ft.u633, hS.ou.u641, hS.ou.u642, hS.u660, hS.u661, hS.u662, ZQ, ZPY, VC.den, SX.den, Env.upd, ZX, ZE, beq_iff_eq, ZPQ, beq_eq_false_iff_ne, ne_eq, ZPP, ZPO, Int.reduceToNat, Nat.reduceEqDiff, reduceIte, sB, sC]
 generalize hX : (ρ 4).tR.take (ρ 2).tI.toNat = X
 generalize hlen : (ρ 2).tI = l at *
 intro h1 h2 h3 h4
 have hl : l = (X.length : Nat) := by rw [<- hX, ZPT]; omega
 subst hl
 clear hX hlen
 intro b e he hb
 have bad : ∀ q : Int, orE X = q -> q ≠ 0 -> orS X = none := fun q h1 h2 => by unfold orS; rw [if_neg (by rw [h1]; exact h2)]
 have hpl : ∀ (R : List (List Int)) (ks : List Nat), (Zbk R ks).length = ks.length := fun R ks => by unfold Zbk; rw [ZP1]
 refine ⟨fun hne => ?_, fun h0 => ⟨?_, ?_⟩⟩
 ·have hn : Zb9 X ≠ 0 := by rw [<- he]; exact hne
  have hE : orE X = e := by unfold orE; rw [if_pos hn, he]
  rw [bad e hE hne]
  exact ⟨rfl, hE.symm, ZP2 _, .inr rfl, by decide, rfl, rfl, trivial⟩
 ·rw [h0] at hb; exact Za.1 (by rw [hb]; rfl)
 have hc : Zb9 X = 0 := by rw [<- he]; exact h0
 intro ma kb kc ob oc R q1 q2 q3 q4 q5 q6 q7 q8 q9
 refine ⟨fun hf => ?_, fun hf => ?_⟩
 ·have hE : orE X = 280 := by unfold orE; rw [if_neg (by rw [hc]; exact fun h => h rfl), if_pos (Zh8 hc hf)]
  rw [bad 280 hE (by decide)]
  exact ⟨rfl, hE.symm, ZP2 _, .inr rfl, by decide, rfl, rfl, trivial⟩
 have hgo : Go X (Z7 X X.length) := ZGB hc hf
 have h400 := Zgx hc
 have hkt := ZbJ hgo
 have hnt := Zzn hgo
 simp only [hpl] at *
 refine ⟨fun h8 => ?_, fun h8 m hm => ?_⟩
 ·have hE : orE X = 2 := by unfold orE; rw [if_neg (by rw [hc]; exact fun h => h rfl), if_neg hnt, if_pos (by omega)]
  rw [bad 2 hE (by decide)]
  exact ⟨rfl, hE.symm, ZP2 _, .inr rfl, by decide, rfl, rfl, trivial⟩
 have hE : orE X = 0 := by unfold orE; rw [if_neg (by rw [hc]; exact fun h => h rfl), if_neg hnt, if_neg (by omega)]
 have hS1 : orS X = ZAt X (Ztr (ZM X X.length) (ZM X X.length).length) [] := by unfold orS; rw [if_pos hE]
 have hnd : ndP (Zbk R (Z7 X X.length).kept) := by
  unfold ndP Zbk
  rw [List.map_map]
  have hkn : ((Z7 X X.length).kept.map fun k => ((Z7 X X.length).txs.getD k tx0).who).Nodup := by rw [hgo.ri.kep]; exact ZFs hgo
  have hkd : (Z7 X X.length).kept.Nodup := List.Pairwise.of_map _ (fun a b h e => h (by rw [e])) hkn
  refine List.pairwise_map.2 (List.Pairwise.imp_of_mem (fun {a b} ha hb' hab e => hab ?_) hkd)
  exact Zkr q6.2.1 (by rw [q6.1]; exact hgo.wf.ki a ha) (by rw [q6.1]; exact hgo.wf.ki b hb') e
 refine ⟨fun r hr => ?_, by omega, hnd, fun qb qc Q hQ hq1 hq2 hq3 m2 hm2 => ⟨by omega, by omega, fun r hr => q7 r (hQ.1.mem_iff.1 hr), ?_, fun t ht => ?_, by omega, by omega, by omega, fun b3 c3 w hw y1 y2 y3 => ?_⟩⟩
 ·obtain ⟨k, hk, rfl⟩ := List.mem_map.1 hr
  exact (q6.2.2 (R.getD k []) (Zvk (by rw [q6.1]; exact hgo.wf.ki k hk)) : 0 <= g0 (R.getD k []))
 ·exact ((hQ.1.map g0).nodup_iff).2 hnd
 ·have := (hgo.wf.rl t ht).1; omega
 ·have h9 := ZHC X
  rw [hS1, <- ZGy hgo q6 hQ.1 hQ.2] at h9 ⊢
  exact ⟨hw, hE.symm, y1, y2, by omega, rfl, rfl, trivial⟩
def latC (x : List Ent) (f a : Int) : Bool := decide (0 <= f) && (List.range a.toNat).all fun i => !decide (f < (i : Int)) || (!decide (xk (xa x i) = 1) && !decide (xk (xa x i) = 2) && !decide (xk (xa x i) = 7))
theorem ZJr (x : List Ent) (f a : Int) : ZhL x f a = latC x f a := by
 unfold ZhL latC
 rw [Bool.eq_iff_iff, Zj, Bool.and_eq_true, decide_eq_true_eq, List.all_eq_true]
 refine ⟨fun ⟨h1, h2⟩ => ⟨h1, fun i hi => ?_⟩, fun ⟨h1, h2⟩ => ⟨h1, fun i hi ha => ?_⟩⟩
 ·rw [List.mem_range] at hi
  by_cases hf : f < (i : Int)
  ·obtain ⟨a1, a2, a3⟩ := h2 i hf (by omega)
   simp [a1, a2, a3]
  ·simp [hf]
 ·have := h2 i (List.mem_range.2 (by omega))
  simp [hi] at this
  exact ⟨this.1.1, this.1.2, this.2⟩
def chkC (x : List Ent) (n : Nat) : Bool := (List.range n).all fun i => ZbL (xa x i)
theorem ZHe (x : List Ent) (n : Nat) : ZjV x n = chkC x n := by
 unfold ZjV chkC
 rw [Bool.eq_iff_iff, Zj, List.all_eq_true]
 exact ⟨fun h i hi => h i (List.mem_range.1 hi), fun h i hi => h i (List.mem_range.2 hi)⟩
def outC (x : List Ent) (n : Nat) : Bool :=
 let r := xa x n
 let o := Zbs x (xw r) n
 if xk r = 1 then decide (0 <= Yl x 1 (xw r) n)
 else if xk r = 2 then decide (0 < xw r) && !o.1
 else if xk r = 3 \/ xk r = 4 \/ xk r = 6 then !o.1
 else if xk r = 5 then (!o.1 && !latC x o.2 n) || decide (0 <= Yl x 5 (xw r) n)
 else false
theorem ZGA (x : List Ent) (n : Nat) : Zm5 x n = outC x n := by
 unfold Zm5 outC
 simp only [ZJr]
def ZFV (x : List Ent) : Nat -> Int × Int
 | 0 => (-1, 0)
 | n + 1 => if 0 <= (ZFV x n).1 then ZFV x n else if outC x n then (n, 1) else if Znc x n then (n, 2) else (-1, 0)
theorem Zjr (x : List Ent) : ∀ n, ZcO x n = ZFV x n
 | 0 => rfl
 | n + 1 => by
  show (if 0 <= (ZcO x n).1 then ZcO x n else if Zm5 x n then (n, 1) else if Znc x n then (n, 2) else (-1, 0)) = _
  rw [Zjr x n, ZGA]; rfl
def ZFf (x : List Ent) : Int := if 400 < x.length then 2 else if chkC x x.length then 0 else 280
theorem Zos (x : List Ent) : Zb9 x = ZFf x := by unfold Zb9 ZFf; rw [ZHe]
def serC (x : List Ent) : Int × Int × Int :=
 if ZFf x ≠ 0 then (0, 0, ZFf x) else if 0 <= (ZFV x x.length).1 then ((ZFV x x.length).1, (ZFV x x.length).2, 0) else ((ZfH x x.length).1, (ZfH x x.length).2, 0)
theorem Zpp (x : List Ent) : Zlf x = serC x := by unfold Zlf serC; rw [Zos, Zjr]
def fneC (x : List Ent) : Int := if ZFf x ≠ 0 then ZFf x else if 0 <= (ZFV x x.length).1 then 280 else 0
theorem ZCp (x : List Ent) : Zkc x = fneC x := by unfold Zkc fneC; rw [Zos, Zjr]
def fnrC (x : List Ent) : List (List Int) := if fneC x = 0 then ZKT x else []
theorem ZJU (x : List Ent) : finR' x = fnrC x := by unfold finR' fnrC; rw [ZCp]
def ZLV (x : List Ent) (asg : List Int) (w : Int) : Bool :=
 ((List.range (Yl x 1 w x.length).toNat).all fun j => !decide (xk (xa x j) = 5) || asg.contains (xw (xa x j))) &&
 ((List.range x.length).all fun j => !decide (xk (xa x j) = 2) || !decide (xw (xa x j) = w) || (ZhN x j asg).1) && !asg.contains w
theorem ZJb (x : List Ent) (asg : List Int) (w : Int) : Zn (ZsE x asg w) = ZLV x asg w := by
 rw [Bool.eq_iff_iff, Zj]
 unfold ZsE ZOn ZMN ZLV
 rw [Bool.and_eq_true, Bool.and_eq_true, List.all_eq_true, List.all_eq_true]
 refine ⟨fun ⟨h1, h2, h3⟩ => ⟨⟨fun j hj => ?_, fun j hj => ?_⟩, ?_⟩, fun ⟨⟨h1, h2⟩, h3⟩ => ⟨fun j hj hk => ?_, fun j hj hk hw => ?_, ?_⟩⟩
 ·rw [List.mem_range] at hj
  by_cases hk : xk (xa x j) = 5
  ·have := h1 j (by omega) hk
   simp [this]
  ·simp [hk]
 ·rw [List.mem_range] at hj
  by_cases hk : xk (xa x j) = 2
  ·by_cases hw : xw (xa x j) = w
   ·simp [h2 j (by omega) hk hw]
   ·simp [hw]
  ·simp [hk]
 ·simpa using h3
 ·have := h1 j (List.mem_range.2 (by omega))
  simpa [hk] using this
 ·have := h2 j (List.mem_range.2 (by omega))
  simpa [hk, hw] using this
 ·simpa using h3
def ZEb (x : List Ent) (all : List Int) : Nat -> List Int -> Option (List Int)
 | 0, asg => if asg.length = all.length then some asg else none
 | n + 1, asg => if asg.length = all.length then some asg else (List.range all.length).findSome? fun j => if ZLV x asg (all.getD j 0) = true then ZEb x all n (asg ++ [all.getD j 0]) else none
theorem Zvw (x : List Ent) (all : List Int) : ∀ (n : Nat) (asg : List Int), Znb x all n asg = ZEb x all n asg
 | 0, asg => rfl
 | n + 1, asg => by
  show (if asg.length = all.length then some asg else (List.range all.length).findSome? fun j => ZFG x all asg (Znb x all n) j) = (if asg.length = all.length then some asg else (List.range all.length).findSome? fun j => if ZLV x asg (all.getD j 0) = true then ZEb x all n (asg ++ [all.getD j 0]) else none)
  have : (fun j => ZFG x all asg (Znb x all n) j) = fun j => if ZLV x asg (all.getD j 0) = true then ZEb x all n (asg ++ [all.getD j 0]) else none := by
   funext j
   unfold ZFG
   rw [ZJb, Zvw x all n]
  rw [this]
def oreC (x : List Ent) : Int := if ZFf x ≠ 0 then ZFf x else if 0 <= (ZFV x x.length).1 then 280 else if 8 < (ZM x x.length).length then 2 else 0
theorem Zpk (x : List Ent) : orE x = oreC x := by unfold orE oreC; rw [Zos, Zjr]
def orsC (x : List Ent) : Option (List Int) := if oreC x = 0 then ZEb x (Ztr (ZM x x.length) (ZM x x.length).length) (Ztr (ZM x x.length) (ZM x x.length).length).length [] else none
theorem ZKo (x : List Ent) : orS x = orsC x := by unfold orS orsC; rw [Zpk]; unfold ZAt; rw [Zvw]; rfl
def awH : List Ent := [[1, 1, (Zr [] : Nat), (Zr [] : Nat), 0, 0], [3, 1, (Zr [107] : Nat), (Zr [120] : Nat), 1, 0], [1, 2, (Zr [] : Nat), (Zr [] : Nat), 0, 0], [2, 2, (Zr [107] : Nat), (Zr [] : Nat), 0, 0], [5, 1, (Zr [] : Nat), (Zr [] : Nat), 0, 1], [5, 2, (Zr [] : Nat), (Zr [] : Nat), 0, 2]]
def awK : List Ent := [[1, 1, (Zr [] : Nat), (Zr [] : Nat), 0, 0], [3, 1, (Zr [107] : Nat), (Zr [120] : Nat), 1, 0], [1, 2, (Zr [] : Nat), (Zr [] : Nat), 0, 0]]
def aw8 : List Ent := [[8, 0, (Zr [] : Nat), (Zr [] : Nat), 0, 0]]
def aw5 : List Ent := [[5, 1, (Zr [] : Nat), (Zr [] : Nat), 0, 1]]
theorem aw_1 : Zlf awH = (3, 4, 0) := by rw [Zpp]; kernel_rfl
theorem aw_2 : Zkc awH = 0 := by rw [ZCp]; kernel_rfl
theorem aw_3 : finR' awH = [[((Zr [107] : Nat) : Int), ((Zr [120] : Nat) : Int)]] := by rw [ZJU]; kernel_rfl
theorem aw_4 : orE awH = 0 := by rw [Zpk]; kernel_rfl
theorem aw_5 : orS awH = some [2, 1] := by rw [ZKo]; kernel_rfl
theorem aw_6 : Zlf awK = (-1, 0, 0) := by rw [Zpp]; kernel_rfl
theorem aw_7 : (Zlf aw8).2.2 = 280 := by rw [Zpp]; kernel_rfl
theorem aw_8 : orE aw5 = 280 := by rw [Zpk]; kernel_rfl
def bR (x k : Nat) : SX := .f1 36 (nt (rA x) z0 k)
def ZKI : Ctr := ⟨[.int, .rows, .int, .rows], [.one (slC (ai 0) (Zh (rA 1)) (ai 2) 2)], [prC (rA 1) (rA 3)], [.f2 45 (Zh (rA 1)) (.int 1)], [], .tup [],
 [bAr (nt (rA 1) z0 0) (bR 3 0) (nt (rA 1) z0 2), bAr (nt (rA 1) z0 3) (bR 3 1) (nt (rA 1) z0 5)], [.f2 45 (nt (rA 1) z0 1) (Zm9 (bR 3 0)), .f2 45 (nt (rA 1) z0 4) (Zm9 (bR 3 1)), eLe (nt (rA 1) z0 1) (nt (rA 1) z0 2), eLe (nt (rA 1) z0 4) (nt (rA 1) z0 5), eLe z0 (nt (rA 1) z0 0), eLe z0 (nt (rA 1) z0 3)]⟩
theorem ZPe (S : Sig GG) (hS : FiSig S) : YH S ZKI := by
 refine ZL S fun T w0 ρ h hu hp hd hr hpre => ⟨ρ, Ext.refl _ _, ?_⟩
 have e1 : hpDen T ρ w0 ZKI.pre = Zd (T.prd 110 w0 ((rA 1).den T ρ) ((rA 3).den T ρ)) emp := rfl
 have r0 := Zav (hr (.f2 45 (Zh (rA 1)) (.int 1)) (by simp [ZKI]))
 have r0 : (((ρ 1).tR.length : Nat) : Int) = 1 := r0
 rw [e1, Zc, hp, hS.p110] at hpre
 have hpre : prH (ρ 1).tR (ρ 3).tR h := hpre
 have hl := Zhz hpre
 have e2 : hpDen T ρ w0 ZKI.post = Zd (bAD (((ρ 1).tR.getD 0 []).getD 0 0) (Yc (((ρ 3).tR.getD 0 []).getD 0 0).toNat) (((ρ 1).tR.getD 0 []).getD 2 0)) (Zd (bAD (((ρ 1).tR.getD 0 []).getD 3 0) (Yc (((ρ 3).tR.getD 0 []).getD 1 0).toNat) (((ρ 1).tR.getD 0 []).getD 5 0)) emp) := rfl
 rw [e2, Zc]
 have k : ∀ n, (nt (rA 1) z0 n).den T ρ = .int (((ρ 1).tR.getD 0 []).getD n 0) := fun n => rfl
 have kb : ∀ n, (bR 3 n).den T ρ = .bytes (Yc (((ρ 3).tR.getD 0 []).getD n 0).toNat) := fun n => rfl
 cases hR : (ρ 1).tR with
 | nil => rw [hR] at r0; cases r0
 | cons r R =>
  have hn : R = [] := ZP6 (by rw [hR, ZQb] at r0; omega)
  subst hn
  cases hW : (ρ 3).tR with
  | nil => rw [hR, hW] at hl; cases hl
  | cons w W =>
   have hn : W = [] := ZP6 (by rw [hR, hW] at hl; simpa using hl.symm)
   subst hn
   rw [hR, hW] at hpre
   have hq : itP r w h := by rw [<- ZoQ]; exact hpre
   obtain ⟨⟨f1, f2, f3, f4, f5, f6⟩, hh⟩ := hq
   refine ⟨hh, fun x hx => ?_⟩
   simp only [ZKI, List.mem_cons, List.not_mem_nil, or_false] at hx
   rcases hx with rfl | rfl | rfl | rfl | rfl | rfl
   ·show (ap2 45 ((nt (rA 1) z0 1).den T ρ) ((Zm9 (bR 3 0)).den T ρ)).tP
    rw [p45]
    show ((ρ 1).tR.getD 0 []).getD 1 0 = ((Yc (((ρ 3).tR.getD 0 []).getD 0 0).toNat).length : Nat)
    rw [hR, hW]; exact f1
   ·show (ap2 45 ((nt (rA 1) z0 4).den T ρ) ((Zm9 (bR 3 1)).den T ρ)).tP
    rw [p45]
    show ((ρ 1).tR.getD 0 []).getD 4 0 = ((Yc (((ρ 3).tR.getD 0 []).getD 1 0).toNat).length : Nat)
    rw [hR, hW]; exact f2
   ·rw [Ze]
    show ((ρ 1).tR.getD 0 []).getD 1 0 <= ((ρ 1).tR.getD 0 []).getD 2 0
    rw [hR]; exact f3
   ·rw [Ze]
    show ((ρ 1).tR.getD 0 []).getD 4 0 <= ((ρ 1).tR.getD 0 []).getD 5 0
    rw [hR]; exact f4
   ·rw [Ze]
    show 0 <= ((ρ 1).tR.getD 0 []).getD 0 0
    rw [hR]; exact f5
   ·rw [Ze]
    show 0 <= ((ρ 1).tR.getD 0 []).getD 3 0
    rw [hR]; exact f6
def ZPm : Cx := { specs := [(23, [ZtG]), (12, [ZrP]), (17, [Zxb])], anns := [(6, [(10, .ghost ZKI [.tmp 5])])] }
def ZFE : Ctr := ZuH
def ZKE : SX := .f2 122 z (.f1 152 z)
def ZIw : SX := .f2 122 (.f1 35 (.byt [])) (.f2 122 z ZKE)
def ZCX : SX := .f2 122 (.f1 35 (.byt [])) ZIw
def ZGj : SX := .f2 122 (k 1) (.f2 122 (k 1) ZCX)
def ZJC : SX := .f2 122 (k 3) (.f2 122 (k 1) (.f2 122 (.f1 35 (.byt [107])) (.f2 122 (.f1 35 (.byt [120])) (.f2 122 (k 1) ZKE))))
def ZI8 : SX := .f2 122 (k 1) (.f2 122 (k 2) ZCX)
def ZGi : SX := .f2 122 (k 5) (.f2 122 (k 1) (.f2 122 (.f1 35 (.byt [])) (.f2 122 (.f1 35 (.byt [])) (.f2 122 z (.f2 122 (k 1) (.f1 152 z))))))
def Zj0 : SX := .f2 124 ZGj (.f2 124 ZJC (.f2 124 ZI8 (.f2 124 (.f2 122 (k 2) (.f2 122 (k 2) (.f2 122 (.f1 35 (.byt [107])) ZIw))) (.f2 124 ZGi (.f2 124 (.f2 122 (k 5) (.f2 122 (k 2) (.f2 122 (.f1 35 (.byt [])) (.f2 122 (.f1 35 (.byt [])) (.f2 122 z (.f2 122 (k 2) (.f1 152 z))))))) (.f1 154 z))))))
def ZEX : SX := vR 603 Zj0
def ZD6 : SX := o 660 Zj0
def Zgr : SX := .f1 30 ZD6
def ZpY : SX := .f2 124 ZGj (.f2 124 ZJC (.f2 124 ZI8 (.f1 154 z)))
def ZpK : SX := .f2 124 (.f2 122 (k 8) (.f2 122 z ZCX)) (.f1 154 z)
def Zp6 : SX := .f2 124 ZGi (.f1 154 z)
def Zqr : SX := .f1 30 (o 660 Zp6)
def ZCn : SX := e (a 7) (k 3)
def ZzH : SX := e (a 8) (k 4)
def ZwQ : SX := e (a 9) z
def Zx6 : SX := e (.f1 32 (r 11)) (k 1)
def ZvU : SX := e (a 13) z
def Zx5 : SX := e Zgr (k 2)
def ZAZ : SX := e (a 17) z
def Zak : SX := .f2 155 (.bool true) (.bool false)
def Zjc : SX := .f3 112 (r 11) z (k 1)
def ZAs : SX := .f1 36 (.f3 112 ZEX z z)
def Zww : SX := .f1 31 ZAs
def Zii : SX := .f3 112 (r 11) z (k 4)
def Zv0 : SX := .f1 36 (.f3 112 ZEX z (k 1))
def ZuK : SX := .f1 31 Zv0
def Zvy : SX := .f2 150 (.f2 114 ZAs Zjc) (.byt [107])
def ZAS : SX := .f2 150 (.f2 114 Zv0 Zii) (.byt [120])
def ZyX : SX := e (.f2 110 ZD6 z) (k 2)
def ZyH : SX := e (.f2 110 ZD6 (k 1)) (k 1)
def ZwR : SX := e (a 18) (k (-1))
def Zut : SX := e (a 19) z
def ZBo : SX := e (a 20) z
def ZuW : SX := e (a 24) (k 280)
def ZNj : VC := u 0 .int (i (l z (a 0)) (u 1 .int (i (l z (a 1)) (u 2 .int (i (l z (a 2)) (u 3 .int (i (l z (a 3)) (u 4 .int (i (l z (a 4)) (u 5 .int (i (l z (a 5)) (u 6 .int (i (l z (a 6)) (u 7 .int (u 8 .int (u 9 .int (i (e (a 7) (v 520 Zj0)) (i (e (a 8) (v 521 Zj0)) (i (e (a 9) (v 522 Zj0)) (u 10 .int (u 11 .rows (u 12 .int (u 13 .int (i (e (a 13) (v 604 Zj0)) (i (e (.f1 32 (r 11)) (.f1 32 ZEX)) (i (l (.f1 32 (r 11)) (a 12)) (i (.f2 50 (l z (a 10)) (e (.f1 32 (r 11)) z)) (u 14 .int (u 15 .int (u 16 .bool (u 17 .int (i (.f2 48 (q 16) (p 661 Zj0)) (i (e (a 17) (v 662 Zj0)) (i (l Zgr (a 15)) (i (.f2 50 (l z (a 14)) (e Zgr z)) (i (l Zgr (k 8)) (u 18 .int (u 19 .int (u 20 .int (i (e (a 18) (v 520 ZpY)) (i (e (a 19) (v 521 ZpY)) (i (e (a 20) (v 522 ZpY)) (u 21 .int (i (l z (a 21)) (u 22 .int (u 23 .int (u 24 .int (i (e (a 22) (v 520 ZpK)) (i (e (a 23) (v 521 ZpK)) (i (e (a 24) (v 522 ZpK)) (u 25 .int (i (l z (a 25)) (u 26 .int (i (l z (a 26)) (u 27 .int (u 28 .int (u 29 .bool (u 30 .int (i (.f2 48 (q 29) (p 661 Zp6)) (i (e (a 30) (v 662 Zp6)) (i (l Zqr (a 28)) (i (.f2 50 (l z (a 27)) (e Zqr z)) (i (l Zqr (k 8)) (.and (i ZCn (.and (i ZzH (.and (i ZwQ (.and (i Zx6 (.and (i ZvU (.and (i Zx5 (.and (i (.f1 2 (.f1 2 (q 16))) (.and (i (.f1 2 ZAZ) (n Zak .tt)) (i ZAZ (i (e Zjc Zww) (i (e Zii ZuK) (i (l Zjc (.f3 112 (r 11) z (k 2))) (i (l Zii (.f3 112 (r 11) z (k 5))) (i (l z (.f3 112 (r 11) z z)) (i (l z (.f3 112 (r 11) z (k 3))) (n (t z (.f1 32 (r 11))) (n (l z Zjc) (n (l Zjc Zww) (.and (i Zvy (n (l z Zii) (n (l Zii ZuK) (.and (i ZAS (n (t z Zgr) (.and (i ZyX (n (t (k 1) Zgr) (.and (i ZyH (.and (i ZwR (.and (i Zut (.and (i ZBo (.and (i ZuW (n (.f2 155 (.bool true) (e (a 30) (k 280))) .tt)) (i (.f1 2 ZuW) (n Zak .tt)))) (i (.f1 2 ZBo) (n Zak .tt)))) (i (.f1 2 Zut) (n Zak .tt)))) (i (.f1 2 ZwR) (n Zak .tt)))) (i (.f1 2 ZyH) (n Zak .tt))))) (i (.f1 2 ZyX) (n Zak .tt))))) (i (.f1 2 ZAS) (n Zak .tt)))))) (i (.f1 2 Zvy) (n Zak .tt))))))))))))))) (i (.f1 2 (q 16)) (n Zak .tt)))) (i (.f1 2 Zx5) (n Zak .tt)))) (i (.f1 2 ZvU) (n Zak .tt)))) (i (.f1 2 Zx6) (n Zak .tt)))) (i (.f1 2 ZwQ) (n Zak .tt)))) (i (.f1 2 ZzH) (n Zak .tt)))) (i (.f1 2 ZCn) (n Zak .tt))))))))))))))))))))))))))))))))))))))))))))))))))))))))))))))))))
theorem ZMH : YV Tryz.prog ZPm 12 6 ZFE = ZNj := by kernel_rfl
theorem ZK1 (S : Sig GG) (hS : OrSig S) : ZA S Tryz.prog 6 ZFE := by
 refine Zg S (C := ZPm) (fuel := 12) (ZU ⟨Zi (by decide) (ZMD S hS.ou.ft.od.fi.js), Zi (by decide) (ZFQ S hS.ou.ft.od.fi), Zi (by decide) (ZL5 S hS), trivial⟩ ⟨⟨⟨by decide, ZPe S hS.ou.ft.od.fi⟩, trivial⟩, trivial⟩ trivial) fun ρ => ?_
 rw [ZMH]
 simp only [ZNj, ZKE, ZIw, ZCX, ZGj, ZJC, ZI8, ZGi, Zj0, ZEX, ZD6, Zgr, ZpY, ZpK, Zp6, Zqr, ZCn, ZzH, ZwQ, Zx6, ZvU, Zx5, ZAZ, Zak, Zjc, ZAs, Zww, Zii, Zv0, ZuK, Zvy, ZAS, ZyX, ZyH, ZwR, Zut, ZBo, ZuW, hS.ou.ft.od.fi.js.jt.jb.rf.u520, hS.ou.ft.od.fi.js.jt.jb.rf.u521, hS.ou.ft.od.fi.js.jt.jb.rf.u522, hS.ou.ft.od.fi.u603, hS.ou.ft.od.fi.u604, hS.u660, hS.u661, hS.u662, ZQ, ZPY, VC.den, SX.den, Env.upd, ZX, ZE, beq_iff_eq, ZPQ, beq_eq_false_iff_ne, ne_eq, ZPP, ZPO, Int.reduceToNat, Nat.reduceEqDiff, reduceIte, sB, sC]
 have eH : ([[1, 1, ((Zr [] : Nat) : Int), ((Zr [] : Nat) : Int), 0, 0], [3, 1, ((Zr [107] : Nat) : Int), ((Zr [120] : Nat) : Int), 1, 0], [1, 2, ((Zr [] : Nat) : Int), ((Zr [] : Nat) : Int), 0, 0], [2, 2, ((Zr [107] : Nat) : Int), ((Zr [] : Nat) : Int), 0, 0], [5, 1, ((Zr [] : Nat) : Int), ((Zr [] : Nat) : Int), 0, 1], [5, 2, ((Zr [] : Nat) : Int), ((Zr [] : Nat) : Int), 0, 2]] : List Ent) = awH := rfl
 have eK : ([[1, 1, ((Zr [] : Nat) : Int), ((Zr [] : Nat) : Int), 0, 0], [3, 1, ((Zr [107] : Nat) : Int), ((Zr [120] : Nat) : Int), 1, 0], [1, 2, ((Zr [] : Nat) : Int), ((Zr [] : Nat) : Int), 0, 0]] : List Ent) = awK := rfl
 have e8 : ([[8, 0, ((Zr [] : Nat) : Int), ((Zr [] : Nat) : Int), 0, 0]] : List Ent) = aw8 := rfl
 have e5 : ([[5, 1, ((Zr [] : Nat) : Int), ((Zr [] : Nat) : Int), 0, 1]] : List Ent) = aw5 := rfl
 have l1 : (Option.getD (some [2, 1]) [] : List Int) = [2, 1] := rfl
 have d1 : Yc ((([[((Zr [107] : Nat) : Int), ((Zr [120] : Nat) : Int)]] : List (List Int)).getD 0 []).getD 0 0).toNat = [107] := by
  show Yc (Int.toNat (Zr [107] : Nat)) = _
  rw [ZPY, Zm]
 have d2 : Yc ((([[((Zr [107] : Nat) : Int), ((Zr [120] : Nat) : Int)]] : List (List Int)).getD 0 []).getD 1 0).toNat = [120] := by
  show Yc (Int.toNat (Zr [120] : Nat)) = _
  rw [ZPY, Zm]
 simp only [eH, eK, e8, e5, aw_1, aw_2, aw_3, aw_4, aw_5, aw_6, aw_7, aw_8, l1, d1, d2]
 repeat' (first | exact trivial | apply And.intro | intro _)
 all_goals first
  | omega
  | rfl
  | (simp_all; done)
end
end Go.Proofs.YtidlngnhjffepaaGreat
namespace Go.Eng
open Go.ChangeShapes Go.WideShapes Go.Deep
theorem ZiT {cs : List Value} {i : Nat} {v : Value} (h : (cs.drop i).take 1 = [v]) : cs[i]? = some v := by
 have h2 : ((cs.drop i).take 1)[0]? = some v := by rw [h]; rfl
 rw [List.getElem?_take_of_lt (by omega), ZQg] at h2
 simpa using h2
abbrev Zg0 : List Fd := [.int .i64, .int .i64, .str, .str, .bool, .int .i64]
theorem ZwL (s : ByteArray) : Fd.str.val [((Zr s.data.toList : Nat) : Int)] = .string s := by
 show Value.string ⟨(Yc (Int.toNat ((Zr s.data.toList : Nat) : Int))).toArray⟩ = _
 rw [ZPY, Zm]
def ZGE {H : Type} (w : World) (v : Value) (d : DataW H) (b o l c : Int) (n : Nat) (vals : List Value) : Prop :=
 v = .slice (if b < 0 then none else some ⟨b.toNat, o.toNat, none⟩) l.toNat c.toNat /\ 0 <= l /\ l = n /\ l <= c /\ l <= 9223372036854775807 ∧
  ((0 <= b \/ vals = []) /\ ∀ i u, vals[i]? = some u -> b.toNat < w.heap.size /\ w.cell? ⟨b.toNat, o.toNat + i, none⟩ = some u) /\ (d = .nil /\ l = 0 \/ ∃ ds sp, d = .slice ds sp /\ (ds.length : Int) = l)
theorem Ztm {P : Program} {W : World} {base : Nat} {t e : TypeId} {a : Addr} {len cap : Nat} (ht : P.underlying t = some (.slice e)) (hv : Value.okWide P W .any base t (.slice (some a) len cap)) : a.spot = none := by
 unfold Value.okWide at hv
 rw [ht] at hv
 unfold Cell.okWide at hv
 rw [ht] at hv
 simp only [Cell.ok] at hv
 rw [ht] at hv
 exact hv.2.2.2.1
def hapD {H : Type} (d : DataW H) (L : List (List Int)) : Prop := ∀ r ∈ L, ∃ ds sp parts, d = .slice ds sp /\ .agg parts ∈ ds /\ .lit (.string (Yc (r.getD 2 0).toNat)) ∈ parts /\ .lit (.string (Yc (r.getD 3 0).toNat)) ∈ parts
theorem Ztj {H : Type} {enc : TypeId × Value -> H} {P : Program} {w : World} {base : Nat} {spare : Nat -> Bool} {Zna : Bool} {t e : TypeId} {g0 g1 g2 g3 g4 g5 : Field} {fuel : Nat} {cs : List Value} {x : DataW H × List MemPlace}
  (ht : P.underlying t = some (.slice e)) (he : P.underlying e = some (.struct #[g0, g1, g2, g3, g4, g5])) (ce : P.cellsOf e = 6) (o0 : g0.offset = 0) (o1 : g1.offset = 1) (o2 : g2.offset = 2) (o3 : g3.offset = 3) (o4 : g4.offset = 4) (o5 : g5.offset = 5)
  (c0 : P.cellsOf g0.type = 1) (c1 : P.cellsOf g1.type = 1) (c2 : P.cellsOf g2.type = 1) (c3 : P.cellsOf g3.type = 1) (c4 : P.cellsOf g4.type = 1) (c5 : P.cellsOf g5.type = 1)
  (t0 : P.underlying g0.type = some (.int .i64)) (t1 : P.underlying g1.type = some (.int .i64)) (t2 : P.underlying g2.type = some .string) (t3 : P.underlying g3.type = some .string) (t4 : P.underlying g4.type = some .bool) (t5 : P.underlying g5.type = some (.int .i64))
  (h : DataW.trod enc P w base spare Zna fuel t cs = some x) :
  (cs = [.slice none 0 0] /\ x = (.nil, [])) ∨
  ∃ (a : Addr) (len cap : Nat) (rows : List (List Int)), cs = [.slice (some a) len cap] /\ base <= a.block /\ len <= cap /\ cap <= maxLen /\ len = rows.length /\ (∃ ds sp, x.1 = .slice ds sp /\ ds.length = len) ∧
   (∀ j v, (rows.flatMap (rowVals Zg0))[j]? = some v -> w.cell? (a.add j) = some v) /\ hapD x.1 rows := by
 rcases open_slice ht h with h0 | ⟨a, len, cap, m, n, D, Pl, rfl, hb, hl, hm, hmm, hxx, hx⟩
 ·exact .inl h0
 right
 have hlm : len <= m := by rw [hmm]; split <;> omega
 have each : ∀ i, i < m -> ∃ q : List Int, (∀ j, j < 6 -> ∃ v, (rowVals Zg0 q)[j]? = some v /\ w.cell? (a.add (i * 6 + j)) = some v) /\ ∃ parts, D i = .agg parts /\ .lit (.string (Yc (q.getD 2 0).toNat)) ∈ parts /\ .lit (.string (Yc (q.getD 3 0).toNat)) ∈ parts := by
  intro i hi
  obtain ⟨cs', h1, h2⟩ := hx i hi
  rw [ce] at h1
  obtain ⟨_, hlen, hcell⟩ := World.cells?_some h1
  obtain ⟨xs, k, hk, hxe, _, hxl, hf⟩ := DataW.trod_struct he h2
  have f0 := hf 0 g0 rfl
  have f1 := hf 1 g1 rfl
  have f2 := hf 2 g2 rfl
  have f3 := hf 3 g3 rfl
  have f4 := hf 4 g4 rfl
  have f5 := hf 5 g5 rfl
  rw [o0, c0, ZPU (by rw [hxl]; show _ < 6; omega)] at f0
  rw [o1, c1, ZPU (by rw [hxl]; show _ < 6; omega)] at f1
  rw [o2, c2, ZPU (by rw [hxl]; show _ < 6; omega)] at f2
  rw [o3, c3, ZPU (by rw [hxl]; show _ < 6; omega)] at f3
  rw [o4, c4, ZPU (by rw [hxl]; show _ < 6; omega)] at f4
  rw [o5, c5, ZPU (by rw [hxl]; show _ < 6; omega)] at f5
  obtain ⟨n0, e0, _, _⟩ := DataW.trod_int t0 f0
  obtain ⟨n1, e1, _, _⟩ := DataW.trod_int t1 f1
  obtain ⟨s2, e2, y2, _⟩ := DataW.trod_string t2 f2
  obtain ⟨s3, e3, y3, _⟩ := DataW.trod_string t3 f3
  obtain ⟨b4, e4, _⟩ := DataW.trod_bool t4 f4
  obtain ⟨n5, e5, _, _⟩ := DataW.trod_int t5 f5
  have e0 := ZiT e0
  have e1 := ZiT e1
  have e2 := ZiT e2
  have e3 := ZiT e3
  have e4 := ZiT e4
  have e5 := ZiT e5
  refine ⟨[n0, n1, (Zr s2.data.toList : Nat), (Zr s3.data.toList : Nat), if b4 = true then 1 else 0, n5], fun j hj => ?_, xs.map (·.1), congrArg Prod.fst hxe, ?_, ?_⟩
  ·have hc := hcell j (by omega)
   rw [add_add] at hc
   match j, hj with
   | 0, _ => exact ⟨_, rfl, by rw [hc, e0]; rfl⟩
   | 1, _ => exact ⟨_, rfl, by rw [hc, e1]; rfl⟩
   | 2, _ => exact ⟨_, rfl, by rw [hc, e2]; exact congrArg some (ZwL s2).symm⟩
   | 3, _ => exact ⟨_, rfl, by rw [hc, e3]; exact congrArg some (ZwL s3).symm⟩
   | 4, _ => exact ⟨_, rfl, by rw [hc, e4]; cases b4 <;> rfl⟩
   | 5, _ => exact ⟨_, rfl, by rw [hc, e5]; rfl⟩
  ·refine List.mem_map.2 ⟨_, ZQe (show 2 < xs.length by rw [hxl]; show _ < 6; omega), ?_⟩
   rw [y2]
   show _ = DataW.lit (Lit.string (Yc (Int.toNat ((Zr s2.data.toList : Nat) : Int))))
   rw [ZPY, Zm]
  ·refine List.mem_map.2 ⟨_, ZQe (show 3 < xs.length by rw [hxl]; show _ < 6; omega), ?_⟩
   rw [y3]
   show _ = DataW.lit (Lit.string (Yc (Int.toNat ((Zr s3.data.toList : Nat) : Int))))
   rw [ZPY, Zm]
 obtain ⟨q, hq⟩ := choose_lt each
 refine ⟨a, len, cap, (List.range len).map q, rfl, hb, hl, hm, by rw [ZP1, List.length_range], ⟨_, _, by rw [hxx], by rw [ZP1, List.length_range]⟩, fun j v hj => ?_, fun r hr => ?_⟩
 ·have hlen6 : ∀ r : List Int, (rowVals Zg0 r).length = 6 := fun r => ZZ _ r
  have hjlt : j < len * 6 := by
   rcases ZPL j (len * 6) with h' | h'
   ·exact h'
   ·rw [List.getElem?_eq_none (by rw [Zbp _ 6 hlen6, ZP1, List.length_range]; exact h')] at hj; cases hj
  have hdm : j = j / 6 * 6 + j % 6 := by omega
  rw [hdm, Zdi _ 6 hlen6 _ _ _ (Nat.mod_lt _ (by decide)), ZPN, List.getElem?_range (by omega)] at hj
  obtain ⟨v', h1, h2⟩ := (hq (j / 6) (by omega)).1 (j % 6) (Nat.mod_lt _ (by decide))
  have hj' : (rowVals Zg0 (q (j / 6)))[j % 6]? = some v := hj
  rw [h1] at hj'
  cases hj'
  rw [hdm]; exact h2
 ·obtain ⟨i, hi, rfl⟩ := List.mem_map.1 hr
  rw [List.mem_range] at hi
  obtain ⟨_, parts, h1, h2, h3⟩ := hq i (by omega)
  exact ⟨_, _, parts, by rw [hxx], List.mem_map.2 ⟨i, List.mem_range.2 hi, h1⟩, h2, h3⟩
theorem Zg1 {H : Type} {enc : TypeId × Value -> H} {P : Program} {W : World} {base : Nat} {t e : TypeId} {g0 g1 g2 g3 g4 g5 : Field} {v : Value} {d : DataW H} {ps : List MemPlace}
  (ht : P.underlying t = some (.slice e)) (he : P.underlying e = some (.struct #[g0, g1, g2, g3, g4, g5])) (ce : P.cellsOf e = 6) (o0 : g0.offset = 0) (o1 : g1.offset = 1) (o2 : g2.offset = 2) (o3 : g3.offset = 3) (o4 : g4.offset = 4) (o5 : g5.offset = 5)
  (c0 : P.cellsOf g0.type = 1) (c1 : P.cellsOf g1.type = 1) (c2 : P.cellsOf g2.type = 1) (c3 : P.cellsOf g3.type = 1) (c4 : P.cellsOf g4.type = 1) (c5 : P.cellsOf g5.type = 1)
  (t0 : P.underlying g0.type = some (.int .i64)) (t1 : P.underlying g1.type = some (.int .i64)) (t2 : P.underlying g2.type = some .string) (t3 : P.underlying g3.type = some .string) (t4 : P.underlying g4.type = some .bool) (t5 : P.underlying g5.type = some (.int .i64))
  (hv : Value.okWide P W .any base t v) (h : DataW.Trod enc P W 0 (fun _ => true) true t v d ps) :
  ∃ (b o l c : Int) (L : List (List Int)), ZGE W v d b o l c L.length (L.flatMap (rowVals Zg0)) /\ hapD d L := by
 obtain ⟨fuel, hf⟩ := h
 obtain ⟨a0, len, cap, rfl⟩ := okWide_slice ht hv
 rcases Ztj ht he ce o0 o1 o2 o3 o4 o5 c0 c1 c2 c3 c4 c5 t0 t1 t2 t3 t4 t5 hf with ⟨hcs, hx⟩ | ⟨a, len', cap', rows, hcs, _, hl, hm, hz, hd, hcell, hB⟩
 ·simp [Value.cells] at hcs
  obtain ⟨rfl, rfl, rfl⟩ := hcs
  simp only [Prod.mk.injEq] at hx
  exact ⟨-1, 0, 0, 0, [], ⟨rfl, by decide, by decide, by decide, by decide, ⟨.inr rfl, fun i u hu => by simp at hu⟩, .inl ⟨hx.1, rfl⟩⟩, (fun r hr => nomatch hr)⟩
 ·simp [Value.cells] at hcs
  obtain ⟨rfl, rfl, rfl⟩ := hcs
  have hspot := Ztm ht hv
  obtain ⟨b, off, spot⟩ := a
  simp only at hspot
  subst hspot
  have hmax : maxLen = 9223372036854775807 := by decide
  obtain ⟨ds, sp, h1, h2⟩ := hd
  refine ⟨b, off, len, cap, rows, ⟨by rw [if_neg (by omega)]; simp, by omega, by omega, by omega, by omega, ⟨.inl (by omega), fun i u hu => ?_⟩, .inr ⟨ds, sp, h1, by omega⟩⟩, hB⟩
  have hc := hcell i u hu
  rw [add_plain] at hc
  exact ⟨by simpa using (World.block_lt_of_cell? W ⟨b, off + i, none⟩ hc), by simpa using hc⟩
end Go.Eng
namespace Go.Proofs.YtidlngnhjffepaaGreat.judgeFinals
open Go.ChangeShapes Go.WideShapes Go.ChangeAt Go.RowKit
open Go.Eng (ZiJ Sig ZA YH emp Zd ZqA Sat Env U Ctr SX eLe rowVals ZGE Zg1 hapD Yc Zg0 Zx YB Yw Y0)
theorem own : ownKnob Tryz.prog.godebug = none := by kernel_rfl
noncomputable def usr (n : Nat) (a b c d : U GG) : U GG :=
 match n with
 | 500 => .int (Yl a.tR b.tI c.tI d.tI.toNat)
 | 501 => .bool (Zbs a.tR b.tI c.tI.toNat).1
 | 502 => .int (Zbs a.tR b.tI c.tI.toNat).2
 | 503 => .bool (ZhL a.tR b.tI c.tI)
 | 504 => .bool (Zn (ZKJ a.tR b.tI c.tI))
 | 505 => .bool (Zm5 a.tR b.tI.toNat)
 | 506 => .int (ZxY a.tR b.tI.toNat)
 | 507 => .bool (Znc a.tR b.tI.toNat)
 | 508 => .int (ZcO a.tR b.tI.toNat).1
 | 509 => .int (ZcO a.tR b.tI.toNat).2
 | 510 => .bool (ZbL a.tN)
 | 511 => .bool (ZjV a.tR b.tI.toNat)
 | 512 => .int (YF a.tR b.tI c.tB d.tI.toNat)
 | 513 => .bytes (Zch a.tR b.tN c.tB d.tI.toNat).1
 | 514 => .bool (Zch a.tR b.tN c.tB d.tI.toNat).2
 | 515 => .ints (ZM a.tR b.tI.toNat)
 | 516 => .bool (ZhN a.tR b.tI.toNat c.tN).1
 | 517 => .int (ZhN a.tR b.tI.toNat c.tN).2
 | 518 => .int (ZfH a.tR b.tI.toNat).1
 | 519 => .int (ZfH a.tR b.tI.toNat).2
 | 520 => .int (Zlf a.tR).1
 | 521 => .int (Zlf a.tR).2.1
 | 522 => .int (Zlf a.tR).2.2
 | 524 => .bytes (lasV a.tR b.tI)
 | 525 => .int (lasK a.tR b.tI)
 | 523 => .int (Zb9 a.tR)
 | 530 => .bool (Z3 a.tM b.tN)
 | 531 => .bool (Zn (ZwI a.tM b.tM c.tM))
 | 532 => .bool (Zn (layM a.tM b.tM c.tM d.tM))
 | 533 => .rows (ZqK a.tR b.tI.toNat)
 | 534 => .rows ((a.tR.take c.tI.toNat).map nr ++ b.tR.drop c.tI.toNat)
 | 536 => .bool (Zn ((a.tM.map (·.1)).Nodup))
 | 535 => .bool (Zn (∀ i : Nat, b.tI <= (i : Int) -> (i : Int) < c.tI -> eqE (xa a.tR i) (xa d.tR i)))
 | 568 => .g (.tx (Zcf (ZO a) b.tM))
 | 571 => .bool (Zn ((a.tM.map (·.1)).Nodup /\ ∀ k, Zx a.tM k = true -> Zx b.tM k = true))
 | 569 => .bool (Zn (a.tR.map g0 = b.tR.map g0))
 | 570 => .bool (Zn (d.tR.Perm (Zbk c.tR (Zcc b.tM (ZO a) 0))))
 | 565 => .bool (Zn (Zo7 a.tR b.tI))
 | 566 => .int (Zc2 b.tI a.tR : Nat)
 | 540 => .int (atT (ZO a) b.tI).who
 | 541 => .int (atT (ZO a) b.tI).beg
 | 542 => .int (atT (ZO a) b.tI).com
 | 543 => .bool (atT (ZO a) b.tI).opn
 | 544 => .amap (atT (ZO a) b.tI).ch
 | 545 => .rows (atT (ZO a) b.tI).rds
 | 546 => .ints (atT (ZO a) b.tI).bad
 | 547 => .amap (ZeQ a.tR (ZO b))
 | 548 => .rows (Zbk c.tR (Z7 a.tR b.tI.toNat).kept)
 | 549 => .rows (Z7 a.tR b.tI.toNat).out
 | 550 => .int (Z7 a.tR b.tI.toNat).fault
 | 551 => .int (Z7 a.tR b.tI.toNat).what
 | 552 => .int ((ZO a).length : Nat)
 | 553 => .int (ixL b.tI (ZO a) : Nat)
 | 554 => .rows (ZCC a.tR b.tI c.tN)
 | 555 => .g (.tx (setT (ZO a) b.tI (Zs6 (atT (ZO a) b.tI) c.tM d.tN)))
 | 556 => .g (.tx (setT (ZO a) b.tI (ZAB (atT (ZO a) b.tI) c.tR d.tN)))
 | 557 => .g (.tx (ZO a ++ [⟨b.tI, c.tI, -1, true, [], [], []⟩]))
 | 558 => .bool (Zn (plOk a.tR (ZO b)))
 | 559 => .bool (Zn (d.tR.Perm (Zbk c.tR (Z7 a.tR b.tI.toNat).fal)))
 | 560 => .bool (Zn (∀ r ∈ a.tR, ∃ b', r = [b'] /\ Zo7 b.tR b'))
 | 561 => .g (.tx (Z7 a.tR b.tI.toNat).txs)
 | 562 => .bool (Zn ([b.tI] ∈ a.tR))
 | 563 => .rows (if Zx a.tM (kc b.tN) = true then c.tR else c.tR ++ [d.tI :: nr b.tN])
 | 564 => .ints (if Zx a.tM (kc b.tN) = true /\ Z3 a.tM b.tN = false then c.tN ++ [d.tI] else c.tN)
 | 580 => .bool (Zn (SrtP a.tR b.tR))
 | 582 => .int (Zd6 (a.tI, b.tI) c.tI d.tI).1
 | 583 => .int (Zd6 (a.tI, b.tI) c.tI d.tI).2
 | 584 => .int (ZGF (ZmU a.tN) b.tN c.tI.toNat).1
 | 585 => .int (ZGF (ZmU a.tN) b.tN c.tI.toNat).2
 | 586 => .bool (Zn (YC (ZCy (ZkM a.tR) b.tM) d.tI (ZmU c.tN)))
 | 587 => .bool (Zn (c.tR.Perm (ZnN (ZkM a.tR) b.tM)))
 | 590 => .int ((ZJW a.tR b.tM c.tN).1 : Nat)
 | 591 => .int (ZJW a.tR b.tM c.tN).2.1
 | 592 => .int (ZJW a.tR b.tM c.tN).2.2
 | 593 => .int ((YW (ZkM a.tR) b.tR (ZmU c.tN) d.tI.toNat).1 : Nat)
 | 594 => .int (YW (ZkM a.tR) b.tR (ZmU c.tN) d.tI.toNat).2.1
 | 595 => .int (YW (ZkM a.tR) b.tR (ZmU c.tN) d.tI.toNat).2.2
 | 596 => .bool (Zn (Zhs c.tM (stF (ZkM a.tR) b.tI.toNat)))
 | 597 => .int (Zke (Z3 d.tM) (ZmU a.tN) b.tR c.tI.toNat).1
 | 598 => .int (Zke (Z3 d.tM) (ZmU a.tN) b.tR c.tI.toNat).2
 | 600 => .rows (Zh0 a.tR)
 | 601 => .rows (Ztl a.tM)
 | 602 => .rows (ZfW (mvF a.tM) b.tR c.tI.toNat)
 | 603 => .rows (finR' a.tR)
 | 604 => .int (Zkc a.tR)
 | 605 => .bool (Zn (ZHr a.tM b.tM c.tR))
 | 610 => .rows ((Zd2 a.tR b.tI.toNat).map Ze2)
 | 611 => .bool (Zn (∀ j : Nat, (j : Int) < c.tI -> Op.bytesLess (txt (a.tR.getD j [])) b.tB = true))
 | 612 => .rows (ZfW (leF a.tR b.tN) c.tR d.tI.toNat)
 | 606 => .bool (Zn (canM a.tM))
 | 620 => .bool (Zn (∀ r ∈ a.tR, 0 <= g0 r))
 | 621 => .bool (Zn (ndP a.tR))
 | 622 => .bool (Zn (a.tR.Perm b.tR /\ ZFI c.tR (ZO d) a.tR))
 | 623 => .bool (Zn (ZKK a.tR b.tR c.tR (ZO d)))
 | 624 => .bool (Zn (ZKX a.tR b.tR c.tR (ZO d)))
 | 630 => .bool (Zn (∀ j : Nat, (j : Int) < c.tI -> Z3 b.tM ((a.tR.getD j []).drop 1) = true))
 | 631 => .bool (Zn (ZLu a.tR b.tR c.tM (ZO d)))
 | 633 => .bool (Zn (∀ t ∈ ZO a, t.rds.length <= 1000000))
 | 632 => .bool (Zn (∀ j : Nat, (j : Int) < d.tI -> okU b.tR (ZO c) (g0 (a.tR.getD 0 [])) ((a.tR.drop 1).getD j [])))
 | 640 => .rows (a.tR.eraseIdx b.tI.toNat)
 | 641 => .ints ((Zm8 c.tR (ZO a) b.tM d.tR).getD [])
 | 642 => .bool (Zm8 c.tR (ZO a) b.tM d.tR).isSome
 | 643 => .bool (Zn (∀ j : Nat, (j : Int) < g0 (d.tR.getD 0 []) -> ZtD c.tR (ZO a) (Zm6 b.tM) (d.tR.drop 1) (ZtB c.tR (ZO a) ((d.tR.drop 1).length - 1)) j = none))
 | 650 => .ints (Ztr a.tN b.tI.toNat)
 | 651 => .bool (Zn (∀ j : Nat, (j : Int) < c.tI -> a.tN.getD j 0 < b.tI))
 | 652 => .bool (Zn (b.tI ∈ a.tN))
 | 653 => .bool (Zn (∀ j : Nat, (j : Int) < c.tI -> a.tN.getD j 0 ≠ b.tI))
 | 654 => .bool (Zn (ZsE a.tR b.tN c.tI))
 | 655 => .bool (Zn (ZOn a.tR b.tN c.tI d.tI))
 | 656 => .bool (Zn (ZMN a.tR b.tN c.tI d.tI))
 | 657 => .ints ((ZAt a.tR b.tN c.tN).getD [])
 | 658 => .bool (ZAt a.tR b.tN c.tN).isSome
 | 659 => .bool (Zn (∀ j : Nat, (j : Int) < d.tI -> ZFG a.tR b.tN c.tN (Znb a.tR b.tN (b.tN.length - c.tN.length - 1)) j = none))
 | 660 => .ints ((orS a.tR).getD [])
 | 661 => .bool (orS a.tR).isSome
 | 662 => .int (orE a.tR)
 | 700 => .bytes (mkL a.tI b.tI.toNat)
 | 701 => .bytes (mrk a.tI)
 | 703 => .bool (Zn (txL a.tR))
 | 705 => .bool (Zn (shT a.tR))
 | _ => .int 0
noncomputable def prd (n : Nat) (w0 : World) (k x : U GG) : Go.Eng.HProp :=
 match n with
 | 100 => Zeq k.tR (ZO x)
 | 101 => ZNN (g0 (k.tR.getD 0 [])) (k.tR.drop 1) (ZO x)
 | 103 => ZsX (g0 (k.tR.getD 0 [])) (k.tR.drop 1)
 | 102 => ZKO (g0 (k.tR.getD 0 [])) (g1 (k.tR.getD 0 [])) (k.tR.drop 1) (ZO x)
 | 110 => prH k.tR x.tR
 | 111 => prO k.tR x.tR
 | 122 => kp42 k.tR
 | 123 => kp43 k.tR
 | 124 => kp46 k.tR x.tR
 | 125 => kp47 k.tR x.tR
 | 126 => kp48 k.tR x.tR
 | 127 => ZC1 k.tR
 | 128 => ZGn k.tR
 | 129 => ZJJ k.tR
 | 130 => ZJf k.tR
 | 133 => Zsq k.tR x.tR
 | 131 => ZDk k.tR
 | 132 => ZGX k.tR
 | _ => emp
noncomputable def sig : Sig GG := { dg := gg0, ch := fun _ => true, usr := usr, prd := prd }
theorem hR : RfSig sig where
 u500 := fun _ _ _ _ => rfl
 u501 := fun _ _ _ _ => rfl
 u502 := fun _ _ _ _ => rfl
 u503 := fun _ _ _ _ => rfl
 u504 := fun _ _ _ _ => rfl
 u505 := fun _ _ _ _ => rfl
 u506 := fun _ _ _ _ => rfl
 u507 := fun _ _ _ _ => rfl
 u508 := fun _ _ _ _ => rfl
 u509 := fun _ _ _ _ => rfl
 u510 := fun _ _ _ _ => rfl
 u511 := fun _ _ _ _ => rfl
 u512 := fun _ _ _ _ => rfl
 u513 := fun _ _ _ _ => rfl
 u514 := fun _ _ _ _ => rfl
 u515 := fun _ _ _ _ => rfl
 u516 := fun _ _ _ _ => rfl
 u517 := fun _ _ _ _ => rfl
 u518 := fun _ _ _ _ => rfl
 u519 := fun _ _ _ _ => rfl
 u520 := fun _ _ _ _ => rfl
 u521 := fun _ _ _ _ => rfl
 u522 := fun _ _ _ _ => rfl
 u524 := fun _ _ _ _ => rfl
 u525 := fun _ _ _ _ => rfl
 u523 := fun _ _ _ _ => rfl
theorem hB : JbSig sig where
 rf := hR
 u530 := fun _ _ _ _ => rfl
 u531 := fun _ _ _ _ => rfl
 u532 := fun _ _ _ _ => rfl
 u533 := fun _ _ _ _ => rfl
 u534 := fun _ _ _ _ => rfl
 u536 := fun _ _ _ _ => rfl
 u535 := fun _ _ _ _ => rfl
theorem hT : JtSig sig where
 jb := hB
 p100 := fun _ _ _ => rfl
 p101 := fun _ _ _ => rfl
 p103 := fun _ _ _ => rfl
 p102 := fun _ _ _ => rfl
 u568 := fun _ _ _ _ => rfl
 u571 := fun _ _ _ _ => rfl
 u569 := fun _ _ _ _ => rfl
 u570 := fun _ _ _ _ => rfl
 u565 := fun _ _ _ _ => rfl
 u566 := fun _ _ _ _ => rfl
 u540 := fun _ _ _ _ => rfl
 u541 := fun _ _ _ _ => rfl
 u542 := fun _ _ _ _ => rfl
 u543 := fun _ _ _ _ => rfl
 u544 := fun _ _ _ _ => rfl
 u545 := fun _ _ _ _ => rfl
 u546 := fun _ _ _ _ => rfl
 u547 := fun _ _ _ _ => rfl
 u548 := fun _ _ _ _ => rfl
 u549 := fun _ _ _ _ => rfl
 u550 := fun _ _ _ _ => rfl
 u551 := fun _ _ _ _ => rfl
 u552 := fun _ _ _ _ => rfl
 u553 := fun _ _ _ _ => rfl
 u554 := fun _ _ _ _ => rfl
 u555 := fun _ _ _ _ => rfl
 u556 := fun _ _ _ _ => rfl
 u557 := fun _ _ _ _ => rfl
 u558 := fun _ _ _ _ => rfl
 u559 := fun _ _ _ _ => rfl
 u560 := fun _ _ _ _ => rfl
 u561 := fun _ _ _ _ => rfl
 u562 := fun _ _ _ _ => rfl
 u563 := fun _ _ _ _ => rfl
 u564 := fun _ _ _ _ => rfl
theorem hJ : JsSig sig where
 jt := hT
 u580 := fun _ _ _ _ => rfl
 u582 := fun _ _ _ _ => rfl
 u583 := fun _ _ _ _ => rfl
 u584 := fun _ _ _ _ => rfl
 u585 := fun _ _ _ _ => rfl
 u586 := fun _ _ _ _ => rfl
 u587 := fun _ _ _ _ => rfl
 u590 := fun _ _ _ _ => rfl
 u591 := fun _ _ _ _ => rfl
 u592 := fun _ _ _ _ => rfl
 u593 := fun _ _ _ _ => rfl
 u594 := fun _ _ _ _ => rfl
 u595 := fun _ _ _ _ => rfl
 u596 := fun _ _ _ _ => rfl
 u597 := fun _ _ _ _ => rfl
 u598 := fun _ _ _ _ => rfl
theorem hF : FiSig sig where
 js := hJ
 p110 := fun _ _ _ => rfl
 p111 := fun _ _ _ => rfl
 u600 := fun _ _ _ _ => rfl
 u601 := fun _ _ _ _ => rfl
 u602 := fun _ _ _ _ => rfl
 u603 := fun _ _ _ _ => rfl
 u604 := fun _ _ _ _ => rfl
 u605 := fun _ _ _ _ => rfl
 u610 := fun _ _ _ _ => rfl
 u611 := fun _ _ _ _ => rfl
 u612 := fun _ _ _ _ => rfl
 u606 := fun _ _ _ _ => rfl
theorem hD : OdSig sig where
 fi := hF
 u620 := fun _ _ _ _ => rfl
 u621 := fun _ _ _ _ => rfl
 u622 := fun _ _ _ _ => rfl
 u623 := fun _ _ _ _ => rfl
 u624 := fun _ _ _ _ => rfl
theorem hO : OfSig sig where
 od := hD
 u630 := fun _ _ _ _ => rfl
 u631 := fun _ _ _ _ => rfl
 u633 := fun _ _ _ _ => rfl
 u632 := fun _ _ _ _ => rfl
theorem hU : OuSig sig where
 ft := hO
 u640 := fun _ _ _ _ => rfl
 u641 := fun _ _ _ _ => rfl
 u642 := fun _ _ _ _ => rfl
 u643 := fun _ _ _ _ => rfl
theorem hG : OrSig sig where
 ou := hU
 u650 := fun _ _ _ _ => rfl
 u651 := fun _ _ _ _ => rfl
 u652 := fun _ _ _ _ => rfl
 u653 := fun _ _ _ _ => rfl
 u654 := fun _ _ _ _ => rfl
 u655 := fun _ _ _ _ => rfl
 u656 := fun _ _ _ _ => rfl
 u657 := fun _ _ _ _ => rfl
 u658 := fun _ _ _ _ => rfl
 u659 := fun _ _ _ _ => rfl
 u660 := fun _ _ _ _ => rfl
 u661 := fun _ _ _ _ => rfl
 u662 := fun _ _ _ _ => rfl
theorem hY : BySig sig where
 fi := hF
 p122 := fun _ _ _ => rfl
 p123 := fun _ _ _ => rfl
 p124 := fun _ _ _ => rfl
 p125 := fun _ _ _ => rfl
 p126 := fun _ _ _ => rfl
 u700 := fun _ _ _ _ => rfl
theorem hK : PbSig sig where
 by' := hY
 p127 := fun _ _ _ => rfl
 p128 := fun _ _ _ => rfl
 p129 := fun _ _ _ => rfl
 p130 := fun _ _ _ => rfl
 p133 := fun _ _ _ => rfl
 u701 := fun _ _ _ _ => rfl
 u703 := fun _ _ _ _ => rfl
theorem hP : PoSig sig where
 pb := hK
 p131 := fun _ _ _ => rfl
 p132 := fun _ _ _ => rfl
theorem hI : JfSig sig where
 po := hP
 u705 := fun _ _ _ _ => rfl
noncomputable def env (b o l c : Int) (L : List (List Int)) (b2 o2 l2 c2 : Int) (L2 : List (List Int)) : Env GG := fun i => match i with
 | 0 => .int b | 1 => .int o | 2 => .int l | 3 => .int c | 4 => .rows L | 5 => .int 0 | 6 => .int b2 | 7 => .int o2 | 8 => .int l2 | 9 => .int c2 | 10 => .rows L2 | _ => .int 0
abbrev V6 (L : List (List Int)) : List Value := L.flatMap (rowVals Zg0)
def Ro (w : World) (b o : Int) (vals : List Value) : Prop := (0 <= b \/ vals = []) /\ ∀ i v, vals[i]? = some v -> b.toNat < w.heap.size /\ w.cell? ⟨b.toNat, o.toNat + i, none⟩ = some v
def ZJj (b o l c : Int) : Value := .slice (if b < 0 then none else some ⟨b.toNat, o.toNat, none⟩) l.toNat c.toNat
theorem walk (b o l c : Int) (L : List (List Int)) (b2 o2 l2 c2 : Int) (L2 : List (List Int)) (w : World) (h0 : 0 <= l /\ l = L.length /\ l <= c /\ l <= 1048576) (hr : Ro w b o (V6 L)) (h2 : 0 <= l2 /\ l2 = L2.length /\ l2 <= c2 /\ l2 <= 1048576) (hr2 : Ro w b2 o2 (V6 L2)) (hs : shT L) (hs2 : shT L2) :
  Calls Tryz.prog 4 #[ZJj b o l c, ZJj b2 o2 l2 c2] w fun e w' => e = .returned (.bool true) /\ Below w.heap.size w w' := by
 have q : ∀ e ∈ ZpS.reqs, (e.den sig (env b o l c L b2 o2 l2 c2 L2)).tP := by
  intro e he
  have he : e ∈ (hQ 0 ++ hQ 6) ++ [usB 705 (rA 4) z0 z0, usB 705 (rA 10) z0 z0] := he
  rcases List.mem_append.1 he with he | he
  ·simp only [hQ, List.cons_append, List.nil_append, List.mem_cons, List.not_mem_nil, or_false] at he
   rcases he with rfl | rfl | rfl | rfl | rfl | rfl | rfl | rfl
   all_goals simp [eLe, Go.Eng.SX.mk2, Go.Eng.SX.den, Go.Eng.ap1, Go.Eng.ap2, ai, rA, Zh, z0, env, U.co]
   all_goals omega
  ·simp only [List.mem_cons, List.not_mem_nil, or_false] at he
   rcases he with rfl | rfl
   ·show Zn (shT L) = true
    rw [Zj]; exact hs
   ·show Zn (shT L2) = true
    rw [Zj]; exact hs2
 have := (ZNl sig hI (ZK1 sig hG)) (fun _ => true) w emp (env b o l c L b2 o2 l2 c2 L2) w [ZJj b o l c, ZJj b2 o2 l2 c2] (by
  show Go.Eng.argsR _ _ [.one (.slice (ai 0) (ai 1) z0 z0 (ai 2) (ai 3) 6), .one (.slice (ai 6) (ai 7) z0 z0 (ai 8) (ai 9) 6)] _
  refine ⟨.inr ?_, .inr ?_, trivial⟩
  all_goals simp [ZJj, Go.Eng.SV.den, Go.Eng.SC.den, Go.Eng.SX.den, ai, z0, env, U.co]) q (by
  obtain ⟨x, hx, hi⟩ := ZqA w
  rw [Go.Eng.emp_star] at hx
  refine ⟨x, ?_, hi⟩
  have e : Go.Eng.hpDen (sig.wc fun _ => true) (env b o l c L b2 o2 l2 c2 L2) w ZpS.pre = Zd (Go.Eng.roDen sig w hE (.int b) (.int o) (.rows L)) (Zd (Go.Eng.roDen sig w hE (.int b2) (.int o2) (.rows L2)) emp) := rfl
  rw [e, Go.Eng.star_assoc, Go.Eng.star_assoc, Go.Eng.roDen, Go.Eng.star_pure, Go.Eng.roDen, Go.Eng.star_pure, Go.Eng.emp_star]
  exact ⟨hr, hr2, hx⟩)
 refine this.mono ?_
 rintro e w' ⟨ρ', v, hx, rfl, hv, hs, hfa⟩
 have hv : v = (Go.Eng.SC.bool (.at .bool 12)).den sig ρ' := Go.Eng.R_one sig ρ' hv
 subst hv
 refine ⟨?_, hs.below⟩
 have h12 : (ρ' 12).toBool = true := hfa (qA 12) (List.mem_singleton.2 rfl)
 show Ending.returned (.bool (ρ' 12).toBool) = _
 rw [h12]
theorem ZpO {H : Type} : ∀ l : List (DataW H), l.length <= Rows.uptoBulkAll l
 | [] => by simp [Rows.uptoBulkAll]
 | d :: r => by
  have h1 : 1 <= Rows.uptoBulk d := by
   cases d with
   | lit l => cases l <;> simp [Rows.uptoBulk]
   | _ => simp [Rows.uptoBulk]
  have := ZpO r
  simp only [Rows.uptoBulkAll, List.length_cons]; omega
theorem ZrE {H : Type} {w : World} {v : Value} {d : DataW H} {b o l c : Int} {n : Nat} {vals : List Value} (h : ZGE w v d b o l c n vals) : l <= Rows.uptoBulk d := by
 rcases h.2.2.2.2.2.2 with ⟨rfl, h⟩ | ⟨ds, sp, rfl, h⟩
 ·simp [Rows.uptoBulk]; omega
 ·have := ZpO ds
  simp only [Rows.uptoBulk]; omega
theorem ZfN {H : Type} : ∀ {l : List (DataW H)} {d : DataW H}, d ∈ l -> Rows.uptoBulk d <= Rows.uptoBulkAll l
 | [], _, h => nomatch h
 | a :: l, d, h => by
  simp only [Rows.uptoBulkAll]
  rcases List.mem_cons.1 h with rfl | h
  ·omega
  ·have := ZfN h; omega
theorem ZFm {H : Type} {d : DataW H} {L : List (List Int)} (h : hapD d L) (hb : Rows.uptoBulk d <= 1048576) : shT L := fun r hr => by
 obtain ⟨ds, sp, parts, rfl, h1, h2, h3⟩ := h r hr
 have b1 := ZfN h1
 have b2 := ZfN h2
 have b3 := ZfN h3
 simp only [Rows.uptoBulk] at b1 b2 b3 hb
 exact ⟨by show (Yc _).length <= _; omega, by show (Yc _).length <= _; omega⟩
theorem laid : laidOutB Tryz.prog = true := by kernel_rfl
set_option maxRecDepth 100000 in
theorem YM (H : Type) (enc : TypeId × Value -> H) (W : World) (base : Nat) (args : Array Value) (ds gs : List (DataW H)) (before : List MemPlace)
  (hval : ∀ (j : Nat) t v, Tryz.f4.params[j]? = some t -> args[j]? = some v -> Value.okWide Tryz.prog W .any base t v)
  (hW : DataW.Whole enc Tryz.prog Tryz.f4.params.toList Rows.judgeFinalsSpec.vars false W args.toList ds gs before) (hk : Rows.uptoSmall H (ds ++ gs) = true) :
  Calls Tryz.prog 4 args W fun e W' => ∃ v, e = .returned v /\ Rows.judgeFinalsSpec.post enc Tryz.prog Tryz.f4 false true false false W args v W' := by
 have hW' := hW
 obtain ⟨p, q, hA0, hV, rfl, hfz, hnd⟩ := hW
 have hA : DataW.TrodAll enc Tryz.prog W 0 (fun _ => true) true Tryz.f4.params.toList args.toList ds p := hA0
 rw [Tryz.params4] at hA hval
 obtain ⟨v0, vs0, d0, ds0, p0, q0, hargs, rfl, rfl, h0, r0⟩ := trodAll_cons hA
 obtain ⟨v1, vs1, d1, ds1, p1, q1, rfl, rfl, rfl, h1, r1⟩ := trodAll_cons r0
 obtain ⟨rfl, rfl, rfl⟩ := trodAll_nil r1
 obtain rfl : args = #[v0, v1] := by cases args; simp_all
 obtain ⟨rfl, rfl⟩ := trodVars_none hV
 have hlt : ∀ x ∈ p0 ++ (p1 ++ []), x.block < W.heap.size := fun x hx => hW'.lt x (List.mem_append_left _ hx)
 have fin : ∀ (e : Ending) (W' : World), (e = .returned (.bool true) /\ Below W.heap.size W W') -> ∃ v, e = .returned v /\ Rows.judgeFinalsSpec.post enc Tryz.prog Tryz.f4 false true false false W #[v0, v1] v W' := by
  rintro e W' ⟨rfl, hb⟩
  clear hA0
  refine ⟨_, rfl, ZiJ (pa := p0 ++ (p1 ++ [])) (pv := []) hW' (fun _ _ _ => (trodAll_cons_mk (shut_bool Tryz.underlying4 _) trodAll_mk0)) ?_ (fun _ _ => rfl) rfl hb
   (ok_one (by kernel_rfl) rfl (okWide_bool_mk Tryz.underlying4 _))⟩
  intro sp hsp
  refine trodAll_cons_mk ?_ (trodAll_cons_mk ?_ trodAll_mk0)
  ·exact WideElems.Trod_stays laid (by kernel_rfl) (of_decide_eq_true (by kernel_rfl)) h0 (fun x hx => hb.same (hlt x (by simp [hx]))) (fun x hx => hsp x (by simp [hx]))
  ·exact WideElems.Trod_stays laid (by kernel_rfl) (of_decide_eq_true (by kernel_rfl)) h1 (fun x hx => hb.same (hlt x (by simp [hx]))) (fun x hx => hsp x (by simp [hx]))
 obtain ⟨b, o, l, c, L, g0, t0⟩ := Zg1 (enc := enc) (W := W) (base := base) (v := v0) (d := d0) (ps := p0) Tryz.underlying22 Tryz.underlying48 (by kernel_rfl) rfl rfl rfl rfl rfl rfl (by kernel_rfl) (by kernel_rfl) (by kernel_rfl) (by kernel_rfl) (by kernel_rfl) (by kernel_rfl)
  Tryz.underlying3 Tryz.underlying3 Tryz.underlying9 Tryz.underlying9 Tryz.underlying4 Tryz.underlying3 (hval 0 22 v0 rfl rfl) h0
 obtain ⟨b2, o2, l2, c2, L2, g1, t1⟩ := Zg1 (enc := enc) (W := W) (base := base) (v := v1) (d := d1) (ps := p1) Tryz.underlying22 Tryz.underlying48 (by kernel_rfl) rfl rfl rfl rfl rfl rfl (by kernel_rfl) (by kernel_rfl) (by kernel_rfl) (by kernel_rfl) (by kernel_rfl) (by kernel_rfl)
  Tryz.underlying3 Tryz.underlying3 Tryz.underlying9 Tryz.underlying9 Tryz.underlying4 Tryz.underlying3 (hval 1 22 v1 rfl rfl) h1
 have hb : Rows.uptoBulkAll ([d0, d1] ++ [] : List (DataW H)) <= 1048576 := of_decide_eq_true hk
 simp only [List.append_nil, Rows.uptoBulkAll] at hb
 have k0 := ZrE g0
 have k1 := ZrE g1
 refine Calls.mono ?_ fin
 have := walk b o l c L b2 o2 l2 c2 L2 W ⟨g0.2.1, g0.2.2.1, g0.2.2.2.1, by omega⟩ g0.2.2.2.2.2.1 ⟨g1.2.1, g1.2.2.1, g1.2.2.2.1, by omega⟩ g1.2.2.2.2.2.1 (ZFm t0 (by omega)) (ZFm t1 (by omega))
 have e0 : v0 = ZJj b o l c := g0.1
 have e1 : v1 = ZJj b2 o2 l2 c2 := g1.1
 rw [e0, e1]
 exact this
set_option maxRecDepth 100000 in
theorem ZOc (os : Os) (started : os.Started) (H : Type) (enc : TypeId × Value -> H) (F : Stop.Interp) :
  ReturnsInHanded {} Tryz.checked os 4 .any ((Rows.OpenSpec.upto Rows.judgeFinalsSpec).pre6 enc Tryz.prog Tryz.f4 Rows.judgeFinalsUptoRow.domain false) (((Rows.OpenSpec.upto Rows.judgeFinalsSpec).at F).post enc Tryz.prog Tryz.f4 false true false false) := by
 refine returnsInHanded_of_cond (C := Tryz.checked) (s := Rows.OpenSpec.upto Rows.judgeFinalsSpec) (k := Rows.uptoSmall) rfl own started (by kernel_rfl) Tryz.func4
  (OpenSpec.witness (enc := enc) (C := Tryz.checked) (s := Rows.OpenSpec.upto Rows.judgeFinalsSpec) (k := Rows.uptoSmall) rfl false ⟨#[], #[.slice none 0 0, .slice none 0 0], []⟩ 8 (by kernel_rfl) (by kernel_rfl) (by kernel_rfl)
   (x := ([.nil, .nil], [], [])) (by kernel_rfl) rfl (by kernel_rfl)) ?_
 intro W base args ds gs before hval hW _ hk _
 exact YM H enc W base args ds gs before hval hW hk
theorem over : Rows.judgeFinalsUptoRow.holds Tryz.pinned (Rows.OpenSpec.upto Rows.judgeFinalsSpec) :=
 OpenClaim.holds_of_cond 4 Tryz.f4 rfl rfl rfl rfl rfl rfl rfl ⟨rfl, rfl, rfl, rfl, rfl⟩ rfl rfl rfl rfl rfl (by kernel_rfl) Tryz.func4 (by kernel_rfl)
  (of_decide_eq_true (by kernel_rfl)) (by unfold Func.isWrapper; first | (rw [if_pos (by decide +kernel)]; kernel_rfl) | (rw [if_neg (by decide +kernel)]; exact ⟨rfl, rfl⟩))
  (fun os started H enc _ F => ZOc os started H enc F)
theorem proved : Rows.JudgeFinalsUptoSaid :=
 over
#print axioms proved
end Go.Proofs.YtidlngnhjffepaaGreat.judgeFinals
