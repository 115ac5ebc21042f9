/- JudgeHonest answers true, and what was handed in stays as it is. No condition. -/
import Derived.Test.YtidlngnhjffepaaPh7
import Derived.Shelf.SlLaysF0
import Derived.Shelf.SlLaysC2
import Derived.Ground.SlsfProg
import Derived.Ground.SlgcProg
import Derived.Test.YtidlngnhjffepaaProg
import Derived.Test.YtidlngnhjffepaaPh6
import Derived.Shelf.SlSortCmp.NoneTotal
import Derived.Shelf.SlicesG.Cmp
import Derived.Test.YtidlngnhjffepaaPh4
import Derived.Deep.Slices
import Derived.Test.YtidlngnhjffepaaRows
import Derived.WalkKit
import Derived.ProofKit
import Derived.OpenShut
import Derived.JoinedCond
import Derived.Carry
set_option linter.unusedSimpArgs false
set_option linter.unusedVariables false
set_option maxRecDepth 20000
namespace Go.Proofs.Ytidlngnhjffepaa
noncomputable section
open Go.Eng
def hwI (A i : SX) : SX := usI 724 A i z0
def hwO (A i : SX) : SX := usB 725 A i z0
def hwK (A i : SX) : SX := usN 723 A i z0
def hnC (k j : Nat) (A i : SX) : List Ch := [tgC A i, .cel (ai 0) 0 (hnS (ai k) (Zg (rA j)) (ai (k + 1)) (ai (k + 2)) (ai (k + 3)) (ai (k + 4)) (hwI A i) (hwO A i) (ai (k + 5)) (Zg (hW 720 A i)) (ai (k + 6)) (ai (k + 7)) (ZbW (hwK A i)) (ai (k + 8))),
 arC (Zbm (ai k) (ai (k + 1)) (ai (k + 2)) (ai (k + 4)) (ai (k + 9)) (ai (k + 3))) (rA j) (rA (j + 1)), .arr hE (ai (k + 5)) (hW 720 A i) (ai (k + 6)), iAr (ai (k + 7)) (hwK A i) (ai (k + 8)), prC (rA (j + 2)) (rA (j + 3))]
def hnF (k j : Nat) (A i : SX) : List SX := [.f2 45 (ai (k + 9)) (usI 727 A i z0)] ++ okS (ai (k + 5)) (Zg (hW 720 A i)) (ai (k + 6)) ++ okS (ai (k + 7)) (ZbW (hwK A i)) (ai (k + 8)) ++ [ZCy (rA j) (hW 721 A i) (rA (j + 2)) (rA (j + 3)), .f2 50 (.f2 45 (ai (k + 9)) z0) (ZCy (rA (j + 1)) (hW 722 A i) (rA (j + 2)) (rA (j + 3)))]
def hnB (A i : SX) : List SX := [eLe (Zg (hW 720 A i)) (.int 900), eLe (ZbW (hwK A i)) (.int 900), eLe z0 (hwI A i), eLe (hwI A i) (.int 900), eLe (Zg (hW 721 A i)) (.int 900), eLe (Zg (hW 722 A i)) (.int 900)]
def ZBS : Ctr := ⟨[.int, .rows, .int, .int, .bytes, .bytes, .int, .int, .int, .int, .int, .int, .int, .int, .int, .int, .rows, .rows, .rows, .rows], [.one (.ptr (ai 0) 0), .agg [.int .i64 (ai 3), .str (bA 4), .str (bA 5)]], hnC 6 16 (rA 1) (ai 2),
 [eLe z0 (ai 2), eLe z0 (ai 0), .f2 45 (ai 3) (nt (rA 1) (ai 2) 0), eqS (bA 4) (.f1 36 (nt (rA 1) (ai 2) 1)), eqS (bA 5) (.f1 36 (nt (rA 1) (ai 2) 2))] ++ hnF 6 16 (rA 1) (ai 2) ++ hnB (rA 1) (ai 2), [.int, .int, .int, .int, .int, .int, .int, .int, .int, .int, .rows, .rows, .rows, .rows], .tup [], hnC 20 30 (rA 1) (ZJO (ai 2)), hnF 20 30 (rA 1) (ZJO (ai 2))⟩
def ZC9 : SX := hwO (rA 1) (ai 2)
def ZKQ : Cx := { specs := [(15, [Zwc]), (16, [ZCn])], anns := [(6, [(6, .iff ZC9), (6, .ghost owC []), (6, .iff (ZcT ZC9)), (6, .ghost ocC []), (500006, .iff ZC9), (500006, .ghost swC []), (500006, .iff (ZcT ZC9)), (500006, .ghost ZJK []), (500011, .ghost bgC []), (15, .iff ZC9), (15, .ghost owC []), (15, .iff (ZcT ZC9)), (15, .ghost ocC []), (15, .ghost oqC [.tmp 6]), (500015, .ghost cqC [.tmp 6]), (500015, .iff ZC9), (500015, .ghost swC []), (500015, .iff (ZcT ZC9)), (500015, .ghost ZJK []), (18, .ghost owC []), (18, .ghost emP2 []), (500021, .ghost Zz7 [.tmp 139, .tmp 142]), (500026, .ghost wrC [.tmp 182]), (31, .ghost gvC []), (500036, .iff ZC9), (500036, .ghost gvC []), (999999, .ghost tgI [])])] }
/-! ### One act, by its kind -/
theorem ZLg {c : Bool} (h : c = true) : 1 = b01 c := by rw [h]; rfl
section
variable {s : Hn} {a : List Int} {kd : Int} {K V : List UInt8}
theorem ZIj (h3 : kd = a.getD 0 0) (k : kd = 1) (o : s.op = false) : s.act a = ⟨s.h ++ [enE 1 (s.who + 1) [] [] false 0], s.d, s.d, s.k, s.who + 1, true⟩ := by
 have e : g0 a = 1 := by show a.getD 0 0 = 1; omega
 unfold Hn.act; rw [if_pos ⟨e, o⟩]
theorem ZGm (h3 : kd = a.getD 0 0) (h4 : K = Yp (a.getD 1 0).toNat) (k : kd = 2) (hk : ¬ K = []) : s.act a = { s with h := s.h ++ [enE 2 s.by K (lkR s.rd K).1 (lkR s.rd K).2 0] } := by
 have e : g0 a = 2 := by show a.getD 0 0 = 2; omega
 have e4 : tx1 a = K := h4.symm
 unfold Hn.act; rw [e4, if_neg (by omega), if_pos ⟨e, hk⟩]
theorem ZJg (h3 : kd = a.getD 0 0) (h4 : K = Yp (a.getD 1 0).toNat) (h5 : V = Yp (a.getD 2 0).toNat) (k : kd = 3) (o : s.op = true) (hk : ¬ K = []) :
  s.act a = { s with h := s.h ++ [enE 3 s.who K V true 0], w := Zfi s.w K [[((Zj K : Nat) : Int), ((Zj V : Nat) : Int)]] } := by
 have e : g0 a = 3 := by show a.getD 0 0 = 3; omega
 have e4 : tx1 a = K := h4.symm
 have e5 : ZL a = V := h5.symm
 unfold Hn.act; rw [e4, e5, if_neg (by omega), if_neg (by omega), if_pos ⟨.inl e, o, hk⟩, if_pos e]
theorem ZIQ (h3 : kd = a.getD 0 0) (h4 : K = Yp (a.getD 1 0).toNat) (k : kd = 4) (o : s.op = true) (hk : ¬ K = []) :
  s.act a = { s with h := s.h ++ [enE 4 s.who K [] false 0], w := Zfi s.w K [] } := by
 have e : g0 a = 4 := by show a.getD 0 0 = 4; omega
 have e4 : tx1 a = K := h4.symm
 unfold Hn.act; rw [e4, if_neg (by omega), if_neg (by omega), if_pos ⟨.inr e, o, hk⟩, if_neg (by omega)]
theorem ZF3 (h3 : kd = a.getD 0 0) (k : kd = 5) (o : s.op = true) : s.act a = s.kp := by
 have e : g0 a = 5 := by show a.getD 0 0 = 5; omega
 unfold Hn.act; rw [if_neg (by omega), if_neg (by omega), if_neg (by omega), if_pos ⟨e, o⟩]
theorem ZHc (h3 : kd = a.getD 0 0) (k : kd = 6) (o : s.op = true) : s.act a = { s with h := s.h ++ [enE 6 s.who [] [] false 0], op := false } := by
 have e : g0 a = 6 := by show a.getD 0 0 = 6; omega
 unfold Hn.act; rw [if_neg (by omega), if_neg (by omega), if_neg (by omega), if_neg (by omega), if_pos ⟨e, o⟩]
theorem ZHA (h3 : kd = a.getD 0 0) (k : kd = 7) (o : s.op = true) : s.act a = s.cr.kp := by
 have e : g0 a = 7 := by show a.getD 0 0 = 7; omega
 unfold Hn.act; rw [if_neg (by omega), if_neg (by omega), if_neg (by omega), if_neg (by omega), if_neg (by omega), if_pos ⟨e, o⟩]
theorem ZIm (h3 : kd = a.getD 0 0) (k : kd < 1 \/ 7 < kd) : s.act a = { s.cr with op := false } := by
 have e : g0 a < 1 \/ 7 < g0 a := by show a.getD 0 0 < 1 \/ 7 < a.getD 0 0; omega
 unfold Hn.act; rw [if_neg (by omega), if_neg (by omega), if_neg (by omega), if_neg (by omega), if_neg (by omega), if_neg (by omega), if_pos e]
theorem ZMN (h3 : kd = a.getD 0 0) (h4 : K = Yp (a.getD 1 0).toNat) (c1 : kd = 1 -> s.op = true) (c2 : kd = 2 -> K = []) (c3 : kd = 3 \/ kd = 4 -> s.op = true -> K = []) (c5 : kd = 5 \/ kd = 6 \/ kd = 7 -> s.op = false) (c8 : 1 <= kd /\ kd <= 7) : s.act a = s := by
 have e : g0 a = kd := h3.symm
 have e4 : tx1 a = K := h4.symm
 unfold Hn.act; rw [e, e4]
 rw [if_neg (fun z => by have := c1 z.1; rw [z.2] at this; cases this), if_neg (fun z => z.2 (c2 z.1)), if_neg (fun z => z.2.2 (c3 z.1 z.2.1)),
  if_neg (fun z => by have := c5 (.inl z.1); rw [z.2] at this; cases this), if_neg (fun z => by have := c5 (.inr (.inl z.1)); rw [z.2] at this; cases this),
  if_neg (fun z => by have := c5 (.inr (.inr z.1)); rw [z.2] at this; cases this), if_neg (by omega)]
variable {R W Q T : List (List Int)} {x n : Int} {c : Bool} {row wd : List Int}
theorem ZMs (o : s.op = true) (hx : x = ((ahN s.w K : Nat) : Int)) (hc : c = isK s.w K) (ht : c = true) (hl : (R.getD x.toNat []).getD 4 0 = ((Yp ((s.w.getD x.toNat []).getD 1 0).toNat).length : Nat)) :
  enE 2 s.by K (lkR s.rd K).1 (lkR s.rd K).2 0 = [2, s.who, ((Zj K : Nat) : Int), ((Zj (List.take ((R.getD x.toNat []).getD 4 0).toNat (Yp ((s.w.getD x.toNat []).getD 1 0).toNat)) : Nat) : Int), (ap1 3 (U.bool c : U GG)).tI, 0] := by
 subst hx
 unfold Hn.by Hn.rd
 rw [if_pos o, if_pos o, ZBv, <- hc, ht, if_pos rfl, hl, ZN0, ZN0, List.take_length]; rfl
theorem ZJ1 (o : s.op = true) (hc : c = isK s.w K) (ht : c = false) : enE 2 s.by K (lkR s.rd K).1 (lkR s.rd K).2 0 = [2, s.who, ((Zj K : Nat) : Int), ((Zj [] : Nat) : Int), (ap1 3 (U.bool c : U GG)).tI, 0] := by
 unfold Hn.by Hn.rd
 rw [if_pos o, if_pos o, ZBv, <- hc, ht, if_neg (fun z => nomatch z)]; rfl
theorem ZLt (o : s.op = false) (hx : x = ((ahN s.d K : Nat) : Int)) (hc : c = isK s.d K) (ht : c = true) (hl : (R.getD x.toNat []).getD 4 0 = ((Yp ((s.d.getD x.toNat []).getD 1 0).toNat).length : Nat)) :
  enE 2 s.by K (lkR s.rd K).1 (lkR s.rd K).2 0 = [2, 0, ((Zj K : Nat) : Int), ((Zj (List.take ((R.getD x.toNat []).getD 4 0).toNat (Yp ((s.d.getD x.toNat []).getD 1 0).toNat)) : Nat) : Int), (ap1 3 (U.bool c : U GG)).tI, 0] := by
 subst hx
 unfold Hn.by Hn.rd
 rw [o, if_neg (fun z => nomatch z), if_neg (fun z => nomatch z), ZBv, <- hc, ht, if_pos rfl, hl, ZN0, ZN0, List.take_length]; rfl
theorem ZLm (o : s.op = false) (hc : c = isK s.d K) (ht : c = false) : enE 2 s.by K (lkR s.rd K).1 (lkR s.rd K).2 0 = [2, 0, ((Zj K : Nat) : Int), ((Zj [] : Nat) : Int), (ap1 3 (U.bool c : U GG)).tI, 0] := by
 unfold Hn.by Hn.rd
 rw [o, if_neg (fun z => nomatch z), if_neg (fun z => nomatch z), ZBv, <- hc, ht, if_neg (fun z => nomatch z)]; rfl
theorem Zml {l : List (List Int)} (hc : c = isK l K) (ht : c = true) : ahN l K < l.length := by
 rw [ht] at hc
 have := hc.symm
 unfold isK at this
 rw [Bool.and_eq_true] at this
 exact of_decide_eq_true this.1
theorem Zj4 : ∀ (n : Nat) (R W : List (List Int)), (R.zip W).take n = (R.take n).zip (W.take n)
 | 0, R, W => by simp
 | n + 1, [], W => by simp
 | n + 1, r :: R, [] => by simp
 | n + 1, r :: R, w :: W => by simp [Zj4 n R W]
theorem Zk0 : ∀ (n : Nat) (R W : List (List Int)), (R.zip W).drop n = (R.drop n).zip (W.drop n)
 | 0, R, W => by simp
 | n + 1, [], W => by simp
 | n + 1, r :: R, [] => by simp
 | n + 1, r :: R, w :: W => by simp [Zk0 n R W]
theorem ZEs (h : ZjR R W Q T) : ZjR R W (Q ++ [row]) (T ++ [wd]) := by
 obtain ⟨h1, h2, U', h3⟩ := h
 refine ⟨h1, by simp [h2], U' ++ [(row, wd)], ?_⟩
 rw [List.zip_append h2, <- ZOh]
 exact h3.append_right _
theorem ZBB {i j : Nat} (h : ZjR R W Q T) (hij : i <= j) : ZjR (R.take i ++ [row] ++ R.drop j) (W.take i ++ [wd] ++ W.drop j) (Q ++ [row]) (T ++ [wd]) := by
 obtain ⟨h1, h2, U', h3⟩ := h
 refine ⟨by simp [h1], by simp [h2], ((R.zip W).take j).drop i ++ U', ?_⟩
 rw [List.zip_append h2, List.zip_append (by simp [h1]), List.zip_append (by simp [h1]), <- Zj4, <- Zk0]
 have e : R.zip W = (R.zip W).take i ++ (((R.zip W).take j).drop i ++ (R.zip W).drop j) := by
  conv => lhs; rw [<- List.take_append_drop j (R.zip W), <- List.take_append_drop i ((R.zip W).take j)]
  rw [List.take_take, Nat.min_eq_left hij, ZOh]
 rw [e] at h3
 generalize (R.zip W).take i = A at *
 generalize ((R.zip W).take j).drop i = M at *
 generalize (R.zip W).drop j = D at *
 refine List.Perm.trans ?_ (h3.append_right [(row, wd)])
 refine List.perm_iff_count.2 fun y => ?_
 simp only [List.count_append, List.zip_cons_cons, List.zip_nil_right]
 omega
theorem ZvK {i j : Nat} (h : ZjR R W Q T) (hij : i <= j) : ZjR (R.take i ++ R.drop j) (W.take i ++ W.drop j) Q T := by
 obtain ⟨h1, h2, U', h3⟩ := h
 refine ⟨by simp [h1], h2, ((R.zip W).take j).drop i ++ U', ?_⟩
 rw [List.zip_append (by simp [h1]), <- Zj4, <- Zk0]
 have e : R.zip W = (R.zip W).take i ++ (((R.zip W).take j).drop i ++ (R.zip W).drop j) := by
  conv => lhs; rw [<- List.take_append_drop j (R.zip W), <- List.take_append_drop i ((R.zip W).take j)]
  rw [List.take_take, Nat.min_eq_left hij, ZOh]
 rw [e] at h3
 generalize (R.zip W).take i = A at *
 generalize ((R.zip W).take j).drop i = M at *
 generalize (R.zip W).drop j = D at *
 refine List.Perm.trans ?_ h3
 refine List.perm_iff_count.2 fun y => ?_
 simp only [List.count_append]
 omega
theorem Zfd {k : Int} : (ap2 118 (U.rows R : U GG) (U.int k)).tR = R.drop k.toNat := rfl
theorem ZK9 (h : ZjR R W Q T) (hx : x = ((ahN W K : Nat) : Int)) (hn : n = (R.length : Nat)) (hc : c = isK W K) (ht : c = true) :
  ZjR (List.take (x + 1).toNat (List.take x.toNat (List.take x.toNat R) ++ [row]) ++ List.take (n - (x + 1)).toNat (ap2 118 (U.rows R : U GG) (U.int (x + 1))).tR) (Zfi W K [wd]) (Q ++ [row]) (T ++ [wd]) := by
 have hl := h.1
 have hlt := Zml hc ht
 subst hx hn
 rw [Zfd, ZAQ, <- hc, ht, if_pos rfl, List.take_take, Nat.min_self, ZN0, show (((ahN W K : Nat) : Int) + 1).toNat = ahN W K + 1 by omega,
  ZN5 (l := List.take (ahN W K) R ++ [row]) (by rw [ZNY, ZNV]; simp only [ZOd, List.length_nil]; omega), ZN5 (l := List.drop _ R) (by rw [ZN7]; omega)]
 exact ZBB h (by omega)
theorem ZKF (h : ZjR R W Q T) (hx : x = ((ahN W K : Nat) : Int)) (hn : n = (R.length : Nat)) (hc : c = isK W K) (ht : c = false) :
  ZjR (List.take (x + 1).toNat (List.take x.toNat (List.take x.toNat R) ++ [row]) ++ List.take (n - x).toNat (ap2 118 (U.rows R : U GG) (U.int x)).tR) (Zfi W K [wd]) (Q ++ [row]) (T ++ [wd]) := by
 have hl := h.1
 have hlt := Zrb W K
 subst hx hn
 rw [Zfd, ZAQ, <- hc, ht, if_neg (fun z => nomatch z), List.take_take, Nat.min_self, ZN0, show (((ahN W K : Nat) : Int) + 1).toNat = ahN W K + 1 by omega,
  ZN5 (l := List.take (ahN W K) R ++ [row]) (by rw [ZNY, ZNV]; simp only [ZOd, List.length_nil]; omega), ZN5 (l := List.drop _ R) (by rw [ZN7]; omega)]
 exact ZBB h (ZNJ _)
theorem ZLJ (h : ZjR R W Q T) (hx : x = ((ahN W K : Nat) : Int)) (hn : n = (R.length : Nat)) (hc : c = isK W K) (ht : c = true) :
  ZjR (List.take x.toNat (List.take x.toNat R) ++ List.take (n - (x + 1)).toNat (ap2 118 (U.rows R : U GG) (U.int (x + 1))).tR) (Zfi W K []) Q T := by
 have hl := h.1
 have hlt := Zml hc ht
 subst hx hn
 rw [Zfd, ZAQ, <- hc, ht, if_pos rfl, List.take_take, Nat.min_self, ZN0, show (((ahN W K : Nat) : Int) + 1).toNat = ahN W K + 1 by omega, ZN5 (l := List.drop _ R) (by rw [ZN7]; omega), List.append_nil]
 exact ZvK h (by omega)
theorem ZM9 (h : ZjR R W Q T) (hx : x = ((ahN W K : Nat) : Int)) (hn : n = (R.length : Nat)) (hc : c = isK W K) (ht : c = false) :
  ZjR (List.take x.toNat (List.take x.toNat R) ++ List.take (n - x).toNat (ap2 118 (U.rows R : U GG) (U.int x)).tR) (Zfi W K []) Q T := by
 have hl := h.1
 have hlt := Zrb W K
 subst hx hn
 rw [Zfd, ZAQ, <- hc, ht, if_neg (fun z => nomatch z), List.take_take, Nat.min_self, ZN0, ZN5 (l := List.drop _ R) (by rw [ZN7]; omega), List.append_nil]
 exact ZvK h (ZNJ _)
end
def ZfD : SX := wR 720 (r 1) (a 2)
def ZiY : SX := .f1 32 ZfD
def ZHC : SX := l z (a 11)
def ZD0 : SX := wN 723 (r 1) (a 2)
def Zox : SX := .f1 30 ZD0
def ZGc : SX := l z (a 13)
def Zob : SX := wR 721 (r 1) (a 2)
def Zx0 : SX := e (a 15) z
def Zmi : SX := wR 722 (r 1) (a 2)
def ZF6 : SX := .us .bool 726 (r 17) Zmi (r 18) (r 19)
def ZcP : SX := d 724 (r 1) (a 2)
def ZAY : SX := .f1 32 Zob
def Zw1 : SX := .f1 32 Zmi
def ZeK : SX := c 725 (r 1) (a 2)
def Zhh : SX := l (.f1 32 (r 17)) (a 10)
def Zid : SX := e (a 9) (.f1 32 (r 17))
def Zzs : SX := l (.f1 31 (b 4)) (a 22)
def ZAS : SX := l z (a 21)
def ZsD : SX := e (a 3) (k 1)
def ZdL : SX := .f1 2 ZeK
def Ztx : SX := .f2 40 ZcP (k 1)
def Zv1 : SX := .f1 23 Ztx
def ZT : SX := l z (a 25)
def ZP : SX := l ZiY ZiY
def ZdN : SX := .f2 40 ZiY (k 1)
def ZO : SX := l (.f2 42 ZdN (k 64)) k1
def Z6 : SX := l ZdN (a 27)
def ZhB : SX := l z (a 26)
def Zmu : SX := e ZdN z
def Z7 : SX := .f2 50 ZhB Zmu
def Zmq : SX := l (.f1 32 (r 16)) (a 7)
def Zf5 : SX := .f2 40 (a 2) (k 1)
def Zsk : SX := d 727 (r 1) Zf5
def ZiI : SX := e (k 1) Zsk
def Zby : SX := wR 720 (r 1) Zf5
def Zdl : SX := .f1 32 Zby
def Ye : SX := l Zdl (a 27)
def ZgM : SX := e Zdl z
def Yf : SX := .f2 50 ZhB ZgM
def ZrU : SX := wN 723 (r 1) Zf5
def Zg4 : SX := .f1 30 ZrU
def ZB : SX := l Zg4 (a 14)
def ZrL : SX := e Zg4 z
def ZA : SX := .f2 50 ZGc ZrL
def Zso : SX := wR 721 (r 1) Zf5
def ZD : SX := .us .bool 726 (r 16) Zso (r 18) (r 19)
def Zho : SX := wR 722 (r 1) Zf5
def ZBp : SX := .f2 50 (.bool false) (.us .bool 726 (r 16) Zho (r 18) (r 19))
def Zz : SX := .f2 155 ZrU ZD0
def ZsS : SX := .f2 122 z (.f1 152 z)
def Zz8 : SX := .f2 122 (.f1 35 (.byt [])) (.f2 122 z ZsS)
def Ztz : SX := .f2 122 (.f1 35 (.byt [])) Zz8
def ZAc : SX := .f2 155 Zby (.f2 121 ZfD (.f2 124 (.f2 122 (k 1) (.f2 122 Ztx Ztz)) (.f1 154 z)))
def Zy : SX := e Zg4 Zox
def ZK : SX := e Zdl ZdN
def ZrP : SX := c 725 (r 1) Zf5
def Zx4 : SX := .f2 155 ZrP (.bool true)
def Zv8 : SX := d 724 (r 1) Zf5
def Zzf : SX := e Zv8 Ztx
def ZsF : SX := e (a 3) (k 2)
def ZsE : SX := .f1 2 ZsF
def ZnZ : SX := e (a 3) (k 3)
def ZhQ : SX := .f1 2 ZnZ
def ZsG : SX := e (a 3) (k 4)
def Zjr : SX := .f1 2 ZsG
def Zs7 : SX := e (a 3) (k 5)
def ZdP : SX := .f1 2 Zs7
def Ztl : SX := e (a 3) (k 6)
def Zc4 : SX := .f1 2 Ztl
def ZsL : SX := e (a 3) (k 7)
def ZcL : SX := .f1 2 ZsL
def Zch : SX := l (k 1) (a 3)
def Zci : SX := t (k 7) (a 3)
def ZbO : SX := e z Zsk
def Zwt : SX := .f2 121 ZfD (.f2 124 (.f2 122 (k 7) (.f2 122 z Ztz)) (.f1 154 z))
def Yq : SX := .f2 155 Zby Zwt
def Yg : SX := .f2 155 ZrP (.bool false)
def Zx : SX := e Zv8 ZcP
def Zb8 : SX := l (a 3) (k 7)
def Z2 : SX := e (a 15) Zsk
def Zce : SX := l Zdl (a 12)
def Zb9 : SX := .f2 50 ZHC ZgM
def Z0 : SX := .f2 50 Zx0 (.us .bool 726 (r 17) Zho (r 18) (r 19))
def Zcb : SX := .f2 155 Zby ZfD
def Zcj : SX := e Zdl ZiY
def YF : SX := .f2 155 ZrP ZeK
def Zca : SX := t (a 3) (k 1)
def Zyz : SX := .f1 2 ZsD
def ZjD : SX := .f1 2 (.f2 150 (b 4) (.byt []))
def ZmV : SX := l z (a 23)
def Zxq : SX := t (a 26) (.f1 32 (r 18))
def ZA8 : SX := .f3 112 (r 17) (a 23) (k 1)
def Zjw : SX := .f3 112 (r 17) (a 23) (k 4)
def ZB3 : SX := .f1 36 (.f3 112 Zmi (a 23) (k 1))
def Zwv : SX := .f1 31 ZB3
def Zez : SX := l z (a 27)
def Zsr : SX := l ZdN (a 29)
def Ztt : SX := l z (a 28)
def Zt9 : SX := .f2 50 Ztt Zmu
def Zjk : SX := l Zdl (a 29)
def Zfg : SX := .f2 50 Ztt ZgM
def ZkM : SX := .f2 122 (.f1 3 (q 24)) ZsS
def Zph : SX := l ZdN (a 28)
def ZpD : SX := .f2 50 Zez Zmu
def Zow : SX := l Zdl (a 28)
def Zo4 : SX := .f2 50 Zez ZgM
def ZoK : SX := .f2 122 (.f1 35 (b 4)) (.f2 122 (.f1 35 (.byt [])) ZkM)
def ZhA : SX := .f1 2 ZjD
def Zo7 : SX := l z (a 9)
def ZoT : SX := l z (a 10)
def Zqt : SX := l (a 23) (a 10)
def Zp0 : SX := l (.f2 42 (a 23) (k 48)) k1
def Zqx : SX := l (a 23) (.f1 32 (r 17))
def Zrr : SX := l (a 23) (a 26)
def ZpT : SX := .f2 50 ZT (e (a 23) z)
def ZaK : SX := .f2 40 (a 23) (k 1)
def Zrg : SX := .f1 23 ZaK
def Zlr : SX := l z ZaK
def ZpQ : SX := l ZaK (a 9)
def Zh1 : SX := l (a 9) (a 10)
def Zra : SX := .f2 115 (r 17) (a 23)
def Zkx : SX := l (a 23) (.f1 32 Zra)
def ZiL : SX := .f2 41 (a 9) ZaK
def ZfJ : SX := .f2 40 (a 23) ZiL
def Zp4 : SX := l z ZiL
def Zpl : SX := l ZiL (.f2 41 (a 10) ZaK)
def Zfy : SX := .f2 40 ZfJ (k 1)
def Zp8 : SX := l Zfy (.f1 32 (r 17))
def ZgT : SX := l z (a 30)
def ZiJ : SX := .f2 115 Zra (a 23)
def ZkW : SX := .f1 32 ZiJ
def Zkq : SX := .f2 115 (.f2 118 (r 17) ZaK) ZiL
def ZpF : SX := .f1 32 Zkq
def ZqG : SX := .f2 155 Zby (.f2 121 ZfD (.f2 124 (.f2 122 (k 4) (.f2 122 ZcP (.f2 122 (.f1 35 (b 4)) Zz8))) (.f1 154 z)))
def Zpi : SX := l (a 23) (a 9)
def Zg6 : SX := .f2 41 (a 9) (a 23)
def ZdX : SX := .f2 40 (a 23) Zg6
def Zqw : SX := l z Zg6
def Zrn : SX := l Zg6 (.f2 41 (a 10) (a 23))
def ZoY : SX := l ZdX (.f1 32 (r 17))
def ZlF : SX := .f2 115 (.f2 118 (r 17) (a 23)) Zg6
def ZpG : SX := .f1 32 ZlF
def ZrE : SX := l Zox (k 1000)
def ZgZ : SX := .f2 40 Zox (k 1)
def ZoM : SX := .us .bool 726 (r 17) Zso (r 18) (r 19)
def ZpS : SX := .f2 155 ZrU (.f2 119 ZD0 (.f2 122 ZcP (.f1 152 z)))
def Zrh : SX := .f2 124 (.f2 122 (k 5) (.f2 122 ZcP (.f2 122 z (.f2 122 z (.f2 122 z (.f2 122 ZgZ (.f1 152 z))))))) (.f1 154 z)
def ZpL : SX := e Zg4 ZgZ
def ZpR : SX := .f2 40 ZiY (k 2)
def Zq7 : SX := l z (a 35)
def ZqA : SX := l ZaK (.f2 40 ZkW (k 1))
def ZoX : SX := l z (a 37)
def ZoS : SX := .f2 124 (.f2 122 (a 27) (.f2 122 (.f1 31 (b 4)) (.f2 122 (a 28) (.f2 122 (a 29) (.f2 122 (.f1 31 (b 5)) (.f2 122 (a 30) (.f1 152 z))))))) (.f1 154 z)
def Zj5 : SX := .f2 115 (.f2 121 ZiJ ZoS) ZaK
def ZpX : SX := .f1 32 Zj5
def Zqz : SX := l Zdl (a 36)
def Zpz : SX := .f2 50 Zq7 ZgM
def ZkI : SX := .f2 121 (r 18) ZoS
def Zlk : SX := .f2 121 (r 19) (.f2 124 (.f2 122 (.f1 35 (b 4)) (.f2 122 (.f1 35 (b 5)) (.f1 152 z))) (.f1 154 z))
def ZpA : SX := .us .bool 726 (r 16) Zso ZkI Zlk
def ZpI : SX := .f2 155 Zby (.f2 121 ZfD (.f2 124 (.f2 122 (k 3) (.f2 122 ZcP (.f2 122 (.f1 35 (b 4)) (.f2 122 (.f1 35 (b 5)) (.f2 122 (k 1) ZsS))))) (.f1 154 z)))
def ZgE : SX := .f2 40 ZdX (k 1)
def Zrk : SX := .f3 112 (r 16) (a 23) (k 1)
def Zfp : SX := .f3 112 (r 16) (a 23) (k 4)
def Zpa : SX := .f1 36 (.f3 112 Zob (a 23) (k 1))
def ZqC : SX := .f1 31 Zpa
def ZNu : VC := i (l z (a 2)) (i (l z (a 0)) (i (e (a 3) (.f3 112 (r 1) (a 2) z)) (i (.f2 155 (b 4) (.f1 36 (.f3 112 (r 1) (a 2) (k 1)))) (i (.f2 155 (b 5) (.f1 36 (.f3 112 (r 1) (a 2) (k 2)))) (i (e (a 15) (d 727 (r 1) (a 2))) (i (l ZiY (a 12)) (i (.f2 50 ZHC (e ZiY z)) (i (l Zox (a 14)) (i (.f2 50 ZGc (e Zox z)) (i (.us .bool 726 (r 16) Zob (r 18) (r 19)) (i (.f2 50 Zx0 ZF6) (i (l ZiY (k 900)) (i (l Zox (k 900)) (i (l z ZcP) (i (l ZcP (k 900)) (i (l ZAY (k 900)) (i (l Zw1 (k 900)) (u 20 .int (i (l z (a 20)) (.and (i ZeK (n (e (a 15) (k 1)) (i Zhh (i Zid (u 21 .int (u 22 .int (i Zzs (i ZAS (n ZF6 (n (l (.f1 32 (r 17)) (k 1000)) (n (e (.f1 32 (r 17)) (a 9)) (u 23 .int (u 24 .bool (i (e (a 23) (d 728 Zmi (b 4))) (i (.f2 48 (q 24) (c 729 Zmi (b 4))) (.and (i ZsD (.and (i ZdL (n Zv1 (u 25 .int (i ZT (n ZP (n ZO (u 26 .int (u 27 .int (i Z6 (i Z7 (n Zx0 (i Zmq (n ZiI (n Ye (n Yf (n ZB (n ZA (n ZD (n ZBp (n Zz (n ZAc (n Zy (n ZK (n Zx4 (n Zzf .tt))))))))))))))))))))))))) (i (.f1 2 ZdL) (.and .tt (i ZsE (.and (i ZhQ (.and .tt (i Zjr (.and .tt (i ZdP (.and .tt (i Zc4 (.and .tt (i ZcL (.and (i Zch (.and (i Zci (u 25 .int (i ZT (n ZP (n ZO (u 26 .int (u 27 .int (i Z6 (i Z7 (n ZbO (n Ye (n Yf (n ZB (n ZA (n ZD (n Zz (n Yq (n Zy (n ZK (n Yg (n Zx .tt))))))))))))))))))))) (i Zb8 (n Z2 (n Zce (n Zb9 (n ZB (n ZA (n ZD (n Z0 (n Zz (n Zcb (n Zy (n Zcj (n YF (n Zx .tt)))))))))))))))) (i Zca (u 25 .int (i ZT (n ZP (n ZO (u 26 .int (u 27 .int (i Z6 (i Z7 (n ZbO (n Ye (n Yf (n ZB (n ZA (n ZD (n Zz (n Yq (n Zy (n ZK (n Yg (n Zx .tt))))))))))))))))))))))))))))))) .tt)))))) (i Zyz (.and (i ZsF (.and (i ZjD (u 25 .int (i ZT (.and (i (q 24) (i Zhh (i Zid (n ZmV (n (t (a 23) (.f1 32 (r 17))) (u 26 .int (i ZhB (i Zxq (i (.us .bool 731 (r 17) (r 18) (a 23) (a 26)) (i (.us .bool 731 Zmi (r 19) (a 23) (a 26)) (i (e (.f1 32 (r 17)) Zw1) (i (e ZA8 (.f1 31 (.f1 36 (.f3 112 Zmi (a 23) z)))) (i (e Zjw Zwv) (i (l ZA8 (.f3 112 (r 17) (a 23) (k 2))) (i (l Zjw (.f3 112 (r 17) (a 23) (k 5))) (i (l z (.f3 112 (r 17) (a 23) z)) (i (l z (.f3 112 (r 17) (a 23) (k 3))) (n (t (a 23) (a 9)) (n (l z Zjw) (n (l Zjw Zwv) (u 27 .int (i Zez (n ZP (n ZO (u 28 .int (u 29 .int (i Zsr (i Zt9 (n Z2 (n Zjk (n Zfg (n ZB (n ZA (n ZD (n Z0 (n Zz (n (.f2 155 Zby (.f2 121 ZfD (.f2 124 (.f2 122 (k 2) (.f2 122 ZcP (.f2 122 (.f1 35 (b 4)) (.f2 122 (.f1 35 (.f2 114 ZB3 Zjw)) ZkM)))) (.f1 154 z)))) (n Zy (n ZK (n YF (n Zx .tt))))))))))))))))))))))))))))))))))))))))) (i (.f1 2 (q 24)) (u 26 .int (i ZhB (n ZP (n ZO (u 27 .int (u 28 .int (i Zph (i ZpD (n Z2 (n Zow (n Zo4 (n ZB (n ZA (n ZD (n Z0 (n Zz (n (.f2 155 Zby (.f2 121 ZfD (.f2 124 (.f2 122 (k 2) (.f2 122 ZcP ZoK)) (.f1 154 z)))) (n Zy (n ZK (n YF (n Zx .tt)))))))))))))))))))))))))) (i ZhA (.and (i ZhQ (.and .tt (i Zjr (.and .tt (i ZdP (.and .tt (i Zc4 (.and .tt (i ZcL (.and (i Zch (.and (i Zci (u 25 .int (i ZT (n ZP (n ZO (u 26 .int (u 27 .int (i Z6 (i Z7 (n ZbO (n Ye (n Yf (n ZB (n ZA (n ZD (n Zz (n Yq (n Zy (n ZK (n Yg (n Zx .tt))))))))))))))))))))) (i Zb8 (n Z2 (n Zce (n Zb9 (n ZB (n ZA (n ZD (n Z0 (n Zz (n Zcb (n Zy (n Zcj (n YF (n Zx .tt)))))))))))))))) (i Zca (u 25 .int (i ZT (n ZP (n ZO (u 26 .int (u 27 .int (i Z6 (i Z7 (n ZbO (n Ye (n Yf (n ZB (n ZA (n ZD (n Zz (n Yq (n Zy (n ZK (n Yg (n Zx .tt))))))))))))))))))))))))))))))) .tt)))) (i ZsE (.and (i ZhQ (.and (i ZsG (.and (i ZeK (.and (i ZjD (i Zhh (i Zid (n Zo7 (n ZoT (n ZmV (n Zqt (n Zp0 (n Zqx (u 25 .int (u 26 .int (i Zrr (i ZpT (.and .tt (i ZhQ (u 27 .int (i Zez (n ZP (n ZO (u 28 .int (u 29 .int (i Zsr (i Zt9 (.and (i (q 24) (n Zrg (n Zlr (n ZpQ (n Zh1 (n Zkx (n (l (.f2 42 ZfJ (k 48)) k1) (n Zp4 (n Zpl (n Zp8 (u 30 .int (u 31 .int (i (l ZfJ (a 31)) (i (.f2 50 ZgT (e ZfJ z)) (n (e ZfJ (.f2 40 ZkW ZpF)) (n ZiI (n Zjk (n Zfg (n ZB (n ZA (n ZD (n (.f2 50 (.bool false) (.us .bool 726 (.f2 121 ZiJ Zkq) Zho (r 18) (r 19))) (n Zz (n ZqG (n Zy (n ZK (n YF (n Zx .tt)))))))))))))))))))))))))))) (i (.f1 2 (q 24)) (n Zpi (n Zh1 (n Zkx (n (l (.f2 42 ZdX (k 48)) k1) (n Zqw (n Zrn (n ZoY (u 30 .int (u 31 .int (i (l ZdX (a 31)) (i (.f2 50 ZgT (e ZdX z)) (n (e ZdX (.f2 40 ZkW ZpG)) (n ZiI (n Zjk (n Zfg (n ZB (n ZA (n ZD (n (.f2 50 (.bool false) (.us .bool 726 (.f2 121 ZiJ ZlF) Zho (r 18) (r 19))) (n Zz (n ZqG (n Zy (n ZK (n YF (n Zx .tt)))))))))))))))))))))))))))))))))))))))))))))))))) (i ZhA (.and .tt (i ZdP (.and .tt (i Zc4 (.and .tt (i ZcL (.and (i Zch (.and (i Zci (u 25 .int (i ZT (n ZP (n ZO (u 26 .int (u 27 .int (i Z6 (i Z7 (n ZbO (n Ye (n Yf (n ZB (n ZA (n ZD (n Zz (n Yq (n Zy (n ZK (n Yg (n Zx .tt))))))))))))))))))))) (i Zb8 (n Z2 (n Zce (n Zb9 (n ZB (n ZA (n ZD (n Z0 (n Zz (n Zcb (n Zy (n Zcj (n YF (n Zx .tt)))))))))))))))) (i Zca (u 25 .int (i ZT (n ZP (n ZO (u 26 .int (u 27 .int (i Z6 (i Z7 (n ZbO (n Ye (n Yf (n ZB (n ZA (n
 ZD (n Zz (n Yq (n Zy (n ZK (n Yg (n Zx .tt))))))))))))))))))))))))))))))) .tt)) (i Zjr (.and (i Zs7 (.and (i ZeK (n (l ZiY (k 1000)) (n ZrE (u 25 .int (u 26 .int (u 27 .int (u 28 .int (i Zid (i Zhh (i ZT (i Zez (i (l ZdN (a 26)) (i (l ZgZ (a 28)) (n ZbO (n (l Zdl (a 26)) (n (.f2 50 ZT ZgM) (n (l Zg4 (a 28)) (n (.f2 50 Zez ZrL) (n ZoM (n ZpS (n (.f2 155 Zby (.f2 121 ZfD Zrh)) (n ZpL (n ZK (n Yg (n Zx .tt))))))))))))))))))))))))) .tt)) (i ZdP (.and (i Ztl (.and (i ZeK (u 25 .int (i ZT (n ZP (n ZO (u 26 .int (u 27 .int (i Z6 (i Z7 (n ZbO (n Ye (n Yf (n ZB (n ZA (n ZD (n Zz (n (.f2 155 Zby (.f2 121 ZfD (.f2 124 (.f2 122 (k 6) (.f2 122 ZcP Ztz)) (.f1 154 z)))) (n Zy (n ZK (n Yg (n Zx .tt))))))))))))))))))))) .tt)) (i Zc4 (.and (i ZsL (.and (i ZeK (u 25 .int (i ZT (n ZP (n ZO (u 26 .int (u 27 .int (i Z6 (i Z7 (n (l ZdN (k 1000)) (n ZrE (u 28 .int (u 29 .int (u 30 .int (u 31 .int (i Zid (i Zhh (i Ztt (i ZgT (i (l ZpR (a 29)) (i (l ZgZ (a 31)) (n ZbO (n Zjk (n Zfg (n (l Zg4 (a 31)) (n (.f2 50 ZgT ZrL) (n ZoM (n ZpS (n (.f2 155 Zby (.f2 121 Zwt Zrh)) (n ZpL (n (e Zdl ZpR) (n Yg (n Zx .tt))))))))))))))))))))))))))))))))) .tt)) (i ZcL (.and (i Zch (.and (i Zci (u 25 .int (i ZT (n ZP (n ZO (u 26 .int (u 27 .int (i Z6 (i Z7 (n ZbO (n Ye (n Yf (n ZB (n ZA (n ZD (n Zz (n Yq (n Zy (n ZK (n Yg (n Zx .tt))))))))))))))))))))) (i Zb8 (n Z2 (n Zce (n Zb9 (n ZB (n ZA (n ZD (n Z0 (n Zz (n Zcb (n Zy (n Zcj (n YF (n Zx .tt)))))))))))))))) (i Zca (u 25 .int (i ZT (n ZP (n ZO (u 26 .int (u 27 .int (i Z6 (i Z7 (n ZbO (n Ye (n Yf (n ZB (n ZA (n ZD (n Zz (n Yq (n Zy (n ZK (n Yg (n Zx .tt))))))))))))))))))))))))))))))) (i ZnZ (.and (i ZeK (.and (i ZjD (i Zhh (i Zid (n Zo7 (n ZoT (n ZmV (n Zqt (n Zp0 (n Zqx (u 25 .int (u 26 .int (i Zrr (i ZpT (.and (i ZnZ (u 27 .int (u 28 .int (i (l (.f1 31 (b 4)) (a 28)) (i Zez (u 29 .int (u 30 .int (i (l (.f1 31 (b 5)) (a 30)) (i (l z (a 29)) (u 31 .int (i (l z (a 31)) (n Zkx (n (l (.f2 42 ZaK (k 48)) k1) (u 32 .int (u 33 .int (i (l ZaK (a 33)) (i (.f2 50 (l z (a 32)) (e ZaK z)) (n (e (.f1 31 (b 4)) (.f1 31 (b 4))) (n (e (.f1 31 (b 5)) (.f1 31 (b 5))) (u 34 .int (i (l z (a 34)) (n ZP (n ZO (u 35 .int (u 36 .int (i (l ZdN (a 36)) (i (.f2 50 Zq7 Zmu) (.and (i (q 24) (n Zrg (n Zlr (n ZpQ (n Zh1 (n ZqA (n (l (.f2 42 Zfy (k 48)) k1) (n Zp4 (n Zpl (n Zp8 (u 37 .int (u 38 .int (i (l Zfy (a 38)) (i (.f2 50 ZoX (e Zfy z)) (n (e Zfy (.f2 40 ZpX ZpF)) (n ZiI (n Zqz (n Zpz (n ZB (n ZA (n ZpA (n (.f2 50 (.bool false) (.us .bool 726 (.f2 121 Zj5 Zkq) Zho ZkI Zlk)) (n Zz (n ZpI (n Zy (n ZK (n YF (n Zx .tt)))))))))))))))))))))))))))) (i (.f1 2 (q 24)) (n Zpi (n Zh1 (n Zlr (n ZqA (n (l (.f2 42 ZgE (k 48)) k1) (n Zqw (n Zrn (n ZoY (u 37 .int (u 38 .int (i (l ZgE (a 38)) (i (.f2 50 ZoX (e ZgE z)) (n (e ZgE (.f2 40 ZpX ZpG)) (n ZiI (n Zqz (n Zpz (n ZB (n ZA (n ZpA (n (.f2 50 (.bool false) (.us .bool 726 (.f2 121 Zj5 ZlF) Zho ZkI Zlk)) (n Zz (n ZpI (n Zy (n ZK (n YF (n Zx .tt))))))))))))))))))))))))))))))))))))))))))))))))))))))) .tt)))))))))))))) (i ZhA (.and .tt (i ZdP (.and .tt (i Zc4 (.and .tt (i ZcL (.and (i Zch (.and (i Zci (u 25 .int (i ZT (n ZP (n ZO (u 26 .int (u 27 .int (i Z6 (i Z7 (n ZbO (n Ye (n Yf (n ZB (n ZA (n ZD (n Zz (n Yq (n Zy (n ZK (n Yg (n Zx .tt))))))))))))))))))))) (i Zb8 (n Z2 (n Zce (n Zb9 (n ZB (n ZA (n ZD (n Z0 (n Zz (n Zcb (n Zy (n Zcj (n YF (n Zx .tt)))))))))))))))) (i Zca (u 25 .int (i ZT (n ZP (n ZO (u 26 .int (u 27 .int (i Z6 (i Z7 (n ZbO (n Ye (n Yf (n ZB (n ZA (n ZD (n Zz (n Yq (n Zy (n ZK (n Yg (n Zx .tt))))))))))))))))))))))))))))))) .tt)))))))))))))))))))))) (i ZdL (n Zx0 (i Zmq (u 21 .int (u 22 .int (i Zzs (i ZAS (n (l (.f1 32 (r 16)) (k 1000)) (u 23 .int (u 24 .bool (i (e (a 23) (d 728 Zob (b 4))) (i (.f2 48 (q 24) (c 729 Zob (b 4))) (.and (i ZsD (.and (i ZdL (n Zv1 (u 25 .int (i ZT (n ZP (n ZO (u 26 .int (u 27 .int (i Z6 (i Z7 (i Zmq (n ZiI (n Ye (n Yf (n ZB (n ZA (n ZD (n ZBp (n Zz (n ZAc (n Zy (n ZK (n Zx4 (n Zzf .tt)))))))))))))))))))))))) .tt)) (i Zyz (.and (i ZsF (.and (i ZjD (u 25 .int (i ZT (.and (i (q 24) (i Zmq (n ZmV (n (t (a 23) (.f1 32 (r 16))) (u 26 .int (i ZhB (i Zxq (i (.us .bool 731 (r 16) (r 18) (a 23) (a 26)) (i (.us .bool 731 Zob (r 19) (a 23) (a 26)) (i (e (.f1 32 (r 16)) ZAY) (i (e Zrk (.f1 31 (.f1 36 (.f3 112 Zob (a 23) z)))) (i (e Zfp ZqC) (i (l Zrk (.f3 112 (r 16) (a 23) (k 2))) (i (l Zfp (.f3 112 (r 16) (a 23) (k 5))) (i (l z (.f3 112 (r 16) (a 23) z)) (i (l z (.f3 112 (r 16) (a 23) (k 3))) (n (l z Zfp) (n (l Zfp ZqC) (u 27 .int (i Zez (n ZP (n ZO (u 28 .int (u 29 .int (i Zsr (i Zt9 (n Z2 (n Zjk (n Zfg (n ZB (n ZA (n ZD (n Z0 (n Zz (n (.f2 155 Zby (.f2 121 ZfD (.f2 124 (.f2 122 (k 2) (.f2 122 z (.f2 122 (.f1 35 (b 4)) (.f2 122 (.f1 35 (.f2 114 Zpa Zfp)) ZkM)))) (.f1 154 z)))) (n Zy
 (n ZK (n YF (n Zx .tt))))))))))))))))))))))))))))))))))))))) (i (.f1 2 (q 24)) (u 26 .int (i ZhB (n ZP (n ZO (u 27 .int (u 28 .int (i Zph (i ZpD (n Z2 (n Zow (n Zo4 (n ZB (n ZA (n ZD (n Z0 (n Zz (n (.f2 155 Zby (.f2 121 ZfD (.f2 124 (.f2 122 (k 2) (.f2 122 z ZoK)) (.f1 154 z)))) (n Zy (n ZK (n YF (n Zx .tt)))))))))))))))))))))))))) (i ZhA (.and (i ZhQ (.and .tt (i Zjr (.and .tt (i ZdP (.and .tt (i Zc4 (.and .tt (i ZcL (.and (i Zch (.and (i Zci (u 25 .int (i ZT (n ZP (n ZO (u 26 .int (u 27 .int (i Z6 (i Z7 (n Z2 (n Ye (n Yf (n ZB (n ZA (n ZD (n Z0 (n Zz (n Yq (n Zy (n ZK (n Yg (n Zx .tt)))))))))))))))))))))) (i Zb8 (n Z2 (n Zce (n Zb9 (n ZB (n ZA (n ZD (n Z0 (n Zz (n Zcb (n Zy (n Zcj (n YF (n Zx .tt)))))))))))))))) (i Zca (u 25 .int (i ZT (n ZP (n ZO (u 26 .int (u 27 .int (i Z6 (i Z7 (n Z2 (n Ye (n Yf (n ZB (n ZA (n ZD (n Z0 (n Zz (n Yq (n Zy (n ZK (n Yg (n Zx .tt)))))))))))))))))))))))))))))))) .tt)))) (i ZsE (.and (i ZhQ (.and (i ZsG (.and .tt (i ZdL (.and .tt (i ZdP (.and .tt (i Zc4 (.and .tt (i ZcL (.and (i Zch (.and (i Zci (u 25 .int (i ZT (n ZP (n ZO (u 26 .int (u 27 .int (i Z6 (i Z7 (n Z2 (n Ye (n Yf (n ZB (n ZA (n ZD (n Z0 (n Zz (n Yq (n Zy (n ZK (n Yg (n Zx .tt)))))))))))))))))))))) (i Zb8 (n Z2 (n Zce (n Zb9 (n ZB (n ZA (n ZD (n Z0 (n Zz (n Zcb (n Zy (n Zcj (n YF (n Zx .tt)))))))))))))))) (i Zca (u 25 .int (i ZT (n ZP (n ZO (u 26 .int (u 27 .int (i Z6 (i Z7 (n Z2 (n Ye (n Yf (n ZB (n ZA (n ZD (n Z0 (n Zz (n Yq (n Zy (n ZK (n Yg (n Zx .tt)))))))))))))))))))))))))))))))) (i Zjr (.and (i Zs7 (.and .tt (i ZdL (.and .tt (i Zc4 (.and .tt (i ZcL (.and (i Zch (.and (i Zci (u 25 .int (i ZT (n ZP (n ZO (u 26 .int (u 27 .int (i Z6 (i Z7 (n Z2 (n Ye (n Yf (n ZB (n ZA (n ZD (n Z0 (n Zz (n Yq (n Zy (n ZK (n Yg (n Zx .tt)))))))))))))))))))))) (i Zb8 (n Z2 (n Zce (n Zb9 (n ZB (n ZA (n ZD (n Z0 (n Zz (n Zcb (n Zy (n Zcj (n YF (n Zx .tt)))))))))))))))) (i Zca (u 25 .int (i ZT (n ZP (n ZO (u 26 .int (u 27 .int (i Z6 (i Z7 (n Z2 (n Ye (n Yf (n ZB (n ZA (n ZD (n Z0 (n Zz (n Yq (n Zy (n ZK (n Yg (n Zx .tt)))))))))))))))))))))))))))))) (i ZdP (.and (i Ztl (.and .tt (i ZdL (.and .tt (i ZcL (.and (i Zch (.and (i Zci (u 25 .int (i ZT (n ZP (n ZO (u 26 .int (u 27 .int (i Z6 (i Z7 (n Z2 (n Ye (n Yf (n ZB (n ZA (n ZD (n Z0 (n Zz (n Yq (n Zy (n ZK (n Yg (n Zx .tt)))))))))))))))))))))) (i Zb8 (n Z2 (n Zce (n Zb9 (n ZB (n ZA (n ZD (n Z0 (n Zz (n Zcb (n Zy (n Zcj (n YF (n Zx .tt)))))))))))))))) (i Zca (u 25 .int (i ZT (n ZP (n ZO (u 26 .int (u 27 .int (i Z6 (i Z7 (n Z2 (n Ye (n Yf (n ZB (n ZA (n ZD (n Z0 (n Zz (n Yq (n Zy (n ZK (n Yg (n Zx .tt)))))))))))))))))))))))))))) (i Zc4 (.and (i ZsL (.and .tt (i ZdL (.and (i Zch (.and (i Zci (u 25 .int (i ZT (n ZP (n ZO (u 26 .int (u 27 .int (i Z6 (i Z7 (n Z2 (n Ye (n Yf (n ZB (n ZA (n ZD (n Z0 (n Zz (n Yq (n Zy (n ZK (n Yg (n Zx .tt)))))))))))))))))))))) (i Zb8 (n Z2 (n Zce (n Zb9 (n ZB (n ZA (n ZD (n Z0 (n Zz (n Zcb (n Zy (n Zcj (n YF (n Zx .tt)))))))))))))))) (i Zca (u 25 .int (i ZT (n ZP (n ZO (u 26 .int (u 27 .int (i Z6 (i Z7 (n Z2 (n Ye (n Yf (n ZB (n ZA (n ZD (n Z0 (n Zz (n Yq (n Zy (n ZK (n Yg (n Zx .tt)))))))))))))))))))))))))) (i ZcL (.and (i Zch (.and (i Zci (u 25 .int (i ZT (n ZP (n ZO (u 26 .int (u 27 .int (i Z6 (i Z7 (n Z2 (n Ye (n Yf (n ZB (n ZA (n ZD (n Z0 (n Zz (n Yq (n Zy (n ZK (n Yg (n Zx .tt)))))))))))))))))))))) (i Zb8 (n Z2 (n Zce (n Zb9 (n ZB (n ZA (n ZD (n Z0 (n Zz (n Zcb (n Zy (n Zcj (n YF (n Zx .tt)))))))))))))))) (i Zca (u 25 .int (i ZT (n ZP (n ZO (u 26 .int (u 27 .int (i Z6 (i Z7 (n Z2 (n Ye (n Yf (n ZB (n ZA (n ZD (n Z0 (n Zz (n Yq (n Zy (n ZK (n Yg (n Zx .tt)))))))))))))))))))))))))))))))) (i ZnZ (.and .tt (i ZdL (.and .tt (i ZdP (.and .tt (i Zc4 (.and .tt (i ZcL (.and (i Zch (.and (i Zci (u 25 .int (i ZT (n ZP (n ZO (u 26 .int (u 27 .int (i Z6 (i Z7 (n Z2 (n Ye (n Yf (n ZB (n ZA (n ZD (n Z0 (n Zz (n Yq (n Zy (n ZK (n Yg (n Zx .tt)))))))))))))))))))))) (i Zb8 (n Z2 (n Zce (n Zb9 (n ZB (n ZA (n ZD (n Z0 (n Zz (n Zcb (n Zy (n Zcj (n YF (n Zx .tt)))))))))))))))) (i Zca (u 25 .int (i ZT (n ZP (n ZO (u 26 .int (u 27 .int (i Z6 (i Z7 (n Z2 (n Ye (n Yf (n ZB (n ZA (n ZD (n Z0 (n Zz (n Yq (n Zy (n ZK (n Yg (n Zx .tt)))))))))))))))))))))))))))))))))))))))))))))))))))))))))))))))))))))
theorem ZNk : Zcl Try.prog ZKQ 12 6 ZBS = ZNu := by kernel_rfl
set_option maxHeartbeats 4000000 in
theorem ZMO (S : Sig GG) (hS : HnSig S) : ZR S Try.prog 6 ZBS := by
 refine Zo S (C := ZKQ) (fuel := 12) (YV ⟨Zm (by decide) (ZMc S hS), Zm (by decide) (ZNj S hS), trivial⟩ ⟨⟨trivial, ⟨by decide, ZG7 S hS⟩, trivial, ⟨by decide, ZKJ S hS⟩, trivial, ⟨by decide, ZJ7 S hS⟩, trivial, ⟨by decide, ZFv S hS⟩, ⟨by decide, bg_gh S hS⟩, trivial, ⟨by decide, ZG7 S hS⟩, trivial, ⟨by decide, ZKJ S hS⟩, ⟨by decide, ZHe S hS⟩, ⟨by decide, ZHF S hS⟩, trivial, ⟨by decide, ZJ7 S hS⟩, trivial, ⟨by decide, ZFv S hS⟩, ⟨by decide, ZG7 S hS⟩, ⟨by decide, ZIh S⟩, ⟨by decide, ZFi S hS.ib.og.ou.ft.od.fi⟩, ⟨by decide, wr_gh S hS⟩, ⟨by decide, ZK1 S hS⟩, trivial, ⟨by decide, ZK1 S hS⟩, ⟨by decide, ZNc S hS⟩, trivial⟩, trivial⟩ trivial) fun ρ => ?_
 rw [ZNk]
 simp only [ZNu, ZfD, ZiY, ZHC, ZD0, Zox, ZGc, Zob, Zx0, Zmi, ZF6, ZcP, ZAY, Zw1, ZeK, Zhh, Zid, Zzs, ZAS, ZsD, ZdL, Ztx, Zv1, ZT, ZP, ZdN, ZO, Z6, ZhB, Zmu, Z7, Zmq, Zf5, Zsk, ZiI, Zby, Zdl, Ye, ZgM, Yf, ZrU, Zg4, ZB, ZrL, ZA, Zso, ZD, Zho, ZBp, Zz, ZsS, Zz8, Ztz, ZAc, Zy, ZK, ZrP, Zx4, Zv8, Zzf, ZsF, ZsE, ZnZ, ZhQ, ZsG, Zjr, Zs7, ZdP, Ztl, Zc4, ZsL, ZcL, Zch, Zci, ZbO, Zwt, Yq, Yg, Zx, Zb8, Z2, Zce, Zb9, Z0, Zcb, Zcj, YF, Zca, Zyz, ZjD, ZmV, Zxq, ZA8, Zjw, ZB3, Zwv, Zez, Zsr, Ztt, Zt9, Zjk, Zfg, ZkM, Zph, ZpD, Zow, Zo4, ZoK, ZhA, Zo7, ZoT, Zqt, Zp0, Zqx, Zrr, ZpT, ZaK, Zrg, Zlr, ZpQ, Zh1, Zra, Zkx, ZiL, ZfJ, Zp4, Zpl, Zfy, Zp8, ZgT, ZiJ, ZkW, Zkq, ZpF, ZqG, Zpi, Zg6, ZdX, Zqw, Zrn, ZoY, ZlF, ZpG, ZrE, ZgZ, ZoM, ZpS, Zrh, ZpL, ZpR, Zq7, ZqA, ZoX, ZoS, Zj5, ZpX, Zqz, Zpz, ZkI, Zlk, ZpA, ZpI, ZgE, Zrk, Zfp, Zpa, ZqC, hS.u720, hS.u721, hS.u722, hS.u723, hS.u724, hS.u725, hS.u726, hS.u727, hS.u728, hS.u729, hS.u731, ZY, ZN0, VC.den, SX.den, Env.upd, ZwX, beq_iff_eq, ZNS, beq_eq_false_iff_ne, ne_eq, ZNR, ZNQ, Int.reduceToNat, Nat.reduceEqDiff, reduceIte, sB]
 have e : 0 <= (ρ 2).tI -> Zef (ρ 1).tR ((ρ 2).tI + 1).toNat = (Zef (ρ 1).tR (ρ 2).tI.toNat).act ((ρ 1).tR.getD (ρ 2).tI.toNat []) := fun h => by
  rw [show ((ρ 2).tI + 1).toNat = (ρ 2).tI.toNat + 1 by omega]; rfl
 intro h1
 simp only [e h1]
 clear e
 generalize Zef (ρ 1).tR (ρ 2).tI.toNat = s
 generalize (ρ 1).tR.getD (ρ 2).tI.toNat [] = a
 intro h2 h3 h4 h5 h6 h7 h8 h9 h10 h11 h12 h13 h14 h15 h16 h17 h18
 have hW : s.op = true -> ZjR (ρ 17).tR s.w (ρ 18).tR (ρ 19).tR := fun z => by
  rw [z] at h6
  have h6 : (ρ 15).tI = 1 := h6
  exact h12.resolve_left (by omega)
 have hO : s.op = false -> (ρ 15).tI = 0 := fun z => by rw [z] at h6; exact h6
 have hO1 : s.op = true -> (ρ 15).tI = 1 := fun z => by rw [z] at h6; exact h6
 have hA1 := Zrb s.w (ρ 4).tB
 have hA2 := Zrb s.d (ρ 4).tB
 have hD := h11.1
 repeat' (first | exact trivial | with_reducible apply And.intro | intro _)
 all_goals first
  | omega
  | assumption
  | exact hW (by assumption)
  | (have w1 := (hW (by assumption)).1; omega)
  | (have w1 := (hW (by assumption)).1; have w2 := Zml (by assumption) (by assumption); omega)
  | (have w2 := Zml (by assumption) (by assumption); omega)
  | (have w1 := (hW (by assumption)).1; simp only [Zfd, ZNY, ZNV, ZN7, ZOd, List.length_nil]; omega)
  | (have w1 := (hW (by assumption)).1; have w2 := Zml (by assumption) (by assumption); simp only [Zfd, ZNY, ZNV, ZN7, ZOd, List.length_nil]; omega)
  | exact hO (by assumption)
  | exact hO1 (by assumption)
  | (rw [ZIj h3 (by assumption) (by assumption)] <;> first | rfl | assumption | exact .inr h11 | (simp only [ZNY, ZOd, List.length_nil]; omega))
  | (rw [ZGm h3 h4 (by assumption) (by assumption)] <;> first | rfl | assumption | exact congrArg (fun z => s.h ++ [z]) (ZMs (by assumption) (by assumption) (by assumption) (by assumption) (by assumption)) | exact congrArg (fun z => s.h ++ [z]) (ZJ1 (by assumption) (by assumption) (by assumption)) | exact congrArg (fun z => s.h ++ [z]) (ZLt (by assumption) (by assumption) (by assumption) (by assumption) (by assumption)) | exact congrArg (fun z => s.h ++ [z]) (ZLm (by assumption) (by assumption) (by assumption)) | (simp only [ZNY, ZOd, List.length_nil]; omega))
  | (rw [ZJg h3 h4 h5 (by assumption) (by assumption) (by assumption)] <;> first | exact ZLg (by assumption) | rfl | assumption | exact ZEs h11 | exact .inr (ZK9 (hW (by assumption)) (by assumption) (by assumption) (by assumption) (by assumption)) | exact .inr (ZKF (hW (by assumption)) (by assumption) (by assumption) (by assumption) (by assumption)) | (simp only [ZNY, ZOd, List.length_nil]; omega))
  | (rw [ZIQ h3 h4 (by assumption) (by assumption) (by assumption)] <;> first | exact ZLg (by assumption) | rfl | assumption | exact .inr (ZLJ (hW (by assumption)) (by assumption) (by assumption) (by assumption) (by assumption)) | exact .inr (ZM9 (hW (by assumption)) (by assumption) (by assumption) (by assumption) (by assumption)) | (simp only [ZNY, ZOd, List.length_nil]; omega))
  | (rw [ZF3 h3 (by assumption) (by assumption)] <;> (unfold Hn.kp; first | rfl | assumption | exact hW (by assumption) | (simp only [ZNY, ZOd, List.length_nil]; omega)))
  | (rw [ZHc h3 (by assumption) (by assumption)] <;> first | rfl | assumption | (simp only [ZNY, ZOd, List.length_nil]; omega))
  | (rw [ZHA h3 (by assumption) (by assumption)] <;> (unfold Hn.kp Hn.cr; first | rfl | assumption | exact hW (by assumption) | (simp only [ZNY, ZOd, List.length_nil]; omega)))
  | (rw [ZIm h3 (by omega)] <;> (unfold Hn.cr; first | rfl | assumption | exact hO (by assumption) | (simp only [ZNY, ZOd, List.length_nil]; omega)))
  | (rw [ZMN h3 h4 (fun z => by first | assumption | omega) (fun z => by first | assumption | omega) (fun z z2 => by first | assumption | omega | simp_all) (fun z => by first | assumption | omega) (by omega)] <;> first | rfl | assumption)
end
end Go.Proofs.Ytidlngnhjffepaa
namespace Go.Proofs
open Go.Shelf
def Try.sortEn_ren : Go.Shelf.Ren := ⟨fun | 6 => 20 | 14 => 37 | 15 => 38 | 20 => 51 | 21 => 52 | 22 => 53 | 23 => 54 | 24 => 55 | 25 => 56 | 26 => 57 | 27 => 58 | 28 => 59 | 29 => 60 | 46 => 67 | 47 => 68 | 48 => 69 | 49 => 70 | 50 => 71 | 57 => 90 | n => n, fun | 24 => 65 | 0 => 0 | 3 => 3 | 4 => 4 | 5 => 5 | 9 => 9 | 22 => 59 | 25 => 73 | 39 => 94 | 45 => 109 | 46 => 110 | 50 => 52 | 53 => 116 | 55 => 118 | 66 => 125 | 70 => 129 | 76 => 143 | 77 => 144 | n => n, fun | n => n⟩
theorem Try.sortEn : Go.Proofs.SlLaysF0.n6 Try.prog Try.sortEn_ren := {
 mixed := by kernel_rfl
 f6 := ⟨Try.f20.name, by decide, Try.func20.trans (congrArg some (by kernel_rfl))⟩
 f14 := ⟨Try.f37.name, by decide, Try.func37.trans (congrArg some (by kernel_rfl))⟩
 f15 := Try.func38.trans (congrArg some (by kernel_rfl))
 f20 := ⟨Try.f51.name, by decide, Try.func51.trans (congrArg some (by kernel_rfl))⟩
 f21 := ⟨Try.f52.name, by decide, Try.func52.trans (congrArg some (by kernel_rfl))⟩
 f22 := ⟨Try.f53.name, by decide, Try.func53.trans (congrArg some (by kernel_rfl))⟩
 f23 := ⟨Try.f54.name, by decide, Try.func54.trans (congrArg some (by kernel_rfl))⟩
 f24 := ⟨Try.f55.name, by decide, Try.func55.trans (congrArg some (by kernel_rfl))⟩
 f25 := ⟨Try.f56.name, by decide, Try.func56.trans (congrArg some (by kernel_rfl))⟩
 f26 := ⟨Try.f57.name, by decide, Try.func57.trans (congrArg some (by kernel_rfl))⟩
 f27 := ⟨Try.f58.name, by decide, Try.func58.trans (congrArg some (by kernel_rfl))⟩
 f28 := Try.func59.trans (congrArg some (by kernel_rfl))
 f29 := Try.func60.trans (congrArg some (by kernel_rfl))
 f46 := ⟨Try.f67.name, by decide, Try.func67.trans (congrArg some (by kernel_rfl))⟩
 f47 := Try.func68.trans (congrArg some (by kernel_rfl))
 f48 := Try.func69.trans (congrArg some (by kernel_rfl))
 f49 := ⟨Try.f70.name, by decide, Try.func70.trans (congrArg some (by kernel_rfl))⟩
 f50 := ⟨Try.f71.name, by decide, Try.func71.trans (congrArg some (by kernel_rfl))⟩
 f57 := ⟨Try.f90.name, by decide, Try.func90.trans (congrArg some (by kernel_rfl))⟩
 t0 := Try.underlying0
 a0 := Try.isAgg0
 z0 := Try.sizeOf0
 v0 := Try.zeroValue0
 t3 := Try.underlying3
 a3 := Try.isAgg3
 z3 := Try.sizeOf3
 v3 := Try.zeroValue3
 t4 := Try.underlying4
 a4 := Try.isAgg4
 z4 := Try.sizeOf4
 v4 := Try.zeroValue4
 t5 := Try.underlying5
 a5 := Try.isAgg5
 z5 := Try.sizeOf5
 v5 := Try.zeroValue5
 t9 := Try.underlying9
 a9 := Try.isAgg9
 z9 := Try.sizeOf9
 v9 := Try.zeroValue9
 t22 := Try.underlying59
 a22 := Try.isAgg59
 z22 := Try.sizeOf59
 v22 := Try.zeroValue59
 t25 := Try.underlying73
 a25 := Try.isAgg73
 z25 := Try.sizeOf73
 v25 := Try.zeroValue73
 t39 := Try.underlying94
 a39 := Try.isAgg94
 z39 := Try.sizeOf94
 v39 := Try.zeroValue94
 t45 := Try.underlying109
 a45 := Try.isAgg109
 z45 := Try.sizeOf109
 v45 := Try.zeroValue109
 t46 := Try.underlying110
 a46 := Try.isAgg110
 z46 := Try.sizeOf110
 v46 := Try.zeroValue110
 t50 := Try.underlying52
 a50 := Try.isAgg52
 z50 := Try.sizeOf52
 v50 := Try.zeroValue52
 t53 := Try.underlying116
 a53 := Try.isAgg116
 z53 := Try.sizeOf116
 v53 := Try.zeroValue116
 t55 := Try.underlying118
 a55 := Try.isAgg118
 z55 := Try.sizeOf118
 v55 := Try.zeroValue118
 t66 := Try.underlying125
 a66 := Try.isAgg125
 z66 := Try.sizeOf125
 v66 := Try.zeroValue125
 t70 := Try.underlying129
 a70 := Try.isAgg129
 z70 := Try.sizeOf129
 v70 := Try.zeroValue129
 t76 := Try.underlying143
 a76 := Try.isAgg143
 z76 := Try.sizeOf143
 v76 := Try.zeroValue143
 t77 := Try.underlying144
 a77 := Try.isAgg144
 z77 := Try.sizeOf144
 v77 := Try.zeroValue144 }
def Try.cmpInt_ren : Go.Shelf.Ren := ⟨fun | 5 => 22 | 7 => 39 | n => n, fun | 3 => 3 | 4 => 4 | 22 => 3 | n => n, fun | n => n⟩
theorem Try.cmpInt : Go.Proofs.SlLaysC2.n5 Try.prog Try.cmpInt_ren := {
 mixed := by kernel_rfl
 f5 := ⟨Try.f22.name, by decide, Try.func22.trans (congrArg some (by kernel_rfl))⟩
 f7 := ⟨Try.f39.name, by decide, Try.func39.trans (congrArg some (by kernel_rfl))⟩
 t3 := Try.underlying3
 a3 := Try.isAgg3
 z3 := Try.sizeOf3
 v3 := Try.zeroValue3
 t4 := Try.underlying4
 a4 := Try.isAgg4
 z4 := Try.sizeOf4
 v4 := Try.zeroValue4
 t22 := Try.underlying3
 a22 := Try.isAgg3
 z22 := Try.sizeOf3
 v22 := Try.zeroValue3 }
end Go.Proofs
namespace Go.Proofs
open Go.Shelf Go.RowKit Go.Lib Go.Sort
open Go.Proofs.Ytidlngnhjffepaa (Za1 rF hF g0 ZcB)
set_option maxHeartbeats 1000000 in
theorem Try.closureSort0 (x y : Int) (a1 a2 a3 a4 a5 a6 b1 b2 b3 b4 b5 b6 : Value) (W : World) : Calls Try.prog 21 #[.agg #[.int .i64 x, a1, a2, a3, a4, a5, a6], .agg #[.int .i64 y, b1, b2, b3, b4, b5, b6]] W fun e w' => e = .returned (.int .i64 (Lib.compareInt x y)) /\ ∃ q os', w' = grow (W.drewN q) os' := by
 have hcon := fun W' => AnyG.cmp_Compare_int Try.cmpInt x y W'
 change ∀ W', Calls Try.prog 22 _ _ _ at hcon
 generalize Lib.compareInt x y = r at hcon ⊢
 go_enter Try.func21, Try.ntmps21
 go_wp2_with (go_at_call 22; refine (hcon _).mono ?_; rintro e w' ⟨rfl, rfl⟩)
 go_ret
 exact ⟨rfl, 0, _, by rw [alloc_eq_grow, alloc_eq_grow, grow_grow]; rfl⟩
theorem Try.closureSort (x y : List Int) (W : World) : Calls Try.prog 21 #[.agg (Za1 x).toArray, .agg (Za1 y).toArray] W fun e w' => e = .returned (.int .i64 (Lib.compareInt (g0 x) (g0 y))) /\ ∃ q os', w' = grow (W.drewN q) os' :=
 Try.closureSort0 (g0 x) (g0 y) _ _ _ _ _ _ _ _ _ _ _ _ W
theorem Try.ltPage (x y : List Int) : ltOf (fun x y : List Int => Lib.compareInt (g0 x) (g0 y)) x y = decide (g0 x < g0 y) := by
 unfold ltOf Lib.compareInt
 by_cases h1 : g0 x < g0 y
 ·simp [h1]
 ·by_cases h2 : g0 y < g0 x <;> simp [h1, h2]
theorem Try.swoPage : SWO (ltOf fun x y : List Int => Lib.compareInt (g0 x) (g0 y)) where
 irrefl x := by rw [Try.ltPage]; simp
 trans x y z h1 h2 := by rw [Try.ltPage] at *; simp at *; omega
 ntrans x y z h1 h2 := by rw [Try.ltPage] at *; simp at *; omega
theorem Try.sortEntries (blk cap : Nat) (d : Array (List Int)) (w : World) (hH : HoldsK Za1 7 w blk 0 d) (hblk : blk < w.heap.size) (hsz : d.size < 4611686018427387904) :
  Calls Try.prog 20 #[.slice (some ⟨blk, 0, none⟩) d.size cap, .func (.func 21) #[] #[]] w fun e w' => e = .returned (.tuple #[]) ∧
   ∃ d' n os, PermIn 0 d.size d d' /\ SortedIn (ltOf fun x y : List Int => Lib.compareInt (g0 x) (g0 y)) 0 d.size d' /\ w' = sortWorldK Za1 7 w blk 0 n d' os := by
 have eg : ∀ args w, (callFunc 21 args).run Try.prog w = .ok (.enter 21 args) w := enters_of Try.func21 (by kernel_rfl) rfl
 exact AnyQ.slices_SortFunc Try.sortEn 7 Try.isAgg65 Try.sizeOf65 Za1 (fun x => ZcB x) (fun x v hv => by simp [Za1, rF, hF, Go.Eng.rowVals, Go.Eng.Fd.val, Go.Eng.Fd.width] at hv; rcases hv with rfl | rfl | rfl | rfl | rfl | rfl | rfl <;> rfl) (fun x y => Lib.compareInt (g0 x) (g0 y)) Try.swoPage 21 #[] blk 0 cap d w eg
  (fun _ _ _ _ x y => Try.closureSort x y _) hH hblk hsz
theorem Try.sortNone (p : Option Addr) (cap : Nat) (fv : Value) (w : World) :
  Calls Try.prog 20 #[.slice p 0 cap, fv] w fun e w' => e = .returned (.tuple #[]) /\ w' = w := AnyF.slices_SortFunc_none Try.sortEn p cap fv w
end Go.Proofs
namespace Go.Proofs.Ytidlngnhjffepaa
noncomputable section
open Go.Eng
theorem ZKi (S : Sig GG) (hS : JsSig S) : ZR S Try.prog 20 Zdj :=
 ZL5 S hS (fun blk cap d w h1 h2 h3 => Try.sortEntries blk cap d w h1 h2 h3) (fun p cap fv w => Try.sortNone p cap fv w)
end
end Go.Proofs.Ytidlngnhjffepaa
namespace Go.Proofs.Ytidlngnhjffepaa
noncomputable section
open Go.Eng
def ZrI : Ctr := ⟨hA, [.one (hS 0)], [hC 0 0], [eLe z0 (ai 2), eLe (ai 2) (Zg (rA 4)), eLe (ai 2) (ai 3), eLe (ai 2) (.int 9223372036854775807)], [.int, .int, .int], .tup [(false, [.int .i64 (ai 6)]), (false, [.int .i64 (ai 7)]), (false, [.int .i64 (ai 8)])], [hC 0 0],
 [.f2 45 (ai 6) (usI 520 xX z0 z0), .f2 45 (ai 7) (usI 521 xX z0 z0), .f2 45 (ai 8) (usI 522 xX z0 z0)]⟩
def lc (n : Nat) : SX := rA (1000000 + n)
def sraI (m R it a w l : Nat) : Inv := ⟨[.amap, .ints, .int, .int, .int, .int, .rows], [],
 [.itr (.int .i64) (.one .ptr) (ai m) (wM (rA R) bG) (ai it) (mA 1000000) (iA 1000001), .cel (ai a) 0 [.int .i64 (di 2)], .cel (ai w) 0 [.int .i64 (di 3)], .cel (ai l) 0 [slC (di 4) (Zg (lc 6)) (di 5) 7], rAr (di 4) (lc 6) (di 5)],
 [usB 571 (mA 1000000) (wM (rA R) bG) z0, .us .bool 586 xX (mA 1000000) (Zb7 (di 2) (di 3)) (ai 2), usB 587 xX (mA 1000000) (lc 6), eLe (Zg (lc 6)) (di 5), .f2 50 (eLe z0 (di 4)) (.f2 45 (Zg (lc 6)) z0)], .f1 33 (mA 1000000)⟩
def srbX (k : Nat) (sa sw ix : SX) (j : SX) : SX := usI k (Zb7 sa sw) (usN 546 bG ix z0) j
def srbI (a w sa sw : Nat) (ix : SX) : Inv := ⟨[.int], [(64, .one (.int .i64 (di 0)))], [.cel (ai a) 0 [.int .i64 (srbX 584 (ai sa) (ai sw) ix (di 0))], .cel (ai w) 0 [.int .i64 (srbX 585 (ai sa) (ai sw) ix (di 0))]],
 [eLe z0 (di 0), eLe (di 0) (ZbW (usN 546 bG ix z0))], .f2 41 (ZbW (usN 546 bG ix z0)) (di 0)⟩
def srP (R k : Nat) : SX := .f3 140 z0 (wM (rA R) bG) (ai k)
def ZHw (k L sa sw : Nat) (n : SX) : SX := .us .int k xX (rA L) (Zb7 (ai sa) (ai sw)) n
def srkI (a w l b L sa sw m R : Nat) : Inv := ⟨[.int, .int, .int, .int, .amap], [(92, .one (.int .i64 (di 0)))], [.cel (ai l) 0 [.slice (ai b) z0 (ZHw 593 L sa sw (di 0)) (di 1) (di 2) (di 3) 7], .cel (ai a) 0 [.int .i64 (ZHw 594 L sa sw (di 0))], .cel (ai w) 0 [.int .i64 (ZHw 595 L sa sw (di 0))], scC (ai m) (mA 1000004)],
 [eLe z0 (di 0), eLe (di 0) (Zg (bK (rA R))), eLe z0 (di 2), eLe (di 2) (di 3), .f2 45 (.f2 40 (ZHw 593 L sa sw (di 0)) (di 2)) (Zg (rA L)), usB 596 xX (di 0) (mA 1000004)], .f2 41 (Zg (bK (rA R))) (di 0)⟩
def srK (R k : Nat) : SX := nt (bK (rA R)) (ai k) 0
def srE (q L sa sw k m : Nat) (ix : SX) : SX := usI q (rA L) (mA m) (Zmo (ZHw 593 L sa sw (ai k)) (ZHw 594 L sa sw (ai k)) (ZHw 595 L sa sw (ai k)) (usI 542 bG ix z0))
def srrX (q L sa sw k m : Nat) (ix j : SX) : SX := .us .int q (Zb7 (srE 591 L sa sw k m ix) (srE 592 L sa sw k m ix)) (usR 545 bG ix z0) j (mA m)
def srsI (a w L sa sw k m : Nat) (ix : SX) : Inv := ⟨[.int], [(107, .one (.int .i64 (di 0)))], [.cel (ai a) 0 [.int .i64 (srrX 597 L sa sw k m ix (di 0))], .cel (ai w) 0 [.int .i64 (srrX 598 L sa sw k m ix (di 0))]],
 [eLe z0 (di 0), eLe (di 0) (Zg (usR 545 bG ix z0))], .f2 41 (Zg (usR 545 bG ix z0)) (di 0)⟩
def ZNv : Cx := { specs := notS ++ [(17, [Zod]), (24, [ZjO]), (25, [ZnT]), (23, [Zvx]), (20, [Zdj]), (19, [ZxG])], anns := [(7, [(4, .ghost Zog [.tmp 0, .tmp 5]), (10, .inv (sraI 8 13 20 14 15 19)), (12, .ghost Zt2 [.tmp 12]), (13, .inv (srbI 14 15 23 24 (ixB (rA 13) (srP 13 28)))), (500017, .ghost ZlI [.tmp 12]), (18, .ghost Zt2 [.tmp 12]), (500018, .ghost ZlI [.tmp 12]), (23, .inv (srkI 14 15 19 25 28 23 24 29 13)), (25, .ghost Zt2 [.tmp 18]), (27, .inv (srsI 14 15 28 23 24 31 35 (ixB (rA 13) (srK 13 31)))), (500032, .ghost ZlI [.tmp 18])])] }
def YW : SX := .f2 115 (r 4) (a 2)
def ZGW : SX := l z (a 6)
def ZEb : SX := e (a 7) z
def Zxv : SX := v 520 YW
def ZEt : SX := v 521 YW
def ZHN : SX := e z ZEt
def ZH6 : SX := v 522 YW
def Zna : SX := .f1 32 YW
def ZCS : SX := hR0 548 YW Zna (r 13)
def ZiV : SX := .f1 32 ZCS
def Zyh : SX := wR 549 YW Zna
def Zf6 : SX := .f1 32 Zyh
def ZBe : SX := e Zf6 z
def Zc2 : SX := f 561 YW Zna
def Zto : SX := d 550 YW Zna
def Zue : SX := e z ZH6
def Zf0 : SX := wM0 547 (r 13) Zc2
def Zay : SX := .f2 122 (a 23) (.f2 122 (a 24) (.f1 152 z))
def ZCg : SX := l z (a 25)
def Zz3 : SX := l z (a 29)
def ZB2 : SX := l z (a 30)
def ZAC : SX := x 593 YW (r 28) Zay
def Zmm : SX := .us .int 593 YW (r 28) Zay (a 31)
def Zt1 : SX := .f3 112 ZCS (a 31) z
def Zb6 : SX := d 566 (r 13) Zt1
def ZCl : SX := .f3 112 (r 13) Zb6 z
def Zst : SX := v 552 Zc2
def Zbk : SX := wR 545 Zc2 Zb6
def Ze0 : SX := .f1 32 Zbk
def ZCe : SX := .f1 30 (wN 546 Zc2 Zb6)
def Zr6 : SX := e (.f1 32 (r 13)) Zst
def ZCz : SX := l z Zmm
def Zv5 : SX := l (.f1 32 (r 28)) (k 1000000)
def ZyM : SX := .f2 50 ZCg (e (a 33) z)
def ZvJ : SX := l z (a 37)
def Zwz : SX := l (a 37) (a 38)
def ZCj : SX := .us .int 594 YW (r 28) Zay (a 31)
def ZyV : SX := .us .int 595 YW (r 28) Zay (a 31)
def Zs6 : SX := .f2 122 Zmm (.f2 122 ZCj (.f2 122 ZyV (.f2 122 (d 542 Zc2 Zb6) (.f1 152 z))))
def ZvX : SX := x 590 (r 28) (m 35) Zs6
def ZzJ : SX := x 591 (r 28) (m 35) Zs6
def ZvL : SX := x 592 (r 28) (m 35) Zs6
def Zhw : SX := .f2 122 ZzJ (.f2 122 ZvL (.f1 152 z))
def ZhJ : SX := .f2 40 (a 39) (k 1)
def ZwJ : SX := .f1 23 ZhJ
def Zws : SX := .f2 41 Ze0 ZhJ
def ZvF : SX := l z Zws
def Zwa : SX := t Zws (.f2 41 Ze0 (a 39))
def Zzh : SX := l z ZhJ
def ZBn : SX := l ZhJ Ze0
def ZxJ : SX := .us .int 598 Zhw Zbk ZhJ (m 35)
def ZnB : SX := .us .int 597 Zhw Zbk (a 39) (m 35)
def Zmz : SX := .us .int 598 Zhw Zbk (a 39) (m 35)
def Zwn : SX := .f3 112 Zbk (a 39) z
def ZA4 : SX := .us .int 597 Zhw Zbk ZhJ (m 35)
def Zeo : SX := .f2 40 (a 31) (k 1)
def ZBA : SX := .f2 41 ZiV Zeo
def ZzY : SX := .us .int 593 YW (r 28) Zay Zeo
def ZtR : SX := .f2 122 Zmm (.f2 122 ZCj (.f2 122 ZyV (.f2 122 (a 2) (.f1 152 z))))
def ZyC : SX := x 592 (r 28) (m 35) ZtR
def ZwC : SX := e ZyC z
def ZrH : SX := .f3 140 z Zf0 (a 28)
def ZcO : SX := d 566 (r 13) ZrH
def ZBX : SX := .f3 112 (r 13) ZcO z
def Zzm : SX := e ZrH ZBX
def Zww : SX := t ZcO Zst
def ZwW : SX := wR 545 Zc2 ZcO
def Zjm : SX := .f1 32 ZwW
def Zyd : SX := l Zjm (.f3 112 (r 13) ZcO (k 3))
def ZeZ : SX := wN 546 Zc2 ZcO
def Zey : SX := .f1 30 ZeZ
def ZBD : SX := l Zey (.f3 112 (r 13) ZcO (k 5))
def Zyv : SX := .f2 50 (l z (.f3 112 (r 13) ZcO (k 2))) (e Zjm z)
def ZAD : SX := .f2 50 (l z (.f3 112 (r 13) ZcO (k 4))) (e Zey z)
def Zxg : SX := l z (.f3 112 (r 13) ZcO (k 1))
def ZCf : SX := l z ZBX
def Zia : SX := .f2 40 (a 29) (k 1)
def Zxu : SX := .f2 41 Zey Zia
def Zsx : SX := x 584 Zay ZeZ (a 29)
def ZsQ : SX := x 585 Zay ZeZ (a 29)
def ZAr : SX := .f2 110 ZeZ (a 29)
def ZAI : SX := d 542 Zc2 ZcO
def Zs0 : SX := .f2 40 (.f1 32 (r 27)) Zjm
def ZjE : SX := .f2 143 (m 21) (a 28)
def ZB9 : SX := t (.f1 33 ZjE) (.f1 33 (m 21))
def ZCC : SX := c 571 ZjE Zf0
def ZxF : SX := .us .bool 586 YW ZjE (.f2 122 Zsx (.f2 122 ZsQ (.f1 152 z))) (a 2)
def ZKG : VC := i (l z (a 2)) (i (l (a 2) (.f1 32 (r 4))) (i (l (a 2) (a 3)) (i (l (a 2) (k 9223372036854775807)) (u 6 .int (u 7 .int (i (e (a 7) (v 523 YW)) (i (.f2 48 ZGW ZEb) (.and (i (.f1 2 ZEb) (n (e z Zxv) (n ZHN (n (e (a 7) ZH6) .tt)))) (i ZEb (n ZGW (u 8 .int (u 9 .int (u 10 .int (u 11 .int (u 12 .int (u 13 .rows (i (l z (a 8)) (i (l ZiV (a 10)) (i (.f2 50 (l z (a 9)) (e ZiV z)) (i (l Zf6 (a 12)) (i (.f2 50 (l z (a 11)) ZBe) (i (c 558 (r 13) Zc2) (i (c 560 ZCS (r 13)) (i (l ZiV Zna) (i (l Zf6 Zna) (.and (i (l z Zto) (n (e Zto Zxv) (n (e (d 551 YW Zna) ZEt) (n Zue .tt)))) (i (t Zto z) (u 14 .int (i (l z (a 14)) (u 15 .int (i (l z (a 15)) (u 16 .int (i (l z (a 16)) (n (e Zf6 Zf6) (n (l Zf6 (k 1000000)) (u 17 .int (u 18 .int (i (l Zf6 (a 18)) (i (.f2 50 (l z (a 17)) ZBe) (u 19 .int (i (l z (a 19)) (u 20 .int (i (l z (a 20)) (n (c 571 Zf0 Zf0) (n (.us .bool 586 YW Zf0 (.f2 122 (a 2) (.f2 122 z (.f1 152 z))) (a 2)) (n (y 587 YW Zf0 Zyh) (u 21 .amap (u 22 .ints (u 23 .int (u 24 .int (u 25 .int (u 26 .int (u 27 .rows (i (c 571 (m 21) Zf0) (i (.us .bool 586 YW (m 21) Zay (a 2)) (i (y 587 YW (m 21) (r 27)) (i (l (.f1 32 (r 27)) (a 26)) (i (.f2 50 ZCg (e (.f1 32 (r 27)) z)) (.and (i (e (.f1 33 (m 21)) z) (n (e (.f1 32 (r 27)) (.f1 32 (r 27))) (n (l (.f1 32 (r 27)) k1) (u 28 .rows (i (e (.f1 32 (r 28)) (.f1 32 (r 27))) (i (c 580 (r 27) (r 28)) (u 29 .int (i Zz3 (u 30 .int (i ZB2 (n (e (.f2 40 ZAC (.f1 32 (r 27))) (.f1 32 (r 28))) (n (y 596 YW z (.f1 155 z)) (n (e (x 595 YW (r 28) Zay) (a 24)) (n (e (x 594 YW (r 28) Zay) (a 23)) (n (e ZAC z) (u 31 .int (u 32 .int (u 33 .int (u 34 .int (u 35 .amap (i (l z (a 31)) (i (l (a 31) ZiV) (i (l z (a 33)) (i (l (a 33) (a 34)) (i (e (.f2 40 Zmm (a 33)) (.f1 32 (r 28))) (i (y 596 YW (a 31) (m 35)) (.and (i (t (a 31) ZiV) (n (c 565 (r 13) Zt1) (i (e Zt1 ZCl) (i (t Zb6 Zst) (i (l Ze0 (.f3 112 (r 13) Zb6 (k 3))) (i (l ZCe (.f3 112 (r 13) Zb6 (k 5))) (i (.f2 50 (l z (.f3 112 (r 13) Zb6 (k 2))) (e Ze0 z)) (i (.f2 50 (l z (.f3 112 (r 13) Zb6 (k 4))) (e ZCe z)) (i (l z (.f3 112 (r 13) Zb6 (k 1))) (i (l z ZCl) (i Zr6 (n ZCz (n Zv5 (n ZyM (u 36 .int (u 37 .int (u 38 .int (i ZvJ (i Zwz (i (e (.f2 40 ZvX (a 37)) (.f1 32 (r 28))) (n (e (.us .int 598 Zhw Zbk z (m 35)) ZvL) (n (e (.us .int 597 Zhw Zbk z (m 35)) ZzJ) (u 39 .int (i (l z (a 39)) (i (l (a 39) Ze0) (.and (i (t (a 39) Ze0) (u 40 .int (i (l z (a 40)) (u 41 .bool (i (.f2 48 (q 41) (c 530 (m 35) (.f2 122 (.f3 112 Zbk (a 39) (k 1)) (.f2 122 (.f3 112 Zbk (a 39) (k 2)) (.f2 122 (.f1 35 (.f1 36 (.f3 112 Zbk (a 39) (k 3)))) (.f2 122 (.f1 35 (.f1 36 (.f3 112 Zbk (a 39) (k 4)))) (.f2 122 (.f1 3 (.f1 2 (e (.f3 112 Zbk (a 39) (k 5)) z))) (.f2 122 (.f3 112 Zbk (a 39) (k 6)) (.f1 152 z))))))))) (.and (i (.f1 2 (q 41)) (n ZwJ (n ZvF (n Zwa (n Zzh (n ZBn (n (e ZxJ (.us .int 583 ZnB Zmz Zwn (k 4))) (n (e ZA4 (.us .int 582 ZnB Zmz Zwn (k 4))) .tt)))))))) (i (.f1 2 (.f1 2 (q 41))) (n ZwJ (n ZvF (n Zwa (n Zzh (n ZBn (n (e ZxJ Zmz) (n (e ZA4 ZnB) .tt)))))))))))))) (i (l Ze0 (a 39)) (u 40 .amap (i (y 531 (m 35) (wM0 544 Zc2 Zb6) (m 40)) (n (l z Zb6) (n (.f1 23 Zeo) (n (l z ZBA) (n (t ZBA (.f2 41 ZiV (a 31))) (n (l z Zeo) (n (l Zeo ZiV) (n (e (.f2 40 ZzY (a 37)) (.f1 32 (r 28))) (n (y 596 YW Zeo (m 40)) (n (e (.us .int 595 YW (r 28) Zay Zeo) Zmz) (n (e (.us .int 594 YW (r 28) Zay Zeo) ZnB) (n (e ZzY ZvX) .tt)))))))))))))))))))))))))))))))))))))))) (i (l ZiV (a 31)) (n ZCz (n Zv5 (n ZyM (u 36 .int (u 37 .int (u 38 .int (i ZvJ (i Zwz (i (e (.f2 40 (x 590 (r 28) (m 35) ZtR) (a 37)) (.f1 32 (r 28))) (.and (i ZwC (n (e (k (-1)) Zxv) (n ZHN (n Zue .tt)))) (i (.f1 2 ZwC) (n (e (x 591 (r 28) (m 35) ZtR) Zxv) (n (e ZyC ZEt) (n Zue .tt)))))))))))))))))))))))))))))))))))))))))) (u 28 .int (i (.f2 141 (m 21) (a 28)) (n (c 565 (r 13) ZrH) (i Zzm (i Zww (i Zyd (i ZBD (i Zyv (i ZAD (i Zxg (i ZCf (i Zr6 (n (e (d 585 Zay ZeZ) (a 24)) (n (e (d 584 Zay ZeZ) (a 23)) (u 29 .int (i Zz3 (i (l (a 29) Zey) (.and (i (t (a 29) Zey) (n (.f1 23 Zia) (n (l z Zxu) (n (t Zxu (.f2 41 Zey (a 29))) (n (l z Zia) (n (l Zia Zey) (n (e (x 585 Zay ZeZ Zia) (.us .int 583 Zsx ZsQ ZAr (k 3))) (n (e (x 584 Zay ZeZ Zia) (.us .int 582 Zsx ZsQ ZAr (k 3))) .tt)))))))) (i (l Zey (a 29)) (n (l z ZcO) (.and (i (t ZAI z) (i Zzm (i Zww (i Zyd (i ZBD (i Zyv (i ZAD (i Zxg (i ZCf (i Zr6 (n (l (.f1 32 (r 27)) (.f1 32 (r 27))) (n (l (.f2 42 Zs0 (k 72)) k1) (n (l Zjm Zjm) (u 30 .int (u 31 .int (i (l Zs0 (a 31)) (i (.f2 50 ZB2 (e Zs0 z)) (n ZB9 (n ZCC (n ZxF (n (y 587 YW ZjE (.f2 121 (r 27) ZwW)) .tt))))))))))))))))))))) (i (l z ZAI) (n ZB9 (n ZCC (n ZxF (n (y 587 YW ZjE (r 27)) .tt)))))))))))))))))))))))))))))))))))))))))))))))))))))))))))))))))))))))))))))))))))))
theorem ZLE : Zcl Try.prog ZNv 12 7 ZrI = ZKG := by kernel_rfl
theorem ZES (S : Sig GG) (hS : JsSig S) : ZR S Try.prog 7 ZrI := by
 refine Zo S (C := ZNv) (fuel := 12) (YV ⟨Zm (by decide) (ZFp S hS), Zm (by decide) (ZAz S hS.jt), Zm (by decide) (Zsp S hS.jt.jb), Zm (by decide) (Zze S hS.jt.jb), Zm (by decide) (ZLd S hS), Zm (by decide) (ZKi S hS), Zm (by decide) (ZJ8 S hS), trivial⟩ ⟨⟨⟨by decide, Zqg S hS.jt⟩, trivial, ⟨by decide, Zdq S hS.jt⟩, trivial, ⟨by decide, Zdd S hS.jt⟩, ⟨by decide, Zdq S hS.jt⟩, ⟨by decide, Zdd S hS.jt⟩, trivial, ⟨by decide, Zdq S hS.jt⟩, trivial, ⟨by decide, Zdd S hS.jt⟩, trivial⟩, trivial⟩ trivial) fun ρ => ?_
 rw [ZLE]
 simp only [ZKG, YW, ZGW, ZEb, Zxv, ZEt, ZHN, ZH6, Zna, ZCS, ZiV, Zyh, Zf6, ZBe, Zc2, Zto, Zue, Zf0, Zay, ZCg, Zz3, ZB2, ZAC, Zmm, Zt1, Zb6, ZCl, Zst, Zbk, Ze0, ZCe, Zr6, ZCz, Zv5, ZyM, ZvJ, Zwz, ZCj, ZyV, Zs6, ZvX, ZzJ, ZvL, Zhw, ZhJ, ZwJ, Zws, ZvF, Zwa, Zzh, ZBn, ZxJ, ZnB, Zmz, Zwn, ZA4, Zeo, ZBA, ZzY, ZtR, ZyC, ZwC, ZrH, ZcO, ZBX, Zzm, Zww, ZwW, Zjm, Zyd, ZeZ, Zey, ZBD, Zyv, ZAD, Zxg, ZCf, Zia, Zxu, Zsx, ZsQ, ZAr, ZAI, Zs0, ZjE, ZB9, ZCC, ZxF, hS.jt.jb.rf.u520, hS.jt.jb.rf.u521, hS.jt.jb.rf.u522, hS.jt.jb.rf.u523, hS.jt.jb.u530, hS.jt.jb.u531, hS.jt.u542, hS.jt.u544, hS.jt.u545, hS.jt.u546, hS.jt.u547, hS.jt.u548, hS.jt.u549, hS.jt.u550, hS.jt.u551, hS.jt.u552, hS.jt.u558, hS.jt.u560, hS.jt.u561, hS.jt.u565, hS.jt.u566, hS.jt.u571, hS.u580, hS.u582, hS.u583, hS.u584, hS.u585, hS.u586, hS.u587, hS.u590, hS.u591, hS.u592, hS.u593, hS.u594, hS.u595, hS.u596, hS.u597, hS.u598, ZY, ZN0, VC.den, SX.den, Env.upd, ZaN, Yr, beq_iff_eq, ZNS, beq_eq_false_iff_ne, ne_eq, ZNR, ZNQ, Int.reduceToNat, Nat.reduceEqDiff, reduceIte, sB, sC]
 generalize hX : (ρ 4).tR.take (ρ 2).tI.toNat = X
 generalize hlen : (ρ 2).tI = l at *
 intro h1 h2 h3 h4
 have hl : l = (X.length : Nat) := by rw [<- hX, ZNV]; omega
 subst hl
 clear hX hlen
 simp only [ZN0, ZlG]
 intro b e he hb
 have hpl : ∀ (R : List (List Int)) (ks : List Nat), (ZbR R ks).length = ks.length := fun R ks => by unfold ZbR; rw [ZN3]
 have hwf := ZhN X X.length
 have prOf2 : ∀ u v : Int, Zn7 [u, v] = (u, v) := fun _ _ => rfl
 simp only [hpl, prOf2, ZwH, Zk3, ZgF, ZN0]
 refine ⟨fun hne => ?_, fun h0 => ⟨?_, ?_⟩⟩
 ·rw [ZGx (by rw [<- he]; exact hne)]; exact ⟨rfl, rfl, he, trivial⟩
 ·rw [h0] at hb; exact Za.1 (by rw [hb]; rfl)
 have hc : ZcU X = 0 := by rw [<- he]; exact h0
 intro ma kb kc ob oc R q1 q2 q3 q4 q5 q6 q7 q8 q9
 refine ⟨fun hf => ?_, fun hf => ?_⟩
 ·rw [Zn1 hc hf]; exact ⟨rfl, rfl, rfl, trivial⟩
 have hgo : Go X (Yj X X.length) := ZF4 hc hf
 have h400 := Zpm hc
 rw [ZDc hc hgo]
 have hfin := @Zvo X _ hgo
 have hbl := fun t ht => ZKT hgo (t := t) ht
 have hll := ZHf hwf h400
 have hall : ∀ t ∈ (Yj X X.length).txs, Zv (ZfF R (Yj X X.length).txs) t.who = true := Zex q6.1
 have hget := fun w => Zcq (w := w) q6.1 0
 have hkeys := ZhX q6.1
 have hkept : ∀ n < (Yj X X.length).kept.length, (Yj X X.length).kept.getD n 0 < R.length := fun n hn => by rw [q6.1]; exact (hgo.kw hn).1
 have hmst := @ZsC (Yj X X.length)
 have hbst := @ZDQ (Yj X X.length)
 have hlst := @ZEv (Yj X X.length)
 have hki : ∀ left i r, ZCE (Yj X X.length) left i r -> True := fun _ _ _ _ => trivial
 generalize Yj X X.length = B at *
 intro ca p1 cw p2 cn p3
 refine ⟨trivial, by omega, fun cb cc p4 p5 lb p6 it p7 => ?_⟩
 refine ⟨⟨by rw [hkeys]; exact hwf.nd, fun k hk => hk⟩, ZDh hall _, by rw [ZCN hall], fun left cur a w lob loc lo g1 g2 g3 g4 g5 => ?_⟩
 refine ⟨fun hz => ?_, fun k hk => ?_⟩
 ·have hz : left = [] := ZN8 (by omega)
  subst hz
  refine ⟨trivial, by have := g3.length_eq; have := hll []; omega, fun L s1 s2 mb p8 nb p9 => ?_⟩
  refine ⟨by have : (Zad B L (a, w) 0).1 = 0 := rfl; omega, map_nil B, rfl, rfl, rfl, fun k z l c M j1 j2 j3 j4 j5 j6 => ?_⟩
  obtain ⟨n, rfl⟩ := ZNL j1
  have en : ((n : Int) + 1).toNat = n + 1 := by omega
  simp only [ZN0, en] at j5 j6 ⊢
  have hends : ∀ pl, Zgg (Yc M) L pl (Zad B L (a, w) n).1 (Zad B L (a, w) n).2 = Zgg (Yb (stF B n)) L pl (Zad B L (a, w) n).1 (Zad B L (a, w) n).2 := fun pl => ZLP j6 L pl _ _
  have hlen : L.length <= 1000000 := by have := g3.length_eq; have := hll []; omega
  have hlo : 0 <= lob \/ l = 0 := by
   rcases g5 with g5 | g5
   ·exact .inl g5
   ·right; omega
  refine ⟨fun hn => ?_, fun hn => ?_⟩
  ·have hn : n < B.kept.length := by omega
   have hJ := hkept n hn
   have hJt : B.kept.getD n 0 < B.txs.length := by rw [<- q6.1]; exact hJ
   have hri := Zbg q6.2.1 hJ
   simp only [ZBC hn, hri, Zdf]
   refine ⟨⟨_, hJ, rfl⟩, fun _ _ _ _ _ _ _ _ _ => ⟨by omega, by omega, hlo, fun z' l' c' j7 j8 j9 => ?_⟩⟩
   have hk1 : Zad B L (a, w) (n + 1) = ((Zgg (Yb (stF B n)) L (B.txs.getD (B.kept.getD n 0) tx0).com (Zad B L (a, w) n).1 (Zad B L (a, w) n).2).1, Zk5 (Yb (stF B n)) (Zgg (Yb (stF B n)) L (B.txs.getD (B.kept.getD n 0) tx0).com (Zad B L (a, w) n).1 (Zad B L (a, w) n).2).2 (B.txs.getD (B.kept.getD n 0) tx0).rds (B.txs.getD (B.kept.getD n 0) tx0).rds.length) := rfl
   rw [<- hends] at hk1
   have hms := fun M' (hl : ZxR M (B.txs.getD (B.kept.getD n 0) tx0).ch M') => hmst j6 rfl hl
   have hrl := (hwf.rl _ (hgo.kt hn)).1
   generalize B.txs.getD (B.kept.getD n 0) tx0 = t at *
   generalize Zgg (Yc M) L t.com (Zad B L (a, w) n).1 (Zad B L (a, w) n).2 = E at *
   refine ⟨rfl, rfl, fun jj j10 j11 => ⟨fun hlt tb htb v hv => ?_, fun hge M' hl => ?_⟩⟩
   ·obtain ⟨m, rfl⟩ := ZNL j10
    have em : ((m : Int) + 1).toNat = m + 1 := by omega
    simp only [ZN0, em] at hv ⊢
    have st : Zk5 (Yc M) E.2 t.rds (m + 1) = if Yc M ((t.rds.getD m []).drop 1) = true then Zk5 (Yc M) E.2 t.rds m else ZeN (Zk5 (Yc M) E.2 t.rds m) (g0 (t.rds.getD m [])) 4 := rfl
    refine ⟨fun hn => ?_, fun hn => ?_⟩
    ·have hn : ¬ Yc M ((t.rds.getD m []).drop 1) = true := by rw [<- hv]; simpa using hn
     rw [if_neg hn] at st
     rw [st]
     exact ⟨⟨by omega, by omega⟩, by omega, by omega, by omega, by omega, rfl, rfl, trivial⟩
    ·have hn : Yc M ((t.rds.getD m []).drop 1) = true := by rw [<- hv]; simpa using hn
     rw [if_pos hn] at st
     rw [st]
     exact ⟨⟨by omega, by omega⟩, by omega, by omega, by omega, by omega, rfl, rfl, trivial⟩
   ·have hjj : jj.toNat = t.rds.length := by omega
    have hrd : Zk5 (Yb (stF B n)) E.2 t.rds t.rds.length = Zk5 (Yc M) E.2 t.rds t.rds.length := (ZE5 j6 _ _ _).symm
    rw [hjj, hk1, hrd]
    exact ⟨by omega, ⟨by omega, by omega⟩, by omega, by omega, by omega, by omega, j9, hms M' hl, rfl, rfl, rfl, trivial⟩
  ·have hn : n = B.kept.length := by omega
   subst hn
   refine ⟨by omega, by omega, hlo, fun z' l' c' j7 j8 j9 => ?_⟩
   have hf := hfin g2 g3 (L := L) s2
   simp only [hends] at *
   generalize Zgg (Yb (stF B B.kept.length)) L (X.length : Int) (Zad B L (a, w) B.kept.length).1 (Zad B L (a, w) B.kept.length).2 = E at *
   refine ⟨fun hz => ?_, fun hz => ?_⟩
   ·rw [if_pos hz] at hf
    rw [<- hf]; exact ⟨rfl, rfl, trivial, trivial⟩
   ·rw [if_neg hz] at hf
    rw [<- hf]; exact ⟨rfl, rfl, trivial, trivial⟩
 ·have hm := g1.2 k hk
  obtain ⟨e1, e2⟩ := hget k
  rw [hm] at e2
  have hjl : ixL k B.txs < B.txs.length := of_decide_eq_true e2.symm
  rw [if_pos hjl] at e1
  have hbs := fun i r => hbst g1.1 hwf.nd (k := k) rfl hjl i r
  have hls := hlst g1.1 hwf.nd (k := k) rfl hjl hk
  have hdel : (Zak left k).length < left.length := ZdY hk
  have hnd := Zb5 g1.1 k
  have hsub : ∀ q, Zv (Zak left k) q = true -> Zv (ZfF R B.txs) q = true := fun q hq => by
   rw [mhas_del' g1.1] at hq
   split at hq
   ·cases hq
   ·exact g1.2 q hq
  have hml := hll (Zak left k)
  generalize ixL k B.txs = j at *
  have hJ : j < R.length := by rw [q6.1]; exact hjl
  have hri := Zbg q6.2.1 hJ
  have htm : B.txs.getD j tx0 ∈ B.txs := by rw [YK hjl]; exact ZOg hjl
  have hbt := hbl _ htm
  have hbw := (hwf.rl _ htm).2
  simp only [e1, hri, Zdf]
  generalize B.txs.getD j tx0 = t at *
  refine ⟨⟨_, hJ, rfl⟩, fun _ _ _ _ _ _ _ _ _ => ⟨rfl, rfl, fun i i0 i1 => ⟨fun hlt => ?_, fun hge => ?_⟩⟩⟩
  ·obtain ⟨m, rfl⟩ := ZNL i0
   have em : ((m : Int) + 1).toNat = m + 1 := by omega
   simp only [ZN0, em]
   exact ⟨⟨by omega, by omega⟩, by omega, by omega, by omega, by omega, rfl, rfl, trivial⟩
  ·have hii : i.toNat = t.bad.length := by omega
   rw [hii]
   have hLP : YR (ZCE B (Zak left k)) (X.length : Int) (ZF8 (a, w) t.bad t.bad.length) :=
    (Zsi g2 t.bad (fun i hi => hbt i hi) _ (ZNJ _)).congr fun i r => by rw [hbs, List.take_length]
   refine ⟨by omega, fun hcm _ _ _ _ _ _ _ _ _ => ?_, fun hcm => ?_⟩
   ·rw [if_pos hcm] at hls
    have hpm := (g3.append_right t.rds).trans hls.symm
    have hpl := hpm.length_eq
    rw [ZNY] at hpl
    exact ⟨by omega, by omega, by omega, fun _ _ _ _ => ⟨by omega, ⟨hnd, hsub⟩, hLP, hpm, trivial⟩⟩
   ·rw [if_neg (by omega), List.append_nil] at hls
    exact ⟨by omega, ⟨hnd, hsub⟩, hLP, g3.trans hls.symm, trivial⟩
def Zv3 : Ctr := ⟨[], [], [], [], [], .one (.bool (.bool true)), [], []⟩
/-! ### Bounds -/
theorem ZyL (k : List UInt8) (m : List (List Int)) : ∀ l : List (List Int), (Zfi l k m).length <= l.length + m.length
 | [] => by show m.length <= _; simp
 | r :: l => by
  have := ZyL k m l
  unfold Zfi
  split
  ·simp only [ZOd]; omega
  ·split <;> simp only [ZNY, ZOd] <;> omega
structure Bnd (s : Hn) : Prop where
 k : s.k.length <= s.h.length
 w0 : 0 <= s.who
 w1 : s.who <= (s.h.length : Nat)
 d : s.d.length <= s.h.length
 w : s.w.length <= s.h.length
theorem ZG0 {s : Hn} (h : Bnd s) (a : List Int) : Bnd (s.act a) := by
 obtain ⟨h1, h2, h3, h4, h5⟩ := h
 unfold Hn.act Hn.kp Hn.cr
 split
 ·constructor <;> simp only [ZNY, ZOd, List.length_nil] <;> omega
 ·split
  ·constructor <;> simp only [ZNY, ZOd, List.length_nil] <;> omega
  ·split
   ·split
    ·have := ZyL (tx1 a) [[((Zj (tx1 a) : Nat) : Int), ((Zj (ZL a) : Nat) : Int)]] s.w
     simp only [ZOd, List.length_nil] at this
     constructor <;> simp only [ZNY, ZOd, List.length_nil] <;> omega
    ·have := ZyL (tx1 a) [] s.w
     simp only [List.length_nil] at this
     constructor <;> simp only [ZNY, ZOd, List.length_nil] <;> omega
   ·split
    ·constructor <;> simp only [ZNY, ZOd, List.length_nil] <;> omega
    ·split
     ·constructor <;> simp only [ZNY, ZOd, List.length_nil] <;> omega
     ·split
      ·constructor <;> simp only [ZNY, ZOd, List.length_nil] <;> omega
      ·split
       ·constructor <;> simp only [ZNY, ZOd, List.length_nil] <;> omega
       ·exact ⟨h1, h2, h3, h4, h5⟩
theorem ZJV (A : List (List Int)) : ∀ n, Bnd (Zef A n)
 | 0 => ⟨ZNJ _, ZN4 _, ZN4 _, ZNJ _, ZNJ _⟩
 | n + 1 => ZG0 (ZJV A n) _
theorem ZFh (A : List (List Int)) : ∀ n, (Zef A n).h.length <= 400 -> HI (Zef A n)
 | 0, _ => hi_0
 | n + 1, h => by
  have h' : ((Zef A n).act (A.getD n [])).h.length <= 400 := h
  have := (ZzO (Zef A n) (A.getD n [])).2
  exact ZMx (ZFh A n (by omega)) _ (by omega)
/-! ### The reads -/
def rdN (x : List Ent) : Nat -> List Int
 | 0 => []
 | n + 1 => if xk (xa x n) = 2 then rdN x n ++ [(n : Int)] else rdN x n
theorem ZvU (x : List Ent) {m : Int} : ∀ n, m ∈ rdN x n -> 0 <= m /\ m < (n : Nat) /\ xk (xa x m.toNat) = 2
 | 0, h => nomatch h
 | n + 1, h => by
  unfold rdN at h
  split at h
  ·rename_i q
   rcases List.mem_append.1 h with h | h
   ·have := ZvU x n h; exact ⟨this.1, by omega, this.2.2⟩
   ·rw [List.mem_singleton.1 h]; exact ⟨by omega, by omega, by rw [ZN0]; exact q⟩
  ·have := ZvU x n h; exact ⟨this.1, by omega, this.2.2⟩
theorem Zwd (x : List Ent) : ∀ n, (rdN x n).length <= n
 | 0 => ZNJ _
 | n + 1 => by
  have := Zwd x n
  unfold rdN
  split
  ·rw [ZNY, ZNH]; omega
  ·omega
/-! ### The pool's pairs -/
def prZ : List (List Int × List Int) -> HProp
 | [] => emp
 | z :: l => Zc (itP z.1 z.2) (prZ l)
theorem ZwB : ∀ {R W : List (List Int)}, R.length = W.length -> prH R W = prZ (R.zip W)
 | [], [], _ => rfl
 | r :: R, w :: W, h => by
  show Zc _ (prH R W) = Zc _ (prZ (R.zip W))
  rw [ZwB (by simpa using h)]
theorem Zxh : ∀ (a b : List (List Int × List Int)), prZ (a ++ b) = Zc (prZ a) (prZ b)
 | [], b => by rw [List.nil_append]; show _ = Zc emp _; rw [emp_star]
 | z :: a, b => by rw [List.cons_append]; show Zc _ (prZ (a ++ b)) = Zc (Zc _ _) _; rw [Zxh a b, star_assoc]
theorem ZDn {a b : List (List Int × List Int)} (h : a.Perm b) : prZ a = prZ b := by
 induction h with
 | nil => rfl
 | cons x _ ih => show Zc _ _ = Zc _ _; rw [ih]
 | swap x y l => show Zc _ (Zc _ _) = Zc _ (Zc _ _); rw [<- star_assoc, ZG (itP y.1 y.2), star_assoc]
 | trans _ _ i1 i2 => rw [i1, i2]
theorem ZMk {R W Q V : List (List Int)} (h : ZjR R W Q V) {x : Hl} (hp : prH Q V x) : Zc (prH R W) Zjx x := by
 obtain ⟨h1, h2, T, h3⟩ := h
 rw [ZwB h2, <- ZDn h3, Zxh, <- ZwB h1] at hp
 exact Zq (fun _ y => y) (fun _ _ => trivial) x hp
structure HoSig (S : Sig GG) : Prop where
 hn : HnSig S
 u733 : ∀ a b c d, S.usr 733 a b c d = .ints (rdN a.tR b.tI.toNat)
def aE : En := .rows [.int .i64, .str, .str]
def acC (b o A c : SX) : Ch := .rd 0 aE b o A c
def inC : Ctr := ⟨[.int, .int, .rows, .int, .int, .int], [.one (.slice (ai 0) (ai 1) z0 z0 (ai 4) (ai 5) 3)], [acC (ai 0) (ai 1) (rA 2) (ai 3)], [], [], .tup [], [acC (ai 0) (ai 1) (rA 2) (ai 3), tgC (rA 2) z0, arC (Zbm (.int (-1)) z0 (.int (-1)) z0 z0 z0) Zfu Zfu, .arr hE (.int (-1)) Zfu z0, iAr (.int (-1)) ZNy z0, prC Zfu Zfu], []⟩
def ZJF : Ctr := ⟨aA ++ [.rows, .rows], [], [tgC (rA 8) (ai 9), arC aM (rA 6) (rA 7), prC (rA 10) (rA 11)], [ZCy (rA 6) (hW 721 (rA 8) (ai 9)) (rA 10) (rA 11)], [], .tup [], [tgC (rA 8) (ai 9), Zoo (ai 0) (rA 6) (ai 1), prC (rA 6) (hW 721 (rA 8) (ai 9)), duC aM (rA 6) (rA 7)], [eLe (Zg (rA 6)) (ai 1), .f2 45 (Zg (rA 6)) (Zg (hW 721 (rA 8) (ai 9)))]⟩
theorem in_gh (S : Sig GG) (hS : HnSig S) : Zbp S inC := by
 refine Ys S fun T w0 ρ h hu hp hd hr hpre => ⟨ρ, Ext.refl _ _, ?_, fun x hx => nomatch hx⟩
 have e1 : hpDen T ρ w0 inC.pre = Zc ((acC (ai 0) (ai 1) (rA 2) (ai 3)).den T ρ w0) emp := rfl
 have e2 : hpDen T ρ w0 inC.post = Zc ((acC (ai 0) (ai 1) (rA 2) (ai 3)).den T ρ w0) (Zc (T.prd 144 w0 ((rA 2).den T ρ) (z0.den T ρ)) (Zc (T.prd 140 w0 (.rows [[-1, 0, -1, 0, 0, 0]]) (.rows [])) (Zc (rAD hE (-1) [] 0) (Zc (YU T iE (.int (-1)) (.ints []) (.int 0)) (Zc (T.prd 110 w0 (.rows []) (.rows [])) emp))))) := rfl
 rw [e1, Zd] at hpre
 rw [e2, hp, hS.p144, hS.p140, hS.ib.og.ou.ft.od.fi.p110, Zd, emp_star, U.tRi, U.tRi, ZIv (by show (0 : Int) ≠ 1; omega), show rAD hE (-1) [] 0 = emp from Ze6 _, emp_star,
  show YU T iE (.int (-1)) (.ints []) (.int 0) = emp from ZqM, emp_star, show prH [] [] = emp from rfl, Zd, show rAD prE (g0 [-1, 0, -1, 0, 0, 0]) [] (g1 [-1, 0, -1, 0, 0, 0]) = emp from Ze6 _, emp_star]
 exact du_in hpre
theorem ZM6 (S : Sig GG) (hS : HnSig S) : Zbp S ZJF := by
 refine Ys S fun T w0 ρ h hu hp hd hr hpre => ⟨ρ, Ext.refl _ _, ?_⟩
 have e1 : hpDen T ρ w0 ZJF.pre = Zc (T.prd 144 w0 ((rA 8).den T ρ) ((ai 9).den T ρ)) (Zc (T.prd 140 w0 (.rows (mOf ρ :: (ρ 6).tR)) (.rows (ρ 7).tR)) (Zc (T.prd 110 w0 (.rows (ρ 10).tR) (.rows (ρ 11).tR)) emp)) := rfl
 have e2 : hpDen T ρ w0 ZJF.post = Zc (T.prd 144 w0 ((rA 8).den T ρ) ((ai 9).den T ρ)) (Zc (rAD prE (ρ 0).tI (ρ 6).tR (ρ 1).tI) (Zc (T.prd 110 w0 (.rows (ρ 6).tR) ((hW 721 (rA 8) (ai 9)).den T ρ)) (Zc (T.prd 143 w0 (.rows (mOf ρ :: (ρ 6).tR)) (.rows (ρ 7).tR)) emp))) := rfl
 have eD : ((hW 721 (rA 8) (ai 9)).den T ρ) = .rows (Zef (ρ 8).tR (ρ 9).tI.toNat).d := by
  simp only [hW, usR, SX.den, hu, hS.u721, YJ, Z4, U.tRi, U.tIi, rA, ai]
 have r2 := hr (ZCy (rA 6) (hW 721 (rA 8) (ai 9)) (rA 10) (rA 11)) (by simp [ZJF, aA])
 have r2 : ZjR (ρ 6).tR (Zef (ρ 8).tR (ρ 9).tI.toNat).d (ρ 10).tR (ρ 11).tR := by
  have : (U.co T .bool (T.usr 726 ((rA 6).den T ρ) ((hW 721 (rA 8) (ai 9)).den T ρ) ((rA 10).den T ρ) ((rA 11).den T ρ))).tP := r2
  rw [hu, hS.u726, eD, Yw, U.tPi, U.tQi, Zi] at this
  exact this
 rw [e1, hp, hS.p144, hS.p140, hS.ib.og.ou.ft.od.fi.p110, emp_star, Zd, U.tRi, U.tRi, U.tRi, U.tRi] at hpre
 rw [e2, hp, hS.p144, hS.p143, hS.ib.og.ou.ft.od.fi.p110, emp_star, Zd, eD, U.tRi, U.tRi]
 have ha : ∀ h1, ZNf (mOf ρ :: (ρ 6).tR) (ρ 7).tR h1 -> Zc (rAD prE (ρ 0).tI (ρ 6).tR (ρ 1).tI) Zjx h1 := fun h1 hh => by
  by_cases q : (mOf ρ).getD 4 0 = 1
  ·rw [ZJx q] at hh
   obtain ⟨a, b, d, rfl, ⟨_, ha⟩, hb⟩ := hh
   rcases ha with ⟨_, ha⟩ | ha
   ·exact ⟨a, b, d, rfl, ha, hb⟩
   ·exact Zko ⟨a, b, d, rfl, ha, hb⟩
  ·rw [ZIv q] at hh; exact hh
 have h2 := Zq ha (fun _ x => ZMk r2 x) h hpre
 rw [star_assoc, <- star_assoc Zjx, ZG Zjx, star_assoc (prH _ _), <- star_assoc] at h2
 rw [<- star_assoc]
 refine ⟨Zq (fun _ x => x) (fun _ _ => trivial) h h2, fun x hx => ?_⟩
 obtain ⟨a, b, _, _, ⟨a1, b1, _, _, hc, hd2⟩, _⟩ := h2
 simp only [ZJF, List.mem_cons, List.not_mem_nil, or_false] at hx
 rcases hx with rfl | rfl
 ·rw [Zf]; exact ZfX (by simp) hc
 ·show (ap2 45 ((Zg (rA 6)).den T ρ) (ap1 32 ((hW 721 (rA 8) (ai 9)).den T ρ))).tP
  rw [p45, eD]
  have := r2.1
  show (((ρ 6).tR.length : Nat) : Int) = ((Zef (ρ 8).tR (ρ 9).tI.toNat).d.length : Nat)
  omega
def hnCp (p : SX) (k j : Nat) (A i : SX) : List Ch := [tgC A i, .cel p 0 (hnS (ai k) (Zg (rA j)) (ai (k + 1)) (ai (k + 2)) (ai (k + 3)) (ai (k + 4)) (hwI A i) (hwO A i) (ai (k + 5)) (Zg (hW 720 A i)) (ai (k + 6)) (ai (k + 7)) (ZbW (hwK A i)) (ai (k + 8))),
 arC (Zbm (ai k) (ai (k + 1)) (ai (k + 2)) (ai (k + 4)) (ai (k + 9)) (ai (k + 3))) (rA j) (rA (j + 1)), .arr hE (ai (k + 5)) (hW 720 A i) (ai (k + 6)), iAr (ai (k + 7)) (hwK A i) (ai (k + 8)), prC (rA (j + 2)) (rA (j + 3))]
def ZmC : Ctr := ⟨[.int, .int, .int, .int, .rows, .int, .int, .bytes], [.one (.slice (ai 0) (ai 1) z0 z0 (ai 2) (ai 3) 3), .one (.int .i64 (ai 6)), .one (.str (bA 7))], [acC (ai 0) (ai 1) (rA 4) (ai 5)], hQ 0 ++ [eLe (.int (-9223372036854775808)) (ai 6), eLe (ai 6) (.int 9223372036854775807)], [.bool], .one (.bool (qA 8)), [acC (ai 0) (ai 1) (rA 4) (ai 5)], [qA 8]⟩
def honI : Inv := ⟨[.int, .int, .int, .int, .int, .int, .int, .int, .int, .int, .int, .rows, .rows, .rows, .rows], [(9, .one (.int .i64 (di 0)))], hnCp (ai 8) 1000001 1000011 (rA 4) (di 0), [eLe z0 (di 0), eLe (di 0) (ai 2)] ++ hnF 1000001 1000011 (rA 4) (di 0) ++ [eLe (Zg (hW 720 (rA 4) (di 0))) (.int 399)], .f2 41 (ai 2) (di 0)⟩
def hoH : SX := hW 720 (rA 4) (ai 9)
def rdX (n : SX) : SX := usN 733 hoH n z0
def honJ : Inv := ⟨[.int, .int, .int], [(21, .one (.int .i64 (di 0))), (20, .one (sl1 (di 1) (ZbW (rdX (di 0))) (di 2)))], [iAr (di 1) (rdX (di 0)) (di 2)], [eLe z0 (di 0), eLe (di 0) (Zg hoH)] ++ okS (di 1) (ZbW (rdX (di 0))) (di 2), .f2 41 (Zg hoH) (di 0)⟩
def ZMG : Cx := { specs := [(5, [Zv3]), (6, [ZBS]), (7, [ZrI]), (8, [ZtS]), (9, [ZsN]), (10, [ZwF]), (11, [Zxt])], anns := [(3, [(5, .ghost inC [.tmp 0]), (6, .inv honI), (9, .ghost ZJF []), (21, .ghost ZEC []), (23, .inv honJ)])] }
/-! ### Leaves -/
theorem ZE4 {x : List Ent} {i : Int} (h0 : 0 <= i) (h : (x.getD i.toNat []).getD 0 0 = 2) : rdN x (i + 1).toNat = rdN x i.toNat ++ [i] := by
 rw [show (i + 1).toNat = i.toNat + 1 by omega]
 have h : xk (xa x i.toNat) = 2 := h
 show (if xk (xa x i.toNat) = 2 then _ else _) = _
 rw [if_pos h, show ((i.toNat : Nat) : Int) = i by omega]
theorem ZMS {x : List Ent} {i : Int} (h0 : 0 <= i) (h : ¬ (x.getD i.toNat []).getD 0 0 = 2) : rdN x (i + 1).toNat = rdN x i.toNat := by
 rw [show (i + 1).toNat = i.toNat + 1 by omega]
 have h : ¬ xk (xa x i.toNat) = 2 := h
 show (if xk (xa x i.toNat) = 2 then _ else _) = _
 rw [if_neg h]
theorem tm_b {a : Int} {n : Nat} (h : ¬ (n : Int) = 0) : -(n : Int) < a.tmod n /\ a.tmod n < n := by
 have h1 : (a.tmod n).natAbs = a.natAbs % (n : Int).natAbs := Int.natAbs_tmod ..
 have h2 := Nat.mod_lt a.natAbs (show 0 < (n : Int).natAbs by omega)
 omega
theorem ZMA {c : Bool} (h : c = false) (h2 : c = true) : false = true := by rw [<- h, h2]
theorem ap44 {a b : Int} : (ap2 44 (U.int a : U GG) (U.int b)).tI = a.tmod b := rfl
theorem rd_00 (x : List Ent) : rdN x 0 = [] := rfl
theorem tm_r {a : Int} {x : List Ent} {i : Int} (h : ¬ (((rdN x i.toNat).length : Nat) : Int) = 0) (hx : i <= (x.length : Nat)) (h4 : x.length <= 400) :
  -(((rdN x i.toNat).length : Nat) : Int) < a.tmod ((rdN x i.toNat).length : Nat) /\ a.tmod ((rdN x i.toNat).length : Nat) < ((rdN x i.toNat).length : Nat) /\ (rdN x i.toNat).length <= 400 := by
 have t := tm_b (a := a) h
 have t2 := Zwd x i.toNat
 exact ⟨t.1, t.2, by omega⟩
theorem rd_8 {x : List Ent} {i : Int} (hx : i <= (x.length : Nat)) (h4 : x.length <= 400) : ((((rdN x i.toNat).length : Nat) : Int) + 1) * 8 <= 140737488355328 := by
 have t2 := Zwd x i.toNat
 omega
theorem ZH4 {x : List Ent} {n : Nat} {j : Int} (h0 : 0 <= j) (h1 : j < ((rdN x n).length : Nat)) : 0 <= (rdN x n).getD j.toNat 0 /\ (rdN x n).getD j.toNat 0 < (n : Nat) /\ xk (xa x ((rdN x n).getD j.toNat 0).toNat) = 2 := by
 refine ZvU x n ?_
 rw [ZNT, ZNW (by omega)]; exact ZOg _
theorem ZLi {x : List Ent} {n : Nat} {j : Int} (h0 : 0 <= j) (h1 : j < ((rdN x n).length : Nat)) : 0 <= (rdN x n).getD j.toNat 0 := (ZH4 h0 h1).1
theorem ZL9 {x : List Ent} {n : Nat} {j : Int} (h0 : 0 <= j) (h1 : j < ((rdN x n).length : Nat)) (hn : n <= x.length) : (rdN x n).getD j.toNat 0 < (x.length : Nat) := by
 have := (ZH4 h0 h1).2.1
 omega
theorem tr_a {r : Ent} {V : List UInt8} (q : r.getD 4 0 = 0) (h2 : xk r = 2) (ht : xt r = 0) : [r.getD 0 0, r.getD 1 0, ((Zj (Yp (r.getD 2 0).toNat) : Nat) : Int), ((Zj V : Nat) : Int), 1, r.getD 5 0] = trE r V := by
 have h2 : r.getD 0 0 = 2 := h2
 have ht : r.getD 5 0 = 0 := ht
 unfold trE
 rw [if_pos (by unfold Zbc; rw [q]; rfl), h2, ht]; rfl
theorem tr_b {r : Ent} {V : List UInt8} {c : Int} (q : ¬ r.getD 4 0 = 0) (q2 : ¬ Yp (r.getD 3 0).toNat = V) (hc : c = 1) (h2 : xk r = 2) (ht : xt r = 0) : [r.getD 0 0, r.getD 1 0, ((Zj (Yp (r.getD 2 0).toNat) : Nat) : Int), ((Zj V : Nat) : Int), c, r.getD 5 0] = trE r V := by
 have h2 : r.getD 0 0 = 2 := h2
 have ht : r.getD 5 0 = 0 := ht
 have hh : Zbc r = true := by unfold Zbc; rw [show (r.getD 4 0 == 0) = false from beq_eq_false_iff_ne.2 q]; rfl
 have q2 : YX r ≠ V := q2
 unfold trE
 rw [if_neg (by rw [hh]; exact fun z => nomatch z), if_pos q2, h2, ht, hc]; rfl
theorem tr_d {r : Ent} {V : List UInt8} (q : ¬ r.getD 4 0 = 0) (q2 : ¬ Yp (r.getD 3 0).toNat = V) : xk r = 2 -> xt r = 0 -> [r.getD 0 0, r.getD 1 0, ((Zj (Yp (r.getD 2 0).toNat) : Nat) : Int), ((Zj V : Nat) : Int), (ap1 3 (U.bool (!(r.getD 4 0 == 0)) : U GG)).tI, r.getD 5 0] = trE r V :=
 tr_b q q2 (by rw [show (r.getD 4 0 == 0) = false from beq_eq_false_iff_ne.2 q]; rfl)
theorem tr_c {r : Ent} {V : List UInt8} (q : ¬ r.getD 4 0 = 0) (q2 : Yp (r.getD 3 0).toNat = V) (h2 : xk r = 2) (ht : xt r = 0) : [r.getD 0 0, r.getD 1 0, ((Zj (Yp (r.getD 2 0).toNat) : Nat) : Int), ((Zj [] : Nat) : Int), 0, r.getD 5 0] = trE r V := by
 have h2 : r.getD 0 0 = 2 := h2
 have ht : r.getD 5 0 = 0 := ht
 have hh : Zbc r = true := by unfold Zbc; rw [show (r.getD 4 0 == 0) = false from beq_eq_false_iff_ne.2 q]; rfl
 have q2 : YX r = V := q2
 unfold trE
 rw [if_neg (by rw [hh]; exact fun z => nomatch z), if_neg (fun z => z q2), h2, ht]; rfl
theorem ZrK {s : Hn} (hi : HI s) (hl : s.h.length <= 400) {V : List UInt8} {n : Nat} {j : Int} {row : List Int} {y1 y2 y3 : Int}
  (e1 : y1 = (Zfe (List.take s.h.length (s.h.set ((rdN s.h n).getD j.toNat 0).toNat row))).1) (e2 : y2 = (Zfe (List.take s.h.length (s.h.set ((rdN s.h n).getD j.toNat 0).toNat row))).2.1)
  (e3 : y3 = (Zfe (List.take s.h.length (s.h.set ((rdN s.h n).getD j.toNat 0).toNat row))).2.2) (h0 : 0 <= j) (h1 : j < ((rdN s.h n).length : Nat)) (hn : n <= s.h.length)
  (hr : xk (s.h.getD ((rdN s.h n).getD j.toNat 0).toNat []) = 2 -> xt (s.h.getD ((rdN s.h n).getD j.toNat 0).toNat []) = 0 -> row = trE (s.h.getD ((rdN s.h n).getD j.toNat 0).toNat []) V) :
  y1 = (rdN s.h n).getD j.toNat 0 /\ (y2 = 3 \/ y2 = 4) /\ y3 = 0 := by
 obtain ⟨m0, m1, m2⟩ := ZH4 h0 h1
 generalize (rdN s.h n).getD j.toNat 0 = m at *
 have hm : m.toNat < s.h.length := by omega
 have hx : xt (xa s.h m.toNat) = 0 := by
  have hmy := hi.t.my (xa s.h m.toNat) (by unfold xa; rw [ZNT, ZNW hm]; exact ZOg _)
  unfold Za2 at hmy
  rw [if_neg (by omega), if_pos m2] at hmy
  simp at hmy
  exact hmy.2
 have ht := ZIl hi hl hm m2 V
 rw [ZN5 (by rw [List.length_set]; exact ZNJ _), hr m2 hx] at e1 e2 e3
 have e : trE (s.h.getD m.toNat []) V = trE (xa s.h m.toNat) V := rfl
 rw [e] at e1 e2 e3
 obtain ⟨t1, t2, t3⟩ := ht
 exact ⟨by omega, by omega, by omega⟩
def ZFZ : SX := vR 720 (r 4)
def ZDJ : SX := .f1 32 ZFZ
def ZFG : SX := e ZDJ z
def ZIF : SX := o 723 (r 4)
def ZHZ : SX := .f1 30 ZIF
def ZGP : SX := e ZHZ z
def ZaT : SX := wR 720 (r 4) (a 9)
def ZaR : SX := .f1 32 ZaT
def ZGN : SX := wN 723 (r 4) (a 9)
def ZlK : SX := .f1 30 ZGN
def ZrV : SX := wR 721 (r 4) (a 9)
def ZCa : SX := wR 722 (r 4) (a 9)
def ZAf : SX := .f3 112 (r 4) (a 9) z
def Zw5 : SX := .f1 36 (.f3 112 (r 4) (a 9) (k 1))
def ZwK : SX := .f1 36 (.f3 112 (r 4) (a 9) (k 2))
def ZvQ : SX := d 724 (r 4) (a 9)
def ZxX : SX := .f1 32 ZrV
def ZdU : SX := .f2 40 (a 9) (k 1)
def Zun : SX := .f1 32 (wR 720 (r 4) ZdU)
def Zw3 : SX := .f1 30 (wN 723 (r 4) ZdU)
def ZBT : SX := l z (a 31)
def ZxN : SX := .f2 41 (a 2) ZdU
def ZB6 : SX := l (.f1 32 (r 20)) (a 11)
def ZzG : SX := e (.f1 32 (r 20)) ZxX
def ZAB : SX := l ZaR ZaR
def Zx5 : SX := l ZaR (k 9223372036854775807)
def ZeE : SX := .f2 115 ZaT ZaR
def ZvH : SX := e (a 24) (v 520 ZeE)
def ZyZ : SX := e (a 25) (v 521 ZeE)
def Zwo : SX := e (a 26) (v 522 ZeE)
def ZwI : SX := e (a 30) (v 604 ZeE)
def ZvY : SX := vR 603 ZeE
def Zza : SX := e (.f1 32 (r 28)) (.f1 32 ZvY)
def ZCb : SX := l (.f1 32 (r 28)) (a 29)
def Zys : SX := .f2 50 (l z (a 27)) (e (.f1 32 (r 28)) z)
def Zwe : SX := .f2 48 (q 33) (p 661 ZeE)
def Zy5 : SX := e (a 34) (v 662 ZeE)
def ZxC : SX := o 660 ZeE
def ZgL : SX := .f1 30 ZxC
def Zx6 : SX := l ZgL (a 32)
def Zn6 : SX := e ZgL z
def ZvP : SX := .f2 50 ZBT Zn6
def ZBy : SX := l ZgL (k 8)
def ZBP : SX := e (.f1 32 (r 28)) (.f1 32 (r 20))
def Zzn : SX := .f2 155 ZvY ZrV
def Zzr : SX := l (.f1 32 (r 28)) (k 1048576)
def ZsA : SX := e (a 24) (k (-1))
def ZtU : SX := e (a 25) z
def Ztg : SX := e (a 26) z
def ZtB : SX := e (a 30) z
def Zzi : SX := .f1 2 ZtB
def Zz2 : SX := t (k 8) ZlK
def Ztk : SX := e (a 34) (k 2)
def Zye : SX := .f1 2 Zn6
def ZBJ : SX := o 733 ZaT
def Zw6 : SX := .f1 30 ZBJ
def Zl4 : SX := l Zw6 z
def ZjK : SX := e Zw6 z
def Zno : SX := .f2 50 (.bool false) ZjK
def Zmp : SX := .f2 155 ZBJ (.f1 152 z)
def Zl1 : SX := l z (a 35)
def ZmA : SX := l (a 35) ZaR
def ZjA : SX := wN 733 ZaT (a 35)
def Zc6 : SX := .f1 30 ZjA
def ZmK : SX := l Zc6 (a 37)
def ZAX : SX := l z (a 36)
def Zhs : SX := e Zc6 z
def ZmN : SX := .f2 50 ZAX Zhs
def Zne : SX := t (a 35) ZaR
def Zi9 : SX := e (.f3 112 ZaT (a 35) z) (k 2)
def Zcg : SX := l z (a 38)
def Zm0 : SX := l Zc6 Zc6
def ZmJ : SX := .f2 40 Zc6 (k 1)
def Zl9 : SX := l (.f2 42 ZmJ (k 8)) k1
def Zl8 : SX := l ZmJ (a 40)
def Zzv : SX := l z (a 39)
def Zn0 : SX := .f2 50 Zzv (e ZmJ z)
def Zi3 : SX := .f2 40 (a 35) (k 1)
def Zep : SX := .f1 23 Zi3
def ZBO : SX := .f2 41 ZaR Zi3
def Zer : SX := l z ZBO
def Zeu : SX := t ZBO (.f2 41 ZaR (a 35))
def Zes : SX := l z Zi3
def Zev : SX := l Zi3 ZaR
def ZsY : SX := wN 733 ZaT Zi3
def Zi1 : SX := .f1 30 ZsY
def ZnE : SX := l Zi1 (a 40)
def ZAJ : SX := e Zi1 z
def Zmx : SX := .f2 50 Zzv ZAJ
def ZnH : SX := .f2 155 ZsY (.f2 119 ZjA (.f2 122 (a 35) (.f1 152 z)))
def Znv : SX := e Zi1 ZmJ
def ZmX : SX := .f1 2 Zi9
def ZnQ : SX := l Zi1 (a 37)
def Zoc : SX := .f2 50 ZAX ZAJ
def Zns : SX := .f2 155 ZsY ZjA
def Zn8 : SX := e Zi1 Zc6
def Zme : SX := l ZaR (a 35)
def Znh : SX := .f1 2 Zhs
def ZjZ : SX := .f2 44 (a 6) Zc6
def ZlS : SX := t ZjZ z
def Zin : SX := .f2 40 ZjZ Zc6
def ZgJ : SX := .f1 23 Zin
def Zip : SX := l z Zin
def Zif : SX := t Zin Zc6
def Zaj : SX := .f2 110 ZjA Zin
def ZgH : SX := l z Zaj
def Zhj : SX := t Zaj ZaR
def Zfr : SX := e (.f3 112 ZaT Zaj (k 4)) z
def Zlb : SX := .f3 112 ZaT Zaj z
def Zke : SX := .f3 112 ZaT Zaj (k 1)
def Zj6 : SX := .f1 35 (.f1 36 (.f3 112 ZaT Zaj (k 2)))
def Zla : SX := .f2 122 (.f3 112 ZaT Zaj (k 5)) (.f1 152 z)
def Zln : SX := .f2 115 (.f3 132 ZaT Zaj (.f2 122 Zlb (.f2 122 Zke (.f2 122 Zj6 (.f2 122 (.f1 35 (b 7)) (.f2 122 (k 1) Zla)))))) ZaR
def Zij : SX := e (a 39) (v 520 Zln)
def Zhu : SX := e (a 40) (v 521 Zln)
def Zio : SX := e (a 41) (v 522 Zln)
def YZ : SX := e (a 39) Zaj
def ZS : SX := e (a 40) (k 3)
def ZV : SX := .f1 2 ZS
def ZN : SX := e (a 40) (k 4)
def Zr : SX := e (a 41) z
def ZU : SX := .f1 2 ZN
def Zal : SX := .f1 2 YZ
def ZfH : SX := .f1 2 Zfr
def Zfh : SX := .f1 2 (.f2 150 (.f1 36 (.f3 112 ZaT Zaj (k 3))) (b 7))
def Zj8 : SX := .f2 115 (.f3 132 ZaT Zaj (.f2 122 Zlb (.f2 122 Zke (.f2 122 Zj6 (.f2 122 (.f1 35 (b 7)) (.f2 122 (.f1 3 ZfH) Zla)))))) ZaR
def Zhv : SX := e (a 39) (v 520 Zj8)
def ZgV : SX := e (a 40) (v 521 Zj8)
def ZiN : SX := e (a 41) (v 522 Zj8)
def ZhD : SX := .f1 2 Zfh
def ZkG : SX := .f2 115 (.f3 132 ZaT Zaj (.f2 122 Zlb (.f2 122 Zke (.f2 122 Zj6 (.f2 122 (.f1 35 (.byt [])) (.f2 122 z Zla)))))) ZaR
def Ziy : SX := e (a 39) (v 520 ZkG)
def ZgO : SX := e (a 40) (v 521 ZkG)
def Zg9 : SX := e (a 41) (v 522 ZkG)
def ZhZ : SX := l z ZjZ
def ZgW : SX := t ZjZ Zc6
def Zag : SX := .f2 110 ZjA ZjZ
def Zhz : SX := l z Zag
def ZgN : SX := t Zag ZaR
def Zfn : SX := e (.f3 112 ZaT Zag (k 4)) z
def ZkZ : SX := .f3 112 ZaT Zag z
def Zld : SX := .f3 112 ZaT Zag (k 1)
def ZkT : SX := .f1 35 (.f1 36 (.f3 112 ZaT Zag (k 2)))
def ZlA : SX := .f2 122 (.f3 112 ZaT Zag (k 5)) (.f1 152 z)
def ZlC : SX := .f2 115 (.f3 132 ZaT Zag (.f2 122 ZkZ (.f2 122 Zld (.f2 122 ZkT (.f2 122 (.f1 35 (b 7)) (.f2 122 (k 1) ZlA)))))) ZaR
def ZhI : SX := e (a 39) (v 520 ZlC)
def ZhY : SX := e (a 40) (v 521 ZlC)
def ZiF : SX := e (a 41) (v 522 ZlC)
def Y2 : SX := e (a 39) Zag
def Zam : SX := .f1 2 Y2
def ZfM : SX := .f1 2 Zfn
def Ze5 : SX := .f1 2 (.f2 150 (.f1 36 (.f3 112 ZaT Zag (k 3))) (b 7))
def Zlc : SX := .f2 115 (.f3 132 ZaT Zag (.f2 122 ZkZ (.f2 122 Zld (.f2 122 ZkT (.f2 122 (.f1 35 (b 7)) (.f2 122 (.f1 3 ZfM) ZlA)))))) ZaR
def ZhE : SX := e (a 39) (v 520 Zlc)
def Zhn : SX := e (a 40) (v 521 Zlc)
def Ziq : SX := e (a 41) (v 522 Zlc)
def Zis : SX := .f1 2 Ze5
def Zlj : SX := .f2 115 (.f3 132 ZaT Zag (.f2 122 ZkZ (.f2 122 Zld (.f2 122 ZkT (.f2 122 (.f1 35 (.byt [])) (.f2 122 z ZlA)))))) ZaR
def ZhS : SX := e (a 39) (v 520 Zlj)
def Zh4 : SX := e (a 40) (v 521 Zlj)
def Zg1 : SX := e (a 41) (v 522 Zlj)
def Zry : SX := .f1 2 Ztk
def ZqQ : SX := l ZlK (k 8)
def ZqP : SX := e ZgL ZgL
def ZoO : SX := e ZlK ZlK
def Zp7 : SX := .f2 155 ZxC ZGN
def ZqL : SX := l ZgL (k 1048576)
def Zk4 : SX := e (a 34) z
def ZpJ : SX := .f1 2 (.f1 2 (q 33))
def Zpg : SX := .f1 2 Zk4
def Zpy : SX := .f1 2 Ztg
def ZpB : SX := .f1 2 ZtU
def Zpx : SX := .f1 2 ZsA
def ZKL : VC := i (l z (a 2)) (i (e (a 2) (.f1 32 (r 4))) (i (l (a 2) (a 3)) (i (l (a 2) (k 9223372036854775807)) (i (l k3 (a 6)) (i (l (a 6) (k 9223372036854775807)) (u 8 .int (i (l z (a 8)) (n (e z (v 727 (r 4))) (n (l ZDJ z) (n (.f2 50 (.bool false) ZFG) (n (l ZHZ z) (n (.f2 50 (.bool false) ZGP) (n (.us .bool 726 (.f1 154 z) (vR 721 (r 4)) (.f1 154 z) (.f1 154 z)) (n (l ZDJ (k 399)) (n (.f2 155 ZIF (.f1 152 z)) (n (.f2 155 ZFZ (.f1 154 z)) (n ZGP (n ZFG (n (.f2 155 (p 725 (r 4)) (.bool false)) (n (e (v 724 (r 4)) z) (u 9 .int (u 10 .int (u 11 .int (u 12 .int (u 13 .int (u 14 .int (u 15 .int (u 16 .int (u 17 .int (u 18 .int (u 19 .int (u 20 .rows (u 21 .rows (u 22 .rows (u 23 .rows (i (l z (a 9)) (i (l (a 9) (a 2)) (i (e (a 19) (d 727 (r 4) (a 9))) (i (l ZaR (a 16)) (i (.f2 50 (l z (a 15)) (e ZaR z)) (i (l ZlK (a 18)) (i (.f2 50 (l z (a 17)) (e ZlK z)) (i (.us .bool 726 (r 20) ZrV (r 22) (r 23)) (i (.f2 50 (e (a 19) z) (.us .bool 726 (r 21) ZCa (r 22) (r 23))) (i (l ZaR (k 399)) (.and (i (t (a 9) (a 2)) (.and (i (t ZaR (k 398)) (n (t (a 9) (.f1 32 (r 4))) (n (e ZAf ZAf) (n (.f2 155 Zw5 Zw5) (n (.f2 155 ZwK ZwK) (n (l ZaR (k 900)) (n (l ZlK (k 900)) (n (l z ZvQ) (n (l ZvQ (k 900)) (n (l ZxX (k 900)) (n (l (.f1 32 ZCa) (k 900)) (u 24 .int (u 25 .int (u 26 .int (u 27 .int (u 28 .int (u 29 .int (u 30 .int (u 31 .int (u 32 .int (u 33 .int (u 34 .rows (u 35 .rows (u 36 .rows (u 37 .rows (i (e (a 33) (d 727 (r 4) ZdU)) (i (l Zun (a 30)) (i (.f2 50 (l z (a 29)) (e Zun z)) (i (l Zw3 (a 32)) (i (.f2 50 ZBT (e Zw3 z)) (i (.us .bool 726 (r 34) (wR 721 (r 4) ZdU) (r 36) (r 37)) (i (.f2 50 (e (a 33) z) (.us .bool 726 (r 35) (wR 722 (r 4) ZdU) (r 36) (r 37))) (n (.f1 23 ZdU) (n (l z ZxN) (n (t ZxN (.f2 41 (a 2) (a 9))) (n (l z ZdU) (n (l ZdU (a 2)) (n (l Zun (k 399)) .tt)))))))))))))))))))))))))))))))))))))) (i (l (k 398) ZaR) (i ZB6 (i ZzG (n ZAB (n Zx5 (u 24 .int (u 25 .int (u 26 .int (i ZvH (i ZyZ (i Zwo (u 27 .int (u 28 .rows (u 29 .int (u 30 .int (i ZwI (i Zza (i ZCb (i Zys (u 31 .int (u 32 .int (u 33 .bool (u 34 .int (i Zwe (i Zy5 (i Zx6 (i ZvP (i ZBy (n ZBP (n Zzn (n Zzr (.and (i ZsA (.and (i ZtU (.and (i Ztg (.and (i Zzi (n (.bool false) .tt)) (i ZtB (.and (i Zz2 (.and (i Ztk (.and (i (.f1 2 (q 33)) (.and (i Zye (n (.bool false) .tt)) (i Zn6 (n Zl4 (n Zno (n Zmp (n ZjK (u 35 .int (u 36 .int (u 37 .int (i Zl1 (i ZmA (i ZmK (i ZmN (.and (i Zne (.and (i Zi9 (u 38 .int (i Zcg (n Zm0 (n Zl9 (u 39 .int (u 40 .int (i Zl8 (i Zn0 (n Zep (n Zer (n Zeu (n Zes (n Zev (n ZnE (n Zmx (n ZnH (n Znv .tt)))))))))))))))))) (i ZmX (n Zep (n Zer (n Zeu (n Zes (n Zev (n ZnQ (n Zoc (n Zns (n Zn8 .tt)))))))))))) (i Zme (.and (i Zhs .tt) (i Znh (.and (i ZlS (n ZgJ (n Zip (n Zif (n ZgH (n Zhj (u 38 .int (i Zcg (.and (i Zfr (u 39 .int (u 40 .int (u 41 .int (i Zij (i Zhu (i Zio (.and (i YZ (.and (i ZV (.and (i ZN (n Zr .tt)) (i ZU (n (.bool false) .tt)))) (i ZS (n Zr .tt)))) (i Zal (n (.bool false) .tt)))))))))) (i ZfH (.and (i Zfh (u 39 .int (u 40 .int (u 41 .int (i Zhv (i ZgV (i ZiN (.and (i YZ (.and (i ZV (.and (i ZN (n Zr .tt)) (i ZU (n (.bool false) .tt)))) (i ZS (n Zr .tt)))) (i Zal (n (.bool false) .tt)))))))))) (i ZhD (u 39 .int (u 40 .int (u 41 .int (i Ziy (i ZgO (i Zg9 (.and (i YZ (.and (i ZV (.and (i ZN (n Zr .tt)) (i ZU (n (.bool false) .tt)))) (i ZS (n Zr .tt)))) (i Zal (n (.bool false) .tt))))))))))))))))))))) (i ZhZ (n ZgW (n Zhz (n ZgN (u 38 .int (i Zcg (.and (i Zfn (u 39 .int (u 40 .int (u 41 .int (i ZhI (i ZhY (i ZiF (.and (i Y2 (.and (i ZV (.and (i ZN (n Zr .tt)) (i ZU (n (.bool false) .tt)))) (i ZS (n Zr .tt)))) (i Zam (n (.bool false) .tt)))))))))) (i ZfM (.and (i Ze5 (u 39 .int (u 40 .int (u 41 .int (i ZhE (i Zhn (i Ziq (.and (i Y2 (.and (i ZV (.and (i ZN (n Zr .tt)) (i ZU (n (.bool false) .tt)))) (i ZS (n Zr .tt)))) (i Zam (n (.bool false) .tt)))))))))) (i Zis (u 39 .int (u 40 .int (u 41 .int (i ZhS (i Zh4 (i Zg1 (.and (i Y2 (.and (i ZV (.and (i ZN (n Zr .tt)) (i ZU (n (.bool false) .tt)))) (i ZS (n Zr .tt)))) (i Zam (n (.bool false) .tt)))))))))))))))))))))))))))))))))))))) (i (q 33) (n (.bool false) .tt)))) (i Zry (n (.bool false) .tt)))) (i ZqQ (n ZqP (n ZoO (n Zp7 (n ZqL (.and (i Zk4 (.and (i ZpJ (n Zl4 (n Zno (n Zmp (n ZjK (u 35 .int (u 36 .int (u 37 .int (i Zl1 (i ZmA (i ZmK (i ZmN (.and (i Zne (.and (i Zi9 (u 38 .int (i Zcg (n Zm0 (n Zl9 (u 39 .int (u 40 .int (i Zl8 (i Zn0 (n Zep (n Zer (n Zeu (n Zes (n Zev (n ZnE (n Zmx (n ZnH (n Znv .tt)))))))))))))))))) (i ZmX (n Zep (n Zer (n Zeu (n Zes (n Zev (n ZnQ (n Zoc (n Zns (n Zn8 .tt)))))))))))) (i Zme (.and (i Zhs .tt) (i Znh (.and (i ZlS (n ZgJ (n Zip (n Zif (n ZgH (n Zhj (u 38 .int (i Zcg (.and (i Zfr (u 39 .int (u 40 .int (u 41 .int (i Zij (i Zhu (i Zio (.and (i YZ (.and (i ZV (.and (i ZN (n Zr .tt)) (i ZU (n (.bool false) .tt)))) (i ZS (n Zr .tt)))) (i Zal (n (.bool false) .tt)))))))))) (i ZfH (.and (i Zfh (u 39 .int (u 40 .int (u 41 .int (i Zhv (i ZgV (i ZiN (.and (i YZ (.and (i ZV (.and (i ZN (n Zr .tt)) (i ZU (n (.bool false) .tt)))) (i ZS (n Zr .tt)))) (i Zal (n (.bool false) .tt)))))))))) (i
 ZhD (u 39 .int (u 40 .int (u 41 .int (i Ziy (i ZgO (i Zg9 (.and (i YZ (.and (i ZV (.and (i ZN (n Zr .tt)) (i ZU (n (.bool false) .tt)))) (i ZS (n Zr .tt)))) (i Zal (n (.bool false) .tt))))))))))))))))))))) (i ZhZ (n ZgW (n Zhz (n ZgN (u 38 .int (i Zcg (.and (i Zfn (u 39 .int (u 40 .int (u 41 .int (i ZhI (i ZhY (i ZiF (.and (i Y2 (.and (i ZV (.and (i ZN (n Zr .tt)) (i ZU (n (.bool false) .tt)))) (i ZS (n Zr .tt)))) (i Zam (n (.bool false) .tt)))))))))) (i ZfM (.and (i Ze5 (u 39 .int (u 40 .int (u 41 .int (i ZhE (i Zhn (i Ziq (.and (i Y2 (.and (i ZV (.and (i ZN (n Zr .tt)) (i ZU (n (.bool false) .tt)))) (i ZS (n Zr .tt)))) (i Zam (n (.bool false) .tt)))))))))) (i Zis (u 39 .int (u 40 .int (u 41 .int (i ZhS (i Zh4 (i Zg1 (.and (i Y2 (.and (i ZV (.and (i ZN (n Zr .tt)) (i ZU (n (.bool false) .tt)))) (i ZS (n Zr .tt)))) (i Zam (n (.bool false) .tt)))))))))))))))))))))))))))))))))))) (i (.f1 2 (q 33)) (n (.bool false) .tt)))) (i Zpg (n (.bool false) .tt)))))))))))) (i Zpy (n (.bool false) .tt)))) (i ZpB (n (.bool false) .tt)))) (i Zpx (n (.bool false) .tt)))))))))))))))))))))))))))))))))))) (i (l (a 2) (a 9)) (i ZB6 (i ZzG (n ZAB (n Zx5 (u 24 .int (u 25 .int (u 26 .int (i ZvH (i ZyZ (i Zwo (u 27 .int (u 28 .rows (u 29 .int (u 30 .int (i ZwI (i Zza (i ZCb (i Zys (u 31 .int (u 32 .int (u 33 .bool (u 34 .int (i Zwe (i Zy5 (i Zx6 (i ZvP (i ZBy (n ZBP (n Zzn (n Zzr (.and (i ZsA (.and (i ZtU (.and (i Ztg (.and (i Zzi (n (.bool false) .tt)) (i ZtB (.and (i Zz2 (.and (i Ztk (.and (i (.f1 2 (q 33)) (.and (i Zye (n (.bool false) .tt)) (i Zn6 (n Zl4 (n Zno (n Zmp (n ZjK (u 35 .int (u 36 .int (u 37 .int (i Zl1 (i ZmA (i ZmK (i ZmN (.and (i Zne (.and (i Zi9 (u 38 .int (i Zcg (n Zm0 (n Zl9 (u 39 .int (u 40 .int (i Zl8 (i Zn0 (n Zep (n Zer (n Zeu (n Zes (n Zev (n ZnE (n Zmx (n ZnH (n Znv .tt)))))))))))))))))) (i ZmX (n Zep (n Zer (n Zeu (n Zes (n Zev (n ZnQ (n Zoc (n Zns (n Zn8 .tt)))))))))))) (i Zme (.and (i Zhs .tt) (i Znh (.and (i ZlS (n ZgJ (n Zip (n Zif (n ZgH (n Zhj (u 38 .int (i Zcg (.and (i Zfr (u 39 .int (u 40 .int (u 41 .int (i Zij (i Zhu (i Zio (.and (i YZ (.and (i ZV (.and (i ZN (n Zr .tt)) (i ZU (n (.bool false) .tt)))) (i ZS (n Zr .tt)))) (i Zal (n (.bool false) .tt)))))))))) (i ZfH (.and (i Zfh (u 39 .int (u 40 .int (u 41 .int (i Zhv (i ZgV (i ZiN (.and (i YZ (.and (i ZV (.and (i ZN (n Zr .tt)) (i ZU (n (.bool false) .tt)))) (i ZS (n Zr .tt)))) (i Zal (n (.bool false) .tt)))))))))) (i ZhD (u 39 .int (u 40 .int (u 41 .int (i Ziy (i ZgO (i Zg9 (.and (i YZ (.and (i ZV (.and (i ZN (n Zr .tt)) (i ZU (n (.bool false) .tt)))) (i ZS (n Zr .tt)))) (i Zal (n (.bool false) .tt))))))))))))))))))))) (i ZhZ (n ZgW (n Zhz (n ZgN (u 38 .int (i Zcg (.and (i Zfn (u 39 .int (u 40 .int (u 41 .int (i ZhI (i ZhY (i ZiF (.and (i Y2 (.and (i ZV (.and (i ZN (n Zr .tt)) (i ZU (n (.bool false) .tt)))) (i ZS (n Zr .tt)))) (i Zam (n (.bool false) .tt)))))))))) (i ZfM (.and (i Ze5 (u 39 .int (u 40 .int (u 41 .int (i ZhE (i Zhn (i Ziq (.and (i Y2 (.and (i ZV (.and (i ZN (n Zr .tt)) (i ZU (n (.bool false) .tt)))) (i ZS (n Zr .tt)))) (i Zam (n (.bool false) .tt)))))))))) (i Zis (u 39 .int (u 40 .int (u 41 .int (i ZhS (i Zh4 (i Zg1 (.and (i Y2 (.and (i ZV (.and (i ZN (n Zr .tt)) (i ZU (n (.bool false) .tt)))) (i ZS (n Zr .tt)))) (i Zam (n (.bool false) .tt)))))))))))))))))))))))))))))))))))))) (i (q 33) (n (.bool false) .tt)))) (i Zry (n (.bool false) .tt)))) (i ZqQ (n ZqP (n ZoO (n Zp7 (n ZqL (.and (i Zk4 (.and (i ZpJ (n Zl4 (n Zno (n Zmp (n ZjK (u 35 .int (u 36 .int (u 37 .int (i Zl1 (i ZmA (i ZmK (i ZmN (.and (i Zne (.and (i Zi9 (u 38 .int (i Zcg (n Zm0 (n Zl9 (u 39 .int (u 40 .int (i Zl8 (i Zn0 (n Zep (n Zer (n Zeu (n Zes (n Zev (n ZnE (n Zmx (n ZnH (n Znv .tt)))))))))))))))))) (i ZmX (n Zep (n Zer (n Zeu (n Zes (n Zev (n ZnQ (n Zoc (n Zns (n Zn8 .tt)))))))))))) (i Zme (.and (i Zhs .tt) (i Znh (.and (i ZlS (n ZgJ (n Zip (n Zif (n ZgH (n Zhj (u 38 .int (i Zcg (.and (i Zfr (u 39 .int (u 40 .int (u 41 .int (i Zij (i Zhu (i Zio (.and (i YZ (.and (i ZV (.and (i ZN (n Zr .tt)) (i ZU (n (.bool false) .tt)))) (i ZS (n Zr .tt)))) (i Zal (n (.bool false) .tt)))))))))) (i ZfH (.and (i Zfh (u 39 .int (u 40 .int (u 41 .int (i Zhv (i ZgV (i ZiN (.and (i YZ (.and (i ZV (.and (i ZN (n Zr .tt)) (i ZU (n (.bool false) .tt)))) (i ZS (n Zr .tt)))) (i Zal (n (.bool false) .tt)))))))))) (i ZhD (u 39 .int (u 40 .int (u 41 .int (i Ziy (i ZgO (i Zg9 (.and (i YZ (.and (i ZV (.and (i ZN (n Zr .tt)) (i ZU (n (.bool false) .tt)))) (i ZS (n Zr .tt)))) (i Zal (n (.bool false) .tt))))))))))))))))))))) (i ZhZ (n ZgW (n Zhz (n ZgN (u 38 .int (i Zcg (.and (i Zfn (u 39 .int (u 40 .int (u 41 .int (i ZhI (i ZhY (i ZiF (.and (i Y2 (.and (i ZV (.and (i ZN (n Zr .tt)) (i ZU (n (.bool false) .tt)))) (i ZS (n Zr .tt)))) (i Zam (n (.bool
 false) .tt)))))))))) (i ZfM (.and (i Ze5 (u 39 .int (u 40 .int (u 41 .int (i ZhE (i Zhn (i Ziq (.and (i Y2 (.and (i ZV (.and (i ZN (n Zr .tt)) (i ZU (n (.bool false) .tt)))) (i ZS (n Zr .tt)))) (i Zam (n (.bool false) .tt)))))))))) (i Zis (u 39 .int (u 40 .int (u 41 .int (i ZhS (i Zh4 (i Zg1 (.and (i Y2 (.and (i ZV (.and (i ZN (n Zr .tt)) (i ZU (n (.bool false) .tt)))) (i ZS (n Zr .tt)))) (i Zam (n (.bool false) .tt)))))))))))))))))))))))))))))))))))) (i (.f1 2 (q 33)) (n (.bool false) .tt)))) (i Zpg (n (.bool false) .tt)))))))))))) (i Zpy (n (.bool false) .tt)))) (i ZpB (n (.bool false) .tt)))) (i Zpx (n (.bool false) .tt))))))))))))))))))))))))))))))))))))))))))))))))))))))))))))))))))))))))))))))))
theorem ZML : Zcl Try.prog ZMG 12 3 ZmC = ZKL := by kernel_rfl
set_option maxHeartbeats 4000000 in
theorem ZNa (S : Sig GG) (hS : HoSig S) (haw : ZR S Try.prog 5 Zv3) : ZR S Try.prog 3 ZmC := by
 refine Zo S (C := ZMG) (fuel := 12) (YV ⟨Zm (by decide) haw, Zm (by decide) (ZMO S hS.hn), Zm (by decide) (ZES S hS.hn.ib.og.ou.ft.od.fi.js), Zm (by decide) (ZFn S hS.hn.ib.og.ou.ft.od.fi), Zm (by decide) (ZEO S hS.hn.ib.og), Zm (by decide) (ZJZ S hS.hn.ib.og.ou.ft.od.fi), Zm (by decide) (ZKZ S hS.hn.ib), trivial⟩ ⟨⟨⟨by decide, in_gh S hS.hn⟩, trivial, ⟨by decide, ZM6 S hS.hn⟩, ⟨by decide, ZjS S⟩, trivial, trivial⟩, trivial⟩ trivial) fun ρ => ?_
 rw [ZML]
 simp only [ZKL, ZFZ, ZDJ, ZFG, ZIF, ZHZ, ZGP, ZaT, ZaR, ZGN, ZlK, ZrV, ZCa, ZAf, Zw5, ZwK, ZvQ, ZxX, ZdU, Zun, Zw3, ZBT, ZxN, ZB6, ZzG, ZAB, Zx5, ZeE, ZvH, ZyZ, Zwo, ZwI, ZvY, Zza, ZCb, Zys, Zwe, Zy5, ZxC, ZgL, Zx6, Zn6, ZvP, ZBy, ZBP, Zzn, Zzr, ZsA, ZtU, Ztg, ZtB, Zzi, Zz2, Ztk, Zye, ZBJ, Zw6, Zl4, ZjK, Zno, Zmp, Zl1, ZmA, ZjA, Zc6, ZmK, ZAX, Zhs, ZmN, Zne, Zi9, Zcg, Zm0, ZmJ, Zl9, Zl8, Zzv, Zn0, Zi3, Zep, ZBO, Zer, Zeu, Zes, Zev, ZsY, Zi1, ZnE, ZAJ, Zmx, ZnH, Znv, ZmX, ZnQ, Zoc, Zns, Zn8, Zme, Znh, ZjZ, ZlS, Zin, ZgJ, Zip, Zif, Zaj, ZgH, Zhj, Zfr, Zlb, Zke, Zj6, Zla, Zln, Zij, Zhu, Zio, YZ, ZS, ZV, ZN, Zr, ZU, Zal, ZfH, Zfh, Zj8, Zhv, ZgV, ZiN, ZhD, ZkG, Ziy, ZgO, Zg9, ZhZ, ZgW, Zag, Zhz, ZgN, Zfn, ZkZ, Zld, ZkT, ZlA, ZlC, ZhI, ZhY, ZiF, Y2, Zam, ZfM, Ze5, Zlc, ZhE, Zhn, Ziq, Zis, Zlj, ZhS, Zh4, Zg1, Zry, ZqQ, ZqP, ZoO, Zp7, ZqL, Zk4, ZpJ, Zpg, Zpy, ZpB, Zpx, hS.hn.ib.og.ou.ft.od.fi.js.jt.jb.rf.u520, hS.hn.ib.og.ou.ft.od.fi.js.jt.jb.rf.u521, hS.hn.ib.og.ou.ft.od.fi.js.jt.jb.rf.u522, hS.hn.ib.og.ou.ft.od.fi.u603, hS.hn.ib.og.ou.ft.od.fi.u604, hS.hn.ib.og.u660, hS.hn.ib.og.u661, hS.hn.ib.og.u662, hS.hn.u720, hS.hn.u721, hS.hn.u722, hS.hn.u723, hS.hn.u724, hS.hn.u725, hS.hn.u726, hS.hn.u727, hS.u733, ZY, ZN0, VC.den, SX.den, Env.upd, ZwX, beq_iff_eq, ZNS, beq_eq_false_iff_ne, ne_eq, ZNR, ZNQ, Int.reduceToNat, Nat.reduceEqDiff, reduceIte, sB]
 simp only [List.take_length]
 generalize (ρ 4).tR = A
 generalize (ρ 7).tB = V
 intro h1 h2 h3 h4 h5 h6 x8 h8
 refine ⟨rfl, ZN4 0, .inr rfl, ZN4 0, .inr rfl, ?_, Int.le_trans (ZN4 0) (by decide), rfl, rfl, rfl, rfl, rfl, rfl, ?_⟩
 ·exact ⟨rfl, rfl, [], List.Perm.refl _⟩
 intro i b1 b2 b3 b4 b5 b6 b7 b8 b9 b10 R1 R2 Q T g1 g2 g3 g4 g5 g6 g7 g8 g9 g10
 have e : Zef A (i + 1).toNat = (Zef A i.toNat).act (A.getD i.toNat []) := by
  rw [show (i + 1).toNat = i.toNat + 1 by omega]; rfl
 have hi := ZFh A i.toNat (by omega)
 have hb := ZJV A i.toNat
 have ha := ZzO (Zef A i.toNat) (A.getD i.toNat [])
 rw [e]
 generalize A.getD i.toNat [] = a at *
 generalize Zef A i.toNat = s at *
 have hl : s.h.length <= 400 := by omega
 simp only [ZK5 hi hl, ZMR hi hl, ZJ6 hi hl, ZMC hi hl, hn_os hi hl]
 obtain ⟨c1, c2, c3, c4, c5⟩ := hb
 simp only [ap44, rd_00, List.length_nil]
 by_cases q8 : 8 < s.k.length
 ·simp only [if_pos q8, Option.getD_none, Option.isSome_none, List.length_nil]
  repeat' (first | exact trivial | with_reducible apply And.intro | intro _)
  all_goals first
   | omega
   | with_reducible assumption
   | with_reducible rfl
   | with_reducible exact rd_8 (by omega) hl
   | (have t0 := tm_r (a := (ρ 6).tI) (by with_reducible assumption) (by omega) hl; obtain ⟨t1, t2, t3⟩ := t0; first | omega | with_reducible exact ZLi (by omega) (by omega) | with_reducible exact ZL9 (by omega) (by omega) (by omega) | (have u0 := ZrK (V := V) hi hl (by with_reducible assumption) (by with_reducible assumption) (by with_reducible assumption) (by omega) (by omega) (by omega) (by first | with_reducible exact tr_a (by with_reducible assumption) | with_reducible exact tr_c (by with_reducible assumption) (by with_reducible assumption) | with_reducible exact tr_d (by with_reducible assumption) (by with_reducible assumption)); obtain ⟨u1, u2, u3⟩ := u0; omega))
   | (rw [ZE4 (by with_reducible assumption) (by with_reducible assumption)] <;> first | rfl | assumption | (simp only [ZNY, ZOd, List.length_nil]; omega))
   | (rw [ZMS (by with_reducible assumption) (by with_reducible assumption)] <;> first | rfl | assumption | omega)
   | exact ZMA (by with_reducible assumption) (by with_reducible assumption)
 ·simp only [if_neg q8, ZNO, Option.isSome_some]
  repeat' (first | exact trivial | with_reducible apply And.intro | intro _)
  all_goals first
   | omega
   | with_reducible assumption
   | with_reducible rfl
   | with_reducible exact rd_8 (by omega) hl
   | (have t0 := tm_r (a := (ρ 6).tI) (by with_reducible assumption) (by omega) hl; obtain ⟨t1, t2, t3⟩ := t0; first | omega | with_reducible exact ZLi (by omega) (by omega) | with_reducible exact ZL9 (by omega) (by omega) (by omega) | (have u0 := ZrK (V := V) hi hl (by with_reducible assumption) (by with_reducible assumption) (by with_reducible assumption) (by omega) (by omega) (by omega) (by first | with_reducible exact tr_a (by with_reducible assumption) | with_reducible exact tr_c (by with_reducible assumption) (by with_reducible assumption) | with_reducible exact tr_d (by with_reducible assumption) (by with_reducible assumption)); obtain ⟨u1, u2, u3⟩ := u0; omega))
   | (rw [ZE4 (by with_reducible assumption) (by with_reducible assumption)] <;> first | rfl | assumption | (simp only [ZNY, ZOd, List.length_nil]; omega))
   | (rw [ZMS (by with_reducible assumption) (by with_reducible assumption)] <;> first | rfl | assumption | omega)
   | exact ZMA (by with_reducible assumption) (by with_reducible assumption)
def latC (x : List Ent) (f a : Int) : Bool := decide (0 <= f) && (List.range a.toNat).all fun i => !decide (f < (i : Int)) || (!decide (xk (xa x i) = 1) && !decide (xk (xa x i) = 2) && !decide (xk (xa x i) = 7))
theorem ZIK (x : List Ent) (f a : Int) : ZdI x f a = latC x f a := by
 unfold ZdI latC
 rw [Bool.eq_iff_iff, Zi, Bool.and_eq_true, decide_eq_true_eq, List.all_eq_true]
 refine ⟨fun ⟨h1, h2⟩ => ⟨h1, fun i hi => ?_⟩, fun ⟨h1, h2⟩ => ⟨h1, fun i hi ha => ?_⟩⟩
 ·rw [List.mem_range] at hi
  by_cases hf : f < (i : Int)
  ·obtain ⟨a1, a2, a3⟩ := h2 i hf (by omega)
   simp [a1, a2, a3]
  ·simp [hf]
 ·have := h2 i (List.mem_range.2 (by omega))
  simp [hi] at this
  exact ⟨this.1.1, this.1.2, this.2⟩
def chkC (x : List Ent) (n : Nat) : Bool := (List.range n).all fun i => Za2 (xa x i)
theorem ZGD (x : List Ent) (n : Nat) : ZkJ x n = chkC x n := by
 unfold ZkJ chkC
 rw [Bool.eq_iff_iff, Zi, List.all_eq_true]
 exact ⟨fun h i hi => h i (List.mem_range.1 hi), fun h i hi => h i (List.mem_range.2 hi)⟩
def outC (x : List Ent) (n : Nat) : Bool :=
 let r := xa x n
 let o := YD x (xw r) n
 if xk r = 1 then decide (0 <= ZI x 1 (xw r) n)
 else if xk r = 2 then decide (0 < xw r) && !o.1
 else if xk r = 3 \/ xk r = 4 \/ xk r = 6 then !o.1
 else if xk r = 5 then (!o.1 && !latC x o.2 n) || decide (0 <= ZI x 5 (xw r) n)
 else false
theorem ZF2 (x : List Ent) (n : Nat) : Zje x n = outC x n := by
 unfold Zje outC
 simp only [ZIK]
def ZFr (x : List Ent) : Nat -> Int × Int
 | 0 => (-1, 0)
 | n + 1 => if 0 <= (ZFr x n).1 then ZFr x n else if outC x n then (n, 1) else if ZiQ x n then (n, 2) else (-1, 0)
theorem Zkg (x : List Ent) : ∀ n, Zcm x n = ZFr x n
 | 0 => rfl
 | n + 1 => by
  show (if 0 <= (Zcm x n).1 then Zcm x n else if Zje x n then (n, 1) else if ZiQ x n then (n, 2) else (-1, 0)) = _
  rw [Zkg x n, ZF2]; rfl
def ZEI (x : List Ent) : Int := if 400 < x.length then 2 else if chkC x x.length then 0 else 280
theorem Zqb (x : List Ent) : ZcU x = ZEI x := by unfold ZcU ZEI; rw [ZGD]
def serC (x : List Ent) : Int × Int × Int :=
 if ZEI x ≠ 0 then (0, 0, ZEI x) else if 0 <= (ZFr x x.length).1 then ((ZFr x x.length).1, (ZFr x x.length).2, 0) else ((ZdM x x.length).1, (ZdM x x.length).2, 0)
theorem Zrp (x : List Ent) : Zfe x = serC x := by unfold Zfe serC; rw [Zqb, Zkg]
def fneC (x : List Ent) : Int := if ZEI x ≠ 0 then ZEI x else if 0 <= (ZFr x x.length).1 then 280 else 0
theorem ZCv (x : List Ent) : Zor x = fneC x := by unfold Zor fneC; rw [Zqb, Zkg]
def fnrC (x : List Ent) : List (List Int) := if fneC x = 0 then ZJQ x else []
theorem ZI7 (x : List Ent) : finR' x = fnrC x := by unfold finR' fnrC; rw [ZCv]
def ZKB (x : List Ent) (asg : List Int) (w : Int) : Bool :=
 ((List.range (ZI x 1 w x.length).toNat).all fun j => !decide (xk (xa x j) = 5) || asg.contains (xw (xa x j))) &&
 ((List.range x.length).all fun j => !decide (xk (xa x j) = 2) || !decide (xw (xa x j) = w) || (ZcY x j asg).1) && !asg.contains w
theorem ZIu (x : List Ent) (asg : List Int) (w : Int) : Zp (Zon x asg w) = ZKB x asg w := by
 rw [Bool.eq_iff_iff, Zi]
 unfold Zon ZMy ZLn ZKB
 rw [Bool.and_eq_true, Bool.and_eq_true, List.all_eq_true, List.all_eq_true]
 refine ⟨fun ⟨h1, h2, h3⟩ => ⟨⟨fun j hj => ?_, fun j hj => ?_⟩, ?_⟩, fun ⟨⟨h1, h2⟩, h3⟩ => ⟨fun j hj hk => ?_, fun j hj hk hw => ?_, ?_⟩⟩
 ·rw [List.mem_range] at hj
  by_cases hk : xk (xa x j) = 5
  ·have := h1 j (by omega) hk
   simp [this]
  ·simp [hk]
 ·rw [List.mem_range] at hj
  by_cases hk : xk (xa x j) = 2
  ·by_cases hw : xw (xa x j) = w
   ·simp [h2 j (by omega) hk hw]
   ·simp [hw]
  ·simp [hk]
 ·simpa using h3
 ·have := h1 j (List.mem_range.2 (by omega))
  simpa [hk] using this
 ·have := h2 j (List.mem_range.2 (by omega))
  simpa [hk, hw] using this
 ·simpa using h3
def ZDW (x : List Ent) (all : List Int) : Nat -> List Int -> Option (List Int)
 | 0, asg => if asg.length = all.length then some asg else none
 | n + 1, asg => if asg.length = all.length then some asg else (List.range all.length).findSome? fun j => if ZKB x asg (all.getD j 0) = true then ZDW x all n (asg ++ [all.getD j 0]) else none
theorem ZwN (x : List Ent) (all : List Int) : ∀ (n : Nat) (asg : List Int), ZnR x all n asg = ZDW x all n asg
 | 0, asg => rfl
 | n + 1, asg => by
  show (if asg.length = all.length then some asg else (List.range all.length).findSome? fun j => ZCK x all asg (ZnR x all n) j) = (if asg.length = all.length then some asg else (List.range all.length).findSome? fun j => if ZKB x asg (all.getD j 0) = true then ZDW x all n (asg ++ [all.getD j 0]) else none)
  have : (fun j => ZCK x all asg (ZnR x all n) j) = fun j => if ZKB x asg (all.getD j 0) = true then ZDW x all n (asg ++ [all.getD j 0]) else none := by
   funext j
   unfold ZCK
   rw [ZIu, ZwN x all n]
  rw [this]
def oreC (x : List Ent) : Int := if ZEI x ≠ 0 then ZEI x else if 0 <= (ZFr x x.length).1 then 280 else if 8 < (Zw x x.length).length then 2 else 0
theorem Zri (x : List Ent) : orE x = oreC x := by unfold orE oreC; rw [Zqb, Zkg]
def orsC (x : List Ent) : Option (List Int) := if oreC x = 0 then ZDW x (Zq4 (Zw x x.length) (Zw x x.length).length) (Zq4 (Zw x x.length) (Zw x x.length).length).length [] else none
theorem ZJt (x : List Ent) : orS x = orsC x := by unfold orS orsC; rw [Zri]; unfold ZAW; rw [ZwN]; rfl
def awH : List Ent := [[1, 1, (Zj [] : Nat), (Zj [] : Nat), 0, 0], [3, 1, (Zj [107] : Nat), (Zj [120] : Nat), 1, 0], [1, 2, (Zj [] : Nat), (Zj [] : Nat), 0, 0], [2, 2, (Zj [107] : Nat), (Zj [] : Nat), 0, 0], [5, 1, (Zj [] : Nat), (Zj [] : Nat), 0, 1], [5, 2, (Zj [] : Nat), (Zj [] : Nat), 0, 2]]
def awK : List Ent := [[1, 1, (Zj [] : Nat), (Zj [] : Nat), 0, 0], [3, 1, (Zj [107] : Nat), (Zj [120] : Nat), 1, 0], [1, 2, (Zj [] : Nat), (Zj [] : Nat), 0, 0]]
def aw8 : List Ent := [[8, 0, (Zj [] : Nat), (Zj [] : Nat), 0, 0]]
def aw5 : List Ent := [[5, 1, (Zj [] : Nat), (Zj [] : Nat), 0, 1]]
theorem aw_1 : Zfe awH = (3, 4, 0) := by rw [Zrp]; kernel_rfl
theorem aw_2 : Zor awH = 0 := by rw [ZCv]; kernel_rfl
theorem aw_3 : finR' awH = [[((Zj [107] : Nat) : Int), ((Zj [120] : Nat) : Int)]] := by rw [ZI7]; kernel_rfl
theorem aw_4 : orE awH = 0 := by rw [Zri]; kernel_rfl
theorem aw_5 : orS awH = some [2, 1] := by rw [ZJt]; kernel_rfl
theorem aw_6 : Zfe awK = (-1, 0, 0) := by rw [Zrp]; kernel_rfl
theorem aw_7 : (Zfe aw8).2.2 = 280 := by rw [Zrp]; kernel_rfl
theorem aw_8 : orE aw5 = 280 := by rw [Zri]; kernel_rfl
def bR (x k : Nat) : SX := .f1 36 (nt (rA x) z0 k)
def ZJG : Ctr := ⟨[.int, .rows, .int, .rows], [.one (slC (ai 0) (Zg (rA 1)) (ai 2) 2)], [prC (rA 1) (rA 3)], [.f2 45 (Zg (rA 1)) (.int 1)], [], .tup [],
 [bAr (nt (rA 1) z0 0) (bR 3 0) (nt (rA 1) z0 2), bAr (nt (rA 1) z0 3) (bR 3 1) (nt (rA 1) z0 5)], [.f2 45 (nt (rA 1) z0 1) (ZBg (bR 3 0)), .f2 45 (nt (rA 1) z0 4) (ZBg (bR 3 1)), eLe (nt (rA 1) z0 1) (nt (rA 1) z0 2), eLe (nt (rA 1) z0 4) (nt (rA 1) z0 5), eLe z0 (nt (rA 1) z0 0), eLe z0 (nt (rA 1) z0 3)]⟩
theorem ZNh (S : Sig GG) (hS : FiSig S) : Zbp S ZJG := by
 refine Ys S fun T w0 ρ h hu hp hd hr hpre => ⟨ρ, Ext.refl _ _, ?_⟩
 have e1 : hpDen T ρ w0 ZJG.pre = Zc (T.prd 110 w0 ((rA 1).den T ρ) ((rA 3).den T ρ)) emp := rfl
 have r0 := ZaU (hr (.f2 45 (Zg (rA 1)) (.int 1)) (by simp [ZJG]))
 have r0 : (((ρ 1).tR.length : Nat) : Int) = 1 := r0
 rw [e1, Zd, hp, hS.p110] at hpre
 have hpre : prH (ρ 1).tR (ρ 3).tR h := hpre
 have hl := Zlp hpre
 have e2 : hpDen T ρ w0 ZJG.post = Zc (bAD (((ρ 1).tR.getD 0 []).getD 0 0) (Yp (((ρ 3).tR.getD 0 []).getD 0 0).toNat) (((ρ 1).tR.getD 0 []).getD 2 0)) (Zc (bAD (((ρ 1).tR.getD 0 []).getD 3 0) (Yp (((ρ 3).tR.getD 0 []).getD 1 0).toNat) (((ρ 1).tR.getD 0 []).getD 5 0)) emp) := rfl
 rw [e2, Zd]
 have k : ∀ n, (nt (rA 1) z0 n).den T ρ = .int (((ρ 1).tR.getD 0 []).getD n 0) := fun n => rfl
 have kb : ∀ n, (bR 3 n).den T ρ = .bytes (Yp (((ρ 3).tR.getD 0 []).getD n 0).toNat) := fun n => rfl
 cases hR : (ρ 1).tR with
 | nil => rw [hR] at r0; cases r0
 | cons r R =>
  have hn : R = [] := ZN8 (by rw [hR, ZOd] at r0; omega)
  subst hn
  cases hW : (ρ 3).tR with
  | nil => rw [hR, hW] at hl; cases hl
  | cons w W =>
   have hn : W = [] := ZN8 (by rw [hR, hW] at hl; simpa using hl.symm)
   subst hn
   rw [hR, hW] at hpre
   have hq : itP r w h := by rw [<- ZqD]; exact hpre
   obtain ⟨⟨f1, f2, f3, f4, f5, f6⟩, hh⟩ := hq
   refine ⟨hh, fun x hx => ?_⟩
   simp only [ZJG, List.mem_cons, List.not_mem_nil, or_false] at hx
   rcases hx with rfl | rfl | rfl | rfl | rfl | rfl
   ·show (ap2 45 ((nt (rA 1) z0 1).den T ρ) ((ZBg (bR 3 0)).den T ρ)).tP
    rw [p45]
    show ((ρ 1).tR.getD 0 []).getD 1 0 = ((Yp (((ρ 3).tR.getD 0 []).getD 0 0).toNat).length : Nat)
    rw [hR, hW]; exact f1
   ·show (ap2 45 ((nt (rA 1) z0 4).den T ρ) ((ZBg (bR 3 1)).den T ρ)).tP
    rw [p45]
    show ((ρ 1).tR.getD 0 []).getD 4 0 = ((Yp (((ρ 3).tR.getD 0 []).getD 1 0).toNat).length : Nat)
    rw [hR, hW]; exact f2
   ·rw [Zf]
    show ((ρ 1).tR.getD 0 []).getD 1 0 <= ((ρ 1).tR.getD 0 []).getD 2 0
    rw [hR]; exact f3
   ·rw [Zf]
    show ((ρ 1).tR.getD 0 []).getD 4 0 <= ((ρ 1).tR.getD 0 []).getD 5 0
    rw [hR]; exact f4
   ·rw [Zf]
    show 0 <= ((ρ 1).tR.getD 0 []).getD 0 0
    rw [hR]; exact f5
   ·rw [Zf]
    show 0 <= ((ρ 1).tR.getD 0 []).getD 3 0
    rw [hR]; exact f6
def ZNp : Cx := { specs := [(7, [ZrI]), (8, [ZtS]), (9, [ZsN])], anns := [(5, [(10, .ghost ZJG [.tmp 5])])] }
def ZFd : Ctr := Zv3
def ZJD : SX := .f2 122 z (.f1 152 z)
def ZHM : SX := .f2 122 (.f1 35 (.byt [])) (.f2 122 z ZJD)
def ZC0 : SX := .f2 122 (.f1 35 (.byt [])) ZHM
def ZFS : SX := .f2 122 (k 1) (.f2 122 (k 1) ZC0)
def ZIW : SX := .f2 122 (k 3) (.f2 122 (k 1) (.f2 122 (.f1 35 (.byt [107])) (.f2 122 (.f1 35 (.byt [120])) (.f2 122 (k 1) ZJD))))
def ZIr : SX := .f2 122 (k 1) (.f2 122 (k 2) ZC0)
def ZFR : SX := .f2 122 (k 5) (.f2 122 (k 1) (.f2 122 (.f1 35 (.byt [])) (.f2 122 (.f1 35 (.byt [])) (.f2 122 z (.f2 122 (k 1) (.f1 152 z))))))
def ZkO : SX := .f2 124 ZFS (.f2 124 ZIW (.f2 124 ZIr (.f2 124 (.f2 122 (k 2) (.f2 122 (k 2) (.f2 122 (.f1 35 (.byt [107])) ZHM))) (.f2 124 ZFR (.f2 124 (.f2 122 (k 5) (.f2 122 (k 2) (.f2 122 (.f1 35 (.byt [])) (.f2 122 (.f1 35 (.byt [])) (.f2 122 z (.f2 122 (k 2) (.f1 152 z))))))) (.f1 154 z))))))
def ZEw : SX := vR 603 ZkO
def ZDT : SX := o 660 ZkO
def Zhe : SX := .f1 30 ZDT
def Zr5 : SX := .f2 124 ZFS (.f2 124 ZIW (.f2 124 ZIr (.f1 154 z)))
def ZrT : SX := .f2 124 (.f2 122 (k 8) (.f2 122 z ZC0)) (.f1 154 z)
def Zsd : SX := .f2 124 ZFR (.f1 154 z)
def Zsy : SX := .f1 30 (o 660 Zsd)
def ZCu : SX := e (a 7) (k 3)
def ZAd : SX := e (a 8) (k 4)
def ZxY : SX := e (a 9) z
def ZyT : SX := e (.f1 32 (r 11)) (k 1)
def Zw8 : SX := e (a 13) z
def ZyS : SX := e Zhe (k 2)
def ZBq : SX := e (a 17) z
def ZaG : SX := .f2 155 (.bool true) (.bool false)
def Zj1 : SX := .f3 112 (r 11) z (k 1)
def ZAV : SX := .f1 36 (.f3 112 ZEw z z)
def ZxB : SX := .f1 31 ZAV
def Zjg : SX := .f3 112 (r 11) z (k 4)
def Zxf : SX := .f1 36 (.f3 112 ZEw z (k 1))
def Zv6 : SX := .f1 31 Zxf
def ZwO : SX := .f2 150 (.f2 114 ZAV Zj1) (.byt [107])
def ZBj : SX := .f2 150 (.f2 114 Zxf Zjg) (.byt [120])
def ZzD : SX := e (.f2 110 ZDT z) (k 2)
def Zzo : SX := e (.f2 110 ZDT (k 1)) (k 1)
def ZxZ : SX := e (a 18) (k (-1))
def ZvV : SX := e (a 19) z
def ZBN : SX := e (a 20) z
def Zwm : SX := e (a 24) (k 280)
def ZLM : VC := u 0 .int (i (l z (a 0)) (u 1 .int (i (l z (a 1)) (u 2 .int (i (l z (a 2)) (u 3 .int (i (l z (a 3)) (u 4 .int (i (l z (a 4)) (u 5 .int (i (l z (a 5)) (u 6 .int (i (l z (a 6)) (u 7 .int (u 8 .int (u 9 .int (i (e (a 7) (v 520 ZkO)) (i (e (a 8) (v 521 ZkO)) (i (e (a 9) (v 522 ZkO)) (u 10 .int (u 11 .rows (u 12 .int (u 13 .int (i (e (a 13) (v 604 ZkO)) (i (e (.f1 32 (r 11)) (.f1 32 ZEw)) (i (l (.f1 32 (r 11)) (a 12)) (i (.f2 50 (l z (a 10)) (e (.f1 32 (r 11)) z)) (u 14 .int (u 15 .int (u 16 .bool (u 17 .int (i (.f2 48 (q 16) (p 661 ZkO)) (i (e (a 17) (v 662 ZkO)) (i (l Zhe (a 15)) (i (.f2 50 (l z (a 14)) (e Zhe z)) (i (l Zhe (k 8)) (u 18 .int (u 19 .int (u 20 .int (i (e (a 18) (v 520 Zr5)) (i (e (a 19) (v 521 Zr5)) (i (e (a 20) (v 522 Zr5)) (u 21 .int (i (l z (a 21)) (u 22 .int (u 23 .int (u 24 .int (i (e (a 22) (v 520 ZrT)) (i (e (a 23) (v 521 ZrT)) (i (e (a 24) (v 522 ZrT)) (u 25 .int (i (l z (a 25)) (u 26 .int (i (l z (a 26)) (u 27 .int (u 28 .int (u 29 .bool (u 30 .int (i (.f2 48 (q 29) (p 661 Zsd)) (i (e (a 30) (v 662 Zsd)) (i (l Zsy (a 28)) (i (.f2 50 (l z (a 27)) (e Zsy z)) (i (l Zsy (k 8)) (.and (i ZCu (.and (i ZAd (.and (i ZxY (.and (i ZyT (.and (i Zw8 (.and (i ZyS (.and (i (.f1 2 (.f1 2 (q 16))) (.and (i (.f1 2 ZBq) (n ZaG .tt)) (i ZBq (i (e Zj1 ZxB) (i (e Zjg Zv6) (i (l Zj1 (.f3 112 (r 11) z (k 2))) (i (l Zjg (.f3 112 (r 11) z (k 5))) (i (l z (.f3 112 (r 11) z z)) (i (l z (.f3 112 (r 11) z (k 3))) (n (t z (.f1 32 (r 11))) (n (l z Zj1) (n (l Zj1 ZxB) (.and (i ZwO (n (l z Zjg) (n (l Zjg Zv6) (.and (i ZBj (n (t z Zhe) (.and (i ZzD (n (t (k 1) Zhe) (.and (i Zzo (.and (i ZxZ (.and (i ZvV (.and (i ZBN (.and (i Zwm (n (.f2 155 (.bool true) (e (a 30) (k 280))) .tt)) (i (.f1 2 Zwm) (n ZaG .tt)))) (i (.f1 2 ZBN) (n ZaG .tt)))) (i (.f1 2 ZvV) (n ZaG .tt)))) (i (.f1 2 ZxZ) (n ZaG .tt)))) (i (.f1 2 Zzo) (n ZaG .tt))))) (i (.f1 2 ZzD) (n ZaG .tt))))) (i (.f1 2 ZBj) (n ZaG .tt)))))) (i (.f1 2 ZwO) (n ZaG .tt))))))))))))))) (i (.f1 2 (q 16)) (n ZaG .tt)))) (i (.f1 2 ZyS) (n ZaG .tt)))) (i (.f1 2 Zw8) (n ZaG .tt)))) (i (.f1 2 ZyT) (n ZaG .tt)))) (i (.f1 2 ZxY) (n ZaG .tt)))) (i (.f1 2 ZAd) (n ZaG .tt)))) (i (.f1 2 ZCu) (n ZaG .tt))))))))))))))))))))))))))))))))))))))))))))))))))))))))))))))))))
theorem ZLh : Zcl Try.prog ZNp 12 5 ZFd = ZLM := by kernel_rfl
theorem ZJW (S : Sig GG) (hS : OrSig S) : ZR S Try.prog 5 ZFd := by
 refine Zo S (C := ZNp) (fuel := 12) (YV ⟨Zm (by decide) (ZES S hS.ou.ft.od.fi.js), Zm (by decide) (ZFn S hS.ou.ft.od.fi), Zm (by decide) (ZEO S hS), trivial⟩ ⟨⟨⟨by decide, ZNh S hS.ou.ft.od.fi⟩, trivial⟩, trivial⟩ trivial) fun ρ => ?_
 rw [ZLh]
 simp only [ZLM, ZJD, ZHM, ZC0, ZFS, ZIW, ZIr, ZFR, ZkO, ZEw, ZDT, Zhe, Zr5, ZrT, Zsd, Zsy, ZCu, ZAd, ZxY, ZyT, Zw8, ZyS, ZBq, ZaG, Zj1, ZAV, ZxB, Zjg, Zxf, Zv6, ZwO, ZBj, ZzD, Zzo, ZxZ, ZvV, ZBN, Zwm, hS.ou.ft.od.fi.js.jt.jb.rf.u520, hS.ou.ft.od.fi.js.jt.jb.rf.u521, hS.ou.ft.od.fi.js.jt.jb.rf.u522, hS.ou.ft.od.fi.u603, hS.ou.ft.od.fi.u604, hS.u660, hS.u661, hS.u662, ZY, ZN0, VC.den, SX.den, Env.upd, ZaN, Yr, beq_iff_eq, ZNS, beq_eq_false_iff_ne, ne_eq, ZNR, ZNQ, Int.reduceToNat, Nat.reduceEqDiff, reduceIte, sB, sC]
 have eH : ([[1, 1, ((Zj [] : Nat) : Int), ((Zj [] : Nat) : Int), 0, 0], [3, 1, ((Zj [107] : Nat) : Int), ((Zj [120] : Nat) : Int), 1, 0], [1, 2, ((Zj [] : Nat) : Int), ((Zj [] : Nat) : Int), 0, 0], [2, 2, ((Zj [107] : Nat) : Int), ((Zj [] : Nat) : Int), 0, 0], [5, 1, ((Zj [] : Nat) : Int), ((Zj [] : Nat) : Int), 0, 1], [5, 2, ((Zj [] : Nat) : Int), ((Zj [] : Nat) : Int), 0, 2]] : List Ent) = awH := rfl
 have eK : ([[1, 1, ((Zj [] : Nat) : Int), ((Zj [] : Nat) : Int), 0, 0], [3, 1, ((Zj [107] : Nat) : Int), ((Zj [120] : Nat) : Int), 1, 0], [1, 2, ((Zj [] : Nat) : Int), ((Zj [] : Nat) : Int), 0, 0]] : List Ent) = awK := rfl
 have e8 : ([[8, 0, ((Zj [] : Nat) : Int), ((Zj [] : Nat) : Int), 0, 0]] : List Ent) = aw8 := rfl
 have e5 : ([[5, 1, ((Zj [] : Nat) : Int), ((Zj [] : Nat) : Int), 0, 1]] : List Ent) = aw5 := rfl
 have l1 : (Option.getD (some [2, 1]) [] : List Int) = [2, 1] := rfl
 have d1 : Yp ((([[((Zj [107] : Nat) : Int), ((Zj [120] : Nat) : Int)]] : List (List Int)).getD 0 []).getD 0 0).toNat = [107] := by
  show Yp (Int.toNat (Zj [107] : Nat)) = _
  rw [ZN0, Zl]
 have d2 : Yp ((([[((Zj [107] : Nat) : Int), ((Zj [120] : Nat) : Int)]] : List (List Int)).getD 0 []).getD 1 0).toNat = [120] := by
  show Yp (Int.toNat (Zj [120] : Nat)) = _
  rw [ZN0, Zl]
 simp only [eH, eK, e8, e5, aw_1, aw_2, aw_3, aw_4, aw_5, aw_6, aw_7, aw_8, l1, d1, d2]
 repeat' (first | exact trivial | apply And.intro | intro _)
 all_goals first
  | omega
  | rfl
  | (simp_all; done)
end
end Go.Proofs.Ytidlngnhjffepaa
namespace Go.Eng
open Go.ChangeShapes Go.WideShapes Go.Deep
theorem ZAi {cs : List Value} {i : Nat} {v : Value} (h : (cs.drop i).take 1 = [v]) : cs[i]? = some v := by
 have h2 : ((cs.drop i).take 1)[0]? = some v := by rw [h]; rfl
 rw [List.getElem?_take_of_lt (by omega), ZOi] at h2
 simpa using h2
theorem ZxS (s : ByteArray) : Fd.str.val [((Zj s.data.toList : Nat) : Int)] = .string s := by
 show Value.string ⟨(Yp (Int.toNat ((Zj s.data.toList : Nat) : Int))).toArray⟩ = _
 rw [ZN0, Zl]
def ZKq {H : Type} (w : World) (v : Value) (d : DataW H) (b o l c : Int) (n : Nat) (vals : List Value) : Prop :=
 v = .slice (if b < 0 then none else some ⟨b.toNat, o.toNat, none⟩) l.toNat c.toNat /\ 0 <= l /\ l = n /\ l <= c /\ l <= 9223372036854775807 ∧
  ((0 <= b \/ vals = []) /\ ∀ i u, vals[i]? = some u -> b.toNat < w.heap.size /\ w.cell? ⟨b.toNat, o.toNat + i, none⟩ = some u) /\ (d = .nil /\ l = 0 \/ ∃ ds sp, d = .slice ds sp /\ (ds.length : Int) = l)
theorem Zu3 {P : Program} {W : World} {base : Nat} {t e : TypeId} {a : Addr} {len cap : Nat} (ht : P.underlying t = some (.slice e)) (hv : Value.okWide P W .any base t (.slice (some a) len cap)) : a.spot = none := by
 unfold Value.okWide at hv
 rw [ht] at hv
 unfold Cell.okWide at hv
 rw [ht] at hv
 simp only [Cell.ok] at hv
 rw [ht] at hv
 exact hv.2.2.2.1
abbrev Zh9 : List Fd := [.int .i64, .str, .str]
theorem ZyK {H : Type} {enc : TypeId × Value -> H} {P : Program} {w : World} {base : Nat} {spare : Nat -> Bool} {Zos : Bool} {t e : TypeId} {g0 g1 g2 : Field} {fuel : Nat} {cs : List Value} {x : DataW H × List MemPlace}
  (ht : P.underlying t = some (.slice e)) (he : P.underlying e = some (.struct #[g0, g1, g2])) (ce : P.cellsOf e = 3) (o0 : g0.offset = 0) (o1 : g1.offset = 1) (o2 : g2.offset = 2)
  (c0 : P.cellsOf g0.type = 1) (c1 : P.cellsOf g1.type = 1) (c2 : P.cellsOf g2.type = 1)
  (t0 : P.underlying g0.type = some (.int .i64)) (t1 : P.underlying g1.type = some .string) (t2 : P.underlying g2.type = some .string)
  (h : DataW.trod enc P w base spare Zos fuel t cs = some x) :
  (cs = [.slice none 0 0] /\ x = (.nil, [])) ∨
  ∃ (a : Addr) (len cap : Nat) (rows : List (List Int)), cs = [.slice (some a) len cap] /\ base <= a.block /\ len <= cap /\ cap <= maxLen /\ len = rows.length /\ (∃ ds sp, x.1 = .slice ds sp /\ ds.length = len) ∧
   ∀ j v, (rows.flatMap (rowVals Zh9))[j]? = some v -> w.cell? (a.add j) = some v := by
 rcases open_slice ht h with h0 | ⟨a, len, cap, m, n, D, Pl, rfl, hb, hl, hm, hmm, hxx, hx⟩
 ·exact .inl h0
 right
 have hlm : len <= m := by rw [hmm]; split <;> omega
 have each : ∀ i, i < m -> ∃ q : List Int, ∀ j, j < 3 -> ∃ v, (rowVals Zh9 q)[j]? = some v /\ w.cell? (a.add (i * 3 + j)) = some v := by
  intro i hi
  obtain ⟨cs', h1, h2⟩ := hx i hi
  rw [ce] at h1
  obtain ⟨_, hlen, hcell⟩ := World.cells?_some h1
  obtain ⟨xs, k, hk, _, _, hxl, hf⟩ := DataW.trod_struct he h2
  have f0 := hf 0 g0 rfl
  have f1 := hf 1 g1 rfl
  have f2 := hf 2 g2 rfl
  rw [o0, c0, ZNW (by rw [hxl]; show _ < 3; omega)] at f0
  rw [o1, c1, ZNW (by rw [hxl]; show _ < 3; omega)] at f1
  rw [o2, c2, ZNW (by rw [hxl]; show _ < 3; omega)] at f2
  obtain ⟨n0, e0, _, _⟩ := DataW.trod_int t0 f0
  obtain ⟨s1, e1, _, _⟩ := DataW.trod_string t1 f1
  obtain ⟨s2, e2, _, _⟩ := DataW.trod_string t2 f2
  have e0 := ZAi e0
  have e1 := ZAi e1
  have e2 := ZAi e2
  refine ⟨[n0, (Zj s1.data.toList : Nat), (Zj s2.data.toList : Nat)], fun j hj => ?_⟩
  have hc := hcell j (by omega)
  rw [add_add] at hc
  match j, hj with
  | 0, _ => exact ⟨_, rfl, by rw [hc, e0]; rfl⟩
  | 1, _ => exact ⟨_, rfl, by rw [hc, e1]; exact congrArg some (ZxS s1).symm⟩
  | 2, _ => exact ⟨_, rfl, by rw [hc, e2]; exact congrArg some (ZxS s2).symm⟩
 obtain ⟨q, hq⟩ := choose_lt each
 refine ⟨a, len, cap, (List.range len).map q, rfl, hb, hl, hm, by rw [ZN3, List.length_range], ⟨_, _, by rw [hxx], by rw [ZN3, List.length_range]⟩, fun j v hj => ?_⟩
 have hlen3 : ∀ r : List Int, (rowVals Zh9 r).length = 3 := fun r => Z8 _ r
 have hjlt : j < len * 3 := by
  rcases ZNN j (len * 3) with h' | h'
  ·exact h'
  ·rw [List.getElem?_eq_none (by rw [ZbU _ 3 hlen3, ZN3, List.length_range]; exact h')] at hj; cases hj
 have hdm : j = j / 3 * 3 + j % 3 := by omega
 rw [hdm, ZdV _ 3 hlen3 _ _ _ (Nat.mod_lt _ (by decide)), ZNP, List.getElem?_range (by omega)] at hj
 obtain ⟨v', h1, h2⟩ := hq (j / 3) (by omega) (j % 3) (Nat.mod_lt _ (by decide))
 have hj' : (rowVals Zh9 (q (j / 3)))[j % 3]? = some v := hj
 rw [h1] at hj'
 cases hj'
 rw [hdm]; exact h2
theorem Zs4 {H : Type} {enc : TypeId × Value -> H} {P : Program} {W : World} {base : Nat} {t e : TypeId} {g0 g1 g2 : Field} {v : Value} {d : DataW H} {ps : List MemPlace}
  (ht : P.underlying t = some (.slice e)) (he : P.underlying e = some (.struct #[g0, g1, g2])) (ce : P.cellsOf e = 3) (o0 : g0.offset = 0) (o1 : g1.offset = 1) (o2 : g2.offset = 2)
  (c0 : P.cellsOf g0.type = 1) (c1 : P.cellsOf g1.type = 1) (c2 : P.cellsOf g2.type = 1)
  (t0 : P.underlying g0.type = some (.int .i64)) (t1 : P.underlying g1.type = some .string) (t2 : P.underlying g2.type = some .string)
  (hv : Value.okWide P W .any base t v) (h : DataW.Trod enc P W 0 (fun _ => true) true t v d ps) :
  ∃ (b o l c : Int) (L : List (List Int)), ZKq W v d b o l c L.length (L.flatMap (rowVals Zh9)) := by
 obtain ⟨fuel, hf⟩ := h
 obtain ⟨a0, len, cap, rfl⟩ := okWide_slice ht hv
 rcases ZyK ht he ce o0 o1 o2 c0 c1 c2 t0 t1 t2 hf with ⟨hcs, hx⟩ | ⟨a, len', cap', rows, hcs, _, hl, hm, hz, hd, hcell⟩
 ·simp [Value.cells] at hcs
  obtain ⟨rfl, rfl, rfl⟩ := hcs
  simp only [Prod.mk.injEq] at hx
  exact ⟨-1, 0, 0, 0, [], rfl, by decide, by decide, by decide, by decide, ⟨.inr rfl, fun i u hu => by simp at hu⟩, .inl ⟨hx.1, rfl⟩⟩
 ·simp [Value.cells] at hcs
  obtain ⟨rfl, rfl, rfl⟩ := hcs
  have hspot := Zu3 ht hv
  obtain ⟨b, off, spot⟩ := a
  simp only at hspot
  subst hspot
  have hmax : maxLen = 9223372036854775807 := by decide
  obtain ⟨ds, sp, h1, h2⟩ := hd
  refine ⟨b, off, len, cap, rows, by rw [if_neg (by omega)]; simp, by omega, by omega, by omega, by omega, ⟨.inl (by omega), fun i u hu => ?_⟩, .inr ⟨ds, sp, h1, by omega⟩⟩
  have hc := hcell i u hu
  rw [add_plain] at hc
  exact ⟨by simpa using (World.block_lt_of_cell? W ⟨b, off + i, none⟩ hc), by simpa using hc⟩
end Go.Eng
namespace Go.Proofs.Ytidlngnhjffepaa.judgeHonest
open Go.ChangeShapes Go.WideShapes Go.ChangeAt Go.RowKit
open Go.Eng (ZjG Sig ZR Zbp emp Zc ZsI Sat Env U Ctr SX eLe rowVals ZKq Zs4 Zh9 Zv YQ YL Zak)
theorem own : ownKnob Try.prog.godebug = none := by kernel_rfl
noncomputable def usr (n : Nat) (a b c d : U GG) : U GG :=
 match n with
 | 500 => .int (ZI a.tR b.tI c.tI d.tI.toNat)
 | 501 => .bool (YD a.tR b.tI c.tI.toNat).1
 | 502 => .int (YD a.tR b.tI c.tI.toNat).2
 | 503 => .bool (ZdI a.tR b.tI c.tI)
 | 504 => .bool (Zp (latP a.tR b.tI c.tI))
 | 505 => .bool (Zje a.tR b.tI.toNat)
 | 506 => .int (ZiW a.tR b.tI.toNat)
 | 507 => .bool (ZiQ a.tR b.tI.toNat)
 | 508 => .int (Zcm a.tR b.tI.toNat).1
 | 509 => .int (Zcm a.tR b.tI.toNat).2
 | 510 => .bool (Za2 a.tN)
 | 511 => .bool (ZkJ a.tR b.tI.toNat)
 | 512 => .int (YE a.tR b.tI c.tB d.tI.toNat)
 | 513 => .bytes (Zc0 a.tR b.tN c.tB d.tI.toNat).1
 | 514 => .bool (Zc0 a.tR b.tN c.tB d.tI.toNat).2
 | 515 => .ints (Zw a.tR b.tI.toNat)
 | 516 => .bool (ZcY a.tR b.tI.toNat c.tN).1
 | 517 => .int (ZcY a.tR b.tI.toNat c.tN).2
 | 518 => .int (ZdM a.tR b.tI.toNat).1
 | 519 => .int (ZdM a.tR b.tI.toNat).2
 | 520 => .int (Zfe a.tR).1
 | 521 => .int (Zfe a.tR).2.1
 | 522 => .int (Zfe a.tR).2.2
 | 524 => .bytes (lasV a.tR b.tI)
 | 525 => .int (lasK a.tR b.tI)
 | 523 => .int (ZcU a.tR)
 | 530 => .bool (Yc a.tM b.tN)
 | 531 => .bool (Zp (ZxR a.tM b.tM c.tM))
 | 532 => .bool (Zp (layM a.tM b.tM c.tM d.tM))
 | 533 => .rows (revN a.tR b.tI.toNat)
 | 534 => .rows ((a.tR.take c.tI.toNat).map nr ++ b.tR.drop c.tI.toNat)
 | 536 => .bool (Zp ((a.tM.map (·.1)).Nodup))
 | 535 => .bool (Zp (∀ i : Nat, b.tI <= (i : Int) -> (i : Int) < c.tI -> eqE (xa a.tR i) (xa d.tR i)))
 | 568 => .g (.tx (ZcX (ZW a) b.tM))
 | 571 => .bool (Zp ((a.tM.map (·.1)).Nodup /\ ∀ k, Zv a.tM k = true -> Zv b.tM k = true))
 | 569 => .bool (Zp (a.tR.map g0 = b.tR.map g0))
 | 570 => .bool (Zp (d.tR.Perm (ZbR c.tR (ZcV b.tM (ZW a) 0))))
 | 565 => .bool (Zp (Zq0 a.tR b.tI))
 | 566 => .int (ZdD b.tI a.tR : Nat)
 | 540 => .int (atT (ZW a) b.tI).who
 | 541 => .int (atT (ZW a) b.tI).beg
 | 542 => .int (atT (ZW a) b.tI).com
 | 543 => .bool (atT (ZW a) b.tI).opn
 | 544 => .amap (atT (ZW a) b.tI).ch
 | 545 => .rows (atT (ZW a) b.tI).rds
 | 546 => .ints (atT (ZW a) b.tI).bad
 | 547 => .amap (ZfF a.tR (ZW b))
 | 548 => .rows (ZbR c.tR (Yj a.tR b.tI.toNat).kept)
 | 549 => .rows (Yj a.tR b.tI.toNat).out
 | 550 => .int (Yj a.tR b.tI.toNat).fault
 | 551 => .int (Yj a.tR b.tI.toNat).what
 | 552 => .int ((ZW a).length : Nat)
 | 553 => .int (ixL b.tI (ZW a) : Nat)
 | 554 => .rows (ZCJ a.tR b.tI c.tN)
 | 555 => .g (.tx (setT (ZW a) b.tI (ZuS (atT (ZW a) b.tI) c.tM d.tN)))
 | 556 => .g (.tx (setT (ZW a) b.tI (ZA2 (atT (ZW a) b.tI) c.tR d.tN)))
 | 557 => .g (.tx (ZW a ++ [⟨b.tI, c.tI, -1, true, [], [], []⟩]))
 | 558 => .bool (Zp (plOk a.tR (ZW b)))
 | 559 => .bool (Zp (d.tR.Perm (ZbR c.tR (Yj a.tR b.tI.toNat).fal)))
 | 560 => .bool (Zp (∀ r ∈ a.tR, ∃ b', r = [b'] /\ Zq0 b.tR b'))
 | 561 => .g (.tx (Yj a.tR b.tI.toNat).txs)
 | 562 => .bool (Zp ([b.tI] ∈ a.tR))
 | 563 => .rows (if Zv a.tM (kc b.tN) = true then c.tR else c.tR ++ [d.tI :: nr b.tN])
 | 564 => .ints (if Zv a.tM (kc b.tN) = true /\ Yc a.tM b.tN = false then c.tN ++ [d.tI] else c.tN)
 | 580 => .bool (Zp (SrtP a.tR b.tR))
 | 582 => .int (ZeN (a.tI, b.tI) c.tI d.tI).1
 | 583 => .int (ZeN (a.tI, b.tI) c.tI d.tI).2
 | 584 => .int (ZF8 (Zn7 a.tN) b.tN c.tI.toNat).1
 | 585 => .int (ZF8 (Zn7 a.tN) b.tN c.tI.toNat).2
 | 586 => .bool (Zp (YR (ZCE (ZlG a.tR) b.tM) d.tI (Zn7 c.tN)))
 | 587 => .bool (Zp (c.tR.Perm (Zo9 (ZlG a.tR) b.tM)))
 | 590 => .int ((ZI9 a.tR b.tM c.tN).1 : Nat)
 | 591 => .int (ZI9 a.tR b.tM c.tN).2.1
 | 592 => .int (ZI9 a.tR b.tM c.tN).2.2
 | 593 => .int ((Zad (ZlG a.tR) b.tR (Zn7 c.tN) d.tI.toNat).1 : Nat)
 | 594 => .int (Zad (ZlG a.tR) b.tR (Zn7 c.tN) d.tI.toNat).2.1
 | 595 => .int (Zad (ZlG a.tR) b.tR (Zn7 c.tN) d.tI.toNat).2.2
 | 596 => .bool (Zp (Ziv c.tM (stF (ZlG a.tR) b.tI.toNat)))
 | 597 => .int (Zk5 (Yc d.tM) (Zn7 a.tN) b.tR c.tI.toNat).1
 | 598 => .int (Zk5 (Yc d.tM) (Zn7 a.tN) b.tR c.tI.toNat).2
 | 600 => .rows (Zi0 a.tR)
 | 601 => .rows (Zu2 a.tM)
 | 602 => .rows (ZlH (mvF a.tM) b.tR c.tI.toNat)
 | 603 => .rows (finR' a.tR)
 | 604 => .int (Zor a.tR)
 | 605 => .bool (Zp (ZGO a.tM b.tM c.tR))
 | 610 => .rows ((ZuQ a.tR b.tI.toNat).map ZCG)
 | 611 => .bool (Zp (∀ j : Nat, (j : Int) < c.tI -> Op.bytesLess (txt (a.tR.getD j [])) b.tB = true))
 | 612 => .rows (ZlH (leF a.tR b.tN) c.tR d.tI.toNat)
 | 606 => .bool (Zp (canM a.tM))
 | 620 => .bool (Zp (∀ r ∈ a.tR, 0 <= g0 r))
 | 621 => .bool (Zp (ndP a.tR))
 | 622 => .bool (Zp (a.tR.Perm b.tR /\ ZFf c.tR (ZW d) a.tR))
 | 623 => .bool (Zp (ZJI a.tR b.tR c.tR (ZW d)))
 | 624 => .bool (Zp (ZJT a.tR b.tR c.tR (ZW d)))
 | 630 => .bool (Zp (∀ j : Nat, (j : Int) < c.tI -> Yc b.tM ((a.tR.getD j []).drop 1) = true))
 | 631 => .bool (Zp (ZKh a.tR b.tR c.tM (ZW d)))
 | 633 => .bool (Zp (∀ t ∈ ZW a, t.rds.length <= 1000000))
 | 632 => .bool (Zp (∀ j : Nat, (j : Int) < d.tI -> okU b.tR (ZW c) (g0 (a.tR.getD 0 [])) ((a.tR.drop 1).getD j [])))
 | 640 => .rows (a.tR.eraseIdx b.tI.toNat)
 | 641 => .ints ((Zoq c.tR (ZW a) b.tM d.tR).getD [])
 | 642 => .bool (Zoq c.tR (ZW a) b.tM d.tR).isSome
 | 643 => .bool (Zp (∀ j : Nat, (j : Int) < g0 (d.tR.getD 0 []) -> Zvj c.tR (ZW a) (Zop b.tM) (d.tR.drop 1) (Zvh c.tR (ZW a) ((d.tR.drop 1).length - 1)) j = none))
 | 650 => .ints (Zq4 a.tN b.tI.toNat)
 | 651 => .bool (Zp (∀ j : Nat, (j : Int) < c.tI -> a.tN.getD j 0 < b.tI))
 | 652 => .bool (Zp (b.tI ∈ a.tN))
 | 653 => .bool (Zp (∀ j : Nat, (j : Int) < c.tI -> a.tN.getD j 0 ≠ b.tI))
 | 654 => .bool (Zp (Zon a.tR b.tN c.tI))
 | 655 => .bool (Zp (ZMy a.tR b.tN c.tI d.tI))
 | 656 => .bool (Zp (ZLn a.tR b.tN c.tI d.tI))
 | 657 => .ints ((ZAW a.tR b.tN c.tN).getD [])
 | 658 => .bool (ZAW a.tR b.tN c.tN).isSome
 | 659 => .bool (Zp (∀ j : Nat, (j : Int) < d.tI -> ZCK a.tR b.tN c.tN (ZnR a.tR b.tN (b.tN.length - c.tN.length - 1)) j = none))
 | 660 => .ints ((orS a.tR).getD [])
 | 661 => .bool (orS a.tR).isSome
 | 662 => .int (orE a.tR)
 | 680 => .ints (mkL a.tI b.tI.toNat)
 | 720 => .rows (Zef a.tR b.tI.toNat).h
 | 721 => .rows (Zef a.tR b.tI.toNat).d
 | 722 => .rows (Zef a.tR b.tI.toNat).w
 | 723 => .ints (Zef a.tR b.tI.toNat).k
 | 724 => .int (Zef a.tR b.tI.toNat).who
 | 725 => .bool (Zef a.tR b.tI.toNat).op
 | 726 => .bool (Zp (ZjR a.tR b.tR c.tR d.tR))
 | 727 => .int (b01 (Zef a.tR b.tI.toNat).op)
 | 728 => .int (ahN a.tR b.tB : Nat)
 | 729 => .bool (isK a.tR b.tB)
 | 731 => .bool (Zp (a.tR.getD c.tI.toNat [] = b.tR.getD d.tI.toNat []))
 | 733 => .ints (rdN a.tR b.tI.toNat)
 | _ => .int 0
noncomputable def prd (n : Nat) (w0 : World) (k x : U GG) : Go.Eng.HProp :=
 match n with
 | 100 => Ze4 k.tR (ZW x)
 | 101 => ZL3 (g0 (k.tR.getD 0 [])) (k.tR.drop 1) (ZW x)
 | 103 => ZuM (g0 (k.tR.getD 0 [])) (k.tR.drop 1)
 | 102 => ZJM (g0 (k.tR.getD 0 [])) (g1 (k.tR.getD 0 [])) (k.tR.drop 1) (ZW x)
 | 110 => prH k.tR x.tR
 | 111 => prO k.tR x.tR
 | 112 => kp42 k.tR
 | 113 => kp43 k.tR
 | 114 => kp46 k.tR x.tR
 | 115 => kp47 k.tR x.tR
 | 116 => kp48 k.tR x.tR
 | 140 => ZNf k.tR x.tR
 | 141 => arsO k.tR x.tR
 | 143 => Zjx
 | 144 => emp
 | 145 => emp
 | _ => emp
noncomputable def sig : Sig GG := { dg := gg0, ch := fun _ => true, usr := usr, prd := prd }
theorem hR : RfSig sig where
 u500 := fun _ _ _ _ => rfl
 u501 := fun _ _ _ _ => rfl
 u502 := fun _ _ _ _ => rfl
 u503 := fun _ _ _ _ => rfl
 u504 := fun _ _ _ _ => rfl
 u505 := fun _ _ _ _ => rfl
 u506 := fun _ _ _ _ => rfl
 u507 := fun _ _ _ _ => rfl
 u508 := fun _ _ _ _ => rfl
 u509 := fun _ _ _ _ => rfl
 u510 := fun _ _ _ _ => rfl
 u511 := fun _ _ _ _ => rfl
 u512 := fun _ _ _ _ => rfl
 u513 := fun _ _ _ _ => rfl
 u514 := fun _ _ _ _ => rfl
 u515 := fun _ _ _ _ => rfl
 u516 := fun _ _ _ _ => rfl
 u517 := fun _ _ _ _ => rfl
 u518 := fun _ _ _ _ => rfl
 u519 := fun _ _ _ _ => rfl
 u520 := fun _ _ _ _ => rfl
 u521 := fun _ _ _ _ => rfl
 u522 := fun _ _ _ _ => rfl
 u524 := fun _ _ _ _ => rfl
 u525 := fun _ _ _ _ => rfl
 u523 := fun _ _ _ _ => rfl
theorem hB : JbSig sig where
 rf := hR
 u530 := fun _ _ _ _ => rfl
 u531 := fun _ _ _ _ => rfl
 u532 := fun _ _ _ _ => rfl
 u533 := fun _ _ _ _ => rfl
 u534 := fun _ _ _ _ => rfl
 u536 := fun _ _ _ _ => rfl
 u535 := fun _ _ _ _ => rfl
theorem hT : JtSig sig where
 jb := hB
 p100 := fun _ _ _ => rfl
 p101 := fun _ _ _ => rfl
 p103 := fun _ _ _ => rfl
 p102 := fun _ _ _ => rfl
 u568 := fun _ _ _ _ => rfl
 u571 := fun _ _ _ _ => rfl
 u569 := fun _ _ _ _ => rfl
 u570 := fun _ _ _ _ => rfl
 u565 := fun _ _ _ _ => rfl
 u566 := fun _ _ _ _ => rfl
 u540 := fun _ _ _ _ => rfl
 u541 := fun _ _ _ _ => rfl
 u542 := fun _ _ _ _ => rfl
 u543 := fun _ _ _ _ => rfl
 u544 := fun _ _ _ _ => rfl
 u545 := fun _ _ _ _ => rfl
 u546 := fun _ _ _ _ => rfl
 u547 := fun _ _ _ _ => rfl
 u548 := fun _ _ _ _ => rfl
 u549 := fun _ _ _ _ => rfl
 u550 := fun _ _ _ _ => rfl
 u551 := fun _ _ _ _ => rfl
 u552 := fun _ _ _ _ => rfl
 u553 := fun _ _ _ _ => rfl
 u554 := fun _ _ _ _ => rfl
 u555 := fun _ _ _ _ => rfl
 u556 := fun _ _ _ _ => rfl
 u557 := fun _ _ _ _ => rfl
 u558 := fun _ _ _ _ => rfl
 u559 := fun _ _ _ _ => rfl
 u560 := fun _ _ _ _ => rfl
 u561 := fun _ _ _ _ => rfl
 u562 := fun _ _ _ _ => rfl
 u563 := fun _ _ _ _ => rfl
 u564 := fun _ _ _ _ => rfl
theorem hJ : JsSig sig where
 jt := hT
 u580 := fun _ _ _ _ => rfl
 u582 := fun _ _ _ _ => rfl
 u583 := fun _ _ _ _ => rfl
 u584 := fun _ _ _ _ => rfl
 u585 := fun _ _ _ _ => rfl
 u586 := fun _ _ _ _ => rfl
 u587 := fun _ _ _ _ => rfl
 u590 := fun _ _ _ _ => rfl
 u591 := fun _ _ _ _ => rfl
 u592 := fun _ _ _ _ => rfl
 u593 := fun _ _ _ _ => rfl
 u594 := fun _ _ _ _ => rfl
 u595 := fun _ _ _ _ => rfl
 u596 := fun _ _ _ _ => rfl
 u597 := fun _ _ _ _ => rfl
 u598 := fun _ _ _ _ => rfl
theorem hF : FiSig sig where
 js := hJ
 p110 := fun _ _ _ => rfl
 p111 := fun _ _ _ => rfl
 u600 := fun _ _ _ _ => rfl
 u601 := fun _ _ _ _ => rfl
 u602 := fun _ _ _ _ => rfl
 u603 := fun _ _ _ _ => rfl
 u604 := fun _ _ _ _ => rfl
 u605 := fun _ _ _ _ => rfl
 u610 := fun _ _ _ _ => rfl
 u611 := fun _ _ _ _ => rfl
 u612 := fun _ _ _ _ => rfl
 u606 := fun _ _ _ _ => rfl
theorem hD : OdSig sig where
 fi := hF
 u620 := fun _ _ _ _ => rfl
 u621 := fun _ _ _ _ => rfl
 u622 := fun _ _ _ _ => rfl
 u623 := fun _ _ _ _ => rfl
 u624 := fun _ _ _ _ => rfl
theorem hO : OfSig sig where
 od := hD
 u630 := fun _ _ _ _ => rfl
 u631 := fun _ _ _ _ => rfl
 u633 := fun _ _ _ _ => rfl
 u632 := fun _ _ _ _ => rfl
theorem hU : OuSig sig where
 ft := hO
 u640 := fun _ _ _ _ => rfl
 u641 := fun _ _ _ _ => rfl
 u642 := fun _ _ _ _ => rfl
 u643 := fun _ _ _ _ => rfl
theorem hG : OrSig sig where
 ou := hU
 u650 := fun _ _ _ _ => rfl
 u651 := fun _ _ _ _ => rfl
 u652 := fun _ _ _ _ => rfl
 u653 := fun _ _ _ _ => rfl
 u654 := fun _ _ _ _ => rfl
 u655 := fun _ _ _ _ => rfl
 u656 := fun _ _ _ _ => rfl
 u657 := fun _ _ _ _ => rfl
 u658 := fun _ _ _ _ => rfl
 u659 := fun _ _ _ _ => rfl
 u660 := fun _ _ _ _ => rfl
 u661 := fun _ _ _ _ => rfl
 u662 := fun _ _ _ _ => rfl
theorem hI : IbSig sig where
 og := hG
 p112 := fun _ _ _ => rfl
 p113 := fun _ _ _ => rfl
 p114 := fun _ _ _ => rfl
 p115 := fun _ _ _ => rfl
 p116 := fun _ _ _ => rfl
 u680 := fun _ _ _ _ => rfl
theorem hN : HnSig sig where
 ib := hI
 p140 := fun _ _ _ => rfl
 p141 := fun _ _ _ => rfl
 p143 := fun _ _ _ => rfl
 p144 := fun _ _ _ => rfl
 p145 := fun _ _ _ => rfl
 u720 := fun _ _ _ _ => rfl
 u721 := fun _ _ _ _ => rfl
 u722 := fun _ _ _ _ => rfl
 u723 := fun _ _ _ _ => rfl
 u724 := fun _ _ _ _ => rfl
 u725 := fun _ _ _ _ => rfl
 u726 := fun _ _ _ _ => rfl
 u727 := fun _ _ _ _ => rfl
 u728 := fun _ _ _ _ => rfl
 u729 := fun _ _ _ _ => rfl
 u731 := fun _ _ _ _ => rfl
theorem hHo : HoSig sig where
 hn := hN
 u733 := fun _ _ _ _ => rfl
noncomputable def env (b o l c : Int) (L : List (List Int)) (p : Int) (t : ByteArray) : Env GG := fun i => match i with
 | 0 => .int b | 1 => .int o | 2 => .int l | 3 => .int c | 4 => .rows L | 6 => .int p | 7 => .bytes t.data.toList | _ => .int 0
abbrev V6 (L : List (List Int)) : List Value := L.flatMap (rowVals Zh9)
def Ro (w : World) (b o : Int) (vals : List Value) : Prop := (0 <= b \/ vals = []) /\ ∀ i v, vals[i]? = some v -> b.toNat < w.heap.size /\ w.cell? ⟨b.toNat, o.toNat + i, none⟩ = some v
def slV4 (b o l c : Int) : Value := .slice (if b < 0 then none else some ⟨b.toNat, o.toNat, none⟩) l.toNat c.toNat
theorem walk (b o l c : Int) (L : List (List Int)) (p : Int) (t : ByteArray) (w : World) (h0 : 0 <= l /\ l = L.length /\ l <= c /\ l <= 9223372036854775807) (hr : Ro w b o (V6 L)) (hp : -9223372036854775808 <= p /\ p <= 9223372036854775807) :
  Calls Try.prog 3 #[slV4 b o l c, .int .i64 p, .string t] w fun e w' => e = .returned (.bool true) /\ Below w.heap.size w w' := by
 have q : ∀ e ∈ ZmC.reqs, (e.den sig (env b o l c L p t)).tP := by
  intro e he
  simp only [ZmC, hQ, List.cons_append, List.nil_append, List.mem_cons, List.not_mem_nil, or_false] at he
  rcases he with rfl | rfl | rfl | rfl | rfl | rfl
  all_goals simp [eLe, Go.Eng.SX.mk2, Go.Eng.SX.den, Go.Eng.ap1, Go.Eng.ap2, ai, rA, Zg, z0, env, U.co]
  all_goals omega
 have := (ZNa sig hHo (ZJW sig hG)) (fun _ => true) w emp (env b o l c L p t) w [slV4 b o l c, .int .i64 p, .string t] (by
  show Go.Eng.argsR _ _ [.one (.slice (ai 0) (ai 1) z0 z0 (ai 2) (ai 3) 3), .one (.int .i64 (ai 6)), .one (.str (bA 7))] _
  refine ⟨.inr ?_, .inr ?_, .inr ?_, trivial⟩
  all_goals simp [slV4, Go.Eng.SV.den, Go.Eng.SC.den, Go.Eng.SX.den, ai, bA, z0, env, U.co]) q (by
  obtain ⟨x, hx, hi⟩ := ZsI w
  rw [Go.Eng.emp_star] at hx
  refine ⟨x, ?_, hi⟩
  have e : Go.Eng.hpDen (sig.wc fun _ => true) (env b o l c L p t) w ZmC.pre = Zc (Go.Eng.roDen sig w aE (.int b) (.int o) (.rows L)) emp := rfl
  rw [e, Go.Eng.star_assoc, Go.Eng.roDen, Go.Eng.star_pure, Go.Eng.emp_star]
  exact ⟨hr, hx⟩)
 refine this.mono ?_
 rintro e w' ⟨ρ', v, hx, rfl, hv, hs, hfa⟩
 have hv : v = (Go.Eng.SC.bool (.at .bool 8)).den sig ρ' := Go.Eng.R_one sig ρ' hv
 subst hv
 refine ⟨?_, hs.below⟩
 have h8 : (ρ' 8).toBool = true := hfa (qA 8) (List.mem_singleton.2 rfl)
 show Ending.returned (.bool (ρ' 8).toBool) = _
 rw [h8]
theorem laid : laidOutB Try.prog = true := by kernel_rfl
set_option maxRecDepth 100000 in
theorem Y4 (H : Type) (enc : TypeId × Value -> H) (W : World) (base : Nat) (args : Array Value) (ds gs : List (DataW H)) (before : List MemPlace)
  (hval : ∀ (j : Nat) t v, Try.f3.params[j]? = some t -> args[j]? = some v -> Value.okWide Try.prog W .any base t v)
  (hW : DataW.Whole enc Try.prog Try.f3.params.toList Rows.judgeHonestSpec.vars false W args.toList ds gs before) :
  Calls Try.prog 3 args W fun e W' => ∃ v, e = .returned v /\ Rows.judgeHonestSpec.post enc Try.prog Try.f3 false true false false W args v W' := by
 have hW' := hW
 obtain ⟨p, q, hA0, hV, rfl, hfz, hnd⟩ := hW
 have hA : DataW.TrodAll enc Try.prog W 0 (fun _ => true) true Try.f3.params.toList args.toList ds p := hA0
 rw [Try.params3] at hA hval
 obtain ⟨v0, vs0, d0, ds0, p0, q0, hargs, rfl, rfl, h0, r0⟩ := trodAll_cons hA
 obtain ⟨v1, vs1, d1, ds1, p1, q1, rfl, rfl, rfl, h1, r1⟩ := trodAll_cons r0
 obtain ⟨v2, vs2, d2, ds2, p2, q2, rfl, rfl, rfl, h2, r2⟩ := trodAll_cons r1
 obtain ⟨rfl, rfl, rfl⟩ := trodAll_nil r2
 obtain rfl : args = #[v0, v1, v2] := by cases args; simp_all
 obtain ⟨rfl, rfl⟩ := trodVars_none hV
 have hlt : ∀ x ∈ p0 ++ (p1 ++ (p2 ++ [])), x.block < W.heap.size := fun x hx => hW'.lt x (List.mem_append_left _ hx)
 have fin : ∀ (e : Ending) (W' : World), (e = .returned (.bool true) /\ Below W.heap.size W W') -> ∃ v, e = .returned v /\ Rows.judgeHonestSpec.post enc Try.prog Try.f3 false true false false W #[v0, v1, v2] v W' := by
  rintro e W' ⟨rfl, hb⟩
  clear hA0
  refine ⟨_, rfl, ZjG (pa := p0 ++ (p1 ++ (p2 ++ []))) (pv := []) hW' (fun _ _ _ => (trodAll_cons_mk (shut_bool Try.underlying4 _) trodAll_mk0)) ?_ (fun _ _ => rfl) rfl hb
   (ok_one (by kernel_rfl) rfl (okWide_bool_mk Try.underlying4 _))⟩
  intro sp hsp
  refine trodAll_cons_mk ?_ (trodAll_cons_mk ?_ (trodAll_cons_mk ?_ trodAll_mk0))
  ·exact WideElems.Trod_stays laid (by kernel_rfl) (of_decide_eq_true (by kernel_rfl)) h0 (fun x hx => hb.same (hlt x (by simp [hx]))) (fun x hx => hsp x (by simp [hx]))
  ·exact WideElems.Trod_stays laid (by kernel_rfl) (of_decide_eq_true (by kernel_rfl)) h1 (fun x hx => hb.same (hlt x (by simp [hx]))) (fun x hx => hsp x (by simp [hx]))
  ·exact WideElems.Trod_stays laid (by kernel_rfl) (of_decide_eq_true (by kernel_rfl)) h2 (fun x hx => hb.same (hlt x (by simp [hx]))) (fun x hx => hsp x (by simp [hx]))
 obtain ⟨n, rfl⟩ := okWide_int Try.underlying3 (hval 1 3 v1 rfl rfl)
 obtain ⟨t, rfl⟩ := okWide_string Try.underlying9 (hval 2 9 v2 rfl rfl)
 have hn : -9223372036854775808 <= n /\ n <= 9223372036854775807 := by
  obtain ⟨fu, hf⟩ := h1
  obtain ⟨n1, e1, _, w1⟩ := DataW.trod_int Try.underlying3 hf
  simp [Value.cells] at e1
  subst e1
  have e : IntKind.i64.min = -9223372036854775808 := by decide
  simp [Lit.wf] at w1
  rw [e] at w1
  exact w1
 obtain ⟨b, o, l, c, L, g0⟩ := Zs4 (enc := enc) (W := W) (base := base) (v := v0) (d := d0) (ps := p0) Try.underlying22 Try.underlying32 (by kernel_rfl) rfl rfl rfl (by kernel_rfl) (by kernel_rfl) (by kernel_rfl)
  Try.underlying3 Try.underlying9 Try.underlying9 (hval 0 22 v0 rfl rfl) h0
 refine Calls.mono ?_ fin
 have := walk b o l c L n t W ⟨g0.2.1, g0.2.2.1, g0.2.2.2.1, g0.2.2.2.2.1⟩ g0.2.2.2.2.2.1 hn
 have e0 : v0 = slV4 b o l c := g0.1
 rw [e0]
 exact this
set_option maxRecDepth 100000 in
theorem ZMn (os : Os) (started : os.Started) (H : Type) (enc : TypeId × Value -> H) :
  ReturnsInHanded {} Try.checked os 3 .any (Rows.judgeHonestSpec.pre6 enc Try.prog Try.f3 Rows.judgeHonestRow.domain false) (Rows.judgeHonestSpec.post enc Try.prog Try.f3 false true false false) := by
 refine returnsInHanded_of_change (C := Try.checked) own started (by kernel_rfl) Try.func3
  (ChangeSpec.witness6 (enc := enc) (C := Try.checked) false ⟨#[], #[.slice none 0 0, .int .i64 0, .string ⟨#[]⟩], []⟩ 8 (by kernel_rfl) (by kernel_rfl) (by kernel_rfl) (by kernel_rfl)) ?_
 intro W base args ds gs before hval hW hcnd _
 exact Y4 H enc W base args ds gs before hval hW
theorem over : Rows.judgeHonestRow.holds Try.pinned (OpenSpec.ofChange Rows.judgeHonestSpec) :=
 OpenClaim.holds_of_wide 3 Try.f3 rfl rfl rfl rfl rfl rfl rfl ⟨rfl, rfl, rfl, rfl, rfl⟩ rfl rfl rfl rfl rfl (by kernel_rfl) Try.func3 (by kernel_rfl)
  (of_decide_eq_true (by kernel_rfl)) (by unfold Func.isWrapper; first | (rw [if_pos (by decide +kernel)]; kernel_rfl) | (rw [if_neg (by decide +kernel)]; exact ⟨rfl, rfl⟩))
  (fun os started H enc _ => ZMn os started H enc)
theorem proved : Rows.JudgeHonestSaid :=
 over
#print axioms proved
end Go.Proofs.Ytidlngnhjffepaa.judgeHonest
