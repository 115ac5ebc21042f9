/- Part of a proof. -/
import Derived.Test.YtidlngnhjffepaaGreatPo6
import Derived.Shelf.SlLaysF0
import Derived.Shelf.SlLaysC2
import Derived.Ground.SlsfProg
import Derived.Ground.SlgcProg
import Derived.Test.YtidlngnhjffepaaGreatProg
import Derived.Shelf.SlSortCmp.NoneTotal
import Derived.Shelf.SlicesG.Cmp
import Derived.Test.YtidlngnhjffepaaGreatPo4
import Derived.Deep.Slices
set_option linter.unusedSimpArgs false
set_option linter.unusedVariables false
set_option maxRecDepth 20000
namespace Go.Proofs.YtidlngnhjffepaaGreat
noncomputable section
open Go.Eng
/-! ### Plain words -/
abbrev Stf := Int -> Bool × (List UInt8 × Bool)
def Zl9 (M : List (Int × Int)) : Stf := fun q => (Zx M q, vw (YC 0 M q))
def ZDX (f : Stf) (ch : List (Int × Int)) : Stf := fun q => if Zx ch q = true then (true, vw (YC 0 ch q)) else f q
def ZBe (RT : List (List Int)) (L : List Tx) (f : Stf) (P : List (List Int)) (t : Int) : Prop :=
 (∀ u ∈ P, okU RT L t u) /\ (Y3 RT L t).bad = [] /\ ∀ r ∈ (Y3 RT L t).rds, ZY f (r.drop 1) = true
def Zst (RT : List (List Int)) (L : List Tx) (f : Stf) (P : List (List Int)) (rec : Stf -> List (List Int) -> Option (List Int)) (j : Nat) : Option (List Int) :=
 if Zn (ZBe RT L f P (g0 (P.getD j []))) = true then (rec (ZDX f (Y3 RT L (g0 (P.getD j []))).ch) (P.eraseIdx j)).map ((Y3 RT L (g0 (P.getD j []))).who :: ·) else none
def Zsq (RT : List (List Int)) (L : List Tx) : Nat -> Stf -> List (List Int) -> Option (List Int)
 | 0, _, P => if P = [] then some [] else none
 | n + 1, f, P => if P = [] then some [] else (List.range P.length).findSome? fun j => Zst RT L f P (Zsq RT L n) j
def Zmb (RT : List (List Int)) (L : List Tx) (M : List (Int × Int)) (P : List (List Int)) : Option (List Int) := Zsq RT L P.length (Zl9 M) P
structure OuSig (S : Sig GG) : Prop where
 ft : OfSig S
 u640 : ∀ a b c d, S.usr 640 a b c d = .rows (a.tR.eraseIdx b.tI.toNat)
 u641 : ∀ a b c d, S.usr 641 a b c d = .ints ((Zmb c.tR (ZK a) b.tM d.tR).getD [])
 u642 : ∀ a b c d, S.usr 642 a b c d = .bool (Zmb c.tR (ZK a) b.tM d.tR).isSome
 u643 : ∀ a b c d, S.usr 643 a b c d = .bool (Zn (∀ j : Nat, (j : Int) < g0 (d.tR.getD 0 []) -> Zst c.tR (ZK a) (Zl9 b.tM) (d.tR.drop 1) (Zsq c.tR (ZK a) ((d.tR.drop 1).length - 1)) j = none))
def trmC : Ctr := ⟨[.int, .int, .int, .rows, .int], [.one (slC (ai 0) (ai 1) (ai 2) 1)], [pAr (ai 0) (rA 3) (ai 4)], [eLe z0 (ai 1), eLe (ai 1) (Zj (rA 3))], [], .tup [], [pAr (ai 0) (tk (rA 3) (ai 1)) (ai 4)], []⟩
theorem ZLd {G : Type} (S : Sig G) : Zbm S trmC := by
 refine Yp S fun T w0 ρ h hu hp hd hr hpre => ⟨ρ, Ext.refl _ _, ?_, fun x hx => nomatch hx⟩
 have e1 : hpDen T ρ w0 trmC.pre = Zc (rAD pE (ρ 0).tI (ρ 3).tR (ρ 4).tI) emp := rfl
 have e2 : hpDen T ρ w0 trmC.post = Zc (rAD pE (ρ 0).tI ((ρ 3).tR.take (ρ 1).tI.toNat) (ρ 4).tI) emp := rfl
 rw [e1, Zf] at hpre
 rw [e2, Zf]
 obtain ⟨spare, h1, h2, h3, h4⟩ := hpre
 generalize (ρ 3).tR = R at *
 generalize (ρ 1).tI.toNat = n at *
 have hv : pE.vals (U.rows R : U Unit) = pE.vals (U.rows (R.take n) : U Unit) ++ pE.vals (U.rows (R.drop n) : U Unit) := by
  show R.flatMap _ = (R.take n).flatMap _ ++ (R.drop n).flatMap _
  rw [<- List.flatMap_append, List.take_append_drop]
 refine ⟨pE.vals (U.rows (R.drop n) : U Unit) ++ spare, ?_, h2, h3, ?_⟩
 ·rw [<- h1, hv]; simp only [ZN3]; omega
 ·rw [hv, ZOm] at h4; exact h4
def dlL : SX := SX.mk2 40 (ai 4) (SX.mk2 41 (Zj (rA 1)) (add1 (ai 4)))
def Zwy : Ctr := ⟨[.int, .rows, .int, .int, .int], [.one (slC (ai 0) (Zj (rA 1)) (ai 2) 1), .one (.int .i64 (ai 4)), .one (.int .i64 (add1 (ai 4)))], [pAr (ai 0) (rA 1) (ai 3)],
 [eLe z0 (ai 4), eLt (ai 4) (Zj (rA 1)), eLe (Zj (rA 1)) (ai 2), eLe dlL (ai 2), eLe (ai 2) (ai 3), eLe (Zj (rA 1)) (.int 1000)], [], .one (slC (ai 0) (SX.mk2 41 (Zj (rA 1)) (.int 1)) (ai 2) 1), [pAr (ai 0) (usR 640 (rA 1) (ai 4) z0) (ai 3)], []⟩
def ZMJ : Cx := { specs := [], anns := [(70, [(7, .ghost trmC [.tmp 0])])] }
def ZkY : SX := .f2 40 (a 4) (k 1)
def ZvP : SX := .f2 41 (.f1 32 (r 1)) ZkY
def Zdv : SX := .f2 40 (a 4) ZvP
def ZIZ : SX := e (a 4) ZkY
def ZHB : SX := wR 640 (r 1) (a 4)
def ZGP : SX := .f2 40 (.f1 32 (r 1)) (k (-1))
def ZAW : SX := .f2 41 (.f1 32 (r 1)) Zdv
def ZIp : SX := .f2 40 Zdv ZAW
def ZHG : SX := .f2 115 (r 1) (a 4)
def ZHW : SX := .f2 115 (.f2 118 (r 1) ZkY) ZvP
def ZyA : SX := .f2 118 (r 1) Zdv
def Zw0 : SX := .f2 121 ZHG (.f2 121 ZHW ZyA)
def ZxR : SX := .f2 115 Zw0 Zdv
def Zsu : SX := .f2 127 ZAW (.f2 122 (k (-1)) (.f1 152 z))
def ZyL : SX := .f2 118 Zw0 ZIp
def ZL7 : VC := i (l z (a 4)) (i (t (a 4) (.f1 32 (r 1))) (i (l (.f1 32 (r 1)) (a 2)) (i (l Zdv (a 2)) (i (l (a 2) (a 3)) (i (l (.f1 32 (r 1)) (k 1000)) (n (l z (a 2)) (n (l (a 4) ZkY) (n (l z ZkY) (n (l ZkY (.f1 32 (r 1))) (.and (i ZIZ (n (.f2 155 ZHB (r 1)) (n (e ZGP (.f1 32 (r 1))) .tt))) (i (.f1 2 ZIZ) (n (l (a 4) (a 2)) (n (l (a 4) (.f1 32 (r 1))) (n (l Zdv (a 3)) (n (l z ZvP) (n (l ZvP (.f2 41 (a 2) ZkY)) (n (l (.f2 40 Zdv (k 1)) (.f1 32 (r 1))) (n (l z Zdv) (n (l Zdv (.f1 32 (r 1))) (n (l z ZAW) (n (l ZAW (.f2 41 (a 2) Zdv)) (n (l ZIp (.f2 40 (.f1 32 ZHG) (.f2 40 (.f1 32 ZHW) (.f1 32 ZyA)))) (n (l Zdv (.f2 40 (.f1 32 ZxR) (.f2 40 (.f1 32 Zsu) (.f1 32 ZyL)))) (n (.f2 155 ZHB (.f2 115 (.f2 121 ZxR (.f2 121 Zsu ZyL)) Zdv)) (n (e ZGP Zdv) .tt)))))))))))))))))))))))))
theorem ZM4 : Yq Tryz.prog ZMJ 12 70 Zwy = ZL7 := by kernel_rfl
theorem ZLC (S : Sig GG) (hS : OuSig S) : Zy S Tryz.prog 70 Zwy := by
 refine Ze S (C := ZMJ) (fuel := 12) (ZQ trivial ⟨⟨⟨by decide, ZLd S⟩, trivial⟩, trivial⟩ trivial) fun ρ => ?_
 rw [ZM4]
 simp only [ZL7, ZkY, ZvP, Zdv, ZIZ, ZHB, ZGP, ZAW, ZIp, ZHG, ZHW, ZyA, Zw0, ZxR, Zsu, ZyL, hS.u640, ZI, ZN5, VC.den, SX.den, Env.upd, ZS, ZD, beq_iff_eq, ZNX, beq_eq_false_iff_ne, ne_eq, ZNW, ZNV, Int.reduceToNat, Nat.reduceEqDiff, reduceIte, sB, sC]
 generalize (ρ 1).tR = R
 generalize (ρ 2).tI = c
 generalize (ρ 3).tI = c3
 intro h1 h2 h3 h4 h5 h6
 generalize (ρ 4).tI = i at *
 obtain ⟨n, rfl⟩ := ZNQ h1
 have hn : n < R.length := by omega
 have e1 : ((n : Int) + 1).toNat = n + 1 := by omega
 have e2 : ((R.length : Int) - ((n : Int) + 1)).toNat = R.length - (n + 1) := by omega
 have e3 : ((n : Int) + ((R.length : Int) - ((n : Int) + 1))).toNat = R.length - 1 := by omega
 simp only [ZN5, e1, e2, e3, ZFF, U.tRi, U.tIi] at *
 have l1 : (R.take n).length = n := by rw [ZN0]; omega
 have l2 : ((R.drop (n + 1)).take (R.length - (n + 1))) = R.drop (n + 1) := ZOa (by rw [ZOc]; omega)
 have l3 : (R.drop (n + 1)).length = R.length - (n + 1) := ZOc
 have l4 : (R.drop (R.length - 1)).length = 1 := by rw [ZOc]; omega
 have l5 : (R.take n ++ (R.drop (n + 1) ++ R.drop (R.length - 1))).take (R.length - 1) = R.take n ++ R.drop (n + 1) := by
  rw [<- ZOm, List.take_left']
  rw [ZN3, l1, l3]; omega
 have l6 : (R.take n ++ R.drop (n + 1)).length = R.length - 1 := by rw [ZN3, l1, l3]; omega
 simp only [l2, l5]
 refine ⟨by omega, by omega, by omega, by omega, fun h => absurd h (by omega), fun _ => ⟨by omega, by omega, by omega, by omega, by omega, by omega, by omega, by omega, by omega, by omega, by rw [l1, l3, l4]; omega, ?_, ?_, by omega, trivial⟩⟩
 ·rw [l6]; omega
 ·rw [List.take_left' l6, List.eraseIdx_eq_take_drop_succ]
/-! ### Plain lemmas of the order -/
theorem ZGT (M : List (Int × Int)) : ZgU M (Zl9 M) := fun _ => ⟨rfl, rfl⟩
theorem ZDz {M ch M' : List (Int × Int)} (h : ZvE M ch M') : Zl9 M' = ZDX (Zl9 M) ch := by
 funext q
 obtain ⟨a, b⟩ := h q
 unfold Zl9 ZDX
 by_cases hc : Zx ch q = true
 ·rw [if_pos hc] at b ⊢
  rw [a, hc, b, Bool.or_true]
 ·rw [if_neg hc] at b ⊢
  have : Zx ch q = false := by simpa using hc
  rw [a, this, b, Bool.or_false]
theorem ZDW (RT : List (List Int)) (L : List Tx) (M : List (Int × Int)) (P : List (List Int)) (t : Int) : ZJ5 ([t] :: P) RT M L ↔ ZBe RT L (Zl9 M) P t := by
 unfold ZJ5 ZBe
 simp only [ZmG (ZGT M)]
 exact Iff.rfl
theorem ZhV {α : Type} {f : Nat -> Option α} {n i : Nat} {a : α} (hi : i < n) (h0 : ∀ j < i, f j = none) (h1 : f i = some a) : (List.range n).findSome? f = some a := by
 induction n with
 | zero => omega
 | succ n ih =>
  rw [List.range_succ, List.findSome?_append]
  rcases ZNS i n with q | q
  ·rw [ih q]; rfl
  ·have : i = n := by omega
   subst this
   have : (List.range i).findSome? f = none := by
    rw [List.findSome?_eq_none_iff]
    intro j hj; exact h0 j (List.mem_range.1 hj)
   rw [this]; simp [h1]
theorem ZkC {α : Type} {f : Nat -> Option α} {n : Nat} (h0 : ∀ j < n, f j = none) : (List.range n).findSome? f = none := by
 rw [List.findSome?_eq_none_iff]
 intro j hj; exact h0 j (List.mem_range.1 hj)
theorem ZC6 (RT : List (List Int)) (L : List Tx) (M : List (Int × Int)) : Zmb RT L M [] = some [] := rfl
theorem ZsA {RT : List (List Int)} {L : List Tx} {M : List (Int × Int)} {P : List (List Int)} (h : P ≠ []) : Zmb RT L M P = (List.range P.length).findSome? fun j => Zst RT L (Zl9 M) P (Zsq RT L (P.length - 1)) j := by
 unfold Zmb
 cases hl : P.length with
 | zero => exact absurd (ZOd hl) h
 | succ n =>
  show (if P = [] then _ else _) = _
  rw [if_neg h, hl]; rfl
theorem ZCH {RT : List (List Int)} {L : List Tx} {f : Stf} {P : List (List Int)} {rec : Stf -> List (List Int) -> Option (List Int)} {j : Nat} (h : ¬ ZBe RT L f P (g0 (P.getD j []))) : Zst RT L f P rec j = none := by
 unfold Zst; rw [if_neg (by rw [Zl]; exact h)]
theorem ZBs {RT : List (List Int)} {L : List Tx} {f : Stf} {P : List (List Int)} {rec : Stf -> List (List Int) -> Option (List Int)} {j : Nat} (h : ZBe RT L f P (g0 (P.getD j []))) :
  Zst RT L f P rec j = (rec (ZDX f (Y3 RT L (g0 (P.getD j []))).ch) (P.eraseIdx j)).map ((Y3 RT L (g0 (P.getD j []))).who :: ·) := by
 unfold Zst; rw [if_pos (by rw [Zl]; exact h)]
def orA : List Srt := [.int, .amap, .int, .rows, .int, .int, .rows, .g]
def orL : SX := .us .ints 641 (gA 7) (mA 1) (rA 6) (rA 3)
def orB : SX := .us .bool 642 (gA 7) (mA 1) (rA 6) (rA 3)
def Zco (k : SX) : Ctr := ⟨orA, [.one (.map (ai 0)), .one (slC (ai 2) (Zj (rA 3)) (ai 4) 1)], [scC (ai 0) (mA 1), pAr (ai 2) (rA 3) (ai 5), txC (rA 6) (gA 7)],
 [eLe (.f2 40 (Zj (rA 3)) (.int 100)) k, eLe (Zj (rA 3)) (.int 1000), usB 560 (rA 3) (rA 6) z0, usB 621 (rA 3) z0 z0, usB 633 (gA 7) z0 z0, eLe (Zj (rA 3)) (ai 4), eLe (ai 4) (ai 5), eLe z0 (ai 0), .f2 50 (eLe z0 (ai 2)) (.f2 45 (Zj (rA 3)) z0)], [.int, .int, .bool],
 .tup [(false, [sl1 (ai 8) (Z1 orL) (ai 9)]), (false, [.bool (qA 10)])], [scC (ai 0) (mA 1), pAr (ai 2) (rA 3) (ai 5), txC (rA 6) (gA 7), iAr (ai 8) orL (ai 9)],
 [.f2 48 (qA 10) orB, eLe (Z1 orL) (ai 9), .f2 50 (eLe z0 (ai 8)) (.f2 45 (Z1 orL) z0), eLe (Z1 orL) (Zj (rA 3))]⟩
def ordI : Inv := ⟨[.int], [(16, .one (.int .i64 (di 0)))], [], [eLe z0 (di 0), eLe (di 0) (Zj (rA 3)), .us .bool 643 (gA 7) (mA 1) (rA 6) (Zz (Zss (di 0)) (rA 3))], .f2 41 (Zj (rA 3)) (di 0)⟩
def Zf9 (k' : SX) : Cx := { specs := [(68, [Zz3]), (69, [Zk8]), (26, [ZlI]), (70, [Zwy]), (39, [Zco k'])], anns := [(39, [(2, .ghost ZoA []), (4, .inv ordI), (8, .ghost ZqW [.tmp 7]), (500008, .ghost ZjV [.tmp 7]), (11, .ghost ZqW [.tmp 7]), (500011, .ghost ZjV [.tmp 7]), (13, .ghost ZoA [])])] }
def ZHQ : SX := l z (a 2)
def ZuD : SX := e (.f1 32 (r 3)) z
def ZGp : SX := .us .bool 642 (g 7) (m 1) (r 6) (r 3)
def ZB5 : SX := .f2 48 (.bool true) ZGp
def ZsB : SX := .us .ints 641 (g 7) (m 1) (r 6) (r 3)
def Zk6 : SX := .f1 30 ZsB
def ZFt : SX := l Zk6 z
def ZrA : SX := e Zk6 z
def ZGQ : SX := .f2 50 (.bool false) ZrA
def Zuf : SX := l Zk6 (.f1 32 (r 3))
def ZzK : SX := .f2 155 ZsB (.f1 152 z)
def ZjZ : SX := .f3 112 (r 3) (a 8) z
def ZgZ : SX := .f2 40 (a 8) (k 1)
def ZqJ : SX := .f1 23 ZgZ
def Zqi : SX := .f2 41 (.f1 32 (r 3)) ZgZ
def ZoM : SX := l z Zqi
def ZqF : SX := t Zqi (.f2 41 (.f1 32 (r 3)) (a 8))
def Zo6 : SX := l z ZgZ
def ZqO : SX := l ZgZ (.f1 32 (r 3))
def Zrf : SX := .us .bool 643 (g 7) (m 1) (r 6) (.f2 124 (.f2 122 ZgZ (.f1 152 z)) (r 3))
def Zbt : SX := d 566 (r 6) ZjZ
def ZxM : SX := .f3 112 (r 6) Zbt z
def Zo1 : SX := e ZjZ ZxM
def ZAM : SX := v 552 (g 7)
def ZoS : SX := t Zbt ZAM
def Zxy : SX := .f1 32 (wR 545 (g 7) Zbt)
def Zo5 : SX := l Zxy (.f3 112 (r 6) Zbt (k 3))
def ZxO : SX := .f1 30 (wN 546 (g 7) Zbt)
def ZoP : SX := l ZxO (.f3 112 (r 6) Zbt (k 5))
def ZpT : SX := .f2 50 (l z (.f3 112 (r 6) Zbt (k 2))) (e Zxy z)
def Zp2 : SX := .f2 50 (l z (.f3 112 (r 6) Zbt (k 4))) (e ZxO z)
def Zqp : SX := l z (.f3 112 (r 6) Zbt (k 1))
def ZqR : SX := l z ZxM
def ZpH : SX := e (.f1 32 (r 6)) ZAM
def Zim : SX := wR 640 (.f1 154 z) (a 8)
def Zf8 : SX := .f1 32 Zim
def Zvz : SX := .us .ints 641 (g 7) (m 11) (r 6) Zim
def Zf5 : SX := .f1 30 Zvz
def ZtH : SX := l z (a 12)
def Zuc : SX := l z (a 15)
def Zlz : SX := .f2 40 Zf5 (k 1)
def ZwD : SX := l z (a 16)
def ZtM : SX := d 540 (g 7) Zbt
def ZzY : SX := l z (a 13)
def ZhR : SX := wR 640 (r 3) (a 8)
def ZgQ : SX := .f1 32 ZhR
def ZAr : SX := .us .ints 641 (g 7) (m 11) (r 6) ZhR
def ZgR : SX := .f1 30 ZAr
def ZkD : SX := .f2 40 ZgR (k 1)
def Zt1 : SX := l z (a 19)
def Zfe (k k' : SX) : VC := (.imp (.f2 47 (.f2 40 (.f1 32 (.at .rows 3)) (.int 100)) k) (.imp (.f2 47 (.f1 32 (.at .rows 3)) (.int 1000)) (.imp (.us .bool 560 (.at .rows 3) (.at .rows 6) 
  (.int 0) (.int 0)) (.imp (.us .bool 621 (.at .rows 3) (.int 0) (.int 0) (.int 0)) (.imp (.us .bool 633 (.at .g 7) (.int 0) (.int 0) (.int 0)) (.imp 
  (.f2 47 (.f1 32 (.at .rows 3)) (.at .int 4)) (.imp (.f2 47 (.at .int 4) (.at .int 5)) (.imp (.f2 47 (.int 0) (.at .int 0)) (.imp (.f2 50 ZHQ ZuD) 
  (.and (.imp ZuD (.need ZB5 (.need ZFt (.need ZGQ (.need Zuf (.need ZzK (.need ZrA (.tt)))))))) (.imp (.f1 2 ZuD) (.need (.us .bool 
  643 (.at .g 7) (.at .amap 1) (.at .rows 6) (.f2 124 (.f2 122 (.int 0) (.f1 152 (.int 0))) (.at .rows 3))) (.all 8 .int (.imp (.f2 47 (.int 0) (.at 
  .int 8)) (.imp (.f2 47 (.at .int 8) (.f1 32 (.at .rows 3))) (.imp (.us .bool 643 (.at .g 7) (.at .amap 1) (.at .rows 6) (.f2 124 (.f2 122 (.at .int 8) 
  (.f1 152 (.int 0))) (.at .rows 3))) (.and (.imp (.f2 46 (.at .int 8) (.f1 32 (.at .rows 3))) (.need (.us .bool 565 (.at .rows 6) ZjZ (.int 0) (.int 
  0)) (.all 9 .bool (.imp (.f2 48 (.at .bool 9) (.us .bool 631 (.f2 124 (.f2 122 ZjZ (.f1 152 (.int 0))) (.at .rows 3)) (.at .rows 6) (.at .amap 1) 
  (.at .g 7))) (.and (.imp (.f1 2 (.at .bool 9)) (.need ZqJ (.need ZoM (.need ZqF (.need Zo6 (.need ZqO (.need Zrf (.tt)))))))) (.imp 
  (.f1 2 (.f1 2 (.at .bool 9))) (.all 10 .int (.imp (.f2 47 (.int 0) (.at .int 10)) (.imp Zo1 (.imp ZoS (.imp Zo5 (.imp ZoP (.imp ZpT 
  (.imp Zp2 (.imp Zqp (.imp ZqR (.imp ZpH (.all 11 .amap (.imp (.us .bool 531 (.at .amap 1) (.us .amap 544 (.at .g 7) Zbt (.int 0) (.int 
  0)) (.at .amap 11) (.int 0)) (.need (.f2 47 (.int 0) Zbt) (.and (.imp (.f2 46 (.at .int 2) (.int 0)) (.need ZqJ (.need (.f2 46 (.at .int 8) 
  (.int 0)) (.need (.f2 47 (.f2 40 (.at .int 8) (.f2 41 (.int 0) ZgZ)) (.int 0)) (.need (.f2 47 (.f2 40 Zf8 (.int 100)) k') (.need (.f2 47 Zf8 (.int 1000)) 
  (.need (.us .bool 560 Zim (.at .rows 6) (.int 0) (.int 0)) (.need (.us .bool 621 Zim (.int 0) (.int 0) (.int 0)) (.need (.f2 47 Zf8 (.int 0)) 
  (.need (.f2 50 (.bool false) (.f2 45 Zf8 (.int 0))) (.need (.f2 45 Zf8 (.int (-1))) (.all 12 .int (.all 13 .int (.all 14 .bool (.imp (.f2 48 
  (.at .bool 14) (.us .bool 642 (.at .g 7) (.at .amap 11) (.at .rows 6) Zim)) (.imp (.f2 47 Zf5 (.at .int 13)) (.imp (.f2 50 ZtH (.f2 45 Zf5 
  (.int 0))) (.imp (.f2 47 Zf5 Zf8) (.and (.imp (.at .bool 14) (.imp Zo1 (.imp ZoS (.imp Zo5 (.imp ZoP (.imp ZpT (.imp Zp2 (.imp 
  Zqp (.imp ZqR (.imp ZpH (.all 15 .int (.imp Zuc (.need (.f2 47 (.f2 42 Zlz (.int 8)) (.int 140737488355328)) (.need (.f2 47 Zf5 
  Zf5) (.all 16 .int (.all 17 .int (.imp (.f2 47 Zlz (.at .int 17)) (.imp (.f2 50 ZwD (.f2 45 Zlz (.int 0))) (.need ZB5 (.need (.f2 47 
  Zk6 (.at .int 17)) (.need (.f2 50 ZwD ZrA) (.need Zuf (.need (.f2 155 ZsB (.f2 122 ZtM Zvz)) (.need (.f2 45 Zk6 Zlz) 
  (.tt))))))))))))))))))))))))) (.imp (.f1 2 (.at .bool 14)) (.need ZoM (.need ZqF (.need Zo6 (.need ZqO (.need Zrf 
  (.tt)))))))))))))))))))))))))) (.imp ZHQ (.all 12 .int (.imp ZtH (.need (.f2 47 (.f2 42 (.f1 32 (.at .rows 3)) (.int 8)) (.int 140737488355328)) 
  (.need (.f2 47 (.f1 32 (.at .rows 3)) (.f1 32 (.at .rows 3))) (.all 13 .int (.all 14 .int (.imp (.f2 47 (.f1 32 (.at .rows 3)) (.at .int 14)) (.imp 
  (.f2 50 ZzY ZuD) (.need ZqJ (.need (.f2 47 (.f2 40 (.at .int 8) Zqi) (.at .int 14)) (.need (.f2 47 (.at .int 14) (.at .int 14)) (.need (.f2 47 (.f2 40 ZgQ (.int 100)) k') (.need (.f2 47 ZgQ (.int 1000)) (.need (.us .bool 560 ZhR (.at .rows 6) (.int 0) (.int 0)) (.need (.us .bool 621 ZhR 
  (.int 0) (.int 0) (.int 0)) (.need (.f2 47 ZgQ (.at .int 14)) (.need (.f2 50 ZzY (.f2 45 ZgQ (.int 0))) (.need (.f2 45 ZgQ (.f2 40 (.f1 32 
  (.at .rows 3)) (.int (-1)))) (.all 15 .int (.all 16 .int (.all 17 .bool (.imp (.f2 48 (.at .bool 17) (.us .bool 642 (.at .g 7) (.at .amap 11) (.at 
  .rows 6) ZhR)) (.imp (.f2 47 ZgR (.at .int 16)) (.imp (.f2 50 Zuc (.f2 45 ZgR (.int 0))) (.imp (.f2 47 ZgR ZgQ) (.and (.imp (.at 
  .bool 17) (.imp Zo1 (.imp ZoS (.imp Zo5 (.imp ZoP (.imp ZpT (.imp Zp2 (.imp Zqp (.imp ZqR (.imp ZpH (.all 18 .int (.imp 
  (.f2 47 (.int 0) (.at .int 18)) (.need (.f2 47 (.f2 42 ZkD (.int 8)) (.int 140737488355328)) (.need (.f2 47 ZgR ZgR) (.all 19 .int (.all 20 
  .int (.imp (.f2 47 ZkD (.at .int 20)) (.imp (.f2 50 Zt1 (.f2 45 ZkD (.int 0))) (.need ZB5 (.need (.f2 47 Zk6 (.at .int 20)) (.need (.f2 
  50 Zt1 ZrA) (.need Zuf (.need (.f2 155 ZsB (.f2 122 ZtM ZAr)) (.need (.f2 45 Zk6 ZkD) (.tt))))))))))))))))))))))))) (.imp (.f1 2 
  (.at .bool 17)) (.need ZoM (.need ZqF (.need Zo6 (.need ZqO (.need Zrf (.tt))))))))))))))))))))))))))))))))))))))))))))))))))))))) 
  (.imp (.f2 47 (.f1 32 (.at .rows 3)) (.at .int 8)) (.need (.f2 48 (.bool false) ZGp) (.need ZFt (.need ZGQ (.need Zuf (.need ZzK (.need 
  ZrA (.tt)))))))))))))))))))))))))
theorem ZIJ : Yq Tryz.prog (Zf9 (.int 99)) 12 39 (Zco (.int 100)) = Zfe (.int 100) (.int 99) := by kernel_rfl
theorem ZIa : Yq Tryz.prog (Zf9 (.int 100)) 12 39 (Zco (.int 101)) = Zfe (.int 101) (.int 100) := by kernel_rfl
theorem ZF4 : Yq Tryz.prog (Zf9 (.int 101)) 12 39 (Zco (.int 102)) = Zfe (.int 102) (.int 101) := by kernel_rfl
theorem ZFg : Yq Tryz.prog (Zf9 (.int 102)) 12 39 (Zco (.int 103)) = Zfe (.int 103) (.int 102) := by kernel_rfl
theorem ZFN : Yq Tryz.prog (Zf9 (.int 103)) 12 39 (Zco (.int 104)) = Zfe (.int 104) (.int 103) := by kernel_rfl
theorem ZIM : Yq Tryz.prog (Zf9 (.int 104)) 12 39 (Zco (.int 105)) = Zfe (.int 105) (.int 104) := by kernel_rfl
theorem ZFr : Yq Tryz.prog (Zf9 (.int 105)) 12 39 (Zco (.int 106)) = Zfe (.int 106) (.int 105) := by kernel_rfl
theorem ZHh : Yq Tryz.prog (Zf9 (.int 106)) 12 39 (Zco (.int 107)) = Zfe (.int 107) (.int 106) := by kernel_rfl
theorem ZEz : Yq Tryz.prog (Zf9 (.int 107)) 12 39 (Zco (.int 108)) = Zfe (.int 108) (.int 107) := by kernel_rfl
theorem ZGi (S : Sig GG) (hS : OuSig S) (k : Int) (ρ : Go.Eng.Env GG) : (Zfe (.int k) (.int (k - 1))).den S ρ := by
 simp only [Zfe, ZHQ, ZuD, ZGp, ZB5, ZsB, Zk6, ZFt, ZrA, ZGQ, Zuf, ZzK, ZjZ, ZgZ, ZqJ, Zqi, ZoM, ZqF, Zo6, ZqO, Zrf, Zbt, ZxM, Zo1, ZAM, ZoS, Zxy, Zo5, ZxO, ZoP, ZpT, Zp2, Zqp, ZqR, ZpH, Zim, Zf8, Zvz, Zf5, ZtH, Zuc, Zlz, ZwD, ZtM, ZzY, ZhR, ZgQ, ZAr, ZgR, ZkD, Zt1, hS.ft.od.fi.js.jt.jb.u531, hS.ft.od.fi.js.jt.u540, hS.ft.od.fi.js.jt.u544, hS.ft.od.fi.js.jt.u545, hS.ft.od.fi.js.jt.u546, hS.ft.od.fi.js.jt.u552, hS.ft.od.fi.js.jt.u560, hS.ft.od.fi.js.jt.u565, hS.ft.od.fi.js.jt.u566, hS.ft.od.u621, hS.ft.u631, hS.ft.u633, hS.u640, hS.u641, hS.u642, hS.u643, ZI, ZN5, VC.den, SX.den, Env.upd, ZS, ZD, beq_iff_eq, ZNX, beq_eq_false_iff_ne, ne_eq, ZNW, ZNV, Int.reduceToNat, Nat.reduceEqDiff, reduceIte, sB, sC]
 generalize (ρ 3).tR = P
 generalize (ρ 6).tR = RT
 generalize (ρ 1).tM = M
 generalize ZK (U.co S Srt.g (ρ 7)) = L
 generalize (ρ 0).tI = c0
 generalize (ρ 2).tI = c2
 generalize (ρ 4).tI = c4
 generalize (ρ 5).tI = c5
 intro h1 h2 h3 h4 h5 h6 h7 h8 h9
 have hdr : ∀ x : Int, List.drop 1 ([x] :: P) = P := fun _ => rfl
 have hg : ∀ x : Int, g0 (([x] :: P).getD 0 []) = x := fun _ => rfl
 simp only [hdr, hg]
 refine ⟨fun hz => ?_, fun hz => ⟨fun j hj => absurd hj (by omega), fun i i0 i1 g1 => ?_⟩⟩
 ·have hp : P = [] := ZOd (by omega)
  subst hp
  rw [ZC6]
  exact ⟨rfl, ZN9 _, .inr rfl, ZN9 _, rfl, rfl, trivial⟩
 ·have hne : P ≠ [] := fun h => hz (by rw [h]; rfl)
  have hs := ZsA (RT := RT) (L := L) (M := M) hne
  obtain ⟨n, rfl⟩ := ZNQ i0
  simp only [ZN5]
  have step : Zst RT L (Zl9 M) P (Zsq RT L (P.length - 1)) n = none -> ∀ j : Nat, (j : Int) < (n : Int) + 1 -> Zst RT L (Zl9 M) P (Zsq RT L (P.length - 1)) j = none := fun ho j hj => by
   rcases ZNS j n with q | q
   ·exact g1 j (by omega)
   ·have : j = n := by omega
    subst this; exact ho
  refine ⟨fun hn => ?_, fun hn => ?_⟩
  ·have hn2 : n < P.length := by omega
   have hmem : P.getD n [] ∈ P := by rw [ZNY, ZN1 hn2]; exact ZOl _
   obtain ⟨t, ht, hbl⟩ := h3 _ hmem
   have ht2 : (P.getD n []).getD 0 0 = t := by rw [ht]; rfl
   have hg0 : g0 (P.getD n []) = t := ht2
   simp only [ht2]
   have hlen : (P.eraseIdx n).length = P.length - 1 := List.length_eraseIdx_of_lt hn2
   refine ⟨hbl, fun v hv => ⟨fun hno => ⟨⟨by omega, by omega⟩, by omega, by omega, by omega, by omega, step ?_, trivial⟩, fun hyes => ?_⟩⟩
   ·refine ZCH fun hf => ?_
    rw [hg0] at hf
    have := Zu ((ZDW RT L M P t).2 hf)
    rw [<- hv, hno] at this
    cases this
   ·have hfit : ZBe RT L (Zl9 M) P (g0 (P.getD n [])) := by rw [hg0]; exact (ZDW RT L M P t).1 (Zl.mp (hv.symm.trans hyes))
    have hT := ZBs (rec := Zsq RT L (P.length - 1)) hfit
    rw [hg0] at hT
    intro c _ _ _ _ _ _ _ _ _ _ M2 hM2
    have hT2 : Zst RT L (Zl9 M) P (Zsq RT L (P.length - 1)) n = (Zmb RT L M2 (P.eraseIdx n)).map ((Y3 RT L t).who :: ·) := by
     rw [hT]; unfold Zmb; rw [hlen, ZDz hM2]; rfl
    refine ⟨by omega, fun hc => absurd (h9.resolve_left (by omega)) (by omega), fun hc _ _ => ⟨by omega, by omega, fun b r hr hb => ⟨⟨by omega, by omega⟩, by omega, by omega, by omega, by omega, fun u hu => h3 u (List.mem_of_mem_eraseIdx hu), ?_, by omega, by omega, by omega, fun b2 r2 w hw q1 q2 q3 => ⟨fun hy => ?_, fun hn => ⟨by omega, by omega, by omega, by omega, step ?_, trivial⟩⟩⟩⟩⟩
    ·exact List.Nodup.sublist (List.Sublist.map g0 (List.eraseIdx_sublist P n)) h4
    ·have hyy : (Zmb RT L M2 (P.eraseIdx n)).isSome = true := by rw [<- hw]; exact hy
     obtain ⟨l, hl⟩ := Option.isSome_iff_exists.1 hyy
     have hall : Zmb RT L M P = some ((Y3 RT L t).who :: l) := by
      rw [hs]; exact ZhV (i := n) hn2 (fun j hj => g1 j (by omega)) (by rw [hT2, hl]; rfl)
     rw [hall]
     rw [hl] at q1 q2 q3 ⊢
     have hl1 : (((Y3 RT L t).who :: l).length : Int) = (l.length : Int) + 1 := by rw [ZOi]; rfl
     simp only [ZNT, Option.isSome_some, hl1] at q1 q2 q3 ⊢
     intro _ _ _ _ _ _ _ _ _ c3 _
     exact ⟨by omega, by omega, fun b3 r3 y1 y2 => ⟨trivial, y1, y2, by omega, rfl, trivial, trivial⟩⟩
    ·rw [hT2]
     have : (Zmb RT L M2 (P.eraseIdx n)).isSome = false := by rw [<- hw]; exact hn
     have hn0 : Zmb RT L M2 (P.eraseIdx n) = none := Option.isNone_iff_eq_none.1 (by rw [<- Option.not_isSome, this]; rfl)
     rw [hn0]; rfl
  ·have : Zmb RT L M P = none := by rw [hs]; exact ZkC fun j hj => g1 j (by omega)
   rw [this]
   exact ⟨rfl, ZN9 _, .inr rfl, Int.natCast_nonneg _, rfl, rfl, trivial⟩
theorem ZMn {G : Type} (S : Sig G) (P : Program) (f : FuncId) : Zy S P f (Zco (.int 99)) := by
 intro ch w0 F ρ w xs hx hq hsat
 exfalso
 have h1 := hq (eLe (.f2 40 (Zj (rA 3)) (.int 100)) (.int 99)) (by simp [Zco])
 rw [Zh] at h1
 simp only [SX.den, Zwb, Yf, Zj, U.tIi] at h1
 omega
theorem ZbM (S : Sig GG) (hS : OuSig S) {k k' : Int} (hk : k' = k - 1) (hv : Yq Tryz.prog (Zf9 (.int k')) 12 39 (Zco (.int k)) = Zfe (.int k) (.int k'))
  (h : Zy S Tryz.prog 39 (Zco (.int k'))) : Zy S Tryz.prog 39 (Zco (.int k)) := by
 subst hk
 refine Ze S (C := Zf9 (.int (k - 1))) (fuel := 12) (ZQ ⟨Zg (by decide) (ZMz S hS.ft), Zg (by decide) (ZM6 S), Zg (by decide) (Zxp S hS.ft.od.fi.js.jt.jb), Zg (by decide) (ZLC S hS), Zg rfl h, trivial⟩ ⟨⟨⟨by decide, Zb9 S⟩, trivial, ⟨by decide, ZcE S hS.ft.od.fi.js.jt⟩, ⟨by decide, Zcr S hS.ft.od.fi.js.jt⟩, ⟨by decide, ZcE S hS.ft.od.fi.js.jt⟩, ⟨by decide, Zcr S hS.ft.od.fi.js.jt⟩, ⟨by decide, Zb9 S⟩, trivial⟩, trivial⟩ trivial) fun ρ => ?_
 rw [hv]
 exact ZGi S hS k ρ
theorem ZKA (S : Sig GG) (hS : OuSig S) : Zy S Tryz.prog 39 (Zco (.int 108)) :=
 ZbM S hS rfl ZEz <| ZbM S hS rfl ZHh <| ZbM S hS rfl ZFr <| ZbM S hS rfl ZIM <| ZbM S hS rfl ZFN <| ZbM S hS rfl ZFg <| ZbM S hS rfl ZF4 <| ZbM S hS rfl ZIa <| ZbM S hS rfl ZIJ <| ZMn S _ _
/-! ### Plain words -/
def Zhu : List Int -> Int -> List Int
 | [], k => [k]
 | a :: l, k => if a < k then a :: Zhu l k else k :: a :: l
def ZlK (l : List Int) : Nat -> List Int
 | 0 => []
 | n + 1 => Zhu (ZlK l n) (l.getD n 0)
def ZHH (x : List Ent) (asg : List Int) (w : Int) (n : Int) : Prop := ∀ j : Nat, (j : Int) < n -> xk (xa x j) = 5 -> xw (xa x j) ∈ asg
def ZF8 (x : List Ent) (asg : List Int) (w : Int) (n : Int) : Prop := ∀ j : Nat, (j : Int) < n -> xk (xa x j) = 2 -> xw (xa x j) = w -> (Zg8 x j asg).1 = true
def Zpr (x : List Ent) (asg : List Int) (w : Int) : Prop := ZHH x asg w (Yd x 1 w x.length) /\ ZF8 x asg w x.length /\ w ∉ asg
def Zqj (x : List Ent) (all asg : List Int) (rec : List Int -> Option (List Int)) (j : Nat) : Option (List Int) := if Zn (Zpr x asg (all.getD j 0)) = true then rec (asg ++ [all.getD j 0]) else none
def Zik (x : List Ent) (all : List Int) : Nat -> List Int -> Option (List Int)
 | 0, asg => if asg.length = all.length then some asg else none
 | n + 1, asg => if asg.length = all.length then some asg else (List.range all.length).findSome? fun j => Zqj x all asg (Zik x all n) j
def ZgN (x : List Ent) (all asg : List Int) : Option (List Int) := Zik x all (all.length - asg.length) asg
def orE (x : List Ent) : Int := if Zb5 x ≠ 0 then Zb5 x else if 0 <= (ZcG x x.length).1 then 280 else if 8 < (ZJ x x.length).length then 2 else 0
def orS (x : List Ent) : Option (List Int) := if orE x = 0 then ZgN x (ZlK (ZJ x x.length) (ZJ x x.length).length) [] else none
structure OrSig (S : Sig GG) : Prop where
 ou : OuSig S
 u650 : ∀ a b c d, S.usr 650 a b c d = .ints (ZlK a.tN b.tI.toNat)
 u651 : ∀ a b c d, S.usr 651 a b c d = .bool (Zn (∀ j : Nat, (j : Int) < c.tI -> a.tN.getD j 0 < b.tI))
 u652 : ∀ a b c d, S.usr 652 a b c d = .bool (Zn (b.tI ∈ a.tN))
 u653 : ∀ a b c d, S.usr 653 a b c d = .bool (Zn (∀ j : Nat, (j : Int) < c.tI -> a.tN.getD j 0 ≠ b.tI))
 u654 : ∀ a b c d, S.usr 654 a b c d = .bool (Zn (Zpr a.tR b.tN c.tI))
 u655 : ∀ a b c d, S.usr 655 a b c d = .bool (Zn (ZHH a.tR b.tN c.tI d.tI))
 u656 : ∀ a b c d, S.usr 656 a b c d = .bool (Zn (ZF8 a.tR b.tN c.tI d.tI))
 u657 : ∀ a b c d, S.usr 657 a b c d = .ints ((ZgN a.tR b.tN c.tN).getD [])
 u658 : ∀ a b c d, S.usr 658 a b c d = .bool (ZgN a.tR b.tN c.tN).isSome
 u659 : ∀ a b c d, S.usr 659 a b c d = .bool (Zn (∀ j : Nat, (j : Int) < d.tI -> Zqj a.tR b.tN c.tN (Zik a.tR b.tN (b.tN.length - c.tN.length - 1)) j = none))
 u660 : ∀ a b c d, S.usr 660 a b c d = .ints ((orS a.tR).getD [])
 u661 : ∀ a b c d, S.usr 661 a b c d = .bool (orS a.tR).isSome
 u662 : ∀ a b c d, S.usr 662 a b c d = .int (orE a.tR)
def rsW (n : SX) : SX := usN 650 (iA 4) n z0
def Zzd : Ctr := ⟨kA, [.one (kS 0)], [rdI 0 0], kQ 0, [.int, .int], .one (sl1 (ai 6) (Z1 (rsW (ai 2))) (ai 7)), [rdI 0 0, iAr (ai 6) (rsW (ai 2)) (ai 7)], [eLe (Z1 (rsW (ai 2))) (ai 7), .f2 50 (eLe z0 (ai 6)) (.f2 45 (Z1 (rsW (ai 2))) z0), .f2 45 (Z1 (rsW (ai 2))) (ai 2)]⟩
def rsgI : Inv := ⟨[.int, .int, .int], [(4, .one (.int .i64 (di 0))), (3, .one (sl1 (di 1) (Z1 (rsW (di 0))) (di 2)))], [iAr (di 1) (rsW (di 0)) (di 2)], [eLe z0 (di 0), eLe (di 0) (ai 2), eLe (Z1 (rsW (di 0))) (di 2), .f2 50 (eLe z0 (di 1)) (.f2 45 (Z1 (rsW (di 0))) z0)], .f2 41 (ai 2) (di 0)⟩
def rsgJ : Inv := ⟨[.int], [(5, .one (.int .i64 (di 0)))], [], [eLe z0 (di 0), eLe (di 0) (Z1 (rsW (ai 6))), usB 651 (rsW (ai 6)) (.f2 110 (iA 4) (ai 6)) (di 0)], .f2 41 (Z1 (rsW (ai 6))) (di 0)⟩
def ZK2 : Cx := { specs := [], anns := [(40, [(1, .ghost ZoA []), (3, .inv rsgI), (6, .inv rsgJ)])] }
def Zv8 : Ctr := ⟨kA ++ [.int], [.one (kS 0), .one (.int .i64 (ai 6))], [rdI 0 0], kQ 0, [.bool], .one (.bool (qA 7)), [rdI 0 0], [.f2 48 (qA 7) (usB 652 (iA 4) (ai 6) z0)]⟩
def hasI : Inv := ⟨[.int], [(5, .one (.int .i64 (di 0)))], [], [eLe z0 (di 0), eLe (di 0) (ai 2), usB 653 (iA 4) (ai 6) (di 0)], .f2 41 (ai 2) (di 0)⟩
def ZMB : Cx := { specs := [], anns := [(85, [(2, .inv hasI)])] }
def ftnX (k : Nat) (n : SX) : SX := .us .bool k (rA 4) (iA 10) (ai 12) n
def ftnF : SX := .us .int 500 (rA 4) (.int 1) (ai 12) (ai 2)
def Zt3 : Ctr := ⟨hA ++ kA ++ [.int], [.one (hS 0), .one (kS 6), .one (.int .i64 (ai 12))], [hC 0 0, rdI 1 6], hQ 0 ++ kQ 6, [.bool], .one (.bool (qA 13)), [hC 0 0, rdI 1 6], [.f2 48 (qA 13) (ftnX 654 z0)]⟩
def ftnI : Inv := ⟨[.int], [(8, .one (.int .i64 (di 0)))], [], [eLe z0 (di 0), .f2 50 (eLe (di 0) ftnF) (.f2 45 (di 0) z0), ftnX 655 (di 0)], .f2 41 (ai 2) (di 0)⟩
def ftnJ : Inv := ⟨[.int], [(9, .one (.int .i64 (di 0)))], [], [eLe z0 (di 0), eLe (di 0) (ai 2), ftnX 656 (di 0)], .f2 41 (ai 2) (di 0)⟩
def ZKQ : Cx := { specs := [(48, [ZpC]), (85, [Zv8]), (49, [Zs6])], anns := [(72, [(3, .inv ftnI), (8, .inv ftnJ)])] }
def srL : SX := usN 657 (rA 4) (iA 10) (iA 13)
def srB : SX := usB 658 (rA 4) (iA 10) (iA 13)
def srX (k : SX) : Ctr := ⟨hA ++ kA ++ [.int, .ints, .int, .int], [.one (hS 0), .one (kS 6), .one (sl1 (ai 12) (Z1 (iA 13)) (ai 14))], [hC 0 0, rdI 1 6, iAr (ai 12) (iA 13) (ai 15)],
 hQ 0 ++ kQ 6 ++ [eLe (Z1 (iA 13)) (ai 8), eLe (.f2 41 (ai 8) (Z1 (iA 13))) k, eLe (ai 8) (.int 400), eLe (Z1 (iA 13)) (ai 14), eLe (ai 14) (ai 15), .f2 50 (eLe z0 (ai 12)) (.f2 45 (Z1 (iA 13)) z0)], [.int, .int, .int, .bool],
 .tup [(false, [sl1 (ai 16) (Z1 srL) (ai 17)]), (false, [.bool (qA 19)])], [hC 0 0, rdI 1 6, iAr (ai 16) srL (ai 18)],
 [.f2 48 (qA 19) srB, eLe (Z1 srL) (ai 17), eLe (ai 17) (ai 18), .f2 50 (eLe z0 (ai 16)) (.f2 45 (Z1 srL) z0), eLe (Z1 srL) (ai 8)]⟩
def srcI : Inv := ⟨[.int], [(8, .one (.int .i64 (di 0)))], [], [eLe z0 (di 0), eLe (di 0) (ai 8), .us .bool 659 (rA 4) (iA 10) (iA 13) (di 0)], .f2 41 (ai 8) (di 0)⟩
def Zgm (k' : SX) : Cx := { specs := [(72, [Zt3]), (41, [srX k'])], anns := [(41, [(4, .inv srcI), (13, .ghost ZoA [])])] }
def ZAC : Ctr := ⟨hA, [.one (hS 0)], [hC 0 0], hQ 0, [.int, .int, .int, .bool, .int], .tup [(false, [sl1 (ai 6) (Z1 (usN 660 (rA 4) z0 z0)) (ai 7)]), (false, [.bool (qA 9)]), (false, [.int .i64 (ai 10)])], [hC 0 0, iAr (ai 6) (usN 660 (rA 4) z0 z0) (ai 8)],
 [.f2 48 (qA 9) (usB 661 (rA 4) z0 z0), .f2 45 (ai 10) (usI 662 (rA 4) z0 z0), eLe (Z1 (usN 660 (rA 4) z0 z0)) (ai 7), eLe (ai 7) (ai 8), .f2 50 (eLe z0 (ai 6)) (.f2 45 (Z1 (usN 660 (rA 4) z0 z0)) z0)]⟩
def ZJM : Cx := { specs := [(28, [Zv5]), (29, [ZuJ]), (30, [ZtP]), (40, [Zzd]), (41, [srX (.int 8)])], anns := [(18, [(3, .ghost ZoA []), (6, .ghost ZoA []), (9, .ghost ZoA []), (10, .ghost ZoA [])])] }
/-! ### Plain lemmas -/
theorem Zjn (k : Int) : ∀ l : List Int, (Zhu l k).length = l.length + 1
 | [] => rfl
 | a :: l => by
  unfold Zhu
  split
  ·rw [ZOi, Zjn k l, ZOi]
  ·rfl
theorem Zfz (l : List Int) : ∀ n, (ZlK l n).length = n
 | 0 => rfl
 | n + 1 => by show (Zhu _ _).length = _; rw [Zjn, Zfz l n]
theorem ZxP {k : Int} : ∀ {l : List Int} {p : Nat} (h : p <= l.length), (∀ j (hj : j < p), l.getD j 0 < k) -> (p < l.length -> ¬ l.getD p 0 < k) -> Zhu l k = l.take p ++ k :: l.drop p
 | [], p, h, _, _ => by simp [Zhu]
 | a :: l, 0, h, _, h2 => by
  have x : ¬ a < k := h2 (by simp)
  unfold Zhu
  rw [if_neg x]; rfl
 | a :: l, p + 1, h, h1, h2 => by
  have h0 : a < k := h1 0 (by omega)
  unfold Zhu
  rw [if_pos h0, ZxP (l := l) (p := p) (by simpa using h) (fun j hj => h1 (j + 1) (by omega)) (fun hp => h2 (by simpa using hp))]; rfl
theorem Zze {x : List Ent} {all asg : List Int} (h : asg.length = all.length) : ZgN x all asg = some asg := by
 unfold ZgN
 cases all.length - asg.length with
 | zero => show (if _ then _ else _) = _; rw [if_pos h]
 | succ n => show (if _ then _ else _) = _; rw [if_pos h]
theorem ZsD {x : List Ent} {all asg : List Int} (h : asg.length < all.length) : ZgN x all asg = (List.range all.length).findSome? fun j => Zqj x all asg (Zik x all (all.length - asg.length - 1)) j := by
 unfold ZgN
 cases hl : all.length - asg.length with
 | zero => omega
 | succ n =>
  show (if _ then _ else _) = _
  rw [if_neg (by omega)]; rfl
theorem ZpX (x : List Ent) (all : List Int) : ∀ (n : Nat) (asg l : List Int), Zik x all n asg = some l -> l.length = all.length
 | 0, asg, l, h => by
  unfold Zik at h
  split at h
  ·rename_i e; cases h; exact e
  ·cases h
 | n + 1, asg, l, h => by
  unfold Zik at h
  split at h
  ·rename_i e; cases h; exact e
  ·obtain ⟨j, hj, h⟩ := List.exists_of_findSome?_eq_some h
   unfold Zqj at h
   split at h
   ·exact ZpX x all n _ _ h
   ·cases h
theorem ZqL (x : List Ent) (all asg : List Int) (h : asg.length <= all.length) : ((ZgN x all asg).getD []).length <= all.length := by
 cases e : ZgN x all asg with
 | none => exact Nat.zero_le _
 | some l => exact Nat.le_of_eq (ZpX x all _ _ _ e)
theorem ZA5 (x : List Ent) : ∀ n, (ZJ x n).length <= n
 | 0 => ZNO _
 | n + 1 => by
  have ih := ZA5 x n
  rw [ZbC]
  split
  ·rw [ZN3, ZNM]; omega
  ·omega
def ZIK : SX := o 650 (s 4)
def ZE1 : SX := .f1 30 ZIK
def ZGU : SX := e ZE1 z
def ZiE : SX := wN 650 (s 4) (a 6)
def Zg0 : SX := .f1 30 ZiE
def ZIS : SX := l z (a 7)
def ZmM : SX := .f2 110 (s 4) (a 6)
def ZHm : SX := t (a 6) (.f1 30 (s 4))
def ZFa : SX := .f2 110 ZiE (a 9)
def ZgM : SX := .f2 40 (a 9) (k 1)
def ZuC : SX := .f2 41 Zg0 ZgM
def ZhA : SX := .f2 41 Zg0 (a 9)
def ZqY : SX := l z ZgM
def ZAl : SX := l z (a 8)
def Zve : SX := l (a 9) (a 8)
def ZuM : SX := l (.f2 42 (a 9) (k 8)) k1
def ZAT : SX := l (a 9) (a 11)
def ZzR : SX := .f2 50 (l z (a 10)) (e (a 9) z)
def ZuG : SX := l z (a 12)
def Zuu : SX := .f2 113 ZiE (a 9)
def Zu7 : SX := l (a 9) (.f1 30 Zuu)
def ZzW : SX := l (.f2 42 ZgM (k 8)) k1
def Zv4 : SX := l ZgM (a 14)
def Zvt : SX := .f2 50 (l z (a 13)) (e ZgM z)
def Zuy : SX := .f2 113 Zuu (a 9)
def Zxk : SX := l ZgM (.f2 40 (.f1 30 Zuy) (k 1))
def ZzS : SX := .f2 40 (a 9) ZhA
def Zkj : SX := .f2 40 ZzS (k 1)
def Zyv : SX := l (.f2 42 Zkj (k 8)) k1
def Zv0 : SX := l z ZhA
def Zyh : SX := l ZhA (.f2 41 (a 8) (a 9))
def Ztw : SX := l ZzS Zg0
def Ztp : SX := l Zkj (a 16)
def ZuK : SX := l z (a 15)
def Zti : SX := .f2 50 ZuK (e Zkj z)
def Zib : SX := .f2 40 (a 6) (k 1)
def Zyf : SX := .f1 23 Zib
def Ztk : SX := .f2 41 (a 2) Zib
def ZsU : SX := l z Ztk
def ZyE : SX := t Ztk (.f2 41 (a 2) (a 6))
def Zth : SX := l z Zib
def ZxW : SX := l Zib (a 2)
def Zu6 : SX := wN 650 (s 4) Zib
def Zrc : SX := .f1 30 Zu6
def ZtR : SX := l Zrc (a 16)
def ZuR : SX := .f2 50 ZuK (e Zrc z)
def ZwJ : SX := .f2 155 Zu6 (.f2 119 (.f2 113 (.f2 119 Zuy (.f2 122 ZmM (.f1 152 z))) ZgM) (.f2 113 (.f2 116 ZiE (a 9)) ZhA))
def ZuF : SX := e Zrc Zkj
def Zvm : SX := wN 650 (s 4) (a 2)
def Zj6 : SX := .f1 30 Zvm
def ZK5 : VC := i (l z (a 2)) (i (e (a 2) (.f1 30 (s 4))) (i (l (a 2) (a 3)) (i (l (a 2) k0) (n (l ZE1 z) (n (.f2 50 (.bool false) ZGU) (n (.f2 155 ZIK (.f1 152 z)) (n ZGU (u 6 .int (u 7 .int (u 8 .int (i (l z (a 6)) (i (l (a 6) (a 2)) (i (l Zg0 (a 8)) (i (.f2 50 ZIS (e Zg0 z)) (.and (i (t (a 6) (a 2)) (n (c 651 ZiE ZmM) (u 9 .int (i (l z (a 9)) (i (l (a 9) Zg0) (i (y 651 ZiE ZmM (a 9)) (.and (i (t (a 9) Zg0) (n ZHm (.and (i (t ZFa ZmM) (n (.f1 23 ZgM) (n (l z ZuC) (n (t ZuC ZhA) (n ZqY (n (l ZgM Zg0) (n (y 651 ZiE ZmM ZgM) .tt))))))) (i (l ZmM ZFa) (n ZAl (n Zve (n ZuM (u 10 .int (u 11 .int (i ZAT (i ZzR (u 12 .int (i ZuG (n Zu7 (n ZzW (u 13 .int (u 14 .int (i Zv4 (i Zvt (n ZqY (n Zxk (n Zyv (n Zv0 (n Zyh (n Ztw (u 15 .int (u 16 .int (i Ztp (i Zti (n Zyf (n ZsU (n ZyE (n Zth (n ZxW (n ZtR (n ZuR (n ZwJ (n ZuF .tt)))))))))))))))))))))))))))))))))))))) (i (l Zg0 (a 9)) (n ZAl (n Zve (n ZuM (u 10 .int (u 11 .int (i ZAT (i ZzR (n ZHm (u 12 .int (i ZuG (n Zu7 (n ZzW (u 13 .int (u 14 .int (i Zv4 (i Zvt (n ZqY (n Zxk (n Zyv (n Zv0 (n Zyh (n Ztw (u 15 .int (u 16 .int (i Ztp (i Zti (n Zyf (n ZsU (n ZyE (n Zth (n ZxW (n ZtR (n ZuR (n ZwJ (n ZuF .tt))))))))))))))))))))))))))))))))))))))))))) (i (l (a 2) (a 6)) (n (l Zj6 (a 8)) (n (.f2 50 ZIS (e Zj6 z)) (n (e Zj6 (a 2)) (n (.f2 155 Zvm ZiE) (n (e Zj6 Zg0) .tt)))))))))))))))))))))
theorem ZJN : Yq Tryz.prog ZK2 12 40 Zzd = ZK5 := by kernel_rfl
def ZGo : SX := e (.f2 110 (s 4) (a 7)) (a 6)
def ZFP : SX := c 652 (s 4) (a 6)
def Zrq : SX := .f2 40 (a 7) (k 1)
def ZFU : SX := .f2 41 (a 2) Zrq
def ZLB : VC := i (l z (a 2)) (i (e (a 2) (.f1 30 (s 4))) (i (l (a 2) (a 3)) (i (l (a 2) k0) (n (c 653 (s 4) (a 6)) (u 7 .int (i (l z (a 7)) (i (l (a 7) (a 2)) (i (y 653 (s 4) (a 6) (a 7)) (.and (i (t (a 7) (a 2)) (n (t (a 7) (.f1 30 (s 4))) (.and (i ZGo (n (.f2 48 (.bool true) ZFP) .tt)) (i (.f1 2 ZGo) (n (.f1 23 Zrq) (n (l z ZFU) (n (t ZFU (.f2 41 (a 2) (a 7))) (n (l z Zrq) (n (l Zrq (a 2)) (n (y 653 (s 4) (a 6) Zrq) .tt)))))))))) (i (l (a 2) (a 7)) (n (.f2 48 (.bool false) ZFP) .tt)))))))))))
theorem ZNz : Yq Tryz.prog ZMB 12 85 Zv8 = ZLB := by kernel_rfl
def Zrr : SX := .us .int 500 (r 4) (k 1) (a 12) (a 2)
def ZFW : SX := e (.f3 112 (r 4) (a 13) z) (k 5)
def ZF3 : SX := y 654 (r 4) (s 10) (a 12)
def ZGl : SX := .f2 48 (.bool false) ZF3
def Zou : SX := .f2 40 (a 13) (k 1)
def ZGh : SX := .f1 23 Zou
def ZGy : SX := .f2 41 (a 2) Zou
def ZFX : SX := l z ZGy
def ZEV : SX := t ZGy (.f2 41 (a 2) (a 13))
def ZGN : SX := l z Zou
def ZtS : SX := .f2 50 (l Zou Zrr) (e Zou z)
def Zw5 : SX := .us .bool 655 (r 4) (s 10) (a 12) Zou
def Zuw : SX := e (.f3 112 (r 4) (a 14) z) (k 2)
def ZuA : SX := e (.f3 112 (r 4) (a 14) (k 1)) (a 12)
def ZhF : SX := .f2 40 (a 14) (k 1)
def Zqh : SX := .f1 23 ZhF
def Ztd : SX := .f2 41 (a 2) ZhF
def Zrd : SX := l z Ztd
def Zri : SX := t Ztd (.f2 41 (a 2) (a 14))
def ZoL : SX := l z ZhF
def ZpR : SX := l ZhF (a 2)
def Zpl : SX := .us .bool 656 (r 4) (s 10) (a 12) ZhF
def ZMD : VC := i (l z (a 2)) (i (e (a 2) (.f1 32 (r 4))) (i (l (a 2) (a 3)) (i (l (a 2) k0) (i (l z (a 8)) (i (e (a 8) (.f1 30 (s 10))) (i (l (a 8) (a 9)) (i (l (a 8) k0) (n (l (a 2) (a 2)) (n (.f2 50 (l z Zrr) (.bool true)) (n (y 655 (r 4) (s 10) (a 12)) (u 13 .int (i (l z (a 13)) (i (.f2 50 (l (a 13) Zrr) (e (a 13) z)) (i (.us .bool 655 (r 4) (s 10) (a 12) (a 13)) (.and (i (t (a 13) Zrr) (n (t (a 13) (a 2)) (n (t (a 13) (.f1 32 (r 4))) (.and (i ZFW (u 14 .bool (i (.f2 48 (q 14) (c 652 (s 10) (.f3 112 (r 4) (a 13) (k 1)))) (.and (i (.f1 2 (q 14)) (n ZGl .tt)) (i (.f1 2 (.f1 2 (q 14))) (n ZGh (n ZFX (n ZEV (n ZGN (n ZtS (n Zw5 .tt))))))))))) (i (.f1 2 ZFW) (n ZGh (n ZFX (n ZEV (n ZGN (n ZtS (n Zw5 .tt))))))))))) (i (l Zrr (a 13)) (n (y 656 (r 4) (s 10) (a 12)) (u 14 .int (i (l z (a 14)) (i (l (a 14) (a 2)) (i (.us .bool 656 (r 4) (s 10) (a 12) (a 14)) (.and (i (t (a 14) (a 2)) (n (t (a 14) (.f1 32 (r 4))) (.and (i Zuw (.and (i ZuA (u 15 .bool (u 16 .int (i (.f2 48 (q 15) (y 516 (r 4) (a 14) (s 10))) (i (e (a 16) (x 517 (r 4) (a 14) (s 10))) (.and (i (.f1 2 (q 15)) (n ZGl .tt)) (i (.f1 2 (.f1 2 (q 15))) (n Zqh (n Zrd (n Zri (n ZoL (n ZpR (n Zpl .tt))))))))))))) (i (.f1 2 ZuA) (n Zqh (n Zrd (n Zri (n ZoL (n ZpR (n Zpl .tt))))))))) (i (.f1 2 Zuw) (n Zqh (n Zrd (n Zri (n ZoL (n ZpR (n Zpl .tt)))))))))) (i (l (a 2) (a 14)) (u 15 .bool (i (.f2 48 (q 15) (c 652 (s 10) (a 12))) (n (.f2 48 (.f1 2 (q 15)) ZF3) .tt))))))))))))))))))))))))))
theorem ZLa : Yq Tryz.prog ZKQ 12 72 Zt3 = ZMD := by kernel_rfl
def ZIu : SX := l z (a 12)
def ZIz : SX := e (.f1 30 (s 13)) z
def ZIf : SX := e (.f1 30 (s 13)) (a 8)
def ZJe : SX := y 658 (r 4) (s 10) (s 13)
def ZHF : SX := .f2 48 (.bool true) ZJe
def ZxX : SX := hN 657 (r 4) (s 10) (s 13)
def Zkt : SX := .f1 30 ZxX
def ZtN : SX := e Zkt z
def ZCz : SX := l Zkt (a 8)
def ZGg : SX := .f2 110 (s 10) (a 16)
def Zij : SX := .f2 40 (a 16) (k 1)
def ZsE : SX := .f1 23 Zij
def Zta : SX := .f2 41 (a 8) Zij
def ZuP : SX := l z Zta
def ZtA : SX := t Zta (.f2 41 (a 8) (a 16))
def Zxt : SX := l z Zij
def Zvp : SX := l Zij (a 8)
def Zug : SX := .us .bool 659 (r 4) (s 10) (s 13) Zij
def ZhL : SX := .f2 40 (.f1 30 (s 13)) (k 1)
def ZvO : SX := .f2 119 (s 13) (.f2 122 ZGg (.f1 152 z))
def ZxV : SX := hN 657 (r 4) (s 10) ZvO
def Zky : SX := .f1 30 ZxV
def ZAD : SX := l z (a 23)
def Zfg (k k' : SX) : VC := (.imp (.f2 47 (.int 0) (.at .int 2)) (.imp (.f2 45 (.at .int 2) (.f1 32 (.at .rows 4))) (.imp (.f2 47 (.at .int 2) (.at .int 3)) (.imp (.f2 47 (.at 
  .int 2) (.int 1099511627776)) (.imp (.f2 47 (.int 0) (.at .int 8)) (.imp (.f2 45 (.at .int 8) (.f1 30 (.at .ints 10))) (.imp (.f2 47 (.at .int 8) (.at 
  .int 9)) (.imp (.f2 47 (.at .int 8) (.int 1099511627776)) (.imp (.f2 47 (.f1 30 (.at .ints 13)) (.at .int 8)) (.imp (.f2 47 (.f2 41 (.at .int 8) (.f1 
  30 (.at .ints 13))) k) (.imp (.f2 47 (.at .int 8) (.int 400)) (.imp (.f2 47 (.f1 30 (.at .ints 13)) (.at .int 14)) (.imp (.f2 47 (.at .int 14) 
  (.at .int 15)) (.imp (.f2 50 ZIu ZIz) (.and (.imp ZIf (.need ZHF (.need (.f2 47 Zkt (.at .int 14)) (.need (.f2 50 ZIu ZtN) (.need ZCz 
  (.need (.f2 155 ZxX (.at .ints 13)) (.need (.f2 45 Zkt (.f1 30 (.at .ints 13))) (.tt)))))))) (.imp (.f1 2 ZIf) (.need (.us .bool 659 (.at .rows 
  4) (.at .ints 10) (.at .ints 13) (.int 0)) (.all 16 .int (.imp (.f2 47 (.int 0) (.at .int 16)) (.imp (.f2 47 (.at .int 16) (.at .int 8)) (.imp (.us 
  .bool 659 (.at .rows 4) (.at .ints 10) (.at .ints 13) (.at .int 16)) (.and (.imp (.f2 46 (.at .int 16) (.at .int 8)) (.need (.f2 46 (.at .int 16) (.f1 
  30 (.at .ints 10))) (.need (.f2 45 (.f1 30 (.at .ints 13)) (.f1 30 (.at .ints 13))) (.need (.f2 47 (.f1 30 (.at .ints 13)) (.int 1099511627776)) (.all 
  17 .bool (.imp (.f2 48 (.at .bool 17) (.us .bool 654 (.at .rows 4) (.at .ints 13) ZGg (.int 0))) (.and (.imp (.f1 2 (.at .bool 17)) (.need ZsE 
  (.need ZuP (.need ZtA (.need Zxt (.need Zvp (.need Zug (.tt)))))))) (.imp (.f1 2 (.f1 2 (.at .bool 17))) (.need (.f2 47 (.f2 42 (.f1 30 
  (.at .ints 13)) (.int 8)) (.int 140737488355328)) (.need (.f2 47 (.f1 30 (.at .ints 13)) (.f1 30 (.at .ints 13))) (.all 18 .int (.all 19 .int (.imp 
  (.f2 47 (.f1 30 (.at .ints 13)) (.at .int 19)) (.imp (.f2 50 (.f2 47 (.int 0) (.at .int 18)) ZIz) (.all 20 .int (.imp (.f2 47 (.int 0) (.at .int 
  20)) (.need (.f2 47 (.f2 42 ZhL (.int 8)) (.int 140737488355328)) (.all 21 .int (.all 22 .int (.imp (.f2 47 ZhL (.at .int 22)) (.imp (.f2 50 
  (.f2 47 (.int 0) (.at .int 21)) (.f2 45 ZhL (.int 0))) (.need (.f2 47 ZhL (.at .int 8)) (.need (.f2 47 (.f2 41 (.at .int 8) ZhL) k') 
  (.need (.f2 47 (.at .int 22) (.at .int 22)) (.all 23 .int (.all 24 .int (.all 25 .int (.all 26 .bool (.imp (.f2 48 (.at .bool 26) (.us .bool 658 (.at 
  .rows 4) (.at .ints 10) ZvO (.int 0))) (.imp (.f2 47 Zky (.at .int 24)) (.imp (.f2 47 (.at .int 24) (.at .int 25)) (.imp (.f2 50 ZAD (.f2 45 
  Zky (.int 0))) (.imp (.f2 47 Zky (.at .int 8)) (.and (.imp (.at .bool 26) (.need ZHF (.need (.f2 47 Zkt (.at .int 24)) (.need (.f2 50 ZAD 
  ZtN) (.need ZCz (.need (.f2 155 ZxX ZxV) (.need (.f2 45 Zkt Zky) (.tt)))))))) (.imp (.f1 2 (.at .bool 26)) (.need ZsE (.need ZuP 
  (.need ZtA (.need Zxt (.need Zvp (.need Zug (.tt)))))))))))))))))))))))))))))))))))))))))) (.imp (.f2 47 (.at .int 8) (.at .int 16)) 
  (.need (.f2 48 (.bool false) ZJe) (.need (.f2 47 Zkt (.int 0)) (.need (.f2 50 (.bool false) ZtN) (.need ZCz (.need (.f2 155 ZxX (.f1 152 
  (.int 0))) (.need ZtN (.tt))))))))))))))))))))))))))))))
theorem ZFZ : Yq Tryz.prog (Zgm (.int (-1))) 12 41 (srX (.int 0)) = Zfg (.int 0) (.int (-1)) := by kernel_rfl
theorem ZFu : Yq Tryz.prog (Zgm (.int (0))) 12 41 (srX (.int 1)) = Zfg (.int 1) (.int (0)) := by kernel_rfl
theorem ZHk : Yq Tryz.prog (Zgm (.int (1))) 12 41 (srX (.int 2)) = Zfg (.int 2) (.int (1)) := by kernel_rfl
theorem ZEK : Yq Tryz.prog (Zgm (.int (2))) 12 41 (srX (.int 3)) = Zfg (.int 3) (.int (2)) := by kernel_rfl
theorem ZHr : Yq Tryz.prog (Zgm (.int (3))) 12 41 (srX (.int 4)) = Zfg (.int 4) (.int (3)) := by kernel_rfl
theorem ZEA : Yq Tryz.prog (Zgm (.int (4))) 12 41 (srX (.int 5)) = Zfg (.int 5) (.int (4)) := by kernel_rfl
theorem ZFl : Yq Tryz.prog (Zgm (.int (5))) 12 41 (srX (.int 6)) = Zfg (.int 6) (.int (5)) := by kernel_rfl
theorem ZHD : Yq Tryz.prog (Zgm (.int (6))) 12 41 (srX (.int 7)) = Zfg (.int 7) (.int (6)) := by kernel_rfl
theorem ZHe : Yq Tryz.prog (Zgm (.int (7))) 12 41 (srX (.int 8)) = Zfg (.int 8) (.int (7)) := by kernel_rfl
def ZH8 : SX := v 523 (r 4)
def ZIE : SX := e ZH8 z
def ZGq : SX := p 661 (r 4)
def ZDv : SX := .f2 48 (.bool false) ZGq
def ZsH : SX := v 662 (r 4)
def ZCb : SX := o 660 (r 4)
def Zt2 : SX := .f1 30 ZCb
def ZCo : SX := l Zt2 z
def Zru : SX := e Zt2 z
def ZDq : SX := .f2 50 (.bool false) Zru
def ZqA : SX := .f2 155 ZCb (.f1 152 z)
def ZsX : SX := d 508 (r 4) (a 2)
def ZyO : SX := wN 515 (r 4) (a 2)
def Ze0 : SX := .f1 30 ZyO
def Zp3 : SX := wN 650 ZyO Ze0
def ZcA : SX := .f1 30 Zp3
def Zu4 : SX := hN 657 (r 4) Zp3 (.f1 152 z)
def ZlY : SX := .f1 30 Zu4
def Zxj : SX := l z (a 10)
def ZMf : VC := i (l z (a 2)) (i (e (a 2) (.f1 32 (r 4))) (i (l (a 2) (a 3)) (i (l (a 2) k0) (.and (i (.f1 2 ZIE) (n ZDv (n (e ZH8 ZsH) (n ZCo (n ZDq (n ZqA (n Zru .tt))))))) (i ZIE (n (c 511 (r 4) (a 2)) (.and (i (l z ZsX) (n ZDv (n (e (k 280) ZsH) (n ZCo (n ZDq (n ZqA (n Zru .tt))))))) (i (t ZsX z) (n (l (a 2) (a 2)) (u 6 .int (u 7 .int (i (l Ze0 (a 7)) (i (.f2 50 (l z (a 6)) (e Ze0 z)) (n (e Ze0 Ze0) (n (l Ze0 k0) (u 8 .int (u 9 .int (i (l ZcA (a 9)) (i (.f2 50 (l z (a 8)) (e ZcA z)) (i (e ZcA Ze0) (.and (i (t (k 8) ZcA) (n ZDv (n (e (k 2) ZsH) (n ZCo (n ZDq (n ZqA (n Zru .tt))))))) (i (l ZcA (k 8)) (n (e ZcA ZcA) (n (l ZcA k0) (n (l ZcA (k 400)) (u 10 .int (u 11 .int (u 12 .int (u 13 .bool (i (.f2 48 (q 13) (y 658 (r 4) Zp3 (.f1 152 z))) (i (l ZlY (a 11)) (i (l (a 11) (a 12)) (i (.f2 50 Zxj (e ZlY z)) (i (l ZlY ZcA) (n (.f2 48 (q 13) ZGq) (n (e z ZsH) (n (l Zt2 (a 11)) (n (.f2 50 Zxj Zru) (n (.f2 155 ZCb Zu4) (n (e Zt2 ZlY) .tt))))))))))))))))))))))))))))))))))))))))
theorem ZMt : Yq Tryz.prog ZJM 12 18 ZAC = ZMf := by kernel_rfl
theorem ZJL (S : Sig GG) (hS : OrSig S) : Zy S Tryz.prog 40 Zzd := by
 refine Ze S (C := ZK2) (fuel := 12) (ZQ trivial ⟨⟨⟨by decide, Zb9 S⟩, trivial, trivial, trivial⟩, trivial⟩ trivial) fun ρ => ?_
 rw [ZJN]
 simp only [ZK5, ZIK, ZE1, ZGU, ZiE, Zg0, ZIS, ZmM, ZHm, ZFa, ZgM, ZuC, ZhA, ZqY, ZAl, Zve, ZuM, ZAT, ZzR, ZuG, Zuu, Zu7, ZzW, Zv4, Zvt, Zuy, Zxk, ZzS, Zkj, Zyv, Zv0, Zyh, Ztw, Ztp, ZuK, Zti, Zib, Zyf, Ztk, ZsU, ZyE, Zth, ZxW, Zu6, Zrc, ZtR, ZuR, ZwJ, ZuF, Zvm, Zj6, hS.u650, hS.u651, ZI, ZN5, VC.den, SX.den, Env.upd, ZS, ZD, ZgP, beq_iff_eq, ZNX, beq_eq_false_iff_ne, ne_eq, ZNW, ZNV, Int.reduceToNat, Nat.reduceEqDiff, reduceIte, sB, sC]
 generalize (ρ 4).tN = X
 generalize (ρ 2).tI = l
 intro h1 h2 h3 h4
 subst h2
 refine ⟨ZN9 _, .inr rfl, rfl, rfl, fun n ob oc i0 i1 g1 g2 => ?_⟩
 obtain ⟨n, rfl⟩ := ZNQ i0
 have en : ((n : Int) + 1).toNat = n + 1 := by omega
 have hs : ZlK X (n + 1) = Zhu (ZlK X n) (X.getD n 0) := rfl
 have hl := Zfz X n
 simp only [ZN5, en] at g1 g2 ⊢
 refine ⟨fun hn => ?_, fun hn => ?_⟩
 ·rw [hs]
  generalize X.getD n 0 = k at *
  generalize ZlK X n = L at *
  refine ⟨fun j hj => absurd hj (by omega), fun p p0 p1 p2 => ?_⟩
  obtain ⟨p, rfl⟩ := ZNQ p0
  have hall : ∀ j (hj : j < p), L.getD j 0 < k := fun j hj => p2 j (by omega)
  have hdt : (L.take p).length = p := by rw [ZN0]; omega
  have ep : ((p : Int) + 1).toNat = p + 1 := by omega
  have elp : ((L.length : Int) - (p : Int)).toNat = L.length - p := by omega
  have new : (p < L.length -> ¬ L.getD p 0 < k) -> Zhu L k = ((L.take p ++ [k]).take (p + 1)) ++ (L.drop p).take (L.length - p) /\ (Zhu L k).length = L.length + 1 := fun hq => by
   refine ⟨?_, Zjn _ _⟩
   rw [ZxP (by omega) hall hq, ZOa (l := L.take p ++ [k]) (by rw [ZN3, hdt]; simp), ZOa (i := L.length - p) (by simp)]
   simp
  simp only [ZN5, ep, elp, ZGH, U.tNi, U.tIi, List.take_take, Nat.min_self, hdt] at *
  have fin : (p < L.length -> ¬ L.getD p 0 < k) -> ∀ b c : Int, (p : Int) + ((L.length : Int) - p) + 1 <= c -> (0 <= b \/ (p : Int) + ((L.length : Int) - p) + 1 = 0) -> Zhu L k = ((L.take p ++ [k]).take (p + 1)) ++ (L.drop p).take (L.length - p) /\ ((Zhu L k).length : Int) = (p : Int) + ((L.length : Int) - p) + 1 /\ ((Zhu L k).length : Int) <= c /\ (0 <= b \/ ((Zhu L k).length : Int) = 0) := fun hq b c q1 q2 => by
   obtain ⟨e1, e2⟩ := new hq
   refine ⟨e1, by omega, by omega, by omega⟩
  refine ⟨fun hp => ⟨hn, fun hlt => ⟨⟨by omega, by omega⟩, by omega, by omega, by omega, by omega, fun j hj => ?_, trivial⟩, fun hge => ⟨by omega, by omega, by omega, fun _ _ _ _ _ _ => ⟨by omega, by omega, fun _ _ _ _ => ⟨by omega, by omega, by omega, by omega, by omega, by omega, fun b c y1 y2 => ?_⟩⟩⟩⟩, fun hp => ⟨by omega, by omega, by omega, fun _ _ _ _ => ⟨hn, fun _ _ => ⟨by omega, by omega, fun _ _ _ _ => ⟨by omega, by omega, by omega, by omega, by omega, by omega, fun b c y1 y2 => ?_⟩⟩⟩⟩⟩
  ·rcases ZNS j p with q | q
   ·exact hall j q
   ·have : j = p := by omega
    subst this; exact hlt
  ·obtain ⟨e1, e2, e3, e4⟩ := fin (fun _ => Int.not_lt.2 hge) b c y1 y2
   exact ⟨⟨by omega, by omega⟩, by omega, by omega, by omega, by omega, e3, e4, e1, e2, trivial⟩
  ·obtain ⟨e1, e2, e3, e4⟩ := fin (fun h => absurd h (by omega)) b c y1 y2
   exact ⟨⟨by omega, by omega⟩, by omega, by omega, by omega, by omega, e3, e4, e1, e2, trivial⟩
 ·have : n = X.length := by omega
  subst this
  exact ⟨g1, g2, by omega, rfl, rfl, trivial⟩
theorem ZLp (S : Sig GG) (hS : OrSig S) : Zy S Tryz.prog 85 Zv8 := by
 refine Ze S (C := ZMB) (fuel := 12) (ZQ trivial ⟨⟨trivial, trivial⟩, trivial⟩ trivial) fun ρ => ?_
 rw [ZNz]
 simp only [ZLB, ZGo, ZFP, Zrq, ZFU, hS.u652, hS.u653, ZI, ZN5, VC.den, SX.den, Env.upd, ZS, ZD, ZgP, beq_iff_eq, ZNX, beq_eq_false_iff_ne, ne_eq, ZNW, ZNV, Int.reduceToNat, Nat.reduceEqDiff, reduceIte, sB, sC]
 generalize (ρ 4).tN = l
 generalize (ρ 2).tI = n
 generalize (ρ 6).tI = v
 intro h1 h2 h3 h4
 subst h2
 refine ⟨fun j hj => absurd hj (by omega), fun i i0 i1 g1 => ?_⟩
 obtain ⟨m, rfl⟩ := ZNQ i0
 simp only [ZN5]
 refine ⟨fun hm => ⟨by omega, fun he => ⟨?_, trivial⟩, fun hne => ⟨⟨by omega, by omega⟩, by omega, by omega, by omega, by omega, fun j hj => ?_, trivial⟩⟩, fun hm => ⟨?_, trivial⟩⟩
 ·refine (Zu ?_).symm
  rw [<- he, ZNY, ZN1 (by omega)]; exact ZOl _
 ·rcases ZNS j m with q | q
  ·exact g1 j (by omega)
  ·have : j = m := by omega
   subst this; exact hne
 ·refine (Zr fun hin => ?_).symm
  obtain ⟨j, hj, e⟩ := List.getElem_of_mem hin
  refine g1 j (by omega) ?_
  rw [ZNY, ZN1 hj]; exact e
theorem ZNx (S : Sig GG) (hS : OrSig S) : Zy S Tryz.prog 72 Zt3 := by
 refine Ze S (C := ZKQ) (fuel := 12) (ZQ ⟨Zg (by decide) (ZEd S hS.ou.ft.od.fi.js.jt.jb.rf), Zg (by decide) (ZLp S hS), Zg (by decide) (ZJQ S hS.ou.ft.od.fi.js.jt.jb.rf), trivial⟩ ⟨⟨trivial, trivial, trivial⟩, trivial⟩ trivial) fun ρ => ?_
 rw [ZLa]
 simp only [ZMD, Zrr, ZFW, ZF3, ZGl, Zou, ZGh, ZGy, ZFX, ZEV, ZGN, ZtS, Zw5, Zuw, ZuA, ZhF, Zqh, Ztd, Zrd, Zri, ZoL, ZpR, Zpl, hS.ou.ft.od.fi.js.jt.jb.rf.u500, hS.ou.ft.od.fi.js.jt.jb.rf.u516, hS.ou.ft.od.fi.js.jt.jb.rf.u517, hS.u652, hS.u654, hS.u655, hS.u656, ZI, ZN5, VC.den, SX.den, Env.upd, ZS, ZD, ZgP, beq_iff_eq, ZNX, beq_eq_false_iff_ne, ne_eq, ZNW, ZNV, Int.reduceToNat, Nat.reduceEqDiff, reduceIte, sB, sC]
 generalize (ρ 4).tR = X
 generalize (ρ 10).tN = asg
 generalize (ρ 12).tI = w
 generalize (ρ 2).tI = l
 generalize (ρ 8).tI = n
 intro h1 h2 h3 h4 h5 h6 h7 h8
 subst h2 h6
 have hfl := Zb6 X 1 w X.length
 simp only [ZN5] at *
 refine ⟨ZN9 _, .inr trivial, fun j hj => absurd hj (by omega), fun i i0 i1 g1 => ?_⟩
 obtain ⟨m, rfl⟩ := ZNQ i0
 simp only [ZN5]
 have stepA : (xk (xa X m) = 5 -> xw (xa X m) ∈ asg) -> ZHH X asg w ((m : Int) + 1) := fun h j hj => by
  rcases ZNS j m with q | q
  ·exact g1 j (by omega)
  ·have : j = m := by omega
   subst this; exact h
 refine ⟨fun hm => ⟨by omega, by omega, fun h5 v hv => ⟨fun hno => ⟨?_, trivial⟩, fun hyes => ⟨⟨by omega, by omega⟩, by omega, by omega, by omega, by omega, stepA fun _ => ?_, trivial⟩⟩, fun hne => ⟨⟨by omega, by omega⟩, by omega, by omega, by omega, by omega, stepA fun h => absurd h hne, trivial⟩⟩, fun hm => ⟨fun j hj => absurd hj (by omega), fun i i0 i1 g2 => ?_⟩⟩
 ·refine (Zr fun hf => ?_).symm
  have : Zn (xw (xa X m) ∈ asg) = true := Zu (hf.1 m hm h5)
  have hv2 : v = Zn (xw (xa X m) ∈ asg) := hv
  rw [this] at hv2
  rw [hv2] at hno; simp at hno
 ·have hv2 : v = Zn (xw (xa X m) ∈ asg) := hv
  have : Zn (xw (xa X m) ∈ asg) = true := by rw [<- hv2]; simpa using hyes
  rw [Zl] at this; exact this
 ·obtain ⟨q, rfl⟩ := ZNQ i0
  simp only [ZN5]
  have YG : (xk (xa X q) = 2 -> xw (xa X q) = w -> (Zg8 X q asg).1 = true) -> ZF8 X asg w ((q : Int) + 1) := fun h j hj => by
   rcases ZNS j q with r | r
   ·exact g2 j (by omega)
   ·have : j = q := by omega
    subst this; exact h
  refine ⟨fun hq => ⟨by omega, fun hk => ⟨fun hw v e hv _ => ⟨fun hno => ⟨?_, trivial⟩, fun hyes => ⟨⟨by omega, by omega⟩, by omega, by omega, by omega, by omega, YG fun _ _ => ?_, trivial⟩⟩, fun hw => ⟨⟨by omega, by omega⟩, by omega, by omega, by omega, by omega, YG fun _ h => absurd h hw, trivial⟩⟩, fun hk => ⟨⟨by omega, by omega⟩, by omega, by omega, by omega, by omega, YG fun h => absurd h hk, trivial⟩⟩, fun hq v hv => ⟨?_, trivial⟩⟩
  ·refine (Zr fun hf => ?_).symm
   have := hf.2.1 q (by omega) hk hw
   rw [<- hv] at this
   rw [this] at hno; simp at hno
  ·rw [<- hv]; simpa using hyes
  ·have e1 : ZHH X asg w (Yd X 1 w X.length) := fun j hj => g1 j (by omega)
   have e2 : ZF8 X asg w X.length := fun j hj => g2 j (by omega)
   rw [hv]
   by_cases hin : w ∈ asg
   ·rw [Zu hin, Zr (fun hf => hf.2.2 hin)]; rfl
   ·rw [Zr hin, Zu ⟨e1, e2, hin⟩]; rfl
theorem ZF1 (S : Sig GG) (hS : OrSig S) (k : Int) (ρ : Go.Eng.Env GG) : (Zfg (.int k) (.int (k - 1))).den S ρ := by
 simp only [Zfg, ZIu, ZIz, ZIf, ZJe, ZHF, ZxX, Zkt, ZtN, ZCz, ZGg, Zij, ZsE, Zta, ZuP, ZtA, Zxt, Zvp, Zug, ZhL, ZvO, ZxV, Zky, ZAD, hS.u654, hS.u657, hS.u658, hS.u659, ZI, ZN5, VC.den, SX.den, Env.upd, ZS, ZD, ZgP, beq_iff_eq, ZNX, beq_eq_false_iff_ne, ne_eq, ZNW, ZNV, Int.reduceToNat, Nat.reduceEqDiff, reduceIte, sB, sC]
 generalize (ρ 4).tR = X
 generalize (ρ 10).tN = all
 generalize (ρ 13).tN = asg
 generalize (ρ 2).tI = l
 generalize (ρ 8).tI = n
 generalize (ρ 3).tI = c3
 generalize (ρ 9).tI = c9
 generalize (ρ 14).tI = c14
 generalize (ρ 15).tI = c15
 generalize (ρ 12).tI = b12
 intro h1 h2 h3 h4 h5 h6 h7 h8 h9 h10 h11 h12 h13 h14
 subst h2 h6
 have hlen := ZqL X all asg (by omega)
 refine ⟨fun he => ?_, fun hne => ⟨fun j hj => absurd hj (by omega), fun i i0 i1 g1 => ?_⟩⟩
 ·have hs := Zze (x := X) (all := all) (asg := asg) (by omega)
  rw [hs]
  exact ⟨rfl, by simpa using h12, by simpa using h14, by simpa using h9, rfl, rfl, trivial⟩
 ·have hs := ZsD (x := X) (all := all) (asg := asg) (by omega)
  obtain ⟨m, rfl⟩ := ZNQ i0
  have step : Zqj X all asg (Zik X all (all.length - asg.length - 1)) m = none -> ∀ j : Nat, (j : Int) < (m : Int) + 1 -> Zqj X all asg (Zik X all (all.length - asg.length - 1)) j = none := fun ho j hj => by
   rcases ZNS j m with q | q
   ·exact g1 j (by omega)
   ·have : j = m := by omega
    subst this; exact ho
  simp only [ZN5]
  refine ⟨fun hm => ⟨by omega, trivial, by omega, fun v hv => ⟨fun hno => ⟨⟨by omega, by omega⟩, by omega, by omega, by omega, by omega, step ?_, trivial⟩, fun hyes => ?_⟩⟩, fun hm => ?_⟩
  ·unfold Zqj
   rw [<- hv, if_neg (by simpa using hno)]
  ·have hfit : Zn (Zpr X asg (all.getD m 0)) = true := by rw [<- hv]; simpa using hyes
   have hT : Zqj X all asg (Zik X all (all.length - asg.length - 1)) m = ZgN X all (asg ++ [all.getD m 0]) := by
    unfold Zqj ZgN
    rw [if_pos hfit, ZN3, ZNM, Nat.sub_sub]
   refine ⟨by omega, by omega, fun _ _ _ _ _ _ => ⟨by omega, fun _ _ _ _ => ⟨by omega, by omega, ZN9 _, fun _ _ _ w hw q1 q2 q3 q4 => ⟨fun hy => ?_, fun hn => ⟨⟨by omega, by omega⟩, by omega, by omega, by omega, by omega, step ?_, trivial⟩⟩⟩⟩⟩
   ·have hyy : (ZgN X all (asg ++ [all.getD m 0])).isSome = true := by rw [<- hw]; simpa using hy
    obtain ⟨r, hr⟩ := Option.isSome_iff_exists.1 hyy
    have : ZgN X all asg = some r := by
     rw [hs]; exact ZhV (i := m) (by omega) (fun j hj => g1 j (by omega)) (by rw [hT, hr])
    rw [this]
    rw [hr] at q1 q3 q4 ⊢
    exact ⟨rfl, q1, q3, q4, rfl, rfl, trivial⟩
   ·rw [hT]
    have : (ZgN X all (asg ++ [all.getD m 0])).isSome = false := by rw [<- hw]; simpa using hn
    exact (Option.isNone_iff_eq_none.1 (by rw [<- Option.not_isSome, this]; rfl) : ZgN X all (asg ++ [all.getD m 0]) = none)
  ·have : ZgN X all asg = none := by rw [hs]; exact ZkC fun j hj => g1 j (by omega)
   rw [this]
   exact ⟨rfl, ZN9 _, .inr rfl, by simp, rfl, rfl, trivial⟩
theorem ZNv {G : Type} (S : Sig G) (P : Program) (f : FuncId) : Zy S P f (srX (.int (-1))) := by
 intro ch w0 F ρ w xs hx hq hsat
 exfalso
 have h1 := hq (eLe (.f2 41 (ai 8) (Z1 (iA 13))) (.int (-1))) (by simp [srX, hQ, kQ])
 have h2 := hq (eLe (Z1 (iA 13)) (ai 8)) (by simp [srX, hQ, kQ])
 rw [Zh] at h1 h2
 simp only [SX.den, ZEn, U.tIi] at h1 h2
 omega
theorem ZbB (S : Sig GG) (hS : OrSig S) {k k' : Int} (hk : k' = k - 1) (hv : Yq Tryz.prog (Zgm (.int k')) 12 41 (srX (.int k)) = Zfg (.int k) (.int k'))
  (h : Zy S Tryz.prog 41 (srX (.int k'))) : Zy S Tryz.prog 41 (srX (.int k)) := by
 subst hk
 refine Ze S (C := Zgm (.int (k - 1))) (fuel := 12) (ZQ ⟨Zg (by decide) (ZNx S hS), Zg rfl h, trivial⟩ ⟨⟨trivial, ⟨by decide, Zb9 S⟩, trivial⟩, trivial⟩ trivial) fun ρ => ?_
 rw [hv]
 exact ZF1 S hS k ρ
theorem ZLZ (S : Sig GG) (hS : OrSig S) : Zy S Tryz.prog 41 (srX (.int 8)) :=
 ZbB S hS rfl ZHe <| ZbB S hS rfl ZHD <| ZbB S hS rfl ZFl <| ZbB S hS rfl ZEA <| ZbB S hS rfl ZHr <| ZbB S hS rfl ZEK <| ZbB S hS rfl ZHk <| ZbB S hS rfl ZFu <| ZbB S hS rfl ZFZ <| ZNv S _ _
theorem ZLX (S : Sig GG) (hS : OrSig S) : Zy S Tryz.prog 18 ZAC := by
 refine Ze S (C := ZJM) (fuel := 12) (ZQ ⟨Zg (by decide) (chk_ok S hS.ou.ft.od.fi.js.jt.jb.rf), Zg (by decide) (ZMZ S hS.ou.ft.od.fi.js.jt.jb.rf), Zg (by decide) (ZLV S hS.ou.ft.od.fi.js.jt.jb.rf), Zg (by decide) (ZJL S hS), Zg (by decide) (ZLZ S hS), trivial⟩ ⟨⟨⟨by decide, Zb9 S⟩, ⟨by decide, Zb9 S⟩, ⟨by decide, Zb9 S⟩, ⟨by decide, Zb9 S⟩, trivial⟩, trivial⟩ trivial) fun ρ => ?_
 rw [ZMt]
 simp only [ZMf, ZH8, ZIE, ZGq, ZDv, ZsH, ZCb, Zt2, ZCo, Zru, ZDq, ZqA, ZsX, ZyO, Ze0, Zp3, ZcA, Zu4, ZlY, Zxj, hS.ou.ft.od.fi.js.jt.jb.rf.u508, hS.ou.ft.od.fi.js.jt.jb.rf.u511, hS.ou.ft.od.fi.js.jt.jb.rf.u515, hS.ou.ft.od.fi.js.jt.jb.rf.u523, hS.u650, hS.u657, hS.u658, hS.u660, hS.u661, hS.u662, ZI, ZN5, VC.den, SX.den, Env.upd, ZS, ZD, ZgP, beq_iff_eq, ZNX, beq_eq_false_iff_ne, ne_eq, ZNW, ZNV, Int.reduceToNat, Nat.reduceEqDiff, reduceIte, sB, sC]
 generalize (ρ 4).tR = X
 generalize (ρ 2).tI = l
 intro h1 h2 h3 h4
 subst h2
 simp only [ZN5]
 have bad : ∀ e : Int, orE X = e -> e ≠ 0 -> orS X = none := fun e h1 h2 => by unfold orS; rw [if_neg (by rw [h1]; exact h2)]
 refine ⟨fun hne => ?_, fun hc => ⟨?_, fun ht => ?_, fun ht => ?_⟩⟩
 ·have he : orE X = Zb5 X := by unfold orE; rw [if_pos hne]
  have hb := bad _ he hne
  rw [hb, he]
  exact ⟨rfl, rfl, ZN9 _, .inr rfl, rfl, rfl, trivial⟩
 ·unfold Zb5 at hc
  split at hc
  ·cases hc
  ·split at hc
   ·rename_i q; exact q
   ·cases hc
 ·have he : orE X = 280 := by unfold orE; rw [if_neg (by rw [hc]; exact fun h => h rfl), if_pos ht]
  have hb := bad _ he (by decide)
  rw [hb, he]
  exact ⟨rfl, rfl, ZN9 _, .inr rfl, rfl, rfl, trivial⟩
 ·have h400 := ZiR hc
  have hkn := ZA5 X X.length
  have hrl := Zfz (ZJ X X.length) (ZJ X X.length).length
  refine ⟨ZN9 _, fun _ _ _ _ => ⟨trivial, by omega, fun _ _ _ _ _ => ⟨fun h8 => ?_, fun h8 => ⟨trivial, by omega, by omega, fun _ _ _ v hv q1 q2 q3 q4 => ?_⟩⟩⟩⟩
  ·have he : orE X = 2 := by unfold orE; rw [if_neg (by rw [hc]; exact fun h => h rfl), if_neg (by omega), if_pos (by omega)]
   have hb := bad _ he (by decide)
   rw [hb, he]
   exact ⟨rfl, rfl, ZN9 _, .inr rfl, rfl, rfl, trivial⟩
  ·have he : orE X = 0 := by unfold orE; rw [if_neg (by rw [hc]; exact fun h => h rfl), if_neg (by omega), if_neg (by omega)]
   have hb : orS X = ZgN X (ZlK (ZJ X X.length) (ZJ X X.length).length) [] := by unfold orS; rw [if_pos he]
   rw [hb, he]
   exact ⟨hv, rfl, q1, q3, rfl, rfl, trivial⟩
/-! ### Lists -/
theorem Zpj {β : Type} (F : Int -> Option β) : ∀ l : List Int, (List.range l.length).findSome? (fun j => F (l.getD j 0)) = l.findSome? F
 | [] => rfl
 | a :: l => by
  have ih := Zpj F l
  rw [ZOi, List.range_succ_eq_map, List.findSome?_cons, List.findSome?_map, List.findSome?_cons]
  show (match F a with | some b => some b | none => (List.range l.length).findSome? (fun j => F (l.getD j 0))) = _
  rw [ih]; cases F a <;> rfl
theorem Zkl {β : Type} (F : List Int -> Option β) : ∀ l : List (List Int), (List.range l.length).findSome? (fun j => F (l.getD j [])) = l.findSome? F
 | [] => rfl
 | a :: l => by
  have ih := Zkl F l
  rw [ZOi, List.range_succ_eq_map, List.findSome?_cons, List.findSome?_map, List.findSome?_cons]
  show (match F a with | some b => some b | none => (List.range l.length).findSome? (fun j => F (l.getD j []))) = _
  rw [ih]; cases F a <;> rfl
theorem Zls {α β : Type} {F : α -> Option β} {p : α -> Bool} : ∀ {l : List α}, (∀ a ∈ l, p a = false -> F a = none) -> (l.filter p).findSome? F = l.findSome? F
 | [], _ => rfl
 | a :: l, h => by
  have ih := Zls (l := l) fun b hb => h b (ZN4 _ hb)
  cases hp : p a
  ·rw [List.filter_cons_of_neg (by rw [hp]; exact Bool.false_ne_true), ih, List.findSome?_cons, h a ZN6 hp]
  ·rw [List.filter_cons_of_pos hp, List.findSome?_cons, List.findSome?_cons, ih]
theorem Zq9 {α β γ : Type} (h : β -> γ) (F : α -> Option β) : ∀ l : List α, (l.findSome? F).map h = l.findSome? fun a => (F a).map h
 | [] => rfl
 | a :: l => by
  rw [List.findSome?_cons, List.findSome?_cons]
  cases F a with
  | none => exact Zq9 h F l
  | some b => rfl
theorem Zhp {α β : Type} {F G : α -> Option β} : ∀ {l : List α}, (∀ a ∈ l, F a = G a) -> l.findSome? F = l.findSome? G
 | [], _ => rfl
 | a :: l, h => by
  rw [List.findSome?_cons, List.findSome?_cons, h a ZN6, Zhp (l := l) fun b hb => h b (ZN4 _ hb)]
theorem Zqa : ∀ {l : List Int} {i : Nat}, l.Nodup -> i < l.length -> l.eraseIdx i = l.filter fun a => !(a == l.getD i 0)
 | [], i, _, h => absurd h (Nat.not_lt_zero i)
 | a :: l, 0, hn, _ => by
  rw [List.nodup_cons] at hn
  show l = (a :: l).filter fun b => !(b == a)
  rw [List.filter_cons_of_neg (by simp)]
  exact (List.filter_eq_self.2 fun b hb => by
   have : b ≠ a := fun e => hn.1 (by rw [<- e]; exact hb)
   simpa using this).symm
 | a :: l, i + 1, hn, h => by
  rw [List.nodup_cons] at hn
  have hi : i < l.length := by simpa using h
  show a :: l.eraseIdx i = (a :: l).filter fun b => !(b == l.getD i 0)
  have ha : a ≠ l.getD i 0 := fun e => hn.1 (by rw [e, ZNY, ZN1 hi]; exact ZOl _)
  rw [List.filter_cons_of_pos (by simpa using ha), Zqa hn.2 hi]
theorem Zkd {α β : Type} (f : α -> β) : ∀ (l : List α) (i : Nat), (l.eraseIdx i).map f = (l.map f).eraseIdx i
 | [], i => rfl
 | a :: l, 0 => rfl
 | a :: l, i + 1 => by show f a :: (l.eraseIdx i).map f = f a :: (l.map f).eraseIdx i; rw [Zkd f l i]
/-! ### The numbers, rising -/
theorem ZfH (k : Int) : ∀ l : List Int, (Zhu l k).Perm (k :: l)
 | [] => List.Perm.refl _
 | a :: l => by
  unfold Zhu
  split
  ·exact ((ZfH k l).cons a).trans (List.Perm.swap k a l)
  ·exact List.Perm.refl _
theorem Zpe (k : Int) : ∀ {l : List Int}, (l.Pairwise fun a b => a <= b) -> (Zhu l k).Pairwise fun a b => a <= b
 | [], _ => List.pairwise_singleton _ _
 | a :: l, h => by
  rw [List.pairwise_cons] at h
  unfold Zhu
  split
  ·rename_i q
   refine List.pairwise_cons.2 ⟨fun b hb => ?_, Zpe k h.2⟩
   rcases List.mem_cons.1 ((ZfH k l).mem_iff.1 hb) with rfl | hb
   ·omega
   ·exact h.1 b hb
  ·rename_i q
   refine List.pairwise_cons.2 ⟨fun b hb => ?_, List.pairwise_cons.2 h⟩
   rcases List.mem_cons.1 hb with rfl | hb
   ·omega
   ·have := h.1 b hb; omega
theorem ZqQ (l : List Int) : ∀ n, (ZlK l n).Pairwise fun a b => a <= b
 | 0 => List.Pairwise.nil
 | n + 1 => Zpe _ (ZqQ l n)
theorem ZlQ (l : List Int) : ∀ n ≤ l.length, (ZlK l n).Perm (l.take n)
 | 0, _ => List.Perm.refl _
 | n + 1, h => by
  refine (ZfH _ _).trans (((ZlQ l n (by omega)).cons _).trans ?_)
  rw [List.take_add_one, ZNY, ZN1 (by omega)]
  exact List.perm_append_comm (l₁ := [l[n]])
/-! ### Transactions -/
theorem ZD3 {x : List Ent} {w : Int} : ∀ {n : Nat}, NF x n -> 0 <= Yd x 1 w n -> (txN x w n).beg = Yd x 1 w n
 | 0, _, h => absurd h (by show ¬ (0 : Int) <= -1; omega)
 | n + 1, hn, h => by
  obtain ⟨hp, ho, _, _⟩ := hn.pred
  rw [Zbf]
  by_cases h1 : xk (xa x n) = 1 /\ xw (xa x n) = w
  ·rw [Zgd, if_pos h1.1, h1.2] at ho
   have hb : ¬ 0 <= Yd x 1 w n := by simpa using ho
   unfold Zha
   rw [if_neg (by omega), if_pos h1.2, if_pos h1.1, Ye, if_neg hb, if_pos h1]
  ·rw [ZfX h1] at h ⊢
   have ih := ZD3 hp h
   rw [<- ih]
   unfold Zha
   by_cases h7 : xk (xa x n) = 7
   ·rw [if_pos h7]
   ·rw [if_neg h7]
    by_cases hx : xw (xa x n) = w
    ·rw [if_pos hx, if_neg (fun q => h1 ⟨q, hx⟩)]
     by_cases h2 : xk (xa x n) = 2
     ·rw [if_pos h2]; exact (ZeD _ _ _).2.2.2.2
     ·rw [if_neg h2]
      by_cases h3 : xk (xa x n) = 3 \/ xk (xa x n) = 4
      ·rw [if_pos h3]
      ·rw [if_neg h3]
       by_cases h6 : xk (xa x n) = 6
       ·rw [if_pos h6]
       ·rw [if_neg h6]
        by_cases h5 : xk (xa x n) = 5
        ·rw [if_pos h5]
        ·rw [if_neg h5]
    ·rw [if_neg hx]
theorem ZxL {x : List Ent} {k w : Int} {j n : Nat} (hj : j < n) (hk : xk (xa x j) = k) (hw : xw (xa x j) = w) : 0 <= Yd x k w n /\ Yd x k w n <= j := by
 have h : 0 <= Yd x k w (j + 1) := by
  rw [Ye]
  split
  ·assumption
  ·rw [if_pos ⟨hk, hw⟩]; omega
 rw [Zfp h (by omega)]
 exact ⟨h, by have := (Zb6 x k w (j + 1)).2.1; omega⟩
theorem ZGB {x : List Ent} {n j : Nat} (hj : j < n) (hk : xk (xa x j) = 5) : xw (xa x j) ∈ ZJ x n := Zw9 (ZxL hj hk rfl).1
theorem ZDY {x : List Ent} {B : Bk} (h : Go x B) : (ZJ x x.length).Nodup := by
 refine List.pairwise_iff_getElem.2 fun i j hi hj hij e => ?_
 have ki : (ZJ x x.length).getD i 0 = (ZJ x x.length)[i] := by rw [ZNY, ZN1 hi, ZNT]
 have kj : (ZJ x x.length).getD j 0 = (ZJ x x.length)[j] := by rw [ZNY, ZN1 hj, ZNT]
 have a := (h.ri.com i (by rw [<- ZbG h]; exact hi)).2
 have b := (h.ri.com j (by rw [<- ZbG h]; exact hj)).2
 rw [ki, e, <- kj, b] at a
 omega
/-! ### What stands -/
def StL (x : List Ent) (f : Stf) (asg : List Int) : Prop := ∀ key : List UInt8,
 (f (Zs key : Nat) = (false, vw 0) /\ ZcY x asg key asg.length = ([], false)) \/ (f (Zs key : Nat) = (true, ZcY x asg key asg.length) /\ ((ZcY x asg key asg.length).2 = false -> (ZcY x asg key asg.length).1 = []))
theorem ZFB (x : List Ent) : StL x (Zl9 []) [] := fun _ => .inl ⟨rfl, rfl⟩
theorem ZER {x : List Ent} {B : Bk} (h : Go x B) {f : Stf} {asg : List Int} (hs : StL x f asg) {t : Tx} (ht : t ∈ B.txs) : StL x (ZDX f t.ch) (asg ++ [t.who]) := fun key => by
 obtain ⟨t1, t2⟩ := h.tx ht
 have hc := ZuS t2 h.nf key
 rw [<- t1] at hc
 have e1 : ZDX f t.ch (Zs key : Nat) = if Zx t.ch (Zs key : Nat) = true then (true, vw (YC 0 t.ch (Zs key : Nat))) else f (Zs key : Nat) := rfl
 have e2 : (asg ++ [t.who]).getD asg.length 0 = t.who := by rw [ZNY, ZOh (ZNO _), Nat.sub_self]; rfl
 have e3 : ZcY x (asg ++ [t.who]) key asg.length = ZcY x asg key asg.length := Zn3 x key _ fun i hi => by
  rw [ZNY, ZNY, ZOg hi]
 rw [e1, ZN3, ZNM, ZcV, e2, e3, hc.1]
 by_cases hl : 0 <= YA x t.who key x.length
 ·rw [if_pos hl, if_pos (decide_eq_true hl), hc.2 hl]
  refine .inr ⟨rfl, fun q => ?_⟩
  obtain ⟨l1, _, l3⟩ := ZqZ x t.who key x.length
  have q : ¬ xk (xa x (YA x t.who key x.length).toNat) = 3 := by simpa using q
  exact Zoh (h.may _ (by omega)) (by have := l3 hl; omega)
 ·rw [if_neg hl, if_neg (fun q => hl (of_decide_eq_true q))]; exact hs key
theorem ZpM {x : List Ent} {f : Stf} {asg : List Int} (h : StL x f asg) {r : Ent} (hm : ZbI r = true) (h2 : xk r = 2) :
  ZY f r = ((ZbW r == (ZcY x asg (ZV r) asg.length).2) && (ZaB r == (ZcY x asg (ZV r) asg.length).1)) := by
 have hs := h (ZV r)
 unfold ZY
 show ((ZbW r == ((f (Zs (ZV r) : Nat)).1 && (f (Zs (ZV r) : Nat)).2.2)) && (!ZbW r || ZaB r == (f (Zs (ZV r) : Nat)).2.1)) = _
 cases hh : ZbW r
 ·have hv := Znf hm (.inl h2) hh
  rcases hs with ⟨a, b⟩ | ⟨a, b⟩
  ·rw [a, b, hv]; rfl
  ·rw [a, hv]
   generalize ZcY x asg (ZV r) asg.length = v at *
   cases hv2 : v.2
   ·rw [b hv2]; rfl
   ·rfl
 ·rcases hs with ⟨a, b⟩ | ⟨a, b⟩
  ·rw [a, b]; rfl
  ·rw [a]; simp
theorem ZEb {x : List Ent} {n : Nat} {asg : List Int} (h : ¬ (0 <= YA x (xw (xa x n)) (ZV (xa x n)) n /\ 0 < xw (xa x n))) :
  (Zg8 x n asg).1 = ((ZbW (xa x n) == (ZcY x asg (ZV (xa x n)) asg.length).2) && (ZaB (xa x n) == (ZcY x asg (ZV (xa x n)) asg.length).1)) := by
 unfold Zg8; rw [if_neg h]
/-! ### Whether one fits -/
def LfP (x : List Ent) (R : List (List Int)) (B : Bk) (P : List (List Int)) : Prop := ∀ r ∈ P, Y3 R B.txs (g0 r) ∈ B.txs /\ (Y3 R B.txs (g0 r)).who ∈ ZJ x x.length
theorem ZI7 {x : List Ent} {B : Bk} (h : Go x B) {R P : List (List Int)} {asg K : List Int} (hP : LfP x R B P) (hK : ∀ w, w ∈ K ↔ w ∈ ZJ x x.length)
  (hW : P.map (fun r => (Y3 R B.txs (g0 r)).who) = K.filter fun a => Zn (a ∉ asg)) {r : List Int} (hr : r ∈ P) :
  (∀ u ∈ P, okU R B.txs (g0 r) u) ↔ ZHH x asg (Y3 R B.txs (g0 r)).who (Yd x 1 (Y3 R B.txs (g0 r)).who x.length) := by
 obtain ⟨m1, _⟩ := hP r hr
 obtain ⟨t1, t2⟩ := h.tx m1
 generalize hw : (Y3 R B.txs (g0 r)).who = w at *
 have hl := Zb6 x 1 w x.length
 have hb : 0 <= Yd x 1 w x.length := by
  obtain ⟨j, hj, e⟩ := List.getElem_of_mem m1
  refine (h.ri.beg w).1 ?_
  have := Zya m1
  rw [hw] at this; exact this
 have hbeg : (Y3 R B.txs (g0 r)).beg = Yd x 1 w x.length := by rw [t1]; exact ZD3 h.nf hb
 have mem : ∀ u ∈ P, (Y3 R B.txs (g0 u)).who ∉ asg := fun u hu => by
  have : (Y3 R B.txs (g0 u)).who ∈ K.filter fun a => Zn (a ∉ asg) := by rw [<- hW]; exact List.mem_map.2 ⟨u, hu, rfl⟩
  have := (List.mem_filter.1 this).2
  rw [Zl] at this; exact this
 constructor
 ·intro hu j hj hk
  refine Classical.byContradiction fun hn => ?_
  have hjn : j < x.length := by omega
  have hv := ZGB hjn hk
  have : xw (xa x j) ∈ K.filter fun a => Zn (a ∉ asg) := List.mem_filter.2 ⟨(hK _).2 hv, Zu hn⟩
  rw [<- hW] at this
  obtain ⟨u, hup, hue⟩ := List.mem_map.1 this
  obtain ⟨n1, _⟩ := hP u hup
  obtain ⟨u1, u2⟩ := h.tx n1
  have hcom := ZfU u2 h.nf
  rw [<- u1, hue] at hcom
  have hle := ZxL (w := xw (xa x j)) hjn hk rfl
  by_cases he : g0 u = g0 r
  ·rw [he] at hue
   have hue : w = xw (xa x j) := hw.symm.trans hue
   have hnf := NF.le h.nf (m := j + 1) (by omega)
   have hnb : ¬ 0 <= Yd x 1 w (j + 1) := fun q => by
    have := Zfp q (m := x.length) (by omega)
    have := (Zb6 x 1 w (j + 1)).2.1
    omega
   have h5 := (Zii t2 hnf hnb).1
   have := (ZxL (w := w) (n := j + 1) (Nat.lt_succ_self j) hk hue.symm).1
   omega
  ·refine hu u hup he ?_
   rw [hcom, hbeg]; omega
 ·intro hf u hup hne hlt
  obtain ⟨n1, n2⟩ := hP u hup
  obtain ⟨u1, u2⟩ := h.tx n1
  have hcom := ZfU u2 h.nf
  rw [<- u1] at hcom
  rw [hbeg, hcom] at hlt
  obtain ⟨k, hk, hkw⟩ := List.getElem_of_mem n2
  have c1 := (h.ri.com k (by rw [<- ZbG h]; exact hk)).1
  rw [ZNY, ZN1 hk, ZNT, hkw] at c1
  have c3 := (Zb6 x 5 (Y3 R B.txs (g0 u)).who x.length).2.2 c1
  have := hf (Yd x 5 (Y3 R B.txs (g0 u)).who x.length).toNat (by omega) c3.1
  rw [c3.2] at this
  exact mem u hup this
theorem ZIY {x : List Ent} {B : Bk} (h : Go x B) {f : Stf} {asg : List Int} (hs : StL x f asg) {t : Tx} (ht : t ∈ B.txs) : (t.bad = [] /\ ∀ r ∈ t.rds, ZY f (r.drop 1) = true) ↔ ZF8 x asg t.who x.length := by
 obtain ⟨t1, t2⟩ := h.tx ht
 have rd := ZdX t2 h.nf
 rw [<- t1] at rd
 generalize t.who = w at *
 constructor
 ·intro ⟨hb, hr⟩ j hj h2 hw
  have hjn : j < x.length := by omega
  by_cases hl : 0 <= YA x w (ZV (xa x j)) j
  ·have hh : 0 <= YA x (xw (xa x j)) (ZV (xa x j)) j /\ 0 < xw (xa x j) := by rw [hw]; exact ⟨hl, t2⟩
   rw [ZKg hh]
   refine Classical.byContradiction fun q => ?_
   have : (j : Int) ∈ t.bad := (rd.2 _).2 ⟨j, hjn, h2, hw, hl, by simpa using q, rfl⟩
   rw [hb] at this; cases this
  ·have hno : ¬ (0 <= YA x (xw (xa x j)) (ZV (xa x j)) j /\ 0 < xw (xa x j)) := by rw [hw]; exact fun q => hl q.1
   rw [ZEb hno, <- ZpM hs (h.may j hjn) h2, <- Za3]
   exact hr _ ((rd.1 _).2 ⟨j, hjn, h2, hw, by omega, rfl⟩)
 ·intro hf
  refine ⟨List.eq_nil_iff_forall_not_mem.2 fun b hb => ?_, fun r hr => ?_⟩
  ·obtain ⟨j, hj, h2, hw, hl, ho, _⟩ := (rd.2 _).1 hb
   have := hf j (by omega) h2 hw
   have hh : 0 <= YA x (xw (xa x j)) (ZV (xa x j)) j /\ 0 < xw (xa x j) := by rw [hw]; exact ⟨hl, t2⟩
   rw [ZKg hh] at this
   have this : ZEW x j = true := this
   rw [ho] at this; cases this
  ·obtain ⟨j, hj, h2, hw, hl, rfl⟩ := (rd.1 _).1 hr
   have hno : ¬ (0 <= YA x (xw (xa x j)) (ZV (xa x j)) j /\ 0 < xw (xa x j)) := by rw [hw]; omega
   have := hf j (by omega) h2 hw
   rw [ZEb hno, <- ZpM hs (h.may j hj) h2, <- Za3] at this
   exact this
theorem ZLt {x : List Ent} {B : Bk} (h : Go x B) {R P : List (List Int)} {f : Stf} {asg K : List Int} (hs : StL x f asg) (hP : LfP x R B P) (hK : ∀ w, w ∈ K ↔ w ∈ ZJ x x.length)
  (hW : P.map (fun r => (Y3 R B.txs (g0 r)).who) = K.filter fun a => Zn (a ∉ asg)) {r : List Int} (hr : r ∈ P) :
  Zpr x asg (Y3 R B.txs (g0 r)).who ↔ ZBe R B.txs f P (g0 r) := by
 have hn : (Y3 R B.txs (g0 r)).who ∉ asg := by
  have : (Y3 R B.txs (g0 r)).who ∈ K.filter fun a => Zn (a ∉ asg) := by rw [<- hW]; exact List.mem_map.2 ⟨r, hr, rfl⟩
  have := (List.mem_filter.1 this).2
  rw [Zl] at this; exact this
 unfold Zpr ZBe
 rw [ZI7 h hP hK hW hr, ZIY h hs (hP r hr).1]
 exact ⟨fun ⟨a, b, _⟩ => ⟨a, b⟩, fun ⟨a, b⟩ => ⟨a, b, hn⟩⟩
/-! ### The search -/
theorem Zwa {x : List Ent} {B : Bk} (h : Go x B) {R : List (List Int)} {K : List Int} (hn : K.Nodup) (hK : ∀ w, w ∈ K ↔ w ∈ ZJ x x.length) :
  ∀ (n : Nat) (P : List (List Int)) (f : Stf) (asg : List Int), StL x f asg -> LfP x R B P -> (P.map fun r => (Y3 R B.txs (g0 r)).who) = (K.filter fun a => Zn (a ∉ asg)) -> P.length = n -> asg.length + n = K.length →
  Zik x K n asg = (Zsq R B.txs n f P).map (asg ++ ·)
 | 0, P, f, asg, _, _, _, hl, ha => by
  have hp : P = [] := ZOd hl
  subst hp
  show (if asg.length = K.length then some asg else none) = _
  rw [if_pos (by omega)]
  show some asg = some (asg ++ [])
  rw [List.append_nil]
 | n + 1, P, f, asg, hs, hP, hW, hl, ha => by
  have hne : P ≠ [] := fun e => by rw [e] at hl; cases hl
  show (if asg.length = K.length then some asg else _) = ((if P = [] then some [] else _) : Option (List Int)).map _
  rw [if_neg (by omega), if_neg hne, Zq9]
  have e1 : (List.range K.length).findSome? (fun j => Zqj x K asg (Zik x K n) j) = K.findSome? fun w => if Zn (Zpr x asg w) = true then Zik x K n (asg ++ [w]) else none :=
   Zpj (fun w => if Zn (Zpr x asg w) = true then Zik x K n (asg ++ [w]) else none) K
  have e2 : (P.map fun r => (Y3 R B.txs (g0 r)).who).findSome? (fun w => if Zn (Zpr x asg w) = true then Zik x K n (asg ++ [w]) else none) = K.findSome? fun w => if Zn (Zpr x asg w) = true then Zik x K n (asg ++ [w]) else none := by
   rw [hW]
   refine Zls fun a _ hp => ?_
   rw [if_neg fun q => ?_]
   rw [Zl] at q
   rw [Zu q.2.2] at hp; cases hp
  rw [e1, <- e2, List.findSome?_map, <- Zkl]
  refine Zhp fun i hi => ?_
  have hi : i < P.length := List.mem_range.1 hi
  have hr : P.getD i [] ∈ P := by rw [ZNY, ZN1 hi]; exact ZOl _
  have hm := (hP _ hr).1
  have fe := ZLt h hs hP hK hW hr
  show (if Zn (Zpr x asg (Y3 R B.txs (g0 (P.getD i []))).who) = true then _ else none) = _
  unfold Zst
  have fe2 : Zn (Zpr x asg (Y3 R B.txs (g0 (P.getD i []))).who) = Zn (ZBe R B.txs f P (g0 (P.getD i []))) := by rw [propext fe]
  rw [fe2]
  by_cases hq : Zn (ZBe R B.txs f P (g0 (P.getD i []))) = true
  ·rw [if_pos hq, if_pos hq]
   have hlen : (P.eraseIdx i).length = n := by rw [List.length_eraseIdx_of_lt hi]; omega
   have hnd : (P.map fun r => (Y3 R B.txs (g0 r)).who).Nodup := by rw [hW]; exact hn.filter _
   have hget : (P.map fun r => (Y3 R B.txs (g0 r)).who).getD i 0 = (Y3 R B.txs (g0 (P.getD i []))).who := by
    rw [ZNY, ZNU, ZN1 hi, ZNY, ZN1 hi]; rfl
   rw [Zwa h hn hK n (P.eraseIdx i) (ZDX f (Y3 R B.txs (g0 (P.getD i []))).ch) (asg ++ [(Y3 R B.txs (g0 (P.getD i []))).who]) (ZER h hs hm) (fun r hr => hP r (List.mem_of_mem_eraseIdx hr)) ?_ hlen (by rw [ZN3, ZNM]; omega)]
   ·rw [Option.map_map]
    cases Zsq R B.txs n (ZDX f (Y3 R B.txs (g0 (P.getD i []))).ch) (P.eraseIdx i) with
    | none => rfl
    | some l => exact congrArg some (ZOm asg [(Y3 R B.txs (g0 (P.getD i []))).who] l)
   ·rw [Zkd, Zqa hnd (by rw [ZN8]; exact hi), hget, hW, List.filter_filter]
    refine List.filter_congr fun a _ => ?_
    by_cases h1 : a = (Y3 R B.txs (g0 (P.getD i []))).who
    ·subst h1
     rw [Zr (p := (Y3 R B.txs (g0 (P.getD i []))).who ∉ asg ++ [(Y3 R B.txs (g0 (P.getD i []))).who]) (fun q => q (by simp))]
     simp
    ·have e : (a ∉ asg ++ [(Y3 R B.txs (g0 (P.getD i []))).who]) = (a ∉ asg) := propext ⟨fun q r => q (List.mem_append_left _ r), fun q r => (List.mem_append.1 r).elim q fun e => h1 (List.mem_singleton.1 e)⟩
     rw [e]
     have : (a == (Y3 R B.txs (g0 (P.getD i []))).who) = false := by simpa using h1
     rw [this]; simp
  ·rw [if_neg hq, if_neg hq]; rfl
theorem ZEY {x : List Ent} {B : Bk} (h : Go x B) {R Q : List (List Int)} (hp : plOk R B.txs) (hQ : Q.Perm (Zbh R B.kept)) (hs : ZEa R B.txs Q) :
  Zmb R B.txs [] Q = ZgN x (ZlK (ZJ x x.length) (ZJ x x.length).length) [] := by
 have hw : ∀ k ∈ B.kept, Y3 R B.txs (g0 [g0 (R.getD k [])]) = B.txs.getD k tx0 := fun k hk => by
  have := h.wf.ki k hk
  show atT B.txs (ZcT (g0 (R.getD k [])) R : Nat) = _
  rw [ZaL hp.2.1 (by rw [hp.1]; exact this), Zct]
 have hm : (Zbh R B.kept).map (fun r => (Y3 R B.txs (g0 r)).who) = ZJ x x.length := by
  rw [<- h.ri.kep]
  unfold Zbh
  rw [List.map_map]
  exact List.map_congr_left fun k hk => by show (Y3 R B.txs (g0 [g0 (R.getD k [])])).who = _; rw [hw k hk]
 have hr := ZlQ (ZJ x x.length) _ (ZNO _)
 rw [List.take_length] at hr
 generalize hKd : ZlK (ZJ x x.length) (ZJ x x.length).length = K at *
 have hW : Q.map (fun r => (Y3 R B.txs (g0 r)).who) = K := by
  refine List.Perm.eq_of_pairwise (le := fun a b => a <= b) (fun a b _ _ q1 q2 => Int.le_antisymm q1 q2) ?_ ?_ ((hQ.map _).trans (by rw [hm]; exact hr.symm))
  ·exact List.pairwise_map.2 hs
  ·rw [<- hKd]; exact ZqQ _ _
 have hf : (K.filter fun a => Zn (a ∉ ([] : List Int))) = K := List.filter_eq_self.2 fun a _ => Zu (by simp)
 have hlen : Q.length = K.length := by rw [<- hW, ZN8]
 have hP : LfP x R B Q := fun r hr => by
  have hr := hQ.mem_iff.1 hr
  obtain ⟨k, hk, rfl⟩ := List.mem_map.1 hr
  have hk2 := h.wf.ki k hk
  rw [hw k hk]
  refine ⟨by rw [Yv hk2]; exact ZOl hk2, ?_⟩
  rw [<- h.ri.kep]; exact List.mem_map.2 ⟨k, hk, rfl⟩
 have := Zwa h (R := R) (hr.nodup_iff.2 (ZDY h)) (fun w => hr.mem_iff) K.length Q (Zl9 []) [] (ZFB x) hP (by rw [hf]; exact hW) hlen (by simp)
 unfold Zmb ZgN
 rw [List.length_nil, Nat.sub_zero, this, hlen]
 cases Zsq R B.txs K.length (Zl9 []) Q <;> rfl
def joL : SX := usN 660 xX z0 z0
def ZpL : Ctr := ⟨hA, [.one (hS 0)], [hC 0 0], [eLe z0 (ai 2), eLe (ai 2) (Zj (rA 4)), eLe (ai 2) (ai 3), eLe (ai 2) (.int 1099511627776)], [.int, .int, .bool, .int], .tup [(false, [sl1 (ai 6) (Z1 joL) (ai 7)]), (false, [.bool (qA 8)]), (false, [.int .i64 (ai 9)])],
 [hC 0 0, iAr (ai 6) joL (ai 7)], [.f2 48 (qA 8) (usB 661 xX z0 z0), .f2 45 (ai 9) (usI 662 xX z0 z0), eLe (Z1 joL) (ai 7), .f2 50 (eLe z0 (ai 6)) (.f2 45 (Z1 joL) z0), eLe (Z1 joL) (.int 8)]⟩
def ZJ9 : Cx := { specs := [(25, [ZlZ]), (35, [Zxh]), (39, [Zco (.int 108)])], anns := [(17, [(3, .ghost ZoA []), (4, .ghost Zl2 [.tmp 0, .tmp 5]), (5, .ghost ZoA []), (7, .ghost ZoA [])])] }
theorem ZF2 (x : List Ent) : ((orS x).getD []).length <= 8 := by
 unfold orS
 by_cases h : orE x = 0
 ·rw [if_pos h]
  have h8 : ¬ 8 < (ZJ x x.length).length := fun q => by
   unfold orE at h
   by_cases h1 : Zb5 x ≠ 0
   ·rw [if_pos h1] at h; exact h1 h
   ·rw [if_neg h1] at h
    by_cases h2 : 0 <= (ZcG x x.length).1
    ·rw [if_pos h2] at h; cases h
    ·rw [if_neg h2, if_pos q] at h; cases h
  have := ZqL x (ZlK (ZJ x x.length) (ZJ x x.length).length) [] (Nat.zero_le _)
  rw [Zfz] at this
  omega
 ·rw [if_neg h]; exact Nat.zero_le _
def Zhc : SX := .f2 115 (r 4) (a 2)
def ZEG : SX := l z (a 6)
def ZCc : SX := e (a 7) z
def ZFj : SX := p 661 Zhc
def ZCu : SX := .f2 48 (.bool false) ZFj
def ZxG : SX := v 662 Zhc
def ZBy : SX := o 660 Zhc
def Zr6 : SX := .f1 30 ZBy
def ZDi : SX := l Zr6 z
def Zsa : SX := e Zr6 z
def Zpq : SX := .f2 50 (.bool false) Zsa
def Zly : SX := l Zr6 (k 8)
def ZoH : SX := .f2 155 ZBy (.f1 152 z)
def ZfV : SX := .f1 32 Zhc
def Zhv : SX := hR0 548 Zhc ZfV (r 13)
def ZdI : SX := .f1 32 Zhv
def Zwg : SX := e ZdI z
def Zpz : SX := .f1 32 (wR 549 Zhc ZfV)
def ZhS : SX := f 561 Zhc ZfV
def ZxJ : SX := d 550 Zhc ZfV
def Zz4 : SX := l z (a 15)
def Zs9 : SX := .us .ints 641 ZhS (.f1 155 z) (r 13) (r 17)
def ZkF : SX := .f1 30 Zs9
def Zxw : SX := l z (a 19)
def ZKn : VC := i (l z (a 2)) (i (l (a 2) (.f1 32 (r 4))) (i (l (a 2) (a 3)) (i (l (a 2) k0) (u 6 .int (u 7 .int (i (e (a 7) (v 523 Zhc)) (i (.f2 48 ZEG ZCc) (.and (i (.f1 2 ZCc) (n ZCu (n (e (a 7) ZxG) (n ZDi (n Zpq (n Zly (n ZoH (n Zsa .tt)))))))) (i ZCc (n ZEG (u 8 .int (u 9 .int (u 10 .int (u 11 .int (u 12 .int (u 13 .rows (i (l z (a 8)) (i (l ZdI (a 10)) (i (.f2 50 (l z (a 9)) Zwg) (i (l Zpz (a 12)) (i (.f2 50 (l z (a 11)) (e Zpz z)) (i (c 558 (r 13) ZhS) (i (c 560 Zhv (r 13)) (i (l ZdI ZfV) (i (l Zpz ZfV) (.and (i (l z ZxJ) (n ZCu (n (e (k 280) ZxG) (n ZDi (n Zpq (n Zly (n ZoH (n Zsa .tt)))))))) (i (t ZxJ z) (.and (i (t (k 8) ZdI) (n ZCu (n (e (k 2) ZxG) (n ZDi (n Zpq (n Zly (n ZoH (n Zsa .tt)))))))) (i (l ZdI (k 8)) (u 14 .int (i (l z (a 14)) (n (p 620 Zhv) (n (l ZdI (k 12)) (n (p 621 Zhv) (u 15 .int (u 16 .int (u 17 .rows (i (.us .bool 622 (r 17) Zhv (r 13) ZhS) (i (l ZdI (a 16)) (i (.f2 50 Zz4 Zwg) (i (e (.f1 32 (r 17)) ZdI) (u 18 .int (i (l z (a 18)) (n (l (.f2 40 (.f1 32 (r 17)) (k 100)) (k 108)) (n (l (.f1 32 (r 17)) (k 1000)) (n (c 560 (r 17) (r 13)) (n (p 621 (r 17)) (n (p 633 ZhS) (n (l (.f1 32 (r 17)) (a 16)) (n (l (a 16) (a 16)) (n (.f2 50 Zz4 (e (.f1 32 (r 17)) z)) (u 19 .int (u 20 .int (u 21 .bool (i (.f2 48 (q 21) (.us .bool 642 ZhS (.f1 155 z) (r 13) (r 17))) (i (l ZkF (a 20)) (i (.f2 50 Zxw (e ZkF z)) (i (l ZkF (.f1 32 (r 17))) (n (.f2 48 (q 21) ZFj) (n (e z ZxG) (n (l Zr6 (a 20)) (n (.f2 50 Zxw Zsa) (n Zly (n (.f2 155 ZBy Zs9) (n (e Zr6 ZkF) .tt)))))))))))))))))))))))))))))))))))))))))))))))))))))))))))))))))
theorem ZNy : Yq Tryz.prog ZJ9 12 17 ZpL = ZKn := by kernel_rfl
theorem ZDQ (S : Sig GG) (hS : OrSig S) : Zy S Tryz.prog 17 ZpL := by
 refine Ze S (C := ZJ9) (fuel := 12) (ZQ ⟨Zg (by decide) (ZyT S hS.ou.ft.od.fi.js.jt), Zg (by decide) (ZKb S hS.ou.ft), Zg (by decide) (ZKA S hS.ou), trivial⟩ ⟨⟨⟨by decide, Zb9 S⟩, ⟨by decide, Znw S hS.ou.ft.od.fi.js.jt⟩, ⟨by decide, Zb9 S⟩, ⟨by decide, Zb9 S⟩, trivial⟩, trivial⟩ trivial) fun ρ => ?_
 rw [ZNy]
 simp only [ZKn, Zhc, ZEG, ZCc, ZFj, ZCu, ZxG, ZBy, Zr6, ZDi, Zsa, Zpq, Zly, ZoH, ZfV, Zhv, ZdI, Zwg, Zpz, ZhS, ZxJ, Zz4, Zs9, ZkF, Zxw, hS.ou.ft.od.fi.js.jt.jb.rf.u523, hS.ou.ft.od.fi.js.jt.u548, hS.ou.ft.od.fi.js.jt.u549, hS.ou.ft.od.fi.js.jt.u550, hS.ou.ft.od.fi.js.jt.u558, hS.ou.ft.od.fi.js.jt.u560, hS.ou.ft.od.fi.js.jt.u561, hS.ou.ft.od.u620, hS.ou.ft.od.u621, hS.ou.ft.od.u622, hS.ou.ft.u633, hS.ou.u641, hS.ou.u642, hS.u660, hS.u661, hS.u662, ZI, ZN5, VC.den, SX.den, Env.upd, ZS, ZD, beq_iff_eq, ZNX, beq_eq_false_iff_ne, ne_eq, ZNW, ZNV, Int.reduceToNat, Nat.reduceEqDiff, reduceIte, sB, sC]
 generalize hX : (ρ 4).tR.take (ρ 2).tI.toNat = X
 generalize hlen : (ρ 2).tI = l at *
 intro h1 h2 h3 h4
 have hl : l = (X.length : Nat) := by rw [<- hX, ZN0]; omega
 subst hl
 clear hX hlen
 intro b e he hb
 have bad : ∀ q : Int, orE X = q -> q ≠ 0 -> orS X = none := fun q h1 h2 => by unfold orS; rw [if_neg (by rw [h1]; exact h2)]
 have hpl : ∀ (R : List (List Int)) (ks : List Nat), (Zbh R ks).length = ks.length := fun R ks => by unfold Zbh; rw [ZN8]
 refine ⟨fun hne => ?_, fun h0 => ⟨?_, ?_⟩⟩
 ·have hn : Zb5 X ≠ 0 := by rw [<- he]; exact hne
  have hE : orE X = e := by unfold orE; rw [if_pos hn, he]
  rw [bad e hE hne]
  exact ⟨rfl, hE.symm, ZN9 _, .inr rfl, by decide, rfl, rfl, trivial⟩
 ·rw [h0] at hb; exact Za.1 (by rw [hb]; rfl)
 have hc : Zb5 X = 0 := by rw [<- he]; exact h0
 intro ma kb kc ob oc R q1 q2 q3 q4 q5 q6 q7 q8 q9
 refine ⟨fun hf => ?_, fun hf => ?_⟩
 ·have hE : orE X = 280 := by unfold orE; rw [if_neg (by rw [hc]; exact fun h => h rfl), if_pos (Zht hc hf)]
  rw [bad 280 hE (by decide)]
  exact ⟨rfl, hE.symm, ZN9 _, .inr rfl, by decide, rfl, rfl, trivial⟩
 have hgo : Go X (Z4 X X.length) := ZE2 hc hf
 have h400 := ZiR hc
 have hkt := ZbG hgo
 have hnt := Zyg hgo
 simp only [hpl] at *
 refine ⟨fun h8 => ?_, fun h8 m hm => ?_⟩
 ·have hE : orE X = 2 := by unfold orE; rw [if_neg (by rw [hc]; exact fun h => h rfl), if_neg hnt, if_pos (by omega)]
  rw [bad 2 hE (by decide)]
  exact ⟨rfl, hE.symm, ZN9 _, .inr rfl, by decide, rfl, rfl, trivial⟩
 have hE : orE X = 0 := by unfold orE; rw [if_neg (by rw [hc]; exact fun h => h rfl), if_neg hnt, if_neg (by omega)]
 have hS1 : orS X = ZgN X (ZlK (ZJ X X.length) (ZJ X X.length).length) [] := by unfold orS; rw [if_pos hE]
 have hnd : ndP (Zbh R (Z4 X X.length).kept) := by
  unfold ndP Zbh
  rw [List.map_map]
  have hkn : ((Z4 X X.length).kept.map fun k => ((Z4 X X.length).txs.getD k tx0).who).Nodup := by rw [hgo.ri.kep]; exact ZDY hgo
  have hkd : (Z4 X X.length).kept.Nodup := List.Pairwise.of_map _ (fun a b h e => h (by rw [e])) hkn
  refine List.pairwise_map.2 (List.Pairwise.imp_of_mem (fun {a b} ha hb' hab e => hab ?_) hkd)
  exact ZjA q6.2.1 (by rw [q6.1]; exact hgo.wf.ki a ha) (by rw [q6.1]; exact hgo.wf.ki b hb') e
 refine ⟨fun r hr => ?_, by omega, hnd, fun qb qc Q hQ hq1 hq2 hq3 m2 hm2 => ⟨by omega, by omega, fun r hr => q7 r (hQ.1.mem_iff.1 hr), ?_, fun t ht => ?_, by omega, by omega, by omega, fun b3 c3 w hw y1 y2 y3 => ?_⟩⟩
 ·obtain ⟨k, hk, rfl⟩ := List.mem_map.1 hr
  exact (q6.2.2 (R.getD k []) (Zue (by rw [q6.1]; exact hgo.wf.ki k hk)) : 0 <= g0 (R.getD k []))
 ·exact ((hQ.1.map g0).nodup_iff).2 hnd
 ·have := (hgo.wf.rl t ht).1; omega
 ·have h9 := ZF2 X
  rw [hS1, <- ZEY hgo q6 hQ.1 hQ.2] at h9 ⊢
  exact ⟨hw, hE.symm, y1, y2, by omega, rfl, rfl, trivial⟩
def mkL (n : Int) (k : Nat) : List Int := List.replicate k (-1 - n)
theorem Zyn (n : Int) (k : Nat) : (mkL n k).length = k := List.length_replicate
theorem ZoR (n : Int) {m k : Nat} (h : m <= k) : (mkL n k).take m = mkL n m := by
 unfold mkL
 rw [List.take_replicate, Nat.min_eq_left h]
theorem ZCT {b c : Int} {x : List Int} {h : Hl} (n : Nat) (hd : iAD b x c h) : iAD b (x.take n) c h := by
 obtain ⟨sp, h1, h2, h3, h4⟩ := hd
 have e : ∀ y : List Int, iE.vals (.ints y : U Unit) = y.map fun b => Value.int .i64 b := fun _ => rfl
 refine ⟨(x.drop n).map (fun b => Value.int .i64 b) ++ sp, ?_, h2, h3, ?_⟩
 ·rw [e] at h1 ⊢
  rw [ZN8] at h1 ⊢
  rw [ZN3, ZN8, ZN0, ZOc]; omega
 ·rw [e] at h4 ⊢
  rw [<- ZOm, <- ZOe, List.take_append_drop]
  exact h4
abbrev Zen := List (Int × Int × Int × Int)
def InG (p : Zen) (b v n : Int) : Prop := ∃ l c, (b, v, l, c) ∈ p /\ n <= l
def okC (b v l : Int) (p : Zen) (b' v' n : Int) : Prop := (b' = b /\ v' = v /\ n <= l) \/ InG p b' v' n
def ZJb (i j : Int) (r : List Int) : HProp := fun h => ∃ x : List Int, (0 <= g1 r /\ g1 r <= x.length /\ g1 r <= 4294967296 /\ (j < i -> x.take (g1 r).toNat = mkL j (g1 r).toNat)) /\ iAD (g0 r) x (g2 r) h
def ZjQ (i : Int) : Int -> List (List Int) -> HProp
 | _, [] => emp
 | j, r :: rs => Zc (ZJb i j r) (ZjQ i (j + 1) rs)
def kp42 (k : List (List Int)) : HProp := ZjQ (g0 (k.getD 0 [])) (g1 (k.getD 0 [])) (((k.drop 1).take (g2 (k.getD 0 [])).toNat).drop (g1 (k.getD 0 [])).toNat)
def kp43 (k : List (List Int)) : HProp := Zc (ZjQ (g0 (k.getD 0 [])) 0 (((k.drop 1).take (g1 (k.getD 0 [])).toNat).take (g0 (k.getD 0 [])).toNat)) (ZjQ (g0 (k.getD 0 [])) (g0 (k.getD 0 []) + 1) (((k.drop 1).take (g1 (k.getD 0 [])).toNat).drop ((g0 (k.getD 0 [])).toNat + 1)))
def Zcf : Zen -> HProp
 | [] => emp
 | (b, v, l, c) :: p => Zc (iAD b (mkL v l.toNat) c) (Zcf p)
def Zcd (f : Int -> Int) (ok : Int -> Int -> Int -> Prop) : Int -> List (List Int) -> Prop
 | _, [] => True
 | j, r :: rs => (0 <= g1 r /\ g1 r <= 4294967400 /\ ok (g0 r) (f j) (g1 r)) /\ Zcd f ok (j + 1) rs
def fG (j : Int) : Int := j.tdiv 8
def fL (j : Int) : Int := j
def kp46 (k Q : List (List Int)) : HProp := fun h => ∃ p : Zen, (Zcd fG (InG p) 0 ((k.drop 1).take (g0 (k.getD 0 [])).toNat) /\ Zcd fL (InG p) 0 (Q.take (g1 (k.getD 0 [])).toNat)) /\ Zcf p h
def kp47 (k Q : List (List Int)) : HProp := fun h => ∃ p : Zen, (Zcd fG (okC (g1 (k.getD 0 [])) ((k.getD 0 []).getD 3 0) (g2 (k.getD 0 [])) p) 0 ((k.drop 1).take (g0 (k.getD 0 [])).toNat) ∧
 Zcd fL (okC (g1 (k.getD 0 [])) ((k.getD 0 []).getD 3 0) (g2 (k.getD 0 [])) p) 0 (Q.take ((k.getD 0 []).getD 4 0).toNat)) /\ Zcf p h
def kp48 (k Q : List (List Int)) : HProp := fun h => ∃ p : Zen, (Zcd fG (InG ((g2 (k.getD 0 []), (k.getD 0 []).getD 3 0, (k.getD 0 []).getD 4 0, (k.getD 0 []).getD 5 0) :: p)) 0 ((k.drop 1).take (g0 (k.getD 0 [])).toNat) ∧
 Zcd fL (InG ((g2 (k.getD 0 []), (k.getD 0 []).getD 3 0, (k.getD 0 []).getD 4 0, (k.getD 0 []).getD 5 0) :: p)) 0 (Q.take (g1 (k.getD 0 [])).toNat)) /\ Zcf p h
structure IbSig (S : Sig GG) : Prop where
 og : OrSig S
 p112 : ∀ w0 k x, S.prd 112 w0 k x = kp42 k.tR
 p113 : ∀ w0 k x, S.prd 113 w0 k x = kp43 k.tR
 p114 : ∀ w0 k x, S.prd 114 w0 k x = kp46 k.tR x.tR
 p115 : ∀ w0 k x, S.prd 115 w0 k x = kp47 k.tR x.tR
 p116 : ∀ w0 k x, S.prd 116 w0 k x = kp48 k.tR x.tR
 u680 : ∀ a b c d, S.usr 680 a b c d = .ints (mkL a.tI b.tI.toNat)
theorem Zdk (i j n : Int) (P : List (List Int)) : kp42 ([i, j, n] :: P) = ZjQ i j ((P.take n.toNat).drop j.toNat) := rfl
theorem Zsy (i n : Int) (P : List (List Int)) : kp43 ([i, n] :: P) = Zc (ZjQ i 0 ((P.take n.toNat).take i.toNat)) (ZjQ i (i + 1) ((P.take n.toNat).drop (i.toNat + 1))) := rfl
theorem ZfG (m j : Int) (G Q : List (List Int)) : kp46 ([m, j] :: G) Q = fun h => ∃ p : Zen, (Zcd fG (InG p) 0 (G.take m.toNat) /\ Zcd fL (InG p) 0 (Q.take j.toNat)) /\ Zcf p h := rfl
theorem ZfO (m b l v j : Int) (G Q : List (List Int)) : kp47 ([m, b, l, v, j] :: G) Q = fun h => ∃ p : Zen, (Zcd fG (okC b v l p) 0 (G.take m.toNat) /\ Zcd fL (okC b v l p) 0 (Q.take j.toNat)) /\ Zcf p h := rfl
theorem ZtK (m j b v l c : Int) (G Q : List (List Int)) : kp48 ([m, j, b, v, l, c] :: G) Q = fun h => ∃ p : Zen, (Zcd fG (InG ((b, v, l, c) :: p)) 0 (G.take m.toNat) /\ Zcd fL (InG ((b, v, l, c) :: p)) 0 (Q.take j.toNat)) /\ Zcf p h := rfl
def c42 (i j n P : SX) : Ch := .prd 112 (Zz (Zam i j n) P) z0
def c43 (i n P : SX) : Ch := .prd 113 (Zz (ZT i n) P) z0
def c46 (m j G P : SX) : Ch := .prd 114 (Zz (ZT m j) G) P
def c47 (m b l v j G P : SX) : Ch := .prd 115 (Zz (Zdp m b l v j) G) P
def c48 (m j b v l c G P : SX) : Ch := .prd 116 (Zz (Zca m j b v l c) G) P
def imX (v l : SX) : SX := usN 680 v l z0
def ZEo : Ctr := ⟨[.int, .int, .rows], [.one (.int .i64 (ai 0))], [c42 (ai 0) z0 (ai 1) (rA 2)], [eLe (.int 0) (ai 0), eLt (ai 0) (ai 1), eLe (ai 1) (Zj (rA 2))], [.ints], .tup [],
 [c43 (ai 0) (ai 1) (rA 2), iAr (nt (rA 2) (ai 0) 0) (iA 3) (nt (rA 2) (ai 0) 2)], [eLe (.int 0) (nt (rA 2) (ai 0) 1), eLe (nt (rA 2) (ai 0) 1) (Z1 (iA 3)), eLe (nt (rA 2) (ai 0) 1) (.int 4294967296)]⟩
def Zwd : Ctr := ⟨[.int, .int, .rows, .ints], [], [c43 (ai 0) (ai 1) (rA 2), iAr (nt (rA 2) (ai 0) 0) (iA 3) (nt (rA 2) (ai 0) 2)],
 [eLe (.int 0) (ai 0), eLt (ai 0) (ai 1), eLe (ai 1) (Zj (rA 2)), eLe (.int 0) (nt (rA 2) (ai 0) 1), eLe (nt (rA 2) (ai 0) 1) (Z1 (iA 3)), eLe (nt (rA 2) (ai 0) 1) (.int 4294967296), eqS (tkI (iA 3) (nt (rA 2) (ai 0) 1)) (imX (ai 0) (nt (rA 2) (ai 0) 1))], [], .tup [],
 [c42 (SX.mk2 40 (ai 0) (.int 1)) z0 (ai 1) (rA 2)], []⟩
def ZLR : Ctr := ⟨[.int, .int, .rows], [], [c42 (ai 0) z0 (ai 1) (rA 2)], [eLe (ai 1) (ai 0)], [], .tup [], [c46 z0 z0 Zdu (rA 2), slA (.int (-1)) Zdu z0, c42 (ai 1) z0 (ai 1) (rA 2)], []⟩
def Zwt : Ctr := ⟨[.int, .rows, .int, .int, .rows, .int, .int, .int], [.one (.int .i64 (ai 2)), .one (sl1 (ai 5) (ai 6) (ai 7))], [c46 (ai 0) (ai 2) (rA 1) (rA 4), c42 (ai 3) (ai 2) (ai 3) (rA 4)],
 [eLe (.int 0) (ai 2), eLt (ai 2) (ai 3), eLe (ai 3) (Zj (rA 4)), .f2 45 (ai 5) (nt (rA 4) (ai 2) 0), .f2 45 (ai 6) (nt (rA 4) (ai 2) 1), .f2 45 (ai 7) (nt (rA 4) (ai 2) 2)], [], .tup [],
 [c47 (ai 0) (ai 5) (ai 6) (ai 2) (SX.mk2 40 (ai 2) (.int 1)) (rA 1) (rA 4), iAr (ai 5) (imX (ai 2) (ai 6)) (ai 7), c42 (ai 3) (SX.mk2 40 (ai 2) (.int 1)) (ai 3) (rA 4)], [eLe (.int 0) (ai 6), eLe (ai 6) (.int 4294967296), eLe (ai 6) (ai 7)]⟩
def ZJy : Ctr := ⟨[.int, .int, .int, .int, .int, .rows, .rows, .int, .int, .ints], [.one (sl1 (ai 1) (ai 7) (ai 8))], [c47 (ai 0) (ai 1) (ai 2) (ai 3) (ai 4) (rA 5) (rA 6), iAr (ai 1) (iA 9) (ai 8)],
 [.f2 45 (ai 7) (.f2 40 (ai 2) (.int 1)), eqS (iA 9) (imX (ai 3) (ai 7))], [], .tup [], [c47 (ai 0) (ai 1) (ai 7) (ai 3) (ai 4) (rA 5) (rA 6), iAr (ai 1) (imX (ai 3) (ai 7)) (ai 8)], []⟩
def ZJD : Ctr := ⟨[.int, .int, .int, .int, .int, .rows, .rows, .int, .int, .ints, .int, .int, .ints], [.one (sl1 (ai 10) (ai 7) (ai 8))], [c47 (ai 0) (ai 1) (ai 2) (ai 3) (ai 4) (rA 5) (rA 6), iAr (ai 1) (iA 9) (ai 11), iAr (ai 10) (iA 12) (ai 8)],
 [.f2 45 (ai 7) (.f2 40 (ai 2) (.int 1)), eqS (iA 9) (imX (ai 3) (ai 2)), eqS (iA 12) (imX (ai 3) (ai 7))], [], .tup [], [c47 (ai 0) (ai 10) (ai 7) (ai 3) (ai 4) (rA 5) (rA 6), iAr (ai 10) (imX (ai 3) (ai 7)) (ai 8)], []⟩
def ZC5 : Ctr := ⟨[.int, .int, .int, .int, .int, .rows, .rows, .int], [.one (sl1 (ai 1) (ai 2) (ai 7))], [c47 (ai 0) (ai 1) (ai 2) (ai 3) (ai 4) (rA 5) (rA 6)],
 [eLe (.int 0) (ai 0), eLe (ai 0) (Zj (rA 5)), eLe (.int 0) (ai 2), eLe (ai 2) (.int 4294967400), .f2 45 (ai 3) (.f2 43 (ai 0) (.int 8))], [], .tup [], [c47 (SX.mk2 40 (ai 0) (.int 1)) (ai 1) (ai 2) (ai 3) (ai 4) (.f2 121 (tk (rA 5) (ai 0)) (.f2 124 (row3 (ai 1) (ai 2) (ai 7)) Zdu)) (rA 6)], []⟩
def ZKz : Ctr := ⟨[.int, .int, .int, .int, .int, .rows, .rows, .int, .ints], [], [c47 (ai 0) (ai 1) (ai 2) (ai 3) (ai 4) (rA 5) (rA 6), iAr (ai 1) (iA 8) (ai 7)], [eqS (iA 8) (imX (ai 3) (ai 2))], [], .tup [], [c46 (ai 0) (ai 4) (rA 5) (rA 6)], []⟩
def ZEi : Ctr := ⟨[.int, .int, .rows, .rows, .int], [.one (.int .i64 (ai 4))], [c46 (ai 0) (ai 1) (rA 2) (rA 3)], [eLe (.int 0) (ai 4), eLt (ai 4) (ai 0), eLe (ai 0) (Zj (rA 2))], [.int, .int], .tup [],
 [c48 (ai 0) (ai 1) (nt (rA 2) (ai 4) 0) (.f2 43 (ai 4) (.int 8)) (ai 5) (ai 6) (rA 2) (rA 3), iAr (nt (rA 2) (ai 4) 0) (imX (.f2 43 (ai 4) (.int 8)) (ai 5)) (ai 6)],
 [eLe (.int 0) (nt (rA 2) (ai 4) 1), eLe (nt (rA 2) (ai 4) 1) (ai 5), eLe (nt (rA 2) (ai 4) 1) (.int 4294967400)]⟩
def ZMd : Ctr := ⟨[.int, .int, .int, .int, .int, .int, .rows, .rows, .ints], [], [c48 (ai 0) (ai 1) (ai 2) (ai 3) (ai 4) (ai 5) (rA 6) (rA 7), iAr (ai 2) (iA 8) (ai 5)], [eqS (iA 8) (imX (ai 3) (ai 4))], [], .tup [], [c46 (ai 0) (ai 1) (rA 6) (rA 7)], []⟩
theorem Zrk {i : Int} : ∀ {a : List (List Int)} {j : Int} (b : List (List Int)), ZjQ i j (a ++ b) = Zc (ZjQ i j a) (ZjQ i (j + a.length) b)
 | [], j, b => by rw [List.nil_append]; show _ = Zc emp _; rw [emp_star]; simp
 | r :: a, j, b => by
  rw [List.cons_append]
  show Zc _ (ZjQ i (j + 1) (a ++ b)) = Zc (Zc _ (ZjQ i (j + 1) a)) _
  rw [Zrk b, star_assoc, show j + 1 + (a.length : Int) = j + ((r :: a).length : Nat) by simp only [ZOi]; omega]
theorem ZdL {i i' : Int} : ∀ {l : List (List Int)} {j : Int} {h : Hl}, (∀ q : Int, j <= q -> q < j + l.length -> q < i' -> q < i) -> ZjQ i j l h -> ZjQ i' j l h
 | [], _, _, _, hx => hx
 | r :: l, j, h, hq, hx => by
  obtain ⟨a, b, d, rfl, ⟨x, ⟨q1, q2, q3, q4⟩, ha⟩, hb⟩ := hx
  have : ((r :: l).length : Int) = l.length + 1 := by simp
  exact ⟨a, b, d, rfl, ⟨x, ⟨q1, q2, q3, fun h => q4 (hq j (ZN9 _) (by omega) h)⟩, ha⟩, ZdL (fun q a b c => hq q (by omega) (by omega) c) hb⟩
theorem Zj7 {i j : Int} {k : List (List Int)} {q : Nat} (hq : q < k.length) : ZjQ i j k = Zc (Zc (ZjQ i j (k.take q)) (ZjQ i (j + q + 1) (k.drop (q + 1)))) (ZJb i (j + q) (k.getD q [])) := by
 conv => lhs; rw [Zjp (d := []) hq]
 have hl : (k.take q).length = q := by rw [ZN0]; omega
 rw [Zrk, hl, List.singleton_append]
 show Zc _ (Zc _ (ZjQ i (j + q + 1) _)) = _
 rw [ZF (ZJb _ _ _), star_assoc]
theorem Z2 {f : Int -> Int} {p q : Int -> Int -> Int -> Prop} (hpq : ∀ b v n, p b v n -> q b v n) : ∀ {l : List (List Int)} {j : Int}, Zcd f p j l -> Zcd f q j l
 | [], _, _ => trivial
 | r :: l, j, h => ⟨⟨h.1.1, h.1.2.1, hpq _ _ _ h.1.2.2⟩, Z2 hpq h.2⟩
theorem ZfE {f : Int -> Int} {p : Int -> Int -> Int -> Prop} : ∀ {l : List (List Int)} {j : Int} {r : List Int}, Zcd f p j l -> 0 <= g1 r -> g1 r <= 4294967400 -> p (g0 r) (f (j + l.length)) (g1 r) -> Zcd f p j (l ++ [r])
 | [], j, r, _, h1, h2, h3 => ⟨⟨h1, h2, by simpa using h3⟩, trivial⟩
 | s :: l, j, r, h, h1, h2, h3 => ⟨h.1, ZfE h.2 h1 h2 (by rw [show j + 1 + (l.length : Int) = j + ((s :: l).length : Nat) by simp only [ZOi]; omega]; exact h3)⟩
theorem ZoW {f : Int -> Int} {p : Int -> Int -> Int -> Prop} : ∀ {l : List (List Int)} {j : Int} {i : Nat}, Zcd f p j l -> i < l.length -> 0 <= g1 (l.getD i []) /\ g1 (l.getD i []) <= 4294967400 /\ p (g0 (l.getD i [])) (f (j + i)) (g1 (l.getD i []))
 | r :: l, j, 0, h, _ => by simpa using h.1
 | r :: l, j, i + 1, h, hl => by
  rw [List.getD_cons_succ, show j + ((i + 1 : Nat) : Int) = j + 1 + i by omega]; exact ZoW h.2 (by simpa using hl)
 | [], _, _, _, hl => by simp at hl
theorem Zgn : ∀ (p q : Zen), Zcf (p ++ q) = Zc (Zcf p) (Zcf q)
 | [], q => by rw [List.nil_append]; show _ = Zc emp _; rw [emp_star]
 | (b, v, l, c) :: p, q => by rw [List.cons_append]; show Zc _ (Zcf (p ++ q)) = Zc (Zc _ _) _; rw [Zgn p q, star_assoc]
theorem Zon {p : Zen} {x : Int × Int × Int × Int} (hx : x ∈ p) : ∃ q : Zen, (∀ y, y ∈ p ↔ y ∈ x :: q) /\ ∀ h, Zcf p h -> Zcf (x :: q) h := by
 obtain ⟨a, b, rfl⟩ := List.append_of_mem hx
 obtain ⟨x1, x2, x3, x4⟩ := x
 refine ⟨a ++ b, fun y => by simp only [ZOj, List.mem_cons]; exact ⟨fun h => h.elim (fun h => .inr (.inl h)) (fun h => h.elim .inl fun h => .inr (.inr h)), fun h => h.elim (fun h => .inr (.inl h)) fun h => h.elim .inl fun h => .inr (.inr h)⟩, fun h hp => ?_⟩
 rw [Zgn] at hp
 show Zc _ (Zcf (a ++ b)) h
 rw [Zgn, <- star_assoc, ZF _ (Zcf a), star_assoc]
 exact hp
theorem ZGe {G : Type} (T : Sig G) : ZO T slT (.int (-1)) (.rows []) (.int 0) = emp := by
 funext h
 refine propext ⟨fun hx => ?_, fun hx => ⟨[], rfl, ZN9 0, .inr rfl, by rw [show slT.vals (.rows [] : U G) ++ [] = [] from rfl, Zcg]; exact hx⟩⟩
 obtain ⟨sp, l1, _, _, l4⟩ := hx
 have : sp = [] := ZOd (by have : (slT.vals (.rows [] : U G)).length = 0 := rfl; rw [this] at l1; simpa using l1)
 subst this
 rw [show slT.vals (.rows [] : U G) ++ [] = [] from rfl, Zcg] at l4
 exact l4
theorem ZoQ {p q : Zen} (h : ∀ y, y ∈ p -> y ∈ q) (b v n : Int) : InG p b v n -> InG q b v n := fun ⟨l, c, h1, h2⟩ => ⟨l, c, h _ h1, h2⟩
theorem ZJX (S : Sig GG) (hK : IbSig S) : Zbm S ZEo := by
 refine Yp S fun T w0 ρ h hu hp hd hr hpre => ?_
 have e1 : hpDen T ρ w0 ZEo.pre = Zc (T.prd 112 w0 ((Zz (Zam (ai 0) z0 (ai 1)) (rA 2)).den T ρ) (z0.den T ρ)) emp := rfl
 have e2 : ∀ ρ', hpDen T ρ' w0 ZEo.post = Zc (T.prd 113 w0 ((Zz (ZT (ai 0) (ai 1)) (rA 2)).den T ρ') (z0.den T ρ')) (Zc (ZO T iE ((nt (rA 2) (ai 0) 0).den T ρ') ((iA 3).den T ρ') ((nt (rA 2) (ai 0) 2).den T ρ')) emp) := fun _ => rfl
 rw [e1, Zf, hp, hK.p112] at hpre
 have r0 := hr (eLe (.int 0) (ai 0)) (by simp [ZEo])
 have r1 := hr (eLt (ai 0) (ai 1)) (by simp [ZEo])
 have r2 := hr (eLe (ai 1) (Zj (rA 2))) (by simp [ZEo])
 simp only [eLe, eLt, SX.mk2, Zj, SX.den, ai, rA, Zt, ZC, U.tIi, U.tRi, p46, p47, Yf] at r0 r1 r2
 simp only [Zz, Zam, ZT, ZjU, z0, SX.den, ai, rA, Zt, ZC, U.tIi, U.tRi, Yo, Yn, Ym, U.tNi, Zdk, ZNV, List.drop_zero] at hpre
 have hi : (ρ 0).tI.toNat < ((ρ 2).tR.take (ρ 1).tI.toNat).length := by rw [ZN0]; omega
 rw [Zj7 hi, show (0 : Int) + ((ρ 0).tI.toNat : Nat) = (ρ 0).tI by omega] at hpre
 obtain ⟨a, b, d, rfl, ha, x, ⟨q1, q2, q3, _⟩, hb⟩ := hpre
 rw [ZaZ (by omega)] at q1 q2 q3 hb
 refine ⟨ρ.upd 3 (.ints x), Ext.upd _ _, ?_, ?_⟩
 ·rw [e2, Zf, hp, hK.p113]
  simp only [Zz, ZT, ZjU, nt, SX.den, ai, rA, iA, Zt, Z9, ZC, Env.upd, Nat.reduceEqDiff, reduceIte, U.tIi, U.tNi, U.tRi, Yo, Yn, Ym, U.tNi, ZbK, Zsy]
  exact ⟨a, b, d, rfl, ha, hb⟩
 ·intro q hq
  simp only [ZEo, List.mem_cons, List.not_mem_nil, or_false] at hq
  rcases hq with rfl | rfl | rfl
  all_goals simp only [eLe, SX.mk2, nt, Z1, SX.den, ai, rA, iA, Zt, Z9, ZC, Env.upd, Nat.reduceEqDiff, reduceIte, U.tIi, U.tNi, U.tRi, p47, ZeP, ZbK]
  ·exact q1
  ·exact q2
  ·exact q3
theorem ZM9 (S : Sig GG) (hK : IbSig S) : Zbm S Zwd := by
 refine Yp S fun T w0 ρ h hu hp hd hr hpre => ⟨ρ, Ext.refl _ _, ?_, by intro x hx; exact nomatch hx⟩
 have e1 : hpDen T ρ w0 Zwd.pre = Zc (T.prd 113 w0 ((Zz (ZT (ai 0) (ai 1)) (rA 2)).den T ρ) (z0.den T ρ)) (Zc (ZO T iE ((nt (rA 2) (ai 0) 0).den T ρ) ((iA 3).den T ρ) ((nt (rA 2) (ai 0) 2).den T ρ)) emp) := rfl
 have e2 : hpDen T ρ w0 Zwd.post = Zc (T.prd 112 w0 ((Zz (Zam (SX.mk2 40 (ai 0) (.int 1)) z0 (ai 1)) (rA 2)).den T ρ) (z0.den T ρ)) emp := rfl
 rw [e1, Zf, hp, hK.p113] at hpre
 rw [e2, Zf, hp, hK.p112]
 have r0 := hr (eLe (.int 0) (ai 0)) (by simp [Zwd])
 have r1 := hr (eLt (ai 0) (ai 1)) (by simp [Zwd])
 have r2 := hr (eLe (ai 1) (Zj (rA 2))) (by simp [Zwd])
 have s1 := hr (eLe (.int 0) (nt (rA 2) (ai 0) 1)) (by simp [Zwd])
 have s2 := hr (eLe (nt (rA 2) (ai 0) 1) (Z1 (iA 3))) (by simp [Zwd])
 have s3 := hr (eLe (nt (rA 2) (ai 0) 1) (.int 4294967296)) (by simp [Zwd])
 have s4 := hr (eqS (tkI (iA 3) (nt (rA 2) (ai 0) 1)) (imX (ai 0) (nt (rA 2) (ai 0) 1))) (by simp [Zwd])
 simp only [eLe, eLt, eqS, SX.mk2, Zj, Z1, tkI, imX, usN, nt, SX.den, ai, rA, iA, hu, hK.u680, Zt, Z9, ZC, U.tIi, U.tNi, U.tRi, p46, p47, ZIy, ZeP, Yf, ZsQ, ZbK, U.ints.injEq] at r0 r1 r2 s1 s2 s3 s4
 have e40 : ((SX.mk2 40 (ai 0) (.int 1)).den T ρ).tI = (ρ 0).tI + 1 := by rw [SX.mk2_den]; rfl
 simp only [Zz, ZT, ZjU, nt, SX.den, ai, rA, iA, Zt, Z9, ZC, U.tIi, U.tNi, U.tRi, Yo, Yn, Ym, U.tNi, ZbK, Zsy] at hpre
 simp only [Zz, Zam, ZT, ZjU, z0, SX.den, ai, rA, Zt, ZC, U.tIi, U.tRi, Yo, Yn, Ym, U.tNi, Zdk, ZNV, List.drop_zero] at e40 ⊢
 rw [e40]
 have hi : (ρ 0).tI.toNat < ((ρ 2).tR.take (ρ 1).tI.toNat).length := by rw [ZN0]; omega
 rw [Zj7 hi, show (0 : Int) + ((ρ 0).tI.toNat : Nat) = (ρ 0).tI by omega, ZaZ (by omega)]
 obtain ⟨a, b, d, rfl, ha, hb⟩ := hpre
 refine ⟨a, b, d, rfl, Zv (fun h hh => ZdL (fun q _ hq _ => ?_) hh) (fun h hh => ZdL (fun q hq _ _ => by omega) hh) a ha, (ρ 3).tN, ⟨s1, s2, s3, fun _ => s4⟩, hb⟩
 rw [ZN0] at hq; omega
theorem ZMr (S : Sig GG) (hK : IbSig S) : Zbm S ZLR := by
 refine Yp S fun T w0 ρ h hu hp hd hr hpre => ⟨ρ, Ext.refl _ _, ?_, by intro x hx; exact nomatch hx⟩
 have e1 : hpDen T ρ w0 ZLR.pre = Zc (T.prd 112 w0 ((Zz (Zam (ai 0) z0 (ai 1)) (rA 2)).den T ρ) (z0.den T ρ)) emp := rfl
 have e2 : hpDen T ρ w0 ZLR.post = Zc (T.prd 114 w0 ((Zz (ZT z0 z0) Zdu).den T ρ) ((rA 2).den T ρ)) (Zc (ZO T slT ((SX.int (-1)).den T ρ) (Zdu.den T ρ) (z0.den T ρ)) (Zc (T.prd 112 w0 ((Zz (Zam (ai 1) z0 (ai 1)) (rA 2)).den T ρ) (z0.den T ρ)) emp)) := rfl
 have r0 := hr (eLe (ai 1) (ai 0)) (by simp [ZLR])
 simp only [eLe, SX.mk2, SX.den, ai, Zt, U.tIi, p47] at r0
 rw [e1, Zf, hp, hK.p112] at hpre
 rw [e2, Zf, hp, hK.p114, hK.p112]
 simp only [Zz, Zam, ZT, ZjU, z0, SX.den, ai, rA, Zt, ZC, U.tIi, U.tRi, Yo, Yn, Ym, U.tNi, Zdk, ZNV, List.drop_zero] at hpre
 simp only [Zz, Zam, ZT, ZjU, Zdu, z0, SX.den, ai, rA, Zt, ZC, Yo, Yn, Ym, ZnF, U.tNi, U.tIi, U.tRi, ZfG, Zdk, ZNV, List.drop_zero]
 rw [ZGe, emp_star, ZF]
 exact ⟨h, Hl.none, Hl.disj_none _, (Hl.un_none _).symm, ZdL (fun q a b c => by omega) hpre, [], ⟨trivial, trivial⟩, rfl⟩
theorem ZNm (S : Sig GG) (hK : IbSig S) : Zbm S Zwt := by
 refine Yp S fun T w0 ρ h hu hp hd hr hpre => ⟨ρ, Ext.refl _ _, ?_⟩
 have e1 : hpDen T ρ w0 Zwt.pre = Zc (T.prd 114 w0 ((Zz (ZT (ai 0) (ai 2)) (rA 1)).den T ρ) ((rA 4).den T ρ)) (Zc (T.prd 112 w0 ((Zz (Zam (ai 3) (ai 2) (ai 3)) (rA 4)).den T ρ) (z0.den T ρ)) emp) := rfl
 have e2 : hpDen T ρ w0 Zwt.post = Zc (T.prd 115 w0 ((Zz (Zdp (ai 0) (ai 5) (ai 6) (ai 2) (SX.mk2 40 (ai 2) (.int 1))) (rA 1)).den T ρ) ((rA 4).den T ρ)) (Zc (ZO T iE ((ai 5).den T ρ) ((imX (ai 2) (ai 6)).den T ρ) ((ai 7).den T ρ)) (Zc (T.prd 112 w0 ((Zz (Zam (ai 3) (SX.mk2 40 (ai 2) (.int 1)) (ai 3)) (rA 4)).den T ρ) (z0.den T ρ)) emp)) := rfl
 rw [e1, Zf, hp, hK.p114, hK.p112] at hpre
 rw [e2, Zf, hp, hK.p115, hK.p112]
 have r0 := hr (eLe (.int 0) (ai 2)) (by simp [Zwt])
 have r1 := hr (eLt (ai 2) (ai 3)) (by simp [Zwt])
 have r2 := hr (eLe (ai 3) (Zj (rA 4))) (by simp [Zwt])
 have r3 := hr (.f2 45 (ai 5) (nt (rA 4) (ai 2) 0)) (by simp [Zwt])
 have r4 := hr (.f2 45 (ai 6) (nt (rA 4) (ai 2) 1)) (by simp [Zwt])
 have r5 := hr (.f2 45 (ai 7) (nt (rA 4) (ai 2) 2)) (by simp [Zwt])
 simp only [eLe, eLt, SX.mk2, Zj, nt, SX.den, ai, rA, Zt, ZC, U.tIi, U.tRi, p45, p46, p47, Yf, ZbK] at r0 r1 r2 r3 r4 r5
 have e40 : ((SX.mk2 40 (ai 2) (.int 1)).den T ρ).tI = (ρ 2).tI + 1 := by rw [SX.mk2_den]; rfl
 simp only [Zz, Zam, ZT, ZjU, z0, SX.den, ai, rA, Zt, ZC, U.tIi, U.tRi, Yo, Yn, Ym, U.tNi, ZfG, Zdk] at hpre
 simp only [Zz, Zdp, Zdd, Zam, ZT, imX, usN, hu, hK.u680, ZjU, z0, SX.den, ai, rA, Zt, Z9, ZC, U.tIi, U.tNi, U.tRi, Yo, Yn, Ym, U.tNi, ZfO, Zdk] at e40 ⊢
 rw [e40]
 have hi : (ρ 2).tI.toNat < ((ρ 4).tR.take (ρ 3).tI.toNat).length := by rw [ZN0]; omega
 have hsp : ((ρ 4).tR.take (ρ 3).tI.toNat).drop (ρ 2).tI.toNat = (ρ 4).tR.getD (ρ 2).tI.toNat [] :: ((ρ 4).tR.take (ρ 3).tI.toNat).drop ((ρ 2).tI + 1).toNat := by
  rw [List.drop_eq_getElem_cons hi, show ((ρ 2).tI + 1).toNat = (ρ 2).tI.toNat + 1 by omega]
  congr 1
  have : ((ρ 4).tR.take (ρ 3).tI.toNat).getD (ρ 2).tI.toNat [] = (ρ 4).tR.getD (ρ 2).tI.toNat [] := ZaZ (by omega)
  rw [<- this, ZNY, ZN1 hi]; rfl
 have hst : (ρ 4).tR.take ((ρ 2).tI + 1).toNat = (ρ 4).tR.take (ρ 2).tI.toNat ++ [(ρ 4).tR.getD (ρ 2).tI.toNat []] := by
  rw [show ((ρ 2).tI + 1).toNat = (ρ 2).tI.toNat + 1 by omega, List.take_add_one, ZNY, ZN1 (by omega)]; rfl
 rw [hsp] at hpre
 rw [hst]
 obtain ⟨a, b, d, rfl, ⟨p, ⟨hg, hl⟩, ha⟩, b1, b2, d2, rfl, ⟨x, ⟨q1, q2, q3, q4⟩, hb1⟩, hb2⟩ := hpre
 have r3 : (ρ 5).tI = g0 ((ρ 4).tR.getD (ρ 2).tI.toNat []) := r3
 have r4 : (ρ 6).tI = g1 ((ρ 4).tR.getD (ρ 2).tI.toNat []) := r4
 have r5 : (ρ 7).tI = g2 ((ρ 4).tR.getD (ρ 2).tI.toNat []) := r5
 have hlen : ((ρ 4).tR.take (ρ 2).tI.toNat).length = (ρ 2).tI.toNat := by rw [ZN0]; omega
 have hnew := ZfE (f := fL) (p := okC (ρ 5).tI (ρ 2).tI (ρ 6).tI p) (r := (ρ 4).tR.getD (ρ 2).tI.toNat []) (Z2 (fun _ _ _ h => .inr h) hl) q1 (by omega) (.inl ⟨r3.symm, by rw [hlen]; unfold fL; omega, by omega⟩)
 rw [<- r4] at q1 q2 q3 q4
 rw [<- r3, <- r5] at hb1
 have hc : (x.length : Int) <= (ρ 7).tI := ZEf hb1
 refine ⟨⟨a, _, d, rfl, ⟨p, ⟨Z2 (fun _ _ _ h => .inr h) hg, hnew⟩, ha⟩, b1, b2, d2, rfl, ?_, hb2⟩, ?_⟩
 ·have := ZCT (ρ 6).tI.toNat hb1
  rw [q4 r1] at this
  exact this
 ·intro q hq
  simp only [Zwt, List.mem_cons, List.not_mem_nil, or_false] at hq
  rcases hq with rfl | rfl | rfl
  all_goals simp only [eLe, SX.mk2, SX.den, ai, Zt, U.tIi, p47]
  all_goals omega
theorem ZJH (S : Sig GG) (hK : IbSig S) : Zbm S ZJy := by
 refine Yp S fun T w0 ρ h hu hp hd hr hpre => ⟨ρ, Ext.refl _ _, ?_, by intro x hx; exact nomatch hx⟩
 have e1 : hpDen T ρ w0 ZJy.pre = Zc (T.prd 115 w0 ((Zz (Zdp (ai 0) (ai 1) (ai 2) (ai 3) (ai 4)) (rA 5)).den T ρ) ((rA 6).den T ρ)) (Zc (ZO T iE ((ai 1).den T ρ) ((iA 9).den T ρ) ((ai 8).den T ρ)) emp) := rfl
 have e2 : hpDen T ρ w0 ZJy.post = Zc (T.prd 115 w0 ((Zz (Zdp (ai 0) (ai 1) (ai 7) (ai 3) (ai 4)) (rA 5)).den T ρ) ((rA 6).den T ρ)) (Zc (ZO T iE ((ai 1).den T ρ) ((imX (ai 3) (ai 7)).den T ρ) ((ai 8).den T ρ)) emp) := rfl
 rw [e1, Zf, hp, hK.p115] at hpre
 rw [e2, Zf, hp, hK.p115]
 have r0 := hr (.f2 45 (ai 7) (.f2 40 (ai 2) (.int 1))) (by simp [ZJy])
 have r1 := hr (eqS (iA 9) (imX (ai 3) (ai 7))) (by simp [ZJy])
 simp only [eqS, imX, usN, SX.den, ai, iA, Zt, Z9, hu, hK.u680, U.tIi, U.tNi, p45, ZIy, Zwb, U.ints.injEq] at r0 r1
 simp only [Zz, Zdp, Zdd, Zam, ZT, imX, usN, hu, hK.u680, ZjU, SX.den, ai, rA, iA, Zt, Z9, ZC, U.tIi, U.tNi, U.tRi, Yo, Yn, Ym, U.tNi, ZfO] at hpre ⊢
 rw [r1] at hpre
 obtain ⟨a, b, d, rfl, ⟨p, ⟨h1, h2⟩, ha⟩, hb⟩ := hpre
 have hm : ∀ b v n, okC (ρ 1).tI (ρ 3).tI (ρ 2).tI p b v n -> okC (ρ 1).tI (ρ 3).tI (ρ 7).tI p b v n := fun b v n h => h.elim (fun h => .inl ⟨h.1, h.2.1, by omega⟩) .inr
 exact ⟨a, b, d, rfl, ⟨p, ⟨Z2 hm h1, Z2 hm h2⟩, ha⟩, hb⟩
theorem ZKD (S : Sig GG) (hK : IbSig S) : Zbm S ZJD := by
 refine Yp S fun T w0 ρ h hu hp hd hr hpre => ⟨ρ, Ext.refl _ _, ?_, by intro x hx; exact nomatch hx⟩
 have e1 : hpDen T ρ w0 ZJD.pre = Zc (T.prd 115 w0 ((Zz (Zdp (ai 0) (ai 1) (ai 2) (ai 3) (ai 4)) (rA 5)).den T ρ) ((rA 6).den T ρ)) (Zc (ZO T iE ((ai 1).den T ρ) ((iA 9).den T ρ) ((ai 11).den T ρ)) (Zc (ZO T iE ((ai 10).den T ρ) ((iA 12).den T ρ) ((ai 8).den T ρ)) emp)) := rfl
 have e2 : hpDen T ρ w0 ZJD.post = Zc (T.prd 115 w0 ((Zz (Zdp (ai 0) (ai 10) (ai 7) (ai 3) (ai 4)) (rA 5)).den T ρ) ((rA 6).den T ρ)) (Zc (ZO T iE ((ai 10).den T ρ) ((imX (ai 3) (ai 7)).den T ρ) ((ai 8).den T ρ)) emp) := rfl
 rw [e1, Zf, <- star_assoc, hp, hK.p115] at hpre
 rw [e2, Zf, hp, hK.p115]
 have r1 := hr (eqS (iA 9) (imX (ai 3) (ai 2))) (by simp [ZJD])
 have r2 := hr (eqS (iA 12) (imX (ai 3) (ai 7))) (by simp [ZJD])
 simp only [eqS, imX, usN, SX.den, ai, iA, Zt, Z9, hu, hK.u680, U.tIi, U.tNi, ZIy, U.ints.injEq] at r1 r2
 simp only [Zz, Zdp, Zdd, Zam, ZT, imX, usN, hu, hK.u680, ZjU, SX.den, ai, rA, iA, Zt, Z9, ZC, U.tIi, U.tNi, U.tRi, Yo, Yn, Ym, U.tNi, ZfO] at hpre ⊢
 rw [r1, r2] at hpre
 obtain ⟨a, b, d, rfl, ⟨a1, a2, d1, rfl, ⟨p, ⟨h1, h2⟩, ha1⟩, ha2⟩, hb⟩ := hpre
 have hm : ∀ b v n, okC (ρ 1).tI (ρ 3).tI (ρ 2).tI p b v n -> okC (ρ 10).tI (ρ 3).tI (ρ 7).tI (((ρ 1).tI, (ρ 3).tI, (ρ 2).tI, (ρ 11).tI) :: p) b v n := fun b v n h => by
  rcases h with ⟨rfl, rfl, h⟩ | ⟨l, c, h, h'⟩
  ·exact .inr ⟨_, _, ZN6, h⟩
  ·exact .inr ⟨_, _, ZN4 _ h, h'⟩
 refine ⟨_, b, d, rfl, ⟨((ρ 1).tI, (ρ 3).tI, (ρ 2).tI, (ρ 11).tI) :: p, ⟨Z2 hm h1, Z2 hm h2⟩, ?_⟩, hb⟩
 show Zc (iAD _ _ _) (Zcf p) _
 rw [ZF]
 exact ⟨a1, a2, d1, rfl, ha1, ha2⟩
theorem ZMg (S : Sig GG) (hK : IbSig S) : Zbm S ZC5 := by
 refine Yp S fun T w0 ρ h hu hp hd hr hpre => ⟨ρ, Ext.refl _ _, ?_, by intro x hx; exact nomatch hx⟩
 have e1 : hpDen T ρ w0 ZC5.pre = Zc (T.prd 115 w0 ((Zz (Zdp (ai 0) (ai 1) (ai 2) (ai 3) (ai 4)) (rA 5)).den T ρ) ((rA 6).den T ρ)) emp := rfl
 have e2 : hpDen T ρ w0 ZC5.post = Zc (T.prd 115 w0 ((Zz (Zdp (SX.mk2 40 (ai 0) (.int 1)) (ai 1) (ai 2) (ai 3) (ai 4)) (.f2 121 (tk (rA 5) (ai 0)) (.f2 124 (row3 (ai 1) (ai 2) (ai 7)) Zdu))).den T ρ) ((rA 6).den T ρ)) emp := rfl
 rw [e1, Zf, hp, hK.p115] at hpre
 rw [e2, Zf, hp, hK.p115]
 have r0 := hr (eLe (.int 0) (ai 0)) (by simp [ZC5])
 have r1 := hr (eLe (ai 0) (Zj (rA 5))) (by simp [ZC5])
 have r2 := hr (eLe (.int 0) (ai 2)) (by simp [ZC5])
 have r3 := hr (eLe (ai 2) (.int 4294967400)) (by simp [ZC5])
 have r4 := hr (.f2 45 (ai 3) (.f2 43 (ai 0) (.int 8))) (by simp [ZC5])
 simp only [eLe, SX.mk2, Zj, SX.den, ai, rA, Zt, ZC, U.tIi, U.tRi, p45, p47, Yf, Zu9] at r0 r1 r2 r3 r4
 have e40 : ((SX.mk2 40 (ai 0) (.int 1)).den T ρ).tI = (ρ 0).tI + 1 := by rw [SX.mk2_den]; rfl
 simp only [Zz, Zdp, Zdd, Zam, ZT, row3, tk, ZjU, Zdu, SX.den, ai, rA, Zt, ZC, U.tIi, U.tRi, Zva, Ztl, Yo, Yn, Ym, ZnF, U.tNi, ZfO] at e40 hpre ⊢
 rw [e40]
 obtain ⟨p, ⟨h1, h2⟩, ha⟩ := hpre
 have hl : ((ρ 5).tR.take (ρ 0).tI.toNat).length = (ρ 0).tI.toNat := by rw [ZN0]; omega
 refine ⟨p, ⟨?_, h2⟩, ha⟩
 rw [ZOa (by rw [ZN3, hl]; show _ + 1 <= _; omega)]
 refine ZfE h1 r2 r3 ?_
 rw [hl, show (0 : Int) + ((ρ 0).tI.toNat : Nat) = (ρ 0).tI by omega]
 exact .inl ⟨rfl, r4.symm, ZN9 _⟩
theorem ZME (S : Sig GG) (hK : IbSig S) : Zbm S ZKz := by
 refine Yp S fun T w0 ρ h hu hp hd hr hpre => ⟨ρ, Ext.refl _ _, ?_, by intro x hx; exact nomatch hx⟩
 have e1 : hpDen T ρ w0 ZKz.pre = Zc (T.prd 115 w0 ((Zz (Zdp (ai 0) (ai 1) (ai 2) (ai 3) (ai 4)) (rA 5)).den T ρ) ((rA 6).den T ρ)) (Zc (ZO T iE ((ai 1).den T ρ) ((iA 8).den T ρ) ((ai 7).den T ρ)) emp) := rfl
 have e2 : hpDen T ρ w0 ZKz.post = Zc (T.prd 114 w0 ((Zz (ZT (ai 0) (ai 4)) (rA 5)).den T ρ) ((rA 6).den T ρ)) emp := rfl
 rw [e1, Zf, hp, hK.p115] at hpre
 rw [e2, Zf, hp, hK.p114]
 have r1 := hr (eqS (iA 8) (imX (ai 3) (ai 2))) (by simp [ZKz])
 simp only [eqS, imX, usN, SX.den, ai, iA, Zt, Z9, hu, hK.u680, U.tIi, U.tNi, ZIy, U.ints.injEq] at r1
 simp only [Zz, Zdp, Zdd, Zam, ZT, ZjU, SX.den, ai, rA, iA, Zt, Z9, ZC, U.tIi, U.tNi, U.tRi, Yo, Yn, Ym, U.tNi, ZfO, ZfG] at hpre ⊢
 rw [r1] at hpre
 obtain ⟨a, b, d, rfl, ⟨p, ⟨h1, h2⟩, ha⟩, hb⟩ := hpre
 have hm : ∀ b v n, okC (ρ 1).tI (ρ 3).tI (ρ 2).tI p b v n -> InG (((ρ 1).tI, (ρ 3).tI, (ρ 2).tI, (ρ 7).tI) :: p) b v n := fun b v n h => by
  rcases h with ⟨rfl, rfl, h⟩ | ⟨l, c, h, h'⟩
  ·exact ⟨_, _, ZN6, h⟩
  ·exact ⟨_, _, ZN4 _ h, h'⟩
 refine ⟨((ρ 1).tI, (ρ 3).tI, (ρ 2).tI, (ρ 7).tI) :: p, ⟨Z2 hm h1, Z2 hm h2⟩, ?_⟩
 show Zc (iAD _ _ _) (Zcf p) _
 rw [ZF]
 exact ⟨a, b, d, rfl, ha, hb⟩
theorem ZEI (S : Sig GG) (hK : IbSig S) : Zbm S ZEi := by
 refine Yp S fun T w0 ρ h hu hp hd hr hpre => ?_
 have e1 : hpDen T ρ w0 ZEi.pre = Zc (T.prd 114 w0 ((Zz (ZT (ai 0) (ai 1)) (rA 2)).den T ρ) ((rA 3).den T ρ)) emp := rfl
 have e2 : ∀ ρ', hpDen T ρ' w0 ZEi.post = Zc (T.prd 116 w0 ((Zz (Zca (ai 0) (ai 1) (nt (rA 2) (ai 4) 0) (.f2 43 (ai 4) (.int 8)) (ai 5) (ai 6)) (rA 2)).den T ρ') ((rA 3).den T ρ')) (Zc (ZO T iE ((nt (rA 2) (ai 4) 0).den T ρ') ((imX (.f2 43 (ai 4) (.int 8)) (ai 5)).den T ρ') ((ai 6).den T ρ')) emp) := fun _ => rfl
 rw [e1, Zf, hp, hK.p114] at hpre
 have r0 := hr (eLe (.int 0) (ai 4)) (by simp [ZEi])
 have r1 := hr (eLt (ai 4) (ai 0)) (by simp [ZEi])
 have r2 := hr (eLe (ai 0) (Zj (rA 2))) (by simp [ZEi])
 simp only [eLe, eLt, SX.mk2, Zj, SX.den, ai, rA, Zt, ZC, U.tIi, U.tRi, p46, p47, Yf] at r0 r1 r2
 simp only [Zz, ZT, ZjU, SX.den, ai, rA, Zt, ZC, U.tIi, U.tRi, Yo, Yn, Ym, U.tNi, ZfG] at hpre
 obtain ⟨p, ⟨hg, hl⟩, hpool⟩ := hpre
 have hat := ZoW (i := (ρ 4).tI.toNat) hg (by rw [ZN0]; omega)
 rw [ZaZ (by omega), show (0 : Int) + ((ρ 4).tI.toNat : Nat) = (ρ 4).tI by omega] at hat
 obtain ⟨q1, q2, l, c, hmem, hnl⟩ := hat
 obtain ⟨q, hiff, hpf⟩ := Zon hmem
 obtain ⟨a, b, d, rfl, ha, hb⟩ := hpf _ hpool
 refine ⟨(ρ.upd 5 (.int l)).upd 6 (.int c), ?_, ?_, ?_⟩
 ·intro i hi
  have : i < 5 := hi
  simp only [Env.upd]
  repeat rw [if_neg (by omega)]
 ·rw [e2, Zf, hp, hK.p116]
  simp only [Zz, Zca, Zdd, Zam, ZT, ZjU, nt, imX, usN, hu, hK.u680, SX.den, ai, rA, Zt, Z9, ZC, Env.upd, Nat.reduceEqDiff, reduceIte, U.tIi, U.tNi, U.tRi, Zu9, Yo, Yn, Ym, U.tNi, ZbK, ZtK]
  rw [ZF]
  exact ⟨a, b, d, rfl, ha, q, ⟨Z2 (ZoQ fun y => (hiff y).1) hg, Z2 (ZoQ fun y => (hiff y).1) hl⟩, hb⟩
 ·intro e he
  simp only [ZEi, List.mem_cons, List.not_mem_nil, or_false] at he
  rcases he with rfl | rfl | rfl
  all_goals simp only [eLe, SX.mk2, nt, SX.den, ai, rA, Zt, ZC, Env.upd, Nat.reduceEqDiff, reduceIte, U.tIi, U.tRi, p47, ZbK]
  ·exact q1
  ·exact hnl
  ·exact q2
theorem ZHz (S : Sig GG) (hK : IbSig S) : Zbm S ZMd := by
 refine Yp S fun T w0 ρ h hu hp hd hr hpre => ⟨ρ, Ext.refl _ _, ?_, by intro x hx; exact nomatch hx⟩
 have e1 : hpDen T ρ w0 ZMd.pre = Zc (T.prd 116 w0 ((Zz (Zca (ai 0) (ai 1) (ai 2) (ai 3) (ai 4) (ai 5)) (rA 6)).den T ρ) ((rA 7).den T ρ)) (Zc (ZO T iE ((ai 2).den T ρ) ((iA 8).den T ρ) ((ai 5).den T ρ)) emp) := rfl
 have e2 : hpDen T ρ w0 ZMd.post = Zc (T.prd 114 w0 ((Zz (ZT (ai 0) (ai 1)) (rA 6)).den T ρ) ((rA 7).den T ρ)) emp := rfl
 rw [e1, Zf, hp, hK.p116] at hpre
 rw [e2, Zf, hp, hK.p114]
 have r1 := hr (eqS (iA 8) (imX (ai 3) (ai 4))) (by simp [ZMd])
 simp only [eqS, imX, usN, SX.den, ai, iA, Zt, Z9, hu, hK.u680, U.tIi, U.tNi, ZIy, U.ints.injEq] at r1
 simp only [Zz, Zca, Zdd, Zam, ZT, ZjU, SX.den, ai, rA, iA, Zt, Z9, ZC, U.tIi, U.tNi, U.tRi, Yo, Yn, Ym, U.tNi, ZtK, ZfG] at hpre ⊢
 rw [r1] at hpre
 obtain ⟨a, b, d, rfl, ⟨p, hrows, ha⟩, hb⟩ := hpre
 refine ⟨_, hrows, ?_⟩
 show Zc (iAD _ _ _) (Zcf p) _
 rw [ZF]
 exact ⟨a, b, d, rfl, ha, hb⟩
def Zy7 : Ctr := ⟨[.int, .int, .int, .rows], [.one (sl1 (ai 0) (ai 1) (ai 2))], [slA (ai 0) (rA 3) (ai 2), c42 z0 z0 (ai 1) (rA 3)], [eLe z0 (ai 1), eLe (ai 1) (Zj (rA 3)), eLe (ai 1) (ai 2), eLe (ai 1) (.int 1073741824)], [], .one (.bool (.bool true)), [], []⟩
def ntsI1 : Inv := ⟨[.int], [(3, .one (.int .i64 (di 0)))], [c42 (di 0) z0 (ai 1) (rA 3)], [eLe z0 (di 0), eLe (di 0) (ai 1)], .f2 41 (ai 1) (di 0)⟩
def ntsI2 : Inv := ⟨[.int, .ints], [(4, .one (.int .i64 (di 0)))], [iAr (nt (rA 3) (ai 4) 0) (iA 1000001) (nt (rA 3) (ai 4) 2)],
 [eLe z0 (di 0), eLe (di 0) (nt (rA 3) (ai 4) 1), .f2 45 (Z1 (iA 1000001)) (Z1 (iA 5)), eqS (tkI (iA 1000001) (di 0)) (imX (ai 4) (di 0))], .f2 41 (nt (rA 3) (ai 4) 1) (di 0)⟩
def ntsI3 : Inv := ⟨[.int, .int, .int, .int, .rows], [(6, .one (.int .i64 (di 0))), (5, .one (sl1 (di 1) (di 2) (di 3)))], [slA (di 1) (rA 1000004) (di 3), c46 (di 2) (di 0) (rA 1000004) (rA 3), c42 (ai 1) (di 0) (ai 1) (rA 3)],
 [eLe z0 (di 0), eLe (di 0) (ai 1), .f2 45 (di 2) (.f2 42 (.int 8) (di 0)), eLe (di 2) (Zj (rA 1000004))], .f2 41 (ai 1) (di 0)⟩
def ntsI4 : Inv := ⟨[.int, .int, .int, .int, .int, .int, .int, .rows], [(8, .one (.int .i64 (di 0))), (7, .one (sl1 (di 1) (di 2) (di 3))), (5, .one (sl1 (di 4) (di 5) (di 6)))],
 [slA (di 4) (rA 1000007) (di 6), c47 (di 5) (di 1) (di 2) (ai 5) (SX.mk2 40 (ai 5) (.int 1)) (rA 1000007) (rA 3), iAr (di 1) (imX (ai 5) (di 2)) (di 3)],
 [eLe z0 (di 0), eLe (di 0) (.int 8), .f2 45 (di 2) (.f2 40 (nt (rA 3) (ai 5) 1) (di 0)), .f2 45 (di 5) (.f2 40 (ai 7) (di 0)), eLe (di 5) (Zj (rA 1000007)), eLe (di 2) (di 3)], .f2 41 (.int 8) (di 0)⟩
def ntsI5 : Inv := ⟨[.int], [(9, .one (.int .i64 (di 0)))], [], [eLe z0 (di 0), eLe (di 0) (ai 7)], .f2 41 (ai 7) (di 0)⟩
def ntsI6 : Inv := ⟨[.int], [(10, .one (.int .i64 (di 0)))], [], [eLe z0 (di 0), eLe (di 0) (nt (rA 9) (ai 10) 1)], .f2 41 (nt (rA 9) (ai 10) 1) (di 0)⟩
def ZvA : SX := eLe (SX.mk2 40 (ai 12) (.int 1)) (ai 13)
def ZKB : Cx := { specs := [], anns := [(20, [(2, .inv ntsI1), (4, .ghost ZEo [.tmp 3]), (5, .inv ntsI2), (3, .ghost Zwd []),
 (8, .ghost ZLR []), (10, .inv ntsI3), (13, .ghost Zwt [.tmp 6, .tmp 7]), (14, .inv ntsI4), (16, .split ZvA), (17, .iff ZvA), (17, .ghost ZJy [.tmp 7]), (17, .iff (ZcH ZvA)), (17, .ghost ZJD [.tmp 7]),
 (15, .ghost ZC5 [.tmp 7]), (11, .ghost ZKz []), (19, .inv ntsI5), (21, .ghost ZEi [.tmp 9]), (22, .inv ntsI6), (20, .ghost ZMd [])])] }
def Zvf : Ctr := ⟨[.int, .int, .int, .ints, .int, .int, .int, .ints, .int], [.one (sl1 (ai 0) (ai 1) (ai 2)), .one (sl1 (ai 4) (ai 5) (ai 6))], [iAr (ai 0) (iA 3) (ai 2), iAr (ai 4) (iA 7) (ai 8)],
 [.f2 45 (ai 1) (Z1 (iA 3)), .f2 45 (ai 5) (Z1 (iA 7)), eqS (iA 3) (iA 7), eLe (ai 1) (.int 1048576)], [], .one (.bool (.bool true)), [iAr (ai 0) (iA 3) (ai 2), iAr (ai 4) (iA 7) (ai 8)], []⟩
def smiI : Inv := ⟨[.int], [(5, .one (.int .i64 (di 0)))], [], [eLe z0 (di 0), eLe (di 0) (ai 1)], .f2 41 (ai 1) (di 0)⟩
def ZLA : Cx := { specs := [], anns := [(19, [(4, .inv smiI)])] }
def ZDH : Ctr := ⟨[.int, .ints, .int, .int, .ints, .int, .int, .ints, .int, .int, .ints, .int], [.one (sl1 (ai 0) (Z1 (iA 1)) (ai 2)), .one (sl1 (ai 3) (Z1 (iA 4)) (ai 5)), .one (sl1 (ai 6) (Z1 (iA 7)) (ai 8)), .one (sl1 (ai 9) (Z1 (iA 10)) (ai 11))],
 [iAr (ai 0) (iA 1) (ai 2), iAr (ai 3) (iA 4) (ai 5), iAr (ai 6) (iA 7) (ai 8), iAr (ai 9) (iA 10) (ai 11)], [eLe (Z1 (iA 1)) (.int 4294967296), eLe (Z1 (iA 4)) (.int 4294967296), eLe (Z1 (iA 7)) (.int 4294967296), eLe (Z1 (iA 10)) (.int 4294967296)], [], .tup [],
 [c42 z0 z0 (.int 4) (Zz (Zam (ai 0) (Z1 (iA 1)) (ai 2)) (Zz (Zam (ai 3) (Z1 (iA 4)) (ai 5)) (Zz (Zam (ai 6) (Z1 (iA 7)) (ai 8)) (Zz (Zam (ai 9) (Z1 (iA 10)) (ai 11)) Zdu))))], []⟩
theorem ZKZ (S : Sig GG) (hK : IbSig S) : Zbm S ZDH := by
 refine Yp S fun T w0 ρ h hu hp hd hr hpre => ⟨ρ, Ext.refl _ _, ?_, by intro x hx; exact nomatch hx⟩
 have e1 : hpDen T ρ w0 ZDH.pre = Zc (iAD (ρ 0).tI (ρ 1).tN (ρ 2).tI) (Zc (iAD (ρ 3).tI (ρ 4).tN (ρ 5).tI) (Zc (iAD (ρ 6).tI (ρ 7).tN (ρ 8).tI) (Zc (iAD (ρ 9).tI (ρ 10).tN (ρ 11).tI) emp))) := rfl
 have e2 : hpDen T ρ w0 ZDH.post = Zc (T.prd 112 w0 (.rows [[0, 0, 4], [(ρ 0).tI, ((ρ 1).tN.length : Nat), (ρ 2).tI], [(ρ 3).tI, ((ρ 4).tN.length : Nat), (ρ 5).tI], [(ρ 6).tI, ((ρ 7).tN.length : Nat), (ρ 8).tI], [(ρ 9).tI, ((ρ 10).tN.length : Nat), (ρ 11).tI]]) (z0.den T ρ)) emp := rfl
 have r0 := hr (eLe (Z1 (iA 1)) (.int 4294967296)) (by simp [ZDH])
 have r1 := hr (eLe (Z1 (iA 4)) (.int 4294967296)) (by simp [ZDH])
 have r2 := hr (eLe (Z1 (iA 7)) (.int 4294967296)) (by simp [ZDH])
 have r3 := hr (eLe (Z1 (iA 10)) (.int 4294967296)) (by simp [ZDH])
 simp only [eLe, SX.mk2, Z1, SX.den, iA, Z9, U.tIi, U.tNi, p47, ZeP] at r0 r1 r2 r3
 rw [e1] at hpre
 rw [e2, Zf, hp, hK.p112, U.tRi, Zdk]
 refine Zv ?_ (fun h hh => Zv ?_ (fun h hh => Zv ?_ (fun h hh => Zv ?_ (fun h hh => hh) h hh) h hh) h hh) h hpre
 ·exact fun h hh => ⟨_, ⟨Int.natCast_nonneg _, ZN9 _, r0, fun q => absurd q (by decide)⟩, hh⟩
 ·exact fun h hh => ⟨_, ⟨Int.natCast_nonneg _, ZN9 _, r1, fun q => absurd q (by decide)⟩, hh⟩
 ·exact fun h hh => ⟨_, ⟨Int.natCast_nonneg _, ZN9 _, r2, fun q => absurd q (by decide)⟩, hh⟩
 ·exact fun h hh => ⟨_, ⟨Int.natCast_nonneg _, ZN9 _, r3, fun q => absurd q (by decide)⟩, hh⟩
theorem ZiM {n k : Int} (h : 0 <= k) : mkL n (k + 1).toNat = mkL n k.toNat ++ [-1 - n] := by
 rw [show (k + 1).toNat = k.toNat + 1 by omega]; exact List.replicate_succ'
theorem ZDK {x : List Int} {v k : Int} (h : x.take k.toNat = mkL v k.toNat) (h0 : 0 <= k) (h1 : k < x.length) : (x.set k.toNat (-1 - v)).take (k + 1).toNat = mkL v (k + 1).toNat := by
 rw [ZiM h0, <- h, show (k + 1).toNat = k.toNat + 1 by omega, List.take_add_one, List.take_set_of_le (ZNO _), List.getElem?_set_self (by omega)]; rfl
theorem ZNs {v l : Int} (h0 : 0 <= l) : (mkL v l.toNat).take l.toNat ++ (-1 - v) :: (mkL v l.toNat).drop (l + 1).toNat = mkL v (l + 1).toNat := by
 rw [ZiM h0, List.drop_of_length_le (by rw [Zyn]; omega), ZoR v (ZNO _)]
theorem ZDO {v l : Int} (h0 : 0 <= l) : (mkL v l.toNat).take l.toNat ++ [-1 - v] = mkL v (l + 1).toNat := by
 rw [ZiM h0, ZoR v (ZNO _)]
theorem mk_to {x : List Int} {v n m : Int} (h : x.take n.toNat = mkL v n.toNat) (h1 : m <= n) (h2 : n <= m) : x.take m.toNat = mkL v m.toNat := by
 rw [show m = n by omega]; exact h
theorem mk_at {v m i : Int} (h0 : 0 <= i) (h1 : i < m) : (mkL v m.toNat).getD i.toNat 0 = -1 - v := by
 unfold mkL
 rw [ZNY, List.getElem?_replicate, if_pos (by omega)]; rfl
theorem tdiv8 {i m : Int} (h0 : 0 <= m) (h : 8 * i <= m) (h1 : m <= 8 * i + 7) : i = m.tdiv 8 := by
 rw [Int.tdiv_eq_ediv_of_nonneg h0]; omega
def Zep : SX := .f3 112 (r 3) (a 4) (k 1)
def ZGc : SX := .f2 41 (k (-1)) (a 4)
def ZmP : SX := .f2 40 (a 6) (k 1)
def ZI8 : SX := .f2 41 Zep ZmP
def ZyZ : SX := .f2 40 (a 4) (k 1)
def ZHv : SX := .f2 41 (a 1) ZyZ
def ZGz : SX := .f3 112 (r 3) (a 5) z
def Zk3 : SX := .f3 112 (r 3) (a 5) (k 1)
def ZBJ : SX := .f3 112 (r 3) (a 5) (k 2)
def ZEB : SX := l z (a 10)
def Zb7 : SX := .f2 40 (a 12) (k 1)
def ZpY : SX := .f2 41 (k (-1)) (a 5)
def Zvu : SX := .f1 23 ZpY
def Zw4 : SX := l z (a 18)
def ZAn : SX := l z (a 12)
def Ziu : SX := wN 680 (a 5) (a 12)
def Zvc : SX := l (a 12) (.f1 30 Ziu)
def Zxu : SX := e Zb7 Zb7
def ZxH : SX := .f2 113 Ziu (a 12)
def ZAB : SX := wN 680 (a 5) Zb7
def Zwp : SX := l z (a 19)
def Zs0 : SX := l z (a 15)
def Zf4 : SX := .f2 40 (a 15) (k 1)
def ZtZ : SX := l (.f2 42 Zf4 (k 24)) k1
def ZwA : SX := e Zf4 z
def Zub : SX := l z Zb7
def ZwX : SX := l Zb7 k3
def ZuE : SX := e (a 5) (.f2 43 (a 15) (k 8))
def ZdO : SX := .f2 40 (a 10) (k 1)
def Zrb : SX := .f1 23 ZdO
def ZuV : SX := .f2 41 (k 8) ZdO
def Zu2 : SX := l z ZuV
def Ztm : SX := t ZuV (.f2 41 (k 8) (a 10))
def Zp1 : SX := l z ZdO
def Zzv : SX := l ZdO (k 8)
def ZsF : SX := e Zb7 (.f2 40 Zk3 ZdO)
def Zw3 : SX := e Zf4 (.f2 40 (a 7) ZdO)
def ZAI : SX := l Zf4 (.f2 40 (.f1 32 (.f2 115 (r 17) (a 15))) (k 1))
def ZuX : SX := .f2 155 Ziu Ziu
def ZhQ : SX := .f2 40 (a 5) (k 1)
def Ztf : SX := .f2 41 (a 1) ZhQ
def Zc4 : SX := .f3 112 (r 9) (a 10) (k 1)
def ZpN : SX := .f2 43 (a 10) (k 8)
def Zk4 : SX := wN 680 ZpN (a 11)
def Zx0 : SX := .f2 41 (k (-1)) ZpN
def ZtI : SX := e (.f2 110 Zk4 (a 13)) Zx0
def ZlW : SX := .f2 40 (a 13) (k 1)
def ZzC : SX := .f2 41 Zc4 ZlW
def Zwx : SX := .f2 41 (a 7) ZdO
def ZNl : VC := i (l z (a 1)) (i (l (a 1) (.f1 32 (r 3))) (i (l (a 1) (a 2)) (i (l (a 1) k4) (u 4 .int (i (l z (a 4)) (i (l (a 4) (a 1)) (.and (i (t (a 4) (a 1)) (u 5 .ints (i (l z Zep) (i (l Zep (.f1 30 (s 5))) (i (l Zep k2) (n (e (.f1 30 (s 5)) (.f1 30 (s 5))) (n (.f2 155 (.f2 113 (s 5) z) (o 680 (a 4))) (u 6 .int (u 7 .ints (i (l z (a 6)) (i (l (a 6) Zep) (i (e (.f1 30 (s 7)) (.f1 30 (s 5))) (i (.f2 155 (.f2 113 (s 7) (a 6)) (wN 680 (a 4) (a 6))) (n (t (a 4) (.f1 32 (r 3))) (.and (i (t (a 6) Zep) (n (.f1 23 ZGc) (n (t (a 6) (.f1 30 (s 7))) (n (.f1 23 ZmP) (n (l z ZI8) (n (t ZI8 (.f2 41 Zep (a 6))) (n (l z ZmP) (n (l ZmP Zep) (n (.f2 155 (.f2 113 (.f3 130 (s 7) (a 6) ZGc) ZmP) (wN 680 (a 4) ZmP)) .tt))))))))) (i (l Zep (a 6)) (n (l Zep (.f1 30 (s 7))) (n (.f2 155 (.f2 113 (s 7) Zep) (wN 680 (a 4) Zep)) (n (.f1 23 ZyZ) (n (l z ZHv) (n (t ZHv (.f2 41 (a 1) (a 4))) (n (l z ZyZ) (n (l ZyZ (a 1)) .tt))))))))))))))))))))))) (i (l (a 1) (a 4)) (u 5 .int (u 6 .int (u 7 .int (u 8 .int (u 9 .rows (i (l z (a 5)) (i (l (a 5) (a 1)) (i (e (a 7) (.f2 42 (k 8) (a 5))) (i (l (a 7) (.f1 32 (r 9))) (.and (i (t (a 5) (a 1)) (n (t (a 5) (.f1 32 (r 3))) (n (e ZGz ZGz) (n (e Zk3 Zk3) (n (e ZBJ ZBJ) (i (l z Zk3) (i (l Zk3 k2) (i (l Zk3 ZBJ) (n (e (a 7) (a 7)) (u 10 .int (u 11 .int (u 12 .int (u 13 .int (u 14 .int (u 15 .int (u 16 .int (u 17 .rows (i ZEB (i (l (a 10) (k 8)) (i (e (a 12) (.f2 40 Zk3 (a 10))) (i (e (a 15) (.f2 40 (a 7) (a 10))) (i (l (a 15) (.f1 32 (r 17))) (i (l (a 12) (a 13)) (.and (i (t (a 10) (k 8)) (.and (i (l Zb7 (a 13)) (n Zvu (u 18 .int (i Zw4 (n ZAn (n Zvc (n Zxu (n (.f2 155 (.f2 119 ZxH (.f2 122 ZpY (.f2 116 Ziu Zb7))) ZAB) (u 19 .int (i Zwp (n Zs0 (n ZtZ (u 20 .int (u 21 .int (i (l Zf4 (a 21)) (i (.f2 50 (l z (a 20)) ZwA) (n Zub (n ZwX (n ZuE (n Zrb (n Zu2 (n Ztm (n Zp1 (n Zzv (n ZsF (n Zw3 (n ZAI .tt))))))))))))))))))))))))))) (i (t (a 13) Zb7) (n Zvu (u 18 .int (i Zw4 (n (l (.f2 42 Zb7 (k 8)) k1) (n ZAn (n Zvc (u 19 .int (u 20 .int (i (l Zb7 (a 20)) (i Zwp (n Zxu (n ZuX (n (.f2 155 (.f2 119 ZxH (.f2 122 ZpY (.f1 152 z))) ZAB) (u 21 .int (i (l z (a 21)) (n Zs0 (n ZtZ (u 22 .int (u 23 .int (i (l Zf4 (a 23)) (i (.f2 50 (l z (a 22)) ZwA) (n Zub (n ZwX (n ZuE (n Zrb (n Zu2 (n Ztm (n Zp1 (n Zzv (n ZsF (n Zw3 (n ZAI .tt))))))))))))))))))))))))))))))))))) (i (l (k 8) (a 10)) (n ZuX (n (.f1 23 ZhQ) (n (l z Ztf) (n (t Ztf (.f2 41 (a 1) (a 5))) (n (l z ZhQ) (n (l ZhQ (a 1)) (n (e (a 15) (.f2 42 (k 8) ZhQ)) .tt)))))))))))))))))))))))))))))))) (i (l (a 1) (a 5)) (n (l z (a 7)) (u 10 .int (i ZEB (i (l (a 10) (a 7)) (.and (i (t (a 10) (a 7)) (u 11 .int (u 12 .int (i (l z Zc4) (i (l Zc4 (a 11)) (i (l Zc4 k3) (u 13 .int (i (l z (a 13)) (i (l (a 13) Zc4) (n (t (a 10) (.f1 32 (r 9))) (.and (i (t (a 13) Zc4) (n (t (a 13) (.f1 30 Zk4)) (n (.f1 23 ZpN) (n (.f1 23 Zx0) (.and (i (.f1 2 ZtI) (n (.f2 155 (.bool true) (.bool false)) .tt)) (i ZtI (n (.f1 23 ZlW) (n (l z ZzC) (n (t ZzC (.f2 41 Zc4 (a 13))) (n (l z ZlW) (n (l ZlW Zc4) .tt))))))))))) (i (l Zc4 (a 13)) (n (.f2 155 Zk4 Zk4) (n Zrb (n (l z Zwx) (n (t Zwx (.f2 41 (a 7) (a 10))) (n Zp1 (n (l ZdO (a 7)) .tt)))))))))))))))))) (i (l (a 7) (a 10)) .tt)))))))))))))))))))))))))
theorem ZLh : Yq Tryz.prog ZKB 12 20 Zy7 = ZNl := by kernel_rfl
def ZHS : SX := e (a 1) (a 5)
def ZED : SX := .f2 155 (.bool true) (.bool false)
def ZHa : SX := e (.f2 110 (s 3) (a 9)) (.f2 110 (s 7) (a 9))
def Zy9 : SX := .f2 40 (a 9) (k 1)
def ZIm : SX := .f2 41 (a 1) Zy9
def ZMo : VC := i (e (a 1) (.f1 30 (s 3))) (i (e (a 5) (.f1 30 (s 7))) (i (.f2 155 (s 3) (s 7)) (i (l (a 1) (k 1048576)) (n (l z (a 1)) (n (l z (a 5)) (.and (i (.f1 2 ZHS) (n ZED .tt)) (i ZHS (u 9 .int (i (l z (a 9)) (i (l (a 9) (a 1)) (.and (i (t (a 9) (a 1)) (n (t (a 9) (.f1 30 (s 3))) (n (t (a 9) (a 5)) (n (t (a 9) (.f1 30 (s 7))) (.and (i (.f1 2 ZHa) (n ZED .tt)) (i ZHa (n (.f1 23 Zy9) (n (l z ZIm) (n (t ZIm (.f2 41 (a 1) (a 9))) (n (l z Zy9) (n (l Zy9 (a 1)) .tt))))))))))) (i (l (a 1) (a 9)) .tt))))))))))))
theorem ZNI : Yq Tryz.prog ZLA 12 19 Zvf = ZMo := by kernel_rfl
theorem ZKP (S : Sig GG) (hS : IbSig S) : Zy S Tryz.prog 19 Zvf := by
 refine Ze S (C := ZLA) (fuel := 12) (ZQ trivial ⟨⟨trivial, trivial⟩, trivial⟩ trivial) fun ρ => ?_
 rw [ZNI]
 simp only [ZMo, ZHS, ZED, ZHa, Zy9, ZIm, ZI, ZN5, VC.den, SX.den, Env.upd, ZKL, beq_iff_eq, ZNX, beq_eq_false_iff_ne, ne_eq, ZNW, ZNV, Int.reduceToNat, Nat.reduceEqDiff, reduceIte, sB]
 intro h1 h2 h3 h4
 refine ⟨by omega, by omega, fun hn => ?_, fun _ i i0 i1 => ⟨fun hi => ⟨by omega, by omega, by omega, fun hn => ?_, fun _ => ⟨⟨by omega, by omega⟩, by omega, by omega, by omega, by omega, trivial⟩⟩, fun _ => trivial⟩⟩
 ·rw [h3] at h1; exact absurd (h1.trans h2.symm) hn
 ·exact absurd (by rw [h3]) hn
theorem ZMN (S : Sig GG) (hS : IbSig S) : Zy S Tryz.prog 20 Zy7 := by
 refine Ze S (C := ZKB) (fuel := 12) (ZQ trivial ⟨⟨trivial, ⟨by decide, ZJX S hS⟩, trivial, ⟨by decide, ZM9 S hS⟩, ⟨by decide, ZMr S hS⟩, trivial, ⟨by decide, ZNm S hS⟩, trivial, trivial, trivial, ⟨by decide, ZJH S hS⟩, trivial, ⟨by decide, ZKD S hS⟩, ⟨by decide, ZMg S hS⟩, ⟨by decide, ZME S hS⟩, trivial, ⟨by decide, ZEI S hS⟩, trivial, ⟨by decide, ZHz S hS⟩, trivial⟩, trivial⟩ trivial) fun ρ => ?_
 rw [ZLh]
 simp only [ZNl, Zep, ZGc, ZmP, ZI8, ZyZ, ZHv, ZGz, Zk3, ZBJ, ZEB, Zb7, ZpY, Zvu, Zw4, ZAn, Ziu, Zvc, Zxu, ZxH, ZAB, Zwp, Zs0, Zf4, ZtZ, ZwA, Zub, ZwX, ZuE, ZdO, Zrb, ZuV, Zu2, Ztm, Zp1, Zzv, ZsF, Zw3, ZAI, ZuX, ZhQ, Ztf, Zc4, ZpN, Zk4, Zx0, ZtI, ZlW, ZzC, Zwx, hS.u680, ZI, ZN5, VC.den, SX.den, Env.upd, ZKL, beq_iff_eq, ZNX, beq_eq_false_iff_ne, ne_eq, ZNW, ZNV, Int.reduceToNat, Nat.reduceEqDiff, reduceIte, sB]
 repeat' (first | exact trivial | apply And.intro | intro _)
 all_goals try omega
 all_goals first
  | rfl
  | exact ZNs (by omega)
  | exact ZDO (by omega)
  | exact ZDK (by assumption) (by omega) (by omega)
  | exact mk_to (by assumption) (by omega) (by omega)
  | (simp only [Zyn]; omega)
  | (simp only [ZN3, ZN0, ZOi, List.length_nil]; omega)
  | exact tdiv8 (by omega) (by omega) (by omega)
  | (rw [Int.tdiv_eq_ediv_of_nonneg (by omega)]; omega)
  | (simp only [ZGF, U.tNi, U.tIi, List.length_set]; first | assumption | exact ZDK (by assumption) (by omega) (by omega))
  | exact congrArg U.ints (ZNs (by omega))
  | exact congrArg U.ints (ZDO (by omega))
  | (rename_i hne; exact absurd (mk_at (by omega) (by omega)) hne)
end
end Go.Proofs.YtidlngnhjffepaaGreat
namespace Go.Proofs
open Go.Shelf
def Tryz.sortEn_ren : Go.Shelf.Ren := ⟨fun | 6 => 44 | 14 => 73 | 15 => 74 | 20 => 86 | 21 => 87 | 22 => 88 | 23 => 89 | 24 => 90 | 25 => 91 | 26 => 92 | 27 => 93 | 28 => 94 | 29 => 95 | 46 => 114 | 47 => 115 | 48 => 116 | 49 => 117 | 50 => 118 | 57 => 126 | n => n, fun | 24 => 95 | 0 => 0 | 3 => 3 | 4 => 4 | 5 => 5 | 9 => 9 | 22 => 61 | 25 => 97 | 39 => 126 | 45 => 140 | 46 => 141 | 50 => 145 | 53 => 148 | 55 => 150 | 66 => 163 | 70 => 167 | 76 => 174 | 77 => 75 | n => n, fun | n => n⟩
theorem Tryz.sortEn : Go.Proofs.SlLaysF0.n6 Tryz.prog Tryz.sortEn_ren := {
 mixed := by kernel_rfl
 f6 := ⟨Tryz.f44.name, by decide, Tryz.func44.trans (congrArg some (by kernel_rfl))⟩
 f14 := ⟨Tryz.f73.name, by decide, Tryz.func73.trans (congrArg some (by kernel_rfl))⟩
 f15 := Tryz.func74.trans (congrArg some (by kernel_rfl))
 f20 := ⟨Tryz.f86.name, by decide, Tryz.func86.trans (congrArg some (by kernel_rfl))⟩
 f21 := ⟨Tryz.f87.name, by decide, Tryz.func87.trans (congrArg some (by kernel_rfl))⟩
 f22 := ⟨Tryz.f88.name, by decide, Tryz.func88.trans (congrArg some (by kernel_rfl))⟩
 f23 := ⟨Tryz.f89.name, by decide, Tryz.func89.trans (congrArg some (by kernel_rfl))⟩
 f24 := ⟨Tryz.f90.name, by decide, Tryz.func90.trans (congrArg some (by kernel_rfl))⟩
 f25 := ⟨Tryz.f91.name, by decide, Tryz.func91.trans (congrArg some (by kernel_rfl))⟩
 f26 := ⟨Tryz.f92.name, by decide, Tryz.func92.trans (congrArg some (by kernel_rfl))⟩
 f27 := ⟨Tryz.f93.name, by decide, Tryz.func93.trans (congrArg some (by kernel_rfl))⟩
 f28 := Tryz.func94.trans (congrArg some (by kernel_rfl))
 f29 := Tryz.func95.trans (congrArg some (by kernel_rfl))
 f46 := ⟨Tryz.f114.name, by decide, Tryz.func114.trans (congrArg some (by kernel_rfl))⟩
 f47 := Tryz.func115.trans (congrArg some (by kernel_rfl))
 f48 := Tryz.func116.trans (congrArg some (by kernel_rfl))
 f49 := ⟨Tryz.f117.name, by decide, Tryz.func117.trans (congrArg some (by kernel_rfl))⟩
 f50 := ⟨Tryz.f118.name, by decide, Tryz.func118.trans (congrArg some (by kernel_rfl))⟩
 f57 := ⟨Tryz.f126.name, by decide, Tryz.func126.trans (congrArg some (by kernel_rfl))⟩
 t0 := Tryz.underlying0
 a0 := Tryz.isAgg0
 z0 := Tryz.sizeOf0
 v0 := Tryz.zeroValue0
 t3 := Tryz.underlying3
 a3 := Tryz.isAgg3
 z3 := Tryz.sizeOf3
 v3 := Tryz.zeroValue3
 t4 := Tryz.underlying4
 a4 := Tryz.isAgg4
 z4 := Tryz.sizeOf4
 v4 := Tryz.zeroValue4
 t5 := Tryz.underlying5
 a5 := Tryz.isAgg5
 z5 := Tryz.sizeOf5
 v5 := Tryz.zeroValue5
 t9 := Tryz.underlying9
 a9 := Tryz.isAgg9
 z9 := Tryz.sizeOf9
 v9 := Tryz.zeroValue9
 t22 := Tryz.underlying61
 a22 := Tryz.isAgg61
 z22 := Tryz.sizeOf61
 v22 := Tryz.zeroValue61
 t25 := Tryz.underlying97
 a25 := Tryz.isAgg97
 z25 := Tryz.sizeOf97
 v25 := Tryz.zeroValue97
 t39 := Tryz.underlying126
 a39 := Tryz.isAgg126
 z39 := Tryz.sizeOf126
 v39 := Tryz.zeroValue126
 t45 := Tryz.underlying140
 a45 := Tryz.isAgg140
 z45 := Tryz.sizeOf140
 v45 := Tryz.zeroValue140
 t46 := Tryz.underlying141
 a46 := Tryz.isAgg141
 z46 := Tryz.sizeOf141
 v46 := Tryz.zeroValue141
 t50 := Tryz.underlying145
 a50 := Tryz.isAgg145
 z50 := Tryz.sizeOf145
 v50 := Tryz.zeroValue145
 t53 := Tryz.underlying148
 a53 := Tryz.isAgg148
 z53 := Tryz.sizeOf148
 v53 := Tryz.zeroValue148
 t55 := Tryz.underlying150
 a55 := Tryz.isAgg150
 z55 := Tryz.sizeOf150
 v55 := Tryz.zeroValue150
 t66 := Tryz.underlying163
 a66 := Tryz.isAgg163
 z66 := Tryz.sizeOf163
 v66 := Tryz.zeroValue163
 t70 := Tryz.underlying167
 a70 := Tryz.isAgg167
 z70 := Tryz.sizeOf167
 v70 := Tryz.zeroValue167
 t76 := Tryz.underlying174
 a76 := Tryz.isAgg174
 z76 := Tryz.sizeOf174
 v76 := Tryz.zeroValue174
 t77 := Tryz.underlying75
 a77 := Tryz.isAgg75
 z77 := Tryz.sizeOf75
 v77 := Tryz.zeroValue75 }
def Tryz.cmpInt_ren : Go.Shelf.Ren := ⟨fun | 5 => 38 | 7 => 67 | n => n, fun | 3 => 3 | 4 => 4 | 22 => 3 | n => n, fun | n => n⟩
theorem Tryz.cmpInt : Go.Proofs.SlLaysC2.n5 Tryz.prog Tryz.cmpInt_ren := {
 mixed := by kernel_rfl
 f5 := ⟨Tryz.f38.name, by decide, Tryz.func38.trans (congrArg some (by kernel_rfl))⟩
 f7 := ⟨Tryz.f67.name, by decide, Tryz.func67.trans (congrArg some (by kernel_rfl))⟩
 t3 := Tryz.underlying3
 a3 := Tryz.isAgg3
 z3 := Tryz.sizeOf3
 v3 := Tryz.zeroValue3
 t4 := Tryz.underlying4
 a4 := Tryz.isAgg4
 z4 := Tryz.sizeOf4
 v4 := Tryz.zeroValue4
 t22 := Tryz.underlying3
 a22 := Tryz.isAgg3
 z22 := Tryz.sizeOf3
 v22 := Tryz.zeroValue3 }
end Go.Proofs
namespace Go.Proofs
open Go.Shelf Go.RowKit Go.Lib Go.Sort
open Go.Proofs.YtidlngnhjffepaaGreat (Zay rF hF g0 ZbT)
set_option maxHeartbeats 1000000 in
theorem Tryz.closureSort0 (x y : Int) (a1 a2 a3 a4 a5 a6 b1 b2 b3 b4 b5 b6 : Value) (W : World) : Calls Tryz.prog 45 #[.agg #[.int .i64 x, a1, a2, a3, a4, a5, a6], .agg #[.int .i64 y, b1, b2, b3, b4, b5, b6]] W fun e w' => e = .returned (.int .i64 (Lib.compareInt x y)) /\ ∃ q os', w' = grow (W.drewN q) os' := by
 have hcon := fun W' => AnyG.cmp_Compare_int Tryz.cmpInt x y W'
 change ∀ W', Calls Tryz.prog 38 _ _ _ at hcon
 generalize Lib.compareInt x y = r at hcon ⊢
 go_enter Tryz.func45, Tryz.ntmps45
 go_wp2_with (go_at_call 38; refine (hcon _).mono ?_; rintro e w' ⟨rfl, rfl⟩)
 go_ret
 exact ⟨rfl, 0, _, by rw [alloc_eq_grow, alloc_eq_grow, grow_grow]; rfl⟩
theorem Tryz.closureSort (x y : List Int) (W : World) : Calls Tryz.prog 45 #[.agg (Zay x).toArray, .agg (Zay y).toArray] W fun e w' => e = .returned (.int .i64 (Lib.compareInt (g0 x) (g0 y))) /\ ∃ q os', w' = grow (W.drewN q) os' :=
 Tryz.closureSort0 (g0 x) (g0 y) _ _ _ _ _ _ _ _ _ _ _ _ W
theorem Tryz.ltPage (x y : List Int) : ltOf (fun x y : List Int => Lib.compareInt (g0 x) (g0 y)) x y = decide (g0 x < g0 y) := by
 unfold ltOf Lib.compareInt
 by_cases h1 : g0 x < g0 y
 ·simp [h1]
 ·by_cases h2 : g0 y < g0 x <;> simp [h1, h2]
theorem Tryz.swoPage : SWO (ltOf fun x y : List Int => Lib.compareInt (g0 x) (g0 y)) where
 irrefl x := by rw [Tryz.ltPage]; simp
 trans x y z h1 h2 := by rw [Tryz.ltPage] at *; simp at *; omega
 ntrans x y z h1 h2 := by rw [Tryz.ltPage] at *; simp at *; omega
theorem Tryz.sortEntries (blk cap : Nat) (d : Array (List Int)) (w : World) (hH : HoldsK Zay 7 w blk 0 d) (hblk : blk < w.heap.size) (hsz : d.size < 4611686018427387904) :
  Calls Tryz.prog 44 #[.slice (some ⟨blk, 0, none⟩) d.size cap, .func (.func 45) #[] #[]] w fun e w' => e = .returned (.tuple #[]) ∧
   ∃ d' n os, PermIn 0 d.size d d' /\ SortedIn (ltOf fun x y : List Int => Lib.compareInt (g0 x) (g0 y)) 0 d.size d' /\ w' = sortWorldK Zay 7 w blk 0 n d' os := by
 have eg : ∀ args w, (callFunc 45 args).run Tryz.prog w = .ok (.enter 45 args) w := enters_of Tryz.func45 (by kernel_rfl) rfl
 exact AnyQ.slices_SortFunc Tryz.sortEn 7 Tryz.isAgg95 Tryz.sizeOf95 Zay (fun x => ZbT x) (fun x v hv => by simp [Zay, rF, hF, Go.Eng.rowVals, Go.Eng.Fd.val, Go.Eng.Fd.width] at hv; rcases hv with rfl | rfl | rfl | rfl | rfl | rfl | rfl <;> rfl) (fun x y => Lib.compareInt (g0 x) (g0 y)) Tryz.swoPage 45 #[] blk 0 cap d w eg
  (fun _ _ _ _ x y => Tryz.closureSort x y _) hH hblk hsz
theorem Tryz.sortNone (p : Option Addr) (cap : Nat) (fv : Value) (w : World) :
  Calls Tryz.prog 44 #[.slice p 0 cap, fv] w fun e w' => e = .returned (.tuple #[]) /\ w' = w := AnyF.slices_SortFunc_none Tryz.sortEn p cap fv w
end Go.Proofs
namespace Go.Proofs.YtidlngnhjffepaaGreat
noncomputable section
open Go.Eng
theorem ZJ7 (S : Sig GG) (hS : JsSig S) : Zy S Tryz.prog 44 Zcx :=
 ZMc S hS (fun blk cap d w h1 h2 h3 => Tryz.sortEntries blk cap d w h1 h2 h3) (fun p cap fv w => Tryz.sortNone p cap fv w)
end
end Go.Proofs.YtidlngnhjffepaaGreat
namespace Go.Proofs.YtidlngnhjffepaaGreat
noncomputable section
open Go.Eng
def Zsw : Ctr := ⟨hA, [.one (hS 0)], [hC 0 0], [eLe z0 (ai 2), eLe (ai 2) (Zj (rA 4)), eLe (ai 2) (ai 3), eLe (ai 2) (.int 1099511627776)], [.int, .int, .int], .tup [(false, [.int .i64 (ai 6)]), (false, [.int .i64 (ai 7)]), (false, [.int .i64 (ai 8)])], [hC 0 0],
 [.f2 45 (ai 6) (usI 520 xX z0 z0), .f2 45 (ai 7) (usI 521 xX z0 z0), .f2 45 (ai 8) (usI 522 xX z0 z0)]⟩
def lc (n : Nat) : SX := rA (1000000 + n)
def sraI (m R it a w l : Nat) : Inv := ⟨[.amap, .ints, .int, .int, .int, .int, .rows], [],
 [.itr (.int .i64) (.one .ptr) (ai m) (wM (rA R) bG) (ai it) (mA 1000000) (iA 1000001), .cel (ai a) 0 [.int .i64 (di 2)], .cel (ai w) 0 [.int .i64 (di 3)], .cel (ai l) 0 [slC (di 4) (Zj (lc 6)) (di 5) 7], rAr (di 4) (lc 6) (di 5)],
 [usB 571 (mA 1000000) (wM (rA R) bG) z0, .us .bool 586 xX (mA 1000000) (ZT (di 2) (di 3)) (ai 2), usB 587 xX (mA 1000000) (lc 6), eLe (Zj (lc 6)) (di 5), .f2 50 (eLe z0 (di 4)) (.f2 45 (Zj (lc 6)) z0)], .f1 33 (mA 1000000)⟩
def srbX (k : Nat) (sa sw ix : SX) (j : SX) : SX := usI k (ZT sa sw) (usN 546 bG ix z0) j
def srbI (a w sa sw : Nat) (ix : SX) : Inv := ⟨[.int], [(64, .one (.int .i64 (di 0)))], [.cel (ai a) 0 [.int .i64 (srbX 584 (ai sa) (ai sw) ix (di 0))], .cel (ai w) 0 [.int .i64 (srbX 585 (ai sa) (ai sw) ix (di 0))]],
 [eLe z0 (di 0), eLe (di 0) (Z1 (usN 546 bG ix z0))], .f2 41 (Z1 (usN 546 bG ix z0)) (di 0)⟩
def srP (R k : Nat) : SX := .f3 140 z0 (wM (rA R) bG) (ai k)
def ZGR (k L sa sw : Nat) (n : SX) : SX := .us .int k xX (rA L) (ZT (ai sa) (ai sw)) n
def srkI (a w l b L sa sw m R : Nat) : Inv := ⟨[.int, .int, .int, .int, .amap], [(92, .one (.int .i64 (di 0)))], [.cel (ai l) 0 [.slice (ai b) z0 (ZGR 593 L sa sw (di 0)) (di 1) (di 2) (di 3) 7], .cel (ai a) 0 [.int .i64 (ZGR 594 L sa sw (di 0))], .cel (ai w) 0 [.int .i64 (ZGR 595 L sa sw (di 0))], scC (ai m) (mA 1000004)],
 [eLe z0 (di 0), eLe (di 0) (Zj (bK (rA R))), eLe z0 (di 2), eLe (di 2) (di 3), .f2 45 (.f2 40 (ZGR 593 L sa sw (di 0)) (di 2)) (Zj (rA L)), usB 596 xX (di 0) (mA 1000004)], .f2 41 (Zj (bK (rA R))) (di 0)⟩
def srK (R k : Nat) : SX := nt (bK (rA R)) (ai k) 0
def srE (q L sa sw k m : Nat) (ix : SX) : SX := usI q (rA L) (mA m) (Zdd (ZGR 593 L sa sw (ai k)) (ZGR 594 L sa sw (ai k)) (ZGR 595 L sa sw (ai k)) (usI 542 bG ix z0))
def srrX (q L sa sw k m : Nat) (ix j : SX) : SX := .us .int q (ZT (srE 591 L sa sw k m ix) (srE 592 L sa sw k m ix)) (usR 545 bG ix z0) j (mA m)
def srsI (a w L sa sw k m : Nat) (ix : SX) : Inv := ⟨[.int], [(107, .one (.int .i64 (di 0)))], [.cel (ai a) 0 [.int .i64 (srrX 597 L sa sw k m ix (di 0))], .cel (ai w) 0 [.int .i64 (srrX 598 L sa sw k m ix (di 0))]],
 [eLe z0 (di 0), eLe (di 0) (Zj (usR 545 bG ix z0))], .f2 41 (Zj (usR 545 bG ix z0)) (di 0)⟩
def ZNC : Cx := { specs := notS ++ [(25, [ZlZ]), (47, [Zie]), (26, [ZlI]), (46, [ZsS]), (44, [Zcx]), (43, [Zvs])], anns := [(23, [(4, .ghost Zl2 [.tmp 0, .tmp 5]), (10, .inv (sraI 8 13 20 14 15 19)), (12, .ghost ZqW [.tmp 12]), (13, .inv (srbI 14 15 23 24 (ixB (rA 13) (srP 13 28)))), (500017, .ghost ZjV [.tmp 12]), (18, .ghost ZqW [.tmp 12]), (500018, .ghost ZjV [.tmp 12]), (23, .inv (srkI 14 15 19 25 28 23 24 29 13)), (25, .ghost ZqW [.tmp 18]), (27, .inv (srsI 14 15 28 23 24 31 35 (ixB (rA 13) (srK 13 31)))), (500032, .ghost ZjV [.tmp 18])])] }
def YH : SX := .f2 115 (r 4) (a 2)
def ZFY : SX := l z (a 6)
def ZC4 : SX := e (a 7) z
def Zvh : SX := v 520 YH
def ZDr : SX := v 521 YH
def ZG7 : SX := e z ZDr
def ZHq : SX := v 522 YH
def Zlb : SX := .f1 32 YH
def ZBo : SX := hR0 548 YH Zlb (r 13)
def Zhg : SX := .f1 32 ZBo
def ZvY : SX := wR 549 YH Zlb
def ZeZ : SX := .f1 32 ZvY
def ZzA : SX := e ZeZ z
def Zcj : SX := f 561 YH Zlb
def Zqq : SX := d 550 YH Zlb
def Zra : SX := e z ZHq
def ZeU : SX := wM0 547 (r 13) Zcj
def Zab : SX := .f2 122 (a 23) (.f2 122 (a 24) (.f1 152 z))
def ZAL : SX := l z (a 25)
def Zyo : SX := l z (a 29)
def ZAs : SX := l z (a 30)
def ZyV : SX := x 593 YH (r 28) Zab
def ZkB : SX := .us .int 593 YH (r 28) Zab (a 31)
def ZqV : SX := .f3 112 ZBo (a 31) z
def Zbw : SX := d 566 (r 13) ZqV
def ZAQ : SX := .f3 112 (r 13) Zbw z
def Zps : SX := v 552 Zcj
def ZaP : SX := wR 545 Zcj Zbw
def Zd9 : SX := .f1 32 ZaP
def ZAH : SX := .f1 30 (wN 546 Zcj Zbw)
def Zo3 : SX := e (.f1 32 (r 13)) Zps
def ZA6 : SX := l z ZkB
def Zty : SX := l (.f1 32 (r 28)) (k 1000000)
def ZwM : SX := .f2 50 ZAL (e (a 33) z)
def Ztb : SX := l z (a 37)
def Zua : SX := l (a 37) (a 38)
def ZAO : SX := .us .int 594 YH (r 28) Zab (a 31)
def ZwZ : SX := .us .int 595 YH (r 28) Zab (a 31)
def Zqc : SX := .f2 122 ZkB (.f2 122 ZAO (.f2 122 ZwZ (.f2 122 (d 542 Zcj Zbw) (.f1 152 z))))
def Ztq : SX := x 590 (r 28) (m 35) Zqc
def ZxZ : SX := x 591 (r 28) (m 35) Zqc
def Ztc : SX := x 592 (r 28) (m 35) Zqc
def Zga : SX := .f2 122 ZxZ (.f2 122 Ztc (.f1 152 z))
def Zgh : SX := .f2 40 (a 39) (k 1)
def Zuk : SX := .f1 23 Zgh
def Zt0 : SX := .f2 41 Zd9 Zgh
def Zs8 : SX := l z Zt0
def ZtD : SX := t Zt0 (.f2 41 Zd9 (a 39))
def Zxs : SX := l z Zgh
def ZzJ : SX := l Zgh Zd9
def Zvw : SX := .us .int 598 Zga ZaP Zgh (m 35)
def Zlv : SX := .us .int 597 Zga ZaP (a 39) (m 35)
def ZkH : SX := .us .int 598 Zga ZaP (a 39) (m 35)
def ZtQ : SX := .f3 112 ZaP (a 39) z
def Zzo : SX := .us .int 597 Zga ZaP Zgh (m 35)
def ZdD : SX := .f2 40 (a 31) (k 1)
def ZzZ : SX := .f2 41 Zhg ZdD
def Zyj : SX := .us .int 593 YH (r 28) Zab ZdD
def ZqN : SX := .f2 122 ZkB (.f2 122 ZAO (.f2 122 ZwZ (.f2 122 (a 2) (.f1 152 z))))
def Zwv : SX := x 592 (r 28) (m 35) ZqN
def Zud : SX := e Zwv z
def ZoD : SX := .f3 140 z ZeU (a 28)
def Zb4 : SX := d 566 (r 13) ZoD
def ZAm : SX := .f3 112 (r 13) Zb4 z
def ZxA : SX := e ZoD ZAm
def Zt4 : SX := t Zb4 Zps
def Zux : SX := wR 545 Zcj Zb4
def ZhH : SX := .f1 32 Zux
def ZvV : SX := l ZhH (.f3 112 (r 13) Zb4 (k 3))
def Zd8 : SX := wN 546 Zcj Zb4
def ZdH : SX := .f1 30 Zd8
def Zz2 : SX := l ZdH (.f3 112 (r 13) Zb4 (k 5))
def Zwh : SX := .f2 50 (l z (.f3 112 (r 13) Zb4 (k 2))) (e ZhH z)
def ZyW : SX := .f2 50 (l z (.f3 112 (r 13) Zb4 (k 4))) (e ZdH z)
def ZuZ : SX := l z (.f3 112 (r 13) Zb4 (k 1))
def ZAK : SX := l z ZAm
def ZgE : SX := .f2 40 (a 29) (k 1)
def Zvg : SX := .f2 41 ZdH ZgE
def Zpx : SX := x 584 Zab Zd8 (a 29)
def ZpP : SX := x 585 Zab Zd8 (a 29)
def ZyK : SX := .f2 110 Zd8 (a 29)
def Zy3 : SX := d 542 Zcj Zb4
def Zp4 : SX := .f2 40 (.f1 32 (r 27)) ZhH
def Zh3 : SX := .f2 143 (m 21) (a 28)
def ZAA : SX := t (.f1 33 Zh3) (.f1 33 (m 21))
def ZA9 : SX := c 571 Zh3 ZeU
def Zvr : SX := .us .bool 586 YH Zh3 (.f2 122 Zpx (.f2 122 ZpP (.f1 152 z))) (a 2)
def ZKu : VC := i (l z (a 2)) (i (l (a 2) (.f1 32 (r 4))) (i (l (a 2) (a 3)) (i (l (a 2) k0) (u 6 .int (u 7 .int (i (e (a 7) (v 523 YH)) (i (.f2 48 ZFY ZC4) (.and (i (.f1 2 ZC4) (n (e z Zvh) (n ZG7 (n (e (a 7) ZHq) .tt)))) (i ZC4 (n ZFY (u 8 .int (u 9 .int (u 10 .int (u 11 .int (u 12 .int (u 13 .rows (i (l z (a 8)) (i (l Zhg (a 10)) (i (.f2 50 (l z (a 9)) (e Zhg z)) (i (l ZeZ (a 12)) (i (.f2 50 (l z (a 11)) ZzA) (i (c 558 (r 13) Zcj) (i (c 560 ZBo (r 13)) (i (l Zhg Zlb) (i (l ZeZ Zlb) (.and (i (l z Zqq) (n (e Zqq Zvh) (n (e (d 551 YH Zlb) ZDr) (n Zra .tt)))) (i (t Zqq z) (u 14 .int (i (l z (a 14)) (u 15 .int (i (l z (a 15)) (u 16 .int (i (l z (a 16)) (n (e ZeZ ZeZ) (n (l ZeZ (k 1000000)) (u 17 .int (u 18 .int (i (l ZeZ (a 18)) (i (.f2 50 (l z (a 17)) ZzA) (u 19 .int (i (l z (a 19)) (u 20 .int (i (l z (a 20)) (n (c 571 ZeU ZeU) (n (.us .bool 586 YH ZeU (.f2 122 (a 2) (.f2 122 z (.f1 152 z))) (a 2)) (n (y 587 YH ZeU ZvY) (u 21 .amap (u 22 .ints (u 23 .int (u 24 .int (u 25 .int (u 26 .int (u 27 .rows (i (c 571 (m 21) ZeU) (i (.us .bool 586 YH (m 21) Zab (a 2)) (i (y 587 YH (m 21) (r 27)) (i (l (.f1 32 (r 27)) (a 26)) (i (.f2 50 ZAL (e (.f1 32 (r 27)) z)) (.and (i (e (.f1 33 (m 21)) z) (n (e (.f1 32 (r 27)) (.f1 32 (r 27))) (n (l (.f1 32 (r 27)) k1) (u 28 .rows (i (e (.f1 32 (r 28)) (.f1 32 (r 27))) (i (c 580 (r 27) (r 28)) (u 29 .int (i Zyo (u 30 .int (i ZAs (n (e (.f2 40 ZyV (.f1 32 (r 27))) (.f1 32 (r 28))) (n (y 596 YH z (.f1 155 z)) (n (e (x 595 YH (r 28) Zab) (a 24)) (n (e (x 594 YH (r 28) Zab) (a 23)) (n (e ZyV z) (u 31 .int (u 32 .int (u 33 .int (u 34 .int (u 35 .amap (i (l z (a 31)) (i (l (a 31) Zhg) (i (l z (a 33)) (i (l (a 33) (a 34)) (i (e (.f2 40 ZkB (a 33)) (.f1 32 (r 28))) (i (y 596 YH (a 31) (m 35)) (.and (i (t (a 31) Zhg) (n (c 565 (r 13) ZqV) (i (e ZqV ZAQ) (i (t Zbw Zps) (i (l Zd9 (.f3 112 (r 13) Zbw (k 3))) (i (l ZAH (.f3 112 (r 13) Zbw (k 5))) (i (.f2 50 (l z (.f3 112 (r 13) Zbw (k 2))) (e Zd9 z)) (i (.f2 50 (l z (.f3 112 (r 13) Zbw (k 4))) (e ZAH z)) (i (l z (.f3 112 (r 13) Zbw (k 1))) (i (l z ZAQ) (i Zo3 (n ZA6 (n Zty (n ZwM (u 36 .int (u 37 .int (u 38 .int (i Ztb (i Zua (i (e (.f2 40 Ztq (a 37)) (.f1 32 (r 28))) (n (e (.us .int 598 Zga ZaP z (m 35)) Ztc) (n (e (.us .int 597 Zga ZaP z (m 35)) ZxZ) (u 39 .int (i (l z (a 39)) (i (l (a 39) Zd9) (.and (i (t (a 39) Zd9) (u 40 .int (i (l z (a 40)) (u 41 .bool (i (.f2 48 (q 41) (c 530 (m 35) (.f2 122 (.f3 112 ZaP (a 39) (k 1)) (.f2 122 (.f3 112 ZaP (a 39) (k 2)) (.f2 122 (.f1 35 (.f1 36 (.f3 112 ZaP (a 39) (k 3)))) (.f2 122 (.f1 35 (.f1 36 (.f3 112 ZaP (a 39) (k 4)))) (.f2 122 (.f1 3 (.f1 2 (e (.f3 112 ZaP (a 39) (k 5)) z))) (.f2 122 (.f3 112 ZaP (a 39) (k 6)) (.f1 152 z))))))))) (.and (i (.f1 2 (q 41)) (n Zuk (n Zs8 (n ZtD (n Zxs (n ZzJ (n (e Zvw (.us .int 583 Zlv ZkH ZtQ (k 4))) (n (e Zzo (.us .int 582 Zlv ZkH ZtQ (k 4))) .tt)))))))) (i (.f1 2 (.f1 2 (q 41))) (n Zuk (n Zs8 (n ZtD (n Zxs (n ZzJ (n (e Zvw ZkH) (n (e Zzo Zlv) .tt)))))))))))))) (i (l Zd9 (a 39)) (u 40 .amap (i (y 531 (m 35) (wM0 544 Zcj Zbw) (m 40)) (n (l z Zbw) (n (.f1 23 ZdD) (n (l z ZzZ) (n (t ZzZ (.f2 41 Zhg (a 31))) (n (l z ZdD) (n (l ZdD Zhg) (n (e (.f2 40 Zyj (a 37)) (.f1 32 (r 28))) (n (y 596 YH ZdD (m 40)) (n (e (.us .int 595 YH (r 28) Zab ZdD) ZkH) (n (e (.us .int 594 YH (r 28) Zab ZdD) Zlv) (n (e Zyj Ztq) .tt)))))))))))))))))))))))))))))))))))))))) (i (l Zhg (a 31)) (n ZA6 (n Zty (n ZwM (u 36 .int (u 37 .int (u 38 .int (i Ztb (i Zua (i (e (.f2 40 (x 590 (r 28) (m 35) ZqN) (a 37)) (.f1 32 (r 28))) (.and (i Zud (n (e (k (-1)) Zvh) (n ZG7 (n Zra .tt)))) (i (.f1 2 Zud) (n (e (x 591 (r 28) (m 35) ZqN) Zvh) (n (e Zwv ZDr) (n Zra .tt)))))))))))))))))))))))))))))))))))))))))) (u 28 .int (i (.f2 141 (m 21) (a 28)) (n (c 565 (r 13) ZoD) (i ZxA (i Zt4 (i ZvV (i Zz2 (i Zwh (i ZyW (i ZuZ (i ZAK (i Zo3 (n (e (d 585 Zab Zd8) (a 24)) (n (e (d 584 Zab Zd8) (a 23)) (u 29 .int (i Zyo (i (l (a 29) ZdH) (.and (i (t (a 29) ZdH) (n (.f1 23 ZgE) (n (l z Zvg) (n (t Zvg (.f2 41 ZdH (a 29))) (n (l z ZgE) (n (l ZgE ZdH) (n (e (x 585 Zab Zd8 ZgE) (.us .int 583 Zpx ZpP ZyK (k 3))) (n (e (x 584 Zab Zd8 ZgE) (.us .int 582 Zpx ZpP ZyK (k 3))) .tt)))))))) (i (l ZdH (a 29)) (n (l z Zb4) (.and (i (t Zy3 z) (i ZxA (i Zt4 (i ZvV (i Zz2 (i Zwh (i ZyW (i ZuZ (i ZAK (i Zo3 (n (l (.f1 32 (r 27)) (.f1 32 (r 27))) (n (l (.f2 42 Zp4 (k 72)) k1) (n (l ZhH ZhH) (u 30 .int (u 31 .int (i (l Zp4 (a 31)) (i (.f2 50 ZAs (e Zp4 z)) (n ZAA (n ZA9 (n Zvr (n (y 587 YH Zh3 (.f2 121 (r 27) Zux)) .tt))))))))))))))))))))) (i (l z Zy3) (n ZAA (n ZA9 (n Zvr (n (y 587 YH Zh3 (r 27)) .tt)))))))))))))))))))))))))))))))))))))))))))))))))))))))))))))))))))))))))))))))))))))
theorem ZLI : Yq Tryz.prog ZNC 12 23 Zsw = ZKu := by kernel_rfl
theorem ZK8 (S : Sig GG) (hS : JsSig S) : Zy S Tryz.prog 23 Zsw := by
 refine Ze S (C := ZNC) (fuel := 12) (ZQ ⟨Zg (by decide) (ZEk S hS), Zg (by decide) (ZyT S hS.jt), Zg (by decide) (Zpo S hS.jt.jb), Zg (by decide) (Zxp S hS.jt.jb), Zg (by decide) (ZK6 S hS), Zg (by decide) (ZJ7 S hS), Zg (by decide) (ZJW S hS), trivial⟩ ⟨⟨⟨by decide, Znw S hS.jt⟩, trivial, ⟨by decide, ZcE S hS.jt⟩, trivial, ⟨by decide, Zcr S hS.jt⟩, ⟨by decide, ZcE S hS.jt⟩, ⟨by decide, Zcr S hS.jt⟩, trivial, ⟨by decide, ZcE S hS.jt⟩, trivial, ⟨by decide, Zcr S hS.jt⟩, trivial⟩, trivial⟩ trivial) fun ρ => ?_
 rw [ZLI]
 simp only [ZKu, YH, ZFY, ZC4, Zvh, ZDr, ZG7, ZHq, Zlb, ZBo, Zhg, ZvY, ZeZ, ZzA, Zcj, Zqq, Zra, ZeU, Zab, ZAL, Zyo, ZAs, ZyV, ZkB, ZqV, Zbw, ZAQ, Zps, ZaP, Zd9, ZAH, Zo3, ZA6, Zty, ZwM, Ztb, Zua, ZAO, ZwZ, Zqc, Ztq, ZxZ, Ztc, Zga, Zgh, Zuk, Zt0, Zs8, ZtD, Zxs, ZzJ, Zvw, Zlv, ZkH, ZtQ, Zzo, ZdD, ZzZ, Zyj, ZqN, Zwv, Zud, ZoD, Zb4, ZAm, ZxA, Zt4, Zux, ZhH, ZvV, Zd8, ZdH, Zz2, Zwh, ZyW, ZuZ, ZAK, ZgE, Zvg, Zpx, ZpP, ZyK, Zy3, Zp4, Zh3, ZAA, ZA9, Zvr, hS.jt.jb.rf.u520, hS.jt.jb.rf.u521, hS.jt.jb.rf.u522, hS.jt.jb.rf.u523, hS.jt.jb.u530, hS.jt.jb.u531, hS.jt.u542, hS.jt.u544, hS.jt.u545, hS.jt.u546, hS.jt.u547, hS.jt.u548, hS.jt.u549, hS.jt.u550, hS.jt.u551, hS.jt.u552, hS.jt.u558, hS.jt.u560, hS.jt.u561, hS.jt.u565, hS.jt.u566, hS.jt.u571, hS.u580, hS.u582, hS.u583, hS.u584, hS.u585, hS.u586, hS.u587, hS.u590, hS.u591, hS.u592, hS.u593, hS.u594, hS.u595, hS.u596, hS.u597, hS.u598, ZI, ZN5, VC.den, SX.den, Env.upd, ZS, ZD, beq_iff_eq, ZNX, beq_eq_false_iff_ne, ne_eq, ZNW, ZNV, Int.reduceToNat, Nat.reduceEqDiff, reduceIte, sB, sC]
 generalize hX : (ρ 4).tR.take (ρ 2).tI.toNat = X
 generalize hlen : (ρ 2).tI = l at *
 intro h1 h2 h3 h4
 have hl : l = (X.length : Nat) := by rw [<- hX, ZN0]; omega
 subst hl
 clear hX hlen
 simp only [ZN5, ZjS]
 intro b e he hb
 have hpl : ∀ (R : List (List Int)) (ks : List Nat), (Zbh R ks).length = ks.length := fun R ks => by unfold Zbh; rw [ZN8]
 have hwf := ZhW X X.length
 have prOf2 : ∀ u v : Int, ZlS [u, v] = (u, v) := fun _ _ => rfl
 simp only [hpl, prOf2, Zui, Zjk, ZfB, ZN5]
 refine ⟨fun hne => ?_, fun h0 => ⟨?_, ?_⟩⟩
 ·rw [ZFw (by rw [<- he]; exact hne)]; exact ⟨rfl, rfl, he, trivial⟩
 ·rw [h0] at hb; exact Za.1 (by rw [hb]; rfl)
 have hc : Zb5 X = 0 := by rw [<- he]; exact h0
 intro ma kb kc ob oc R q1 q2 q3 q4 q5 q6 q7 q8 q9
 refine ⟨fun hf => ?_, fun hf => ?_⟩
 ·rw [ZlP hc hf]; exact ⟨rfl, rfl, rfl, trivial⟩
 have hgo : Go X (Z4 X X.length) := ZE2 hc hf
 have h400 := ZiR hc
 rw [ZBQ hc hgo]
 have hfin := @ZsC X _ hgo
 have hbl := fun t ht => ZKI hgo (t := t) ht
 have hll := ZGn hwf h400
 have hall : ∀ t ∈ (Z4 X X.length).txs, Zx (Zez R (Z4 X X.length).txs) t.who = true := ZdG q6.1
 have hget := fun w => ZbF (w := w) q6.1 0
 have hkeys := Zgt q6.1
 have hkept : ∀ n < (Z4 X X.length).kept.length, (Z4 X X.length).kept.getD n 0 < R.length := fun n hn => by rw [q6.1]; exact (hgo.kw hn).1
 have hmst := @ZpA (Z4 X X.length)
 have hbst := @ZCF (Z4 X X.length)
 have hlst := @ZDu (Z4 X X.length)
 have hki : ∀ left i r, ZBb (Z4 X X.length) left i r -> True := fun _ _ _ _ => trivial
 generalize Z4 X X.length = B at *
 intro ca p1 cw p2 cn p3
 refine ⟨trivial, by omega, fun cb cc p4 p5 lb p6 it p7 => ?_⟩
 refine ⟨⟨by rw [hkeys]; exact hwf.nd, fun k hk => hk⟩, ZBV hall _, by rw [ZBi hall], fun left cur a w lob loc lo g1 g2 g3 g4 g5 => ?_⟩
 refine ⟨fun hz => ?_, fun k hk => ?_⟩
 ·have hz : left = [] := ZOd (by omega)
  subst hz
  refine ⟨trivial, by have := g3.length_eq; have := hll []; omega, fun L s1 s2 mb p8 nb p9 => ?_⟩
  refine ⟨by have : (YU B L (a, w) 0).1 = 0 := rfl; omega, map_nil B, rfl, rfl, rfl, fun k z l c M j1 j2 j3 j4 j5 j6 => ?_⟩
  obtain ⟨n, rfl⟩ := ZNQ j1
  have en : ((n : Int) + 1).toNat = n + 1 := by omega
  simp only [ZN5, en] at j5 j6 ⊢
  have hends : ∀ pl, Zfa (ZZ M) L pl (YU B L (a, w) n).1 (YU B L (a, w) n).2 = Zfa (ZY (stF B n)) L pl (YU B L (a, w) n).1 (YU B L (a, w) n).2 := fun pl => ZLQ j6 L pl _ _
  have hlen : L.length <= 1000000 := by have := g3.length_eq; have := hll []; omega
  have hlo : 0 <= lob \/ l = 0 := by
   rcases g5 with g5 | g5
   ·exact .inl g5
   ·right; omega
  refine ⟨fun hn => ?_, fun hn => ?_⟩
  ·have hn : n < B.kept.length := by omega
   have hJ := hkept n hn
   have hJt : B.kept.getD n 0 < B.txs.length := by rw [<- q6.1]; exact hJ
   have hri := ZaL q6.2.1 hJ
   simp only [Zz1 hn, hri, Zct]
   refine ⟨⟨_, hJ, rfl⟩, fun _ _ _ _ _ _ _ _ _ => ⟨by omega, by omega, hlo, fun z' l' c' j7 j8 j9 => ?_⟩⟩
   have hk1 : YU B L (a, w) (n + 1) = ((Zfa (ZY (stF B n)) L (B.txs.getD (B.kept.getD n 0) tx0).com (YU B L (a, w) n).1 (YU B L (a, w) n).2).1, Zjm (ZY (stF B n)) (Zfa (ZY (stF B n)) L (B.txs.getD (B.kept.getD n 0) tx0).com (YU B L (a, w) n).1 (YU B L (a, w) n).2).2 (B.txs.getD (B.kept.getD n 0) tx0).rds (B.txs.getD (B.kept.getD n 0) tx0).rds.length) := rfl
   rw [<- hends] at hk1
   have hms := fun M' (hl : ZvE M (B.txs.getD (B.kept.getD n 0) tx0).ch M') => hmst j6 rfl hl
   have hrl := (hwf.rl _ (hgo.kt hn)).1
   generalize B.txs.getD (B.kept.getD n 0) tx0 = t at *
   generalize Zfa (ZZ M) L t.com (YU B L (a, w) n).1 (YU B L (a, w) n).2 = E at *
   refine ⟨rfl, rfl, fun jj j10 j11 => ⟨fun hlt tb htb v hv => ?_, fun hge M' hl => ?_⟩⟩
   ·obtain ⟨m, rfl⟩ := ZNQ j10
    have em : ((m : Int) + 1).toNat = m + 1 := by omega
    simp only [ZN5, em] at hv ⊢
    have st : Zjm (ZZ M) E.2 t.rds (m + 1) = if ZZ M ((t.rds.getD m []).drop 1) = true then Zjm (ZZ M) E.2 t.rds m else ZdW (Zjm (ZZ M) E.2 t.rds m) (g0 (t.rds.getD m [])) 4 := rfl
    refine ⟨fun hn => ?_, fun hn => ?_⟩
    ·have hn : ¬ ZZ M ((t.rds.getD m []).drop 1) = true := by rw [<- hv]; simpa using hn
     rw [if_neg hn] at st
     rw [st]
     exact ⟨⟨by omega, by omega⟩, by omega, by omega, by omega, by omega, rfl, rfl, trivial⟩
    ·have hn : ZZ M ((t.rds.getD m []).drop 1) = true := by rw [<- hv]; simpa using hn
     rw [if_pos hn] at st
     rw [st]
     exact ⟨⟨by omega, by omega⟩, by omega, by omega, by omega, by omega, rfl, rfl, trivial⟩
   ·have hjj : jj.toNat = t.rds.length := by omega
    have hrd : Zjm (ZY (stF B n)) E.2 t.rds t.rds.length = Zjm (ZZ M) E.2 t.rds t.rds.length := (ZD1 j6 _ _ _).symm
    rw [hjj, hk1, hrd]
    exact ⟨by omega, ⟨by omega, by omega⟩, by omega, by omega, by omega, by omega, j9, hms M' hl, rfl, rfl, rfl, trivial⟩
  ·have hn : n = B.kept.length := by omega
   subst hn
   refine ⟨by omega, by omega, hlo, fun z' l' c' j7 j8 j9 => ?_⟩
   have hf := hfin g2 g3 (L := L) s2
   simp only [hends] at *
   generalize Zfa (ZY (stF B B.kept.length)) L (X.length : Int) (YU B L (a, w) B.kept.length).1 (YU B L (a, w) B.kept.length).2 = E at *
   refine ⟨fun hz => ?_, fun hz => ?_⟩
   ·rw [if_pos hz] at hf
    rw [<- hf]; exact ⟨rfl, rfl, trivial, trivial⟩
   ·rw [if_neg hz] at hf
    rw [<- hf]; exact ⟨rfl, rfl, trivial, trivial⟩
 ·have hm := g1.2 k hk
  obtain ⟨e1, e2⟩ := hget k
  rw [hm] at e2
  have hjl : ixL k B.txs < B.txs.length := of_decide_eq_true e2.symm
  rw [if_pos hjl] at e1
  have hbs := fun i r => hbst g1.1 hwf.nd (k := k) rfl hjl i r
  have hls := hlst g1.1 hwf.nd (k := k) rfl hjl hk
  have hdel : (Y0 left k).length < left.length := Zda hk
  have hnd := Zbv g1.1 k
  have hsub : ∀ q, Zx (Y0 left k) q = true -> Zx (Zez R B.txs) q = true := fun q hq => by
   rw [mhas_del' g1.1] at hq
   split at hq
   ·cases hq
   ·exact g1.2 q hq
  have hml := hll (Y0 left k)
  generalize ixL k B.txs = j at *
  have hJ : j < R.length := by rw [q6.1]; exact hjl
  have hri := ZaL q6.2.1 hJ
  have htm : B.txs.getD j tx0 ∈ B.txs := by rw [Yv hjl]; exact ZOl hjl
  have hbt := hbl _ htm
  have hbw := (hwf.rl _ htm).2
  simp only [e1, hri, Zct]
  generalize B.txs.getD j tx0 = t at *
  refine ⟨⟨_, hJ, rfl⟩, fun _ _ _ _ _ _ _ _ _ => ⟨rfl, rfl, fun i i0 i1 => ⟨fun hlt => ?_, fun hge => ?_⟩⟩⟩
  ·obtain ⟨m, rfl⟩ := ZNQ i0
   have em : ((m : Int) + 1).toNat = m + 1 := by omega
   simp only [ZN5, em]
   exact ⟨⟨by omega, by omega⟩, by omega, by omega, by omega, by omega, rfl, rfl, trivial⟩
  ·have hii : i.toNat = t.bad.length := by omega
   rw [hii]
   have hLP : YD (ZBb B (Y0 left k)) (X.length : Int) (ZE6 (a, w) t.bad t.bad.length) :=
    (Zpi g2 t.bad (fun i hi => hbt i hi) _ (ZNO _)).congr fun i r => by rw [hbs, List.take_length]
   refine ⟨by omega, fun hcm _ _ _ _ _ _ _ _ _ => ?_, fun hcm => ?_⟩
   ·rw [if_pos hcm] at hls
    have hpm := (g3.append_right t.rds).trans hls.symm
    have hpl := hpm.length_eq
    rw [ZN3] at hpl
    exact ⟨by omega, by omega, by omega, fun _ _ _ _ => ⟨by omega, ⟨hnd, hsub⟩, hLP, hpm, trivial⟩⟩
   ·rw [if_neg (by omega), List.append_nil] at hls
    exact ⟨by omega, ⟨hnd, hsub⟩, hLP, g3.trans hls.symm, trivial⟩
def Zpa : Ctr := ⟨[], [], [], [], [], .one (.bool (.bool true)), [], []⟩
def ZlU : Ctr := ⟨hA ++ hA, [.one (hS 0), .one (hS 6)], [hC 0 0, hC 1 6], hQ 0 ++ hQ 6, [.bool], .one (.bool (qA 12)), [hC 0 0, hC 1 6], [qA 12]⟩
theorem ZpU {α : Type} (x y : List α) {n : Nat} (h : n = x.length) : (x ++ y).take n = x := by subst h; exact List.take_left
theorem ZF9 (x y : List Ent) {l : Int} (h : l = x.length) : ∀ i : Nat, (0 : Int) <= i -> (i : Int) < l -> eqE (xa (x ++ y) i) (xa x i) := fun i _ hi => by
 unfold eqE xa
 rw [ZNY, ZOg (by omega), <- ZNY]
def ZKS : Cx := { specs := [(6, [Zpa]), (7, [ZAv]), (17, [ZpL]), (11, [Ztt]), (18, [ZAC]), (19, [Zvf]), (20, [Zy7])], anns := [(5, [(18, .ghost ZDH [.tmp 8, .tmp 11, .tmp 14, .tmp 17])])] }
def ZD0 : Ctr := ZlU
def ZBW : SX := .f2 40 (a 2) (k 3)
def ZCK : SX := .f2 40 (a 8) (k 3)
def ZI2 : SX := .f2 40 (.f1 32 (r 4)) (k 3)
def ZCi : SX := .f2 122 (k (-7)) (.f2 122 z (.f2 122 z (.f2 122 z (.f2 122 z (.f2 122 z (.f1 152 z))))))
def ZHE : SX := .f2 124 ZCi (.f2 124 ZCi (.f2 124 ZCi (.f1 154 z)))
def Zxz : SX := .f2 121 (r 4) ZHE
def ZDA : SX := .f2 115 Zxz (a 2)
def ZC1 : SX := p 661 ZDA
def ZBS : SX := v 662 ZDA
def ZGY : SX := o 660 ZDA
def Zc0 : SX := .f1 30 ZGY
def ZoK : SX := e Zc0 z
def Zpk : SX := l Zc0 (k 8)
def ZAh : SX := .f2 40 (.f1 32 (r 10)) (k 3)
def ZlX : SX := .f2 121 (r 10) ZHE
def Zq5 : SX := .f2 115 ZlX (a 8)
def ZxB : SX := o 660 Zq5
def ZeM : SX := .f1 30 ZxB
def Zzs : SX := o 660 (r 4)
def ZlO : SX := .f1 30 Zzs
def Zz6 : SX := o 660 (r 10)
def Zl3 : SX := .f1 30 Zz6
def ZsW : SX := e (a 19) (a 38)
def Zxb : SX := e (a 23) (a 38)
def Zwk : SX := e (a 27) (a 43)
def Zwi : SX := e (a 31) (a 38)
def ZtV : SX := .f1 2 (.f2 48 (q 18) (q 37))
def Zz8 : SX := .f1 2 (.f2 48 (q 22) (q 37))
def Zxc : SX := .f1 2 (.f2 48 (q 26) (q 42))
def Zz7 : SX := .f1 2 (.f2 48 (q 30) (q 37))
def ZLH : VC := i (l z (a 2)) (i (e (a 2) (.f1 32 (r 4))) (i (l (a 2) (a 3)) (i (l (a 2) k0) (i (l z (a 8)) (i (e (a 8) (.f1 32 (r 10))) (i (l (a 8) (a 9)) (i (l (a 8) k0) (u 12 .int (u 13 .int (i (l ZBW (a 13)) (i (l z (a 12)) (u 14 .int (u 15 .int (i (l ZCK (a 15)) (i (l z (a 14)) (n (l (a 2) ZI2) (n (l (a 2) (a 13)) (u 16 .int (u 17 .int (u 18 .bool (u 19 .int (i (.f2 48 (q 18) ZC1) (i (e (a 19) ZBS) (i (l Zc0 (a 17)) (i (.f2 50 (l z (a 16)) ZoK) (i Zpk (u 20 .int (u 21 .int (u 22 .bool (u 23 .int (i (.f2 48 (q 22) ZC1) (i (e (a 23) ZBS) (i (l Zc0 (a 21)) (i (.f2 50 (l z (a 20)) ZoK) (i Zpk (n (l (a 8) ZAh) (n (l (a 8) (a 15)) (u 24 .int (u 25 .int (u 26 .bool (u 27 .int (i (.f2 48 (q 26) (p 661 Zq5)) (i (e (a 27) (v 662 Zq5)) (i (l ZeM (a 25)) (i (.f2 50 (l z (a 24)) (e ZeM z)) (i (l ZeM (k 8)) (u 28 .int (u 29 .int (u 30 .bool (u 31 .int (i (.f2 48 (q 30) ZC1) (i (e (a 31) ZBS) (i (l Zc0 (a 29)) (i (.f2 50 (l z (a 28)) ZoK) (i Zpk (n (e ZI2 ZBW) (n (e (a 2) (a 2)) (n (.us .bool 535 Zxz z (a 2) (r 4)) (n (.us .bool 535 Zxz (a 2) ZBW Zxz) (u 32 .bool (i (q 32) (n (e ZAh ZCK) (n (e (a 8) (a 8)) (n (.us .bool 535 ZlX z (a 8) (r 10)) (n (.us .bool 535 ZlX (a 8) ZCK ZlX) (u 33 .bool (i (q 33) (u 34 .int (u 35 .int (u 36 .int (u 37 .bool (u 38 .int (i (.f2 48 (q 37) (p 661 (r 4))) (i (e (a 38) (v 662 (r 4))) (i (l ZlO (a 35)) (i (l (a 35) (a 36)) (i (.f2 50 (l z (a 34)) (e ZlO z)) (u 39 .int (u 40 .int (u 41 .int (u 42 .bool (u 43 .int (i (.f2 48 (q 42) (p 661 (r 10))) (i (e (a 43) (v 662 (r 10))) (i (l Zl3 (a 40)) (i (l (a 40) (a 41)) (i (.f2 50 (l z (a 39)) (e Zl3 z)) (.and (i (.f1 2 (.f1 2 (q 32))) (.and (i (.f1 2 (.f1 2 (q 33))) (.and (i ZsW (.and (i Zxb (.and (i Zwk (.and (i Zwi (.and (i (.f1 2 ZtV) (.and (i (.f1 2 Zz8) (.and (i (.f1 2 Zxc) (.and (i Zz7 (n (.bool false) .tt)) (i (.f1 2 Zz7) (n (e Zc0 Zc0) (n (e ZlO ZlO) (n (.f2 155 ZGY Zzs) (n (l Zc0 (k 1048576)) (n (e ZeM ZeM) (n (e Zl3 Zl3) (n (.f2 155 ZxB Zz6) (n (l ZeM (k 1048576)) (n (l ZeM k2) (n (l Zc0 k2) (u 44 .int (i (l z (a 44)) .tt))))))))))))))) (i Zxc (n (.bool false) .tt)))) (i Zz8 (n (.bool false) .tt)))) (i ZtV (n (.bool false) .tt)))) (i (.f1 2 Zwi) (n (.bool false) .tt)))) (i (.f1 2 Zwk) (n (.bool false) .tt)))) (i (.f1 2 Zxb) (n (.bool false) .tt)))) (i (.f1 2 ZsW) (n (.bool false) .tt)))) (i (.f1 2 (q 33)) (n (.bool false) .tt)))) (i (.f1 2 (q 32)) (n (.bool false) .tt))))))))))))))))))))))))))))))))))))))))))))))))))))))))))))))))))))))))))))))))))))))))))
theorem ZMk : Yq Tryz.prog ZKS 12 5 ZD0 = ZLH := by kernel_rfl
theorem ZKt (S : Sig GG) (hS : IbSig S) (haw : Zy S Tryz.prog 6 Zpa) : Zy S Tryz.prog 5 ZD0 := by
 refine Ze S (C := ZKS) (fuel := 12) (ZQ ⟨Zg (by decide) haw, Zg (by decide) (ZJE S hS.og.ou.ft.od.fi.js.jt.jb), Zg (by decide) (ZDQ S hS.og), Zg (by decide) (ZKe S hS.og.ou.ft.od.fi.js.jt.jb), Zg (by decide) (ZLX S hS.og), Zg (by decide) (ZKP S hS), Zg (by decide) (ZMN S hS), trivial⟩ ⟨⟨⟨by decide, ZKZ S hS⟩, trivial⟩, trivial⟩ trivial) fun ρ => ?_
 rw [ZMk]
 simp only [ZLH, ZBW, ZCK, ZI2, ZCi, ZHE, Zxz, ZDA, ZC1, ZBS, ZGY, Zc0, ZoK, Zpk, ZAh, ZlX, Zq5, ZxB, ZeM, Zzs, ZlO, Zz6, Zl3, ZsW, Zxb, Zwk, Zwi, ZtV, Zz8, Zxc, Zz7, hS.og.ou.ft.od.fi.js.jt.jb.u535, hS.og.u660, hS.og.u661, hS.og.u662, ZI, ZN5, VC.den, SX.den, Env.upd, ZS, ZD, beq_iff_eq, ZNX, beq_eq_false_iff_ne, ne_eq, ZNW, ZNV, Int.reduceToNat, Nat.reduceEqDiff, reduceIte, sB, sC]
 generalize (ρ 4).tR = X
 generalize (ρ 10).tR = Y
 generalize (ρ 2).tI = l
 generalize (ρ 8).tI = m
 intro h1 h2 h3 h4 h5 h6 h7 h8
 subst h2 h6
 simp only [ZN5]
 have hk : ([[-7, 0, 0, 0, 0, 0], [-7, 0, 0, 0, 0, 0], [-7, 0, 0, 0, 0, 0]] : List (List Int)).length = 3 := rfl
 generalize ([[-7, 0, 0, 0, 0, 0], [-7, 0, 0, 0, 0, 0], [-7, 0, 0, 0, 0, 0]] : List (List Int)) = K at *
 simp only [ZpU X K rfl, ZpU Y K rfl, ZN3, hk]
 repeat' (first | exact trivial | apply And.intro | intro _)
 all_goals first
  | omega
  | rfl
  | exact ZF9 _ _ rfl _ (by assumption) (by assumption)
  | (simp_all; done)
theorem ZEy (S : Sig GG) (hS : IbSig S) (haw : Zy S Tryz.prog 6 Zpa) : Zy S Tryz.prog 5 ZlU := ZKt S hS haw
def latC (x : List Ent) (f a : Int) : Bool := decide (0 <= f) && (List.range a.toNat).all fun i => !decide (f < (i : Int)) || (!decide (xk (xa x i) = 1) && !decide (xk (xa x i) = 2) && !decide (xk (xa x i) = 7))
theorem ZH4 (x : List Ent) (f a : Int) : Zhb x f a = latC x f a := by
 unfold Zhb latC
 rw [Bool.eq_iff_iff, Zl, Bool.and_eq_true, decide_eq_true_eq, List.all_eq_true]
 refine ⟨fun ⟨h1, h2⟩ => ⟨h1, fun i hi => ?_⟩, fun ⟨h1, h2⟩ => ⟨h1, fun i hi ha => ?_⟩⟩
 ·rw [List.mem_range] at hi
  by_cases hf : f < (i : Int)
  ·obtain ⟨a1, a2, a3⟩ := h2 i hf (by omega)
   simp [a1, a2, a3]
  ·simp [hf]
 ·have := h2 i (List.mem_range.2 (by omega))
  simp [hi] at this
  exact ⟨this.1.1, this.1.2, this.2⟩
def chkC (x : List Ent) (n : Nat) : Bool := (List.range n).all fun i => ZbI (xa x i)
theorem ZFC (x : List Ent) (n : Nat) : Zi8 x n = chkC x n := by
 unfold Zi8 chkC
 rw [Bool.eq_iff_iff, Zl, List.all_eq_true]
 exact ⟨fun h i hi => h i (List.mem_range.1 hi), fun h i hi => h i (List.mem_range.2 hi)⟩
def outC (x : List Ent) (n : Nat) : Bool :=
 let r := xa x n
 let o := Zbo x (xw r) n
 if xk r = 1 then decide (0 <= Yd x 1 (xw r) n)
 else if xk r = 2 then decide (0 < xw r) && !o.1
 else if xk r = 3 \/ xk r = 4 \/ xk r = 6 then !o.1
 else if xk r = 5 then (!o.1 && !latC x o.2 n) || decide (0 <= Yd x 5 (xw r) n)
 else false
theorem ZE0 (x : List Ent) (n : Nat) : Zl8 x n = outC x n := by
 unfold Zl8 outC
 simp only [ZH4]
def ZEl (x : List Ent) : Nat -> Int × Int
 | 0 => (-1, 0)
 | n + 1 => if 0 <= (ZEl x n).1 then ZEl x n else if outC x n then (n, 1) else if Zmd x n then (n, 2) else (-1, 0)
theorem ZiH (x : List Ent) : ∀ n, ZcG x n = ZEl x n
 | 0 => rfl
 | n + 1 => by
  show (if 0 <= (ZcG x n).1 then ZcG x n else if Zl8 x n then (n, 1) else if Zmd x n then (n, 2) else (-1, 0)) = _
  rw [ZiH x n, ZE0]; rfl
def ZDJ (x : List Ent) : Int := if 400 < x.length then 2 else if chkC x x.length then 0 else 280
theorem Znr (x : List Ent) : Zb5 x = ZDJ x := by unfold Zb5 ZDJ; rw [ZFC]
def serC (x : List Ent) : Int × Int × Int :=
 if ZDJ x ≠ 0 then (0, 0, ZDJ x) else if 0 <= (ZEl x x.length).1 then ((ZEl x x.length).1, (ZEl x x.length).2, 0) else ((Zfl x x.length).1, (Zfl x x.length).2, 0)
theorem Zop (x : List Ent) : Zkn x = serC x := by unfold Zkn serC; rw [Znr, ZiH]
def fneC (x : List Ent) : Int := if ZDJ x ≠ 0 then ZDJ x else if 0 <= (ZEl x x.length).1 then 280 else 0
theorem ZA2 (x : List Ent) : Zqn x = fneC x := by unfold Zqn fneC; rw [Znr, ZiH]
def fnrC (x : List Ent) : List (List Int) := if fneC x = 0 then ZMv x else []
theorem ZIv (x : List Ent) : finR' x = fnrC x := by unfold finR' fnrC; rw [ZA2]
def ZKp (x : List Ent) (asg : List Int) (w : Int) : Bool :=
 ((List.range (Yd x 1 w x.length).toNat).all fun j => !decide (xk (xa x j) = 5) || asg.contains (xw (xa x j))) &&
 ((List.range x.length).all fun j => !decide (xk (xa x j) = 2) || !decide (xw (xa x j) = w) || (Zg8 x j asg).1) && !asg.contains w
theorem ZHP (x : List Ent) (asg : List Int) (w : Int) : Zn (Zpr x asg w) = ZKp x asg w := by
 rw [Bool.eq_iff_iff, Zl]
 unfold Zpr ZHH ZF8 ZKp
 rw [Bool.and_eq_true, Bool.and_eq_true, List.all_eq_true, List.all_eq_true]
 refine ⟨fun ⟨h1, h2, h3⟩ => ⟨⟨fun j hj => ?_, fun j hj => ?_⟩, ?_⟩, fun ⟨⟨h1, h2⟩, h3⟩ => ⟨fun j hj hk => ?_, fun j hj hk hw => ?_, ?_⟩⟩
 ·rw [List.mem_range] at hj
  by_cases hk : xk (xa x j) = 5
  ·have := h1 j (by omega) hk
   simp [this]
  ·simp [hk]
 ·rw [List.mem_range] at hj
  by_cases hk : xk (xa x j) = 2
  ·by_cases hw : xw (xa x j) = w
   ·simp [h2 j (by omega) hk hw]
   ·simp [hw]
  ·simp [hk]
 ·simpa using h3
 ·have := h1 j (List.mem_range.2 (by omega))
  simpa [hk] using this
 ·have := h2 j (List.mem_range.2 (by omega))
  simpa [hk, hw] using this
 ·simpa using h3
def ZCM (x : List Ent) (all : List Int) : Nat -> List Int -> Option (List Int)
 | 0, asg => if asg.length = all.length then some asg else none
 | n + 1, asg => if asg.length = all.length then some asg else (List.range all.length).findSome? fun j => if ZKp x asg (all.getD j 0) = true then ZCM x all n (asg ++ [all.getD j 0]) else none
theorem Zuo (x : List Ent) (all : List Int) : ∀ (n : Nat) (asg : List Int), Zik x all n asg = ZCM x all n asg
 | 0, asg => rfl
 | n + 1, asg => by
  show (if asg.length = all.length then some asg else (List.range all.length).findSome? fun j => Zqj x all asg (Zik x all n) j) = (if asg.length = all.length then some asg else (List.range all.length).findSome? fun j => if ZKp x asg (all.getD j 0) = true then ZCM x all n (asg ++ [all.getD j 0]) else none)
  have : (fun j => Zqj x all asg (Zik x all n) j) = fun j => if ZKp x asg (all.getD j 0) = true then ZCM x all n (asg ++ [all.getD j 0]) else none := by
   funext j
   unfold Zqj
   rw [ZHP, Zuo x all n]
  rw [this]
def oreC (x : List Ent) : Int := if ZDJ x ≠ 0 then ZDJ x else if 0 <= (ZEl x x.length).1 then 280 else if 8 < (ZJ x x.length).length then 2 else 0
theorem Zoj (x : List Ent) : orE x = oreC x := by unfold orE oreC; rw [Znr, ZiH]
def orsC (x : List Ent) : Option (List Int) := if oreC x = 0 then ZCM x (ZlK (ZJ x x.length) (ZJ x x.length).length) (ZlK (ZJ x x.length) (ZJ x x.length).length).length [] else none
theorem ZI4 (x : List Ent) : orS x = orsC x := by unfold orS orsC; rw [Zoj]; unfold ZgN; rw [Zuo]; rfl
def awH : List Ent := [[1, 1, (Zs [] : Nat), (Zs [] : Nat), 0, 0], [3, 1, (Zs [107] : Nat), (Zs [120] : Nat), 1, 0], [1, 2, (Zs [] : Nat), (Zs [] : Nat), 0, 0], [2, 2, (Zs [107] : Nat), (Zs [] : Nat), 0, 0], [5, 1, (Zs [] : Nat), (Zs [] : Nat), 0, 1], [5, 2, (Zs [] : Nat), (Zs [] : Nat), 0, 2]]
def awK : List Ent := [[1, 1, (Zs [] : Nat), (Zs [] : Nat), 0, 0], [3, 1, (Zs [107] : Nat), (Zs [120] : Nat), 1, 0], [1, 2, (Zs [] : Nat), (Zs [] : Nat), 0, 0]]
def aw8 : List Ent := [[8, 0, (Zs [] : Nat), (Zs [] : Nat), 0, 0]]
def aw5 : List Ent := [[5, 1, (Zs [] : Nat), (Zs [] : Nat), 0, 1]]
theorem aw_1 : Zkn awH = (3, 4, 0) := by rw [Zop]; kernel_rfl
theorem aw_2 : Zqn awH = 0 := by rw [ZA2]; kernel_rfl
theorem aw_3 : finR' awH = [[((Zs [107] : Nat) : Int), ((Zs [120] : Nat) : Int)]] := by rw [ZIv]; kernel_rfl
theorem aw_4 : orE awH = 0 := by rw [Zoj]; kernel_rfl
theorem aw_5 : orS awH = some [2, 1] := by rw [ZI4]; kernel_rfl
theorem aw_6 : Zkn awK = (-1, 0, 0) := by rw [Zop]; kernel_rfl
theorem aw_7 : (Zkn aw8).2.2 = 280 := by rw [Zop]; kernel_rfl
theorem aw_8 : orE aw5 = 280 := by rw [Zoj]; kernel_rfl
def bR (x k : Nat) : SX := .f1 36 (nt (rA x) z0 k)
def ZJr : Ctr := ⟨[.int, .rows, .int, .rows], [.one (slC (ai 0) (Zj (rA 1)) (ai 2) 2)], [prC (rA 1) (rA 3)], [.f2 45 (Zj (rA 1)) (.int 1)], [], .tup [],
 [bAr (nt (rA 1) z0 0) (bR 3 0) (nt (rA 1) z0 2), bAr (nt (rA 1) z0 3) (bR 3 1) (nt (rA 1) z0 5)], [.f2 45 (nt (rA 1) z0 1) (ZDf (bR 3 0)), .f2 45 (nt (rA 1) z0 4) (ZDf (bR 3 1)), eLe (nt (rA 1) z0 1) (nt (rA 1) z0 2), eLe (nt (rA 1) z0 4) (nt (rA 1) z0 5), eLe z0 (nt (rA 1) z0 0), eLe z0 (nt (rA 1) z0 3)]⟩
theorem ZNo (S : Sig GG) (hS : FiSig S) : Zbm S ZJr := by
 refine Yp S fun T w0 ρ h hu hp hd hr hpre => ⟨ρ, Ext.refl _ _, ?_⟩
 have e1 : hpDen T ρ w0 ZJr.pre = Zc (T.prd 110 w0 ((rA 1).den T ρ) ((rA 3).den T ρ)) emp := rfl
 have r0 := Zn5 (hr (.f2 45 (Zj (rA 1)) (.int 1)) (by simp [ZJr]))
 have r0 : (((ρ 1).tR.length : Nat) : Int) = 1 := r0
 rw [e1, Zf, hp, hS.p110] at hpre
 have hpre : prH (ρ 1).tR (ρ 3).tR h := hpre
 have hl := Zog hpre
 have e2 : hpDen T ρ w0 ZJr.post = Zc (bAD (((ρ 1).tR.getD 0 []).getD 0 0) (YW (((ρ 3).tR.getD 0 []).getD 0 0).toNat) (((ρ 1).tR.getD 0 []).getD 2 0)) (Zc (bAD (((ρ 1).tR.getD 0 []).getD 3 0) (YW (((ρ 3).tR.getD 0 []).getD 1 0).toNat) (((ρ 1).tR.getD 0 []).getD 5 0)) emp) := rfl
 rw [e2, Zf]
 have k : ∀ n, (nt (rA 1) z0 n).den T ρ = .int (((ρ 1).tR.getD 0 []).getD n 0) := fun n => rfl
 have kb : ∀ n, (bR 3 n).den T ρ = .bytes (YW (((ρ 3).tR.getD 0 []).getD n 0).toNat) := fun n => rfl
 cases hR : (ρ 1).tR with
 | nil => rw [hR] at r0; cases r0
 | cons r R =>
  have hn : R = [] := ZOd (by rw [hR, ZOi] at r0; omega)
  subst hn
  cases hW : (ρ 3).tR with
  | nil => rw [hR, hW] at hl; cases hl
  | cons w W =>
   have hn : W = [] := ZOd (by rw [hR, hW] at hl; simpa using hl.symm)
   subst hn
   rw [hR, hW] at hpre
   have hq : itP r w h := by rw [<- ZyB]; exact hpre
   obtain ⟨⟨f1, f2, f3, f4, f5, f6⟩, hh⟩ := hq
   refine ⟨hh, fun x hx => ?_⟩
   simp only [ZJr, List.mem_cons, List.not_mem_nil, or_false] at hx
   rcases hx with rfl | rfl | rfl | rfl | rfl | rfl
   ·show (ap2 45 ((nt (rA 1) z0 1).den T ρ) ((ZDf (bR 3 0)).den T ρ)).tP
    rw [p45]
    show ((ρ 1).tR.getD 0 []).getD 1 0 = ((YW (((ρ 3).tR.getD 0 []).getD 0 0).toNat).length : Nat)
    rw [hR, hW]; exact f1
   ·show (ap2 45 ((nt (rA 1) z0 4).den T ρ) ((ZDf (bR 3 1)).den T ρ)).tP
    rw [p45]
    show ((ρ 1).tR.getD 0 []).getD 4 0 = ((YW (((ρ 3).tR.getD 0 []).getD 1 0).toNat).length : Nat)
    rw [hR, hW]; exact f2
   ·rw [Zh]
    show ((ρ 1).tR.getD 0 []).getD 1 0 <= ((ρ 1).tR.getD 0 []).getD 2 0
    rw [hR]; exact f3
   ·rw [Zh]
    show ((ρ 1).tR.getD 0 []).getD 4 0 <= ((ρ 1).tR.getD 0 []).getD 5 0
    rw [hR]; exact f4
   ·rw [Zh]
    show 0 <= ((ρ 1).tR.getD 0 []).getD 0 0
    rw [hR]; exact f5
   ·rw [Zh]
    show 0 <= ((ρ 1).tR.getD 0 []).getD 3 0
    rw [hR]; exact f6
def ZNw : Cx := { specs := [(23, [Zsw]), (12, [ZzH]), (17, [ZpL])], anns := [(6, [(10, .ghost ZJr [.tmp 5])])] }
def ZD8 : Ctr := Zpa
def ZJo : SX := .f2 122 z (.f1 152 z)
def ZG6 : SX := .f2 122 (.f1 35 (.byt [])) (.f2 122 z ZJo)
def ZBw : SX := .f2 122 (.f1 35 (.byt [])) ZG6
def ZEO : SX := .f2 122 (k 1) (.f2 122 (k 1) ZBw)
def ZIg : SX := .f2 122 (k 3) (.f2 122 (k 1) (.f2 122 (.f1 35 (.byt [107])) (.f2 122 (.f1 35 (.byt [120])) (.f2 122 (k 1) ZJo))))
def ZHN : SX := .f2 122 (k 1) (.f2 122 (k 2) ZBw)
def ZEM : SX := .f2 122 (k 5) (.f2 122 (k 1) (.f2 122 (.f1 35 (.byt [])) (.f2 122 (.f1 35 (.byt [])) (.f2 122 z (.f2 122 (k 1) (.f1 152 z))))))
def Zjc : SX := .f2 124 ZEO (.f2 124 ZIg (.f2 124 ZHN (.f2 124 (.f2 122 (k 2) (.f2 122 (k 2) (.f2 122 (.f1 35 (.byt [107])) ZG6))) (.f2 124 ZEM (.f2 124 (.f2 122 (k 5) (.f2 122 (k 2) (.f2 122 (.f1 35 (.byt [])) (.f2 122 (.f1 35 (.byt [])) (.f2 122 z (.f2 122 (k 2) (.f1 152 z))))))) (.f1 154 z))))))
def ZDw : SX := vR 603 Zjc
def ZCI : SX := o 660 Zjc
def ZfY : SX := .f1 30 ZCI
def Zo2 : SX := .f2 124 ZEO (.f2 124 ZIg (.f2 124 ZHN (.f1 154 z)))
def ZoO : SX := .f2 124 (.f2 122 (k 8) (.f2 122 z ZBw)) (.f1 154 z)
def Zpb : SX := .f2 124 ZEM (.f1 154 z)
def Zpy : SX := .f1 30 (o 660 Zpb)
def ZA0 : SX := e (a 7) (k 3)
def Zyx : SX := e (a 8) (k 4)
def ZvJ : SX := e (a 9) z
def ZwW : SX := e (.f1 32 (r 11)) (k 1)
def ZuQ : SX := e (a 13) z
def ZwV : SX := e ZfY (k 2)
def ZzN : SX := e (a 17) z
def Zai : SX := .f2 155 (.bool true) (.bool false)
def Ziv : SX := .f3 112 (r 11) z (k 1)
def Zzh : SX := .f1 36 (.f3 112 ZDw z z)
def Zvq : SX := .f1 31 Zzh
def ZhC : SX := .f3 112 (r 11) z (k 4)
def ZuY : SX := .f1 36 (.f3 112 ZDw z (k 1))
def Ztz : SX := .f1 31 ZuY
def Zup : SX := .f2 150 (.f2 114 Zzh Ziv) (.byt [107])
def ZzF : SX := .f2 150 (.f2 114 ZuY ZhC) (.byt [120])
def ZxT : SX := e (.f2 110 ZCI z) (k 2)
def ZxC : SX := e (.f2 110 ZCI (k 1)) (k 1)
def ZvK : SX := e (a 18) (k (-1))
def Ztn : SX := e (a 19) z
def ZAe : SX := e (a 20) z
def ZtO : SX := e (a 24) (k 280)
def ZLM : VC := u 0 .int (i (l z (a 0)) (u 1 .int (i (l z (a 1)) (u 2 .int (i (l z (a 2)) (u 3 .int (i (l z (a 3)) (u 4 .int (i (l z (a 4)) (u 5 .int (i (l z (a 5)) (u 6 .int (i (l z (a 6)) (u 7 .int (u 8 .int (u 9 .int (i (e (a 7) (v 520 Zjc)) (i (e (a 8) (v 521 Zjc)) (i (e (a 9) (v 522 Zjc)) (u 10 .int (u 11 .rows (u 12 .int (u 13 .int (i (e (a 13) (v 604 Zjc)) (i (e (.f1 32 (r 11)) (.f1 32 ZDw)) (i (l (.f1 32 (r 11)) (a 12)) (i (.f2 50 (l z (a 10)) (e (.f1 32 (r 11)) z)) (u 14 .int (u 15 .int (u 16 .bool (u 17 .int (i (.f2 48 (q 16) (p 661 Zjc)) (i (e (a 17) (v 662 Zjc)) (i (l ZfY (a 15)) (i (.f2 50 (l z (a 14)) (e ZfY z)) (i (l ZfY (k 8)) (u 18 .int (u 19 .int (u 20 .int (i (e (a 18) (v 520 Zo2)) (i (e (a 19) (v 521 Zo2)) (i (e (a 20) (v 522 Zo2)) (u 21 .int (i (l z (a 21)) (u 22 .int (u 23 .int (u 24 .int (i (e (a 22) (v 520 ZoO)) (i (e (a 23) (v 521 ZoO)) (i (e (a 24) (v 522 ZoO)) (u 25 .int (i (l z (a 25)) (u 26 .int (i (l z (a 26)) (u 27 .int (u 28 .int (u 29 .bool (u 30 .int (i (.f2 48 (q 29) (p 661 Zpb)) (i (e (a 30) (v 662 Zpb)) (i (l Zpy (a 28)) (i (.f2 50 (l z (a 27)) (e Zpy z)) (i (l Zpy (k 8)) (.and (i ZA0 (.and (i Zyx (.and (i ZvJ (.and (i ZwW (.and (i ZuQ (.and (i ZwV (.and (i (.f1 2 (.f1 2 (q 16))) (.and (i (.f1 2 ZzN) (n Zai .tt)) (i ZzN (i (e Ziv Zvq) (i (e ZhC Ztz) (i (l Ziv (.f3 112 (r 11) z (k 2))) (i (l ZhC (.f3 112 (r 11) z (k 5))) (i (l z (.f3 112 (r 11) z z)) (i (l z (.f3 112 (r 11) z (k 3))) (n (t z (.f1 32 (r 11))) (n (l z Ziv) (n (l Ziv Zvq) (.and (i Zup (n (l z ZhC) (n (l ZhC Ztz) (.and (i ZzF (n (t z ZfY) (.and (i ZxT (n (t (k 1) ZfY) (.and (i ZxC (.and (i ZvK (.and (i Ztn (.and (i ZAe (.and (i ZtO (n (.f2 155 (.bool true) (e (a 30) (k 280))) .tt)) (i (.f1 2 ZtO) (n Zai .tt)))) (i (.f1 2 ZAe) (n Zai .tt)))) (i (.f1 2 Ztn) (n Zai .tt)))) (i (.f1 2 ZvK) (n Zai .tt)))) (i (.f1 2 ZxC) (n Zai .tt))))) (i (.f1 2 ZxT) (n Zai .tt))))) (i (.f1 2 ZzF) (n Zai .tt)))))) (i (.f1 2 Zup) (n Zai .tt))))))))))))))) (i (.f1 2 (q 16)) (n Zai .tt)))) (i (.f1 2 ZwV) (n Zai .tt)))) (i (.f1 2 ZuQ) (n Zai .tt)))) (i (.f1 2 ZwW) (n Zai .tt)))) (i (.f1 2 ZvJ) (n Zai .tt)))) (i (.f1 2 Zyx) (n Zai .tt)))) (i (.f1 2 ZA0) (n Zai .tt))))))))))))))))))))))))))))))))))))))))))))))))))))))))))))))))))
theorem ZLb : Yq Tryz.prog ZNw 12 6 ZD8 = ZLM := by kernel_rfl
theorem ZJF (S : Sig GG) (hS : OrSig S) : Zy S Tryz.prog 6 ZD8 := by
 refine Ze S (C := ZNw) (fuel := 12) (ZQ ⟨Zg (by decide) (ZK8 S hS.ou.ft.od.fi.js), Zg (by decide) (ZM7 S hS.ou.ft.od.fi), Zg (by decide) (ZDQ S hS), trivial⟩ ⟨⟨⟨by decide, ZNo S hS.ou.ft.od.fi⟩, trivial⟩, trivial⟩ trivial) fun ρ => ?_
 rw [ZLb]
 simp only [ZLM, ZJo, ZG6, ZBw, ZEO, ZIg, ZHN, ZEM, Zjc, ZDw, ZCI, ZfY, Zo2, ZoO, Zpb, Zpy, ZA0, Zyx, ZvJ, ZwW, ZuQ, ZwV, ZzN, Zai, Ziv, Zzh, Zvq, ZhC, ZuY, Ztz, Zup, ZzF, ZxT, ZxC, ZvK, Ztn, ZAe, ZtO, hS.ou.ft.od.fi.js.jt.jb.rf.u520, hS.ou.ft.od.fi.js.jt.jb.rf.u521, hS.ou.ft.od.fi.js.jt.jb.rf.u522, hS.ou.ft.od.fi.u603, hS.ou.ft.od.fi.u604, hS.u660, hS.u661, hS.u662, ZI, ZN5, VC.den, SX.den, Env.upd, ZS, ZD, beq_iff_eq, ZNX, beq_eq_false_iff_ne, ne_eq, ZNW, ZNV, Int.reduceToNat, Nat.reduceEqDiff, reduceIte, sB, sC]
 have eH : ([[1, 1, ((Zs [] : Nat) : Int), ((Zs [] : Nat) : Int), 0, 0], [3, 1, ((Zs [107] : Nat) : Int), ((Zs [120] : Nat) : Int), 1, 0], [1, 2, ((Zs [] : Nat) : Int), ((Zs [] : Nat) : Int), 0, 0], [2, 2, ((Zs [107] : Nat) : Int), ((Zs [] : Nat) : Int), 0, 0], [5, 1, ((Zs [] : Nat) : Int), ((Zs [] : Nat) : Int), 0, 1], [5, 2, ((Zs [] : Nat) : Int), ((Zs [] : Nat) : Int), 0, 2]] : List Ent) = awH := rfl
 have eK : ([[1, 1, ((Zs [] : Nat) : Int), ((Zs [] : Nat) : Int), 0, 0], [3, 1, ((Zs [107] : Nat) : Int), ((Zs [120] : Nat) : Int), 1, 0], [1, 2, ((Zs [] : Nat) : Int), ((Zs [] : Nat) : Int), 0, 0]] : List Ent) = awK := rfl
 have e8 : ([[8, 0, ((Zs [] : Nat) : Int), ((Zs [] : Nat) : Int), 0, 0]] : List Ent) = aw8 := rfl
 have e5 : ([[5, 1, ((Zs [] : Nat) : Int), ((Zs [] : Nat) : Int), 0, 1]] : List Ent) = aw5 := rfl
 have l1 : (Option.getD (some [2, 1]) [] : List Int) = [2, 1] := rfl
 have d1 : YW ((([[((Zs [107] : Nat) : Int), ((Zs [120] : Nat) : Int)]] : List (List Int)).getD 0 []).getD 0 0).toNat = [107] := by
  show YW (Int.toNat (Zs [107] : Nat)) = _
  rw [ZN5, Zo]
 have d2 : YW ((([[((Zs [107] : Nat) : Int), ((Zs [120] : Nat) : Int)]] : List (List Int)).getD 0 []).getD 1 0).toNat = [120] := by
  show YW (Int.toNat (Zs [120] : Nat)) = _
  rw [ZN5, Zo]
 simp only [eH, eK, e8, e5, aw_1, aw_2, aw_3, aw_4, aw_5, aw_6, aw_7, aw_8, l1, d1, d2]
 repeat' (first | exact trivial | apply And.intro | intro _)
 all_goals first
  | omega
  | rfl
  | (simp_all; done)
end
end Go.Proofs.YtidlngnhjffepaaGreat
namespace Go.Eng
open Go.ChangeShapes Go.WideShapes Go.Deep
theorem Zid {cs : List Value} {i : Nat} {v : Value} (h : (cs.drop i).take 1 = [v]) : cs[i]? = some v := by
 have h2 : ((cs.drop i).take 1)[0]? = some v := by rw [h]; rfl
 rw [List.getElem?_take_of_lt (by omega), ZOn] at h2
 simpa using h2
abbrev Zgu : List Fd := [.int .i64, .int .i64, .str, .str, .bool, .int .i64]
theorem ZvF (s : ByteArray) : Fd.str.val [((Zs s.data.toList : Nat) : Int)] = .string s := by
 show Value.string ⟨(YW (Int.toNat ((Zs s.data.toList : Nat) : Int))).toArray⟩ = _
 rw [ZN5, Zo]
theorem ZtW {H : Type} {enc : TypeId × Value -> H} {P : Program} {w : World} {base : Nat} {spare : Nat -> Bool} {Zmc : Bool} {t e : TypeId} {g0 g1 g2 g3 g4 g5 : Field} {fuel : Nat} {cs : List Value} {x : DataW H × List MemPlace}
  (ht : P.underlying t = some (.slice e)) (he : P.underlying e = some (.struct #[g0, g1, g2, g3, g4, g5])) (ce : P.cellsOf e = 6) (o0 : g0.offset = 0) (o1 : g1.offset = 1) (o2 : g2.offset = 2) (o3 : g3.offset = 3) (o4 : g4.offset = 4) (o5 : g5.offset = 5)
  (c0 : P.cellsOf g0.type = 1) (c1 : P.cellsOf g1.type = 1) (c2 : P.cellsOf g2.type = 1) (c3 : P.cellsOf g3.type = 1) (c4 : P.cellsOf g4.type = 1) (c5 : P.cellsOf g5.type = 1)
  (t0 : P.underlying g0.type = some (.int .i64)) (t1 : P.underlying g1.type = some (.int .i64)) (t2 : P.underlying g2.type = some .string) (t3 : P.underlying g3.type = some .string) (t4 : P.underlying g4.type = some .bool) (t5 : P.underlying g5.type = some (.int .i64))
  (h : DataW.trod enc P w base spare Zmc fuel t cs = some x) :
  (cs = [.slice none 0 0] /\ x = (.nil, [])) ∨
  ∃ (a : Addr) (len cap : Nat) (rows : List (List Int)), cs = [.slice (some a) len cap] /\ base <= a.block /\ len <= cap /\ cap <= maxLen /\ len = rows.length /\ (∃ ds sp, x.1 = .slice ds sp /\ ds.length = len) ∧
   ∀ j v, (rows.flatMap (rowVals Zgu))[j]? = some v -> w.cell? (a.add j) = some v := by
 rcases open_slice ht h with h0 | ⟨a, len, cap, m, n, D, Pl, rfl, hb, hl, hm, hmm, hxx, hx⟩
 ·exact .inl h0
 right
 have hlm : len <= m := by rw [hmm]; split <;> omega
 have each : ∀ i, i < m -> ∃ q : List Int, ∀ j, j < 6 -> ∃ v, (rowVals Zgu q)[j]? = some v /\ w.cell? (a.add (i * 6 + j)) = some v := by
  intro i hi
  obtain ⟨cs', h1, h2⟩ := hx i hi
  rw [ce] at h1
  obtain ⟨_, hlen, hcell⟩ := World.cells?_some h1
  obtain ⟨xs, k, hk, _, _, hxl, hf⟩ := DataW.trod_struct he h2
  have f0 := hf 0 g0 rfl
  have f1 := hf 1 g1 rfl
  have f2 := hf 2 g2 rfl
  have f3 := hf 3 g3 rfl
  have f4 := hf 4 g4 rfl
  have f5 := hf 5 g5 rfl
  rw [o0, c0, ZN1 (by rw [hxl]; show _ < 6; omega)] at f0
  rw [o1, c1, ZN1 (by rw [hxl]; show _ < 6; omega)] at f1
  rw [o2, c2, ZN1 (by rw [hxl]; show _ < 6; omega)] at f2
  rw [o3, c3, ZN1 (by rw [hxl]; show _ < 6; omega)] at f3
  rw [o4, c4, ZN1 (by rw [hxl]; show _ < 6; omega)] at f4
  rw [o5, c5, ZN1 (by rw [hxl]; show _ < 6; omega)] at f5
  obtain ⟨n0, e0, _, _⟩ := DataW.trod_int t0 f0
  obtain ⟨n1, e1, _, _⟩ := DataW.trod_int t1 f1
  obtain ⟨s2, e2, _, _⟩ := DataW.trod_string t2 f2
  obtain ⟨s3, e3, _, _⟩ := DataW.trod_string t3 f3
  obtain ⟨b4, e4, _⟩ := DataW.trod_bool t4 f4
  obtain ⟨n5, e5, _, _⟩ := DataW.trod_int t5 f5
  have e0 := Zid e0
  have e1 := Zid e1
  have e2 := Zid e2
  have e3 := Zid e3
  have e4 := Zid e4
  have e5 := Zid e5
  refine ⟨[n0, n1, (Zs s2.data.toList : Nat), (Zs s3.data.toList : Nat), if b4 = true then 1 else 0, n5], fun j hj => ?_⟩
  have hc := hcell j (by omega)
  rw [add_add] at hc
  match j, hj with
  | 0, _ => exact ⟨_, rfl, by rw [hc, e0]; rfl⟩
  | 1, _ => exact ⟨_, rfl, by rw [hc, e1]; rfl⟩
  | 2, _ => exact ⟨_, rfl, by rw [hc, e2]; exact congrArg some (ZvF s2).symm⟩
  | 3, _ => exact ⟨_, rfl, by rw [hc, e3]; exact congrArg some (ZvF s3).symm⟩
  | 4, _ => exact ⟨_, rfl, by rw [hc, e4]; cases b4 <;> rfl⟩
  | 5, _ => exact ⟨_, rfl, by rw [hc, e5]; rfl⟩
 obtain ⟨q, hq⟩ := choose_lt each
 refine ⟨a, len, cap, (List.range len).map q, rfl, hb, hl, hm, by rw [ZN8, List.length_range], ⟨_, _, by rw [hxx], by rw [ZN8, List.length_range]⟩, fun j v hj => ?_⟩
 have hlen6 : ∀ r : List Int, (rowVals Zgu r).length = 6 := fun r => ZU _ r
 have hjlt : j < len * 6 := by
  rcases ZNS j (len * 6) with h' | h'
  ·exact h'
  ·rw [List.getElem?_eq_none (by rw [Zbk _ 6 hlen6, ZN8, List.length_range]; exact h')] at hj; cases hj
 have hdm : j = j / 6 * 6 + j % 6 := by omega
 rw [hdm, Zc8 _ 6 hlen6 _ _ _ (Nat.mod_lt _ (by decide)), ZNU, List.getElem?_range (by omega)] at hj
 obtain ⟨v', h1, h2⟩ := hq (j / 6) (by omega) (j % 6) (Nat.mod_lt _ (by decide))
 have hj' : (rowVals Zgu (q (j / 6)))[j % 6]? = some v := hj
 rw [h1] at hj'
 cases hj'
 rw [hdm]; exact h2
def ZE5 {H : Type} (w : World) (v : Value) (d : DataW H) (b o l c : Int) (n : Nat) (vals : List Value) : Prop :=
 v = .slice (if b < 0 then none else some ⟨b.toNat, o.toNat, none⟩) l.toNat c.toNat /\ 0 <= l /\ l = n /\ l <= c /\ l <= 9223372036854775807 ∧
  ((0 <= b \/ vals = []) /\ ∀ i u, vals[i]? = some u -> b.toNat < w.heap.size /\ w.cell? ⟨b.toNat, o.toNat + i, none⟩ = some u) /\ (d = .nil /\ l = 0 \/ ∃ ds sp, d = .slice ds sp /\ (ds.length : Int) = l)
theorem Zsc {P : Program} {W : World} {base : Nat} {t e : TypeId} {a : Addr} {len cap : Nat} (ht : P.underlying t = some (.slice e)) (hv : Value.okWide P W .any base t (.slice (some a) len cap)) : a.spot = none := by
 unfold Value.okWide at hv
 rw [ht] at hv
 unfold Cell.okWide at hv
 rw [ht] at hv
 simp only [Cell.ok] at hv
 rw [ht] at hv
 exact hv.2.2.2.1
theorem Zjx {H : Type} {enc : TypeId × Value -> H} {P : Program} {W : World} {base : Nat} {t e : TypeId} {g0 g1 g2 g3 g4 g5 : Field} {v : Value} {d : DataW H} {ps : List MemPlace}
  (ht : P.underlying t = some (.slice e)) (he : P.underlying e = some (.struct #[g0, g1, g2, g3, g4, g5])) (ce : P.cellsOf e = 6) (o0 : g0.offset = 0) (o1 : g1.offset = 1) (o2 : g2.offset = 2) (o3 : g3.offset = 3) (o4 : g4.offset = 4) (o5 : g5.offset = 5)
  (c0 : P.cellsOf g0.type = 1) (c1 : P.cellsOf g1.type = 1) (c2 : P.cellsOf g2.type = 1) (c3 : P.cellsOf g3.type = 1) (c4 : P.cellsOf g4.type = 1) (c5 : P.cellsOf g5.type = 1)
  (t0 : P.underlying g0.type = some (.int .i64)) (t1 : P.underlying g1.type = some (.int .i64)) (t2 : P.underlying g2.type = some .string) (t3 : P.underlying g3.type = some .string) (t4 : P.underlying g4.type = some .bool) (t5 : P.underlying g5.type = some (.int .i64))
  (hv : Value.okWide P W .any base t v) (h : DataW.Trod enc P W 0 (fun _ => true) true t v d ps) :
  ∃ (b o l c : Int) (L : List (List Int)), ZE5 W v d b o l c L.length (L.flatMap (rowVals Zgu)) := by
 obtain ⟨fuel, hf⟩ := h
 obtain ⟨a0, len, cap, rfl⟩ := okWide_slice ht hv
 rcases ZtW ht he ce o0 o1 o2 o3 o4 o5 c0 c1 c2 c3 c4 c5 t0 t1 t2 t3 t4 t5 hf with ⟨hcs, hx⟩ | ⟨a, len', cap', rows, hcs, _, hl, hm, hz, hd, hcell⟩
 ·simp [Value.cells] at hcs
  obtain ⟨rfl, rfl, rfl⟩ := hcs
  simp only [Prod.mk.injEq] at hx
  exact ⟨-1, 0, 0, 0, [], rfl, by decide, by decide, by decide, by decide, ⟨.inr rfl, fun i u hu => by simp at hu⟩, .inl ⟨hx.1, rfl⟩⟩
 ·simp [Value.cells] at hcs
  obtain ⟨rfl, rfl, rfl⟩ := hcs
  have hspot := Zsc ht hv
  obtain ⟨b, off, spot⟩ := a
  simp only at hspot
  subst hspot
  have hmax : maxLen = 9223372036854775807 := by decide
  obtain ⟨ds, sp, h1, h2⟩ := hd
  refine ⟨b, off, len, cap, rows, by rw [if_neg (by omega)]; simp, by omega, by omega, by omega, by omega, ⟨.inl (by omega), fun i u hu => ?_⟩, .inr ⟨ds, sp, h1, by omega⟩⟩
  have hc := hcell i u hu
  rw [add_plain] at hc
  exact ⟨by simpa using (World.block_lt_of_cell? W ⟨b, off + i, none⟩ hc), by simpa using hc⟩
end Go.Eng
