/- Part of a proof. -/
import Derived.Test.YtidlngnhjffepaaPh6
set_option linter.unusedSimpArgs false
set_option linter.unusedVariables false
set_option maxRecDepth 20000
namespace Go.Proofs.Ytidlngnhjffepaa
noncomputable section
open Go.Eng
/-! ### Plain words -/
abbrev Stf := Int -> Bool × (List UInt8 × Bool)
def Zop (M : List (Int × Int)) : Stf := fun q => (Zv M q, vw (YQ 0 M q))
def ZEY (f : Stf) (ch : List (Int × Int)) : Stf := fun q => if Zv ch q = true then (true, vw (YQ 0 ch q)) else f q
def ZCH (RT : List (List Int)) (L : List Tx) (f : Stf) (P : List (List Int)) (t : Int) : Prop :=
 (∀ u ∈ P, okU RT L t u) /\ (Zaq RT L t).bad = [] /\ ∀ r ∈ (Zaq RT L t).rds, Yb f (r.drop 1) = true
def Zvj (RT : List (List Int)) (L : List Tx) (f : Stf) (P : List (List Int)) (rec : Stf -> List (List Int) -> Option (List Int)) (j : Nat) : Option (List Int) :=
 if Zp (ZCH RT L f P (g0 (P.getD j []))) = true then (rec (ZEY f (Zaq RT L (g0 (P.getD j []))).ch) (P.eraseIdx j)).map ((Zaq RT L (g0 (P.getD j []))).who :: ·) else none
def Zvh (RT : List (List Int)) (L : List Tx) : Nat -> Stf -> List (List Int) -> Option (List Int)
 | 0, _, P => if P = [] then some [] else none
 | n + 1, f, P => if P = [] then some [] else (List.range P.length).findSome? fun j => Zvj RT L f P (Zvh RT L n) j
def Zoq (RT : List (List Int)) (L : List Tx) (M : List (Int × Int)) (P : List (List Int)) : Option (List Int) := Zvh RT L P.length (Zop M) P
structure OuSig (S : Sig GG) : Prop where
 ft : OfSig S
 u640 : ∀ a b c d, S.usr 640 a b c d = .rows (a.tR.eraseIdx b.tI.toNat)
 u641 : ∀ a b c d, S.usr 641 a b c d = .ints ((Zoq c.tR (ZW a) b.tM d.tR).getD [])
 u642 : ∀ a b c d, S.usr 642 a b c d = .bool (Zoq c.tR (ZW a) b.tM d.tR).isSome
 u643 : ∀ a b c d, S.usr 643 a b c d = .bool (Zp (∀ j : Nat, (j : Int) < g0 (d.tR.getD 0 []) -> Zvj c.tR (ZW a) (Zop b.tM) (d.tR.drop 1) (Zvh c.tR (ZW a) ((d.tR.drop 1).length - 1)) j = none))
def trmC : Ctr := ⟨[.int, .int, .int, .rows, .int], [.one (slC (ai 0) (ai 1) (ai 2) 1)], [pAr (ai 0) (rA 3) (ai 4)], [eLe z0 (ai 1), eLe (ai 1) (Zg (rA 3))], [], .tup [], [pAr (ai 0) (tk (rA 3) (ai 1)) (ai 4)], []⟩
theorem ZLj {G : Type} (S : Sig G) : Zbp S trmC := by
 refine Ys S fun T w0 ρ h hu hp hd hr hpre => ⟨ρ, Ext.refl _ _, ?_, fun x hx => nomatch hx⟩
 have e1 : hpDen T ρ w0 trmC.pre = Zc (rAD pE (ρ 0).tI (ρ 3).tR (ρ 4).tI) emp := rfl
 have e2 : hpDen T ρ w0 trmC.post = Zc (rAD pE (ρ 0).tI ((ρ 3).tR.take (ρ 1).tI.toNat) (ρ 4).tI) emp := rfl
 rw [e1, Zd] at hpre
 rw [e2, Zd]
 obtain ⟨spare, h1, h2, h3, h4⟩ := hpre
 generalize (ρ 3).tR = R at *
 generalize (ρ 1).tI.toNat = n at *
 have hv : pE.vals (U.rows R : U Unit) = pE.vals (U.rows (R.take n) : U Unit) ++ pE.vals (U.rows (R.drop n) : U Unit) := by
  show R.flatMap _ = (R.take n).flatMap _ ++ (R.drop n).flatMap _
  rw [<- List.flatMap_append, List.take_append_drop]
 refine ⟨pE.vals (U.rows (R.drop n) : U Unit) ++ spare, ?_, h2, h3, ?_⟩
 ·rw [<- h1, hv]; simp only [ZNY]; omega
 ·rw [hv, ZOh] at h4; exact h4
def dlL : SX := SX.mk2 40 (ai 4) (SX.mk2 41 (Zg (rA 1)) (ZJO (ai 4)))
def ZyD : Ctr := ⟨[.int, .rows, .int, .int, .int], [.one (slC (ai 0) (Zg (rA 1)) (ai 2) 1), .one (.int .i64 (ai 4)), .one (.int .i64 (ZJO (ai 4)))], [pAr (ai 0) (rA 1) (ai 3)],
 [eLe z0 (ai 4), eLt (ai 4) (Zg (rA 1)), eLe (Zg (rA 1)) (ai 2), eLe dlL (ai 2), eLe (ai 2) (ai 3), eLe (Zg (rA 1)) (.int 1000)], [], .one (slC (ai 0) (SX.mk2 41 (Zg (rA 1)) (.int 1)) (ai 2) 1), [pAr (ai 0) (usR 640 (rA 1) (ai 4) z0) (ai 3)], []⟩
def ZMB : Cx := { specs := [], anns := [(47, [(7, .ghost trmC [.tmp 0])])] }
def ZmT : SX := .f2 40 (a 4) (k 1)
def Zx7 : SX := .f2 41 (.f1 32 (r 1)) ZmT
def Zeg : SX := .f2 40 (a 4) Zx7
def ZJq : SX := e (a 4) ZmT
def ZIe : SX := wR 640 (r 1) (a 4)
def ZHu : SX := .f2 40 (.f1 32 (r 1)) (k (-1))
def ZCr : SX := .f2 41 (.f1 32 (r 1)) Zeg
def ZI3 : SX := .f2 40 Zeg ZCr
def ZIi : SX := .f2 115 (r 1) (a 4)
def ZID : SX := .f2 115 (.f2 118 (r 1) ZmT) Zx7
def ZAj : SX := .f2 118 (r 1) Zeg
def ZyW : SX := .f2 121 ZIi (.f2 121 ZID ZAj)
def ZzB : SX := .f2 115 ZyW Zeg
def Zvk : SX := .f2 127 ZCr (.f2 122 (k (-1)) (.f1 152 z))
def ZAs : SX := .f2 118 ZyW ZI3
def ZLZ : VC := i (l z (a 4)) (i (t (a 4) (.f1 32 (r 1))) (i (l (.f1 32 (r 1)) (a 2)) (i (l Zeg (a 2)) (i (l (a 2) (a 3)) (i (l (.f1 32 (r 1)) (k 1000)) (n (l z (a 2)) (n (l (a 4) ZmT) (n (l z ZmT) (n (l ZmT (.f1 32 (r 1))) (.and (i ZJq (n (.f2 155 ZIe (r 1)) (n (e ZHu (.f1 32 (r 1))) .tt))) (i (.f1 2 ZJq) (n (l (a 4) (a 2)) (n (l (a 4) (.f1 32 (r 1))) (n (l Zeg (a 3)) (n (l z Zx7) (n (l Zx7 (.f2 41 (a 2) ZmT)) (n (l (.f2 40 Zeg (k 1)) (.f1 32 (r 1))) (n (l z Zeg) (n (l Zeg (.f1 32 (r 1))) (n (l z ZCr) (n (l ZCr (.f2 41 (a 2) Zeg)) (n (l ZI3 (.f2 40 (.f1 32 ZIi) (.f2 40 (.f1 32 ZID) (.f1 32 ZAj)))) (n (l Zeg (.f2 40 (.f1 32 ZzB) (.f2 40 (.f1 32 Zvk) (.f1 32 ZAs)))) (n (.f2 155 ZIe (.f2 115 (.f2 121 ZzB (.f2 121 Zvk ZAs)) Zeg)) (n (e ZHu Zeg) .tt)))))))))))))))))))))))))
theorem ZMZ : Zcl Try.prog ZMB 12 47 ZyD = ZLZ := by kernel_rfl
theorem ZLz (S : Sig GG) (hS : OuSig S) : ZR S Try.prog 47 ZyD := by
 refine Zo S (C := ZMB) (fuel := 12) (YV trivial ⟨⟨⟨by decide, ZLj S⟩, trivial⟩, trivial⟩ trivial) fun ρ => ?_
 rw [ZMZ]
 simp only [ZLZ, ZmT, Zx7, Zeg, ZJq, ZIe, ZHu, ZCr, ZI3, ZIi, ZID, ZAj, ZyW, ZzB, Zvk, ZAs, hS.u640, ZY, ZN0, VC.den, SX.den, Env.upd, ZaN, Yr, beq_iff_eq, ZNS, beq_eq_false_iff_ne, ne_eq, ZNR, ZNQ, Int.reduceToNat, Nat.reduceEqDiff, reduceIte, sB, sC]
 generalize (ρ 1).tR = R
 generalize (ρ 2).tI = c
 generalize (ρ 3).tI = c3
 intro h1 h2 h3 h4 h5 h6
 generalize (ρ 4).tI = i at *
 obtain ⟨n, rfl⟩ := ZNL h1
 have hn : n < R.length := by omega
 have e1 : ((n : Int) + 1).toNat = n + 1 := by omega
 have e2 : ((R.length : Int) - ((n : Int) + 1)).toNat = R.length - (n + 1) := by omega
 have e3 : ((n : Int) + ((R.length : Int) - ((n : Int) + 1))).toNat = R.length - 1 := by omega
 simp only [ZN0, e1, e2, e3, ZGG, U.tRi, U.tIi] at *
 have l1 : (R.take n).length = n := by rw [ZNV]; omega
 have l2 : ((R.drop (n + 1)).take (R.length - (n + 1))) = R.drop (n + 1) := ZN5 (by rw [ZN7]; omega)
 have l3 : (R.drop (n + 1)).length = R.length - (n + 1) := ZN7
 have l4 : (R.drop (R.length - 1)).length = 1 := by rw [ZN7]; omega
 have l5 : (R.take n ++ (R.drop (n + 1) ++ R.drop (R.length - 1))).take (R.length - 1) = R.take n ++ R.drop (n + 1) := by
  rw [<- ZOh, List.take_left']
  rw [ZNY, l1, l3]; omega
 have l6 : (R.take n ++ R.drop (n + 1)).length = R.length - 1 := by rw [ZNY, l1, l3]; omega
 simp only [l2, l5]
 refine ⟨by omega, by omega, by omega, by omega, fun h => absurd h (by omega), fun _ => ⟨by omega, by omega, by omega, by omega, by omega, by omega, by omega, by omega, by omega, by omega, by rw [l1, l3, l4]; omega, ?_, ?_, by omega, trivial⟩⟩
 ·rw [l6]; omega
 ·rw [List.take_left' l6, List.eraseIdx_eq_take_drop_succ]
/-! ### Plain lemmas of the order -/
theorem ZHy (M : List (Int × Int)) : Ziv M (Zop M) := fun _ => ⟨rfl, rfl⟩
theorem ZEA {M ch M' : List (Int × Int)} (h : ZxR M ch M') : Zop M' = ZEY (Zop M) ch := by
 funext q
 obtain ⟨a, b⟩ := h q
 unfold Zop ZEY
 by_cases hc : Zv ch q = true
 ·rw [if_pos hc] at b ⊢
  rw [a, hc, b, Bool.or_true]
 ·rw [if_neg hc] at b ⊢
  have : Zv ch q = false := by simpa using hc
  rw [a, this, b, Bool.or_false]
theorem ZEX (RT : List (List Int)) (L : List Tx) (M : List (Int × Int)) (P : List (List Int)) (t : Int) : ZKh ([t] :: P) RT M L ↔ ZCH RT L (Zop M) P t := by
 unfold ZKh ZCH
 simp only [Zo1 (ZHy M)]
 exact Iff.rfl
theorem ZuO {α : Type} {f : Nat -> Option α} {n i : Nat} {a : α} (hi : i < n) (h0 : ∀ j < i, f j = none) (h1 : f i = some a) : (List.range n).findSome? f = some a := by
 induction n with
 | zero => omega
 | succ n ih =>
  rw [List.range_succ, List.findSome?_append]
  rcases ZNN i n with q | q
  ·rw [ih q]; rfl
  ·have : i = n := by omega
   subst this
   have : (List.range i).findSome? f = none := by
    rw [List.findSome?_eq_none_iff]
    intro j hj; exact h0 j (List.mem_range.1 hj)
   rw [this]; simp [h1]
theorem Zxd {α : Type} {f : Nat -> Option α} {n : Nat} (h0 : ∀ j < n, f j = none) : (List.range n).findSome? f = none := by
 rw [List.findSome?_eq_none_iff]
 intro j hj; exact h0 j (List.mem_range.1 hj)
theorem ZEc (RT : List (List Int)) (L : List Tx) (M : List (Int × Int)) : Zoq RT L M [] = some [] := rfl
theorem Zvm {RT : List (List Int)} {L : List Tx} {M : List (Int × Int)} {P : List (List Int)} (h : P ≠ []) : Zoq RT L M P = (List.range P.length).findSome? fun j => Zvj RT L (Zop M) P (Zvh RT L (P.length - 1)) j := by
 unfold Zoq
 cases hl : P.length with
 | zero => exact absurd (ZN8 hl) h
 | succ n =>
  show (if P = [] then _ else _) = _
  rw [if_neg h, hl]; rfl
theorem ZDS {RT : List (List Int)} {L : List Tx} {f : Stf} {P : List (List Int)} {rec : Stf -> List (List Int) -> Option (List Int)} {j : Nat} (h : ¬ ZCH RT L f P (g0 (P.getD j []))) : Zvj RT L f P rec j = none := by
 unfold Zvj; rw [if_neg (by rw [Zi]; exact h)]
theorem ZCX {RT : List (List Int)} {L : List Tx} {f : Stf} {P : List (List Int)} {rec : Stf -> List (List Int) -> Option (List Int)} {j : Nat} (h : ZCH RT L f P (g0 (P.getD j []))) :
  Zvj RT L f P rec j = (rec (ZEY f (Zaq RT L (g0 (P.getD j []))).ch) (P.eraseIdx j)).map ((Zaq RT L (g0 (P.getD j []))).who :: ·) := by
 unfold Zvj; rw [if_pos (by rw [Zi]; exact h)]
def orA : List Srt := [.int, .amap, .int, .rows, .int, .int, .rows, .g]
def orL : SX := .us .ints 641 (gA 7) (mA 1) (rA 6) (rA 3)
def orB : SX := .us .bool 642 (gA 7) (mA 1) (rA 6) (rA 3)
def Zda (k : SX) : Ctr := ⟨orA, [.one (.map (ai 0)), .one (slC (ai 2) (Zg (rA 3)) (ai 4) 1)], [scC (ai 0) (mA 1), pAr (ai 2) (rA 3) (ai 5), txC (rA 6) (gA 7)],
 [eLe (.f2 40 (Zg (rA 3)) (.int 100)) k, eLe (Zg (rA 3)) (.int 1000), usB 560 (rA 3) (rA 6) z0, usB 621 (rA 3) z0 z0, usB 633 (gA 7) z0 z0, eLe (Zg (rA 3)) (ai 4), eLe (ai 4) (ai 5), eLe z0 (ai 0), .f2 50 (eLe z0 (ai 2)) (.f2 45 (Zg (rA 3)) z0)], [.int, .int, .bool],
 .tup [(false, [sl1 (ai 8) (ZbW orL) (ai 9)]), (false, [.bool (qA 10)])], [scC (ai 0) (mA 1), pAr (ai 2) (rA 3) (ai 5), txC (rA 6) (gA 7), iAr (ai 8) orL (ai 9)],
 [.f2 48 (qA 10) orB, eLe (ZbW orL) (ai 9), .f2 50 (eLe z0 (ai 8)) (.f2 45 (ZbW orL) z0), eLe (ZbW orL) (Zg (rA 3))]⟩
def ordI : Inv := ⟨[.int], [(16, .one (.int .i64 (di 0)))], [], [eLe z0 (di 0), eLe (di 0) (Zg (rA 3)), .us .bool 643 (gA 7) (mA 1) (rA 6) (Zae (ZtA (di 0)) (rA 3))], .f2 41 (Zg (rA 3)) (di 0)⟩
def Zht (k' : SX) : Cx := { specs := [(45, [ZBF]), (46, [Zm7]), (25, [ZnT]), (47, [ZyD]), (30, [Zda k'])], anns := [(30, [(2, .ghost ZEC []), (4, .inv ordI), (8, .ghost Zt2 [.tmp 7]), (500008, .ghost ZlI [.tmp 7]), (11, .ghost Zt2 [.tmp 7]), (500011, .ghost ZlI [.tmp 7]), (13, .ghost ZEC [])])] }
def ZIw : SX := l z (a 2)
def Zw2 : SX := e (.f1 32 (r 3)) z
def ZHh : SX := .us .bool 642 (g 7) (m 1) (r 6) (r 3)
def ZDp : SX := .f2 48 (.bool true) ZHh
def Zvn : SX := .us .ints 641 (g 7) (m 1) (r 6) (r 3)
def Zm5 : SX := .f1 30 Zvn
def ZGv : SX := l Zm5 z
def Zuw : SX := e Zm5 z
def ZHv : SX := .f2 50 (.bool false) Zuw
def ZwE : SX := l Zm5 (.f1 32 (r 3))
def ZBl : SX := .f2 155 Zvn (.f1 152 z)
def ZlN : SX := .f3 112 (r 3) (a 8) z
def ZiB : SX := .f2 40 (a 8) (k 1)
def ZtN : SX := .f1 23 ZiB
def Zte : SX := .f2 41 (.f1 32 (r 3)) ZiB
def ZrR : SX := l z Zte
def ZtI : SX := t Zte (.f2 41 (.f1 32 (r 3)) (a 8))
def Zr9 : SX := l z ZiB
def ZtT : SX := l ZiB (.f1 32 (r 3))
def Zug : SX := .us .bool 643 (g 7) (m 1) (r 6) (.f2 124 (.f2 122 ZiB (.f1 152 z)) (r 3))
def Zb3 : SX := d 566 (r 6) ZlN
def Zzz : SX := .f3 112 (r 6) Zb3 z
def Zr4 : SX := e ZlN Zzz
def ZCh : SX := v 552 (g 7)
def ZrX : SX := t Zb3 ZCh
def Zzl : SX := .f1 32 (wR 545 (g 7) Zb3)
def Zr8 : SX := l Zzl (.f3 112 (r 6) Zb3 (k 3))
def ZzA : SX := .f1 30 (wN 546 (g 7) Zb3)
def ZrW : SX := l ZzA (.f3 112 (r 6) Zb3 (k 5))
def ZsT : SX := .f2 50 (l z (.f3 112 (r 6) Zb3 (k 2))) (e Zzl z)
def ZsZ : SX := .f2 50 (l z (.f3 112 (r 6) Zb3 (k 4))) (e ZzA z)
def Ztm : SX := l z (.f3 112 (r 6) Zb3 (k 1))
def ZtX : SX := l z Zzz
def ZsJ : SX := e (.f1 32 (r 6)) ZCh
def ZjT : SX := wR 640 (.f1 154 z) (a 8)
def Zhr : SX := .f1 32 ZjT
def ZxM : SX := .us .ints 641 (g 7) (m 11) (r 6) ZjT
def Zhm : SX := .f1 30 ZxM
def Zwi : SX := l z (a 12)
def ZwA : SX := l z (a 15)
def ZnG : SX := .f2 40 Zhm (k 1)
def ZyG : SX := l z (a 16)
def Zwl : SX := d 540 (g 7) Zb3
def ZBz : SX := l z (a 13)
def Zjt : SX := wR 640 (r 3) (a 8)
def Zir : SX := .f1 32 Zjt
def ZB1 : SX := .us .ints 641 (g 7) (m 11) (r 6) Zjt
def Zit : SX := .f1 30 ZB1
def Zms : SX := .f2 40 Zit (k 1)
def Zwu : SX := l z (a 19)
def Zgj (k k' : SX) : VC := (.imp (.f2 47 (.f2 40 (.f1 32 (.at .rows 3)) (.int 100)) k) (.imp (.f2 47 (.f1 32 (.at .rows 3)) (.int 1000)) (.imp (.us .bool 560 (.at .rows 3) (.at .rows 6) 
  (.int 0) (.int 0)) (.imp (.us .bool 621 (.at .rows 3) (.int 0) (.int 0) (.int 0)) (.imp (.us .bool 633 (.at .g 7) (.int 0) (.int 0) (.int 0)) (.imp 
  (.f2 47 (.f1 32 (.at .rows 3)) (.at .int 4)) (.imp (.f2 47 (.at .int 4) (.at .int 5)) (.imp (.f2 47 (.int 0) (.at .int 0)) (.imp (.f2 50 ZIw Zw2) 
  (.and (.imp Zw2 (.need ZDp (.need ZGv (.need ZHv (.need ZwE (.need ZBl (.need Zuw (.tt)))))))) (.imp (.f1 2 Zw2) (.need (.us .bool 
  643 (.at .g 7) (.at .amap 1) (.at .rows 6) (.f2 124 (.f2 122 (.int 0) (.f1 152 (.int 0))) (.at .rows 3))) (.all 8 .int (.imp (.f2 47 (.int 0) (.at 
  .int 8)) (.imp (.f2 47 (.at .int 8) (.f1 32 (.at .rows 3))) (.imp (.us .bool 643 (.at .g 7) (.at .amap 1) (.at .rows 6) (.f2 124 (.f2 122 (.at .int 8) 
  (.f1 152 (.int 0))) (.at .rows 3))) (.and (.imp (.f2 46 (.at .int 8) (.f1 32 (.at .rows 3))) (.need (.us .bool 565 (.at .rows 6) ZlN (.int 0) (.int 
  0)) (.all 9 .bool (.imp (.f2 48 (.at .bool 9) (.us .bool 631 (.f2 124 (.f2 122 ZlN (.f1 152 (.int 0))) (.at .rows 3)) (.at .rows 6) (.at .amap 1) 
  (.at .g 7))) (.and (.imp (.f1 2 (.at .bool 9)) (.need ZtN (.need ZrR (.need ZtI (.need Zr9 (.need ZtT (.need Zug (.tt)))))))) (.imp 
  (.f1 2 (.f1 2 (.at .bool 9))) (.all 10 .int (.imp (.f2 47 (.int 0) (.at .int 10)) (.imp Zr4 (.imp ZrX (.imp Zr8 (.imp ZrW (.imp ZsT 
  (.imp ZsZ (.imp Ztm (.imp ZtX (.imp ZsJ (.all 11 .amap (.imp (.us .bool 531 (.at .amap 1) (.us .amap 544 (.at .g 7) Zb3 (.int 0) (.int 
  0)) (.at .amap 11) (.int 0)) (.need (.f2 47 (.int 0) Zb3) (.and (.imp (.f2 46 (.at .int 2) (.int 0)) (.need ZtN (.need (.f2 46 (.at .int 8) 
  (.int 0)) (.need (.f2 47 (.f2 40 (.at .int 8) (.f2 41 (.int 0) ZiB)) (.int 0)) (.need (.f2 47 (.f2 40 Zhr (.int 100)) k') (.need (.f2 47 Zhr (.int 1000)) 
  (.need (.us .bool 560 ZjT (.at .rows 6) (.int 0) (.int 0)) (.need (.us .bool 621 ZjT (.int 0) (.int 0) (.int 0)) (.need (.f2 47 Zhr (.int 0)) 
  (.need (.f2 50 (.bool false) (.f2 45 Zhr (.int 0))) (.need (.f2 45 Zhr (.int (-1))) (.all 12 .int (.all 13 .int (.all 14 .bool (.imp (.f2 48 
  (.at .bool 14) (.us .bool 642 (.at .g 7) (.at .amap 11) (.at .rows 6) ZjT)) (.imp (.f2 47 Zhm (.at .int 13)) (.imp (.f2 50 Zwi (.f2 45 Zhm 
  (.int 0))) (.imp (.f2 47 Zhm Zhr) (.and (.imp (.at .bool 14) (.imp Zr4 (.imp ZrX (.imp Zr8 (.imp ZrW (.imp ZsT (.imp ZsZ (.imp 
  Ztm (.imp ZtX (.imp ZsJ (.all 15 .int (.imp ZwA (.need (.f2 47 (.f2 42 ZnG (.int 8)) (.int 140737488355328)) (.need (.f2 47 Zhm 
  Zhm) (.all 16 .int (.all 17 .int (.imp (.f2 47 ZnG (.at .int 17)) (.imp (.f2 50 ZyG (.f2 45 ZnG (.int 0))) (.need ZDp (.need (.f2 47 
  Zm5 (.at .int 17)) (.need (.f2 50 ZyG Zuw) (.need ZwE (.need (.f2 155 Zvn (.f2 122 Zwl ZxM)) (.need (.f2 45 Zm5 ZnG) 
  (.tt))))))))))))))))))))))))) (.imp (.f1 2 (.at .bool 14)) (.need ZrR (.need ZtI (.need Zr9 (.need ZtT (.need Zug 
  (.tt)))))))))))))))))))))))))) (.imp ZIw (.all 12 .int (.imp Zwi (.need (.f2 47 (.f2 42 (.f1 32 (.at .rows 3)) (.int 8)) (.int 140737488355328)) 
  (.need (.f2 47 (.f1 32 (.at .rows 3)) (.f1 32 (.at .rows 3))) (.all 13 .int (.all 14 .int (.imp (.f2 47 (.f1 32 (.at .rows 3)) (.at .int 14)) (.imp 
  (.f2 50 ZBz Zw2) (.need ZtN (.need (.f2 47 (.f2 40 (.at .int 8) Zte) (.at .int 14)) (.need (.f2 47 (.at .int 14) (.at .int 14)) (.need (.f2 47 (.f2 40 Zir (.int 100)) k') (.need (.f2 47 Zir (.int 1000)) (.need (.us .bool 560 Zjt (.at .rows 6) (.int 0) (.int 0)) (.need (.us .bool 621 Zjt 
  (.int 0) (.int 0) (.int 0)) (.need (.f2 47 Zir (.at .int 14)) (.need (.f2 50 ZBz (.f2 45 Zir (.int 0))) (.need (.f2 45 Zir (.f2 40 (.f1 32 
  (.at .rows 3)) (.int (-1)))) (.all 15 .int (.all 16 .int (.all 17 .bool (.imp (.f2 48 (.at .bool 17) (.us .bool 642 (.at .g 7) (.at .amap 11) (.at 
  .rows 6) Zjt)) (.imp (.f2 47 Zit (.at .int 16)) (.imp (.f2 50 ZwA (.f2 45 Zit (.int 0))) (.imp (.f2 47 Zit Zir) (.and (.imp (.at 
  .bool 17) (.imp Zr4 (.imp ZrX (.imp Zr8 (.imp ZrW (.imp ZsT (.imp ZsZ (.imp Ztm (.imp ZtX (.imp ZsJ (.all 18 .int (.imp 
  (.f2 47 (.int 0) (.at .int 18)) (.need (.f2 47 (.f2 42 Zms (.int 8)) (.int 140737488355328)) (.need (.f2 47 Zit Zit) (.all 19 .int (.all 20 
  .int (.imp (.f2 47 Zms (.at .int 20)) (.imp (.f2 50 Zwu (.f2 45 Zms (.int 0))) (.need ZDp (.need (.f2 47 Zm5 (.at .int 20)) (.need (.f2 
  50 Zwu Zuw) (.need ZwE (.need (.f2 155 Zvn (.f2 122 Zwl ZB1)) (.need (.f2 45 Zm5 Zms) (.tt))))))))))))))))))))))))) (.imp (.f1 2 
  (.at .bool 17)) (.need ZrR (.need ZtI (.need Zr9 (.need ZtT (.need Zug (.tt))))))))))))))))))))))))))))))))))))))))))))))))))))))) 
  (.imp (.f2 47 (.f1 32 (.at .rows 3)) (.at .int 8)) (.need (.f2 48 (.bool false) ZHh) (.need ZGv (.need ZHv (.need ZwE (.need ZBl (.need 
  Zuw (.tt)))))))))))))))))))))))))
theorem ZJh : Zcl Try.prog (Zht (.int 99)) 12 30 (Zda (.int 100)) = Zgj (.int 100) (.int 99) := by kernel_rfl
theorem ZIR : Zcl Try.prog (Zht (.int 100)) 12 30 (Zda (.int 101)) = Zgj (.int 101) (.int 100) := by kernel_rfl
theorem ZG1 : Zcl Try.prog (Zht (.int 101)) 12 30 (Zda (.int 102)) = Zgj (.int 102) (.int 101) := by kernel_rfl
theorem ZGi : Zcl Try.prog (Zht (.int 102)) 12 30 (Zda (.int 103)) = Zgj (.int 103) (.int 102) := by kernel_rfl
theorem ZGM : Zcl Try.prog (Zht (.int 103)) 12 30 (Zda (.int 104)) = Zgj (.int 104) (.int 103) := by kernel_rfl
theorem ZJj : Zcl Try.prog (Zht (.int 104)) 12 30 (Zda (.int 105)) = Zgj (.int 105) (.int 104) := by kernel_rfl
theorem ZGt : Zcl Try.prog (Zht (.int 105)) 12 30 (Zda (.int 106)) = Zgj (.int 106) (.int 105) := by kernel_rfl
theorem ZHW : Zcl Try.prog (Zht (.int 106)) 12 30 (Zda (.int 107)) = Zgj (.int 107) (.int 106) := by kernel_rfl
theorem ZFH : Zcl Try.prog (Zht (.int 107)) 12 30 (Zda (.int 108)) = Zgj (.int 108) (.int 107) := by kernel_rfl
theorem ZG9 (S : Sig GG) (hS : OuSig S) (k : Int) (ρ : Go.Eng.Env GG) : (Zgj (.int k) (.int (k - 1))).den S ρ := by
 simp only [Zgj, ZIw, Zw2, ZHh, ZDp, Zvn, Zm5, ZGv, Zuw, ZHv, ZwE, ZBl, ZlN, ZiB, ZtN, Zte, ZrR, ZtI, Zr9, ZtT, Zug, Zb3, Zzz, Zr4, ZCh, ZrX, Zzl, Zr8, ZzA, ZrW, ZsT, ZsZ, Ztm, ZtX, ZsJ, ZjT, Zhr, ZxM, Zhm, Zwi, ZwA, ZnG, ZyG, Zwl, ZBz, Zjt, Zir, ZB1, Zit, Zms, Zwu, hS.ft.od.fi.js.jt.jb.u531, hS.ft.od.fi.js.jt.u540, hS.ft.od.fi.js.jt.u544, hS.ft.od.fi.js.jt.u545, hS.ft.od.fi.js.jt.u546, hS.ft.od.fi.js.jt.u552, hS.ft.od.fi.js.jt.u560, hS.ft.od.fi.js.jt.u565, hS.ft.od.fi.js.jt.u566, hS.ft.od.u621, hS.ft.u631, hS.ft.u633, hS.u640, hS.u641, hS.u642, hS.u643, ZY, ZN0, VC.den, SX.den, Env.upd, ZaN, Yr, beq_iff_eq, ZNS, beq_eq_false_iff_ne, ne_eq, ZNR, ZNQ, Int.reduceToNat, Nat.reduceEqDiff, reduceIte, sB, sC]
 generalize (ρ 3).tR = P
 generalize (ρ 6).tR = RT
 generalize (ρ 1).tM = M
 generalize ZW (U.co S Srt.g (ρ 7)) = L
 generalize (ρ 0).tI = c0
 generalize (ρ 2).tI = c2
 generalize (ρ 4).tI = c4
 generalize (ρ 5).tI = c5
 intro h1 h2 h3 h4 h5 h6 h7 h8 h9
 have hdr : ∀ x : Int, List.drop 1 ([x] :: P) = P := fun _ => rfl
 have hg : ∀ x : Int, g0 (([x] :: P).getD 0 []) = x := fun _ => rfl
 simp only [hdr, hg]
 refine ⟨fun hz => ?_, fun hz => ⟨fun j hj => absurd hj (by omega), fun i i0 i1 g1 => ?_⟩⟩
 ·have hp : P = [] := ZN8 (by omega)
  subst hp
  rw [ZEc]
  exact ⟨rfl, ZN4 _, .inr rfl, ZN4 _, rfl, rfl, trivial⟩
 ·have hne : P ≠ [] := fun h => hz (by rw [h]; rfl)
  have hs := Zvm (RT := RT) (L := L) (M := M) hne
  obtain ⟨n, rfl⟩ := ZNL i0
  simp only [ZN0]
  have step : Zvj RT L (Zop M) P (Zvh RT L (P.length - 1)) n = none -> ∀ j : Nat, (j : Int) < (n : Int) + 1 -> Zvj RT L (Zop M) P (Zvh RT L (P.length - 1)) j = none := fun ho j hj => by
   rcases ZNN j n with q | q
   ·exact g1 j (by omega)
   ·have : j = n := by omega
    subst this; exact ho
  refine ⟨fun hn => ?_, fun hn => ?_⟩
  ·have hn2 : n < P.length := by omega
   have hmem : P.getD n [] ∈ P := by rw [ZNT, ZNW hn2]; exact ZOg _
   obtain ⟨t, ht, hbl⟩ := h3 _ hmem
   have ht2 : (P.getD n []).getD 0 0 = t := by rw [ht]; rfl
   have hg0 : g0 (P.getD n []) = t := ht2
   simp only [ht2]
   have hlen : (P.eraseIdx n).length = P.length - 1 := List.length_eraseIdx_of_lt hn2
   refine ⟨hbl, fun v hv => ⟨fun hno => ⟨⟨by omega, by omega⟩, by omega, by omega, by omega, by omega, step ?_, trivial⟩, fun hyes => ?_⟩⟩
   ·refine ZDS fun hf => ?_
    rw [hg0] at hf
    have := ZF ((ZEX RT L M P t).2 hf)
    rw [<- hv, hno] at this
    cases this
   ·have hfit : ZCH RT L (Zop M) P (g0 (P.getD n [])) := by rw [hg0]; exact (ZEX RT L M P t).1 (Zi.mp (hv.symm.trans hyes))
    have hT := ZCX (rec := Zvh RT L (P.length - 1)) hfit
    rw [hg0] at hT
    intro c _ _ _ _ _ _ _ _ _ _ M2 hM2
    have hT2 : Zvj RT L (Zop M) P (Zvh RT L (P.length - 1)) n = (Zoq RT L M2 (P.eraseIdx n)).map ((Zaq RT L t).who :: ·) := by
     rw [hT]; unfold Zoq; rw [hlen, ZEA hM2]; rfl
    refine ⟨by omega, fun hc => absurd (h9.resolve_left (by omega)) (by omega), fun hc _ _ => ⟨by omega, by omega, fun b r hr hb => ⟨⟨by omega, by omega⟩, by omega, by omega, by omega, by omega, fun u hu => h3 u (List.mem_of_mem_eraseIdx hu), ?_, by omega, by omega, by omega, fun b2 r2 w hw q1 q2 q3 => ⟨fun hy => ?_, fun hn => ⟨by omega, by omega, by omega, by omega, step ?_, trivial⟩⟩⟩⟩⟩
    ·exact List.Nodup.sublist (List.Sublist.map g0 (List.eraseIdx_sublist P n)) h4
    ·have hyy : (Zoq RT L M2 (P.eraseIdx n)).isSome = true := by rw [<- hw]; exact hy
     obtain ⟨l, hl⟩ := Option.isSome_iff_exists.1 hyy
     have hall : Zoq RT L M P = some ((Zaq RT L t).who :: l) := by
      rw [hs]; exact ZuO (i := n) hn2 (fun j hj => g1 j (by omega)) (by rw [hT2, hl]; rfl)
     rw [hall]
     rw [hl] at q1 q2 q3 ⊢
     have hl1 : (((Zaq RT L t).who :: l).length : Int) = (l.length : Int) + 1 := by rw [ZOd]; rfl
     simp only [ZNO, Option.isSome_some, hl1] at q1 q2 q3 ⊢
     intro _ _ _ _ _ _ _ _ _ c3 _
     exact ⟨by omega, by omega, fun b3 r3 y1 y2 => ⟨trivial, y1, y2, by omega, rfl, trivial, trivial⟩⟩
    ·rw [hT2]
     have : (Zoq RT L M2 (P.eraseIdx n)).isSome = false := by rw [<- hw]; exact hn
     have hn0 : Zoq RT L M2 (P.eraseIdx n) = none := Option.isNone_iff_eq_none.1 (by rw [<- Option.not_isSome, this]; rfl)
     rw [hn0]; rfl
  ·have : Zoq RT L M P = none := by rw [hs]; exact Zxd fun j hj => g1 j (by omega)
   rw [this]
   exact ⟨rfl, ZN4 _, .inr rfl, Int.natCast_nonneg _, rfl, rfl, trivial⟩
theorem ZMe {G : Type} (S : Sig G) (P : Program) (f : FuncId) : ZR S P f (Zda (.int 99)) := by
 intro ch w0 F ρ w xs hx hq hsat
 exfalso
 have h1 := hq (eLe (.f2 40 (Zg (rA 3)) (.int 100)) (.int 99)) (by simp [Zda])
 rw [Zf] at h1
 simp only [SX.den, ZE3, Y5, Zg, U.tIi] at h1
 omega
theorem Zcu (S : Sig GG) (hS : OuSig S) {k k' : Int} (hk : k' = k - 1) (hv : Zcl Try.prog (Zht (.int k')) 12 30 (Zda (.int k)) = Zgj (.int k) (.int k'))
  (h : ZR S Try.prog 30 (Zda (.int k'))) : ZR S Try.prog 30 (Zda (.int k)) := by
 subst hk
 refine Zo S (C := Zht (.int (k - 1))) (fuel := 12) (YV ⟨Zm (by decide) (ZMp S hS.ft), Zm (by decide) (ZM2 S), Zm (by decide) (Zze S hS.ft.od.fi.js.jt.jb), Zm (by decide) (ZLz S hS), Zm rfl h, trivial⟩ ⟨⟨⟨by decide, ZjS S⟩, trivial, ⟨by decide, Zdq S hS.ft.od.fi.js.jt⟩, ⟨by decide, Zdd S hS.ft.od.fi.js.jt⟩, ⟨by decide, Zdq S hS.ft.od.fi.js.jt⟩, ⟨by decide, Zdd S hS.ft.od.fi.js.jt⟩, ⟨by decide, ZjS S⟩, trivial⟩, trivial⟩ trivial) fun ρ => ?_
 rw [hv]
 exact ZG9 S hS k ρ
theorem ZKO (S : Sig GG) (hS : OuSig S) : ZR S Try.prog 30 (Zda (.int 108)) :=
 Zcu S hS rfl ZFH <| Zcu S hS rfl ZHW <| Zcu S hS rfl ZGt <| Zcu S hS rfl ZJj <| Zcu S hS rfl ZGM <| Zcu S hS rfl ZGi <| Zcu S hS rfl ZG1 <| Zcu S hS rfl ZIR <| Zcu S hS rfl ZJh <| ZMe S _ _
/-! ### Plain words -/
def ZvN : List Int -> Int -> List Int
 | [], k => [k]
 | a :: l, k => if a < k then a :: ZvN l k else k :: a :: l
def Zq4 (l : List Int) : Nat -> List Int
 | 0 => []
 | n + 1 => ZvN (Zq4 l n) (l.getD n 0)
def ZMy (x : List Ent) (asg : List Int) (w : Int) (n : Int) : Prop := ∀ j : Nat, (j : Int) < n -> xk (xa x j) = 5 -> xw (xa x j) ∈ asg
def ZLn (x : List Ent) (asg : List Int) (w : Int) (n : Int) : Prop := ∀ j : Nat, (j : Int) < n -> xk (xa x j) = 2 -> xw (xa x j) = w -> (ZcY x j asg).1 = true
def Zon (x : List Ent) (asg : List Int) (w : Int) : Prop := ZMy x asg w (ZI x 1 w x.length) /\ ZLn x asg w x.length /\ w ∉ asg
def ZCK (x : List Ent) (all asg : List Int) (rec : List Int -> Option (List Int)) (j : Nat) : Option (List Int) := if Zp (Zon x asg (all.getD j 0)) = true then rec (asg ++ [all.getD j 0]) else none
def ZnR (x : List Ent) (all : List Int) : Nat -> List Int -> Option (List Int)
 | 0, asg => if asg.length = all.length then some asg else none
 | n + 1, asg => if asg.length = all.length then some asg else (List.range all.length).findSome? fun j => ZCK x all asg (ZnR x all n) j
def ZAW (x : List Ent) (all asg : List Int) : Option (List Int) := ZnR x all (all.length - asg.length) asg
def orE (x : List Ent) : Int := if ZcU x ≠ 0 then ZcU x else if 0 <= (Zcm x x.length).1 then 280 else if 8 < (Zw x x.length).length then 2 else 0
def orS (x : List Ent) : Option (List Int) := if orE x = 0 then ZAW x (Zq4 (Zw x x.length) (Zw x x.length).length) [] else none
structure OrSig (S : Sig GG) : Prop where
 ou : OuSig S
 u650 : ∀ a b c d, S.usr 650 a b c d = .ints (Zq4 a.tN b.tI.toNat)
 u651 : ∀ a b c d, S.usr 651 a b c d = .bool (Zp (∀ j : Nat, (j : Int) < c.tI -> a.tN.getD j 0 < b.tI))
 u652 : ∀ a b c d, S.usr 652 a b c d = .bool (Zp (b.tI ∈ a.tN))
 u653 : ∀ a b c d, S.usr 653 a b c d = .bool (Zp (∀ j : Nat, (j : Int) < c.tI -> a.tN.getD j 0 ≠ b.tI))
 u654 : ∀ a b c d, S.usr 654 a b c d = .bool (Zp (Zon a.tR b.tN c.tI))
 u655 : ∀ a b c d, S.usr 655 a b c d = .bool (Zp (ZMy a.tR b.tN c.tI d.tI))
 u656 : ∀ a b c d, S.usr 656 a b c d = .bool (Zp (ZLn a.tR b.tN c.tI d.tI))
 u657 : ∀ a b c d, S.usr 657 a b c d = .ints ((ZAW a.tR b.tN c.tN).getD [])
 u658 : ∀ a b c d, S.usr 658 a b c d = .bool (ZAW a.tR b.tN c.tN).isSome
 u659 : ∀ a b c d, S.usr 659 a b c d = .bool (Zp (∀ j : Nat, (j : Int) < d.tI -> ZCK a.tR b.tN c.tN (ZnR a.tR b.tN (b.tN.length - c.tN.length - 1)) j = none))
 u660 : ∀ a b c d, S.usr 660 a b c d = .ints ((orS a.tR).getD [])
 u661 : ∀ a b c d, S.usr 661 a b c d = .bool (orS a.tR).isSome
 u662 : ∀ a b c d, S.usr 662 a b c d = .int (orE a.tR)
/-! ### Plain lemmas -/
theorem Ztr (k : Int) : ∀ l : List Int, (ZvN l k).length = l.length + 1
 | [] => rfl
 | a :: l => by
  unfold ZvN
  split
  ·rw [ZOd, Ztr k l, ZOd]
  ·rfl
theorem Zuh (l : List Int) : ∀ n, (Zq4 l n).length = n
 | 0 => rfl
 | n + 1 => by show (ZvN _ _).length = _; rw [Ztr, Zuh l n]
theorem ZsW (x : List Ent) (all : List Int) : ∀ (n : Nat) (asg l : List Int), ZnR x all n asg = some l -> l.length = all.length
 | 0, asg, l, h => by
  unfold ZnR at h
  split at h
  ·rename_i e; cases h; exact e
  ·cases h
 | n + 1, asg, l, h => by
  unfold ZnR at h
  split at h
  ·rename_i e; cases h; exact e
  ·obtain ⟨j, hj, h⟩ := List.exists_of_findSome?_eq_some h
   unfold ZCK at h
   split at h
   ·exact ZsW x all n _ _ h
   ·cases h
theorem ZEh (x : List Ent) (all asg : List Int) (h : asg.length <= all.length) : ((ZAW x all asg).getD []).length <= all.length := by
 cases e : ZAW x all asg with
 | none => exact Nat.zero_le _
 | some l => exact Nat.le_of_eq (ZsW x all _ _ _ e)
/-! ### Lists -/
theorem Zsj {β : Type} (F : Int -> Option β) : ∀ l : List Int, (List.range l.length).findSome? (fun j => F (l.getD j 0)) = l.findSome? F
 | [] => rfl
 | a :: l => by
  have ih := Zsj F l
  rw [ZOd, List.range_succ_eq_map, List.findSome?_cons, List.findSome?_map, List.findSome?_cons]
  show (match F a with | some b => some b | none => (List.range l.length).findSome? (fun j => F (l.getD j 0))) = _
  rw [ih]; cases F a <;> rfl
theorem Zl7 {β : Type} (F : List Int -> Option β) : ∀ l : List (List Int), (List.range l.length).findSome? (fun j => F (l.getD j [])) = l.findSome? F
 | [] => rfl
 | a :: l => by
  have ih := Zl7 F l
  rw [ZOd, List.range_succ_eq_map, List.findSome?_cons, List.findSome?_map, List.findSome?_cons]
  show (match F a with | some b => some b | none => (List.range l.length).findSome? (fun j => F (l.getD j []))) = _
  rw [ih]; cases F a <;> rfl
theorem Znx {α β : Type} {F : α -> Option β} {p : α -> Bool} : ∀ {l : List α}, (∀ a ∈ l, p a = false -> F a = none) -> (l.filter p).findSome? F = l.findSome? F
 | [], _ => rfl
 | a :: l, h => by
  have ih := Znx (l := l) fun b hb => h b (ZNZ _ hb)
  cases hp : p a
  ·rw [List.filter_cons_of_neg (by rw [hp]; exact Bool.false_ne_true), ih, List.findSome?_cons, h a ZN1 hp]
  ·rw [List.filter_cons_of_pos hp, List.findSome?_cons, List.findSome?_cons, ih]
theorem Zud {α β γ : Type} (h : β -> γ) (F : α -> Option β) : ∀ l : List α, (l.findSome? F).map h = l.findSome? fun a => (F a).map h
 | [] => rfl
 | a :: l => by
  rw [List.findSome?_cons, List.findSome?_cons]
  cases F a with
  | none => exact Zud h F l
  | some b => rfl
theorem Zi2 {α β : Type} {F G : α -> Option β} : ∀ {l : List α}, (∀ a ∈ l, F a = G a) -> l.findSome? F = l.findSome? G
 | [], _ => rfl
 | a :: l, h => by
  rw [List.findSome?_cons, List.findSome?_cons, h a ZN1, Zi2 (l := l) fun b hb => h b (ZNZ _ hb)]
theorem Zs5 : ∀ {l : List Int} {i : Nat}, l.Nodup -> i < l.length -> l.eraseIdx i = l.filter fun a => !(a == l.getD i 0)
 | [], i, _, h => absurd h (Nat.not_lt_zero i)
 | a :: l, 0, hn, _ => by
  rw [List.nodup_cons] at hn
  show l = (a :: l).filter fun b => !(b == a)
  rw [List.filter_cons_of_neg (by simp)]
  exact (List.filter_eq_self.2 fun b hb => by
   have : b ≠ a := fun e => hn.1 (by rw [<- e]; exact hb)
   simpa using this).symm
 | a :: l, i + 1, hn, h => by
  rw [List.nodup_cons] at hn
  have hi : i < l.length := by simpa using h
  show a :: l.eraseIdx i = (a :: l).filter fun b => !(b == l.getD i 0)
  have ha : a ≠ l.getD i 0 := fun e => hn.1 (by rw [e, ZNT, ZNW hi]; exact ZOg _)
  rw [List.filter_cons_of_pos (by simpa using ha), Zs5 hn.2 hi]
theorem ZlZ {α β : Type} (f : α -> β) : ∀ (l : List α) (i : Nat), (l.eraseIdx i).map f = (l.map f).eraseIdx i
 | [], i => rfl
 | a :: l, 0 => rfl
 | a :: l, i + 1 => by show f a :: (l.eraseIdx i).map f = f a :: (l.map f).eraseIdx i; rw [ZlZ f l i]
/-! ### The numbers, rising -/
theorem ZgP (k : Int) : ∀ l : List Int, (ZvN l k).Perm (k :: l)
 | [] => List.Perm.refl _
 | a :: l => by
  unfold ZvN
  split
  ·exact ((ZgP k l).cons a).trans (List.Perm.swap k a l)
  ·exact List.Perm.refl _
theorem Zsg (k : Int) : ∀ {l : List Int}, (l.Pairwise fun a b => a <= b) -> (ZvN l k).Pairwise fun a b => a <= b
 | [], _ => List.pairwise_singleton _ _
 | a :: l, h => by
  rw [List.pairwise_cons] at h
  unfold ZvN
  split
  ·rename_i q
   refine List.pairwise_cons.2 ⟨fun b hb => ?_, Zsg k h.2⟩
   rcases List.mem_cons.1 ((ZgP k l).mem_iff.1 hb) with rfl | hb
   ·omega
   ·exact h.1 b hb
  ·rename_i q
   refine List.pairwise_cons.2 ⟨fun b hb => ?_, List.pairwise_cons.2 h⟩
   rcases List.mem_cons.1 hb with rfl | hb
   ·omega
   ·have := h.1 b hb; omega
theorem ZtW (l : List Int) : ∀ n, (Zq4 l n).Pairwise fun a b => a <= b
 | 0 => List.Pairwise.nil
 | n + 1 => Zsg _ (ZtW l n)
theorem Zn2 (l : List Int) : ∀ n ≤ l.length, (Zq4 l n).Perm (l.take n)
 | 0, _ => List.Perm.refl _
 | n + 1, h => by
  refine (ZgP _ _).trans (((Zn2 l n (by omega)).cons _).trans ?_)
  rw [List.take_add_one, ZNT, ZNW (by omega)]
  exact List.perm_append_comm (l₁ := [l[n]])
/-! ### Transactions -/
theorem ZE7 {x : List Ent} {w : Int} : ∀ {n : Nat}, NF x n -> 0 <= ZI x 1 w n -> (txN x w n).beg = ZI x 1 w n
 | 0, _, h => absurd h (by show ¬ (0 : Int) <= -1; omega)
 | n + 1, hn, h => by
  obtain ⟨hp, ho, _, _⟩ := hn.pred
  rw [ZbP]
  by_cases h1 : xk (xa x n) = 1 /\ xw (xa x n) = w
  ·rw [Zc8, if_pos h1.1, h1.2] at ho
   have hb : ¬ 0 <= ZI x 1 w n := by simpa using ho
   unfold ZiP
   rw [if_neg (by omega), if_pos h1.2, if_pos h1.1, Yh, if_neg hb, if_pos h1]
  ·rw [Zhd h1] at h ⊢
   have ih := ZE7 hp h
   rw [<- ih]
   unfold ZiP
   by_cases h7 : xk (xa x n) = 7
   ·rw [if_pos h7]
   ·rw [if_neg h7]
    by_cases hx : xw (xa x n) = w
    ·rw [if_pos hx, if_neg (fun q => h1 ⟨q, hx⟩)]
     by_cases h2 : xk (xa x n) = 2
     ·rw [if_pos h2]; exact (ZfL _ _ _).2.2.2.2
     ·rw [if_neg h2]
      by_cases h3 : xk (xa x n) = 3 \/ xk (xa x n) = 4
      ·rw [if_pos h3]
      ·rw [if_neg h3]
       by_cases h6 : xk (xa x n) = 6
       ·rw [if_pos h6]
       ·rw [if_neg h6]
        by_cases h5 : xk (xa x n) = 5
        ·rw [if_pos h5]
        ·rw [if_neg h5]
    ·rw [if_neg hx]
theorem Zs8 {x : List Ent} {k w : Int} {j n : Nat} (hj : j < n) (hk : xk (xa x j) = k) (hw : xw (xa x j) = w) : 0 <= ZI x k w n /\ ZI x k w n <= j := by
 have h : 0 <= ZI x k w (j + 1) := by
  rw [Yh]
  split
  ·assumption
  ·rw [if_pos ⟨hk, hw⟩]; omega
 rw [Zgq h (by omega)]
 exact ⟨h, by have := (Zcc x k w (j + 1)).2.1; omega⟩
theorem Zyx {x : List Ent} {n j : Nat} (hj : j < n) (hk : xk (xa x j) = 5) : xw (xa x j) ∈ Zw x n := Zy2 (Zs8 hj hk rfl).1
theorem Zyi {x : List Ent} {B : Bk} (h : Go x B) : (Zw x x.length).Nodup := by
 refine List.pairwise_iff_getElem.2 fun i j hi hj hij e => ?_
 have ki : (Zw x x.length).getD i 0 = (Zw x x.length)[i] := by rw [ZNT, ZNW hi, ZNO]
 have kj : (Zw x x.length).getD j 0 = (Zw x x.length)[j] := by rw [ZNT, ZNW hj, ZNO]
 have a := (h.ri.com i (by rw [<- Zbf h]; exact hi)).2
 have b := (h.ri.com j (by rw [<- Zbf h]; exact hj)).2
 rw [ki, e, <- kj, b] at a
 omega
/-! ### What stands -/
def StL (x : List Ent) (f : Stf) (asg : List Int) : Prop := ∀ key : List UInt8,
 (f (Zj key : Nat) = (false, vw 0) /\ Zc0 x asg key asg.length = ([], false)) \/ (f (Zj key : Nat) = (true, Zc0 x asg key asg.length) /\ ((Zc0 x asg key asg.length).2 = false -> (Zc0 x asg key asg.length).1 = []))
theorem ZGB (x : List Ent) : StL x (Zop []) [] := fun _ => .inl ⟨rfl, rfl⟩
theorem ZFV {x : List Ent} {B : Bk} (h : Go x B) {f : Stf} {asg : List Int} (hs : StL x f asg) {t : Tx} (ht : t ∈ B.txs) : StL x (ZEY f t.ch) (asg ++ [t.who]) := fun key => by
 obtain ⟨t1, t2⟩ := h.tx ht
 have hc := Zw9 t2 h.nf key
 rw [<- t1] at hc
 have e1 : ZEY f t.ch (Zj key : Nat) = if Zv t.ch (Zj key : Nat) = true then (true, vw (YQ 0 t.ch (Zj key : Nat))) else f (Zj key : Nat) := rfl
 have e2 : (asg ++ [t.who]).getD asg.length 0 = t.who := by rw [ZNT, ZOc (ZNJ _), Nat.sub_self]; rfl
 have e3 : Zc0 x (asg ++ [t.who]) key asg.length = Zc0 x asg key asg.length := ZqZ x key _ fun i hi => by
  rw [ZNT, ZNT, ZOb hi]
 rw [e1, ZNY, ZNH, Ze2, e2, e3, hc.1]
 by_cases hl : 0 <= YE x t.who key x.length
 ·rw [if_pos hl, if_pos (decide_eq_true hl), hc.2 hl]
  refine .inr ⟨rfl, fun q => ?_⟩
  obtain ⟨l1, _, l3⟩ := Zt4 x t.who key x.length
  have q : ¬ xk (xa x (YE x t.who key x.length).toNat) = 3 := by simpa using q
  exact Zrd (h.may _ (by omega)) (by have := l3 hl; omega)
 ·rw [if_neg hl, if_neg (fun q => hl (of_decide_eq_true q))]; exact hs key
theorem ZsO {x : List Ent} {f : Stf} {asg : List Int} (h : StL x f asg) {r : Ent} (hm : Za2 r = true) (h2 : xk r = 2) :
  Yb f r = ((Zbc r == (Zc0 x asg (ZL r) asg.length).2) && (YX r == (Zc0 x asg (ZL r) asg.length).1)) := by
 have hs := h (ZL r)
 unfold Yb
 show ((Zbc r == ((f (Zj (ZL r) : Nat)).1 && (f (Zj (ZL r) : Nat)).2.2)) && (!Zbc r || YX r == (f (Zj (ZL r) : Nat)).2.1)) = _
 cases hh : Zbc r
 ·have hv := ZpU hm (.inl h2) hh
  rcases hs with ⟨a, b⟩ | ⟨a, b⟩
  ·rw [a, b, hv]; rfl
  ·rw [a, hv]
   generalize Zc0 x asg (ZL r) asg.length = v at *
   cases hv2 : v.2
   ·rw [b hv2]; rfl
   ·rfl
 ·rcases hs with ⟨a, b⟩ | ⟨a, b⟩
  ·rw [a, b]; rfl
  ·rw [a]; simp
theorem ZFg {x : List Ent} {n : Nat} {asg : List Int} (h : ¬ (0 <= YE x (xw (xa x n)) (ZL (xa x n)) n /\ 0 < xw (xa x n))) :
  (ZcY x n asg).1 = ((Zbc (xa x n) == (Zc0 x asg (ZL (xa x n)) asg.length).2) && (YX (xa x n) == (Zc0 x asg (ZL (xa x n)) asg.length).1)) := by
 unfold ZcY; rw [if_neg h]
/-! ### Whether one fits -/
def LfP (x : List Ent) (R : List (List Int)) (B : Bk) (P : List (List Int)) : Prop := ∀ r ∈ P, Zaq R B.txs (g0 r) ∈ B.txs /\ (Zaq R B.txs (g0 r)).who ∈ Zw x x.length
theorem ZJv {x : List Ent} {B : Bk} (h : Go x B) {R P : List (List Int)} {asg K : List Int} (hP : LfP x R B P) (hK : ∀ w, w ∈ K ↔ w ∈ Zw x x.length)
  (hW : P.map (fun r => (Zaq R B.txs (g0 r)).who) = K.filter fun a => Zp (a ∉ asg)) {r : List Int} (hr : r ∈ P) :
  (∀ u ∈ P, okU R B.txs (g0 r) u) ↔ ZMy x asg (Zaq R B.txs (g0 r)).who (ZI x 1 (Zaq R B.txs (g0 r)).who x.length) := by
 obtain ⟨m1, _⟩ := hP r hr
 obtain ⟨t1, t2⟩ := h.tx m1
 generalize hw : (Zaq R B.txs (g0 r)).who = w at *
 have hl := Zcc x 1 w x.length
 have hb : 0 <= ZI x 1 w x.length := by
  obtain ⟨j, hj, e⟩ := List.getElem_of_mem m1
  refine (h.ri.beg w).1 ?_
  have := ZzT m1
  rw [hw] at this; exact this
 have hbeg : (Zaq R B.txs (g0 r)).beg = ZI x 1 w x.length := by rw [t1]; exact ZE7 h.nf hb
 have mem : ∀ u ∈ P, (Zaq R B.txs (g0 u)).who ∉ asg := fun u hu => by
  have : (Zaq R B.txs (g0 u)).who ∈ K.filter fun a => Zp (a ∉ asg) := by rw [<- hW]; exact List.mem_map.2 ⟨u, hu, rfl⟩
  have := (List.mem_filter.1 this).2
  rw [Zi] at this; exact this
 constructor
 ·intro hu j hj hk
  refine Classical.byContradiction fun hn => ?_
  have hjn : j < x.length := by omega
  have hv := Zyx hjn hk
  have : xw (xa x j) ∈ K.filter fun a => Zp (a ∉ asg) := List.mem_filter.2 ⟨(hK _).2 hv, ZF hn⟩
  rw [<- hW] at this
  obtain ⟨u, hup, hue⟩ := List.mem_map.1 this
  obtain ⟨n1, _⟩ := hP u hup
  obtain ⟨u1, u2⟩ := h.tx n1
  have hcom := Zha u2 h.nf
  rw [<- u1, hue] at hcom
  have hle := Zs8 (w := xw (xa x j)) hjn hk rfl
  by_cases he : g0 u = g0 r
  ·rw [he] at hue
   have hue : w = xw (xa x j) := hw.symm.trans hue
   have hnf := NF.le h.nf (m := j + 1) (by omega)
   have hnb : ¬ 0 <= ZI x 1 w (j + 1) := fun q => by
    have := Zgq q (m := x.length) (by omega)
    have := (Zcc x 1 w (j + 1)).2.1
    omega
   have h5 := (Zil t2 hnf hnb).1
   have := (Zs8 (w := w) (n := j + 1) (Nat.lt_succ_self j) hk hue.symm).1
   omega
  ·refine hu u hup he ?_
   rw [hcom, hbeg]; omega
 ·intro hf u hup hne hlt
  obtain ⟨n1, n2⟩ := hP u hup
  obtain ⟨u1, u2⟩ := h.tx n1
  have hcom := Zha u2 h.nf
  rw [<- u1] at hcom
  rw [hbeg, hcom] at hlt
  obtain ⟨k, hk, hkw⟩ := List.getElem_of_mem n2
  have c1 := (h.ri.com k (by rw [<- Zbf h]; exact hk)).1
  rw [ZNT, ZNW hk, ZNO, hkw] at c1
  have c3 := (Zcc x 5 (Zaq R B.txs (g0 u)).who x.length).2.2 c1
  have := hf (ZI x 5 (Zaq R B.txs (g0 u)).who x.length).toNat (by omega) c3.1
  rw [c3.2] at this
  exact mem u hup this
theorem ZJp {x : List Ent} {B : Bk} (h : Go x B) {f : Stf} {asg : List Int} (hs : StL x f asg) {t : Tx} (ht : t ∈ B.txs) : (t.bad = [] /\ ∀ r ∈ t.rds, Yb f (r.drop 1) = true) ↔ ZLn x asg t.who x.length := by
 obtain ⟨t1, t2⟩ := h.tx ht
 have rd := ZeO t2 h.nf
 rw [<- t1] at rd
 generalize t.who = w at *
 constructor
 ·intro ⟨hb, hr⟩ j hj h2 hw
  have hjn : j < x.length := by omega
  by_cases hl : 0 <= YE x w (ZL (xa x j)) j
  ·have hh : 0 <= YE x (xw (xa x j)) (ZL (xa x j)) j /\ 0 < xw (xa x j) := by rw [hw]; exact ⟨hl, t2⟩
   rw [ZKr hh]
   refine Classical.byContradiction fun q => ?_
   have : (j : Int) ∈ t.bad := (rd.2 _).2 ⟨j, hjn, h2, hw, hl, by simpa using q, rfl⟩
   rw [hb] at this; cases this
  ·have hno : ¬ (0 <= YE x (xw (xa x j)) (ZL (xa x j)) j /\ 0 < xw (xa x j)) := by rw [hw]; exact fun q => hl q.1
   rw [ZFg hno, <- ZsO hs (h.may j hjn) h2, <- ZbA]
   exact hr _ ((rd.1 _).2 ⟨j, hjn, h2, hw, by omega, rfl⟩)
 ·intro hf
  refine ⟨List.eq_nil_iff_forall_not_mem.2 fun b hb => ?_, fun r hr => ?_⟩
  ·obtain ⟨j, hj, h2, hw, hl, ho, _⟩ := (rd.2 _).1 hb
   have := hf j (by omega) h2 hw
   have hh : 0 <= YE x (xw (xa x j)) (ZL (xa x j)) j /\ 0 < xw (xa x j) := by rw [hw]; exact ⟨hl, t2⟩
   rw [ZKr hh] at this
   have this : ZFX x j = true := this
   rw [ho] at this; cases this
  ·obtain ⟨j, hj, h2, hw, hl, rfl⟩ := (rd.1 _).1 hr
   have hno : ¬ (0 <= YE x (xw (xa x j)) (ZL (xa x j)) j /\ 0 < xw (xa x j)) := by rw [hw]; omega
   have := hf j (by omega) h2 hw
   rw [ZFg hno, <- ZsO hs (h.may j hj) h2, <- ZbA] at this
   exact this
theorem ZLu {x : List Ent} {B : Bk} (h : Go x B) {R P : List (List Int)} {f : Stf} {asg K : List Int} (hs : StL x f asg) (hP : LfP x R B P) (hK : ∀ w, w ∈ K ↔ w ∈ Zw x x.length)
  (hW : P.map (fun r => (Zaq R B.txs (g0 r)).who) = K.filter fun a => Zp (a ∉ asg)) {r : List Int} (hr : r ∈ P) :
  Zon x asg (Zaq R B.txs (g0 r)).who ↔ ZCH R B.txs f P (g0 r) := by
 have hn : (Zaq R B.txs (g0 r)).who ∉ asg := by
  have : (Zaq R B.txs (g0 r)).who ∈ K.filter fun a => Zp (a ∉ asg) := by rw [<- hW]; exact List.mem_map.2 ⟨r, hr, rfl⟩
  have := (List.mem_filter.1 this).2
  rw [Zi] at this; exact this
 unfold Zon ZCH
 rw [ZJv h hP hK hW hr, ZJp h hs (hP r hr).1]
 exact ⟨fun ⟨a, b, _⟩ => ⟨a, b⟩, fun ⟨a, b⟩ => ⟨a, b, hn⟩⟩
/-! ### The search -/
theorem Zyp {x : List Ent} {B : Bk} (h : Go x B) {R : List (List Int)} {K : List Int} (hn : K.Nodup) (hK : ∀ w, w ∈ K ↔ w ∈ Zw x x.length) :
  ∀ (n : Nat) (P : List (List Int)) (f : Stf) (asg : List Int), StL x f asg -> LfP x R B P -> (P.map fun r => (Zaq R B.txs (g0 r)).who) = (K.filter fun a => Zp (a ∉ asg)) -> P.length = n -> asg.length + n = K.length →
  ZnR x K n asg = (Zvh R B.txs n f P).map (asg ++ ·)
 | 0, P, f, asg, _, _, _, hl, ha => by
  have hp : P = [] := ZN8 hl
  subst hp
  show (if asg.length = K.length then some asg else none) = _
  rw [if_pos (by omega)]
  show some asg = some (asg ++ [])
  rw [List.append_nil]
 | n + 1, P, f, asg, hs, hP, hW, hl, ha => by
  have hne : P ≠ [] := fun e => by rw [e] at hl; cases hl
  show (if asg.length = K.length then some asg else _) = ((if P = [] then some [] else _) : Option (List Int)).map _
  rw [if_neg (by omega), if_neg hne, Zud]
  have e1 : (List.range K.length).findSome? (fun j => ZCK x K asg (ZnR x K n) j) = K.findSome? fun w => if Zp (Zon x asg w) = true then ZnR x K n (asg ++ [w]) else none :=
   Zsj (fun w => if Zp (Zon x asg w) = true then ZnR x K n (asg ++ [w]) else none) K
  have e2 : (P.map fun r => (Zaq R B.txs (g0 r)).who).findSome? (fun w => if Zp (Zon x asg w) = true then ZnR x K n (asg ++ [w]) else none) = K.findSome? fun w => if Zp (Zon x asg w) = true then ZnR x K n (asg ++ [w]) else none := by
   rw [hW]
   refine Znx fun a _ hp => ?_
   rw [if_neg fun q => ?_]
   rw [Zi] at q
   rw [ZF q.2.2] at hp; cases hp
  rw [e1, <- e2, List.findSome?_map, <- Zl7]
  refine Zi2 fun i hi => ?_
  have hi : i < P.length := List.mem_range.1 hi
  have hr : P.getD i [] ∈ P := by rw [ZNT, ZNW hi]; exact ZOg _
  have hm := (hP _ hr).1
  have fe := ZLu h hs hP hK hW hr
  show (if Zp (Zon x asg (Zaq R B.txs (g0 (P.getD i []))).who) = true then _ else none) = _
  unfold Zvj
  have fe2 : Zp (Zon x asg (Zaq R B.txs (g0 (P.getD i []))).who) = Zp (ZCH R B.txs f P (g0 (P.getD i []))) := by rw [propext fe]
  rw [fe2]
  by_cases hq : Zp (ZCH R B.txs f P (g0 (P.getD i []))) = true
  ·rw [if_pos hq, if_pos hq]
   have hlen : (P.eraseIdx i).length = n := by rw [List.length_eraseIdx_of_lt hi]; omega
   have hnd : (P.map fun r => (Zaq R B.txs (g0 r)).who).Nodup := by rw [hW]; exact hn.filter _
   have hget : (P.map fun r => (Zaq R B.txs (g0 r)).who).getD i 0 = (Zaq R B.txs (g0 (P.getD i []))).who := by
    rw [ZNT, ZNP, ZNW hi, ZNT, ZNW hi]; rfl
   rw [Zyp h hn hK n (P.eraseIdx i) (ZEY f (Zaq R B.txs (g0 (P.getD i []))).ch) (asg ++ [(Zaq R B.txs (g0 (P.getD i []))).who]) (ZFV h hs hm) (fun r hr => hP r (List.mem_of_mem_eraseIdx hr)) ?_ hlen (by rw [ZNY, ZNH]; omega)]
   ·rw [Option.map_map]
    cases Zvh R B.txs n (ZEY f (Zaq R B.txs (g0 (P.getD i []))).ch) (P.eraseIdx i) with
    | none => rfl
    | some l => exact congrArg some (ZOh asg [(Zaq R B.txs (g0 (P.getD i []))).who] l)
   ·rw [ZlZ, Zs5 hnd (by rw [ZN3]; exact hi), hget, hW, List.filter_filter]
    refine List.filter_congr fun a _ => ?_
    by_cases h1 : a = (Zaq R B.txs (g0 (P.getD i []))).who
    ·subst h1
     rw [ZH (p := (Zaq R B.txs (g0 (P.getD i []))).who ∉ asg ++ [(Zaq R B.txs (g0 (P.getD i []))).who]) (fun q => q (by simp))]
     simp
    ·have e : (a ∉ asg ++ [(Zaq R B.txs (g0 (P.getD i []))).who]) = (a ∉ asg) := propext ⟨fun q r => q (List.mem_append_left _ r), fun q r => (List.mem_append.1 r).elim q fun e => h1 (List.mem_singleton.1 e)⟩
     rw [e]
     have : (a == (Zaq R B.txs (g0 (P.getD i []))).who) = false := by simpa using h1
     rw [this]; simp
  ·rw [if_neg hq, if_neg hq]; rfl
theorem ZF0 {x : List Ent} {B : Bk} (h : Go x B) {R Q : List (List Int)} (hp : plOk R B.txs) (hQ : Q.Perm (ZbR R B.kept)) (hs : ZFf R B.txs Q) :
  Zoq R B.txs [] Q = ZAW x (Zq4 (Zw x x.length) (Zw x x.length).length) [] := by
 have hw : ∀ k ∈ B.kept, Zaq R B.txs (g0 [g0 (R.getD k [])]) = B.txs.getD k tx0 := fun k hk => by
  have := h.wf.ki k hk
  show atT B.txs (ZdD (g0 (R.getD k [])) R : Nat) = _
  rw [Zbg hp.2.1 (by rw [hp.1]; exact this), Zdf]
 have hm : (ZbR R B.kept).map (fun r => (Zaq R B.txs (g0 r)).who) = Zw x x.length := by
  rw [<- h.ri.kep]
  unfold ZbR
  rw [List.map_map]
  exact List.map_congr_left fun k hk => by show (Zaq R B.txs (g0 [g0 (R.getD k [])])).who = _; rw [hw k hk]
 have hr := Zn2 (Zw x x.length) _ (ZNJ _)
 rw [List.take_length] at hr
 generalize hKd : Zq4 (Zw x x.length) (Zw x x.length).length = K at *
 have hW : Q.map (fun r => (Zaq R B.txs (g0 r)).who) = K := by
  refine List.Perm.eq_of_pairwise (le := fun a b => a <= b) (fun a b _ _ q1 q2 => Int.le_antisymm q1 q2) ?_ ?_ ((hQ.map _).trans (by rw [hm]; exact hr.symm))
  ·exact List.pairwise_map.2 hs
  ·rw [<- hKd]; exact ZtW _ _
 have hf : (K.filter fun a => Zp (a ∉ ([] : List Int))) = K := List.filter_eq_self.2 fun a _ => ZF (by simp)
 have hlen : Q.length = K.length := by rw [<- hW, ZN3]
 have hP : LfP x R B Q := fun r hr => by
  have hr := hQ.mem_iff.1 hr
  obtain ⟨k, hk, rfl⟩ := List.mem_map.1 hr
  have hk2 := h.wf.ki k hk
  rw [hw k hk]
  refine ⟨by rw [YK hk2]; exact ZOg hk2, ?_⟩
  rw [<- h.ri.kep]; exact List.mem_map.2 ⟨k, hk, rfl⟩
 have := Zyp h (R := R) (hr.nodup_iff.2 (Zyi h)) (fun w => hr.mem_iff) K.length Q (Zop []) [] (ZGB x) hP (by rw [hf]; exact hW) hlen (by simp)
 unfold Zoq ZAW
 rw [List.length_nil, Nat.sub_zero, this, hlen]
 cases Zvh R B.txs K.length (Zop []) Q <;> rfl
theorem ZIa {x : List Ent} {B : Bk} (h : Go x B) {k : Nat} (hk : k < (Zw x x.length).length) :
  Zw x (ZI x 5 ((Zw x x.length).getD k 0) x.length).toNat = (Zw x x.length).take k := by
 have c := (h.ri.com k (by rw [<- Zbf h]; exact hk)).2
 have hm := Zeq x (m := (ZI x 5 ((Zw x x.length).getD k 0) x.length).toNat) (n := x.length) ZrF
 refine List.ext_getElem (by rw [c, ZNV]; omega) fun i h1 h2 => ?_
 have e := hm.2 i h1
 rw [List.getElem_take]
 rw [ZNT, ZNT, ZNW h1, ZNW (by rw [c] at h1; omega), ZNO, ZNO] at e
 exact e.symm
theorem ZGX {x : List Ent} {B : Bk} (h : Go x B) (hs : ¬ 0 <= (ZdM x x.length).1) {k : Nat} (hk : k < (Zw x x.length).length) :
  Zon x ((Zw x x.length).take k) ((Zw x x.length).getD k 0) := by
 have hkc := ZIa h hk
 have hkb : k < B.kept.length := by rw [<- Zbf h]; exact hk
 have hc0 := (h.ri.com k hkb).1
 have hkw := (h.kw hkb).2
 have ht := h.tx (h.kt hkb)
 have hpos : 0 < (Zw x x.length).getD k 0 := by rw [<- hkw]; exact ht.2
 have hnd := Zyi h
 have hnot : (Zw x x.length).getD k 0 ∉ (Zw x x.length).take k := fun q => by
  obtain ⟨i, hi, e⟩ := List.getElem_of_mem q
  have hi2 : i < k := by rw [ZNV] at hi; omega
  rw [List.getElem_take, ZNT, ZNW hk, ZNO] at e
  have := (List.pairwise_iff_getElem.1 hnd) i k (by omega) hk hi2
  exact this e
 generalize hw : (Zw x x.length).getD k 0 = w at *
 have hfl := Zcc x 5 w x.length
 have hc3 := hfl.2.2 hc0
 refine ⟨fun j hj h5 => ?_, fun j hj h2 hx => ?_, hnot⟩
 ·rw [<- hkc]
  have hb : ZI x 1 w x.length <= (ZI x 5 w x.length).toNat := by
   refine Classical.byContradiction fun q => ?_
   have hnf := NF.le h.nf (m := (ZI x 5 w x.length).toNat + 1) (by omega)
   have hnb : ¬ 0 <= ZI x 1 w ((ZI x 5 w x.length).toNat + 1) := fun r => by
    have := Zgq r (m := x.length) (by omega)
    have := (Zcc x 1 w ((ZI x 5 w x.length).toNat + 1)).2.1
    omega
   have a := (Zil hpos hnf hnb).1
   have b := (Zs8 (w := w) (n := (ZI x 5 w x.length).toNat + 1) (Nat.lt_succ_self _) hc3.1 hc3.2).1
   omega
  exact Zyx (by omega) h5
 ·have hjn : j < x.length := by omega
  have := (ZeP x x.length).2 hs j hjn
  have he : ZcS x j = (ZI x 5 w x.length).toNat := by rw [ZgR, hx, if_pos hpos, if_pos hc0]
  rw [he, hkc] at this
  refine Classical.byContradiction fun q => this ⟨h2, by simpa using q⟩
/-! ### What one's entries look like -/
def segG (S : List Ent) : Prop := ∃ h t, S = h :: t /\ xk h = 1 /\ ∀ r ∈ t, xk r = 2 \/ xk r = 3 \/ xk r = 4
theorem segG.app {S : List Ent} (h : segG S) {r : Ent} (hr : xk r = 2 \/ xk r = 3 \/ xk r = 4) : segG (S ++ [r]) := by
 obtain ⟨a, t, rfl, h1, h2⟩ := h
 refine ⟨a, t ++ [r], rfl, h1, fun q hq => ?_⟩
 rcases List.mem_append.1 hq with hq | hq
 ·exact h2 q hq
 ·rw [List.mem_singleton.1 hq]; exact hr
/-! ### What stands ahead only -/
theorem xa_l {A B : List Ent} {i : Nat} (h : i < A.length) : xa (A ++ B) i = xa A i := by
 unfold xa; rw [ZNT, ZOb h, <- ZNT]
theorem ZFw (A : List Ent) (r : Ent) (B : List Ent) : xa (A ++ r :: B) A.length = r := by
 unfold xa; rw [ZNT, ZOc (ZNJ _), Nat.sub_self]; rfl
theorem Zjd {x y : List Ent} (k w : Int) : ∀ {n : Nat}, (∀ i < n, xa x i = xa y i) -> ZI x k w n = ZI y k w n
 | 0, _ => rfl
 | n + 1, h => by rw [Yh, Yh, Zjd k w fun i hi => h i (by omega), h n (by omega)]
theorem ZtP {x y : List Ent} (w : Int) : ∀ {n : Nat}, (∀ i < n, xa x i = xa y i) -> YD x w n = YD y w n
 | 0, _ => rfl
 | n + 1, h => by rw [ZbE, ZbE, ZtP w fun i hi => h i (by omega), h n (by omega)]
theorem ZBI {x y : List Ent} : ∀ {n : Nat}, (∀ i < n, xa x i = xa y i) -> Zw x n = Zw y n
 | 0, _ => rfl
 | n + 1, h => by rw [ZbC, ZbC, ZBI fun i hi => h i (by omega), h n (by omega)]
theorem Zlz (x : List Ent) (n : Nat) : ZiW x (n + 1) = if xk (xa x n) = 5 then xt (xa x n) else ZiW x n := rfl
theorem ZrY {x y : List Ent} : ∀ {n : Nat}, (∀ i < n, xa x i = xa y i) -> ZiW x n = ZiW y n
 | 0, _ => rfl
 | n + 1, h => by rw [Zlz, Zlz, ZrY fun i hi => h i (by omega), h n (by omega)]
theorem ZE6 {x y : List Ent} (f : Int) {n : Nat} (h : ∀ i < n, xa x i = xa y i) : ZdI x f n = ZdI y f n := by
 unfold ZdI
 have e : (0 <= f /\ ∀ i : Nat, f < i -> (i : Int) < n -> xk (xa x i) ≠ 1 /\ xk (xa x i) ≠ 2 /\ xk (xa x i) ≠ 7) = (0 <= f /\ ∀ i : Nat, f < i -> (i : Int) < n -> xk (xa y i) ≠ 1 /\ xk (xa y i) ≠ 2 /\ xk (xa y i) ≠ 7) :=
  propext ⟨fun ⟨a, b⟩ => ⟨a, fun i h1 h2 => by rw [<- h i (by omega)]; exact b i h1 h2⟩, fun ⟨a, b⟩ => ⟨a, fun i h1 h2 => by rw [h i (by omega)]; exact b i h1 h2⟩⟩
 rw [e]
theorem ZKI {x y : List Ent} {n : Nat} (h : ∀ i < n + 1, xa x i = xa y i) : Zje x n = Zje y n := by
 have h' : ∀ i < n, xa x i = xa y i := fun i hi => h i (by omega)
 rw [Zc8, Zc8, h n (by omega), Zjd 1 _ h', Zjd 5 _ h', ZtP _ h', ZE6 _ h']
theorem ZLH {x y : List Ent} {n : Nat} (h : ∀ i < n + 1, xa x i = xa y i) : ZiQ x n = ZiQ y n := by
 have h' : ∀ i < n, xa x i = xa y i := fun i hi => h i (by omega)
 unfold ZiQ
 rw [h n (by omega), ZrY h']
theorem ZFq {x y : List Ent} : ∀ {n : Nat}, (∀ i < n, xa x i = xa y i) -> Zcm x n = Zcm y n
 | 0, _ => rfl
 | n + 1, h => by rw [Za8, Za8, ZFq fun i hi => h i (by omega), ZKI h, ZLH h]
structure Cln (A : List Ent) (o : List Int) (i : Nat) : Prop where
 tn : Zcm A A.length = (-1, 0)
 kp : Zw A A.length = o.take i
 la : ZiW A A.length = i
 no : ∀ w, w ∉ o.take i -> YD A w A.length = (false, -1) /\ ZI A 1 w A.length = -1 /\ ZI A 5 w A.length = -1
structure Mid (A : List Ent) (o : List Int) (i : Nat) (w : Int) : Prop where
 tn : Zcm A A.length = (-1, 0)
 kp : Zw A A.length = o.take i
 la : ZiW A A.length = i
 op : YD A w A.length = (true, -1)
 f5 : ZI A 5 w A.length = -1
 no : ∀ v, v ∉ o.take i -> v ≠ w -> YD A v A.length = (false, -1) /\ ZI A 1 v A.length = -1 /\ ZI A 5 v A.length = -1
theorem Za0 (A : List Ent) (r : Ent) : (A ++ [r]).length = A.length + 1 := by rw [ZNY, ZNH]
theorem Zrv (A : List Ent) (r : Ent) : ∀ i < A.length, xa (A ++ [r]) i = xa A i := fun i hi => xa_l hi
theorem ZcM (A : List Ent) (r : Ent) (k w : Int) : ZI (A ++ [r]) k w (A ++ [r]).length = if 0 <= ZI A k w A.length then ZI A k w A.length else if xk r = k /\ xw r = w then (A.length : Int) else -1 := by
 rw [Za0, Yh, Zjd k w (Zrv A r), ZFw A r []]
theorem ZhH (A : List Ent) (r : Ent) (w : Int) : YD (A ++ [r]) w (A ++ [r]).length = (if xk r = 1 /\ xw r = w then (true, (YD A w A.length).2)
  else if (xk r = 5 \/ xk r = 6) /\ xw r = w then (false, (YD A w A.length).2)
  else if xk r = 7 /\ (YD A w A.length).1 = true then (false, (A.length : Int)) else YD A w A.length) := by
 rw [Za0, ZbE, ZtP w (Zrv A r), ZFw A r []]
theorem Zoh (A : List Ent) (r : Ent) : Zw (A ++ [r]) (A ++ [r]).length = if xk r = 5 then Zw A A.length ++ [xw r] else Zw A A.length := by
 rw [Za0, ZbC, ZBI (Zrv A r), ZFw A r []]
theorem ZnW (A : List Ent) (r : Ent) : ZiW (A ++ [r]) (A ++ [r]).length = if xk r = 5 then xt r else ZiW A A.length := by
 rw [Za0, Zlz, ZrY (Zrv A r), ZFw A r []]
theorem Zol (A : List Ent) (r : Ent) (h : Zcm A A.length = (-1, 0)) (ho : (if xk r = 1 then decide (0 <= ZI A 1 (xw r) A.length)
  else if xk r = 2 then decide (0 < xw r) && !(YD A (xw r) A.length).1
  else if xk r = 3 \/ xk r = 4 \/ xk r = 6 then !(YD A (xw r) A.length).1
  else if xk r = 5 then (!(YD A (xw r) A.length).1 && !ZdI A (YD A (xw r) A.length).2 A.length) || decide (0 <= ZI A 5 (xw r) A.length)
  else false) = false) (hw : xk r = 5 -> xt r = ZiW A A.length + 1) : Zcm (A ++ [r]) (A ++ [r]).length = (-1, 0) := by
 have e1 : Zje (A ++ [r]) A.length = false := by
  rw [Zc8, ZFw A r [], Zjd 1 _ (Zrv A r), Zjd 5 _ (Zrv A r), ZtP _ (Zrv A r), ZE6 _ (Zrv A r)]; exact ho
 have e2 : ZiQ (A ++ [r]) A.length = false := by
  unfold ZiQ
  rw [ZFw A r [], ZrY (Zrv A r)]
  by_cases h5 : xk r = 5
  ·rw [hw h5]; simp
  ·simp [h5]
 rw [Za0, Za8, ZFq (Zrv A r), h, if_neg (by show ¬ (0 : Int) <= -1; omega), e1, e2]
 simp
/-! ### Its length -/
def wrF (w : Int) (key : List UInt8) (v : Option (List UInt8 × Bool)) (r : Ent) : Option (List UInt8 × Bool) := if (xk r = 3 \/ xk r = 4) /\ xw r = w /\ ZL r = key then some (YX r, decide (xk r = 3)) else v
def wrL (L : List Ent) (w : Int) (key : List UInt8) : Option (List UInt8 × Bool) := L.foldl (wrF w key) none
theorem Zxe {x : List Ent} {n : Nat} (h : n < x.length) : x.take (n + 1) = x.take n ++ [xa x n] := by
 unfold xa
 rw [List.take_add_one, ZNT, ZNW h]; rfl
theorem Zxl (x : List Ent) (w : Int) (key : List UInt8) : ∀ n ≤ x.length, wrL (x.take n) w key = if 0 <= YE x w key n then some (YX (xa x (YE x w key n).toNat), decide (xk (xa x (YE x w key n).toNat) = 3)) else none
 | 0, _ => by rw [if_neg (by show ¬ (0 : Int) <= -1; omega)]; rfl
 | n + 1, h => by
  have ih := Zxl x w key n (by omega)
  unfold wrL at ih ⊢
  rw [Zxe (by omega), List.foldl_append, ih, Zcn]
  show wrF w key _ (xa x n) = _
  unfold wrF
  by_cases hc : (xk (xa x n) = 3 \/ xk (xa x n) = 4) /\ xw (xa x n) = w /\ ZL (xa x n) = key
  ·rw [if_pos hc, if_pos hc, if_pos (by omega), ZN0]
  ·rw [if_neg hc, if_neg hc]
def ahN : List (List Int) -> List UInt8 -> Nat
 | [], _ => 0
 | r :: l, k => if Op.bytesLess (txt r) k = true then ahN l k + 1 else 0
def isK (l : List (List Int)) (k : List UInt8) : Bool := decide (ahN l k < l.length) && decide (txt (l.getD (ahN l k) []) = k)
def lkR : List (List Int) -> List UInt8 -> List UInt8 × Bool
 | [], _ => ([], false)
 | r :: l, k => if Op.bytesLess (txt r) k = true then lkR l k else if txt r = k then (tx1 r, true) else ([], false)
def Zfi : List (List Int) -> List UInt8 -> List (List Int) -> List (List Int)
 | [], _, m => m
 | r :: l, k, m => if Op.bytesLess (txt r) k = true then r :: Zfi l k m else if txt r = k then m ++ l else m ++ r :: l
theorem Zrb : ∀ (l : List (List Int)) (k : List UInt8), ahN l k <= l.length
 | [], _ => ZNJ _
 | r :: l, k => by
  unfold ahN
  have := Zrb l k
  split <;> simp only [ZOd] <;> omega
theorem Zs9 (r : List Int) (l : List (List Int)) (k : List UInt8) : isK (r :: l) k = if Op.bytesLess (txt r) k = true then isK l k else decide (txt r = k) := by
 by_cases h : Op.bytesLess (txt r) k = true
 ·rw [if_pos h]
  have e : ahN (r :: l) k = ahN l k + 1 := by show (if _ then _ else _) = _; rw [if_pos h]
  unfold isK
  rw [e, ZOd, List.getD_cons_succ]
  simp
 ·rw [if_neg h]
  have e : ahN (r :: l) k = 0 := by show (if _ then _ else _) = _; rw [if_neg h]
  unfold isK
  rw [e]
  simp
theorem ZBv : ∀ (l : List (List Int)) (k : List UInt8), lkR l k = if isK l k = true then (tx1 (l.getD (ahN l k) []), true) else ([], false)
 | [], k => by unfold lkR isK ahN; simp
 | r :: l, k => by
  rw [Zs9]
  by_cases h : Op.bytesLess (txt r) k = true
  ·have e : ahN (r :: l) k = ahN l k + 1 := by show (if _ then _ else _) = _; rw [if_pos h]
   rw [e, List.getD_cons_succ, if_pos h]
   show (if _ then _ else _) = _
   rw [if_pos h, ZBv l k]
  ·have e : ahN (r :: l) k = 0 := by show (if _ then _ else _) = _; rw [if_neg h]
   rw [e, if_neg h]
   show (if _ then _ else _) = _
   rw [if_neg h]
   by_cases q : txt r = k
   ·rw [if_pos q]; simp [q]
   ·rw [if_neg q]; simp [q]
theorem ZAQ : ∀ (l : List (List Int)) (k : List UInt8) (m : List (List Int)), Zfi l k m = l.take (ahN l k) ++ m ++ l.drop (if isK l k = true then ahN l k + 1 else ahN l k)
 | [], k, m => by show m = _; simp
 | r :: l, k, m => by
  rw [Zs9]
  by_cases h : Op.bytesLess (txt r) k = true
  ·have e : ahN (r :: l) k = ahN l k + 1 := by show (if _ then _ else _) = _; rw [if_pos h]
   rw [e, if_pos h]
   show (if _ then _ else _) = _
   rw [if_pos h, ZAQ l k m]
   by_cases q : isK l k = true
   ·rw [if_pos q, if_pos q]; rfl
   ·rw [if_neg q, if_neg q]; rfl
  ·have e : ahN (r :: l) k = 0 := by show (if _ then _ else _) = _; rw [if_neg h]
   rw [e, if_neg h]
   show (if _ then _ else _) = _
   rw [if_neg h]
   by_cases q : txt r = k
   ·rw [if_pos q, if_pos (by simp [q])]; rfl
   ·rw [if_neg q, if_neg (by simp [q])]; rfl
/-! ### Sorted -/
def ZCT (l : List (List Int)) : Prop := l.Pairwise fun a b => txt a < txt b
theorem ZbY {a b : List UInt8} : Op.bytesLess a b = true ↔ a < b := by rw [Go.Proofs.bytesLess_eq, decide_eq_true_eq]
theorem Znz {a b : List UInt8} (h1 : ¬ a < b) (h2 : a ≠ b) : b < a := Decidable.byContradiction fun q => h2 (List.le_antisymm (List.not_lt.1 q) (List.not_lt.1 h1))
theorem ZIg {l : List (List Int)} {k : List UInt8} (h : ∀ r ∈ l, k < txt r) : lkR l k = ([], false) := by
 cases l with
 | nil => rfl
 | cons r l =>
  have hr := h r (ZN1 ..)
  show (if _ then _ else _) = _
  rw [if_neg (by rw [ZbY]; exact fun q => List.lt_irrefl _ (List.lt_trans q hr)), if_neg (fun q => by rw [q] at hr; exact List.lt_irrefl _ hr)]
theorem ZMa {k v : List UInt8} (q : List UInt8) : ∀ l : List (List Int), lkR (Zfi l k [[((Zj k : Nat) : Int), ((Zj v : Nat) : Int)]]) q = if q = k then (v, true) else lkR l q := by
 have ek : txt [((Zj k : Nat) : Int), ((Zj v : Nat) : Int)] = k := by show Yp (Int.toNat (Zj k : Nat)) = k; rw [ZN0, Zl]
 have ev : tx1 [((Zj k : Nat) : Int), ((Zj v : Nat) : Int)] = v := by show Yp (Int.toNat (Zj v : Nat)) = v; rw [ZN0, Zl]
 have one : ∀ l : List (List Int), lkR ([((Zj k : Nat) : Int), ((Zj v : Nat) : Int)] :: l) q = if Op.bytesLess k q = true then lkR l q else if k = q then (v, true) else ([], false) := fun l => by
  show (if _ then _ else _) = _
  rw [ek, ev]
 intro l
 induction l with
 | nil =>
  show lkR [_] q = _
  rw [one]
  by_cases h : q = k
  ·rw [if_pos h, if_neg (by rw [ZbY, h]; exact List.lt_irrefl _), if_pos h.symm]
  ·rw [if_neg h]
   split
   ·rfl
   ·rw [if_neg (fun z => h z.symm)]; rfl
 | cons r l ih =>
  have eL : lkR (r :: l) q = if Op.bytesLess (txt r) q = true then lkR l q else if txt r = q then (tx1 r, true) else ([], false) := rfl
  by_cases h : Op.bytesLess (txt r) k = true
  ·have e : Zfi (r :: l) k [[((Zj k : Nat) : Int), ((Zj v : Nat) : Int)]] = r :: Zfi l k [[((Zj k : Nat) : Int), ((Zj v : Nat) : Int)]] := by show (if _ then _ else _) = _; rw [if_pos h]
   rw [e, eL]
   show (if _ then _ else _) = _
   rw [ih]
   by_cases hq : q = k
   ·rw [if_pos hq, if_pos hq, if_pos (by rw [hq]; exact h)]
   ·rw [if_neg hq, if_neg hq]
  ·by_cases h2 : txt r = k
   ·have e : Zfi (r :: l) k [[((Zj k : Nat) : Int), ((Zj v : Nat) : Int)]] = [((Zj k : Nat) : Int), ((Zj v : Nat) : Int)] :: l := by show (if _ then _ else _) = _; rw [if_neg h, if_pos h2]; rfl
    rw [e, one, eL, h2]
    by_cases hq : q = k
    ·rw [if_pos hq, hq, if_neg (by rw [ZbY]; exact List.lt_irrefl _), if_pos rfl]
    ·rw [if_neg hq]
     split
     ·rfl
     ·rw [if_neg (fun z => hq z.symm), if_neg (fun z => hq z.symm)]
   ·have e : Zfi (r :: l) k [[((Zj k : Nat) : Int), ((Zj v : Nat) : Int)]] = [((Zj k : Nat) : Int), ((Zj v : Nat) : Int)] :: r :: l := by show (if _ then _ else _) = _; rw [if_neg h, if_neg h2]; rfl
    rw [ZbY] at h
    have h3 := Znz h h2
    rw [e, one]
    by_cases hq : q = k
    ·rw [if_pos hq, hq, if_neg (by rw [ZbY]; exact List.lt_irrefl _), if_pos rfl]
    ·rw [if_neg hq]
     by_cases h4 : Op.bytesLess k q = true
     ·rw [if_pos h4]
     ·rw [if_neg h4, if_neg (fun z => hq z.symm), eL]
      rw [ZbY] at h4
      have h5 := Znz h4 (fun z => hq z.symm)
      rw [if_neg (by rw [ZbY]; exact fun z => List.lt_irrefl _ (List.lt_trans z (List.lt_trans h5 h3))), if_neg (fun z => by rw [z] at h3; exact List.lt_irrefl _ (List.lt_trans h3 h5))]
theorem ZKe {k : List UInt8} (q : List UInt8) : ∀ {l : List (List Int)}, ZCT l -> lkR (Zfi l k []) q = if q = k then ([], false) else lkR l q := by
 intro l
 induction l with
 | nil => intro _; show lkR [] q = _; split <;> rfl
 | cons r l ih =>
  intro hs
  have hs' := hs
  unfold ZCT at hs
  rw [List.pairwise_cons] at hs
  have eL : lkR (r :: l) q = if Op.bytesLess (txt r) q = true then lkR l q else if txt r = q then (tx1 r, true) else ([], false) := rfl
  by_cases h : Op.bytesLess (txt r) k = true
  ·have e : Zfi (r :: l) k [] = r :: Zfi l k [] := by show (if _ then _ else _) = _; rw [if_pos h]
   rw [e, eL]
   show (if _ then _ else _) = _
   rw [ih hs.2]
   by_cases hq : q = k
   ·rw [if_pos hq, if_pos hq, if_pos (by rw [hq]; exact h)]
   ·rw [if_neg hq, if_neg hq]
  ·by_cases h2 : txt r = k
   ·have e : Zfi (r :: l) k [] = l := by show (if _ then _ else _) = _; rw [if_neg h, if_pos h2]; rfl
    have hgt : ∀ x ∈ l, k < txt x := fun x hx => by rw [<- h2]; exact hs.1 x hx
    rw [e, eL, h2]
    by_cases hq : q = k
    ·rw [if_pos hq, hq]; exact ZIg hgt
    ·rw [if_neg hq]
     by_cases h4 : Op.bytesLess k q = true
     ·rw [if_pos h4]
     ·rw [if_neg h4, if_neg (fun z => hq z.symm)]
      rw [ZbY] at h4
      exact ZIg fun x hx => List.lt_trans (Znz h4 (fun z => hq z.symm)) (hgt x hx)
   ·have e : Zfi (r :: l) k [] = r :: l := by show (if _ then _ else _) = _; rw [if_neg h, if_neg h2]; rfl
    rw [ZbY] at h
    have h3 := Znz h h2
    rw [e]
    by_cases hq : q = k
    ·rw [if_pos hq, hq]
     refine ZIg fun x hx => ?_
     rcases List.mem_cons.1 hx with rfl | hx
     ·exact h3
     ·exact List.lt_trans h3 (hs.1 x hx)
    ·rw [if_neg hq]
theorem Zxo {l : List (List Int)} {k : List UInt8} {m : List (List Int)} {x : List Int} : x ∈ Zfi l k m -> x ∈ l \/ x ∈ m := by
 induction l with
 | nil => exact fun h => .inr h
 | cons r l ih =>
  unfold Zfi
  split
  ·intro h
   rcases List.mem_cons.1 h with rfl | h
   ·exact .inl (ZN1 ..)
   ·rcases ih h with h | h
    ·exact .inl (ZNZ _ h)
    ·exact .inr h
  ·split
   ·intro h
    rcases List.mem_append.1 h with h | h
    ·exact .inr h
    ·exact .inl (ZNZ _ h)
   ·intro h
    rcases List.mem_append.1 h with h | h
    ·exact .inr h
    ·exact .inl h
theorem ZFu {k : List UInt8} {m : List (List Int)} (hm : m = [] \/ ∃ r, m = [r] /\ txt r = k) : ∀ {l : List (List Int)}, ZCT l -> ZCT (Zfi l k m) := by
 have hk : ∀ x ∈ m, txt x = k := fun x hx => by
  rcases hm with rfl | ⟨r, rfl, h⟩
  ·cases hx
  ·rw [List.mem_singleton.1 hx]; exact h
 have hs : ZCT m := by
  rcases hm with rfl | ⟨r, rfl, h⟩
  ·exact List.Pairwise.nil
  ·exact List.pairwise_singleton ..
 intro l
 induction l with
 | nil => exact fun _ => hs
 | cons r l ih =>
  intro h
  have h' := List.pairwise_cons.1 h
  unfold Zfi
  split
  ·rename_i q
   rw [ZbY] at q
   refine List.pairwise_cons.2 ⟨fun x hx => ?_, ih h'.2⟩
   rcases Zxo hx with hx | hx
   ·exact h'.1 x hx
   ·rw [hk x hx]; exact q
  ·split
   ·rename_i _ q
    refine List.pairwise_append.2 ⟨hs, h'.2, fun a ha b hb => ?_⟩
    rw [hk a ha, <- q]; exact h'.1 b hb
   ·rename_i q1 q2
    rw [ZbY] at q1
    have h3 := Znz q1 q2
    refine List.pairwise_append.2 ⟨hs, h, fun a ha b hb => ?_⟩
    rw [hk a ha]
    rcases List.mem_cons.1 hb with rfl | hb
    ·exact h3
    ·exact List.lt_trans h3 (h'.1 b hb)
def enE (k w : Int) (key val : List UInt8) (has : Bool) (t : Int) : Ent := [k, w, ((Zj key : Nat) : Int), ((Zj val : Nat) : Int), b01 has, t]
theorem ZcR (k w : Int) (key val : List UInt8) (has : Bool) (t : Int) : ZL (enE k w key val has t) = key := by show Yp (Int.toNat (Zj key : Nat)) = key; rw [ZN0, Zl]
theorem ZcN (k w : Int) (key val : List UInt8) (has : Bool) (t : Int) : YX (enE k w key val has t) = val := by show Yp (Int.toNat (Zj val : Nat)) = val; rw [ZN0, Zl]
theorem ZdQ (k w : Int) (key val : List UInt8) (has : Bool) (t : Int) : Zbc (enE k w key val has t) = has := Zff has
/-! ### What is told, by what was written -/
def leH (x : List Ent) (ks : List Int) (q : List UInt8) : Nat -> List UInt8 × Bool
 | 0 => ([], false)
 | n + 1 => (wrL x (ks.getD n 0) q).getD (leH x ks q n)
theorem ZIG (x : List Ent) (w : Int) (q : List UInt8) : wrL x w q = if 0 <= YE x w q x.length then some (YX (xa x (YE x w q x.length).toNat), decide (xk (xa x (YE x w q x.length).toNat) = 3)) else none := by
 have := Zxl x w q x.length (ZNJ _)
 rwa [List.take_length] at this
theorem Zli (x : List Ent) (ks : List Int) (q : List UInt8) : ∀ n, Zc0 x ks q n = leH x ks q n
 | 0 => rfl
 | n + 1 => by
  unfold leH Zc0
  dsimp only
  rw [ZIG, Zli x ks q n]
  split <;> rfl
def tel (x : List Ent) (m : Nat) (ks : List Int) : List UInt8 × Bool :=
 if 0 < xw (xa x m) then (wrL (x.take m) (xw (xa x m)) (ZL (xa x m))).getD (leH x ks (ZL (xa x m)) ks.length) else leH x ks (ZL (xa x m)) ks.length
theorem ZjW {x : List Ent} {m : Nat} (hm : m <= x.length) (ks : List Int) : (ZcY x m ks).1 = ((Zbc (xa x m) == (tel x m ks).2) && (YX (xa x m) == (tel x m ks).1)) := by
 have e := Zxl x (xw (xa x m)) (ZL (xa x m)) m hm
 unfold ZcY tel
 dsimp only
 rw [e, Zli]
 by_cases h0 : 0 < xw (xa x m)
 ·by_cases hj : 0 <= YE x (xw (xa x m)) (ZL (xa x m)) m
  ·rw [if_pos ⟨hj, h0⟩, if_pos h0, if_pos hj]; rfl
  ·rw [if_neg (fun q => hj q.1), if_pos h0, if_neg hj]; rfl
 ·rw [if_neg (fun q => h0 q.2), if_neg h0]
theorem Zfv (A : List Ent) (r : Ent) (w : Int) (q : List UInt8) : wrL (A ++ [r]) w q = wrF w q (wrL A w q) r := by unfold wrL; rw [List.foldl_append]; rfl
theorem wr_no {A : List Ent} {w : Int} {q : List UInt8} (h : ∀ r ∈ A, xw r ≠ w) : wrL A w q = none := by
 unfold wrL
 have : ∀ (L : List Ent), (∀ r ∈ L, xw r ≠ w) -> ∀ v, L.foldl (wrF w q) v = v := by
  intro L
  induction L with
  | nil => exact fun _ _ => rfl
  | cons r L ih =>
   intro hL v
   rw [List.foldl_cons]
   have : wrF w q v r = v := by unfold wrF; rw [if_neg (fun z => hL r (ZN1 ..) z.2.1)]
   rw [this]
   exact ih (fun r hr => hL r (ZNZ _ hr)) v
 exact this A h none
theorem Znk {w : Int} {q : List UInt8} {v : Option (List UInt8 × Bool)} {r : Ent} (h : ¬ ((xk r = 3 \/ xk r = 4) /\ xw r = w)) : wrF w q v r = v := by
 unfold wrF; rw [if_neg (fun z => h ⟨z.1, z.2.1⟩)]
theorem ZcD {A : List Ent} {r : Ent} {ks : List Int} (h : ¬ ((xk r = 3 \/ xk r = 4) /\ xw r ∈ ks)) (q : List UInt8) : ∀ n ≤ ks.length, leH (A ++ [r]) ks q n = leH A ks q n
 | 0, _ => rfl
 | n + 1, hn => by
  unfold leH
  have hm : ks.getD n 0 ∈ ks := by rw [ZNT, ZNW (by omega)]; exact ZOg _
  rw [Zfv, Znk (fun z => h ⟨z.1, by rw [z.2]; exact hm⟩), ZcD h q n (by omega)]
theorem ZxU (x : List Ent) {ks : List Int} (w : Int) (q : List UInt8) : ∀ n ≤ ks.length, leH x (ks ++ [w]) q n = leH x ks q n
 | 0, _ => rfl
 | n + 1, hn => by
  unfold leH
  rw [ZxU x w q n (by omega), show (ks ++ [w]).getD n 0 = ks.getD n 0 by rw [ZNT, ZOb (by omega), ZNT]]
/-! ### In turn -/
structure HT (A : List Ent) (k : List Int) (who : Int) (op : Bool) : Prop where
 tn : Zcm A A.length = (-1, 0)
 kp : Zw A A.length = k
 la : ZiW A A.length = k.length
 kl : k.length <= A.length
 my : ∀ r ∈ A, Za2 r = true
 wh : 0 <= who
 kr : k.Pairwise (· < ·)
 kb : ∀ w ∈ k, 0 < w /\ w <= who
 nw : ∀ r ∈ A, xw r <= who
 nf : ∀ v, who < v -> ZI A 1 v A.length = -1
 f5 : ∀ v, v ∉ k -> ZI A 5 v A.length = -1
 cl : ∀ v, (op = true -> v ≠ who) -> (YD A v A.length).1 = false
 oo : op = true -> 0 < who /\ (YD A who A.length).1 = true /\ ∀ w ∈ k, w < who
theorem ZsB (A : List Ent) (k w : Int) : ∀ n, -1 <= ZI A k w n
 | 0 => by show (-1 : Int) <= -1; omega
 | n + 1 => by
  have := ZsB A k w n
  unfold ZI
  split
  ·exact this
  ·split
   ·omega
   ·omega
theorem ht_0 : HT [] [] 0 false := ⟨rfl, rfl, rfl, ZNJ _, (fun r hr => nomatch hr), ZN4 _, List.Pairwise.nil, (fun w hw => nomatch hw), (fun r hr => nomatch hr), fun _ _ => rfl, fun _ _ => rfl, fun _ _ => rfl, (fun h => nomatch h)⟩
theorem Zap {p : Ent -> Prop} {A : List Ent} {r : Ent} (h : ∀ x ∈ A, p x) (hr : p r) : ∀ x ∈ A ++ [r], p x := fun x hx => by
 rcases List.mem_append.1 hx with hx | hx
 ·exact h x hx
 ·rw [List.mem_singleton.1 hx]; exact hr
theorem ZJn {A : List Ent} {k : List Int} {who : Int} {op : Bool} (h : HT A k who op) {r : Ent} (hm : Za2 r = true) (hw : xw r <= who)
  (hk : xk r = 2 /\ (xw r <= 0 \/ op = true /\ xw r = who) \/ (xk r = 3 \/ xk r = 4) /\ op = true /\ xw r = who) : HT (A ++ [r]) k who op := by
 have k1 : xk r ≠ 1 := by omega
 have k5 : xk r ≠ 5 := by omega
 have k6 : xk r ≠ 6 := by omega
 have k7 : xk r ≠ 7 := by omega
 have ho : ∀ v, YD (A ++ [r]) v (A ++ [r]).length = YD A v A.length := fun v => by
  rw [ZhH, if_neg (fun z => k1 z.1), if_neg (fun z => z.1.elim k5 k6), if_neg (fun z => k7 z.1)]
 have hf : ∀ v, ZI A 1 v A.length = -1 -> ZI (A ++ [r]) 1 v (A ++ [r]).length = -1 := fun v q => by rw [ZcM, q, if_neg (by omega), if_neg (fun z => k1 z.1)]
 have hf5 : ∀ v, ZI A 5 v A.length = -1 -> ZI (A ++ [r]) 5 v (A ++ [r]).length = -1 := fun v q => by rw [ZcM, q, if_neg (by omega), if_neg (fun z => k5 z.1)]
 refine ⟨Zol A r h.tn ?_ (fun q => absurd q k5), ?_, ?_, by rw [Za0]; have := h.kl; omega, Zap h.my hm, h.wh, h.kr, h.kb, Zap h.nw hw, fun v hv => hf v (h.nf v hv), fun v hv => hf5 v (h.f5 v hv), fun v hv => by rw [ho]; exact h.cl v hv, fun q => by rw [ho]; exact h.oo q⟩
 ·rw [if_neg k1]
  rcases hk with ⟨h2, h3⟩ | ⟨h2, h3, h4⟩
  ·rw [if_pos h2]
   rcases h3 with h3 | ⟨h3, h4⟩
   ·rw [show decide (0 < xw r) = false from decide_eq_false (by omega)]; rfl
   ·rw [h4, (h.oo h3).2.1]; simp
  ·rw [if_neg (by omega), if_pos (by omega), h4, (h.oo h3).2.1]; rfl
 ·rw [Zoh, if_neg k5]; exact h.kp
 ·rw [ZnW, if_neg k5]; exact h.la
theorem ZMt {A : List Ent} {k : List Int} {who : Int} (h : HT A k who false) : HT (A ++ [enE 1 (who + 1) [] [] false 0]) k (who + 1) true := by
 have hwh := h.wh
 have kx : xk (enE 1 (who + 1) [] [] false 0) = 1 := rfl
 have wx : xw (enE 1 (who + 1) [] [] false 0) = who + 1 := rfl
 have hm : Za2 (enE 1 (who + 1) [] [] false 0) = true := by
  unfold Za2
  rw [kx, wx, ZcR, ZcN, ZdQ]
  simp [xt, enE]; omega
 generalize enE 1 (who + 1) [] [] false 0 = r at *
 refine ⟨Zol A r h.tn ?_ (fun q => by omega), ?_, ?_, by rw [Za0]; have := h.kl; omega, Zap h.my hm, by omega, h.kr, fun w hw => ⟨(h.kb w hw).1, by have := (h.kb w hw).2; omega⟩, Zap (fun x hx => by have := h.nw x hx; omega) (by omega), fun v hv => ?_, fun v hv => ?_, fun v hv => ?_, fun _ => ⟨by omega, ?_, fun w hw => by have := (h.kb w hw).2; omega⟩⟩
 ·rw [if_pos kx, wx, h.nf _ (by omega)]; rfl
 ·rw [Zoh, if_neg (by omega)]; exact h.kp
 ·rw [ZnW, if_neg (by omega)]; exact h.la
 ·rw [ZcM, h.nf v (by omega), if_neg (by omega), if_neg (by omega)]
 ·rw [ZcM, h.f5 v hv, if_neg (by omega), if_neg (by omega)]
 ·rw [ZhH, if_neg (fun z => hv rfl (by omega)), if_neg (by omega), if_neg (by omega)]; exact h.cl v (fun z => nomatch z)
 ·rw [ZhH, if_pos ⟨kx, wx⟩]
theorem ZHo {A : List Ent} {k : List Int} {who : Int} (h : HT A k who true) : HT (A ++ [enE 6 who [] [] false 0]) k who false := by
 obtain ⟨o1, o2, o3⟩ := h.oo rfl
 have kx : xk (enE 6 who [] [] false 0) = 6 := rfl
 have wx : xw (enE 6 who [] [] false 0) = who := rfl
 have hm : Za2 (enE 6 who [] [] false 0) = true := by
  unfold Za2
  rw [kx, wx, ZcR, ZcN, ZdQ]
  simp [xt, enE]; omega
 generalize enE 6 who [] [] false 0 = r at *
 refine ⟨Zol A r h.tn ?_ (fun q => by omega), ?_, ?_, by rw [Za0]; have := h.kl; omega, Zap h.my hm, h.wh, h.kr, h.kb, Zap h.nw (by omega), fun v hv => ?_, fun v hv => ?_, fun v hv => ?_, fun z => nomatch z⟩
 ·rw [if_neg (by omega), if_neg (by omega), if_pos (by omega), wx, o2]; rfl
 ·rw [Zoh, if_neg (by omega)]; exact h.kp
 ·rw [ZnW, if_neg (by omega)]; exact h.la
 ·rw [ZcM, h.nf v hv, if_neg (by omega), if_neg (by omega)]
 ·rw [ZcM, h.f5 v hv, if_neg (by omega), if_neg (by omega)]
 ·rw [ZhH, if_neg (by omega)]
  by_cases hvw : v = who
  ·rw [if_pos ⟨.inr kx, by rw [wx]; exact hvw.symm⟩]
  ·rw [if_neg (fun z => hvw (by rw [<- z.2]; exact wx)), if_neg (by omega)]; exact h.cl v (fun _ => hvw)
theorem Ztn {A : List Ent} {k : List Int} {who : Int} {op : Bool} (h : HT A k who op) : HT (A ++ [enE 7 0 [] [] false 0]) k who false := by
 have kx : xk (enE 7 0 [] [] false 0) = 7 := rfl
 have wx : xw (enE 7 0 [] [] false 0) = 0 := rfl
 have hwh := h.wh
 have hm : Za2 (enE 7 0 [] [] false 0) = true := by
  unfold Za2
  rw [kx, wx, ZcR, ZcN, ZdQ]
  simp [xt, enE]
 generalize enE 7 0 [] [] false 0 = r at *
 refine ⟨Zol A r h.tn ?_ (fun q => by omega), ?_, ?_, by rw [Za0]; have := h.kl; omega, Zap h.my hm, h.wh, h.kr, h.kb, Zap h.nw (by omega), fun v hv => ?_, fun v hv => ?_, fun v hv => ?_, fun z => nomatch z⟩
 ·rw [if_neg (by omega), if_neg (by omega), if_neg (by omega), if_neg (by omega)]
 ·rw [Zoh, if_neg (by omega)]; exact h.kp
 ·rw [ZnW, if_neg (by omega)]; exact h.la
 ·rw [ZcM, h.nf v hv, if_neg (by omega), if_neg (by omega)]
 ·rw [ZcM, h.f5 v hv, if_neg (by omega), if_neg (by omega)]
 ·rw [ZhH, if_neg (by omega), if_neg (by omega)]
  by_cases hq : (YD A v A.length).1 = true
  ·rw [if_pos ⟨kx, hq⟩]
  ·rw [if_neg (fun z => hq z.2)]; simpa using hq
theorem ZEF {A : List Ent} {k : List Int} {who : Int} {op : Bool} (h : HT A k who op) (hA : A.length <= 1000) (hw : 0 < who) (hk : ∀ w ∈ k, w < who)
  (ho : (YD A who A.length).1 = true \/ ZdI A (YD A who A.length).2 A.length = true) : HT (A ++ [enE 5 who [] [] false ((k.length : Int) + 1)]) (k ++ [who]) who false := by
 have kx : xk (enE 5 who [] [] false ((k.length : Int) + 1)) = 5 := rfl
 have wx : xw (enE 5 who [] [] false ((k.length : Int) + 1)) = who := rfl
 have tx : xt (enE 5 who [] [] false ((k.length : Int) + 1)) = (k.length : Int) + 1 := rfl
 have hkl := h.kl
 have hni : who ∉ k := fun z => by have := hk who z; omega
 have hm : Za2 (enE 5 who [] [] false ((k.length : Int) + 1)) = true := by
  unfold Za2
  rw [kx, wx, ZcR, ZcN, ZdQ, tx]
  simp; omega
 generalize enE 5 who [] [] false ((k.length : Int) + 1) = r at *
 refine ⟨Zol A r h.tn ?_ (fun _ => by rw [tx, h.la]), ?_, ?_, by rw [Za0, ZNY, ZNH]; omega, Zap h.my hm, h.wh, ?_, fun w hw' => ?_, Zap h.nw (by omega), fun v hv => ?_, fun v hv => ?_, fun v hv => ?_, fun z => nomatch z⟩
 ·rw [if_neg (by omega), if_neg (by omega), if_neg (by omega), if_pos kx, wx, h.f5 who hni]
  rcases ho with ho | ho
  ·rw [ho]; rfl
  ·rw [ho]; simp
 ·rw [Zoh, if_pos kx, h.kp, wx]
 ·rw [ZnW, if_pos kx, tx, ZNY, ZNH]; omega
 ·refine List.pairwise_append.2 ⟨h.kr, List.pairwise_singleton .., fun a ha b hb => ?_⟩
  rw [List.mem_singleton.1 hb]; exact hk a ha
 ·rcases List.mem_append.1 hw' with q | q
  ·exact h.kb w q
  ·rw [List.mem_singleton.1 q]; exact ⟨hw, ZN4 _⟩
 ·rw [ZcM, h.nf v hv, if_neg (by omega), if_neg (by omega)]
 ·rw [ZOe, ZNM, not_or] at hv
  rw [ZcM, h.f5 v hv.1, if_neg (by omega), if_neg (fun z => hv.2 (by rw [<- z.2]; exact wx))]
 ·rw [ZhH, if_neg (by omega)]
  by_cases hvw : v = who
  ·rw [if_pos ⟨.inl kx, by rw [wx]; exact hvw.symm⟩]
  ·rw [if_neg (fun z => hvw (by rw [<- z.2]; exact wx)), if_neg (by omega)]; exact h.cl v (fun _ => hvw)
theorem ZHg {A : List Ent} {r : Ent} : ZdI (A ++ [r]) (A.length : Int) (A ++ [r]).length = true := by
 unfold ZdI
 rw [Zi]
 exact ⟨by omega, fun i h1 h2 => by rw [Za0] at h2; omega⟩
structure HV (A : List Ent) (k : List Int) (who : Int) (op : Bool) (d w : List (List Int)) : Prop where
 ds : ZCT d
 dc : ∀ r ∈ d, ∃ s t : List UInt8, r = [((Zj s : Nat) : Int), ((Zj t : Nat) : Int)]
 dl : ∀ q, lkR d q = leH A k q k.length
 ws : op = true -> ZCT w
 wc : op = true -> ∀ r ∈ w, ∃ s t : List UInt8, r = [((Zj s : Nat) : Int), ((Zj t : Nat) : Int)]
 wl : op = true -> ∀ q, lkR w q = (wrL A who q).getD (lkR d q)
 te : ∀ m < A.length, xk (xa A m) = 2 -> (ZcY A m (Zw A (ZcS A m))).1 = true
 rd : op = true -> ∀ m < A.length, xk (xa A m) = 2 -> xw (xa A m) = who -> Zw A m = k
theorem ZsP {x : List Ent} {w : Int} {n : Nat} : ∀ {p : Nat}, n <= p -> w ∈ Zw x n -> w ∈ Zw x p
 | 0, h, hw => by
  have : n = 0 := by omega
  rw [this] at hw; exact hw
 | p + 1, h, hw => by
  rcases ZNN n (p + 1) with q | q
  ·have := ZsP (p := p) (by omega) hw
   unfold Zw
   split
   ·exact List.mem_append_left _ this
   ·exact this
  ·have : n = p + 1 := by omega
   rw [<- this]; exact hw
theorem Zrf (A : List Ent) (k w : Int) : ∀ n : Nat, ZI A k w n < n
 | 0 => by show (-1 : Int) < 0; omega
 | n + 1 => by
  have := Zrf A k w n
  unfold ZI
  split
  ·omega
  ·split <;> omega
theorem Zfo (x : List Ent) (n : Nat) : ZcS x n = if 0 < xw (xa x n) then (if 0 <= ZI x 5 (xw (xa x n)) x.length then (ZI x 5 (xw (xa x n)) x.length).toNat else n) else n := rfl
theorem ZG4 {A : List Ent} {m : Nat} (hm : m <= A.length) : ZcS A m <= A.length := by
 have := Zrf A 5 (xw (xa A m)) A.length
 rw [Zfo]
 split
 ·split
  ·omega
  ·exact hm
 ·exact hm
theorem ZqK (A : List Ent) (r : Ent) {n : Nat} (h : n <= A.length) : Zw (A ++ [r]) n = Zw A n := ZBI fun i hi => Zrv A r i (by omega)
theorem ZDr {A : List Ent} {r : Ent} {m : Nat} (hm : m < A.length) {ks : List Int} (h : ¬ ((xk r = 3 \/ xk r = 4) /\ xw r ∈ ks)) : tel (A ++ [r]) m ks = tel A m ks := by
 unfold tel
 rw [Zrv A r m hm, ZcD h _ _ (ZNJ _), List.take_append_of_le_length (by omega)]
theorem Zta {A : List Ent} {r : Ent} {k : List Int} (hk : Zw A A.length = k) (hw : ¬ ((xk r = 3 \/ xk r = 4) /\ xw r ∈ k))
  (h5 : xk r = 5 -> ∀ m < A.length, xk (xa A m) = 2 -> xw (xa A m) = xw r -> ZI A 5 (xw r) A.length = -1 -> Zw A m = k)
  (te : ∀ m < A.length, xk (xa A m) = 2 -> (ZcY A m (Zw A (ZcS A m))).1 = true) {m : Nat} (hm : m < A.length) (h2 : xk (xa A m) = 2) :
  (ZcY (A ++ [r]) m (Zw (A ++ [r]) (ZcS (A ++ [r]) m))).1 = true := by
 have hx := Zrv A r m hm
 have hE : Zw (A ++ [r]) (ZcS (A ++ [r]) m) = Zw A (ZcS A m) := by
  have hf := Zrf A 5 (xw (xa A m)) A.length
  rw [Zfo, Zfo, hx, ZcM]
  by_cases h0 : 0 < xw (xa A m)
  ·rw [if_pos h0, if_pos h0]
   by_cases hc : 0 <= ZI A 5 (xw (xa A m)) A.length
   ·rw [if_pos hc, if_pos hc]
    exact ZqK A r (by omega)
   ·rw [if_neg hc, if_neg hc]
    by_cases hr : xk r = 5 /\ xw r = xw (xa A m)
    ·rw [if_pos hr, if_pos (by omega), ZN0, ZqK A r (ZNJ _), hk]
     exact (h5 hr.1 m hm h2 hr.2.symm (by have := ZsB A 5 (xw r) A.length; rw [hr.2] at this ⊢; omega)).symm
    ·rw [if_neg hr, if_neg (by omega)]
     exact ZqK A r (by omega)
  ·rw [if_neg h0, if_neg h0]
   exact ZqK A r (by omega)
 have ht := te m hm h2
 rw [ZjW (by omega)] at ht
 rw [hE, ZjW (by rw [Za0]; omega), hx, ZDr hm fun z => hw ⟨z.1, by rw [<- hk]; exact ZsP (ZG4 (by omega)) z.2⟩]
 exact ht
theorem ZL7 {A : List Ent} {r : Ent} {k : List Int} (hk : Zw A A.length = k) (h2 : xk r = 2) (h5 : 0 < xw r -> ZI A 5 (xw r) A.length = -1)
  (hv : (YX r, Zbc r) = if 0 < xw r then (wrL A (xw r) (ZL r)).getD (leH A k (ZL r) k.length) else leH A k (ZL r) k.length) :
  (ZcY (A ++ [r]) A.length (Zw (A ++ [r]) (ZcS (A ++ [r]) A.length))).1 = true := by
 have hx : xa (A ++ [r]) A.length = r := ZFw A r []
 have hE : ZcS (A ++ [r]) A.length = A.length := by
  rw [Zfo, hx, ZcM]
  by_cases h0 : 0 < xw r
  ·have e : (if 0 <= (-1 : Int) then (-1 : Int) else if xk r = 5 /\ xw r = xw r then (A.length : Int) else -1) = -1 := by rw [if_neg (by omega), if_neg (by omega)]
   rw [if_pos h0, h5 h0, e, if_neg (by omega)]
  ·rw [if_neg h0]
 have ht : tel (A ++ [r]) A.length k = (YX r, Zbc r) := by
  unfold tel
  rw [hx, ZcD (by omega) _ _ (ZNJ _), List.take_left, hv]
 rw [hE, ZqK A r (ZNJ _), hk, ZjW (by rw [Za0]; omega), hx, ht]
 simp
theorem ZtK {A : List Ent} {r : Ent} (h1 : ∀ m < A.length, xk (xa A m) = 2 -> (ZcY (A ++ [r]) m (Zw (A ++ [r]) (ZcS (A ++ [r]) m))).1 = true)
  (h2 : xk r = 2 -> (ZcY (A ++ [r]) A.length (Zw (A ++ [r]) (ZcS (A ++ [r]) A.length))).1 = true) :
  ∀ m < (A ++ [r]).length, xk (xa (A ++ [r]) m) = 2 -> (ZcY (A ++ [r]) m (Zw (A ++ [r]) (ZcS (A ++ [r]) m))).1 = true := fun m hm hx => by
 rw [Za0] at hm
 rcases ZNN m A.length with q | q
 ·rw [Zrv A r m q] at hx; exact h1 m q hx
 ·obtain rfl : m = A.length := by omega
  rw [ZFw A r []] at hx; exact h2 hx
theorem Zty {A : List Ent} {r : Ent} {k : List Int} {who : Int} (hk : Zw A A.length = k) (h : ∀ m < A.length, xk (xa A m) = 2 -> xw (xa A m) = who -> Zw A m = k) :
  ∀ m < (A ++ [r]).length, xk (xa (A ++ [r]) m) = 2 -> xw (xa (A ++ [r]) m) = who -> Zw (A ++ [r]) m = k := fun m hm h2 hw => by
 rw [Za0] at hm
 rcases ZNN m A.length with q | q
 ·rw [Zrv A r m q] at h2 hw
  rw [ZqK A r (by omega)]; exact h m q h2 hw
 ·obtain rfl : m = A.length := by omega
  rw [ZqK A r (ZNJ _)]; exact hk
theorem hv_0 : HV [] [] 0 false [] [] := ⟨List.Pairwise.nil, (fun r hr => nomatch hr), fun _ => rfl, (fun h => nomatch h), (fun h => nomatch h), (fun h => nomatch h), (fun m hm => by cases hm), (fun h => nomatch h)⟩
theorem ZE2 {A : List Ent} {k : List Int} {who : Int} {op : Bool} {d w w' : List (List Int)} (h : HV A k who op d w) : HV A k who false d w' :=
 ⟨h.ds, h.dc, h.dl, (fun z => nomatch z), (fun z => nomatch z), (fun z => nomatch z), h.te, (fun z => nomatch z)⟩
theorem Zkr {A : List Ent} {k : List Int} {who : Int} {op : Bool} {d w : List (List Int)} (ht : HT A k who op) (h : HV A k who op d w) {r : Ent} (hr : xk r = 1 \/ xk r = 6 \/ xk r = 7) : HV (A ++ [r]) k who op d w := by
 refine ⟨h.ds, h.dc, fun q => by rw [ZcD (by omega) _ _ (ZNJ _)]; exact h.dl q, h.ws, h.wc, fun o q => by rw [Zfv, Znk (by omega)]; exact h.wl o q,
  ZtK (fun m hm h2 => Zta ht.kp (by omega) (by omega) h.te hm h2) (by omega), fun o => Zty ht.kp (h.rd o)⟩
theorem ZM1 {A : List Ent} {k : List Int} {who : Int} {d w : List (List Int)} (ht : HT A k who false) (h : HV A k who false d w) : HV (A ++ [enE 1 (who + 1) [] [] false 0]) k (who + 1) true d d := by
 have kx : xk (enE 1 (who + 1) [] [] false 0) = 1 := rfl
 generalize enE 1 (who + 1) [] [] false 0 = r at *
 have h1 := Zkr (r := r) ht h (.inl kx)
 refine ⟨h1.ds, h1.dc, h1.dl, fun _ => h.ds, fun _ => h.dc, fun _ q => ?_, h1.te, fun _ => Zty ht.kp fun m hm _ hw => ?_⟩
 ·rw [Zfv, Znk (by omega), wr_no fun x hx z => by have := ht.nw x hx; omega]; rfl
 ·have := ht.nw (xa A m) (by unfold xa; rw [ZNT, ZNW hm]; exact ZOg _)
  omega
theorem ZIt {A : List Ent} {k : List Int} {who : Int} {op : Bool} {d w : List (List Int)} (ht : HT A k who op) (h : HV A k who op d w) (key : List UInt8) :
  HV (A ++ [enE 2 (if op = true then who else 0) key (lkR (if op = true then w else d) key).1 (lkR (if op = true then w else d) key).2 0]) k who op d w := by
 have kx : xk (enE 2 (if op = true then who else 0) key (lkR (if op = true then w else d) key).1 (lkR (if op = true then w else d) key).2 0) = 2 := rfl
 have wx : xw (enE 2 (if op = true then who else 0) key (lkR (if op = true then w else d) key).1 (lkR (if op = true then w else d) key).2 0) = if op = true then who else 0 := rfl
 have ky := ZcR 2 (if op = true then who else 0) key (lkR (if op = true then w else d) key).1 (lkR (if op = true then w else d) key).2 0
 have vy : (YX (enE 2 (if op = true then who else 0) key (lkR (if op = true then w else d) key).1 (lkR (if op = true then w else d) key).2 0), Zbc (enE 2 (if op = true then who else 0) key (lkR (if op = true then w else d) key).1 (lkR (if op = true then w else d) key).2 0)) = lkR (if op = true then w else d) key := by rw [ZcN, ZdQ]
 generalize enE 2 (if op = true then who else 0) key (lkR (if op = true then w else d) key).1 (lkR (if op = true then w else d) key).2 0 = r at *
 refine ⟨h.ds, h.dc, fun q => by rw [ZcD (by omega) _ _ (ZNJ _)]; exact h.dl q, h.ws, h.wc, fun o q => by rw [Zfv, Znk (by omega)]; exact h.wl o q,
  ZtK (fun m hm h2 => Zta ht.kp (by omega) (by omega) h.te hm h2) (fun _ => ZL7 ht.kp kx (fun h0 => ?_) ?_), fun o => Zty ht.kp (h.rd o)⟩
 ·cases op with
  | false => rw [wx] at h0; exact absurd h0 (by simp)
  | true =>
   rw [wx]
   exact ht.f5 _ fun z => by have := (ht.oo rfl).2.2 _ z; simp at this
 ·rw [vy, ky, wx, <- h.dl]
  cases op with
  | false => rfl
  | true =>
   rw [if_pos rfl, if_pos rfl, if_pos (ht.oo rfl).1]
   exact h.wl rfl key
theorem row_c {k v : List UInt8} {l : List (List Int)} (h : ∀ r ∈ l, ∃ s t : List UInt8, r = [((Zj s : Nat) : Int), ((Zj t : Nat) : Int)]) : ∀ r ∈ Zfi l k [[((Zj k : Nat) : Int), ((Zj v : Nat) : Int)]], ∃ s t : List UInt8, r = [((Zj s : Nat) : Int), ((Zj t : Nat) : Int)] := fun r hr => by
 rcases Zxo hr with q | q
 ·exact h r q
 ·exact ⟨k, v, List.mem_singleton.1 q⟩
theorem ZLL {A : List Ent} {k : List Int} {who : Int} {d w : List (List Int)} (ht : HT A k who true) (h : HV A k who true d w) {r : Ent} {key : List UInt8} {w' : List (List Int)}
  (hk : xk r = 3 \/ xk r = 4) (hw : xw r = who) (hkey : ZL r = key) (s' : ZCT w') (c' : ∀ r ∈ w', ∃ s t : List UInt8, r = [((Zj s : Nat) : Int), ((Zj t : Nat) : Int)])
  (l' : ∀ q, lkR w' q = if q = key then (YX r, decide (xk r = 3)) else lkR w q) : HV (A ++ [r]) k who true d w' := by
 have hni : xw r ∉ k := fun z => by have := (ht.oo rfl).2.2 _ z; omega
 refine ⟨h.ds, h.dc, fun q => by rw [ZcD (fun z => hni z.2) _ _ (ZNJ _)]; exact h.dl q, fun _ => s', fun _ => c', fun _ q => ?_,
  ZtK (fun m hm h2 => Zta ht.kp (fun z => hni z.2) (by omega) h.te hm h2) (by omega), fun o => Zty ht.kp (h.rd rfl)⟩
 rw [Zfv, l' q]
 unfold wrF
 by_cases hq : q = key
 ·rw [if_pos hq, if_pos ⟨hk, hw, by rw [hkey]; exact hq.symm⟩]; rfl
 ·rw [if_neg hq, if_neg (fun z => hq (by rw [<- z.2.2]; exact hkey))]; exact h.wl rfl q
theorem ZEZ {A : List Ent} {k : List Int} {who : Int} {d w w' : List (List Int)} {t : Int} (hk : Zw A A.length = k) (hf : ZI A 5 who A.length = -1) (hni : who ∉ k) (h : HV A k who true d w) :
  HV (A ++ [enE 5 who [] [] false t]) (k ++ [who]) who false w w' := by
 have kx : xk (enE 5 who [] [] false t) = 5 := rfl
 have wx : xw (enE 5 who [] [] false t) = who := rfl
 generalize enE 5 who [] [] false t = r at *
 refine ⟨h.ws rfl, h.wc rfl, fun q => ?_, (fun z => nomatch z), (fun z => nomatch z), (fun z => nomatch z),
  ZtK (fun m hm h2 => Zta hk (by omega) (fun _ m hm h2 hw _ => h.rd rfl m hm h2 (by omega)) h.te hm h2) (by omega), (fun z => nomatch z)⟩
 rw [ZNY, ZNH]
 show _ = (wrL (A ++ [r]) ((k ++ [who]).getD k.length 0) q).getD (leH (A ++ [r]) (k ++ [who]) q k.length)
 rw [show (k ++ [who]).getD k.length 0 = who by rw [ZNT, ZOc (ZNJ _)]; simp, ZxU _ _ _ _ (ZNJ _), ZcD (by omega) _ _ (ZNJ _), Zfv, Znk (by omega), <- h.dl]
 exact h.wl rfl q
structure Hn where
 h : List Ent
 d : List (List Int)
 w : List (List Int)
 k : List Int
 who : Int
 op : Bool
def hn0 : Hn := ⟨[], [], [], [], 0, false⟩
def Hn.rd (s : Hn) : List (List Int) := if s.op = true then s.w else s.d
def Hn.by (s : Hn) : Int := if s.op = true then s.who else 0
def Hn.kp (s : Hn) : Hn := ⟨s.h ++ [enE 5 s.who [] [] false ((s.k.length : Int) + 1)], s.w, s.w, s.k ++ [s.who], s.who, false⟩
def Hn.cr (s : Hn) : Hn := { s with h := s.h ++ [enE 7 0 [] [] false 0] }
def Hn.act (s : Hn) (a : List Int) : Hn :=
 if g0 a = 1 /\ s.op = false then ⟨s.h ++ [enE 1 (s.who + 1) [] [] false 0], s.d, s.d, s.k, s.who + 1, true⟩
 else if g0 a = 2 /\ tx1 a ≠ [] then { s with h := s.h ++ [enE 2 s.by (tx1 a) (lkR s.rd (tx1 a)).1 (lkR s.rd (tx1 a)).2 0] }
 else if (g0 a = 3 \/ g0 a = 4) /\ s.op = true /\ tx1 a ≠ [] then
  if g0 a = 3 then { s with h := s.h ++ [enE 3 s.who (tx1 a) (ZL a) true 0], w := Zfi s.w (tx1 a) [[((Zj (tx1 a) : Nat) : Int), ((Zj (ZL a) : Nat) : Int)]] }
  else { s with h := s.h ++ [enE 4 s.who (tx1 a) [] false 0], w := Zfi s.w (tx1 a) [] }
 else if g0 a = 5 /\ s.op = true then s.kp
 else if g0 a = 6 /\ s.op = true then { s with h := s.h ++ [enE 6 s.who [] [] false 0], op := false }
 else if g0 a = 7 /\ s.op = true then s.cr.kp
 else if g0 a < 1 \/ 7 < g0 a then { s.cr with op := false }
 else s
structure HI (s : Hn) : Prop where
 t : HT s.h s.k s.who s.op
 v : HV s.h s.k s.who s.op s.d s.w
theorem hi_0 : HI hn0 := ⟨ht_0, hv_0⟩
theorem ZFk {k : List UInt8} : ∀ {l : List (List Int)}, (lkR l k).2 = false -> (lkR l k).1 = []
 | [], _ => rfl
 | r :: l, h => by
  unfold lkR at h ⊢
  split at h
  ·rename_i q; rw [if_pos q]; exact ZFk h
  ·rename_i q; rw [if_neg q]
   split at h
   ·cases h
   ·rename_i q2; rw [if_neg q2]
theorem hi_kp {s : Hn} (h : HI s) (hl : s.h.length <= 1000) (ho : s.op = true) : HI s.kp := by
 have t := h.t
 have v := h.v
 rw [ho] at t v
 obtain ⟨o1, o2, o3⟩ := t.oo rfl
 have hni : s.who ∉ s.k := fun z => by have := o3 _ z; omega
 exact ⟨ZEF t hl o1 o3 (.inl o2), ZEZ t.kp (t.f5 _ hni) hni v⟩
theorem ZHp {s : Hn} (h : HI s) (hl : s.h.length <= 900) (ho : s.op = true) : HI s.cr.kp := by
 have t := h.t
 have v := h.v
 rw [ho] at t v
 obtain ⟨o1, o2, o3⟩ := t.oo rfl
 have hni : s.who ∉ s.k := fun z => by have := o3 _ z; omega
 have t2 := Ztn t
 have v2 := Zkr (r := enE 7 0 [] [] false 0) t v (.inr (.inr rfl))
 have e : YD (s.h ++ [enE 7 0 [] [] false 0]) s.who (s.h ++ [enE 7 0 [] [] false 0]).length = (false, (s.h.length : Int)) := by
  rw [ZhH, if_neg (fun z => absurd (show (7 : Int) = 1 from z.1) (by decide)), if_neg (fun z => absurd (show (7 : Int) = 5 \/ (7 : Int) = 6 from z.1) (by decide)), if_pos ⟨rfl, o2⟩]
 exact ⟨ZEF t2 (by show (s.h ++ [enE 7 0 [] [] false 0]).length <= 1000; rw [Za0]; omega) o1 o3 (.inr (by show ZdI (s.h ++ [enE 7 0 [] [] false 0]) (YD (s.h ++ [enE 7 0 [] [] false 0]) s.who (s.h ++ [enE 7 0 [] [] false 0]).length).2 _ = true; rw [e]; exact ZHg)), ZEZ t2.kp (t2.f5 _ hni) hni v2⟩
theorem ZMx {s : Hn} (h : HI s) (a : List Int) (hl : s.h.length <= 900) : HI (s.act a) := by
 have t := h.t
 have v := h.v
 unfold Hn.act
 split
 ·rename_i q
  rw [q.2] at t v
  exact ⟨ZMt t, ZM1 t v⟩
 ·split
  ·rename_i q
   refine ⟨ZJn t ?_ ?_ (.inl ⟨rfl, ?_⟩), ?_⟩
   ·have hb : 0 <= s.by := by
     unfold Hn.by
     split
     ·exact t.wh
     ·omega
    unfold Za2
    rw [show xk (enE 2 s.by (tx1 a) (lkR s.rd (tx1 a)).1 (lkR s.rd (tx1 a)).2 0) = 2 from rfl, show xw (enE 2 s.by (tx1 a) (lkR s.rd (tx1 a)).1 (lkR s.rd (tx1 a)).2 0) = s.by from rfl, ZcR, ZcN, ZdQ, show xt (enE 2 s.by (tx1 a) (lkR s.rd (tx1 a)).1 (lkR s.rd (tx1 a)).2 0) = 0 from rfl]
    cases hq : (lkR s.rd (tx1 a)).2 with
    | true => simp [hb, q.2]
    | false => simp [hb, q.2, ZFk hq]
   ·show s.by <= s.who
    unfold Hn.by
    split
    ·exact ZN4 _
    ·exact t.wh
   ·show s.by <= 0 \/ s.op = true /\ s.by = s.who
    unfold Hn.by
    split
    ·rename_i o; exact .inr ⟨o, rfl⟩
    ·exact .inl (ZN4 _)
   ·exact ZIt t v (tx1 a)
  ·split
   ·rename_i q
    obtain ⟨q1, q2, q3⟩ := q
    rw [q2] at t v
    have hw := (t.oo rfl).1
    split
    ·refine ⟨?_, ?_⟩
     ·show HT _ s.k s.who s.op
      rw [q2]
      refine ZJn t ?_ (ZN4 _) (.inr ⟨.inl rfl, rfl, rfl⟩)
      unfold Za2
      rw [show xk (enE 3 s.who (tx1 a) (ZL a) true 0) = 3 from rfl, show xw (enE 3 s.who (tx1 a) (ZL a) true 0) = s.who from rfl, ZcR, ZcN, ZdQ, show xt (enE 3 s.who (tx1 a) (ZL a) true 0) = 0 from rfl]
      simp [hw, q3]
     ·show HV _ s.k s.who s.op s.d _
      rw [q2]
      refine ZLL t v (.inl rfl) rfl (ZcR ..) (ZFu (.inr ⟨_, rfl, ?_⟩) (v.ws rfl)) (row_c (v.wc rfl)) fun z => ?_
      ·show Yp (Int.toNat (Zj _ : Nat)) = _
       rw [ZN0, Zl]
      ·rw [ZMa, ZcN]; rfl
    ·refine ⟨?_, ?_⟩
     ·show HT _ s.k s.who s.op
      rw [q2]
      refine ZJn t ?_ (ZN4 _) (.inr ⟨.inr rfl, rfl, rfl⟩)
      unfold Za2
      rw [show xk (enE 4 s.who (tx1 a) [] false 0) = 4 from rfl, show xw (enE 4 s.who (tx1 a) [] false 0) = s.who from rfl, ZcR, ZcN, ZdQ, show xt (enE 4 s.who (tx1 a) [] false 0) = 0 from rfl]
      simp [hw, q3]
     ·show HV _ s.k s.who s.op s.d _
      rw [q2]
      refine ZLL t v (.inr rfl) rfl (ZcR ..) (ZFu (.inl rfl) (v.ws rfl)) (fun r hr => (Zxo hr).elim (v.wc rfl r) (fun z => nomatch z)) fun z => ?_
      rw [ZKe z (v.ws rfl), ZcN]; rfl
   ·split
    ·rename_i q
     exact hi_kp h (by omega) q.2
    ·split
     ·rename_i q
      rw [q.2] at t v
      exact ⟨ZHo t, ZE2 (Zkr t v (.inr (.inl rfl)))⟩
     ·split
      ·rename_i q
       exact ZHp h hl q.2
      ·split
       ·exact ⟨Ztn t, ZE2 (Zkr t v (.inr (.inr rfl)))⟩
       ·exact h
theorem ZzO (s : Hn) (a : List Int) : (s.act a).h.length <= s.h.length + 2 /\ s.h.length <= (s.act a).h.length := by
 unfold Hn.act Hn.kp Hn.cr
 split
 ·simp
 ·split
  ·simp
  ·split
   ·split <;> simp
   ·split
    ·simp
    ·split
     ·simp
     ·split
      ·simp
      ·split <;> simp
/-! ### What is told of such a history -/
theorem Zzy {s : Hn} (h : HI s) (hl : s.h.length <= 400) : ZcU s.h = 0 := by
 unfold ZcU
 rw [if_neg (by omega), if_pos]
 unfold ZkJ
 exact ZF fun i hi => h.t.my _ (by unfold xa; rw [ZNT, ZNW hi]; exact ZOg _)
theorem hn_go {s : Hn} (h : HI s) : Go s.h (Yj s.h s.h.length) := by
 have hm : ∀ i < s.h.length, Za2 (xa s.h i) = true := fun i hi => h.t.my _ (by unfold xa; rw [ZNT, ZNW hi]; exact ZOg _)
 have nf : NF s.h s.h.length := ⟨by rw [h.t.tn]; show ¬ (0 : Int) <= -1; omega, hm⟩
 exact ⟨nf, (ZmD s.h s.h.length hm).1 nf, ZhN s.h s.h.length⟩
theorem ZK6 {s : Hn} (h : HI s) : ¬ 0 <= (ZdM s.h s.h.length).1 := fun h0 => by
 obtain ⟨m, hm, _, k2, hbad, _⟩ := (ZeP s.h s.h.length).1 h0
 rw [h.v.te m hm k2] at hbad; cases hbad
theorem ZK5 {s : Hn} (h : HI s) (hl : s.h.length <= 400) : Zfe s.h = (-1, 0, 0) := by
 unfold Zfe
 rw [if_neg (by rw [Zzy h hl]; exact fun q => q rfl), h.t.tn, if_neg (by show ¬ (0 : Int) <= -1; omega), ZEK (ZK6 h)]
theorem ZJ6 {s : Hn} (h : HI s) (hl : s.h.length <= 400) : Zor s.h = 0 := by
 unfold Zor
 rw [if_neg (by rw [Zzy h hl]; exact fun q => q rfl), h.t.tn, if_neg (by show ¬ (0 : Int) <= -1; omega)]
theorem ZqU : ∀ {l : List (List Int)}, ZCT l -> ∀ r ∈ l, lkR l (txt r) = (tx1 r, true)
 | r :: l, hs, x, hx => by
  have h' := List.pairwise_cons.1 hs
  show (if _ then _ else _) = _
  rcases List.mem_cons.1 hx with rfl | hx
  ·rw [if_neg (by rw [ZbY]; exact List.lt_irrefl _), if_pos rfl]
  ·rw [if_pos (by rw [ZbY]; exact h'.1 x hx)]; exact ZqU h'.2 x hx
theorem ZER {k : List UInt8} : ∀ {l : List (List Int)}, (lkR l k).2 = true -> k ∈ l.map txt
 | r :: l, h => by
  unfold lkR at h
  split at h
  ·exact ZNZ _ (ZER h)
  ·split at h
   ·rename_i q; rw [<- q]; exact ZN1 ..
   ·cases h
theorem ZMR {s : Hn} (h : HI s) (hl : s.h.length <= 400) : finR' s.h = s.d := by
 have hf : leF s.h (Zw s.h s.h.length) = lkR s.d := funext fun q => by
  show Zc0 s.h (Zw s.h s.h.length) q (Zw s.h s.h.length).length = _
  rw [h.t.kp, Zli, <- h.v.dl]
 unfold finR'
 rw [if_pos (ZJ6 h hl)]
 unfold ZJQ
 have hsd : (s.d.map txt).Pairwise fun x y => x < y := List.pairwise_map.2 h.v.ds
 rw [hf, Zjy (f := lkR s.d) (g := lkR s.d) (b := s.d.map txt) ((Zew s.h s.h.length).imp fun q => List.le_of_lt q) (hsd.imp fun q => List.le_of_lt q) (ZCo _ _) (hsd.imp fun {a b} q e => by subst e; exact List.lt_irrefl _ q)
  (fun q => ⟨fun z => ⟨ZER z.2, z.2⟩, fun z => ⟨ZqY (x := s.h) (ks := s.k) (n := s.k.length) (by rw [Zli, <- h.v.dl]; exact z.2), z.2⟩⟩) (fun _ _ _ => rfl)]
 rw [ZkU _ _ _ (ZNJ _), List.take_length]
 have e1 : (s.d.map txt).filter (fun q => (lkR s.d q).2) = s.d.map txt := List.filter_eq_self.2 fun q hq => by
  obtain ⟨r, hr, rfl⟩ := List.mem_map.1 hq
  rw [ZqU h.v.ds r hr]
 rw [e1, List.map_map]
 have e2 : s.d.map (ZJH (lkR s.d) ∘ txt) = s.d.map id := List.map_congr_left fun r hr => by
  show ZJH (lkR s.d) (txt r) = r
  unfold ZJH
  rw [ZqU h.v.ds r hr]
  obtain ⟨a, b, rfl⟩ := h.v.dc r hr
  show [((Zj (Yp (Int.toNat (Zj a : Nat))) : Nat) : Int), ((Zj (Yp (Int.toNat (Zj b : Nat))) : Nat) : Int)] = _
  rw [ZN0, ZN0, Zl, Zl]
 rw [e2, List.map_id]
theorem Zth {k : List Int} (h : k.Pairwise (· < ·)) : ∀ n ≤ k.length, Zq4 k n = k.take n
 | 0, _ => rfl
 | n + 1, hn => by
  have hi : ∀ (l : List Int) (x : Int), (∀ y ∈ l, y < x) -> ZvN l x = l ++ [x] := by
   intro l x
   induction l with
   | nil => exact fun _ => rfl
   | cons a l ih =>
    intro hl
    show (if _ then _ else _) = _
    rw [if_pos (hl a (ZN1 ..)), ih fun y hy => hl y (ZNZ _ hy)]; rfl
  show ZvN (Zq4 k n) (k.getD n 0) = _
  rw [Zth h n (by omega), hi _ _ fun y hy => ?_, List.take_succ_eq_append_getElem (by omega), ZNT, ZNW (by omega)]; rfl
  obtain ⟨i, hi, rfl⟩ := List.mem_take_iff_getElem.1 hy
  rw [ZNT, ZNW (by omega)]
  exact List.pairwise_iff_getElem.1 h i n (by omega) (by omega) (by omega)
theorem ZhW {α : Type} {f : Nat -> Option α} {v : α} {j : Nat} (h0 : ∀ i < j, f i = none) (h1 : f j = some v) : ∀ {n : Nat}, j < n -> (List.range n).findSome? f = some v
 | 0, h => absurd h (Nat.not_lt_zero _)
 | n + 1, h => by
  rw [List.range_succ, List.findSome?_append]
  rcases ZNN j n with q | q
  ·rw [ZhW h0 h1 q]; rfl
  ·obtain rfl : j = n := by omega
   rw [List.findSome?_eq_none_iff.2 fun x hx => h0 x (List.mem_range.1 hx)]
   show (List.findSome? f [j]) = _
   simp [h1]
theorem Zsl {x : List Ent} {k : List Int} (hn : k.Nodup) (hf : ∀ i < k.length, Zon x (k.take i) (k.getD i 0)) : ∀ (n i : Nat), i + n = k.length -> ZnR x k n (k.take i) = some k
 | 0, i, h => by
  have e : k.take i = k := ZN5 (by omega)
  show (if _ then _ else _) = _
  rw [e, if_pos rfl]
 | n + 1, i, h => by
  have hl : (k.take i).length = i := by rw [ZNV]; omega
  show (if _ then _ else _) = _
  rw [if_neg (by omega)]
  refine ZhW (j := i) (fun j hj => ?_) ?_ (by omega)
  ·unfold ZCK
   rw [if_neg]
   rw [Zi]
   intro z
   refine z.2.2 (List.mem_take_iff_getElem.2 ⟨j, by omega, ?_⟩)
   rw [ZNT, ZNW (by omega)]; rfl
  ·unfold ZCK
   rw [if_pos (ZF (hf i (by omega)))]
   have e : k.take i ++ [k.getD i 0] = k.take (i + 1) := by
    rw [List.take_succ_eq_append_getElem (by omega), ZNT, ZNW (by omega)]; rfl
   rw [e]
   exact Zsl hn hf n (i + 1) (by omega)
theorem ZMC {s : Hn} (h : HI s) (hl : s.h.length <= 400) : orE s.h = if 8 < s.k.length then 2 else 0 := by
 unfold orE
 rw [if_neg (by rw [Zzy h hl]; exact fun q => q rfl), h.t.tn, if_neg (by show ¬ (0 : Int) <= -1; omega), h.t.kp]
theorem hn_os {s : Hn} (h : HI s) (hl : s.h.length <= 400) : orS s.h = if 8 < s.k.length then none else some s.k := by
 unfold orS
 rw [ZMC h hl]
 by_cases q : 8 < s.k.length
 ·rw [if_pos q, if_neg (by omega), if_pos q]
 ·rw [if_neg q, if_pos rfl, if_neg q, h.t.kp, Zth h.t.kr _ (ZNJ _), List.take_length]
  have hf : ∀ i < s.k.length, Zon s.h (s.k.take i) (s.k.getD i 0) := fun i hi => by
   have := ZGX (hn_go h) (ZK6 h) (k := i) (by rw [h.t.kp]; exact hi)
   rwa [h.t.kp] at this
  exact Zsl (h.t.kr.imp fun z e => by omega) hf s.k.length 0 (by omega)
def lkE (r q : Ent) : Prop := xk r = xk q /\ xw r = xw q /\ ZL r = ZL q /\ xt r = xt q /\ (xk r ≠ 2 -> YX r = YX q)
structure LkL (x y : List Ent) : Prop where
 len : x.length = y.length
 el : ∀ i, lkE (xa x i) (xa y i)
theorem ZrG {x y : List Ent} (h : LkL x y) (k w : Int) : ∀ n, ZI x k w n = ZI y k w n
 | 0 => rfl
 | n + 1 => by unfold ZI; rw [ZrG h k w n, (h.el n).1, (h.el n).2.1]
theorem ZET {x y : List Ent} (h : LkL x y) (w : Int) : ∀ n, YD x w n = YD y w n
 | 0 => rfl
 | n + 1 => by unfold YD; dsimp only; rw [ZET h w n, (h.el n).1, (h.el n).2.1]
theorem ZEJ {x y : List Ent} (h : LkL x y) : ∀ n, Zw x n = Zw y n
 | 0 => rfl
 | n + 1 => by unfold Zw; rw [ZEJ h n, (h.el n).1, (h.el n).2.1]
theorem ZFs {x y : List Ent} (h : LkL x y) : ∀ n, ZiW x n = ZiW y n
 | 0 => rfl
 | n + 1 => by unfold ZiW; rw [ZFs h n, (h.el n).1, (h.el n).2.2.2.1]
theorem ZLV {x y : List Ent} (h : LkL x y) (f a : Int) : ZdI x f a = ZdI y f a := by
 unfold ZdI
 congr 1
 refine propext ⟨fun ⟨a, b⟩ => ⟨a, fun i h1 h2 => ?_⟩, fun ⟨a, b⟩ => ⟨a, fun i h1 h2 => ?_⟩⟩
 ·rw [<- (h.el i).1]; exact b i h1 h2
 ·rw [(h.el i).1]; exact b i h1 h2
theorem ZMX {x y : List Ent} (h : LkL x y) (n : Nat) : Zje x n = Zje y n := by
 rw [Zc8, Zc8, (h.el n).1, (h.el n).2.1, ZET h, ZrG h, ZrG h, ZLV h]
theorem ZMr {x y : List Ent} (h : LkL x y) (n : Nat) : ZiQ x n = ZiQ y n := by
 unfold ZiQ
 rw [(h.el n).1, (h.el n).2.2.2.1, ZFs h]
theorem ZE0 {x y : List Ent} (h : LkL x y) : ∀ n, Zcm x n = Zcm y n
 | 0 => rfl
 | n + 1 => by rw [Za8, Za8, ZE0 h n, ZMX h, ZMr h]
theorem ZNn {w : Int} {q : List UInt8} {r r' : Ent} (h : lkE r r') (v : Option (List UInt8 × Bool)) : wrF w q v r = wrF w q v r' := by
 unfold wrF
 rw [<- h.1, <- h.2.1, <- h.2.2.1]
 split
 ·rename_i z
  rw [h.2.2.2.2 (by omega)]
 ·rfl
theorem ZwU {w : Int} {q : List UInt8} : ∀ {x y : List Ent}, x.length = y.length -> (∀ i < x.length, lkE (xa x i) (xa y i)) -> ∀ v, x.foldl (wrF w q) v = y.foldl (wrF w q) v
 | [], [], _, _, _ => rfl
 | r :: x, r' :: y, hl, he, v => by
  have h0 : lkE r r' := he 0 (by simp)
  rw [List.foldl_cons, List.foldl_cons, ZNn h0]
  exact ZwU (by simpa using hl) (fun i hi => he (i + 1) (by simpa using hi)) _
theorem ZLF {x y : List Ent} (h : LkL x y) (w : Int) (q : List UInt8) (n : Nat) : wrL (x.take n) w q = wrL (y.take n) w q := by
 unfold wrL
 refine ZwU (by rw [ZNV, ZNV, h.len]) (fun i hi => ?_) none
 rw [ZNV] at hi
 have e1 : xa (x.take n) i = xa x i := Zdt (by omega)
 have e2 : xa (y.take n) i = xa y i := Zdt (by omega)
 rw [e1, e2]; exact h.el i
theorem ZEU {x y : List Ent} (h : LkL x y) (ks : List Int) (q : List UInt8) : ∀ n, leH x ks q n = leH y ks q n
 | 0 => rfl
 | n + 1 => by
  have e := ZLF h (ks.getD n 0) q x.length
  rw [List.take_length, h.len, List.take_length] at e
  unfold leH
  rw [e, ZEU h ks q n]
theorem ZNA {x y : List Ent} (h : LkL x y) (m : Nat) (ks : List Int) : tel x m ks = tel y m ks := by
 unfold tel
 rw [(h.el m).2.1, (h.el m).2.2.1, ZLF h, ZEU h]
theorem ZKn {x y : List Ent} (h : LkL x y) (m : Nat) : ZcS x m = ZcS y m := by
 rw [Zfo, Zfo, (h.el m).2.1, ZrG h, h.len]
def trE (r : Ent) (value : List UInt8) : Ent :=
 if Zbc r = false then [2, xw r, ((Zj (ZL r) : Nat) : Int), ((Zj value : Nat) : Int), 1, 0]
 else if YX r ≠ value then [2, xw r, ((Zj (ZL r) : Nat) : Int), ((Zj value : Nat) : Int), 1, 0]
 else [2, xw r, ((Zj (ZL r) : Nat) : Int), ((Zj [] : Nat) : Int), 0, 0]
theorem tr_is (r : Ent) (value : List UInt8) : ∃ (v : List UInt8) (c : Bool), trE r value = enE 2 (xw r) (ZL r) v c 0 /\ (c = false -> v = []) /\ (v, c) ≠ (YX r, Zbc r) := by
 unfold trE
 split
 ·rename_i q
  exact ⟨value, true, rfl, (fun z => nomatch z), fun z => by have := congrArg Prod.snd z; rw [q] at this; cases this⟩
 ·rename_i q
  split
  ·rename_i q2
   exact ⟨value, true, rfl, (fun z => nomatch z), fun z => q2 (congrArg Prod.fst z).symm⟩
  ·exact ⟨[], false, rfl, fun _ => rfl, fun z => q (congrArg Prod.snd z).symm⟩
theorem ZH0 (x : List Ent) (m : Nat) (ks : List Int) : (ZcY x m ks).2 = 3 \/ (ZcY x m ks).2 = 4 := by
 rw [ZA7]
 split
 ·exact .inl rfl
 ·exact .inr rfl
theorem ZFT {x : List Ent} {m : Nat} (h1 : ∀ i < m, xk (xa x i) = 2 -> (ZcY x i (Zw x (ZcS x i))).1 = true) (h2 : xk (xa x m) = 2) (h3 : (ZcY x m (Zw x (ZcS x m))).1 = false) {n : Nat} (hn : m < n) :
  ZdM x n = ((m : Int), (ZcY x m (Zw x (ZcS x m))).2) := by
 have h0 : ¬ 0 <= (ZdM x m).1 := fun h0 => by
  obtain ⟨i, hi, _, k2, hbad, _⟩ := (ZeP x m).1 h0
  rw [h1 i hi k2] at hbad; cases hbad
 have e : ZdM x (m + 1) = ((m : Int), (ZcY x m (Zw x (ZcS x m))).2) := by
  rw [Zgs, if_neg h0, if_pos h2, h3]; rfl
 rw [ZrJ (n := m + 1) (by rw [e]; exact Int.natCast_nonneg m) (by omega), e]
theorem ZIl {s : Hn} (h : HI s) (hl : s.h.length <= 400) {m : Nat} (hm : m < s.h.length) (h2 : xk (xa s.h m) = 2) (value : List UInt8) :
  (Zfe (s.h.set m (trE (xa s.h m) value))).1 = m /\ ((Zfe (s.h.set m (trE (xa s.h m) value))).2.1 = 3 \/ (Zfe (s.h.set m (trE (xa s.h m) value))).2.1 = 4) /\ (Zfe (s.h.set m (trE (xa s.h m) value))).2.2 = 0 := by
 obtain ⟨v, c, e, hc, hne⟩ := tr_is (xa s.h m) value
 have hmem : xa s.h m ∈ s.h := by unfold xa; rw [ZNT, ZNW hm]; exact ZOg _
 have hmy := h.t.my _ hmem
 have hxt : xt (xa s.h m) = 0 /\ 0 <= xw (xa s.h m) /\ ZL (xa s.h m) ≠ [] := by
  unfold Za2 at hmy
  rw [if_neg (by omega), if_pos h2] at hmy
  simp at hmy
  exact ⟨hmy.2, hmy.1.1.1, hmy.1.1.2⟩
 have hmy' : Za2 (trE (xa s.h m) value) = true := by
  rw [e]
  unfold Za2
  rw [show xk (enE 2 (xw (xa s.h m)) (ZL (xa s.h m)) v c 0) = 2 from rfl, show xw (enE 2 (xw (xa s.h m)) (ZL (xa s.h m)) v c 0) = xw (xa s.h m) from rfl, ZcR, ZcN, ZdQ, show xt (enE 2 (xw (xa s.h m)) (ZL (xa s.h m)) v c 0) = 0 from rfl]
  cases c with
  | true => simp [hxt.2.1, hxt.2.2]
  | false => simp [hxt.2.1, hxt.2.2, hc rfl]
 have hk' : xk (trE (xa s.h m) value) = 2 := by rw [e]; rfl
 have hv' : YX (trE (xa s.h m) value) = v := by rw [e]; exact ZcN ..
 have hh' : Zbc (trE (xa s.h m) value) = c := by rw [e]; exact ZdQ ..
 have hlk : lkE (xa s.h m) (trE (xa s.h m) value) := ⟨by rw [h2, hk'], by rw [e]; rfl, by rw [e, ZcR], by rw [hxt.1, e]; rfl, fun z => absurd h2 z⟩
 have hx' : ∀ i, xa (s.h.set m (trE (xa s.h m) value)) i = if i = m then trE (xa s.h m) value else xa s.h i := fun i => by
  unfold xa
  rw [ZNT, List.getElem?_set]
  by_cases q : m = i
  ·subst q; rw [if_pos rfl, if_pos rfl, if_pos hm]; rfl
  ·rw [if_neg q, if_neg (fun z => q z.symm), ZNT]
 generalize hr : trE (xa s.h m) value = r at *
 have L : LkL s.h (s.h.set m r) := ⟨by rw [List.length_set], fun i => by
  rw [hx']
  by_cases q : i = m
  ·rw [if_pos q, q]; exact hlk
  ·rw [if_neg q]; exact ⟨rfl, rfl, rfl, rfl, fun _ => rfl⟩⟩
 have hlen : (s.h.set m r).length = s.h.length := List.length_set
 have chk : ZcU (s.h.set m r) = 0 := by
  unfold ZcU
  rw [if_neg (by omega), if_pos]
  unfold ZkJ
  refine ZF fun i hi => ?_
  rw [hx']
  split
  ·exact hmy'
  ·exact h.t.my _ (by unfold xa; rw [ZNT, ZNW (by omega)]; exact ZOg _)
 have told : ∀ i < s.h.length, xk (xa s.h i) = 2 -> (YX (xa s.h i), Zbc (xa s.h i)) = tel (s.h.set m r) i (Zw (s.h.set m r) (ZcS (s.h.set m r) i)) := fun i hi k2 => by
  have t := h.v.te i hi k2
  rw [ZjW (by omega)] at t
  rw [<- ZKn L, <- ZEJ L, <- ZNA L]
  simp at t
  rw [t.1, t.2]
 have hs := ZFT (x := s.h.set m r) (m := m) (fun i hi k2 => by
   rw [hx', if_neg (by omega)] at k2
   rw [ZjW (by omega), <- told i (by omega) k2, hx', if_neg (by omega)]
   simp) (by rw [hx', if_pos rfl]; exact hk') (by
   rw [ZjW (by omega), <- told m hm h2, hx', if_pos rfl, hv', hh']
   refine Bool.eq_false_iff.2 fun z => hne ?_
   simp at z
   rw [z.1, z.2]) (n := (s.h.set m r).length) (by omega)
 have et : Zcm (s.h.set m r) (s.h.set m r).length = (-1, 0) := by rw [<- ZE0 L, hlen]; exact h.t.tn
 unfold Zfe
 rw [if_neg (by rw [chk]; exact fun q => q rfl), et, if_neg (by show ¬ (0 : Int) <= -1; omega), hs]
 exact ⟨rfl, ZH0 _ _ _, rfl⟩
theorem Zgv {R W : List (List Int)} {i : Nat} (hi : i < R.length) (hl : R.length = W.length) :
  prH R W = Zc (Zc (prH (R.take i) (W.take i)) (prH (R.drop (i + 1)) (W.drop (i + 1)))) (itP (R.getD i []) (W.getD i [])) := by
 conv => lhs; rw [Zgz (d := []) hi, Zgz (k := W) (d := []) (hl ▸ hi)]
 rw [Zk1 _ _ (by rw [ZNV, ZNV]; omega), Zk1 (R := [R.getD i []]) (W := [W.getD i []]) _ _ rfl, ZqD, ZG (itP _ _), star_assoc]
def prF : List SX := [.f2 45 (Zg (rA 1)) (Zg (rA 2)), .f2 45 (nt (rA 1) (ai 0) 1) (.f1 31 (.f1 36 (nt (rA 2) (ai 0) 0))), .f2 45 (nt (rA 1) (ai 0) 4) (.f1 31 (.f1 36 (nt (rA 2) (ai 0) 1))), eLe (nt (rA 1) (ai 0) 1) (nt (rA 1) (ai 0) 2), eLe (nt (rA 1) (ai 0) 4) (nt (rA 1) (ai 0) 5), eLe z0 (nt (rA 1) (ai 0) 0), eLe z0 (nt (rA 1) (ai 0) 3)]
def prP : List Ch := [.prd 111 (Zae (ZtA (ai 0)) (rA 1)) (rA 2), bAr (nt (rA 1) (ai 0) 0) (.f1 36 (nt (rA 2) (ai 0) 0)) (nt (rA 1) (ai 0) 2), bAr (nt (rA 1) (ai 0) 3) (.f1 36 (nt (rA 2) (ai 0) 1)) (nt (rA 1) (ai 0) 5)]
def oiC : Ctr := ⟨[.int, .rows, .rows, .int, .int], [.one (.int .i64 (ai 0)), .one (slC (ai 3) (Zg (rA 1)) (ai 4) 2)], [prC (rA 1) (rA 2)], [eLe z0 (ai 0), eLt (ai 0) (Zg (rA 1))], [], .tup [], prP, prF⟩
def ciC : Ctr := ⟨[.int, .rows, .rows, .int, .int], [.one (.int .i64 (ai 0)), .one (slC (ai 3) (Zg (rA 1)) (ai 4) 2)], prP, [eLe z0 (ai 0), eLt (ai 0) (Zg (rA 1))] ++ prF, [], .tup [], [prC (rA 1) (rA 2)], []⟩
theorem ZvS (T : Sig GG) (hS : T.prd 111 = fun _ k x => prO k.tR x.tR) (ρ : Go.Eng.Env GG) (w0 : World) : hpDen T ρ w0 prP = Zc (prO ([(ρ 0).tI] :: (ρ 1).tR) (ρ 2).tR)
  (Zc (bAD (((ρ 1).tR.getD (ρ 0).tI.toNat []).getD 0 0) (Yp (((ρ 2).tR.getD (ρ 0).tI.toNat []).getD 0 0).toNat) (((ρ 1).tR.getD (ρ 0).tI.toNat []).getD 2 0))
   (bAD (((ρ 1).tR.getD (ρ 0).tI.toNat []).getD 3 0) (Yp (((ρ 2).tR.getD (ρ 0).tI.toNat []).getD 1 0).toNat) (((ρ 1).tR.getD (ρ 0).tI.toNat []).getD 5 0))) := by
 have e : hpDen T ρ w0 prP = Zc (T.prd 111 w0 (.rows ([(ρ 0).tI] :: (ρ 1).tR)) (.rows (ρ 2).tR)) (Zc (bAD (((ρ 1).tR.getD (ρ 0).tI.toNat []).getD 0 0) (Yp (((ρ 2).tR.getD (ρ 0).tI.toNat []).getD 0 0).toNat) (((ρ 1).tR.getD (ρ 0).tI.toNat []).getD 2 0))
   (Zc (bAD (((ρ 1).tR.getD (ρ 0).tI.toNat []).getD 3 0) (Yp (((ρ 2).tR.getD (ρ 0).tI.toNat []).getD 1 0).toNat) (((ρ 1).tR.getD (ρ 0).tI.toNat []).getD 5 0)) emp)) := rfl
 rw [e, Zd, hS]; rfl
theorem Zkt (T : Sig GG) (ρ : Go.Eng.Env GG) : (∀ x ∈ prF, (x.den T ρ).tP) ↔ ((ρ 1).tR.length = (ρ 2).tR.length /\ itF ((ρ 1).tR.getD (ρ 0).tI.toNat []) ((ρ 2).tR.getD (ρ 0).tI.toNat [])) := by
 have k : ∀ x ∈ prF, True := fun _ _ => trivial
 unfold prF itF txt tx1 g0 g1 g2
 simp only [List.mem_cons, List.not_mem_nil, or_false, forall_eq_or_imp, forall_eq]
 have e1 : ∀ a b : SX, ((SX.f2 45 a b).den T ρ).tP = ((a.den T ρ).tI = (b.den T ρ).tI) := fun a b => by
  show (ap2 45 (a.den T ρ) (b.den T ρ)).tP = _
  rw [p45]
 simp only [e1, Zf]
 have c1 : ((Zg (rA 1)).den T ρ).tI = ((ρ 1).tR.length : Nat) := rfl
 have c2 : ((Zg (rA 2)).den T ρ).tI = ((ρ 2).tR.length : Nat) := rfl
 have c3 : ∀ n, ((nt (rA 1) (ai 0) n).den T ρ).tI = ((ρ 1).tR.getD (ρ 0).tI.toNat []).getD n 0 := fun n => rfl
 have c4 : ∀ n, ((SX.f1 31 (.f1 36 (nt (rA 2) (ai 0) n))).den T ρ).tI = ((Yp (((ρ 2).tR.getD (ρ 0).tI.toNat []).getD n 0).toNat).length : Nat) := fun n => rfl
 have c5 : (z0.den T ρ).tI = 0 := rfl
 simp only [c1, c2, c3, c4, c5]
 constructor
 ·rintro ⟨a, b, c, d, e, f, g⟩; exact ⟨by omega, b, c, d, e, f, g⟩
 ·rintro ⟨a, b, c, d, e, f, g⟩; exact ⟨by omega, b, c, d, e, f, g⟩
theorem ZM4 (S : Sig GG) (hS : FiSig S) : Zbp S oiC := by
 refine Ys S fun T w0 ρ h hu hp hd hr hpre => ⟨ρ, Ext.refl _ _, ?_⟩
 have e1 : hpDen T ρ w0 oiC.pre = Zc (T.prd 110 w0 ((rA 1).den T ρ) ((rA 2).den T ρ)) emp := rfl
 have r0 := hr (eLe z0 (ai 0)) (by simp [oiC])
 have r1 := hr (eLt (ai 0) (Zg (rA 1))) (by simp [oiC])
 rw [Zf] at r0
 rw [Yi] at r1
 have r0 : 0 <= (ρ 0).tI := r0
 have r1 : (ρ 0).tI < ((ρ 1).tR.length : Nat) := r1
 rw [e1, Zd, hp, hS.p110] at hpre
 have hpre : prH (ρ 1).tR (ρ 2).tR h := hpre
 have hl := Zlp hpre
 have hP : T.prd 111 = fun _ k x => prO k.tR x.tR := by rw [hp]; funext w0 k x; exact hS.p111 w0 k x
 rw [Zgv (i := (ρ 0).tI.toNat) (by omega) hl] at hpre
 obtain ⟨a, b, d, rfl, ha, hf, hb⟩ := hpre
 refine ⟨?_, (Zkt T ρ).2 ⟨hl, hf⟩⟩
 show hpDen T ρ w0 prP _
 rw [ZvS T hP]
 exact ⟨a, b, d, rfl, ha, hb⟩
theorem ZNw (S : Sig GG) (hS : FiSig S) : Zbp S ciC := by
 refine Ys S fun T w0 ρ h hu hp hd hr hpre => ⟨ρ, Ext.refl _ _, ?_, fun x hx => nomatch hx⟩
 have e2 : hpDen T ρ w0 ciC.post = Zc (T.prd 110 w0 ((rA 1).den T ρ) ((rA 2).den T ρ)) emp := rfl
 have r0 := hr (eLe z0 (ai 0)) (by simp [ciC])
 have r1 := hr (eLt (ai 0) (Zg (rA 1))) (by simp [ciC])
 have r2 := (Zkt T ρ).1 fun x hx => hr x (by simp only [ciC]; exact List.mem_append_right _ hx)
 rw [Zf] at r0
 rw [Yi] at r1
 have r0 : 0 <= (ρ 0).tI := r0
 have r1 : (ρ 0).tI < ((ρ 1).tR.length : Nat) := r1
 have hP : T.prd 111 = fun _ k x => prO k.tR x.tR := by rw [hp]; funext w0 k x; exact hS.p111 w0 k x
 have hpre : hpDen T ρ w0 prP h := hpre
 rw [ZvS T hP] at hpre
 rw [e2, Zd, hp, hS.p110]
 show prH (ρ 1).tR (ρ 2).tR h
 rw [Zgv (i := (ρ 0).tI.toNat) (by omega) r2.1]
 obtain ⟨a, b, d, rfl, ha, hb⟩ := hpre
 exact ⟨a, b, d, rfl, ha, r2.2, hb⟩
def ZwF : Ctr := ⟨[.int, .rows, .int, .rows, .int, .rows, .int, .rows], [.one (slC (ai 0) (Zg (rA 1)) (ai 2) 2), .one (slC (ai 4) (Zg (rA 5)) (ai 6) 2)], [Zoo (ai 0) (rA 1) (ai 2), prC (rA 1) (rA 3), Zoo (ai 4) (rA 5) (ai 6), prC (rA 5) (rA 7)],
 [.f2 45 (Zg (rA 1)) (Zg (rA 5)), eqS (rA 3) (rA 7), eLe (Zg (rA 1)) (.int 1048576)], [], .one (.bool (.bool true)), [Zoo (ai 0) (rA 1) (ai 2), prC (rA 1) (rA 3), Zoo (ai 4) (rA 5) (ai 6), prC (rA 5) (rA 7)], []⟩
def smpI : Inv := ⟨[.int], [(5, .one (.int .i64 (di 0)))], [], [eLe z0 (di 0), eLe (di 0) (Zg (rA 1))], .f2 41 (Zg (rA 1)) (di 0)⟩
def ZMT : Cx := { specs := [], anns := [(10, [(4, .inv smpI), (6, .ghost oiC [.tmp 5, .tmp 0]), (6, .ghost oiC [.tmp 5, .tmp 1]), (500006, .ghost ciC [.tmp 5, .tmp 0]), (500006, .ghost ciC [.tmp 5, .tmp 1])])] }
def ZIM : SX := e (.f1 32 (r 1)) (.f1 32 (r 5))
def Zus : SX := .f3 112 (r 1) (a 8) (k 1)
def ZGS : SX := .f1 36 (.f3 112 (r 3) (a 8) z)
def ZI0 : SX := .f1 31 ZGS
def Zux : SX := .f3 112 (r 1) (a 8) (k 4)
def ZIV : SX := .f1 36 (.f3 112 (r 3) (a 8) (k 1))
def ZGV : SX := .f1 31 ZIV
def ZuD : SX := .f3 112 (r 5) (a 8) (k 1)
def ZHb : SX := .f1 36 (.f3 112 (r 7) (a 8) z)
def ZIL : SX := .f1 31 ZHb
def Zj0 : SX := .f3 112 (r 5) (a 8) (k 4)
def ZBR : SX := .f1 36 (.f3 112 (r 7) (a 8) (k 1))
def ZvT : SX := .f1 31 ZBR
def Zy8 : SX := .f1 2 (.f2 150 (.f2 114 ZGS Zus) (.f2 114 ZHb ZuD))
def Zxm : SX := e (.f1 32 (r 5)) (.f1 32 (r 1))
def Zx1 : SX := .f1 2 (.f2 150 (.f2 114 ZIV Zux) (.f2 114 ZBR Zj0))
def ZzH : SX := .f2 155 (.bool true) (.bool false)
def Zm3 : SX := .f2 40 (a 8) (k 1)
def Zw0 : SX := .f2 41 (.f1 32 (r 1)) Zm3
def ZKt : VC := i ZIM (i (.f2 155 (r 3) (r 7)) (i (l (.f1 32 (r 1)) (k 1048576)) (.and .tt (i ZIM (u 8 .int (i (l z (a 8)) (i (l (a 8) (.f1 32 (r 1))) (.and (i (t (a 8) (.f1 32 (r 1))) (i (e (.f1 32 (r 1)) (.f1 32 (r 3))) (i (e Zus ZI0) (i (e Zux ZGV) (i (l Zus (.f3 112 (r 1) (a 8) (k 2))) (i (l Zux (.f3 112 (r 1) (a 8) (k 5))) (i (l z (.f3 112 (r 1) (a 8) z)) (i (l z (.f3 112 (r 1) (a 8) (k 3))) (n (t (a 8) (.f1 32 (r 5))) (i (e (.f1 32 (r 5)) (.f1 32 (r 7))) (i (e ZuD ZIL) (i (e Zj0 ZvT) (i (l ZuD (.f3 112 (r 5) (a 8) (k 2))) (i (l Zj0 (.f3 112 (r 5) (a 8) (k 5))) (i (l z (.f3 112 (r 5) (a 8) z)) (i (l z (.f3 112 (r 5) (a 8) (k 3))) (n (l z Zus) (n (l Zus ZI0) (n (l z ZuD) (n (l ZuD ZIL) (.and (i (.f1 2 Zy8) (n (l z Zux) (n (l Zux ZGV) (n (l z Zj0) (n (l Zj0 ZvT) (n Zxm (.and (i Zx1 (n ZzH .tt)) (i (.f1 2 Zx1) (n (.f1 23 Zm3) (n (l z Zw0) (n (t Zw0 (.f2 41 (.f1 32 (r 1)) (a 8))) (n (l z Zm3) (n (l Zm3 (.f1 32 (r 1))) .tt))))))))))))) (i Zy8 (n Zxm (n ZzH .tt)))))))))))))))))))))))) (i (l (.f1 32 (r 1)) (a 8)) .tt)))))))))
theorem ZMw : Zcl Try.prog ZMT 12 10 ZwF = ZKt := by kernel_rfl
theorem ZJZ (S : Sig GG) (hS : FiSig S) : ZR S Try.prog 10 ZwF := by
 refine Zo S (C := ZMT) (fuel := 12) (YV trivial ⟨⟨trivial, ⟨by decide, ZM4 S hS⟩, ⟨by decide, ZM4 S hS⟩, ⟨by decide, ZNw S hS⟩, ⟨by decide, ZNw S hS⟩, trivial⟩, trivial⟩ trivial) fun ρ => ?_
 rw [ZMw]
 simp only [ZKt, ZIM, Zus, ZGS, ZI0, Zux, ZIV, ZGV, ZuD, ZHb, ZIL, Zj0, ZBR, ZvT, Zy8, Zxm, Zx1, ZzH, Zm3, Zw0, ZY, ZN0, VC.den, SX.den, Env.upd, ZaN, Yr, beq_iff_eq, ZNS, beq_eq_false_iff_ne, ne_eq, ZNR, ZNQ, Int.reduceToNat, Nat.reduceEqDiff, reduceIte, sB, sC]
 generalize (ρ 1).tR = R
 generalize (ρ 5).tR = R2
 generalize (ρ 3).tR = W
 generalize (ρ 7).tR = W2
 intro h1 h2 h3
 subst h2
 refine ⟨trivial, fun _ x x0 x1 => ⟨fun hx a1 a2 a3 a4 a5 a6 a7 => ⟨by omega, fun b1 b2 b3 b4 b5 b6 b7 => ?_⟩, fun _ => trivial⟩⟩
 have e1 : (R.getD x.toNat []).getD 1 0 = (R2.getD x.toNat []).getD 1 0 := by rw [a2, b2]
 have e2 : (R.getD x.toNat []).getD 4 0 = (R2.getD x.toNat []).getD 4 0 := by rw [a3, b3]
 refine ⟨by omega, by omega, by omega, by omega, fun _ => ⟨by omega, by omega, by omega, by omega, by omega, fun hn => absurd (by rw [e2]) hn, fun _ => ⟨⟨by omega, by omega⟩, by omega, by omega, by omega, by omega, trivial⟩⟩, fun hn => absurd (by rw [e1]) hn⟩
def joL : SX := usN 660 xX z0 z0
def ZsN : Ctr := ⟨hA, [.one (hS 0)], [hC 0 0], [eLe z0 (ai 2), eLe (ai 2) (Zg (rA 4)), eLe (ai 2) (ai 3), eLe (ai 2) (.int 9223372036854775807)], [.int, .int, .bool, .int], .tup [(false, [sl1 (ai 6) (ZbW joL) (ai 7)]), (false, [.bool (qA 8)]), (false, [.int .i64 (ai 9)])],
 [hC 0 0, iAr (ai 6) joL (ai 7)], [.f2 48 (qA 8) (usB 661 xX z0 z0), .f2 45 (ai 9) (usI 662 xX z0 z0), eLe (ZbW joL) (ai 7), .f2 50 (eLe z0 (ai 6)) (.f2 45 (ZbW joL) z0), eLe (ZbW joL) (.int 8)]⟩
def ZKk : Cx := { specs := [(17, [Zod]), (27, [Zy7]), (30, [Zda (.int 108)])], anns := [(9, [(3, .ghost ZEC []), (4, .ghost Zog [.tmp 0, .tmp 5]), (5, .ghost ZEC []), (7, .ghost ZEC [])])] }
theorem ZGZ (x : List Ent) : ((orS x).getD []).length <= 8 := by
 unfold orS
 by_cases h : orE x = 0
 ·rw [if_pos h]
  have h8 : ¬ 8 < (Zw x x.length).length := fun q => by
   unfold orE at h
   by_cases h1 : ZcU x ≠ 0
   ·rw [if_pos h1] at h; exact h1 h
   ·rw [if_neg h1] at h
    by_cases h2 : 0 <= (Zcm x x.length).1
    ·rw [if_pos h2] at h; cases h
    ·rw [if_neg h2, if_pos q] at h; cases h
  have := ZEh x (Zq4 (Zw x x.length) (Zw x x.length).length) [] (Nat.zero_le _)
  rw [Zuh] at this
  omega
 ·rw [if_neg h]; exact Nat.zero_le _
def ZiR : SX := .f2 115 (r 4) (a 2)
def ZFN : SX := l z (a 6)
def ZDu : SX := e (a 7) z
def ZGl : SX := p 661 ZiR
def ZDI : SX := .f2 48 (.bool false) ZGl
def Zzu : SX := v 662 ZiR
def ZC2 : SX := o 660 ZiR
def ZuX : SX := .f1 30 ZC2
def ZEm : SX := l ZuX z
def Zu1 : SX := e ZuX z
def Zss : SX := .f2 50 (.bool false) Zu1
def ZnF : SX := l ZuX (k 8)
def ZrN : SX := .f2 155 ZC2 (.f1 152 z)
def Zhb : SX := .f1 32 ZiR
def Zi8 : SX := hR0 548 ZiR Zhb (r 13)
def ZeA : SX := .f1 32 Zi8
def Zyu : SX := e ZeA z
def Zsz : SX := .f1 32 (wR 549 ZiR Zhb)
def Zju : SX := f 561 ZiR Zhb
def Zzw : SX := d 550 ZiR Zhb
def ZBG : SX := l z (a 15)
def ZvG : SX := .us .ints 641 Zju (.f1 155 z) (r 13) (r 17)
def Zmw : SX := .f1 30 ZvG
def Zzk : SX := l z (a 19)
def ZKA : VC := i (l z (a 2)) (i (l (a 2) (.f1 32 (r 4))) (i (l (a 2) (a 3)) (i (l (a 2) (k 9223372036854775807)) (u 6 .int (u 7 .int (i (e (a 7) (v 523 ZiR)) (i (.f2 48 ZFN ZDu) (.and (i (.f1 2 ZDu) (n ZDI (n (e (a 7) Zzu) (n ZEm (n Zss (n ZnF (n ZrN (n Zu1 .tt)))))))) (i ZDu (n ZFN (u 8 .int (u 9 .int (u 10 .int (u 11 .int (u 12 .int (u 13 .rows (i (l z (a 8)) (i (l ZeA (a 10)) (i (.f2 50 (l z (a 9)) Zyu) (i (l Zsz (a 12)) (i (.f2 50 (l z (a 11)) (e Zsz z)) (i (c 558 (r 13) Zju) (i (c 560 Zi8 (r 13)) (i (l ZeA Zhb) (i (l Zsz Zhb) (.and (i (l z Zzw) (n ZDI (n (e (k 280) Zzu) (n ZEm (n Zss (n ZnF (n ZrN (n Zu1 .tt)))))))) (i (t Zzw z) (.and (i (t (k 8) ZeA) (n ZDI (n (e (k 2) Zzu) (n ZEm (n Zss (n ZnF (n ZrN (n Zu1 .tt)))))))) (i (l ZeA (k 8)) (u 14 .int (i (l z (a 14)) (n (p 620 Zi8) (n (l ZeA (k 12)) (n (p 621 Zi8) (u 15 .int (u 16 .int (u 17 .rows (i (.us .bool 622 (r 17) Zi8 (r 13) Zju) (i (l ZeA (a 16)) (i (.f2 50 ZBG Zyu) (i (e (.f1 32 (r 17)) ZeA) (u 18 .int (i (l z (a 18)) (n (l (.f2 40 (.f1 32 (r 17)) (k 100)) (k 108)) (n (l (.f1 32 (r 17)) (k 1000)) (n (c 560 (r 17) (r 13)) (n (p 621 (r 17)) (n (p 633 Zju) (n (l (.f1 32 (r 17)) (a 16)) (n (l (a 16) (a 16)) (n (.f2 50 ZBG (e (.f1 32 (r 17)) z)) (u 19 .int (u 20 .int (u 21 .bool (i (.f2 48 (q 21) (.us .bool 642 Zju (.f1 155 z) (r 13) (r 17))) (i (l Zmw (a 20)) (i (.f2 50 Zzk (e Zmw z)) (i (l Zmw (.f1 32 (r 17))) (n (.f2 48 (q 21) ZGl) (n (e z Zzu) (n (l ZuX (a 20)) (n (.f2 50 Zzk Zu1) (n ZnF (n (.f2 155 ZC2 ZvG) (n (e ZuX Zmw) .tt)))))))))))))))))))))))))))))))))))))))))))))))))))))))))))))))))
theorem ZNq : Zcl Try.prog ZKk 12 9 ZsN = ZKA := by kernel_rfl
theorem ZEO (S : Sig GG) (hS : OrSig S) : ZR S Try.prog 9 ZsN := by
 refine Zo S (C := ZKk) (fuel := 12) (YV ⟨Zm (by decide) (ZAz S hS.ou.ft.od.fi.js.jt), Zm (by decide) (ZKl S hS.ou.ft), Zm (by decide) (ZKO S hS.ou), trivial⟩ ⟨⟨⟨by decide, ZjS S⟩, ⟨by decide, Zqg S hS.ou.ft.od.fi.js.jt⟩, ⟨by decide, ZjS S⟩, ⟨by decide, ZjS S⟩, trivial⟩, trivial⟩ trivial) fun ρ => ?_
 rw [ZNq]
 simp only [ZKA, ZiR, ZFN, ZDu, ZGl, ZDI, Zzu, ZC2, ZuX, ZEm, Zu1, Zss, ZnF, ZrN, Zhb, Zi8, ZeA, Zyu, Zsz, Zju, Zzw, ZBG, ZvG, Zmw, Zzk, hS.ou.ft.od.fi.js.jt.jb.rf.u523, hS.ou.ft.od.fi.js.jt.u548, hS.ou.ft.od.fi.js.jt.u549, hS.ou.ft.od.fi.js.jt.u550, hS.ou.ft.od.fi.js.jt.u558, hS.ou.ft.od.fi.js.jt.u560, hS.ou.ft.od.fi.js.jt.u561, hS.ou.ft.od.u620, hS.ou.ft.od.u621, hS.ou.ft.od.u622, hS.ou.ft.u633, hS.ou.u641, hS.ou.u642, hS.u660, hS.u661, hS.u662, ZY, ZN0, VC.den, SX.den, Env.upd, ZaN, Yr, beq_iff_eq, ZNS, beq_eq_false_iff_ne, ne_eq, ZNR, ZNQ, Int.reduceToNat, Nat.reduceEqDiff, reduceIte, sB, sC]
 generalize hX : (ρ 4).tR.take (ρ 2).tI.toNat = X
 generalize hlen : (ρ 2).tI = l at *
 intro h1 h2 h3 h4
 have hl : l = (X.length : Nat) := by rw [<- hX, ZNV]; omega
 subst hl
 clear hX hlen
 intro b e he hb
 have bad : ∀ q : Int, orE X = q -> q ≠ 0 -> orS X = none := fun q h1 h2 => by unfold orS; rw [if_neg (by rw [h1]; exact h2)]
 have hpl : ∀ (R : List (List Int)) (ks : List Nat), (ZbR R ks).length = ks.length := fun R ks => by unfold ZbR; rw [ZN3]
 refine ⟨fun hne => ?_, fun h0 => ⟨?_, ?_⟩⟩
 ·have hn : ZcU X ≠ 0 := by rw [<- he]; exact hne
  have hE : orE X = e := by unfold orE; rw [if_pos hn, he]
  rw [bad e hE hne]
  exact ⟨rfl, hE.symm, ZN4 _, .inr rfl, by decide, rfl, rfl, trivial⟩
 ·rw [h0] at hb; exact Za.1 (by rw [hb]; rfl)
 have hc : ZcU X = 0 := by rw [<- he]; exact h0
 intro ma kb kc ob oc R q1 q2 q3 q4 q5 q6 q7 q8 q9
 refine ⟨fun hf => ?_, fun hf => ?_⟩
 ·have hE : orE X = 280 := by unfold orE; rw [if_neg (by rw [hc]; exact fun h => h rfl), if_pos (Zi7 hc hf)]
  rw [bad 280 hE (by decide)]
  exact ⟨rfl, hE.symm, ZN4 _, .inr rfl, by decide, rfl, rfl, trivial⟩
 have hgo : Go X (Yj X X.length) := ZF4 hc hf
 have h400 := Zpm hc
 have hkt := Zbf hgo
 have hnt := ZzX hgo
 simp only [hpl] at *
 refine ⟨fun h8 => ?_, fun h8 m hm => ?_⟩
 ·have hE : orE X = 2 := by unfold orE; rw [if_neg (by rw [hc]; exact fun h => h rfl), if_neg hnt, if_pos (by omega)]
  rw [bad 2 hE (by decide)]
  exact ⟨rfl, hE.symm, ZN4 _, .inr rfl, by decide, rfl, rfl, trivial⟩
 have hE : orE X = 0 := by unfold orE; rw [if_neg (by rw [hc]; exact fun h => h rfl), if_neg hnt, if_neg (by omega)]
 have hS1 : orS X = ZAW X (Zq4 (Zw X X.length) (Zw X X.length).length) [] := by unfold orS; rw [if_pos hE]
 have hnd : ndP (ZbR R (Yj X X.length).kept) := by
  unfold ndP ZbR
  rw [List.map_map]
  have hkn : ((Yj X X.length).kept.map fun k => ((Yj X X.length).txs.getD k tx0).who).Nodup := by rw [hgo.ri.kep]; exact Zyi hgo
  have hkd : (Yj X X.length).kept.Nodup := List.Pairwise.of_map _ (fun a b h e => h (by rw [e])) hkn
  refine List.pairwise_map.2 (List.Pairwise.imp_of_mem (fun {a b} ha hb' hab e => hab ?_) hkd)
  exact Zlm q6.2.1 (by rw [q6.1]; exact hgo.wf.ki a ha) (by rw [q6.1]; exact hgo.wf.ki b hb') e
 refine ⟨fun r hr => ?_, by omega, hnd, fun qb qc Q hQ hq1 hq2 hq3 m2 hm2 => ⟨by omega, by omega, fun r hr => q7 r (hQ.1.mem_iff.1 hr), ?_, fun t ht => ?_, by omega, by omega, by omega, fun b3 c3 w hw y1 y2 y3 => ?_⟩⟩
 ·obtain ⟨k, hk, rfl⟩ := List.mem_map.1 hr
  exact (q6.2.2 (R.getD k []) (ZwD (by rw [q6.1]; exact hgo.wf.ki k hk)) : 0 <= g0 (R.getD k []))
 ·exact ((hQ.1.map g0).nodup_iff).2 hnd
 ·have := (hgo.wf.rl t ht).1; omega
 ·have h9 := ZGZ X
  rw [hS1, <- ZF0 hgo q6 hQ.1 hQ.2] at h9 ⊢
  exact ⟨hw, hE.symm, y1, y2, by omega, rfl, rfl, trivial⟩
def mkL (n : Int) (k : Nat) : List Int := List.replicate k (-1 - n)
abbrev ZuH := List (Int × Int × Int × Int)
def InG (p : ZuH) (b v n : Int) : Prop := ∃ l c, (b, v, l, c) ∈ p /\ n <= l
def okC (b v l : Int) (p : ZuH) (b' v' n : Int) : Prop := (b' = b /\ v' = v /\ n <= l) \/ InG p b' v' n
def itemB (i j : Int) (r : List Int) : HProp := fun h => ∃ x : List Int, (0 <= g1 r /\ g1 r <= x.length /\ g1 r <= 4294967296 /\ (j < i -> x.take (g1 r).toNat = mkL j (g1 r).toNat)) /\ iAD (g0 r) x (g2 r) h
def filB (i : Int) : Int -> List (List Int) -> HProp
 | _, [] => emp
 | j, r :: rs => Zc (itemB i j r) (filB i (j + 1) rs)
def kp42 (k : List (List Int)) : HProp := filB (g0 (k.getD 0 [])) (g1 (k.getD 0 [])) (((k.drop 1).take (g2 (k.getD 0 [])).toNat).drop (g1 (k.getD 0 [])).toNat)
def kp43 (k : List (List Int)) : HProp := Zc (filB (g0 (k.getD 0 [])) 0 (((k.drop 1).take (g1 (k.getD 0 [])).toNat).take (g0 (k.getD 0 [])).toNat)) (filB (g0 (k.getD 0 [])) (g0 (k.getD 0 []) + 1) (((k.drop 1).take (g1 (k.getD 0 [])).toNat).drop ((g0 (k.getD 0 [])).toNat + 1)))
def ZEy : ZuH -> HProp
 | [] => emp
 | (b, v, l, c) :: p => Zc (iAD b (mkL v l.toNat) c) (ZEy p)
def Zrc (f : Int -> Int) (ok : Int -> Int -> Int -> Prop) : Int -> List (List Int) -> Prop
 | _, [] => True
 | j, r :: rs => (0 <= g1 r /\ g1 r <= 4294967400 /\ ok (g0 r) (f j) (g1 r)) /\ Zrc f ok (j + 1) rs
def fG (j : Int) : Int := j.tdiv 8
def fL (j : Int) : Int := j
def kp46 (k Q : List (List Int)) : HProp := fun h => ∃ p : ZuH, (Zrc fG (InG p) 0 ((k.drop 1).take (g0 (k.getD 0 [])).toNat) /\ Zrc fL (InG p) 0 (Q.take (g1 (k.getD 0 [])).toNat)) /\ ZEy p h
def kp47 (k Q : List (List Int)) : HProp := fun h => ∃ p : ZuH, (Zrc fG (okC (g1 (k.getD 0 [])) ((k.getD 0 []).getD 3 0) (g2 (k.getD 0 [])) p) 0 ((k.drop 1).take (g0 (k.getD 0 [])).toNat) ∧
 Zrc fL (okC (g1 (k.getD 0 [])) ((k.getD 0 []).getD 3 0) (g2 (k.getD 0 [])) p) 0 (Q.take ((k.getD 0 []).getD 4 0).toNat)) /\ ZEy p h
def kp48 (k Q : List (List Int)) : HProp := fun h => ∃ p : ZuH, (Zrc fG (InG ((g2 (k.getD 0 []), (k.getD 0 []).getD 3 0, (k.getD 0 []).getD 4 0, (k.getD 0 []).getD 5 0) :: p)) 0 ((k.drop 1).take (g0 (k.getD 0 [])).toNat) ∧
 Zrc fL (InG ((g2 (k.getD 0 []), (k.getD 0 []).getD 3 0, (k.getD 0 []).getD 4 0, (k.getD 0 []).getD 5 0) :: p)) 0 (Q.take (g1 (k.getD 0 [])).toNat)) /\ ZEy p h
structure IbSig (S : Sig GG) : Prop where
 og : OrSig S
 p112 : ∀ w0 k x, S.prd 112 w0 k x = kp42 k.tR
 p113 : ∀ w0 k x, S.prd 113 w0 k x = kp43 k.tR
 p114 : ∀ w0 k x, S.prd 114 w0 k x = kp46 k.tR x.tR
 p115 : ∀ w0 k x, S.prd 115 w0 k x = kp47 k.tR x.tR
 p116 : ∀ w0 k x, S.prd 116 w0 k x = kp48 k.tR x.tR
 u680 : ∀ a b c d, S.usr 680 a b c d = .ints (mkL a.tI b.tI.toNat)
def Zxt : Ctr := ⟨[.int, .int, .int, .ints, .int, .int, .int, .ints, .int], [.one (sl1 (ai 0) (ai 1) (ai 2)), .one (sl1 (ai 4) (ai 5) (ai 6))], [iAr (ai 0) (iA 3) (ai 2), iAr (ai 4) (iA 7) (ai 8)],
 [.f2 45 (ai 1) (ZbW (iA 3)), .f2 45 (ai 5) (ZbW (iA 7)), eqS (iA 3) (iA 7), eLe (ai 1) (.int 1048576)], [], .one (.bool (.bool true)), [iAr (ai 0) (iA 3) (ai 2), iAr (ai 4) (iA 7) (ai 8)], []⟩
def smiI : Inv := ⟨[.int], [(5, .one (.int .i64 (di 0)))], [], [eLe z0 (di 0), eLe (di 0) (ai 1)], .f2 41 (ai 1) (di 0)⟩
def ZLy : Cx := { specs := [], anns := [(11, [(4, .inv smiI)])] }
def ZIz : SX := e (a 1) (a 5)
def ZFJ : SX := .f2 155 (.bool true) (.bool false)
def ZHQ : SX := e (.f2 110 (s 3) (a 9)) (.f2 110 (s 7) (a 9))
def ZAN : SX := .f2 40 (a 9) (k 1)
def ZIZ : SX := .f2 41 (a 1) ZAN
def ZMf : VC := i (e (a 1) (.f1 30 (s 3))) (i (e (a 5) (.f1 30 (s 7))) (i (.f2 155 (s 3) (s 7)) (i (l (a 1) (k 1048576)) (n (l z (a 1)) (n (l z (a 5)) (.and (i (.f1 2 ZIz) (n ZFJ .tt)) (i ZIz (u 9 .int (i (l z (a 9)) (i (l (a 9) (a 1)) (.and (i (t (a 9) (a 1)) (n (t (a 9) (.f1 30 (s 3))) (n (t (a 9) (a 5)) (n (t (a 9) (.f1 30 (s 7))) (.and (i (.f1 2 ZHQ) (n ZFJ .tt)) (i ZHQ (n (.f1 23 ZAN) (n (l z ZIZ) (n (t ZIZ (.f2 41 (a 1) (a 9))) (n (l z ZAN) (n (l ZAN (a 1)) .tt))))))))))) (i (l (a 1) (a 9)) .tt))))))))))))
theorem ZND : Zcl Try.prog ZLy 12 11 Zxt = ZMf := by kernel_rfl
theorem ZKZ (S : Sig GG) (hS : IbSig S) : ZR S Try.prog 11 Zxt := by
 refine Zo S (C := ZLy) (fuel := 12) (YV trivial ⟨⟨trivial, trivial⟩, trivial⟩ trivial) fun ρ => ?_
 rw [ZND]
 simp only [ZMf, ZIz, ZFJ, ZHQ, ZAN, ZIZ, ZY, ZN0, VC.den, SX.den, Env.upd, ZwX, beq_iff_eq, ZNS, beq_eq_false_iff_ne, ne_eq, ZNR, ZNQ, Int.reduceToNat, Nat.reduceEqDiff, reduceIte, sB]
 intro h1 h2 h3 h4
 refine ⟨by omega, by omega, fun hn => ?_, fun _ i i0 i1 => ⟨fun hi => ⟨by omega, by omega, by omega, fun hn => ?_, fun _ => ⟨⟨by omega, by omega⟩, by omega, by omega, by omega, by omega, trivial⟩⟩, fun _ => trivial⟩⟩
 ·rw [h3] at h1; exact absurd (h1.trans h2.symm) hn
 ·exact absurd (by rw [h3]) hn
end
end Go.Proofs.Ytidlngnhjffepaa
namespace Go.Proofs.Ytidlngnhjffepaa
noncomputable section
open Go.Eng
def Zef (A : List (List Int)) : Nat -> Hn
 | 0 => hn0
 | n + 1 => (Zef A n).act (A.getD n [])
def ZjR (R W Q V : List (List Int)) : Prop := R.length = W.length /\ Q.length = V.length /\ ∃ T, ((R.zip W) ++ T).Perm (Q.zip V)
def arsB (m : List Int) (R1 R2 : List (List Int)) : HProp := fun h =>
 (g0 m = g2 m /\ g1 m = m.getD 3 0 /\ R1 = R2) /\ rAD prE (g0 m) R1 (g1 m) h \/ Zc (rAD prE (g0 m) R1 (g1 m)) (rAD prE (g2 m) R2 (m.getD 3 0)) h
def Zjx : HProp := fun _ => True
def ZNf (k R2 : List (List Int)) : HProp := Zc (if (k.getD 0 []).getD 4 0 = 1 then fun h => (k.getD 0 []).getD 5 0 = (R2.length : Nat) /\ arsB (k.getD 0 []) (k.drop 1) R2 h else rAD prE (g0 (k.getD 0 [])) (k.drop 1) (g1 (k.getD 0 []))) Zjx
def arsO (k R2 : List (List Int)) : HProp := Zc (fun h => (g0 (k.getD 0 []) = g2 (k.getD 0 []) /\ g1 (k.getD 0 []) = (k.getD 0 []).getD 3 0 /\ k.drop 1 = R2) /\ emp h \/ rAD prE (g0 (k.getD 0 [])) (k.drop 1) (g1 (k.getD 0 [])) h) Zjx
structure HnSig (S : Sig GG) : Prop where
 ib : IbSig S
 p140 : ∀ w0 k x, S.prd 140 w0 k x = ZNf k.tR x.tR
 p141 : ∀ w0 k x, S.prd 141 w0 k x = arsO k.tR x.tR
 p143 : ∀ w0 k x, S.prd 143 w0 k x = Zjx
 p144 : ∀ w0 k x, S.prd 144 w0 k x = emp
 p145 : ∀ w0 k x, S.prd 145 w0 k x = emp
 u720 : ∀ a b c d, S.usr 720 a b c d = .rows (Zef a.tR b.tI.toNat).h
 u721 : ∀ a b c d, S.usr 721 a b c d = .rows (Zef a.tR b.tI.toNat).d
 u722 : ∀ a b c d, S.usr 722 a b c d = .rows (Zef a.tR b.tI.toNat).w
 u723 : ∀ a b c d, S.usr 723 a b c d = .ints (Zef a.tR b.tI.toNat).k
 u724 : ∀ a b c d, S.usr 724 a b c d = .int (Zef a.tR b.tI.toNat).who
 u725 : ∀ a b c d, S.usr 725 a b c d = .bool (Zef a.tR b.tI.toNat).op
 u726 : ∀ a b c d, S.usr 726 a b c d = .bool (Zp (ZjR a.tR b.tR c.tR d.tR))
 u727 : ∀ a b c d, S.usr 727 a b c d = .int (b01 (Zef a.tR b.tI.toNat).op)
 u728 : ∀ a b c d, S.usr 728 a b c d = .int (ahN a.tR b.tB : Nat)
 u729 : ∀ a b c d, S.usr 729 a b c d = .bool (isK a.tR b.tB)
 u731 : ∀ a b c d, S.usr 731 a b c d = .bool (Zp (a.tR.getD c.tI.toNat [] = b.tR.getD d.tI.toNat []))
def arC (m R1 R2 : SX) : Ch := .prd 140 (Zae m R1) R2
def aoC (m R1 R2 : SX) : Ch := .prd 141 (Zae m R1) R2
def duC (m R1 R2 : SX) : Ch := .prd 143 (Zae m R1) R2
def tgC (A i : SX) : Ch := .prd 144 A i
def hwC (R W : SX) : Ch := .prd 145 R W
def hW (k : Nat) (A i : SX) : SX := usR k A i z0
def ZCy (R W Q V : SX) : SX := .us .bool 726 R W Q V
def aM : SX := Zbm (ai 0) (ai 1) (ai 2) (ai 3) (ai 4) (ai 5)
def aA : List Srt := [.int, .int, .int, .int, .int, .int, .rows, .rows, .rows, .int]
def ocC : Ctr := ⟨aA, [], [tgC (rA 8) (ai 9), arC aM (rA 6) (rA 7)], [.f2 45 (ai 4) z0], [], .tup [], [tgC (rA 8) (ai 9), Zoo (ai 0) (rA 6) (ai 1), duC aM (rA 6) (rA 7), hwC (rA 6) (hW 721 (rA 8) (ai 9))], [eLe (Zg (rA 6)) (ai 1)]⟩
def ZJK : Ctr := ⟨aA.take 8 ++ [.rows], [], [duC aM (rA 6) (rA 7), Zoo (ai 0) (rA 6) (ai 1), hwC (rA 6) (rA 8)], [.f2 45 (ai 4) z0], [], .tup [], [arC aM (rA 6) (rA 7)], []⟩
def owC : Ctr := ⟨aA, [], [tgC (rA 8) (ai 9), arC aM (rA 6) (rA 7)], [.f2 45 (ai 4) (.int 1)], [], .tup [], [tgC (rA 8) (ai 9), Zoo (ai 2) (rA 7) (ai 3), aoC aM (rA 6) (rA 7), hwC (rA 7) (hW 722 (rA 8) (ai 9))], [eLe (Zg (rA 7)) (ai 3), .f2 45 (ai 5) (Zg (rA 7))]⟩
def swC : Ctr := ⟨aA.take 8 ++ [.rows], [], [aoC aM (rA 6) (rA 7), Zoo (ai 2) (rA 7) (ai 3), hwC (rA 7) (rA 8)], [.f2 45 (ai 4) (.int 1), .f2 45 (ai 5) (Zg (rA 7))], [], .tup [], [arC aM (rA 6) (rA 7)], []⟩
def bgC : Ctr := ⟨aA.take 8, [], [arC aM (rA 6) (rA 7)], [.f2 45 (ai 4) z0], [], .tup [], [arC (Zbm (ai 0) (ai 1) (ai 0) (ai 1) (.int 1) (Zg (rA 6))) (rA 6) (rA 6)], [eLe (Zg (rA 6)) (ai 1)]⟩
def wrC : Ctr := ⟨aA.take 8 ++ [.rows, .int, .int, .rows, .int], [.one (slC (ai 9) (ai 12) (ai 10) 2)], [aoC aM (rA 6) (rA 7), Zoo (ai 2) (rA 7) (ai 3), hwC (rA 7) (rA 8), Zoo (ai 9) (rA 11) (ai 10)], [.f2 45 (ai 4) (.int 1), .f2 45 (ai 12) (Zg (rA 11))], [], .tup [],
 [arC (Zbm (ai 0) (ai 1) (ai 9) (ai 10) (.int 1) (ai 12)) (rA 6) (rA 11)], []⟩
def gvC : Ctr := ⟨aA.take 8, [], [arC aM (rA 6) (rA 7)], [.f2 45 (ai 4) (.int 1)], [], .tup [], [arC (Zbm (ai 0) (ai 1) (ai 2) (ai 3) z0 (ai 5)) (rA 6) (rA 7)], []⟩
def koC : Ctr := ⟨aA.take 8, [], [arC aM (rA 6) (rA 7)], [.f2 45 (ai 4) (.int 1)], [], .tup [], [arC (Zbm (ai 2) (ai 3) (ai 2) (ai 3) z0 (ai 5)) (rA 7) (rA 7)], [.f2 45 (ai 5) (Zg (rA 7)), eLe (Zg (rA 7)) (ai 3)]⟩
def tgI : Ctr := ⟨[.rows, .int], [], [tgC (rA 0) (ai 1)], [], [], .tup [], [tgC (rA 0) (ZJO (ai 1))], []⟩
def emP2 : Ctr := ⟨[], [], [], [], [], .tup [], [Zoo (.int (-1)) Zfu z0], []⟩
theorem ZE9 {m : List Int} {R1 R2 : List (List Int)} {h : Hl} (hh : arsB m R1 R2 h) : (R1.length : Int) <= g1 m /\ (R2.length : Int) <= m.getD 3 0 := by
 rcases hh with ⟨⟨_, e2, e3⟩, ha⟩ | ⟨a, b, _, _, ha, hb⟩
 ·have := ZfX (by simp) ha
  rw [<- e3, <- e2]; exact ⟨this, this⟩
 ·exact ⟨ZfX (by simp) ha, ZfX (by simp) hb⟩
theorem du_in {H : HProp} {h : Hl} (hh : H h) : Zc H Zjx h := by
 have : Zc H emp h := by rw [Zd]; exact hh
 exact Zq (fun _ x => x) (fun _ _ => trivial) h this
theorem Zko {A B : HProp} {h : Hl} (hh : Zc (Zc A B) Zjx h) : Zc A Zjx h := by
 rw [star_assoc] at hh
 exact Zq (fun _ x => x) (fun _ _ => trivial) h hh
section
variable (T : Sig GG) (ρ : Go.Eng.Env GG) (w0 : World)
def mOf : List Int := [(ρ 0).tI, (ρ 1).tI, (ρ 2).tI, (ρ 3).tI, (ρ 4).tI, (ρ 5).tI]
end
theorem ZIv {m : List Int} {R1 R2 : List (List Int)} (h : m.getD 4 0 ≠ 1) : ZNf (m :: R1) R2 = Zc (rAD prE (g0 m) R1 (g1 m)) Zjx := by
 show Zc (if m.getD 4 0 = 1 then _ else _) Zjx = _
 rw [if_neg h]; rfl
theorem ZJx {m : List Int} {R1 R2 : List (List Int)} (h : m.getD 4 0 = 1) : ZNf (m :: R1) R2 = Zc (fun h => m.getD 5 0 = (R2.length : Nat) /\ arsB m R1 R2 h) Zjx := by
 show Zc (if m.getD 4 0 = 1 then _ else _) Zjx = _
 rw [if_pos h]; rfl
theorem ZKJ (S : Sig GG) (hS : HnSig S) : Zbp S ocC := by
 refine Ys S fun T w0 ρ h hu hp hd hr hpre => ⟨ρ, Ext.refl _ _, ?_⟩
 have e1 : hpDen T ρ w0 ocC.pre = Zc (T.prd 144 w0 ((rA 8).den T ρ) ((ai 9).den T ρ)) (Zc (T.prd 140 w0 (.rows (mOf ρ :: (ρ 6).tR)) (.rows (ρ 7).tR)) emp) := rfl
 have e2 : hpDen T ρ w0 ocC.post = Zc (T.prd 144 w0 ((rA 8).den T ρ) ((ai 9).den T ρ)) (Zc (rAD prE (ρ 0).tI (ρ 6).tR (ρ 1).tI) (Zc (T.prd 143 w0 (.rows (mOf ρ :: (ρ 6).tR)) (.rows (ρ 7).tR)) (Zc (T.prd 145 w0 ((rA 6).den T ρ) ((hW 721 (rA 8) (ai 9)).den T ρ)) emp))) := rfl
 have r0 := ZaU (hr (.f2 45 (ai 4) z0) (by simp [ocC]))
 have r0 : (ρ 4).tI = 0 := r0
 rw [e1, hp, hS.p144, hS.p140, emp_star, Zd, U.tRi, U.tRi, ZIv (by show (ρ 4).tI ≠ 1; omega)] at hpre
 rw [e2, hp, hS.p144, hS.p143, hS.p145, emp_star, emp_star, Zd]
 refine ⟨hpre, fun x hx => ?_⟩
 obtain ⟨a, b, _, _, ha, _⟩ := hpre
 rw [List.mem_singleton.1 hx, Zf]
 exact ZfX (by simp) ha
theorem ZFv (S : Sig GG) (hS : HnSig S) : Zbp S ZJK := by
 refine Ys S fun T w0 ρ h hu hp hd hr hpre => ⟨ρ, Ext.refl _ _, ?_, fun x hx => nomatch hx⟩
 have e1 : hpDen T ρ w0 ZJK.pre = Zc (T.prd 143 w0 (.rows (mOf ρ :: (ρ 6).tR)) (.rows (ρ 7).tR)) (Zc (rAD prE (ρ 0).tI (ρ 6).tR (ρ 1).tI) (Zc (T.prd 145 w0 ((rA 6).den T ρ) ((rA 8).den T ρ)) emp)) := rfl
 have e2 : hpDen T ρ w0 ZJK.post = Zc (T.prd 140 w0 (.rows (mOf ρ :: (ρ 6).tR)) (.rows (ρ 7).tR)) emp := rfl
 have r0 := ZaU (hr (.f2 45 (ai 4) z0) (by simp [ZJK, aA]))
 have r0 : (ρ 4).tI = 0 := r0
 rw [e1, hp, hS.p143, hS.p145, Zd, Zd, ZG] at hpre
 rw [e2, hp, hS.p140, Zd, U.tRi, U.tRi, ZIv (by show (ρ 4).tI ≠ 1; omega)]
 exact hpre
theorem ZG7 (S : Sig GG) (hS : HnSig S) : Zbp S owC := by
 refine Ys S fun T w0 ρ h hu hp hd hr hpre => ⟨ρ, Ext.refl _ _, ?_⟩
 have e1 : hpDen T ρ w0 owC.pre = Zc (T.prd 144 w0 ((rA 8).den T ρ) ((ai 9).den T ρ)) (Zc (T.prd 140 w0 (.rows (mOf ρ :: (ρ 6).tR)) (.rows (ρ 7).tR)) emp) := rfl
 have e2 : hpDen T ρ w0 owC.post = Zc (T.prd 144 w0 ((rA 8).den T ρ) ((ai 9).den T ρ)) (Zc (rAD prE (ρ 2).tI (ρ 7).tR (ρ 3).tI) (Zc (T.prd 141 w0 (.rows (mOf ρ :: (ρ 6).tR)) (.rows (ρ 7).tR)) (Zc (T.prd 145 w0 ((rA 7).den T ρ) ((hW 722 (rA 8) (ai 9)).den T ρ)) emp))) := rfl
 have r0 := ZaU (hr (.f2 45 (ai 4) (.int 1)) (by simp [owC]))
 have r0 : (ρ 4).tI = 1 := r0
 rw [e1, hp, hS.p144, hS.p140, emp_star, Zd, U.tRi, U.tRi, ZJx (m := mOf ρ) r0] at hpre
 rw [e2, hp, hS.p144, hS.p141, hS.p145, emp_star, Zd, Zd, U.tRi, U.tRi]
 obtain ⟨a, b, d, rfl, ⟨hl, ha⟩, hb⟩ := hpre
 have hl2 := ZE9 ha
 refine ⟨?_, fun x hx => ?_⟩
 ·show Zc _ (Zc _ Zjx) _
  rw [<- star_assoc]
  refine ⟨a, b, d, rfl, ?_, hb⟩
  rcases ha with ⟨⟨e3, e4, e5⟩, ha⟩ | ha
  ·have : Zc (rAD prE (ρ 2).tI (ρ 7).tR (ρ 3).tI) emp a := by
    rw [Zd]
    have e3 : (ρ 0).tI = (ρ 2).tI := e3
    have e4 : (ρ 1).tI = (ρ 3).tI := e4
    rw [<- e3, <- e4, <- e5]; exact ha
   exact Zq (fun _ x => x) (fun _ x => .inl ⟨⟨e3, e4, e5⟩, x⟩) a this
  ·rw [ZG] at ha
   exact Zq (fun _ x => x) (fun _ x => .inr x) a ha
 ·simp only [owC, List.mem_cons, List.not_mem_nil, or_false] at hx
  rcases hx with rfl | rfl
  ·rw [Zf]; exact hl2.2
  ·show (ap2 45 _ _).tP
   rw [p45]; exact hl
theorem Zv2 {m : List Int} {R1 R2 : List (List Int)} {h : Hl} (hh : Zc (arsO (m :: R1) R2) (rAD prE (g2 m) R2 (m.getD 3 0)) h) : Zc (arsB m R1 R2) Zjx h := by
 unfold arsO at hh
 rw [star_assoc, ZG Zjx, <- star_assoc] at hh
 refine Zq (fun h1 x => ?_) (fun _ x => x) h hh
 obtain ⟨a, b, d, rfl, ha, hb⟩ := x
 rcases ha with ⟨⟨e1, e2, e3⟩, ha⟩ | ha
 ·have : Zc emp (rAD prE (g2 m) R2 (m.getD 3 0)) (Hl.un a b) := ⟨a, b, d, rfl, ha, hb⟩
  rw [emp_star] at this
  refine .inl ⟨⟨e1, e2, e3⟩, ?_⟩
  have e1 : g0 m = g2 m := e1
  have e2 : g1 m = m.getD 3 0 := e2
  have e3 : R1 = R2 := e3
  rw [e1, e2, e3]; exact this
 ·exact .inr ⟨a, b, d, rfl, ha, hb⟩
theorem ZJ7 (S : Sig GG) (hS : HnSig S) : Zbp S swC := by
 refine Ys S fun T w0 ρ h hu hp hd hr hpre => ⟨ρ, Ext.refl _ _, ?_, fun x hx => nomatch hx⟩
 have e1 : hpDen T ρ w0 swC.pre = Zc (T.prd 141 w0 (.rows (mOf ρ :: (ρ 6).tR)) (.rows (ρ 7).tR)) (Zc (rAD prE (ρ 2).tI (ρ 7).tR (ρ 3).tI) (Zc (T.prd 145 w0 ((rA 7).den T ρ) ((rA 8).den T ρ)) emp)) := rfl
 have e2 : hpDen T ρ w0 swC.post = Zc (T.prd 140 w0 (.rows (mOf ρ :: (ρ 6).tR)) (.rows (ρ 7).tR)) emp := rfl
 have r0 := ZaU (hr (.f2 45 (ai 4) (.int 1)) (by simp [swC, aA]))
 have r1 := ZaU (hr (.f2 45 (ai 5) (Zg (rA 7))) (by simp [swC, aA]))
 have r0 : (ρ 4).tI = 1 := r0
 have r1 : (ρ 5).tI = ((ρ 7).tR.length : Nat) := r1
 rw [e1, hp, hS.p141, hS.p145, Zd, Zd, U.tRi, U.tRi] at hpre
 rw [e2, hp, hS.p140, Zd, U.tRi, U.tRi, ZJx (m := mOf ρ) r0]
 exact Zq (fun _ x => ⟨r1, x⟩) (fun _ x => x) h (Zv2 (m := mOf ρ) hpre)
theorem bg_gh (S : Sig GG) (hS : HnSig S) : Zbp S bgC := by
 refine Ys S fun T w0 ρ h hu hp hd hr hpre => ⟨ρ, Ext.refl _ _, ?_⟩
 have e1 : hpDen T ρ w0 bgC.pre = Zc (T.prd 140 w0 (.rows (mOf ρ :: (ρ 6).tR)) (.rows (ρ 7).tR)) emp := rfl
 have e2 : hpDen T ρ w0 bgC.post = Zc (T.prd 140 w0 (.rows ([(ρ 0).tI, (ρ 1).tI, (ρ 0).tI, (ρ 1).tI, 1, ((ρ 6).tR.length : Nat)] :: (ρ 6).tR)) (.rows (ρ 6).tR)) emp := rfl
 have r0 := ZaU (hr (.f2 45 (ai 4) z0) (by simp [bgC, aA]))
 have r0 : (ρ 4).tI = 0 := r0
 rw [e1, hp, hS.p140, Zd, U.tRi, U.tRi, ZIv (by show (ρ 4).tI ≠ 1; omega)] at hpre
 rw [e2, hp, hS.p140, Zd, U.tRi, U.tRi, ZJx rfl]
 refine ⟨Zq (fun _ x => ⟨rfl, .inl ⟨⟨rfl, rfl, rfl⟩, x⟩⟩) (fun _ x => x) h hpre, fun x hx => ?_⟩
 obtain ⟨a, b, _, _, ha, _⟩ := hpre
 rw [List.mem_singleton.1 hx, Zf]
 exact ZfX (by simp) ha
theorem wr_gh (S : Sig GG) (hS : HnSig S) : Zbp S wrC := by
 refine Ys S fun T w0 ρ h hu hp hd hr hpre => ⟨ρ, Ext.refl _ _, ?_, fun x hx => nomatch hx⟩
 have e1 : hpDen T ρ w0 wrC.pre = Zc (T.prd 141 w0 (.rows (mOf ρ :: (ρ 6).tR)) (.rows (ρ 7).tR)) (Zc (rAD prE (ρ 2).tI (ρ 7).tR (ρ 3).tI) (Zc (T.prd 145 w0 ((rA 7).den T ρ) ((rA 8).den T ρ)) (Zc (rAD prE (ρ 9).tI (ρ 11).tR (ρ 10).tI) emp))) := rfl
 have e2 : hpDen T ρ w0 wrC.post = Zc (T.prd 140 w0 (.rows ([(ρ 0).tI, (ρ 1).tI, (ρ 9).tI, (ρ 10).tI, 1, (ρ 12).tI] :: (ρ 6).tR)) (.rows (ρ 11).tR)) emp := rfl
 have r1 := ZaU (hr (.f2 45 (ai 12) (Zg (rA 11))) (by simp [wrC, aA]))
 have r1 : (ρ 12).tI = ((ρ 11).tR.length : Nat) := r1
 rw [e1, hp, hS.p141, hS.p145, emp_star, Zd, U.tRi, U.tRi, <- star_assoc] at hpre
 rw [e2, hp, hS.p140, Zd, U.tRi, U.tRi, ZJx rfl]
 have h2 := Zq (fun _ x => Zv2 (m := mOf ρ) x) (fun _ x => x) h hpre
 rw [star_assoc, ZG Zjx, <- star_assoc] at h2
 obtain ⟨a, b, d, rfl, ⟨a1, b1, d1, rfl, ha, hb⟩, hc⟩ := h2
 rcases ha with ⟨_, ha⟩ | ⟨a2, b2, d2, rfl, ha, hd2⟩
 ·exact ⟨_, b, d, rfl, ⟨r1, .inr ⟨a1, b1, d1, rfl, ha, hb⟩⟩, hc⟩
 ·have h3 : Zc (Zc (Zc (rAD prE (ρ 0).tI (ρ 6).tR (ρ 1).tI) (rAD prE (ρ 2).tI (ρ 7).tR (ρ 3).tI)) (rAD prE (ρ 9).tI (ρ 11).tR (ρ 10).tI)) Zjx _ := ⟨_, b, d, rfl, ⟨_, b1, d1, rfl, ⟨a2, b2, d2, rfl, ha, hd2⟩, hb⟩, hc⟩
  rw [star_assoc (rAD prE (ρ 0).tI _ _), ZG (rAD prE (ρ 2).tI _ _), <- star_assoc] at h3
  exact Zq (fun _ x => ⟨r1, .inr x⟩) (fun _ x => x) _ (Zko h3)
theorem ZK1 (S : Sig GG) (hS : HnSig S) : Zbp S gvC := by
 refine Ys S fun T w0 ρ h hu hp hd hr hpre => ⟨ρ, Ext.refl _ _, ?_, fun x hx => nomatch hx⟩
 have e1 : hpDen T ρ w0 gvC.pre = Zc (T.prd 140 w0 (.rows (mOf ρ :: (ρ 6).tR)) (.rows (ρ 7).tR)) emp := rfl
 have e2 : hpDen T ρ w0 gvC.post = Zc (T.prd 140 w0 (.rows ([(ρ 0).tI, (ρ 1).tI, (ρ 2).tI, (ρ 3).tI, 0, (ρ 5).tI] :: (ρ 6).tR)) (.rows (ρ 7).tR)) emp := rfl
 have r0 := ZaU (hr (.f2 45 (ai 4) (.int 1)) (by simp [gvC, aA]))
 have r0 : (ρ 4).tI = 1 := r0
 rw [e1, hp, hS.p140, Zd, U.tRi, U.tRi, ZJx (m := mOf ρ) r0] at hpre
 rw [e2, hp, hS.p140, Zd, U.tRi, U.tRi, ZIv (by show (0 : Int) ≠ 1; omega)]
 obtain ⟨a, b, d, rfl, ⟨_, ha⟩, hb⟩ := hpre
 rcases ha with ⟨_, ha⟩ | ha
 ·exact ⟨a, b, d, rfl, ha, hb⟩
 ·exact Zko ⟨a, b, d, rfl, ha, hb⟩
theorem ko_gh (S : Sig GG) (hS : HnSig S) : Zbp S koC := by
 refine Ys S fun T w0 ρ h hu hp hd hr hpre => ⟨ρ, Ext.refl _ _, ?_⟩
 have e1 : hpDen T ρ w0 koC.pre = Zc (T.prd 140 w0 (.rows (mOf ρ :: (ρ 6).tR)) (.rows (ρ 7).tR)) emp := rfl
 have e2 : hpDen T ρ w0 koC.post = Zc (T.prd 140 w0 (.rows ([(ρ 2).tI, (ρ 3).tI, (ρ 2).tI, (ρ 3).tI, 0, (ρ 5).tI] :: (ρ 7).tR)) (.rows (ρ 7).tR)) emp := rfl
 have r0 := ZaU (hr (.f2 45 (ai 4) (.int 1)) (by simp [koC, aA]))
 have r0 : (ρ 4).tI = 1 := r0
 rw [e1, hp, hS.p140, Zd, U.tRi, U.tRi, ZJx (m := mOf ρ) r0] at hpre
 rw [e2, hp, hS.p140, Zd, U.tRi, U.tRi, ZIv (by show (0 : Int) ≠ 1; omega)]
 obtain ⟨a, b, d, rfl, ⟨hl, ha⟩, hb⟩ := hpre
 have hl2 := ZE9 ha
 refine ⟨?_, fun x hx => ?_⟩
 ·rcases ha with ⟨⟨e3, e4, e5⟩, ha⟩ | ha
  ·refine ⟨a, b, d, rfl, ?_, hb⟩
   have e3 : (ρ 0).tI = (ρ 2).tI := e3
   have e4 : (ρ 1).tI = (ρ 3).tI := e4
   show rAD prE (ρ 2).tI (ρ 7).tR (ρ 3).tI a
   rw [<- e3, <- e4, <- e5]; exact ha
  ·rw [ZG] at ha
   exact Zko ⟨a, b, d, rfl, ha, hb⟩
 ·simp only [koC, List.mem_cons, List.not_mem_nil, or_false] at hx
  rcases hx with rfl | rfl
  ·show (ap2 45 _ _).tP
   rw [p45]; exact hl
  ·rw [Zf]; exact hl2.2
theorem ZNc (S : Sig GG) (hS : HnSig S) : Zbp S tgI := by
 refine Ys S fun T w0 ρ h hu hp hd hr hpre => ⟨ρ, Ext.refl _ _, ?_, fun x hx => nomatch hx⟩
 have e1 : hpDen T ρ w0 tgI.pre = Zc (T.prd 144 w0 ((rA 0).den T ρ) ((ai 1).den T ρ)) emp := rfl
 have e2 : hpDen T ρ w0 tgI.post = Zc (T.prd 144 w0 ((rA 0).den T ρ) ((ZJO (ai 1)).den T ρ)) emp := rfl
 rw [e1, hp, hS.p144] at hpre
 rw [e2, hp, hS.p144]; exact hpre
theorem ZIh (S : Sig GG) : Zbp S emP2 := by
 refine Ys S fun T w0 ρ h hu hp hd hr hpre => ⟨ρ, Ext.refl _ _, ?_, fun x hx => nomatch hx⟩
 have e2 : hpDen T ρ w0 emP2.post = Zc (rAD prE (-1) [] 0) emp := rfl
 rw [e2, Zd, show rAD prE (-1) [] 0 = emp from Ze6 _]
 exact hpre
end
end Go.Proofs.Ytidlngnhjffepaa
namespace Go.Proofs.Ytidlngnhjffepaa
noncomputable section
open Go.Eng
theorem ZL2 {R W Q V : List (List Int)} (h : ZjR R W Q V) {i : Nat} (hi : i < R.length) : ∃ j < Q.length, R.getD i [] = Q.getD j [] /\ W.getD i [] = V.getD j [] := by
 obtain ⟨h1, h2, T, h3⟩ := h
 have hz : i < (R.zip W).length := by rw [List.length_zip]; omega
 have hm : (R.zip W)[i] ∈ Q.zip V := h3.mem_iff.1 (List.mem_append_left _ (ZOg hz))
 obtain ⟨j, hj, e⟩ := List.getElem_of_mem hm
 rw [List.length_zip] at hj
 rw [List.getElem_zip, List.getElem_zip] at e
 refine ⟨j, by omega, ?_, ?_⟩
 ·rw [ZNT, ZNT, ZNW hi, ZNW (by omega)]
  exact (congrArg Prod.fst e).symm
 ·rw [ZNT, ZNT, ZNW (by omega), ZNW (by omega)]
  exact (congrArg Prod.snd e).symm
def oqP : List Ch := [.prd 111 (Zae (ZtA (ai 5)) (rA 3)) (rA 4), bAr (nt (rA 1) (ai 0) 0) (.f1 36 (nt (rA 2) (ai 0) 0)) (nt (rA 1) (ai 0) 2), bAr (nt (rA 1) (ai 0) 3) (.f1 36 (nt (rA 2) (ai 0) 1)) (nt (rA 1) (ai 0) 5)]
def oqF : List SX := [eLe z0 (ai 5), eLt (ai 5) (Zg (rA 3)), .us .bool 731 (rA 1) (rA 3) (ai 0) (ai 5), .us .bool 731 (rA 2) (rA 4) (ai 0) (ai 5)]
def oqC : Ctr := ⟨[.int, .rows, .rows, .rows, .rows], [.one (.int .i64 (ai 0))], [hwC (rA 1) (rA 2), prC (rA 3) (rA 4)], [eLe z0 (ai 0), eLt (ai 0) (Zg (rA 1)), ZCy (rA 1) (rA 2) (rA 3) (rA 4)], [.int], .tup [], hwC (rA 1) (rA 2) :: oqP, oqF ++ prF⟩
def cqC : Ctr := ⟨[.int, .rows, .rows, .rows, .rows, .int], [.one (.int .i64 (ai 0))], hwC (rA 1) (rA 2) :: oqP, ZCy (rA 1) (rA 2) (rA 3) (rA 4) :: (oqF ++ prF), [], .tup [], [hwC (rA 1) (rA 2), prC (rA 3) (rA 4)], []⟩
theorem ZwV (S : Sig GG) (hS : HnSig S) {T : Sig GG} (hp : T.prd = S.prd) (ρ : Go.Eng.Env GG) (w0 : World) : hpDen T ρ w0 (hwC (rA 1) (rA 2) :: oqP) = Zc (Zc (prH ((ρ 3).tR.take (ρ 5).tI.toNat) ((ρ 4).tR.take (ρ 5).tI.toNat)) (prH ((ρ 3).tR.drop ((ρ 5).tI.toNat + 1)) ((ρ 4).tR.drop ((ρ 5).tI.toNat + 1))))
  (Zc (bAD (g0 ((ρ 1).tR.getD (ρ 0).tI.toNat [])) (txt ((ρ 2).tR.getD (ρ 0).tI.toNat [])) (g2 ((ρ 1).tR.getD (ρ 0).tI.toNat []))) (bAD (((ρ 1).tR.getD (ρ 0).tI.toNat []).getD 3 0) (tx1 ((ρ 2).tR.getD (ρ 0).tI.toNat [])) (((ρ 1).tR.getD (ρ 0).tI.toNat []).getD 5 0))) := by
 have e : hpDen T ρ w0 (hwC (rA 1) (rA 2) :: oqP) = Zc (T.prd 145 w0 ((rA 1).den T ρ) ((rA 2).den T ρ)) (Zc (T.prd 111 w0 (.rows ([(ρ 5).tI] :: (ρ 3).tR)) (.rows (ρ 4).tR)) (Zc (bAD (g0 ((ρ 1).tR.getD (ρ 0).tI.toNat [])) (txt ((ρ 2).tR.getD (ρ 0).tI.toNat [])) (g2 ((ρ 1).tR.getD (ρ 0).tI.toNat [])))
  (Zc (bAD (((ρ 1).tR.getD (ρ 0).tI.toNat []).getD 3 0) (tx1 ((ρ 2).tR.getD (ρ 0).tI.toNat [])) (((ρ 1).tR.getD (ρ 0).tI.toNat []).getD 5 0)) emp))) := rfl
 rw [e, Zd, hp, hS.p145, emp_star, hS.ib.og.ou.ft.od.fi.p111, U.tRi, U.tRi]; rfl
theorem ZHe (S : Sig GG) (hS : HnSig S) : Zbp S oqC := by
 refine Ys S fun T w0 ρ h hu hp hd hr hpre => ?_
 have e1 : hpDen T ρ w0 oqC.pre = Zc (T.prd 145 w0 ((rA 1).den T ρ) ((rA 2).den T ρ)) (Zc (T.prd 110 w0 ((rA 3).den T ρ) ((rA 4).den T ρ)) emp) := rfl
 have r0 := hr (eLe z0 (ai 0)) (by simp [oqC])
 have r1 := hr (eLt (ai 0) (Zg (rA 1))) (by simp [oqC])
 have r2 := hr (ZCy (rA 1) (rA 2) (rA 3) (rA 4)) (by simp [oqC])
 rw [Zf] at r0
 rw [Yi] at r1
 have r0 : 0 <= (ρ 0).tI := r0
 have r1 : (ρ 0).tI < ((ρ 1).tR.length : Nat) := r1
 simp only [ZCy, SX.den, hu, hS.u726, Yw, U.tPi, U.tQi, Zi, rA, YJ, U.tRi] at r2
 rw [e1, hp, hS.p145, emp_star, Zd, hS.ib.og.ou.ft.od.fi.p110] at hpre
 have hpre : prH (ρ 3).tR (ρ 4).tR h := hpre
 obtain ⟨j, hj, q1, q2⟩ := ZL2 r2 (i := (ρ 0).tI.toNat) (by omega)
 rw [Zgv hj r2.2.1, <- q1, <- q2] at hpre
 obtain ⟨a, b, d, rfl, ha, hf, hb⟩ := hpre
 refine ⟨ρ.upd 5 (.int j), Ext.upd _ _, ?_, fun x hx => ?_⟩
 ·show hpDen T _ w0 (hwC (rA 1) (rA 2) :: oqP) _
  rw [ZwV S hS hp]
  exact ⟨a, b, d, rfl, ha, hb⟩
 ·rcases List.mem_append.1 (show x ∈ oqF ++ prF from hx) with hx | hx
  ·simp only [oqF, List.mem_cons, List.not_mem_nil, or_false] at hx
   rcases hx with rfl | rfl | rfl | rfl
   ·rw [Zf]; exact Int.natCast_nonneg j
   ·rw [Yi]
    show (j : Int) < ((ρ 3).tR.length : Nat)
    omega
   ·show (U.co T .bool (T.usr 731 _ _ _ _)).tP
    rw [hu, hS.u731, Yw, U.tPi, U.tQi, Zi]; exact q1
   ·show (U.co T .bool (T.usr 731 _ _ _ _)).tP
    rw [hu, hS.u731, Yw, U.tPi, U.tQi, Zi]; exact q2
  ·exact (Zkt T (ρ.upd 5 (.int j))).2 ⟨r2.1, hf⟩ x hx
theorem ZHF (S : Sig GG) (hS : HnSig S) : Zbp S cqC := by
 refine Ys S fun T w0 ρ h hu hp hd hr hpre => ⟨ρ, Ext.refl _ _, ?_, fun x hx => nomatch hx⟩
 have e2 : hpDen T ρ w0 cqC.post = Zc (T.prd 145 w0 ((rA 1).den T ρ) ((rA 2).den T ρ)) (Zc (T.prd 110 w0 ((rA 3).den T ρ) ((rA 4).den T ρ)) emp) := rfl
 have r2 := hr (ZCy (rA 1) (rA 2) (rA 3) (rA 4)) (by simp [cqC])
 have r3 := hr (eLe z0 (ai 5)) (by simp [cqC, oqF])
 have r4 := hr (eLt (ai 5) (Zg (rA 3))) (by simp [cqC, oqF])
 have q1 := hr (.us .bool 731 (rA 1) (rA 3) (ai 0) (ai 5)) (by simp [cqC, oqF])
 have q2 := hr (.us .bool 731 (rA 2) (rA 4) (ai 0) (ai 5)) (by simp [cqC, oqF])
 have hf := ((Zkt T ρ).1 fun x hx => hr x (ZNZ _ (List.mem_append_right _ hx))).2
 rw [Zf] at r3
 rw [Yi] at r4
 have r3 : 0 <= (ρ 5).tI := r3
 have r4 : (ρ 5).tI < ((ρ 3).tR.length : Nat) := r4
 simp only [ZCy, SX.den, hu, hS.u726, hS.u731, Yw, U.tPi, U.tQi, Zi, rA, ai, YJ, Z4, U.tIi, U.tRi] at r2 q1 q2
 have hpre : hpDen T ρ w0 (hwC (rA 1) (rA 2) :: oqP) h := hpre
 rw [ZwV S hS hp] at hpre
 rw [e2, hp, hS.p145, emp_star, Zd, hS.ib.og.ou.ft.od.fi.p110]
 show prH (ρ 3).tR (ρ 4).tR h
 rw [Zgv (i := (ρ 5).tI.toNat) (by omega) r2.2.1, <- q1, <- q2]
 obtain ⟨a, b, d, rfl, ha, hb⟩ := hpre
 exact ⟨a, b, d, rfl, ha, hf, hb⟩
def ahX : SX := .us .int 728 (rA 8) (bA 4) z0 z0
def Zwc : Ctr := ⟨[.int, .rows, .int, .int, .bytes, .int, .rows, .rows, .rows], [.one (slC (ai 0) (Zg (rA 1)) (ai 2) 2), .one (sl1 (ai 3) (ZBg (bA 4)) (ai 5))], [Zoo (ai 0) (rA 1) (ai 2), bAr (ai 3) (bA 4) (ai 5), hwC (rA 1) (rA 8), prC (rA 6) (rA 7)], [ZCy (rA 1) (rA 8) (rA 6) (rA 7), eLe (Zg (rA 1)) (.int 1000), eLe (ZBg (bA 4)) (ai 5)], [.int, .bool],
 .tup [(false, [.int .i64 (ai 9)]), (false, [.bool (qA 10)])], [Zoo (ai 0) (rA 1) (ai 2), bAr (ai 3) (bA 4) (ai 5), hwC (rA 1) (rA 8), prC (rA 6) (rA 7)], [.f2 45 (ai 9) ahX, .f2 48 (qA 10) (.us .bool 729 (rA 8) (bA 4) z0 z0)]⟩
def ahdI : Inv := ⟨[.int], [(6, .one (.int .i64 (di 0)))], [], [eLe z0 (di 0), eLe (di 0) ahX], .f2 41 ahX (di 0)⟩
def ZJJ : SX := eLt (.at .int 9) (Zg (rA 1))
def ZLK : Cx := { specs := [], anns := [(15, [(2, .inv ahdI), (2, .split ZJJ), (2, .iff ZJJ), (2, .ghost oqC [.tmp 6]), (500002, .iff ZJJ), (500002, .ghost cqC [.tmp 6]), (4, .split ZJJ), (4, .iff ZJJ), (4, .ghost oqC [.tmp 6]), (500004, .iff ZJJ), (500004, .ghost cqC [.tmp 6])])] }
theorem ZxE : ∀ {W : List (List Int)} {k : List UInt8} {n : Nat}, n <= ahN W k -> n < W.length -> Op.bytesLess (txt (W.getD n [])) k = true -> n + 1 <= ahN W k
 | r :: W, k, 0, _, _, h => by
  have h : Op.bytesLess (txt r) k = true := h
  unfold ahN; rw [if_pos h]; omega
 | r :: W, k, n + 1, hn, hl, h => by
  unfold ahN at hn ⊢
  split
  ·rename_i q
   rw [if_pos q] at hn
   have := ZxE (W := W) (k := k) (n := n) (by omega) (by simpa using hl) (by simpa using h)
   omega
  ·rename_i q
   rw [if_neg q] at hn; omega
theorem ZzE : ∀ {W : List (List Int)} {k : List UInt8} {n : Nat}, n <= ahN W k -> n < W.length -> ¬ Op.bytesLess (txt (W.getD n [])) k = true -> ahN W k = n
 | r :: W, k, 0, _, _, h => by
  have h : ¬ Op.bytesLess (txt r) k = true := h
  unfold ahN; rw [if_neg h]
 | r :: W, k, n + 1, hn, hl, h => by
  unfold ahN at hn ⊢
  split
  ·rename_i q
   rw [if_pos q] at hn
   rw [ZzE (W := W) (k := k) (n := n) (by omega) (by simpa using hl) (by simpa using h)]
  ·rename_i q
   rw [if_neg q] at hn; omega
section
variable {R W : List (List Int)} {K : List UInt8} {x : Int}
theorem ZzW (e : (R.getD x.toNat []).getD 1 0 = ((Yp ((W.getD x.toNat []).getD 0 0).toNat).length : Nat)) : List.take ((R.getD x.toNat []).getD 1 0).toNat (Yp ((W.getD x.toNat []).getD 0 0).toNat) = txt (W.getD x.toNat []) := by
 rw [e, ZN0, List.take_length]; rfl
theorem ZFx (hl : R.length = W.length) (h0 : 0 <= x) (hx : x <= (ahN W K : Nat)) (hr : x < (R.length : Nat)) (e : (R.getD x.toNat []).getD 1 0 = ((Yp ((W.getD x.toNat []).getD 0 0).toNat).length : Nat))
  (hb : (ap2 151 (U.bytes (List.take ((R.getD x.toNat []).getD 1 0).toNat (Yp ((W.getD x.toNat []).getD 0 0).toNat)) : U GG) (U.bytes K)).tP) : x + 1 <= (ahN W K : Nat) := by
 rw [ZzW e] at hb
 have := ZxE (W := W) (k := K) (n := x.toNat) (by omega) (by omega) hb
 omega
theorem ZEH (hl : R.length = W.length) (h0 : 0 <= x) (hx : x <= (ahN W K : Nat)) (hr : x < (R.length : Nat)) (e : (R.getD x.toNat []).getD 1 0 = ((Yp ((W.getD x.toNat []).getD 0 0).toNat).length : Nat))
  (hb : (ap2 151 (U.bytes (List.take ((R.getD x.toNat []).getD 1 0).toNat (Yp ((W.getD x.toNat []).getD 0 0).toNat)) : U GG) (U.bytes K)).toBool = false) : x = (ahN W K : Nat) := by
 rw [ZzW e] at hb
 have hb : Op.bytesLess (txt (W.getD x.toNat [])) K = false := hb
 have := ZzE (W := W) (k := K) (n := x.toNat) (by omega) (by omega) (by rw [hb]; exact fun z => nomatch z)
 omega
theorem ZM3 (hl : R.length = W.length) (h0 : 0 <= x) (hx : x <= (ahN W K : Nat)) (hr : x < (R.length : Nat)) (e : (R.getD x.toNat []).getD 1 0 = ((Yp ((W.getD x.toNat []).getD 0 0).toNat).length : Nat))
  (hb : (ap2 151 (U.bytes (List.take ((R.getD x.toNat []).getD 1 0).toNat (Yp ((W.getD x.toNat []).getD 0 0).toNat)) : U GG) (U.bytes K)).toBool = false) : (List.take ((R.getD x.toNat []).getD 1 0).toNat (Yp ((W.getD x.toNat []).getD 0 0).toNat) == K) = isK W K := by
 have hq := ZEH hl h0 hx hr e hb
 rw [ZzW e]
 unfold isK
 rw [show ahN W K = x.toNat by omega, show decide (x.toNat < W.length) = true from decide_eq_true (by omega), Bool.true_and]
 rw [Bool.eq_iff_iff]; simp
theorem ZI1 (hl : R.length = W.length) (hx : x <= (ahN W K : Nat)) (hr : (R.length : Nat) <= x) : x = (ahN W K : Nat) := by
 have := Zrb W K
 omega
theorem ZMl (hl : R.length = W.length) (hx : x <= (ahN W K : Nat)) (hr : (R.length : Nat) <= x) : false = isK W K := by
 unfold isK
 have := Zrb W K
 rw [show decide (ahN W K < W.length) = false from decide_eq_false (by omega)]; rfl
end
def ZrA : SX := d 728 (r 8) (b 4)
def Zu9 : SX := t (a 9) (.f1 32 (r 1))
def ZGT : SX := l z (a 10)
def ZGb : SX := t (a 10) (.f1 32 (r 6))
def ZIO : SX := .us .bool 731 (r 1) (r 6) (a 9) (a 10)
def ZGj : SX := .us .bool 731 (r 8) (r 7) (a 9) (a 10)
def ZAG : SX := e (.f1 32 (r 1)) (.f1 32 (r 8))
def Zvd : SX := .f3 112 (r 1) (a 9) (k 1)
def ZGC : SX := .f1 36 (.f3 112 (r 8) (a 9) z)
def ZHP : SX := .f1 31 ZGC
def Zmr : SX := e Zvd ZHP
def ZAu : SX := .f3 112 (r 1) (a 9) (k 4)
def Zmv : SX := e ZAu (.f1 31 (.f1 36 (.f3 112 (r 8) (a 9) (k 1))))
def Zng : SX := l Zvd (.f3 112 (r 1) (a 9) (k 2))
def ZmU : SX := l ZAu (.f3 112 (r 1) (a 9) (k 5))
def Zn4 : SX := l z (.f3 112 (r 1) (a 9) z)
def Zm2 : SX := l z (.f3 112 (r 1) (a 9) (k 3))
def ZBE : SX := .f2 114 ZGC Zvd
def Zym : SX := .f2 151 ZBE (b 4)
def Zn5 : SX := .f2 40 (a 9) (k 1)
def Zxp : SX := .f2 41 ZrA Zn5
def Zyk : SX := l z (a 11)
def ZAh : SX := t (a 11) (.f1 32 (r 6))
def Zwq : SX := .us .bool 731 (r 1) (r 6) (a 9) (a 11)
def Zxc : SX := .us .bool 731 (r 8) (r 7) (a 9) (a 11)
def Zwg : SX := e (a 9) ZrA
def ZCp : SX := c 729 (r 8) (b 4)
def Zjj : SX := l (.f1 32 (r 1)) (a 9)
def ZMz : VC := i (.us .bool 726 (r 1) (r 8) (r 6) (r 7)) (i (l (.f1 32 (r 1)) (k 1000)) (i (l (.f1 31 (b 4)) (a 5)) (n (l z ZrA) (u 9 .int (i (l z (a 9)) (i (l (a 9) ZrA) (.and (i Zu9 (u 10 .int (i ZGT (i ZGb (i ZIO (i ZGj (i ZAG (i Zmr (i Zmv (i Zng (i ZmU (i Zn4 (i Zm2 (.and (i Zu9 (n (l z Zvd) (n (l Zvd ZHP) (n (l (.f1 31 (b 4)) (.f1 31 (b 4))) (.and (i Zym (n (.f1 23 Zn5) (n (l z Zxp) (n (t Zxp (.f2 41 ZrA (a 9))) (n (l z Zn5) (n (l Zn5 ZrA) .tt)))))) (i (.f1 2 Zym) (.and (i Zu9 (u 11 .int (i Zyk (i ZAh (i Zwq (i Zxc (i ZAG (i Zmr (i Zmv (i Zng (i ZmU (i Zn4 (i Zm2 (.and (i Zu9 (n Zwg (n (.f2 48 (.f2 150 ZBE (b 4)) ZCp) .tt))) .tt)))))))))))))) (i Zjj (u 11 .int (i Zyk (i ZAh (i Zwq (i Zxc (i ZAG (i Zmr (i Zmv (i Zng (i ZmU (i Zn4 (i Zm2 (.and .tt .tt))))))))))))))))))))) .tt)))))))))))))) (i Zjj (.and .tt (i Zjj (.and (i Zu9 (u 10 .int (i ZGT (i ZGb (i ZIO (i ZGj (i ZAG (i Zmr (i Zmv (i Zng (i ZmU (i Zn4 (i Zm2 (.and .tt .tt)))))))))))))) (i Zjj (.and .tt (i Zjj (n Zwg (n (.f2 48 (.bool false) ZCp) .tt))))))))))))))))
theorem ZLC : Zcl Try.prog ZLK 12 15 Zwc = ZMz := by kernel_rfl
theorem ZMc (S : Sig GG) (hS : HnSig S) : ZR S Try.prog 15 Zwc := by
 refine Zo S (C := ZLK) (fuel := 12) (YV trivial ⟨⟨trivial, trivial, trivial, ⟨by decide, ZHe S hS⟩, trivial, ⟨by decide, ZHF S hS⟩, trivial, trivial, ⟨by decide, ZHe S hS⟩, trivial, ⟨by decide, ZHF S hS⟩, trivial⟩, trivial⟩ trivial) fun ρ => ?_
 rw [ZLC]
 simp only [ZMz, ZrA, Zu9, ZGT, ZGb, ZIO, ZGj, ZAG, Zvd, ZGC, ZHP, Zmr, ZAu, Zmv, Zng, ZmU, Zn4, Zm2, ZBE, Zym, Zn5, Zxp, Zyk, ZAh, Zwq, Zxc, Zwg, ZCp, Zjj, hS.u726, hS.u728, hS.u729, hS.u731, ZY, ZN0, VC.den, SX.den, Env.upd, ZwX, beq_iff_eq, ZNS, beq_eq_false_iff_ne, ne_eq, ZNR, ZNQ, Int.reduceToNat, Nat.reduceEqDiff, reduceIte, sB]
 generalize (ρ 1).tR = R
 generalize (ρ 8).tR = W
 generalize (ρ 4).tB = K
 intro h1 h2 h3
 have hl := h1.1
 refine ⟨by omega, fun x x0 x1 => ?_⟩
 repeat' (first | exact trivial | apply And.intro | intro _)
 all_goals try omega
 all_goals first
  | exact ZFx hl x0 x1 (by assumption) (by assumption) (by assumption)
  | exact ZEH hl x0 x1 (by assumption) (by assumption) (by assumption)
  | exact ZM3 hl x0 x1 (by assumption) (by assumption) (by assumption)
  | exact ZI1 hl x1 (by assumption)
  | exact ZMl hl x1 (by assumption)
  | (have := ZFx hl x0 x1 (by assumption) (by assumption) (by assumption); omega)
end
end Go.Proofs.Ytidlngnhjffepaa
namespace Go.Proofs.Ytidlngnhjffepaa
noncomputable section
open Go.Eng
def hnS (bd nd cd bw nw cw who op bh nh ch bk nk ck : SX) : List SC := [slC bd nd cd 2, slC bw nw cw 2, .int .i64 who, .bool op, slC bh nh ch 6, slC bk nk ck 1]
def okS (b n c : SX) : List SX := [eLe n c, .f2 50 (eLe z0 b) (.f2 45 n z0)]
def cmR (who n : SX) : SX := Zbm (.int 5) who z0 z0 z0 n
def ZCn : Ctr := ⟨[.int, .int, .int, .int, .int, .int, .int, .int, .int, .int, .int, .int, .rows, .rows, .rows, .ints, .bool], [.one (.ptr (ai 0) 0)],
 [.cel (ai 0) 0 (hnS (ai 1) (Zg (rA 12)) (ai 2) (ai 3) (ai 4) (ai 5) (ai 6) (qA 16) (ai 7) (Zg (rA 14)) (ai 8) (ai 9) (ZbW (iA 15)) (ai 10)), arC (Zbm (ai 1) (ai 2) (ai 3) (ai 5) (ai 11) (ai 4)) (rA 12) (rA 13), .arr hE (ai 7) (rA 14) (ai 8), iAr (ai 9) (iA 15) (ai 10)],
 [.f2 45 (ai 11) (.int 1), eLe (Zg (rA 14)) (.int 1000), eLe (ZbW (iA 15)) (.int 1000), eLe z0 (ai 0)] ++ okS (ai 7) (Zg (rA 14)) (ai 8) ++ okS (ai 9) (ZbW (iA 15)) (ai 10), [.int, .int, .int, .int], .tup [],
 [.cel (ai 0) 0 (hnS (ai 3) (ai 4) (ai 5) (ai 3) (ai 4) (ai 5) (ai 6) (.bool false) (ai 17) (SX.mk2 40 (Zg (rA 14)) (.int 1)) (ai 18) (ai 19) (SX.mk2 40 (ZbW (iA 15)) (.int 1)) (ai 20)), arC (Zbm (ai 3) (ai 5) (ai 3) (ai 5) z0 (ai 4)) (rA 13) (rA 13), .arr hE (ai 17) (.f2 121 (rA 14) (.f2 124 (cmR (ai 6) (SX.mk2 40 (ZbW (iA 15)) (.int 1))) Zfu)) (ai 18), iAr (ai 19) (.f2 119 (iA 15) (.f2 122 (ai 6) ZNy)) (ai 20)],
 [.f2 45 (ai 4) (Zg (rA 13)), eLe (Zg (rA 13)) (ai 5), eLe z0 (ai 17), eLe z0 (ai 19), eLe (SX.mk2 40 (Zg (rA 14)) (.int 1)) (ai 18), eLe (SX.mk2 40 (ZbW (iA 15)) (.int 1)) (ai 20)]⟩
def ZKg : Cx := { specs := [], anns := [(16, [(0, .ghost koC [])])] }
def Zva : SX := .f2 40 (.f1 30 (s 15)) (k 1)
def ZGr : SX := l z (a 18)
def ZDe : SX := .f2 40 (.f1 32 (r 14)) (k 1)
def ZHO : SX := l z (a 21)
def ZHj : SX := .f2 122 z (.f2 122 Zva (.f1 152 z))
def ZL6 : VC := i (e (a 11) (k 1)) (i (l (.f1 32 (r 14)) (k 1000)) (i (l (.f1 30 (s 15)) (k 1000)) (i (l z (a 0)) (i (l (.f1 32 (r 14)) (a 8)) (i (.f2 50 (l z (a 7)) (e (.f1 32 (r 14)) z)) (i (l (.f1 30 (s 15)) (a 10)) (i (.f2 50 (l z (a 9)) (e (.f1 30 (s 15)) z)) (i (e (a 4) (.f1 32 (r 13))) (i (l (.f1 32 (r 13)) (a 5)) (u 17 .int (i (l z (a 17)) (n (l (.f1 30 (s 15)) (.f1 30 (s 15))) (n (l (.f2 42 Zva (k 8)) k1) (u 18 .int (u 19 .int (i (l Zva (a 19)) (i (.f2 50 ZGr (e Zva z)) (n (l z Zva) (u 20 .int (i (l z (a 20)) (n (l (.f1 32 (r 14)) (.f1 32 (r 14))) (n (l (.f2 42 ZDe (k 64)) k1) (u 21 .int (u 22 .int (i (l ZDe (a 22)) (i (.f2 50 ZHO (e ZDe z)) (n ZHO (n ZGr (n (.f2 155 (.f2 121 (r 14) (.f2 124 (.f2 122 (k 5) (.f2 122 (a 6) (.f2 122 z (.f2 122 z ZHj)))) (.f1 154 z))) (.f2 121 (r 14) (.f2 124 (.f2 122 (k 5) (.f2 122 (a 6) (.f2 122 (.f1 35 (.byt [])) (.f2 122 (.f1 35 (.byt [])) ZHj)))) (.f1 154 z)))) .tt)))))))))))))))))))))))))))))
theorem ZKw : Zcl Try.prog ZKg 12 16 ZCn = ZL6 := by kernel_rfl
theorem ZNj (S : Sig GG) (hS : HnSig S) : ZR S Try.prog 16 ZCn := by
 refine Zo S (C := ZKg) (fuel := 12) (YV trivial ⟨⟨⟨by decide, ko_gh S hS⟩, trivial⟩, trivial⟩ trivial) fun ρ => ?_
 rw [ZKw]
 simp only [ZL6, Zva, ZGr, ZDe, ZHO, ZHj, ZY, ZN0, VC.den, SX.den, Env.upd, ZwX, beq_iff_eq, ZNS, beq_eq_false_iff_ne, ne_eq, ZNR, ZNQ, Int.reduceToNat, Nat.reduceEqDiff, reduceIte, sB]
 repeat' (first | exact trivial | apply And.intro | intro _)
 all_goals first
  | omega
  | rfl
  | assumption
end
end Go.Proofs.Ytidlngnhjffepaa
