/- JudgeSound answers true, and what was handed in stays as it is. No condition. -/
import Derived.Test.YtidlngnhjffepaaPq6
import Derived.Shelf.SlLaysF0
import Derived.Shelf.SlLaysC2
import Derived.Ground.SlsfProg
import Derived.Ground.SlgcProg
import Derived.Test.YtidlngnhjffepaaProg
import Derived.Shelf.SlSortCmp.NoneTotal
import Derived.Shelf.SlicesG.Cmp
import Derived.Test.YtidlngnhjffepaaPq4
import Derived.Deep.Slices
import Derived.Test.YtidlngnhjffepaaRows
import Derived.WalkKit
import Derived.ProofKit
import Derived.OpenShut
import Derived.JoinedCond
import Derived.Carry
set_option linter.unusedSimpArgs false
set_option linter.unusedVariables false
set_option maxRecDepth 20000
namespace Go.Proofs.Ytidlngnhjffepaa
noncomputable section
open Go.Eng
/-! ### Plain words -/
abbrev Stf := Int -> Bool × (List UInt8 × Bool)
def ZkZ (M : List (Int × Int)) : Stf := fun q => (Zt M q, vw (Yr 0 M q))
def Zzn (f : Stf) (ch : List (Int × Int)) : Stf := fun q => if Zt ch q = true then (true, vw (Yr 0 ch q)) else f q
def Zxg (RT : List (List Int)) (L : List Tx) (f : Stf) (P : List (List Int)) (t : Int) : Prop :=
 (∀ u ∈ P, okU RT L t u) /\ (YT RT L t).bad = [] /\ ∀ r ∈ (YT RT L t).rds, ZQ f (r.drop 1) = true
def Zqw (RT : List (List Int)) (L : List Tx) (f : Stf) (P : List (List Int)) (rec : Stf -> List (List Int) -> Option (List Int)) (j : Nat) : Option (List Int) :=
 if Zl (Zxg RT L f P (g0 (P.getD j []))) = true then (rec (Zzn f (YT RT L (g0 (P.getD j []))).ch) (P.eraseIdx j)).map ((YT RT L (g0 (P.getD j []))).who :: ·) else none
def Zqs (RT : List (List Int)) (L : List Tx) : Nat -> Stf -> List (List Int) -> Option (List Int)
 | 0, _, P => if P = [] then some [] else none
 | n + 1, f, P => if P = [] then some [] else (List.range P.length).findSome? fun j => Zqw RT L f P (Zqs RT L n) j
def Zk0 (RT : List (List Int)) (L : List Tx) (M : List (Int × Int)) (P : List (List Int)) : Option (List Int) := Zqs RT L P.length (ZkZ M) P
structure OuSig (S : Sig GG) : Prop where
 ft : OfSig S
 u640 : ∀ a b c d, S.usr 640 a b c d = .rows (a.tR.eraseIdx b.tI.toNat)
 u641 : ∀ a b c d, S.usr 641 a b c d = .ints ((Zk0 c.tR (ZE a) b.tM d.tR).getD [])
 u642 : ∀ a b c d, S.usr 642 a b c d = .bool (Zk0 c.tR (ZE a) b.tM d.tR).isSome
 u643 : ∀ a b c d, S.usr 643 a b c d = .bool (Zl (∀ j : Nat, (j : Int) < g0 (d.tR.getD 0 []) -> Zqw c.tR (ZE a) (ZkZ b.tM) (d.tR.drop 1) (Zqs c.tR (ZE a) ((d.tR.drop 1).length - 1)) j = none))
def trmC : Ctr := ⟨[.int, .int, .int, .rows, .int], [.one (slC (ai 0) (ai 1) (ai 2) 1)], [pAr (ai 0) (rA 3) (ai 4)], [eLe z0 (ai 1), eLe (ai 1) (Zk (rA 3))], [], .tup [], [pAr (ai 0) (tk (rA 3) (ai 1)) (ai 4)], []⟩
theorem ZEG {G : Type} (S : Sig G) : ZcQ S trmC := by
 refine ZaR S fun T w0 ρ h hu hp hd hr hpre => ⟨ρ, Ext.refl _ _, ?_, fun x hx => nomatch hx⟩
 have e1 : hpDen T ρ w0 trmC.pre = Zd (rAD pE (ρ 0).tI (ρ 3).tR (ρ 4).tI) emp := rfl
 have e2 : hpDen T ρ w0 trmC.post = Zd (rAD pE (ρ 0).tI ((ρ 3).tR.take (ρ 1).tI.toNat) (ρ 4).tI) emp := rfl
 rw [e1, Zi] at hpre
 rw [e2, Zi]
 obtain ⟨spare, h1, h2, h3, h4⟩ := hpre
 generalize (ρ 3).tR = R at *
 generalize (ρ 1).tI.toNat = n at *
 have hv : pE.vals (U.rows R : U Unit) = pE.vals (U.rows (R.take n) : U Unit) ++ pE.vals (U.rows (R.drop n) : U Unit) := by
  show R.flatMap _ = (R.take n).flatMap _ ++ (R.drop n).flatMap _
  rw [<- List.flatMap_append, List.take_append_drop]
 refine ⟨pE.vals (U.rows (R.drop n) : U Unit) ++ spare, ?_, h2, h3, ?_⟩
 ·rw [<- h1, hv]; simp only [ZGM]; omega
 ·rw [hv, ZG5] at h4; exact h4
def dlL : SX := SX.mk2 40 (ai 4) (SX.mk2 41 (Zk (rA 1)) (add1 (ai 4)))
def Ztp : Ctr := ⟨[.int, .rows, .int, .int, .int], [.one (slC (ai 0) (Zk (rA 1)) (ai 2) 1), .one (.int .i64 (ai 4)), .one (.int .i64 (add1 (ai 4)))], [pAr (ai 0) (rA 1) (ai 3)],
 [eLe z0 (ai 4), eLt (ai 4) (Zk (rA 1)), eLe (Zk (rA 1)) (ai 2), eLe dlL (ai 2), eLe (ai 2) (ai 3), eLe (Zk (rA 1)) (.int 1000)], [], .one (slC (ai 0) (SX.mk2 41 (Zk (rA 1)) (.int 1)) (ai 2) 1), [pAr (ai 0) (usR 640 (rA 1) (ai 4) z0) (ai 3)], []⟩
def ZFI : Cx := { specs := [], anns := [(47, [(7, .ghost trmC [.tmp 0])])] }
def ZjY : SX := .f2 40 (a 4) (k 1)
def ZsQ : SX := .f2 41 (.f1 32 (r 1)) ZjY
def Zde : SX := .f2 40 (a 4) ZsQ
def ZC7 : SX := e (a 4) ZjY
def ZCa : SX := wR 640 (r 1) (a 4)
def ZBw : SX := .f2 40 (.f1 32 (r 1)) (k (-1))
def ZwV : SX := .f2 41 (.f1 32 (r 1)) Zde
def ZCL : SX := .f2 40 Zde ZwV
def ZCc : SX := .f2 115 (r 1) (a 4)
def ZCt : SX := .f2 115 (.f2 118 (r 1) ZjY) ZsQ
def ZuY : SX := .f2 118 (r 1) Zde
def ZtK : SX := .f2 121 ZCc (.f2 121 ZCt ZuY)
def Zul : SX := .f2 115 ZtK Zde
def Zqx : SX := .f2 127 ZwV (.f2 122 (k (-1)) (.f1 152 z))
def Zu8 : SX := .f2 118 ZtK ZCL
def ZFi : VC := i (l z (a 4)) (i (t (a 4) (.f1 32 (r 1))) (i (l (.f1 32 (r 1)) (a 2)) (i (l Zde (a 2)) (i (l (a 2) (a 3)) (i (l (.f1 32 (r 1)) (k 1000)) (n (l z (a 2)) (n (l (a 4) ZjY) (n (l z ZjY) (n (l ZjY (.f1 32 (r 1))) (.and (i ZC7 (n (.f2 155 ZCa (r 1)) (n (e ZBw (.f1 32 (r 1))) .tt))) (i (.f1 2 ZC7) (n (l (a 4) (a 2)) (n (l (a 4) (.f1 32 (r 1))) (n (l Zde (a 3)) (n (l z ZsQ) (n (l ZsQ (.f2 41 (a 2) ZjY)) (n (l (.f2 40 Zde (k 1)) (.f1 32 (r 1))) (n (l z Zde) (n (l Zde (.f1 32 (r 1))) (n (l z ZwV) (n (l ZwV (.f2 41 (a 2) Zde)) (n (l ZCL (.f2 40 (.f1 32 ZCc) (.f2 40 (.f1 32 ZCt) (.f1 32 ZuY)))) (n (l Zde (.f2 40 (.f1 32 Zul) (.f2 40 (.f1 32 Zqx) (.f1 32 Zu8)))) (n (.f2 155 ZCa (.f2 115 (.f2 121 Zul (.f2 121 Zqx Zu8)) Zde)) (n (e ZBw Zde) .tt)))))))))))))))))))))))))
theorem ZFZ : Zb4 Try.prog ZFI 12 47 Ztp = ZFi := by kernel_rfl
theorem ZEU (S : Sig GG) (hS : OuSig S) : ZH S Try.prog 47 Ztp := by
 refine Zp S (C := ZFI) (fuel := 12) (Zab trivial ⟨⟨⟨by decide, ZEG S⟩, trivial⟩, trivial⟩ trivial) fun ρ => ?_
 rw [ZFZ]
 simp only [ZFi, ZjY, ZsQ, Zde, ZC7, ZCa, ZBw, ZwV, ZCL, ZCc, ZCt, ZuY, ZtK, Zul, Zqx, Zu8, hS.u640, ZT, ZGO, VC.den, SX.den, Env.upd, Y3, ZY, beq_iff_eq, ZGG, beq_eq_false_iff_ne, ne_eq, ZGF, ZGE, Int.reduceToNat, Nat.reduceEqDiff, reduceIte, sB]
 generalize (ρ 1).tR = R
 generalize (ρ 2).tI = c
 generalize (ρ 3).tI = c3
 intro h1 h2 h3 h4 h5 h6
 generalize (ρ 4).tI = i at *
 obtain ⟨n, rfl⟩ := ZGz h1
 have hn : n < R.length := by omega
 have e1 : ((n : Int) + 1).toNat = n + 1 := by omega
 have e2 : ((R.length : Int) - ((n : Int) + 1)).toNat = R.length - (n + 1) := by omega
 have e3 : ((n : Int) + ((R.length : Int) - ((n : Int) + 1))).toNat = R.length - 1 := by omega
 simp only [ZGO, e1, e2, e3, ZAQ, U.tRi, U.tIi] at *
 have l1 : (R.take n).length = n := by rw [ZGJ]; omega
 have l2 : ((R.drop (n + 1)).take (R.length - (n + 1))) = R.drop (n + 1) := ZGT (by rw [ZGV]; omega)
 have l3 : (R.drop (n + 1)).length = R.length - (n + 1) := ZGV
 have l4 : (R.drop (R.length - 1)).length = 1 := by rw [ZGV]; omega
 have l5 : (R.take n ++ (R.drop (n + 1) ++ R.drop (R.length - 1))).take (R.length - 1) = R.take n ++ R.drop (n + 1) := by
  rw [<- ZG5, List.take_left']
  rw [ZGM, l1, l3]; omega
 have l6 : (R.take n ++ R.drop (n + 1)).length = R.length - 1 := by rw [ZGM, l1, l3]; omega
 simp only [l2, l5]
 refine ⟨by omega, by omega, by omega, by omega, fun h => absurd h (by omega), fun _ => ⟨by omega, by omega, by omega, by omega, by omega, by omega, by omega, by omega, by omega, by omega, by rw [l1, l3, l4]; omega, ?_, ?_, by omega, trivial⟩⟩
 ·rw [l6]; omega
 ·rw [List.take_left' l6, List.eraseIdx_eq_take_drop_succ]
/-! ### Plain lemmas of the order -/
theorem ZBB (M : List (Int × Int)) : Zgt M (ZkZ M) := fun _ => ⟨rfl, rfl⟩
theorem Zy4 {M ch M' : List (Int × Int)} (h : ZsH M ch M') : ZkZ M' = Zzn (ZkZ M) ch := by
 funext q
 obtain ⟨a, b⟩ := h q
 unfold ZkZ Zzn
 by_cases hc : Zt ch q = true
 ·rw [if_pos hc] at b ⊢
  rw [a, hc, b, Bool.or_true]
 ·rw [if_neg hc] at b ⊢
  have : Zt ch q = false := by simpa using hc
  rw [a, this, b, Bool.or_false]
theorem Zzm (RT : List (List Int)) (L : List Tx) (M : List (Int × Int)) (P : List (List Int)) (t : Int) : ZDO ([t] :: P) RT M L ↔ Zxg RT L (ZkZ M) P t := by
 unfold ZDO Zxg
 simp only [Zls (ZBB M)]
 exact Iff.rfl
theorem ZpZ {α : Type} {f : Nat -> Option α} {n i : Nat} {a : α} (hi : i < n) (h0 : ∀ j < i, f j = none) (h1 : f i = some a) : (List.range n).findSome? f = some a := by
 induction n with
 | zero => omega
 | succ n ih =>
  rw [List.range_succ, List.findSome?_append]
  rcases ZGB i n with q | q
  ·rw [ih q]; rfl
  ·have : i = n := by omega
   subst this
   have : (List.range i).findSome? f = none := by
    rw [List.findSome?_eq_none_iff]
    intro j hj; exact h0 j (List.mem_range.1 hj)
   rw [this]; simp [h1]
theorem Zr7 {α : Type} {f : Nat -> Option α} {n : Nat} (h0 : ∀ j < n, f j = none) : (List.range n).findSome? f = none := by
 rw [List.findSome?_eq_none_iff]
 intro j hj; exact h0 j (List.mem_range.1 hj)
theorem ZyH (RT : List (List Int)) (L : List Tx) (M : List (Int × Int)) : Zk0 RT L M [] = some [] := rfl
theorem ZqA {RT : List (List Int)} {L : List Tx} {M : List (Int × Int)} {P : List (List Int)} (h : P ≠ []) : Zk0 RT L M P = (List.range P.length).findSome? fun j => Zqw RT L (ZkZ M) P (Zqs RT L (P.length - 1)) j := by
 unfold Zk0
 cases hl : P.length with
 | zero => exact absurd (ZGW hl) h
 | succ n =>
  show (if P = [] then _ else _) = _
  rw [if_neg h, hl]; rfl
theorem Zyo {RT : List (List Int)} {L : List Tx} {f : Stf} {P : List (List Int)} {rec : Stf -> List (List Int) -> Option (List Int)} {j : Nat} (h : ¬ Zxg RT L f P (g0 (P.getD j []))) : Zqw RT L f P rec j = none := by
 unfold Zqw; rw [if_neg (by rw [Zh]; exact h)]
theorem Zxv {RT : List (List Int)} {L : List Tx} {f : Stf} {P : List (List Int)} {rec : Stf -> List (List Int) -> Option (List Int)} {j : Nat} (h : Zxg RT L f P (g0 (P.getD j []))) :
  Zqw RT L f P rec j = (rec (Zzn f (YT RT L (g0 (P.getD j []))).ch) (P.eraseIdx j)).map ((YT RT L (g0 (P.getD j []))).who :: ·) := by
 unfold Zqw; rw [if_pos (by rw [Zh]; exact h)]
def orA : List Srt := [.int, .amap, .int, .rows, .int, .int, .rows, .g]
def orL : SX := .us .ints 641 (gA 7) (mA 1) (rA 6) (rA 3)
def orB : SX := .us .bool 642 (gA 7) (mA 1) (rA 6) (rA 3)
def Zcd (k : SX) : Ctr := ⟨orA, [.one (.map (ai 0)), .one (slC (ai 2) (Zk (rA 3)) (ai 4) 1)], [scC (ai 0) (mA 1), pAr (ai 2) (rA 3) (ai 5), txC (rA 6) (gA 7)],
 [eLe (.f2 40 (Zk (rA 3)) (.int 100)) k, eLe (Zk (rA 3)) (.int 1000), usB 560 (rA 3) (rA 6) z0, usB 621 (rA 3) z0 z0, usB 633 (gA 7) z0 z0, eLe (Zk (rA 3)) (ai 4), eLe (ai 4) (ai 5), eLe z0 (ai 0), .f2 50 (eLe z0 (ai 2)) (.f2 45 (Zk (rA 3)) z0)], [.int, .int, .bool],
 .tup [(false, [sl1 (ai 8) (Zdc orL) (ai 9)]), (false, [.bool (qA 10)])], [scC (ai 0) (mA 1), pAr (ai 2) (rA 3) (ai 5), txC (rA 6) (gA 7), iAr (ai 8) orL (ai 9)],
 [.f2 48 (qA 10) orB, eLe (Zdc orL) (ai 9), .f2 50 (eLe z0 (ai 8)) (.f2 45 (Zdc orL) z0), eLe (Zdc orL) (Zk (rA 3))]⟩
def ordI : Inv := ⟨[.int], [(16, .one (.int .i64 (di 0)))], [], [eLe z0 (di 0), eLe (di 0) (Zk (rA 3)), .us .bool 643 (gA 7) (mA 1) (rA 6) (ZaD (Zqv (di 0)) (rA 3))], .f2 41 (Zk (rA 3)) (di 0)⟩
def ZfN (k' : SX) : Cx := { specs := [(45, [Zwa]), (46, [Zj6]), (25, [ZkG]), (47, [Ztp]), (30, [Zcd k'])], anns := [(30, [(2, .ghost ZzR []), (4, .inv ordI), (8, .ghost Zpi [.tmp 7]), (500008, .ghost Zi0 [.tmp 7]), (11, .ghost Zpi [.tmp 7]), (500011, .ghost Zi0 [.tmp 7]), (13, .ghost ZzR [])])] }
def ZCl : SX := l z (a 2)
def Zr0 : SX := e (.f1 32 (r 3)) z
def ZBl : SX := .us .bool 642 (g 7) (m 1) (r 6) (r 3)
def ZxW : SX := .f2 48 (.bool true) ZBl
def ZqB : SX := .us .ints 641 (g 7) (m 1) (r 6) (r 3)
def Zj4 : SX := .f1 30 ZqB
def ZAH : SX := l Zj4 z
def ZpK : SX := e Zj4 z
def ZBx : SX := .f2 50 (.bool false) ZpK
def ZrJ : SX := l Zj4 (.f1 32 (r 3))
def ZvV : SX := .f2 155 ZqB (.f1 152 z)
def Zi5 : SX := .f3 112 (r 3) (a 8) z
def Zgy : SX := .f2 40 (a 8) (k 1)
def Zo1 : SX := .f1 23 Zgy
def ZoC : SX := .f2 41 (.f1 32 (r 3)) Zgy
def Znk : SX := l z ZoC
def ZoW : SX := t ZoC (.f2 41 (.f1 32 (r 3)) (a 8))
def ZnA : SX := l z Zgy
def Zo8 : SX := l Zgy (.f1 32 (r 3))
def Zpw : SX := .us .bool 643 (g 7) (m 1) (r 6) (.f2 124 (.f2 122 Zgy (.f1 152 z)) (r 3))
def Zbp : SX := d 566 (r 6) Zi5
def Zui : SX := .f3 112 (r 6) Zbp z
def Znv : SX := e Zi5 Zui
def ZwL : SX := v 552 (g 7)
def Zno : SX := t Zbp ZwL
def Zt9 : SX := .f1 32 (wR 545 (g 7) Zbp)
def Znz : SX := l Zt9 (.f3 112 (r 6) Zbp (k 3))
def Zuk : SX := .f1 30 (wN 546 (g 7) Zbp)
def Znn : SX := l Zuk (.f3 112 (r 6) Zbp (k 5))
def Zoj : SX := .f2 50 (l z (.f3 112 (r 6) Zbp (k 2))) (e Zt9 z)
def Zop : SX := .f2 50 (l z (.f3 112 (r 6) Zbp (k 4))) (e Zuk z)
def ZoG : SX := l z (.f3 112 (r 6) Zbp (k 1))
def Zpc : SX := l z Zui
def Zn7 : SX := e (.f1 32 (r 6)) ZwL
def ZhD : SX := wR 640 (.f1 154 z) (a 8)
def ZfM : SX := .f1 32 ZhD
def ZsD : SX := .us .ints 641 (g 7) (m 11) (r 6) ZhD
def ZfJ : SX := .f1 30 ZsD
def Zrp : SX := l z (a 12)
def ZrG : SX := l z (a 15)
def Zkw : SX := .f2 40 ZfJ (k 1)
def Ztt : SX := l z (a 16)
def Zrs : SX := d 540 (g 7) Zbp
def Zv6 : SX := l z (a 13)
def Zhe : SX := wR 640 (r 3) (a 8)
def Zgp : SX := .f1 32 Zhe
def Zwu : SX := .us .ints 641 (g 7) (m 11) (r 6) Zhe
def Zgq : SX := .f1 30 Zwu
def ZjC : SX := .f2 40 Zgq (k 1)
def Zrz : SX := l z (a 19)
def ZeW (k k' : SX) : VC := (.imp (.f2 47 (.f2 40 (.f1 32 (.at .rows 3)) (.int 100)) k) (.imp (.f2 47 (.f1 32 (.at .rows 3)) (.int 1000)) (.imp (.us .bool 560 (.at .rows 3) (.at .rows 6) 
  (.int 0) (.int 0)) (.imp (.us .bool 621 (.at .rows 3) (.int 0) (.int 0) (.int 0)) (.imp (.us .bool 633 (.at .g 7) (.int 0) (.int 0) (.int 0)) (.imp 
  (.f2 47 (.f1 32 (.at .rows 3)) (.at .int 4)) (.imp (.f2 47 (.at .int 4) (.at .int 5)) (.imp (.f2 47 (.int 0) (.at .int 0)) (.imp (.f2 50 ZCl Zr0) 
  (.and (.imp Zr0 (.need ZxW (.need ZAH (.need ZBx (.need ZrJ (.need ZvV (.need ZpK (.tt)))))))) (.imp (.f1 2 Zr0) (.need (.us .bool 
  643 (.at .g 7) (.at .amap 1) (.at .rows 6) (.f2 124 (.f2 122 (.int 0) (.f1 152 (.int 0))) (.at .rows 3))) (.all 8 .int (.imp (.f2 47 (.int 0) (.at 
  .int 8)) (.imp (.f2 47 (.at .int 8) (.f1 32 (.at .rows 3))) (.imp (.us .bool 643 (.at .g 7) (.at .amap 1) (.at .rows 6) (.f2 124 (.f2 122 (.at .int 8) 
  (.f1 152 (.int 0))) (.at .rows 3))) (.and (.imp (.f2 46 (.at .int 8) (.f1 32 (.at .rows 3))) (.need (.us .bool 565 (.at .rows 6) Zi5 (.int 0) (.int 
  0)) (.all 9 .bool (.imp (.f2 48 (.at .bool 9) (.us .bool 631 (.f2 124 (.f2 122 Zi5 (.f1 152 (.int 0))) (.at .rows 3)) (.at .rows 6) (.at .amap 1) 
  (.at .g 7))) (.and (.imp (.f1 2 (.at .bool 9)) (.need Zo1 (.need Znk (.need ZoW (.need ZnA (.need Zo8 (.need Zpw (.tt)))))))) (.imp 
  (.f1 2 (.f1 2 (.at .bool 9))) (.all 10 .int (.imp (.f2 47 (.int 0) (.at .int 10)) (.imp Znv (.imp Zno (.imp Znz (.imp Znn (.imp Zoj 
  (.imp Zop (.imp ZoG (.imp Zpc (.imp Zn7 (.all 11 .amap (.imp (.us .bool 531 (.at .amap 1) (.us .amap 544 (.at .g 7) Zbp (.int 0) (.int 
  0)) (.at .amap 11) (.int 0)) (.need (.f2 47 (.int 0) Zbp) (.and (.imp (.f2 46 (.at .int 2) (.int 0)) (.need Zo1 (.need (.f2 46 (.at .int 8) 
  (.int 0)) (.need (.f2 47 (.f2 40 (.at .int 8) (.f2 41 (.int 0) Zgy)) (.int 0)) (.need (.f2 47 (.f2 40 ZfM (.int 100)) k') (.need (.f2 47 ZfM (.int 1000)) 
  (.need (.us .bool 560 ZhD (.at .rows 6) (.int 0) (.int 0)) (.need (.us .bool 621 ZhD (.int 0) (.int 0) (.int 0)) (.need (.f2 47 ZfM (.int 0)) 
  (.need (.f2 50 (.bool false) (.f2 45 ZfM (.int 0))) (.need (.f2 45 ZfM (.int (-1))) (.all 12 .int (.all 13 .int (.all 14 .bool (.imp (.f2 48 
  (.at .bool 14) (.us .bool 642 (.at .g 7) (.at .amap 11) (.at .rows 6) ZhD)) (.imp (.f2 47 ZfJ (.at .int 13)) (.imp (.f2 50 Zrp (.f2 45 ZfJ 
  (.int 0))) (.imp (.f2 47 ZfJ ZfM) (.and (.imp (.at .bool 14) (.imp Znv (.imp Zno (.imp Znz (.imp Znn (.imp Zoj (.imp Zop (.imp 
  ZoG (.imp Zpc (.imp Zn7 (.all 15 .int (.imp ZrG (.need (.f2 47 (.f2 42 Zkw (.int 8)) (.int 140737488355328)) (.need (.f2 47 ZfJ 
  ZfJ) (.all 16 .int (.all 17 .int (.imp (.f2 47 Zkw (.at .int 17)) (.imp (.f2 50 Ztt (.f2 45 Zkw (.int 0))) (.need ZxW (.need (.f2 47 
  Zj4 (.at .int 17)) (.need (.f2 50 Ztt ZpK) (.need ZrJ (.need (.f2 155 ZqB (.f2 122 Zrs ZsD)) (.need (.f2 45 Zj4 Zkw) 
  (.tt))))))))))))))))))))))))) (.imp (.f1 2 (.at .bool 14)) (.need Znk (.need ZoW (.need ZnA (.need Zo8 (.need Zpw 
  (.tt)))))))))))))))))))))))))) (.imp ZCl (.all 12 .int (.imp Zrp (.need (.f2 47 (.f2 42 (.f1 32 (.at .rows 3)) (.int 8)) (.int 140737488355328)) 
  (.need (.f2 47 (.f1 32 (.at .rows 3)) (.f1 32 (.at .rows 3))) (.all 13 .int (.all 14 .int (.imp (.f2 47 (.f1 32 (.at .rows 3)) (.at .int 14)) (.imp 
  (.f2 50 Zv6 Zr0) (.need Zo1 (.need (.f2 47 (.f2 40 (.at .int 8) ZoC) (.at .int 14)) (.need (.f2 47 (.at .int 14) (.at .int 14)) (.need (.f2 47 (.f2 40 Zgp (.int 100)) k') (.need (.f2 47 Zgp (.int 1000)) (.need (.us .bool 560 Zhe (.at .rows 6) (.int 0) (.int 0)) (.need (.us .bool 621 Zhe 
  (.int 0) (.int 0) (.int 0)) (.need (.f2 47 Zgp (.at .int 14)) (.need (.f2 50 Zv6 (.f2 45 Zgp (.int 0))) (.need (.f2 45 Zgp (.f2 40 (.f1 32 
  (.at .rows 3)) (.int (-1)))) (.all 15 .int (.all 16 .int (.all 17 .bool (.imp (.f2 48 (.at .bool 17) (.us .bool 642 (.at .g 7) (.at .amap 11) (.at 
  .rows 6) Zhe)) (.imp (.f2 47 Zgq (.at .int 16)) (.imp (.f2 50 ZrG (.f2 45 Zgq (.int 0))) (.imp (.f2 47 Zgq Zgp) (.and (.imp (.at 
  .bool 17) (.imp Znv (.imp Zno (.imp Znz (.imp Znn (.imp Zoj (.imp Zop (.imp ZoG (.imp Zpc (.imp Zn7 (.all 18 .int (.imp 
  (.f2 47 (.int 0) (.at .int 18)) (.need (.f2 47 (.f2 42 ZjC (.int 8)) (.int 140737488355328)) (.need (.f2 47 Zgq Zgq) (.all 19 .int (.all 20 
  .int (.imp (.f2 47 ZjC (.at .int 20)) (.imp (.f2 50 Zrz (.f2 45 ZjC (.int 0))) (.need ZxW (.need (.f2 47 Zj4 (.at .int 20)) (.need (.f2 
  50 Zrz ZpK) (.need ZrJ (.need (.f2 155 ZqB (.f2 122 Zrs Zwu)) (.need (.f2 45 Zj4 ZjC) (.tt))))))))))))))))))))))))) (.imp (.f1 2 
  (.at .bool 17)) (.need Znk (.need ZoW (.need ZnA (.need Zo8 (.need Zpw (.tt))))))))))))))))))))))))))))))))))))))))))))))))))))))) 
  (.imp (.f2 47 (.f1 32 (.at .rows 3)) (.at .int 8)) (.need (.f2 48 (.bool false) ZBl) (.need ZAH (.need ZBx (.need ZrJ (.need ZvV (.need 
  ZpK (.tt)))))))))))))))))))))))))
theorem ZCZ : Zb4 Try.prog (ZfN (.int 99)) 12 30 (Zcd (.int 100)) = ZeW (.int 100) (.int 99) := by kernel_rfl
theorem ZCC : Zb4 Try.prog (ZfN (.int 100)) 12 30 (Zcd (.int 101)) = ZeW (.int 101) (.int 100) := by kernel_rfl
theorem ZA7 : Zb4 Try.prog (ZfN (.int 101)) 12 30 (Zcd (.int 102)) = ZeW (.int 102) (.int 101) := by kernel_rfl
theorem ZAx : Zb4 Try.prog (ZfN (.int 102)) 12 30 (Zcd (.int 103)) = ZeW (.int 103) (.int 102) := by kernel_rfl
theorem ZAW : Zb4 Try.prog (ZfN (.int 103)) 12 30 (Zcd (.int 104)) = ZeW (.int 104) (.int 103) := by kernel_rfl
theorem ZC1 : Zb4 Try.prog (ZfN (.int 104)) 12 30 (Zcd (.int 105)) = ZeW (.int 105) (.int 104) := by kernel_rfl
theorem ZAF : Zb4 Try.prog (ZfN (.int 105)) 12 30 (Zcd (.int 106)) = ZeW (.int 106) (.int 105) := by kernel_rfl
theorem ZBV : Zb4 Try.prog (ZfN (.int 106)) 12 30 (Zcd (.int 107)) = ZeW (.int 107) (.int 106) := by kernel_rfl
theorem Zz1 : Zb4 Try.prog (ZfN (.int 107)) 12 30 (Zcd (.int 108)) = ZeW (.int 108) (.int 107) := by kernel_rfl
theorem ZBg (S : Sig GG) (hS : OuSig S) (k : Int) (ρ : Go.Eng.Env GG) : (ZeW (.int k) (.int (k - 1))).den S ρ := by
 simp only [ZeW, ZCl, Zr0, ZBl, ZxW, ZqB, Zj4, ZAH, ZpK, ZBx, ZrJ, ZvV, Zi5, Zgy, Zo1, ZoC, Znk, ZoW, ZnA, Zo8, Zpw, Zbp, Zui, Znv, ZwL, Zno, Zt9, Znz, Zuk, Znn, Zoj, Zop, ZoG, Zpc, Zn7, ZhD, ZfM, ZsD, ZfJ, Zrp, ZrG, Zkw, Ztt, Zrs, Zv6, Zhe, Zgp, Zwu, Zgq, ZjC, Zrz, hS.ft.od.fi.js.jt.jb.u531, hS.ft.od.fi.js.jt.u540, hS.ft.od.fi.js.jt.u544, hS.ft.od.fi.js.jt.u545, hS.ft.od.fi.js.jt.u546, hS.ft.od.fi.js.jt.u552, hS.ft.od.fi.js.jt.u560, hS.ft.od.fi.js.jt.u565, hS.ft.od.fi.js.jt.u566, hS.ft.od.u621, hS.ft.u631, hS.ft.u633, hS.u640, hS.u641, hS.u642, hS.u643, ZT, ZGO, VC.den, SX.den, Env.upd, Y3, ZY, beq_iff_eq, ZGG, beq_eq_false_iff_ne, ne_eq, ZGF, ZGE, Int.reduceToNat, Nat.reduceEqDiff, reduceIte, sB]
 generalize (ρ 3).tR = P
 generalize (ρ 6).tR = RT
 generalize (ρ 1).tM = M
 generalize ZE (U.co S Srt.g (ρ 7)) = L
 generalize (ρ 0).tI = c0
 generalize (ρ 2).tI = c2
 generalize (ρ 4).tI = c4
 generalize (ρ 5).tI = c5
 intro h1 h2 h3 h4 h5 h6 h7 h8 h9
 have hdr : ∀ x : Int, List.drop 1 ([x] :: P) = P := fun _ => rfl
 have hg : ∀ x : Int, g0 (([x] :: P).getD 0 []) = x := fun _ => rfl
 simp only [hdr, hg]
 refine ⟨fun hz => ?_, fun hz => ⟨fun j hj => absurd hj (by omega), fun i i0 i1 g1 => ?_⟩⟩
 ·have hp : P = [] := ZGW (by omega)
  subst hp
  rw [ZyH]
  exact ⟨rfl, ZGS _, .inr rfl, ZGS _, rfl, rfl, trivial⟩
 ·have hne : P ≠ [] := fun h => hz (by rw [h]; rfl)
  have hs := ZqA (RT := RT) (L := L) (M := M) hne
  obtain ⟨n, rfl⟩ := ZGz i0
  simp only [ZGO]
  have step : Zqw RT L (ZkZ M) P (Zqs RT L (P.length - 1)) n = none -> ∀ j : Nat, (j : Int) < (n : Int) + 1 -> Zqw RT L (ZkZ M) P (Zqs RT L (P.length - 1)) j = none := fun ho j hj => by
   rcases ZGB j n with q | q
   ·exact g1 j (by omega)
   ·have : j = n := by omega
    subst this; exact ho
  refine ⟨fun hn => ?_, fun hn => ?_⟩
  ·have hn2 : n < P.length := by omega
   have hmem : P.getD n [] ∈ P := by rw [ZGH, ZGK hn2]; exact ZG4 _
   obtain ⟨t, ht, hbl⟩ := h3 _ hmem
   have ht2 : (P.getD n []).getD 0 0 = t := by rw [ht]; rfl
   have hg0 : g0 (P.getD n []) = t := ht2
   simp only [ht2]
   have hlen : (P.eraseIdx n).length = P.length - 1 := List.length_eraseIdx_of_lt hn2
   refine ⟨hbl, fun v hv => ⟨fun hno => ⟨⟨by omega, by omega⟩, by omega, by omega, by omega, by omega, step ?_, trivial⟩, fun hyes => ?_⟩⟩
   ·refine Zyo fun hf => ?_
    rw [hg0] at hf
    have := Zy ((Zzm RT L M P t).2 hf)
    rw [<- hv, hno] at this
    cases this
   ·have hfit : Zxg RT L (ZkZ M) P (g0 (P.getD n [])) := by rw [hg0]; exact (Zzm RT L M P t).1 (Zh.mp (hv.symm.trans hyes))
    have hT := Zxv (rec := Zqs RT L (P.length - 1)) hfit
    rw [hg0] at hT
    intro c _ _ _ _ _ _ _ _ _ _ M2 hM2
    have hT2 : Zqw RT L (ZkZ M) P (Zqs RT L (P.length - 1)) n = (Zk0 RT L M2 (P.eraseIdx n)).map ((YT RT L t).who :: ·) := by
     rw [hT]; unfold Zk0; rw [hlen, Zy4 hM2]; rfl
    refine ⟨by omega, fun hc => absurd (h9.resolve_left (by omega)) (by omega), fun hc _ _ => ⟨by omega, by omega, fun b r hr hb => ⟨⟨by omega, by omega⟩, by omega, by omega, by omega, by omega, fun u hu => h3 u (List.mem_of_mem_eraseIdx hu), ?_, by omega, by omega, by omega, fun b2 r2 w hw q1 q2 q3 => ⟨fun hy => ?_, fun hn => ⟨by omega, by omega, by omega, by omega, step ?_, trivial⟩⟩⟩⟩⟩
    ·exact List.Nodup.sublist (List.Sublist.map g0 (List.eraseIdx_sublist P n)) h4
    ·have hyy : (Zk0 RT L M2 (P.eraseIdx n)).isSome = true := by rw [<- hw]; exact hy
     obtain ⟨l, hl⟩ := Option.isSome_iff_exists.1 hyy
     have hall : Zk0 RT L M P = some ((YT RT L t).who :: l) := by
      rw [hs]; exact ZpZ (i := n) hn2 (fun j hj => g1 j (by omega)) (by rw [hT2, hl]; rfl)
     rw [hall]
     rw [hl] at q1 q2 q3 ⊢
     have hl1 : (((YT RT L t).who :: l).length : Int) = (l.length : Int) + 1 := by rw [ZG1]; rfl
     simp only [ZGC, Option.isSome_some, hl1] at q1 q2 q3 ⊢
     intro _ _ _ _ _ _ _ _ _ c3 _
     exact ⟨by omega, by omega, fun b3 r3 y1 y2 => ⟨trivial, y1, y2, by omega, rfl, trivial, trivial⟩⟩
    ·rw [hT2]
     have : (Zk0 RT L M2 (P.eraseIdx n)).isSome = false := by rw [<- hw]; exact hn
     have hn0 : Zk0 RT L M2 (P.eraseIdx n) = none := Option.isNone_iff_eq_none.1 (by rw [<- Option.not_isSome, this]; rfl)
     rw [hn0]; rfl
  ·have : Zk0 RT L M P = none := by rw [hs]; exact Zr7 fun j hj => g1 j (by omega)
   rw [this]
   exact ⟨rfl, ZGS _, .inr rfl, Int.natCast_nonneg _, rfl, rfl, trivial⟩
theorem ZFt {G : Type} (S : Sig G) (P : Program) (f : FuncId) : ZH S P f (Zcd (.int 99)) := by
 intro ch w0 F ρ w xs hx hq hsat
 exfalso
 have h1 := hq (eLe (.f2 40 (Zk (rA 3)) (.int 100)) (.int 99)) (by simp [Zcd])
 rw [Ze] at h1
 simp only [SX.den, Zzp, YB, Zk, U.tIi] at h1
 omega
theorem ZbH (S : Sig GG) (hS : OuSig S) {k k' : Int} (hk : k' = k - 1) (hv : Zb4 Try.prog (ZfN (.int k')) 12 30 (Zcd (.int k)) = ZeW (.int k) (.int k'))
  (h : ZH S Try.prog 30 (Zcd (.int k'))) : ZH S Try.prog 30 (Zcd (.int k)) := by
 subst hk
 refine Zp S (C := ZfN (.int (k - 1))) (fuel := 12) (Zab ⟨Zm (by decide) (ZFC S hS.ft), Zm (by decide) (ZF1 S), Zm (by decide) (Zt2 S hS.ft.od.fi.js.jt.jb), Zm (by decide) (ZEU S hS), Zm rfl h, trivial⟩ ⟨⟨⟨by decide, ZkF S⟩, trivial, ⟨by decide, Zcs S hS.ft.od.fi.js.jt⟩, ⟨by decide, Zcg S hS.ft.od.fi.js.jt⟩, ⟨by decide, Zcs S hS.ft.od.fi.js.jt⟩, ⟨by decide, Zcg S hS.ft.od.fi.js.jt⟩, ⟨by decide, ZkF S⟩, trivial⟩, trivial⟩ trivial) fun ρ => ?_
 rw [hv]
 exact ZBg S hS k ρ
theorem ZEh (S : Sig GG) (hS : OuSig S) : ZH S Try.prog 30 (Zcd (.int 108)) :=
 ZbH S hS rfl Zz1 <| ZbH S hS rfl ZBV <| ZbH S hS rfl ZAF <| ZbH S hS rfl ZC1 <| ZbH S hS rfl ZAW <| ZbH S hS rfl ZAx <| ZbH S hS rfl ZA7 <| ZbH S hS rfl ZCC <| ZbH S hS rfl ZCZ <| ZFt S _ _
/-! ### Plain words -/
def Zxt : List Int -> Int -> List Int
 | [], k => [k]
 | a :: l, k => if a < k then a :: Zxt l k else k :: a :: l
def ZkI (l : List Int) : Nat -> List Int
 | 0 => []
 | n + 1 => Zxt (ZkI l n) (l.getD n 0)
def ZFG (x : List Ent) (asg : List Int) (w : Int) (n : Int) : Prop := ∀ j : Nat, (j : Int) < n -> xk (xa x j) = 5 -> xw (xa x j) ∈ asg
def ZEJ (x : List Ent) (asg : List Int) (w : Int) (n : Int) : Prop := ∀ j : Nat, (j : Int) < n -> xk (xa x j) = 2 -> xw (xa x j) = w -> (Zdd x j asg).1 = true
def Zju (x : List Ent) (asg : List Int) (w : Int) : Prop := ZFG x asg w (ZA x 1 w x.length) /\ ZEJ x asg w x.length /\ w ∉ asg
def Zqu (x : List Ent) (all asg : List Int) (rec : List Int -> Option (List Int)) (j : Nat) : Option (List Int) := if Zl (Zju x asg (all.getD j 0)) = true then rec (asg ++ [all.getD j 0]) else none
def ZhB (x : List Ent) (all : List Int) : Nat -> List Int -> Option (List Int)
 | 0, asg => if asg.length = all.length then some asg else none
 | n + 1, asg => if asg.length = all.length then some asg else (List.range all.length).findSome? fun j => Zqu x all asg (ZhB x all n) j
def ZmD (x : List Ent) (all asg : List Int) : Option (List Int) := ZhB x all (all.length - asg.length) asg
def orE (x : List Ent) : Int := if ZaA x ≠ 0 then ZaA x else if 0 <= (ZaB x x.length).1 then 280 else if 8 < (Zv x x.length).length then 2 else 0
def orS (x : List Ent) : Option (List Int) := if orE x = 0 then ZmD x (ZkI (Zv x x.length) (Zv x x.length).length) [] else none
structure OrSig (S : Sig GG) : Prop where
 ou : OuSig S
 u650 : ∀ a b c d, S.usr 650 a b c d = .ints (ZkI a.tN b.tI.toNat)
 u651 : ∀ a b c d, S.usr 651 a b c d = .bool (Zl (∀ j : Nat, (j : Int) < c.tI -> a.tN.getD j 0 < b.tI))
 u652 : ∀ a b c d, S.usr 652 a b c d = .bool (Zl (b.tI ∈ a.tN))
 u653 : ∀ a b c d, S.usr 653 a b c d = .bool (Zl (∀ j : Nat, (j : Int) < c.tI -> a.tN.getD j 0 ≠ b.tI))
 u654 : ∀ a b c d, S.usr 654 a b c d = .bool (Zl (Zju a.tR b.tN c.tI))
 u655 : ∀ a b c d, S.usr 655 a b c d = .bool (Zl (ZFG a.tR b.tN c.tI d.tI))
 u656 : ∀ a b c d, S.usr 656 a b c d = .bool (Zl (ZEJ a.tR b.tN c.tI d.tI))
 u657 : ∀ a b c d, S.usr 657 a b c d = .ints ((ZmD a.tR b.tN c.tN).getD [])
 u658 : ∀ a b c d, S.usr 658 a b c d = .bool (ZmD a.tR b.tN c.tN).isSome
 u659 : ∀ a b c d, S.usr 659 a b c d = .bool (Zl (∀ j : Nat, (j : Int) < d.tI -> Zqu a.tR b.tN c.tN (ZhB a.tR b.tN (b.tN.length - c.tN.length - 1)) j = none))
 u660 : ∀ a b c d, S.usr 660 a b c d = .ints ((orS a.tR).getD [])
 u661 : ∀ a b c d, S.usr 661 a b c d = .bool (orS a.tR).isSome
 u662 : ∀ a b c d, S.usr 662 a b c d = .int (orE a.tR)
/-! ### Plain lemmas -/
theorem ZoK (k : Int) : ∀ l : List Int, (Zxt l k).length = l.length + 1
 | [] => rfl
 | a :: l => by
  unfold Zxt
  split
  ·rw [ZG1, ZoK k l, ZG1]
  ·rfl
theorem ZdT (l : List Int) : ∀ n, (ZkI l n).length = n
 | 0 => rfl
 | n + 1 => by show (Zxt _ _).length = _; rw [ZoK, ZdT l n]
theorem Zik (x : List Ent) (all : List Int) : ∀ (n : Nat) (asg l : List Int), ZhB x all n asg = some l -> l.length = all.length
 | 0, asg, l, h => by
  unfold ZhB at h
  split at h
  ·rename_i e; cases h; exact e
  ·cases h
 | n + 1, asg, l, h => by
  unfold ZhB at h
  split at h
  ·rename_i e; cases h; exact e
  ·obtain ⟨j, hj, h⟩ := List.exists_of_findSome?_eq_some h
   unfold Zqu at h
   split at h
   ·exact Zik x all n _ _ h
   ·cases h
theorem ZyM (x : List Ent) (all asg : List Int) (h : asg.length <= all.length) : ((ZmD x all asg).getD []).length <= all.length := by
 cases e : ZmD x all asg with
 | none => exact Nat.zero_le _
 | some l => exact Nat.le_of_eq (Zik x all _ _ _ e)
theorem Zw5 (x : List Ent) : ∀ n, (Zv x n).length <= n
 | 0 => ZGx _
 | n + 1 => by
  have ih := Zw5 x n
  rw [Yi]
  split
  ·rw [ZGM, ZGv]; omega
  ·omega
/-! ### Lists -/
theorem ZnP {β : Type} (F : Int -> Option β) : ∀ l : List Int, (List.range l.length).findSome? (fun j => F (l.getD j 0)) = l.findSome? F
 | [] => rfl
 | a :: l => by
  have ih := ZnP F l
  rw [ZG1, List.range_succ_eq_map, List.findSome?_cons, List.findSome?_map, List.findSome?_cons]
  show (match F a with | some b => some b | none => (List.range l.length).findSome? (fun j => F (l.getD j 0))) = _
  rw [ih]; cases F a <;> rfl
theorem Zjm {β : Type} (F : List Int -> Option β) : ∀ l : List (List Int), (List.range l.length).findSome? (fun j => F (l.getD j [])) = l.findSome? F
 | [] => rfl
 | a :: l => by
  have ih := Zjm F l
  rw [ZG1, List.range_succ_eq_map, List.findSome?_cons, List.findSome?_map, List.findSome?_cons]
  show (match F a with | some b => some b | none => (List.range l.length).findSome? (fun j => F (l.getD j []))) = _
  rw [ih]; cases F a <;> rfl
theorem Zkp {α β : Type} {F : α -> Option β} {p : α -> Bool} : ∀ {l : List α}, (∀ a ∈ l, p a = false -> F a = none) -> (l.filter p).findSome? F = l.findSome? F
 | [], _ => rfl
 | a :: l, h => by
  have ih := Zkp (l := l) fun b hb => h b (ZGN _ hb)
  cases hp : p a
  ·rw [List.filter_cons_of_neg (by rw [hp]; exact Bool.false_ne_true), ih, List.findSome?_cons, h a ZGP hp]
  ·rw [List.filter_cons_of_pos hp, List.findSome?_cons, List.findSome?_cons, ih]
theorem Zps {α β γ : Type} (h : β -> γ) (F : α -> Option β) : ∀ l : List α, (l.findSome? F).map h = l.findSome? fun a => (F a).map h
 | [] => rfl
 | a :: l => by
  rw [List.findSome?_cons, List.findSome?_cons]
  cases F a with
  | none => exact Zps h F l
  | some b => rfl
theorem ZgS {α β : Type} {F G : α -> Option β} : ∀ {l : List α}, (∀ a ∈ l, F a = G a) -> l.findSome? F = l.findSome? G
 | [], _ => rfl
 | a :: l, h => by
  rw [List.findSome?_cons, List.findSome?_cons, h a ZGP, ZgS (l := l) fun b hb => h b (ZGN _ hb)]
theorem Zow : ∀ {l : List Int} {i : Nat}, l.Nodup -> i < l.length -> l.eraseIdx i = l.filter fun a => !(a == l.getD i 0)
 | [], i, _, h => absurd h (Nat.not_lt_zero i)
 | a :: l, 0, hn, _ => by
  rw [List.nodup_cons] at hn
  show l = (a :: l).filter fun b => !(b == a)
  rw [List.filter_cons_of_neg (by simp)]
  exact (List.filter_eq_self.2 fun b hb => by
   have : b ≠ a := fun e => hn.1 (by rw [<- e]; exact hb)
   simpa using this).symm
 | a :: l, i + 1, hn, h => by
  rw [List.nodup_cons] at hn
  have hi : i < l.length := by simpa using h
  show a :: l.eraseIdx i = (a :: l).filter fun b => !(b == l.getD i 0)
  have ha : a ≠ l.getD i 0 := fun e => hn.1 (by rw [e, ZGH, ZGK hi]; exact ZG4 _)
  rw [List.filter_cons_of_pos (by simpa using ha), Zow hn.2 hi]
theorem Zjg {α β : Type} (f : α -> β) : ∀ (l : List α) (i : Nat), (l.eraseIdx i).map f = (l.map f).eraseIdx i
 | [], i => rfl
 | a :: l, 0 => rfl
 | a :: l, i + 1 => by show f a :: (l.eraseIdx i).map f = f a :: (l.map f).eraseIdx i; rw [Zjg f l i]
/-! ### The numbers, rising -/
theorem Zfk (k : Int) : ∀ l : List Int, (Zxt l k).Perm (k :: l)
 | [] => List.Perm.refl _
 | a :: l => by
  unfold Zxt
  split
  ·exact ((Zfk k l).cons a).trans (List.Perm.swap k a l)
  ·exact List.Perm.refl _
theorem ZnM (k : Int) : ∀ {l : List Int}, (l.Pairwise fun a b => a <= b) -> (Zxt l k).Pairwise fun a b => a <= b
 | [], _ => List.pairwise_singleton _ _
 | a :: l, h => by
  rw [List.pairwise_cons] at h
  unfold Zxt
  split
  ·rename_i q
   refine List.pairwise_cons.2 ⟨fun b hb => ?_, ZnM k h.2⟩
   rcases List.mem_cons.1 ((Zfk k l).mem_iff.1 hb) with rfl | hb
   ·omega
   ·exact h.1 b hb
  ·rename_i q
   refine List.pairwise_cons.2 ⟨fun b hb => ?_, List.pairwise_cons.2 h⟩
   rcases List.mem_cons.1 hb with rfl | hb
   ·omega
   ·have := h.1 b hb; omega
theorem Zpa (l : List Int) : ∀ n, (ZkI l n).Pairwise fun a b => a <= b
 | 0 => List.Pairwise.nil
 | n + 1 => ZnM _ (Zpa l n)
theorem ZdQ (l : List Int) : ∀ n ≤ l.length, (ZkI l n).Perm (l.take n)
 | 0, _ => List.Perm.refl _
 | n + 1, h => by
  refine (Zfk _ _).trans (((ZdQ l n (by omega)).cons _).trans ?_)
  rw [List.take_add_one, ZGH, ZGK (by omega)]
  exact List.perm_append_comm (l₁ := [l[n]])
/-! ### Transactions -/
theorem Zzu {x : List Ent} {w : Int} : ∀ {n : Nat}, NF x n -> 0 <= ZA x 1 w n -> (txN x w n).beg = ZA x 1 w n
 | 0, _, h => absurd h (by show ¬ (0 : Int) <= -1; omega)
 | n + 1, hn, h => by
  obtain ⟨hp, ho, _, _⟩ := hn.pred
  rw [Zbd]
  by_cases h1 : xk (xa x n) = 1 /\ xw (xa x n) = w
  ·rw [ZcN, if_pos h1.1, h1.2] at ho
   have hb : ¬ 0 <= ZA x 1 w n := by simpa using ho
   unfold ZgH
   rw [if_neg (by omega), if_pos h1.2, if_pos h1.1, ZK, if_neg hb, if_pos h1]
  ·rw [ZaF h1] at h ⊢
   have ih := Zzu hp h
   rw [<- ih]
   unfold ZgH
   by_cases h7 : xk (xa x n) = 7
   ·rw [if_pos h7]
   ·rw [if_neg h7]
    by_cases hx : xw (xa x n) = w
    ·rw [if_pos hx, if_neg (fun q => h1 ⟨q, hx⟩)]
     by_cases h2 : xk (xa x n) = 2
     ·rw [if_pos h2]; exact (Zem _ _ _).2.2.2.2
     ·rw [if_neg h2]
      by_cases h3 : xk (xa x n) = 3 \/ xk (xa x n) = 4
      ·rw [if_pos h3]
      ·rw [if_neg h3]
       by_cases h6 : xk (xa x n) = 6
       ·rw [if_pos h6]
       ·rw [if_neg h6]
        by_cases h5 : xk (xa x n) = 5
        ·rw [if_pos h5]
        ·rw [if_neg h5]
    ·rw [if_neg hx]
theorem Zoy {x : List Ent} {k w : Int} {j n : Nat} (hj : j < n) (hk : xk (xa x j) = k) (hw : xw (xa x j) = w) : 0 <= ZA x k w n /\ ZA x k w n <= j := by
 have h : 0 <= ZA x k w (j + 1) := by
  rw [ZK]
  split
  ·assumption
  ·rw [if_pos ⟨hk, hw⟩]; omega
 rw [Ze5 h (by omega)]
 exact ⟨h, by have := (Zbu x k w (j + 1)).2.1; omega⟩
theorem Zth {x : List Ent} {n j : Nat} (hj : j < n) (hk : xk (xa x j) = 5) : xw (xa x j) ∈ Zv x n := ZtQ (Zoy hj hk rfl).1
theorem Zs0 {x : List Ent} {B : Bk} (h : Go x B) : (Zv x x.length).Nodup := by
 refine List.pairwise_iff_getElem.2 fun i j hi hj hij e => ?_
 have ki : (Zv x x.length).getD i 0 = (Zv x x.length)[i] := by rw [ZGH, ZGK hi, ZGC]
 have kj : (Zv x x.length).getD j 0 = (Zv x x.length)[j] := by rw [ZGH, ZGK hj, ZGC]
 have a := (h.ri.com i (by rw [<- YN h]; exact hi)).2
 have b := (h.ri.com j (by rw [<- YN h]; exact hj)).2
 rw [ki, e, <- kj, b] at a
 omega
/-! ### What stands -/
def StL (x : List Ent) (f : Stf) (asg : List Int) : Prop := ∀ key : List UInt8,
 (f (Zq key : Nat) = (false, vw 0) /\ Zb5 x asg key asg.length = ([], false)) \/ (f (Zq key : Nat) = (true, Zb5 x asg key asg.length) /\ ((Zb5 x asg key asg.length).2 = false -> (Zb5 x asg key asg.length).1 = []))
theorem ZAM (x : List Ent) : StL x (ZkZ []) [] := fun _ => .inl ⟨rfl, rfl⟩
theorem ZAe {x : List Ent} {B : Bk} (h : Go x B) {f : Stf} {asg : List Int} (hs : StL x f asg) {t : Tx} (ht : t ∈ B.txs) : StL x (Zzn f t.ch) (asg ++ [t.who]) := fun key => by
 obtain ⟨t1, t2⟩ := h.tx ht
 have hc := Zr4 t2 h.nf key
 rw [<- t1] at hc
 have e1 : Zzn f t.ch (Zq key : Nat) = if Zt t.ch (Zq key : Nat) = true then (true, vw (Yr 0 t.ch (Zq key : Nat))) else f (Zq key : Nat) := rfl
 have e2 : (asg ++ [t.who]).getD asg.length 0 = t.who := by rw [ZGH, ZG0 (ZGx _), Nat.sub_self]; rfl
 have e3 : Zb5 x (asg ++ [t.who]) key asg.length = Zb5 x asg key asg.length := ZmK x key _ fun i hi => by
  rw [ZGH, ZGH, ZGZ hi]
 rw [e1, ZGM, ZGv, ZbT, e2, e3, hc.1]
 by_cases hl : 0 <= Ye x t.who key x.length
 ·rw [if_pos hl, if_pos (decide_eq_true hl), hc.2 hl]
  refine .inr ⟨rfl, fun q => ?_⟩
  obtain ⟨l1, _, l3⟩ := Zpk x t.who key x.length
  have q : ¬ xk (xa x (Ye x t.who key x.length).toNat) = 3 := by simpa using q
  exact ZmV (h.may _ (by omega)) (by have := l3 hl; omega)
 ·rw [if_neg hl, if_neg (fun q => hl (of_decide_eq_true q))]; exact hs key
theorem Zob {x : List Ent} {f : Stf} {asg : List Int} (h : StL x f asg) {r : Ent} (hm : ZbX r = true) (h2 : xk r = 2) :
  ZQ f r = ((Zcu r == (Zb5 x asg (ZJ r) asg.length).2) && (ZaU r == (Zb5 x asg (ZJ r) asg.length).1)) := by
 have hs := h (ZJ r)
 unfold ZQ
 show ((Zcu r == ((f (Zq (ZJ r) : Nat)).1 && (f (Zq (ZJ r) : Nat)).2.2)) && (!Zcu r || ZaU r == (f (Zq (ZJ r) : Nat)).2.1)) = _
 cases hh : Zcu r
 ·have hv := ZlX hm (.inl h2) hh
  rcases hs with ⟨a, b⟩ | ⟨a, b⟩
  ·rw [a, b, hv]; rfl
  ·rw [a, hv]
   generalize Zb5 x asg (ZJ r) asg.length = v at *
   cases hv2 : v.2
   ·rw [b hv2]; rfl
   ·rfl
 ·rcases hs with ⟨a, b⟩ | ⟨a, b⟩
  ·rw [a, b]; rfl
  ·rw [a]; simp
theorem ZzE {x : List Ent} {n : Nat} {asg : List Int} (h : ¬ (0 <= Ye x (xw (xa x n)) (ZJ (xa x n)) n /\ 0 < xw (xa x n))) :
  (Zdd x n asg).1 = ((Zcu (xa x n) == (Zb5 x asg (ZJ (xa x n)) asg.length).2) && (ZaU (xa x n) == (Zb5 x asg (ZJ (xa x n)) asg.length).1)) := by
 unfold Zdd; rw [if_neg h]
/-! ### Whether one fits -/
def LfP (x : List Ent) (R : List (List Int)) (B : Bk) (P : List (List Int)) : Prop := ∀ r ∈ P, YT R B.txs (g0 r) ∈ B.txs /\ (YT R B.txs (g0 r)).who ∈ Zv x x.length
theorem ZDc {x : List Ent} {B : Bk} (h : Go x B) {R P : List (List Int)} {asg K : List Int} (hP : LfP x R B P) (hK : ∀ w, w ∈ K ↔ w ∈ Zv x x.length)
  (hW : P.map (fun r => (YT R B.txs (g0 r)).who) = K.filter fun a => Zl (a ∉ asg)) {r : List Int} (hr : r ∈ P) :
  (∀ u ∈ P, okU R B.txs (g0 r) u) ↔ ZFG x asg (YT R B.txs (g0 r)).who (ZA x 1 (YT R B.txs (g0 r)).who x.length) := by
 obtain ⟨m1, _⟩ := hP r hr
 obtain ⟨t1, t2⟩ := h.tx m1
 generalize hw : (YT R B.txs (g0 r)).who = w at *
 have hl := Zbu x 1 w x.length
 have hb : 0 <= ZA x 1 w x.length := by
  obtain ⟨j, hj, e⟩ := List.getElem_of_mem m1
  refine (h.ri.beg w).1 ?_
  have := ZuA m1
  rw [hw] at this; exact this
 have hbeg : (YT R B.txs (g0 r)).beg = ZA x 1 w x.length := by rw [t1]; exact Zzu h.nf hb
 have mem : ∀ u ∈ P, (YT R B.txs (g0 u)).who ∉ asg := fun u hu => by
  have : (YT R B.txs (g0 u)).who ∈ K.filter fun a => Zl (a ∉ asg) := by rw [<- hW]; exact List.mem_map.2 ⟨u, hu, rfl⟩
  have := (List.mem_filter.1 this).2
  rw [Zh] at this; exact this
 constructor
 ·intro hu j hj hk
  refine Classical.byContradiction fun hn => ?_
  have hjn : j < x.length := by omega
  have hv := Zth hjn hk
  have : xw (xa x j) ∈ K.filter fun a => Zl (a ∉ asg) := List.mem_filter.2 ⟨(hK _).2 hv, Zy hn⟩
  rw [<- hW] at this
  obtain ⟨u, hup, hue⟩ := List.mem_map.1 this
  obtain ⟨n1, _⟩ := hP u hup
  obtain ⟨u1, u2⟩ := h.tx n1
  have hcom := Zfx u2 h.nf
  rw [<- u1, hue] at hcom
  have hle := Zoy (w := xw (xa x j)) hjn hk rfl
  by_cases he : g0 u = g0 r
  ·rw [he] at hue
   have hue : w = xw (xa x j) := hw.symm.trans hue
   have hnf := NF.le h.nf (m := j + 1) (by omega)
   have hnb : ¬ 0 <= ZA x 1 w (j + 1) := fun q => by
    have := Ze5 q (m := x.length) (by omega)
    have := (Zbu x 1 w (j + 1)).2.1
    omega
   have h5 := (Zgn t2 hnf hnb).1
   have := (Zoy (w := w) (n := j + 1) (Nat.lt_succ_self j) hk hue.symm).1
   omega
  ·refine hu u hup he ?_
   rw [hcom, hbeg]; omega
 ·intro hf u hup hne hlt
  obtain ⟨n1, n2⟩ := hP u hup
  obtain ⟨u1, u2⟩ := h.tx n1
  have hcom := Zfx u2 h.nf
  rw [<- u1] at hcom
  rw [hbeg, hcom] at hlt
  obtain ⟨k, hk, hkw⟩ := List.getElem_of_mem n2
  have c1 := (h.ri.com k (by rw [<- YN h]; exact hk)).1
  rw [ZGH, ZGK hk, ZGC, hkw] at c1
  have c3 := (Zbu x 5 (YT R B.txs (g0 u)).who x.length).2.2 c1
  have := hf (ZA x 5 (YT R B.txs (g0 u)).who x.length).toNat (by omega) c3.1
  rw [c3.2] at this
  exact mem u hup this
theorem ZC6 {x : List Ent} {B : Bk} (h : Go x B) {f : Stf} {asg : List Int} (hs : StL x f asg) {t : Tx} (ht : t ∈ B.txs) : (t.bad = [] /\ ∀ r ∈ t.rds, ZQ f (r.drop 1) = true) ↔ ZEJ x asg t.who x.length := by
 obtain ⟨t1, t2⟩ := h.tx ht
 have rd := ZdE t2 h.nf
 rw [<- t1] at rd
 generalize t.who = w at *
 constructor
 ·intro ⟨hb, hr⟩ j hj h2 hw
  have hjn : j < x.length := by omega
  by_cases hl : 0 <= Ye x w (ZJ (xa x j)) j
  ·have hh : 0 <= Ye x (xw (xa x j)) (ZJ (xa x j)) j /\ 0 < xw (xa x j) := by rw [hw]; exact ⟨hl, t2⟩
   rw [ZDY hh]
   refine Classical.byContradiction fun q => ?_
   have : (j : Int) ∈ t.bad := (rd.2 _).2 ⟨j, hjn, h2, hw, hl, by simpa using q, rfl⟩
   rw [hb] at this; cases this
  ·have hno : ¬ (0 <= Ye x (xw (xa x j)) (ZJ (xa x j)) j /\ 0 < xw (xa x j)) := by rw [hw]; exact fun q => hl q.1
   rw [ZzE hno, <- Zob hs (h.may j hjn) h2, <- ZaZ]
   exact hr _ ((rd.1 _).2 ⟨j, hjn, h2, hw, by omega, rfl⟩)
 ·intro hf
  refine ⟨List.eq_nil_iff_forall_not_mem.2 fun b hb => ?_, fun r hr => ?_⟩
  ·obtain ⟨j, hj, h2, hw, hl, ho, _⟩ := (rd.2 _).1 hb
   have := hf j (by omega) h2 hw
   have hh : 0 <= Ye x (xw (xa x j)) (ZJ (xa x j)) j /\ 0 < xw (xa x j) := by rw [hw]; exact ⟨hl, t2⟩
   rw [ZDY hh] at this
   have this : ZAg x j = true := this
   rw [ho] at this; cases this
  ·obtain ⟨j, hj, h2, hw, hl, rfl⟩ := (rd.1 _).1 hr
   have hno : ¬ (0 <= Ye x (xw (xa x j)) (ZJ (xa x j)) j /\ 0 < xw (xa x j)) := by rw [hw]; omega
   have := hf j (by omega) h2 hw
   rw [ZzE hno, <- Zob hs (h.may j hj) h2, <- ZaZ] at this
   exact this
theorem ZEQ {x : List Ent} {B : Bk} (h : Go x B) {R P : List (List Int)} {f : Stf} {asg K : List Int} (hs : StL x f asg) (hP : LfP x R B P) (hK : ∀ w, w ∈ K ↔ w ∈ Zv x x.length)
  (hW : P.map (fun r => (YT R B.txs (g0 r)).who) = K.filter fun a => Zl (a ∉ asg)) {r : List Int} (hr : r ∈ P) :
  Zju x asg (YT R B.txs (g0 r)).who ↔ Zxg R B.txs f P (g0 r) := by
 have hn : (YT R B.txs (g0 r)).who ∉ asg := by
  have : (YT R B.txs (g0 r)).who ∈ K.filter fun a => Zl (a ∉ asg) := by rw [<- hW]; exact List.mem_map.2 ⟨r, hr, rfl⟩
  have := (List.mem_filter.1 this).2
  rw [Zh] at this; exact this
 unfold Zju Zxg
 rw [ZDc h hP hK hW hr, ZC6 h hs (hP r hr).1]
 exact ⟨fun ⟨a, b, _⟩ => ⟨a, b⟩, fun ⟨a, b⟩ => ⟨a, b, hn⟩⟩
/-! ### The search -/
theorem Zs9 {x : List Ent} {B : Bk} (h : Go x B) {R : List (List Int)} {K : List Int} (hn : K.Nodup) (hK : ∀ w, w ∈ K ↔ w ∈ Zv x x.length) :
  ∀ (n : Nat) (P : List (List Int)) (f : Stf) (asg : List Int), StL x f asg -> LfP x R B P -> (P.map fun r => (YT R B.txs (g0 r)).who) = (K.filter fun a => Zl (a ∉ asg)) -> P.length = n -> asg.length + n = K.length →
  ZhB x K n asg = (Zqs R B.txs n f P).map (asg ++ ·)
 | 0, P, f, asg, _, _, _, hl, ha => by
  have hp : P = [] := ZGW hl
  subst hp
  show (if asg.length = K.length then some asg else none) = _
  rw [if_pos (by omega)]
  show some asg = some (asg ++ [])
  rw [List.append_nil]
 | n + 1, P, f, asg, hs, hP, hW, hl, ha => by
  have hne : P ≠ [] := fun e => by rw [e] at hl; cases hl
  show (if asg.length = K.length then some asg else _) = ((if P = [] then some [] else _) : Option (List Int)).map _
  rw [if_neg (by omega), if_neg hne, Zps]
  have e1 : (List.range K.length).findSome? (fun j => Zqu x K asg (ZhB x K n) j) = K.findSome? fun w => if Zl (Zju x asg w) = true then ZhB x K n (asg ++ [w]) else none :=
   ZnP (fun w => if Zl (Zju x asg w) = true then ZhB x K n (asg ++ [w]) else none) K
  have e2 : (P.map fun r => (YT R B.txs (g0 r)).who).findSome? (fun w => if Zl (Zju x asg w) = true then ZhB x K n (asg ++ [w]) else none) = K.findSome? fun w => if Zl (Zju x asg w) = true then ZhB x K n (asg ++ [w]) else none := by
   rw [hW]
   refine Zkp fun a _ hp => ?_
   rw [if_neg fun q => ?_]
   rw [Zh] at q
   rw [Zy q.2.2] at hp; cases hp
  rw [e1, <- e2, List.findSome?_map, <- Zjm]
  refine ZgS fun i hi => ?_
  have hi : i < P.length := List.mem_range.1 hi
  have hr : P.getD i [] ∈ P := by rw [ZGH, ZGK hi]; exact ZG4 _
  have hm := (hP _ hr).1
  have fe := ZEQ h hs hP hK hW hr
  show (if Zl (Zju x asg (YT R B.txs (g0 (P.getD i []))).who) = true then _ else none) = _
  unfold Zqw
  have fe2 : Zl (Zju x asg (YT R B.txs (g0 (P.getD i []))).who) = Zl (Zxg R B.txs f P (g0 (P.getD i []))) := by rw [propext fe]
  rw [fe2]
  by_cases hq : Zl (Zxg R B.txs f P (g0 (P.getD i []))) = true
  ·rw [if_pos hq, if_pos hq]
   have hlen : (P.eraseIdx i).length = n := by rw [List.length_eraseIdx_of_lt hi]; omega
   have hnd : (P.map fun r => (YT R B.txs (g0 r)).who).Nodup := by rw [hW]; exact hn.filter _
   have hget : (P.map fun r => (YT R B.txs (g0 r)).who).getD i 0 = (YT R B.txs (g0 (P.getD i []))).who := by
    rw [ZGH, ZGD, ZGK hi, ZGH, ZGK hi]; rfl
   rw [Zs9 h hn hK n (P.eraseIdx i) (Zzn f (YT R B.txs (g0 (P.getD i []))).ch) (asg ++ [(YT R B.txs (g0 (P.getD i []))).who]) (ZAe h hs hm) (fun r hr => hP r (List.mem_of_mem_eraseIdx hr)) ?_ hlen (by rw [ZGM, ZGv]; omega)]
   ·rw [Option.map_map]
    cases Zqs R B.txs n (Zzn f (YT R B.txs (g0 (P.getD i []))).ch) (P.eraseIdx i) with
    | none => rfl
    | some l => exact congrArg some (ZG5 asg [(YT R B.txs (g0 (P.getD i []))).who] l)
   ·rw [Zjg, Zow hnd (by rw [ZGR]; exact hi), hget, hW, List.filter_filter]
    refine List.filter_congr fun a _ => ?_
    by_cases h1 : a = (YT R B.txs (g0 (P.getD i []))).who
    ·subst h1
     rw [Zz (p := (YT R B.txs (g0 (P.getD i []))).who ∉ asg ++ [(YT R B.txs (g0 (P.getD i []))).who]) (fun q => q (by simp))]
     simp
    ·have e : (a ∉ asg ++ [(YT R B.txs (g0 (P.getD i []))).who]) = (a ∉ asg) := propext ⟨fun q r => q (List.mem_append_left _ r), fun q r => (List.mem_append.1 r).elim q fun e => h1 (List.mem_singleton.1 e)⟩
     rw [e]
     have : (a == (YT R B.txs (g0 (P.getD i []))).who) = false := by simpa using h1
     rw [this]; simp
  ·rw [if_neg hq, if_neg hq]; rfl
theorem ZAi {x : List Ent} {B : Bk} (h : Go x B) {R Q : List (List Int)} (hp : plOk R B.txs) (hQ : Q.Perm (Zbf R B.kept)) (hs : ZzD R B.txs Q) :
  Zk0 R B.txs [] Q = ZmD x (ZkI (Zv x x.length) (Zv x x.length).length) [] := by
 have hw : ∀ k ∈ B.kept, YT R B.txs (g0 [g0 (R.getD k [])]) = B.txs.getD k tx0 := fun k hk => by
  have := h.wf.ki k hk
  show atT B.txs (ZcF (g0 (R.getD k [])) R : Nat) = _
  rw [ZaG hp.2.1 (by rw [hp.1]; exact this), Zci]
 have hm : (Zbf R B.kept).map (fun r => (YT R B.txs (g0 r)).who) = Zv x x.length := by
  rw [<- h.ri.kep]
  unfold Zbf
  rw [List.map_map]
  exact List.map_congr_left fun k hk => by show (YT R B.txs (g0 [g0 (R.getD k [])])).who = _; rw [hw k hk]
 have hr := ZdQ (Zv x x.length) _ (ZGx _)
 rw [List.take_length] at hr
 generalize hKd : ZkI (Zv x x.length) (Zv x x.length).length = K at *
 have hW : Q.map (fun r => (YT R B.txs (g0 r)).who) = K := by
  refine List.Perm.eq_of_pairwise (le := fun a b => a <= b) (fun a b _ _ q1 q2 => Int.le_antisymm q1 q2) ?_ ?_ ((hQ.map _).trans (by rw [hm]; exact hr.symm))
  ·exact List.pairwise_map.2 hs
  ·rw [<- hKd]; exact Zpa _ _
 have hf : (K.filter fun a => Zl (a ∉ ([] : List Int))) = K := List.filter_eq_self.2 fun a _ => Zy (by simp)
 have hlen : Q.length = K.length := by rw [<- hW, ZGR]
 have hP : LfP x R B Q := fun r hr => by
  have hr := hQ.mem_iff.1 hr
  obtain ⟨k, hk, rfl⟩ := List.mem_map.1 hr
  have hk2 := h.wf.ki k hk
  rw [hw k hk]
  refine ⟨by rw [Yl hk2]; exact ZG4 hk2, ?_⟩
  rw [<- h.ri.kep]; exact List.mem_map.2 ⟨k, hk, rfl⟩
 have := Zs9 h (R := R) (hr.nodup_iff.2 (Zs0 h)) (fun w => hr.mem_iff) K.length Q (ZkZ []) [] (ZAM x) hP (by rw [hf]; exact hW) hlen (by simp)
 unfold Zk0 ZmD
 rw [List.length_nil, Nat.sub_zero, this, hlen]
 cases Zqs R B.txs K.length (ZkZ []) Q <;> rfl
theorem Zs3 {α : Type} {f : Nat -> Option α} {n j : Nat} (hj : j < n) (h : (f j).isSome = true) : ((List.range n).findSome? f).isSome = true := by
 cases e : (List.range n).findSome? f with
 | some a => rfl
 | none =>
  rw [List.findSome?_eq_none_iff] at e
  rw [e j (List.mem_range.2 hj)] at h; cases h
theorem ZnL {x : List Ent} {K : List Int} : ∀ (ws asg : List Int), asg.length + ws.length = K.length -> (∀ u w v, ws = u ++ w :: v -> w ∈ K /\ Zju x (asg ++ u) w) -> (ZhB x K ws.length asg).isSome = true
 | [], asg, hl, _ => by
  show (if asg.length = K.length then some asg else none).isSome = true
  rw [if_pos (by simpa using hl)]; rfl
 | w :: ws, asg, hl, h => by
  have hl : asg.length + (ws.length + 1) = K.length := hl
  show (if asg.length = K.length then some asg else (List.range K.length).findSome? fun j => Zqu x K asg (ZhB x K ws.length) j).isSome = true
  rw [if_neg (by omega)]
  obtain ⟨hw, hf⟩ := h [] w ws rfl
  rw [List.append_nil] at hf
  obtain ⟨j, hj, e⟩ := List.getElem_of_mem hw
  refine Zs3 hj ?_
  have eg : K.getD j 0 = w := by rw [ZGH, ZGK hj, ZGC]; exact e
  unfold Zqu
  rw [eg, if_pos (Zy hf)]
  refine ZnL ws (asg ++ [w]) (by rw [ZGM, ZGv]; omega) fun u w' v e => ?_
  rw [ZG5]
  exact h (w :: u) w' v (by rw [e]; rfl)
theorem ZwA {l : List Int} {k i : Nat} (hi : i < k) : (l.take k).getD i 0 = l.getD i 0 := Zdg hi
theorem Zuv {x : List Ent} {B : Bk} (h : Go x B) {k : Nat} (hk : k < (Zv x x.length).length) :
  Zv x (ZA x 5 ((Zv x x.length).getD k 0) x.length).toNat = (Zv x x.length).take k := by
 have c := (h.ri.com k (by rw [<- YN h]; exact hk)).2
 have hm := Zdo x (m := (ZA x 5 ((Zv x x.length).getD k 0) x.length).toNat) (n := x.length) Znd
 refine List.ext_getElem (by rw [c, ZGJ]; omega) fun i h1 h2 => ?_
 have e := hm.2 i h1
 rw [List.getElem_take]
 rw [ZGH, ZGH, ZGK h1, ZGK (by rw [c] at h1; omega), ZGC, ZGC] at e
 exact e.symm
theorem ZA3 {x : List Ent} {B : Bk} (h : Go x B) (hs : ¬ 0 <= (ZbD x x.length).1) {k : Nat} (hk : k < (Zv x x.length).length) :
  Zju x ((Zv x x.length).take k) ((Zv x x.length).getD k 0) := by
 have hkc := Zuv h hk
 have hkb : k < B.kept.length := by rw [<- YN h]; exact hk
 have hc0 := (h.ri.com k hkb).1
 have hkw := (h.kw hkb).2
 have ht := h.tx (h.kt hkb)
 have hpos : 0 < (Zv x x.length).getD k 0 := by rw [<- hkw]; exact ht.2
 have hnd := Zs0 h
 have hnot : (Zv x x.length).getD k 0 ∉ (Zv x x.length).take k := fun q => by
  obtain ⟨i, hi, e⟩ := List.getElem_of_mem q
  have hi2 : i < k := by rw [ZGJ] at hi; omega
  rw [List.getElem_take, ZGH, ZGK hk, ZGC] at e
  have := (List.pairwise_iff_getElem.1 hnd) i k (by omega) hk hi2
  exact this e
 generalize hw : (Zv x x.length).getD k 0 = w at *
 have hfl := Zbu x 5 w x.length
 have hc3 := hfl.2.2 hc0
 refine ⟨fun j hj h5 => ?_, fun j hj h2 hx => ?_, hnot⟩
 ·rw [<- hkc]
  have hb : ZA x 1 w x.length <= (ZA x 5 w x.length).toNat := by
   refine Classical.byContradiction fun q => ?_
   have hnf := NF.le h.nf (m := (ZA x 5 w x.length).toNat + 1) (by omega)
   have hnb : ¬ 0 <= ZA x 1 w ((ZA x 5 w x.length).toNat + 1) := fun r => by
    have := Ze5 r (m := x.length) (by omega)
    have := (Zbu x 1 w ((ZA x 5 w x.length).toNat + 1)).2.1
    omega
   have a := (Zgn hpos hnf hnb).1
   have b := (Zoy (w := w) (n := (ZA x 5 w x.length).toNat + 1) (Nat.lt_succ_self _) hc3.1 hc3.2).1
   omega
  exact Zth (by omega) h5
 ·have hjn : j < x.length := by omega
  have := (ZdF x x.length).2 hs j hjn
  have he : Zhz x j = (ZA x 5 w x.length).toNat := by rw [Zeo, hx, if_pos hpos, if_pos hc0]
  rw [he, hkc] at this
  refine Classical.byContradiction fun q => this ⟨h2, by simpa using q⟩
theorem Zuj {x : List Ent} {B : Bk} (h : Go x B) (hs : ¬ 0 <= (ZbD x x.length).1) : (ZmD x (ZkI (Zv x x.length) (Zv x x.length).length) []).isSome = true := by
 have hp := ZdQ (Zv x x.length) _ (ZGx _)
 rw [List.take_length] at hp
 unfold ZmD
 have e : (ZkI (Zv x x.length) (Zv x x.length).length).length - ([] : List Int).length = (Zv x x.length).length := by rw [ZdT]; rfl
 rw [e]
 refine ZnL (Zv x x.length) [] (by rw [ZdT]; simp) fun u w v e => ?_
 have hk : u.length < (Zv x x.length).length := by rw [e, ZGM, ZG1]; omega
 have e1 : (Zv x x.length).take u.length = u := by rw [e]; exact List.take_left' rfl
 have e2 : (Zv x x.length).getD u.length 0 = w := by
  rw [e, ZGH, ZG0 (ZGx _), Nat.sub_self]; rfl
 have := ZA3 h hs hk
 rw [e1, e2] at this
 refine ⟨hp.mem_iff.2 (by rw [e]; simp), by rw [List.nil_append]; exact this⟩
def Zby (w : Int) (r : Ent) : Bool := decide (xw r = w) && !decide (xk r = 5)
def ZX (x : List Ent) (w : Int) : Nat -> List Ent
 | 0 => []
 | n + 1 => if Zby w (xa x n) = true then ZX x w n ++ [nr (xa x n)] else ZX x w n
def ZgM (w t : Int) : Ent := [5, w, (Zq [] : Nat), (Zq [] : Nat), 0, t]
def bhN (x : List Ent) (o : List Int) : Nat -> List Ent
 | 0 => []
 | i + 1 => bhN x o i ++ ZX x (o.getD i 0) x.length ++ [ZgM (o.getD i 0) ((i : Int) + 1)]
/-! ### What one's entries look like -/
def ZBk (S : List Ent) : Prop := ∃ h t, S = h :: t /\ xk h = 1 /\ ∀ r ∈ t, xk r = 2 \/ xk r = 3 \/ xk r = 4
theorem ZBk.app {S : List Ent} (h : ZBk S) {r : Ent} (hr : xk r = 2 \/ xk r = 3 \/ xk r = 4) : ZBk (S ++ [r]) := by
 obtain ⟨a, t, rfl, h1, h2⟩ := h
 refine ⟨a, t ++ [r], rfl, h1, fun q hq => ?_⟩
 rcases List.mem_append.1 hq with hq | hq
 ·exact h2 q hq
 ·rw [List.mem_singleton.1 hq]; exact hr
def selI (x : List Ent) (w : Int) (n : Nat) : Prop :=
 (ZA x 1 w n < 0 /\ ZX x w n = [] /\ Z6 x w n = (false, -1) /\ ZA x 5 w n = -1) ∨
 (0 <= ZA x 1 w n /\ ((Z6 x w n).1 = true -> (Z6 x w n).2 = -1 /\ ZA x 5 w n = -1) /\ (ZBk (ZX x w n) \/ (Z6 x w n = (false, -1) /\ ZA x 5 w n = -1)))
theorem ZiV {x : List Ent} {k w : Int} {n : Nat} (h : ZA x k w n = -1) (hn : ¬ (xk (xa x n) = k /\ xw (xa x n) = w)) : ZA x k w (n + 1) = -1 := by
 rw [ZK, if_neg (by omega), if_neg hn]
theorem ZnB {x : List Ent} {w : Int} {n : Nat} (h1 : ¬ (xk (xa x n) = 1 /\ xw (xa x n) = w)) (h2 : ¬ ((xk (xa x n) = 5 \/ xk (xa x n) = 6) /\ xw (xa x n) = w)) (h3 : ¬ (xk (xa x n) = 7 /\ (Z6 x w n).1 = true)) : Z6 x w (n + 1) = Z6 x w n := by
 rw [Yd, if_neg h1, if_neg h2, if_neg h3]
theorem ZGl {x : List Ent} {w : Int} (hw : 0 < w) : ∀ {n : Nat}, NF x n -> selI x w n
 | 0, _ => .inl ⟨by show (-1 : Int) < 0; omega, rfl, rfl, rfl⟩
 | n + 1, h => by
  obtain ⟨hn, ho, _, hm⟩ := h.pred
  have ih := ZGl hw hn
  have es : ZX x w (n + 1) = if Zby w (xa x n) = true then ZX x w n ++ [nr (xa x n)] else ZX x w n := rfl
  rw [ZcN] at ho
  unfold selI
  by_cases hx : xw (xa x n) = w
  ·rw [hx] at ho
   by_cases k5 : xk (xa x n) = 5
   ·have e : ZX x w (n + 1) = ZX x w n := by rw [es, if_neg (by unfold Zby; simp [k5])]
    rw [if_neg (by omega), if_neg (by omega), if_neg (by omega), if_pos k5] at ho
    have h5 : ¬ 0 <= ZA x 5 w n := fun q => by simp [q] at ho
    have hlat : (Z6 x w n).1 = false -> (Z6 x w n).2 ≠ -1 := fun q r => by
     have : Zen x (-1) n = false := by rw [Zgr]; rfl
     rw [q, r, this] at ho
     simp at ho
    have eo : Z6 x w (n + 1) = (false, (Z6 x w n).2) := by rw [Yd, if_neg (by omega), if_pos ⟨.inl k5, hx⟩]
    have ef : ZA x 1 w (n + 1) = ZA x 1 w n := ZaF (by omega)
    rw [e, eo, ef]
    rcases ih with ⟨a, b, c, d⟩ | ⟨a, b, c⟩
    ·exact absurd (by rw [c]) (hlat (by rw [c]))
    ·refine .inr ⟨a, (fun q => by cases q), ?_⟩
     rcases c with c | ⟨c, _⟩
     ·exact .inl c
     ·exact absurd (by rw [c]) (hlat (by rw [c]))
   ·have e : ZX x w (n + 1) = ZX x w n ++ [nr (xa x n)] := by rw [es, if_pos (by unfold Zby; simp [k5, hx])]
    by_cases k1 : xk (xa x n) = 1
    ·rw [if_pos k1] at ho
     have hb : ¬ 0 <= ZA x 1 w n := by simpa using ho
     have ef : ZA x 1 w (n + 1) = n := by rw [ZK, if_neg hb, if_pos ⟨k1, hx⟩]
     rcases ih with ⟨a, b, c, d⟩ | ⟨a, _⟩
     ·have eo : Z6 x w (n + 1) = (true, -1) := by rw [Yd, if_pos ⟨k1, hx⟩, c]
      rw [e, eo, ef, b, ZiV d (by omega)]
      exact .inr ⟨by omega, fun _ => ⟨rfl, rfl⟩, .inl ⟨_, [], rfl, k1, fun r hr => nomatch hr⟩⟩
     ·exact absurd a hb
    ·have ef : ZA x 1 w (n + 1) = ZA x 1 w n := ZaF (by omega)
     by_cases k6 : xk (xa x n) = 6
     ·rw [if_neg k1, if_neg (by omega), if_pos (by omega)] at ho
      have hop : (Z6 x w n).1 = true := by simpa using ho
      have eo : Z6 x w (n + 1) = (false, (Z6 x w n).2) := by rw [Yd, if_neg (by omega), if_pos ⟨.inr k6, hx⟩]
      rcases ih with ⟨a, b, c, d⟩ | ⟨a, b, c⟩
      ·rw [c] at hop; cases hop
      ·obtain ⟨b1, b2⟩ := b hop
       rw [eo, ef, b1, ZiV b2 (by omega)]
       exact .inr ⟨a, (fun q => by cases q), .inr ⟨rfl, rfl⟩⟩
     ·by_cases k7 : xk (xa x n) = 7
      ·unfold ZbX at hm
       simp [k7] at hm
       omega
      ·have k3 : xk (xa x n) = 2 \/ xk (xa x n) = 3 \/ xk (xa x n) = 4 := by
        unfold ZbX at hm
        by_cases k2 : xk (xa x n) = 2
        ·exact .inl k2
        ·by_cases k3 : xk (xa x n) = 3
         ·exact .inr (.inl k3)
         ·by_cases k4 : xk (xa x n) = 4
          ·exact .inr (.inr k4)
          ·simp [k1, k2, k3, k4, k5, k6, k7] at hm
       have hop : (Z6 x w n).1 = true := by
        rw [if_neg k1] at ho
        by_cases k2 : xk (xa x n) = 2
        ·rw [if_pos k2] at ho
         simp [hw] at ho; exact ho
        ·rw [if_neg k2, if_pos (by omega)] at ho
         simpa using ho
       have eo : Z6 x w (n + 1) = Z6 x w n := ZnB (by omega) (by omega) (by omega)
       rcases ih with ⟨a, b, c, d⟩ | ⟨a, b, c⟩
       ·rw [c] at hop; cases hop
       ·obtain ⟨b1, b2⟩ := b hop
        rw [e, eo, ef, ZiV b2 (by omega)]
        refine .inr ⟨a, fun _ => ⟨b1, rfl⟩, .inl ?_⟩
        rcases c with c | ⟨c, _⟩
        ·exact c.app k3
        ·rw [c] at hop; cases hop
  ·have e : ZX x w (n + 1) = ZX x w n := by rw [es, if_neg (by unfold Zby; simp [hx])]
   have ef : ZA x 1 w (n + 1) = ZA x 1 w n := ZaF (by omega)
   have ef5 : ZA x 5 w (n + 1) = ZA x 5 w n := ZaF (by omega)
   rw [e, ef, ef5]
   by_cases k7 : xk (xa x n) = 7 /\ (Z6 x w n).1 = true
   ·have eo : Z6 x w (n + 1) = (false, (n : Int)) := by rw [Yd, if_neg (by omega), if_neg (by omega), if_pos k7]
    rw [eo]
    rcases ih with ⟨a, b, c, d⟩ | ⟨a, b, c⟩
    ·rw [c] at k7; cases k7.2
    ·refine .inr ⟨a, (fun q => by cases q), .inl ?_⟩
     rcases c with c | ⟨c, _⟩
     ·exact c
     ·rw [c] at k7; cases k7.2
   ·rw [ZnB (by omega) (by omega) k7]; exact ih
theorem ZxY {x : List Ent} {w : Int} (hw : 0 < w) {n : Nat} (h : NF x n) (hc : 0 <= ZA x 5 w n) : ZBk (ZX x w n) := by
 rcases ZGl hw h with ⟨_, _, _, d⟩ | ⟨_, _, c | ⟨_, d⟩⟩
 ·omega
 ·exact c
 ·omega
theorem ZfA {x : List Ent} {w : Int} : ∀ {n : Nat} {r : Ent}, r ∈ ZX x w n -> ∃ q < n, Zby w (xa x q) = true /\ r = nr (xa x q)
 | 0, r, h => nomatch h
 | n + 1, r, h => by
  have es : ZX x w (n + 1) = if Zby w (xa x n) = true then ZX x w n ++ [nr (xa x n)] else ZX x w n := rfl
  rw [es] at h
  have old : r ∈ ZX x w n -> ∃ q < n + 1, Zby w (xa x q) = true /\ r = nr (xa x q) := fun h => by
   obtain ⟨q, hq, e⟩ := ZfA h
   exact ⟨q, by omega, e⟩
  by_cases hp : Zby w (xa x n) = true
  ·rw [if_pos hp] at h
   rcases List.mem_append.1 h with h | h
   ·exact old h
   ·exact ⟨n, by omega, hp, List.mem_singleton.1 h⟩
  ·rw [if_neg hp] at h; exact old h
theorem ZwP {x : List Ent} {w : Int} : ∀ {n j : Nat}, j < (ZX x w n).length -> ∃ q < n, Zby w (xa x q) = true /\ xa (ZX x w n) j = nr (xa x q) /\ ZX x w q = (ZX x w n).take j
 | 0, j, h => absurd h (Nat.not_lt_zero j)
 | n + 1, j, h => by
  have es : ZX x w (n + 1) = if Zby w (xa x n) = true then ZX x w n ++ [nr (xa x n)] else ZX x w n := rfl
  rw [es] at h ⊢
  by_cases hp : Zby w (xa x n) = true
  ·rw [if_pos hp] at h ⊢
   rcases ZGB j (ZX x w n).length with p | p
   ·obtain ⟨q, hq, a, b, c⟩ := ZwP p
    refine ⟨q, by omega, a, ?_, ?_⟩
    ·rw [<- b]; unfold xa; rw [ZGH, ZGZ p, <- ZGH]
    ·rw [List.take_append_of_le_length (by omega)]; exact c
   ·have : j = (ZX x w n).length := by rw [ZGM, ZGv] at h; omega
    subst this
    refine ⟨n, by omega, hp, ?_, ?_⟩
    ·unfold xa; rw [ZGH, ZG0 (ZGx _), Nat.sub_self]; rfl
    ·exact (List.take_left' rfl).symm
  ·rw [if_neg hp] at h ⊢
   obtain ⟨q, hq, a⟩ := ZwP h
   exact ⟨q, by omega, a⟩
/-! ### What stands ahead only -/
theorem xa_l {A B : List Ent} {i : Nat} (h : i < A.length) : xa (A ++ B) i = xa A i := by
 unfold xa; rw [ZGH, ZGZ h, <- ZGH]
theorem ZDe (A : List Ent) (r : Ent) (B : List Ent) : xa (A ++ r :: B) A.length = r := by
 unfold xa; rw [ZGH, ZG0 (ZGx _), Nat.sub_self]; rfl
theorem Zg2 {x y : List Ent} (k w : Int) : ∀ {n : Nat}, (∀ i < n, xa x i = xa y i) -> ZA x k w n = ZA y k w n
 | 0, _ => rfl
 | n + 1, h => by rw [ZK, ZK, Zg2 k w fun i hi => h i (by omega), h n (by omega)]
theorem Zo3 {x y : List Ent} (w : Int) : ∀ {n : Nat}, (∀ i < n, xa x i = xa y i) -> Z6 x w n = Z6 y w n
 | 0, _ => rfl
 | n + 1, h => by rw [Yd, Yd, Zo3 w fun i hi => h i (by omega), h n (by omega)]
theorem ZzN {x y : List Ent} : ∀ {n : Nat}, (∀ i < n, xa x i = xa y i) -> Zv x n = Zv y n
 | 0, _ => rfl
 | n + 1, h => by rw [Yi, Yi, ZzN fun i hi => h i (by omega), h n (by omega)]
theorem ZiT (x : List Ent) (n : Nat) : ZjX x (n + 1) = if xk (xa x n) = 5 then xt (xa x n) else ZjX x n := rfl
theorem Znp {x y : List Ent} : ∀ {n : Nat}, (∀ i < n, xa x i = xa y i) -> ZjX x n = ZjX y n
 | 0, _ => rfl
 | n + 1, h => by rw [ZiT, ZiT, Znp fun i hi => h i (by omega), h n (by omega)]
theorem Zzs {x y : List Ent} (f : Int) {n : Nat} (h : ∀ i < n, xa x i = xa y i) : Zen x f n = Zen y f n := by
 unfold Zen
 have e : (0 <= f /\ ∀ i : Nat, f < i -> (i : Int) < n -> xk (xa x i) ≠ 1 /\ xk (xa x i) ≠ 2 /\ xk (xa x i) ≠ 7) = (0 <= f /\ ∀ i : Nat, f < i -> (i : Int) < n -> xk (xa y i) ≠ 1 /\ xk (xa y i) ≠ 2 /\ xk (xa y i) ≠ 7) :=
  propext ⟨fun ⟨a, b⟩ => ⟨a, fun i h1 h2 => by rw [<- h i (by omega)]; exact b i h1 h2⟩, fun ⟨a, b⟩ => ⟨a, fun i h1 h2 => by rw [h i (by omega)]; exact b i h1 h2⟩⟩
 rw [e]
theorem ZEc {x y : List Ent} {n : Nat} (h : ∀ i < n + 1, xa x i = xa y i) : ZhT x n = ZhT y n := by
 have h' : ∀ i < n, xa x i = xa y i := fun i hi => h i (by omega)
 rw [ZcN, ZcN, h n (by omega), Zg2 1 _ h', Zg2 5 _ h', Zo3 _ h', Zzs _ h']
theorem ZE1 {x y : List Ent} {n : Nat} (h : ∀ i < n + 1, xa x i = xa y i) : ZhC x n = ZhC y n := by
 have h' : ∀ i < n, xa x i = xa y i := fun i hi => h i (by omega)
 unfold ZhC
 rw [h n (by omega), Znp h']
theorem ZzO {x y : List Ent} : ∀ {n : Nat}, (∀ i < n, xa x i = xa y i) -> ZaB x n = ZaB y n
 | 0, _ => rfl
 | n + 1, h => by rw [Zbc, Zbc, ZzO fun i hi => h i (by omega), ZEc h, ZE1 h]
structure Cln (A : List Ent) (o : List Int) (i : Nat) : Prop where
 tn : ZaB A A.length = (-1, 0)
 kp : Zv A A.length = o.take i
 la : ZjX A A.length = i
 no : ∀ w, w ∉ o.take i -> Z6 A w A.length = (false, -1) /\ ZA A 1 w A.length = -1 /\ ZA A 5 w A.length = -1
structure Mid (A : List Ent) (o : List Int) (i : Nat) (w : Int) : Prop where
 tn : ZaB A A.length = (-1, 0)
 kp : Zv A A.length = o.take i
 la : ZjX A A.length = i
 op : Z6 A w A.length = (true, -1)
 f5 : ZA A 5 w A.length = -1
 no : ∀ v, v ∉ o.take i -> v ≠ w -> Z6 A v A.length = (false, -1) /\ ZA A 1 v A.length = -1 /\ ZA A 5 v A.length = -1
theorem ZjL (A : List Ent) (r : Ent) : (A ++ [r]).length = A.length + 1 := by rw [ZGM, ZGv]
theorem Zxk (A : List Ent) (r : Ent) : ∀ i < A.length, xa (A ++ [r]) i = xa A i := fun i hi => xa_l hi
theorem Zez (A : List Ent) (r : Ent) (k w : Int) : ZA (A ++ [r]) k w (A ++ [r]).length = if 0 <= ZA A k w A.length then ZA A k w A.length else if xk r = k /\ xw r = w then (A.length : Int) else -1 := by
 rw [ZjL, ZK, Zg2 k w (Zxk A r), ZDe A r []]
theorem ZjR (A : List Ent) (r : Ent) (w : Int) : Z6 (A ++ [r]) w (A ++ [r]).length = (if xk r = 1 /\ xw r = w then (true, (Z6 A w A.length).2)
  else if (xk r = 5 \/ xk r = 6) /\ xw r = w then (false, (Z6 A w A.length).2)
  else if xk r = 7 /\ (Z6 A w A.length).1 = true then (false, (A.length : Int)) else Z6 A w A.length) := by
 rw [ZjL, Yd, Zo3 w (Zxk A r), ZDe A r []]
theorem Zw0 (A : List Ent) (r : Ent) : Zv (A ++ [r]) (A ++ [r]).length = if xk r = 5 then Zv A A.length ++ [xw r] else Zv A A.length := by
 rw [ZjL, Yi, ZzN (Zxk A r), ZDe A r []]
theorem Zwd (A : List Ent) (r : Ent) : ZjX (A ++ [r]) (A ++ [r]).length = if xk r = 5 then xt r else ZjX A A.length := by
 rw [ZjL, ZiT, Znp (Zxk A r), ZDe A r []]
theorem Zxc (A : List Ent) (r : Ent) (h : ZaB A A.length = (-1, 0)) (ho : (if xk r = 1 then decide (0 <= ZA A 1 (xw r) A.length)
  else if xk r = 2 then decide (0 < xw r) && !(Z6 A (xw r) A.length).1
  else if xk r = 3 \/ xk r = 4 \/ xk r = 6 then !(Z6 A (xw r) A.length).1
  else if xk r = 5 then (!(Z6 A (xw r) A.length).1 && !Zen A (Z6 A (xw r) A.length).2 A.length) || decide (0 <= ZA A 5 (xw r) A.length)
  else false) = false) (hw : xk r = 5 -> xt r = ZjX A A.length + 1) : ZaB (A ++ [r]) (A ++ [r]).length = (-1, 0) := by
 have e1 : ZhT (A ++ [r]) A.length = false := by
  rw [ZcN, ZDe A r [], Zg2 1 _ (Zxk A r), Zg2 5 _ (Zxk A r), Zo3 _ (Zxk A r), Zzs _ (Zxk A r)]; exact ho
 have e2 : ZhC (A ++ [r]) A.length = false := by
  unfold ZhC
  rw [ZDe A r [], Znp (Zxk A r)]
  by_cases h5 : xk r = 5
  ·rw [hw h5]; simp
  ·simp [h5]
 rw [ZjL, Zbc, ZzO (Zxk A r), h, if_neg (by show ¬ (0 : Int) <= -1; omega), e1, e2]
 simp
theorem ZBd {A : List Ent} {o : List Int} {i : Nat} {w : Int} (h : Cln A o i) (hw : w ∉ o.take i) {r : Ent} (hk : xk r = 1) (hr : xw r = w) : Mid (A ++ [r]) o i w := by
 obtain ⟨n1, n2, n3⟩ := h.no w hw
 refine ⟨Zxc A r h.tn (by rw [if_pos hk, hr, n2]; rfl) (fun q => by omega), ?_, ?_, ?_, ?_, fun v hv hne => ?_⟩
 ·rw [Zw0, if_neg (by omega)]; exact h.kp
 ·rw [Zwd, if_neg (by omega)]; exact h.la
 ·rw [ZjR, if_pos ⟨hk, hr⟩, n1]
 ·rw [Zez, n3, if_neg (by omega), if_neg (by omega)]
 ·obtain ⟨m1, m2, m3⟩ := h.no v hv
  refine ⟨?_, ?_, ?_⟩
  ·rw [ZjR, if_neg (fun q => hne (by rw [<- q.2, hr])), if_neg (by omega), if_neg (by omega)]; exact m1
  ·rw [Zez, m2, if_neg (by omega), if_neg (fun q => hne (by rw [<- q.2, hr]))]
  ·rw [Zez, m3, if_neg (by omega), if_neg (by omega)]
theorem ZFl {A : List Ent} {o : List Int} {i : Nat} {w : Int} (h : Mid A o i w) {r : Ent} (hk : xk r = 2 \/ xk r = 3 \/ xk r = 4) (hr : xw r = w) : Mid (A ++ [r]) o i w := by
 refine ⟨Zxc A r h.tn ?_ (fun q => by omega), ?_, ?_, ?_, ?_, fun v hv hne => ?_⟩
 ·rw [if_neg (by omega), hr, h.op]
  by_cases k2 : xk r = 2
  ·rw [if_pos k2]; simp
  ·rw [if_neg k2, if_pos (by omega)]; rfl
 ·rw [Zw0, if_neg (by omega)]; exact h.kp
 ·rw [Zwd, if_neg (by omega)]; exact h.la
 ·rw [ZjR, if_neg (by omega), if_neg (by omega), if_neg (by omega)]; exact h.op
 ·rw [Zez, h.f5, if_neg (by omega), if_neg (by omega)]
 ·obtain ⟨m1, m2, m3⟩ := h.no v hv hne
  refine ⟨?_, ?_, ?_⟩
  ·rw [ZjR, if_neg (by omega), if_neg (by omega), if_neg (by omega)]; exact m1
  ·rw [Zez, m2, if_neg (by omega), if_neg (by omega)]
  ·rw [Zez, m3, if_neg (by omega), if_neg (by omega)]
theorem ZqG {o : List Int} {i : Nat} {w : Int} : ∀ {t A : List Ent}, Mid A o i w -> (∀ r ∈ t, (xk r = 2 \/ xk r = 3 \/ xk r = 4) /\ xw r = w) -> Mid (A ++ t) o i w
 | [], A, h, _ => by rw [List.append_nil]; exact h
 | r :: t, A, h, ht => by
  have := ZqG (ZFl h (ht r ZGP).1 (ht r ZGP).2) (t := t) fun q hq => ht q (ZGN _ hq)
  rw [ZG5] at this; exact this
theorem ZBm {A : List Ent} {o : List Int} {i : Nat} {w : Int} (h : Mid A o i w) (hi : i < o.length) (ho : o.getD i 0 = w) : Cln (A ++ [ZgM w ((i : Int) + 1)]) o (i + 1) := by
 have k : xk (ZgM w ((i : Int) + 1)) = 5 := rfl
 have e : xw (ZgM w ((i : Int) + 1)) = w := rfl
 have t : xt (ZgM w ((i : Int) + 1)) = (i : Int) + 1 := rfl
 have hs : o.take (i + 1) = o.take i ++ [w] := by
  rw [List.take_add_one, <- ho, ZGH, ZGK hi]; rfl
 refine ⟨Zxc A _ h.tn ?_ (fun _ => by rw [t, h.la]), ?_, ?_, fun v hv => ?_⟩
 ·rw [k, e, if_neg (by decide), if_neg (by decide), if_neg (by decide), if_pos rfl, h.op, h.f5]; rfl
 ·rw [Zw0, if_pos k, h.kp, e, hs]
 ·rw [Zwd, if_pos k, t]; omega
 ·rw [hs] at hv
  have h1 : v ∉ o.take i := fun q => hv (List.mem_append_left _ q)
  have h2 : v ≠ w := fun q => hv (by rw [q]; simp)
  obtain ⟨m1, m2, m3⟩ := h.no v h1 h2
  refine ⟨?_, ?_, ?_⟩
  ·rw [ZjR, k, e, if_neg (by omega), if_neg (fun q => h2 q.2.symm), if_neg (by omega)]; exact m1
  ·rw [Zez, m2, k, if_neg (by omega), if_neg (by omega)]
  ·rw [Zez, m3, e, if_neg (by omega), if_neg (fun q => h2 q.2.symm)]
theorem cln_0 (o : List Int) : Cln [] o 0 := ⟨rfl, rfl, rfl, fun _ _ => ⟨rfl, rfl, rfl⟩⟩
theorem Zzx {x : List Ent} {o : List Int} (hnd : o.Nodup) (hg : ∀ w ∈ o, ZBk (ZX x w x.length)) : ∀ i ≤ o.length, Cln (bhN x o i) o i
 | 0, _ => cln_0 o
 | i + 1, h => by
  have ih := Zzx hnd hg i (by omega)
  have hi : i < o.length := by omega
  have eo : o.getD i 0 = o[i] := by rw [ZGH, ZGK hi, ZGC]
  show Cln (bhN x o i ++ ZX x (o.getD i 0) x.length ++ [ZgM (o.getD i 0) ((i : Int) + 1)]) o (i + 1)
  refine ZBm ?_ hi rfl
  obtain ⟨a, t, e, h1, h2⟩ := hg (o.getD i 0) (by rw [eo]; exact ZG4 hi)
  have hm : ∀ r ∈ ZX x (o.getD i 0) x.length, xw r = o.getD i 0 := fun r hr => by
   obtain ⟨q, _, p, rfl⟩ := ZfA hr
   unfold Zby at p
   rw [ZwZ]
   simp at p; exact p.1
  have hn : o.getD i 0 ∉ o.take i := fun q => by
   rw [eo] at q
   obtain ⟨j, hj, e⟩ := List.getElem_of_mem q
   have hj2 : j < i := by rw [ZGJ] at hj; omega
   rw [List.getElem_take] at e
   exact (List.pairwise_iff_getElem.1 hnd) j i (by omega) hi hj2 e
  rw [e] at hm ⊢
  have e2 : bhN x o i ++ a :: t = (bhN x o i ++ [a]) ++ t := by simp
  rw [e2]
  exact ZqG (ZBd ih hn h1 (hm a ZGP)) fun r hr => ⟨h2 r hr, hm r (ZGN _ hr)⟩
/-! ### Its length -/
theorem Zzq {o : List Int} : ∀ {f g : Int -> Nat}, (∀ w ∈ o, f w <= g w) -> (o.map f).sum <= (o.map g).sum := by
 induction o with
 | nil => intro f g _; exact ZGx _
 | cons a o ih =>
  intro f g h
  rw [ZGQ, ZGQ, List.sum_cons, List.sum_cons]
  have h1 := h a ZGP
  have h2 := ih fun w hw => h w (ZGN _ hw)
  omega
theorem ZA1 : ∀ o : List Int, (o.map fun _ : Int => 0).sum = 0
 | [] => rfl
 | a :: o => by rw [ZGQ, List.sum_cons, ZA1 o]
theorem ZDg {o : List Int} (hn : o.Nodup) (v : Int) : (o.map fun w => if v = w then 1 else 0).sum <= 1 := by
 induction o with
 | nil => exact Nat.zero_le _
 | cons a o ih =>
  rw [List.nodup_cons] at hn
  rw [ZGQ, List.sum_cons]
  by_cases h : v = a
  ·subst h
   have : (o.map fun w => if v = w then 1 else 0).sum <= (o.map fun _ => 0).sum := Zzq fun w hw => by
    rw [if_neg (fun e => hn.1 (by rw [e]; exact hw))]; exact ZGx _
   have z := ZA1 o
   rw [if_pos rfl]; omega
  ·rw [if_neg h]; have := ih hn.2; omega
theorem ZBO {o : List Int} (f g : Int -> Nat) : (o.map fun w => f w + g w).sum = (o.map f).sum + (o.map g).sum := by
 induction o with
 | nil => rfl
 | cons a o ih => rw [ZGQ, ZGQ, ZGQ, List.sum_cons, List.sum_cons, List.sum_cons, ih]; omega
theorem Zsi {x : List Ent} {o : List Int} (hn : o.Nodup) : ∀ n, (o.map fun w => (ZX x w n).length).sum + (Zv x n).length <= n
 | 0 => by
  show (o.map fun w => 0).sum + 0 <= 0
  have := ZA1 o
  omega
 | n + 1 => by
  have ih := Zsi (x := x) hn n
  rw [Yi]
  by_cases h5 : xk (xa x n) = 5
  ·have e : (fun w => (ZX x w (n + 1)).length) = fun w => (ZX x w n).length := by
    funext w
    have : ZX x w (n + 1) = ZX x w n := by show (if Zby w (xa x n) = true then _ else _) = _; rw [if_neg (by unfold Zby; simp [h5])]
    rw [this]
   rw [if_pos h5, e, ZGM, ZGv]; omega
  ·have e : (o.map fun w => (ZX x w (n + 1)).length).sum <= (o.map fun w => (ZX x w n).length + if xw (xa x n) = w then 1 else 0).sum := Zzq fun w _ => by
    show (if Zby w (xa x n) = true then ZX x w n ++ [nr (xa x n)] else ZX x w n).length <= _
    by_cases hp : Zby w (xa x n) = true
    ·have hw : xw (xa x n) = w := by unfold Zby at hp; simp at hp; exact hp.1
     rw [if_pos hp, if_pos hw, ZGM, ZGv]; exact ZGx _
    ·rw [if_neg hp]; omega
   rw [ZBO] at e
   have := ZDg hn (xw (xa x n))
   rw [if_neg h5]; omega
theorem ZzT (x : List Ent) (o : List Int) : ∀ i ≤ o.length, (bhN x o i).length = ((o.take i).map fun w => (ZX x w x.length).length).sum + i
 | 0, _ => rfl
 | i + 1, h => by
  have ih := ZzT x o i (by omega)
  have hs : o.take (i + 1) = o.take i ++ [o.getD i 0] := by
   rw [List.take_add_one, ZGH, ZGK (by omega)]; rfl
  show (bhN x o i ++ ZX x (o.getD i 0) x.length ++ [ZgM (o.getD i 0) ((i : Int) + 1)]).length = _
  rw [hs, ZGX, List.sum_append, ZGM, ZGM, ih]
  simp; omega
def wrF (w : Int) (key : List UInt8) (v : Option (List UInt8 × Bool)) (r : Ent) : Option (List UInt8 × Bool) := if (xk r = 3 \/ xk r = 4) /\ xw r = w /\ ZJ r = key then some (ZaU r, decide (xk r = 3)) else v
def wrL (L : List Ent) (w : Int) (key : List UInt8) : Option (List UInt8 × Bool) := L.foldl (wrF w key) none
theorem Zjz {x : List Ent} {n : Nat} (h : n < x.length) : x.take (n + 1) = x.take n ++ [xa x n] := by
 unfold xa
 rw [List.take_add_one, ZGH, ZGK h]; rfl
theorem ZjB (x : List Ent) (w : Int) (key : List UInt8) : ∀ n ≤ x.length, wrL (x.take n) w key = if 0 <= Ye x w key n then some (ZaU (xa x (Ye x w key n).toNat), decide (xk (xa x (Ye x w key n).toNat) = 3)) else none
 | 0, _ => by rw [if_neg (by show ¬ (0 : Int) <= -1; omega)]; rfl
 | n + 1, h => by
  have ih := ZjB x w key n (by omega)
  unfold wrL at ih ⊢
  rw [Zjz (by omega), List.foldl_append, ih, Zbz]
  show wrF w key _ (xa x n) = _
  unfold wrF
  by_cases hc : (xk (xa x n) = 3 \/ xk (xa x n) = 4) /\ xw (xa x n) = w /\ ZJ (xa x n) = key
  ·rw [if_pos hc, if_pos hc, if_pos (by omega), ZGO]
  ·rw [if_neg hc, if_neg hc]
theorem Zd3 (w : Int) (key : List UInt8) : ∀ (L : List Ent) (v : Option (List UInt8 × Bool)), (L.filter (Zby w)).foldl (wrF w key) v = L.foldl (wrF w key) v
 | [], v => rfl
 | r :: L, v => by
  by_cases hp : Zby w r = true
  ·rw [List.filter_cons_of_pos hp, List.foldl_cons, List.foldl_cons, Zd3 w key L]
  ·rw [List.filter_cons_of_neg hp, List.foldl_cons, Zd3 w key L]
   have : wrF w key v r = v := by
    unfold wrF
    rw [if_neg fun q => hp ?_]
    unfold Zby
    rw [q.2.1]
    have : xk r ≠ 5 := by omega
    simp [this]
   rw [this]
theorem ZFb (w : Int) (key : List UInt8) : ∀ (L : List Ent) (v : Option (List UInt8 × Bool)), (L.map nr).foldl (wrF w key) v = L.foldl (wrF w key) v
 | [], v => rfl
 | r :: L, v => by
  rw [ZGQ, List.foldl_cons, List.foldl_cons, ZFb w key L]
  have : wrF w key v (nr r) = wrF w key v r := by unfold wrF; rw [ZAn, ZwZ, ZiE, Zf7]
  rw [this]
theorem Zpb (x : List Ent) (w : Int) : ∀ n ≤ x.length, ZX x w n = ((x.take n).filter (Zby w)).map nr
 | 0, _ => rfl
 | n + 1, h => by
  have ih := Zpb x w n (by omega)
  show (if Zby w (xa x n) = true then ZX x w n ++ [nr (xa x n)] else ZX x w n) = _
  rw [Zjz (by omega), List.filter_append, ZGX, ih]
  by_cases hp : Zby w (xa x n) = true
  ·rw [if_pos hp, List.filter_cons_of_pos hp]; rfl
  ·rw [if_neg hp, List.filter_cons_of_neg hp]; simp
theorem ZzM (x : List Ent) (w : Int) (key : List UInt8) {n : Nat} (h : n <= x.length) : wrL (ZX x w n) w key = wrL (x.take n) w key := by
 unfold wrL
 rw [Zpb x w n h, ZFb, Zd3]
theorem Zwf (w : Int) (r : Ent) : Zby w (nr r) = Zby w r := rfl
theorem Zq2 (x : List Ent) (v w : Int) (n : Nat) : (ZX x v n).filter (Zby w) = if v = w then ZX x v n else [] := by
 by_cases h : v = w
 ·subst h
  rw [if_pos rfl]
  refine List.filter_eq_self.2 fun r hr => ?_
  obtain ⟨q, _, p, rfl⟩ := ZfA hr
  rw [Zwf]; exact p
 ·rw [if_neg h]
  refine List.filter_eq_nil_iff.2 fun r hr => ?_
  obtain ⟨q, _, p, rfl⟩ := ZfA hr
  rw [Zwf]
  unfold Zby at p ⊢
  simp at p ⊢
  omega
theorem Zl7 {x : List Ent} {o : List Int} (hn : o.Nodup) (w : Int) : ∀ i ≤ o.length, (bhN x o i).filter (Zby w) = if w ∈ o.take i then ZX x w x.length else []
 | 0, _ => by rw [if_neg (by simp)]; rfl
 | i + 1, h => by
  have ih := Zl7 (x := x) hn w i (by omega)
  have hi : i < o.length := by omega
  have eo : o.getD i 0 = o[i] := by rw [ZGH, ZGK hi, ZGC]
  have hs : o.take (i + 1) = o.take i ++ [o.getD i 0] := by
   rw [List.take_add_one, ZGH, ZGK hi]; rfl
  have hnot : o.getD i 0 ∉ o.take i := fun q => by
   rw [eo] at q
   obtain ⟨j, hj, e⟩ := List.getElem_of_mem q
   have hj2 : j < i := by rw [ZGJ] at hj; omega
   rw [List.getElem_take] at e
   exact (List.pairwise_iff_getElem.1 hn) j i (by omega) hi hj2 e
  have hc : ([ZgM (o.getD i 0) ((i : Int) + 1)]).filter (Zby w) = [] := by
   rw [List.filter_cons_of_neg (by unfold Zby ZgM xk; simp)]; rfl
  show (bhN x o i ++ ZX x (o.getD i 0) x.length ++ [ZgM (o.getD i 0) ((i : Int) + 1)]).filter (Zby w) = _
  rw [List.filter_append, List.filter_append, hc, List.append_nil, ih, Zq2, hs]
  by_cases h1 : o.getD i 0 = w
  ·rw [<- h1, if_neg hnot, if_pos rfl, if_pos (by simp)]; rfl
  ·rw [if_neg h1, List.append_nil]
   by_cases hm : w ∈ o.take i
   ·rw [if_pos hm, if_pos (List.mem_append_left _ hm)]
   ·rw [if_neg hm, if_neg fun q => (List.mem_append.1 q).elim hm fun r => h1 (List.mem_singleton.1 r).symm]
theorem Zzt {A x : List Ent} {ks : List Int} {key : List UInt8} : ∀ n, (∀ j < n, wrL A (ks.getD j 0) key = wrL x (ks.getD j 0) key) -> Zb5 A ks key n = Zb5 x ks key n
 | 0, _ => rfl
 | n + 1, h => by
  have ih := Zzt n fun j hj => h j (by omega)
  have e := h n (by omega)
  have a := ZjB A (ks.getD n 0) key A.length (ZGx _)
  have b := ZjB x (ks.getD n 0) key x.length (ZGx _)
  rw [List.take_length] at a b
  rw [a, b] at e
  rw [ZbT, ZbT, ih]
  by_cases h1 : 0 <= Ye A (ks.getD n 0) key A.length
  ·rw [if_pos h1] at e ⊢
   by_cases h2 : 0 <= Ye x (ks.getD n 0) key x.length
   ·rw [if_pos h2] at e ⊢; exact Option.some.inj e
   ·rw [if_neg h2] at e; cases e
  ·rw [if_neg h1] at e ⊢
   by_cases h2 : 0 <= Ye x (ks.getD n 0) key x.length
   ·rw [if_pos h2] at e; cases e
   ·rw [if_neg h2]
theorem ZGg {A x : List Ent} {p q : Nat} {ks : List Int} (hp : p <= A.length) (hq : q <= x.length) (hr : xa A p = nr (xa x q)) (hw : wrL (A.take p) (xw (xa x q)) (ZJ (xa x q)) = wrL (x.take q) (xw (xa x q)) (ZJ (xa x q)))
  (hl : Zb5 A ks (ZJ (xa x q)) ks.length = Zb5 x ks (ZJ (xa x q)) ks.length) : (Zdd A p ks).1 = (Zdd x q ks).1 := by
 have a := ZjB A (xw (xa x q)) (ZJ (xa x q)) p hp
 have b := ZjB x (xw (xa x q)) (ZJ (xa x q)) q hq
 rw [a, b] at hw
 unfold Zdd
 simp only [hr, ZwZ, ZiE, Zid, Zf7, hl]
 by_cases h1 : 0 <= Ye A (xw (xa x q)) (ZJ (xa x q)) p
 ·rw [if_pos h1] at hw
  by_cases h2 : 0 <= Ye x (xw (xa x q)) (ZJ (xa x q)) q
  ·rw [if_pos h2] at hw
   have e := Option.some.inj hw
   have e1 := congrArg Prod.fst e
   have e2 := congrArg Prod.snd e
   simp only at e1 e2
   by_cases h0 : 0 < xw (xa x q)
   ·rw [if_pos ⟨h1, h0⟩, if_pos ⟨h2, h0⟩, e1, e2]
   ·rw [if_neg (fun q => h0 q.2), if_neg (fun q => h0 q.2)]
  ·rw [if_neg h2] at hw; cases hw
 ·rw [if_neg h1] at hw
  by_cases h2 : 0 <= Ye x (xw (xa x q)) (ZJ (xa x q)) q
  ·rw [if_pos h2] at hw; cases hw
  ·rw [if_neg (fun q => h1 q.1), if_neg (fun q => h2 q.1)]
theorem Zzg {x : List Ent} {o : List Int} : ∀ I ≤ o.length, ∀ m < (bhN x o I).length, (∃ i < I, ∃ j < (ZX x (o.getD i 0) x.length).length, xa (bhN x o I) m = xa (ZX x (o.getD i 0) x.length) j /\ (bhN x o I).take m = bhN x o i ++ (ZX x (o.getD i 0) x.length).take j) \/ xk (xa (bhN x o I) m) = 5
 | 0, _, m, hm => absurd hm (Nat.not_lt_zero m)
 | I + 1, h, m, hm => by
  have e : bhN x o (I + 1) = bhN x o I ++ (ZX x (o.getD I 0) x.length ++ [ZgM (o.getD I 0) ((I : Int) + 1)]) := by
   rw [<- ZG5]; rfl
  rw [e] at hm ⊢
  rcases ZGB m (bhN x o I).length with p | p
  ·rcases Zzg I (by omega) m p with ⟨i, hi, j, hj, a, b⟩ | a
   ·exact .inl ⟨i, by omega, j, hj, by rw [xa_l p]; exact a, by rw [List.take_append_of_le_length (by omega)]; exact b⟩
   ·right; rw [xa_l p]; exact a
  ·obtain ⟨j, rfl⟩ : ∃ j, m = (bhN x o I).length + j := ⟨m - (bhN x o I).length, by omega⟩
   have ex : xa (bhN x o I ++ (ZX x (o.getD I 0) x.length ++ [ZgM (o.getD I 0) ((I : Int) + 1)])) ((bhN x o I).length + j) = xa (ZX x (o.getD I 0) x.length ++ [ZgM (o.getD I 0) ((I : Int) + 1)]) j := by
    unfold xa
    rw [ZGH, ZG0 (by omega), show (bhN x o I).length + j - (bhN x o I).length = j by omega, <- ZGH]
   rw [ex]
   rcases ZGB j (ZX x (o.getD I 0) x.length).length with q | q
   ·refine .inl ⟨I, by omega, j, q, xa_l q, ?_⟩
    rw [List.take_append, ZGT (by omega), show (bhN x o I).length + j - (bhN x o I).length = j by omega, List.take_append_of_le_length (by omega)]
   ·right
    have : j = (ZX x (o.getD I 0) x.length).length := by
     rw [ZGM, ZGM, ZGv] at hm; omega
    subst this
    rw [ZDe _ _ []]; rfl
theorem Zzw {x : List Ent} {o : List Int} (hm : ∀ i < x.length, ZbX (xa x i) = true) (ho : ∀ w ∈ o, 0 < w) (hl : o.length <= 1099511627776) : ∀ i ≤ o.length, ∀ r ∈ bhN x o i, ZbX r = true
 | 0, _, r, hr => nomatch hr
 | i + 1, h, r, hr => by
  have hr : r ∈ bhN x o i ++ ZX x (o.getD i 0) x.length ++ [ZgM (o.getD i 0) ((i : Int) + 1)] := hr
  rcases List.mem_append.1 hr with hr | hr
  ·rcases List.mem_append.1 hr with hr | hr
   ·exact Zzw hm ho hl i (by omega) r hr
   ·obtain ⟨q, hq, _, rfl⟩ := ZfA hr
    have := may_nr' (xa x q)
    exact this.trans (hm q hq)
  ·rw [List.mem_singleton.1 hr]
   have hw : 0 < o.getD i 0 := ho _ (by rw [ZGH, ZGK (by omega)]; exact ZG4 _)
   have e0 : Za6 (Int.toNat ((Zq [] : Nat) : Int)) = [] := by rw [ZGO, Zn]
   have k : ZJ (ZgM (o.getD i 0) ((i : Int) + 1)) = [] := e0
   have v : ZaU (ZgM (o.getD i 0) ((i : Int) + 1)) = [] := e0
   have hh : Zcu (ZgM (o.getD i 0) ((i : Int) + 1)) = false := rfl
   have hk : xk (ZgM (o.getD i 0) ((i : Int) + 1)) = 5 := rfl
   have hx : xw (ZgM (o.getD i 0) ((i : Int) + 1)) = o.getD i 0 := rfl
   have ht : xt (ZgM (o.getD i 0) ((i : Int) + 1)) = (i : Int) + 1 := rfl
   unfold ZbX
   simp only [k, v, hh, hk, hx, ht]
   have t1 : (1 : Int) <= (i : Int) + 1 := by omega
   have t2 : (i : Int) + 1 <= 1099511627776 := by omega
   simp only [t1, t2, hw, decide_true]
   rfl
theorem ZjO {x : List Ent} {K : List Int} : ∀ (n : Nat) (asg l : List Int), ZhB x K n asg = some l -> ∃ ws, l = asg ++ ws /\ ∀ u w v, ws = u ++ w :: v -> w ∈ K /\ Zju x (asg ++ u) w
 | 0, asg, l, h => by
  have h : (if asg.length = K.length then some asg else none) = some l := h
  split at h
  ·cases h; exact ⟨[], (List.append_nil _).symm, fun u w v e => by simp at e⟩
  ·cases h
 | n + 1, asg, l, h => by
  have h : (if asg.length = K.length then some asg else (List.range K.length).findSome? fun j => Zqu x K asg (ZhB x K n) j) = some l := h
  split at h
  ·cases h; exact ⟨[], (List.append_nil _).symm, fun u w v e => by simp at e⟩
  ·obtain ⟨j, hj, h⟩ := List.exists_of_findSome?_eq_some h
   have hj := List.mem_range.1 hj
   unfold Zqu at h
   split at h
   ·rename_i hf
    rw [Zh] at hf
    obtain ⟨ws, rfl, hw⟩ := ZjO n _ _ h
    refine ⟨K.getD j 0 :: ws, by rw [ZG5]; rfl, fun u w v e => ?_⟩
    cases u with
    | nil =>
     have e : K.getD j 0 :: ws = w :: v := e
     cases e
     refine ⟨by rw [ZGH, ZGK hj]; exact ZG4 _, by rw [List.append_nil]; exact hf⟩
    | cons a u =>
     have e : K.getD j 0 :: ws = a :: (u ++ w :: v) := e
     cases e
     have := hw u w v rfl
     rw [ZG5] at this; exact this
   ·cases h
theorem ZEB {x : List Ent} {B : Bk} (h : Go x B) (hc : ZaA x = 0) {o : List Int} (ho : ZmD x (ZkI (Zv x x.length) (Zv x x.length).length) [] = some o) : o.length = (Zv x x.length).length /\ Ze1 (bhN x o o.length) = (-1, 0, 0) := by
 have hp := ZdQ (Zv x x.length) _ (ZGx _)
 rw [List.take_length] at hp
 have hlen : o.length = (Zv x x.length).length := by
  have := Zik x _ _ _ _ ho
  rw [this, ZdT]
 obtain ⟨ws, hws, hf⟩ := ZjO _ _ _ ho
 rw [List.nil_append] at hws
 subst hws
 have hsplit : ∀ i < o.length, o = o.take i ++ o.getD i 0 :: o.drop (i + 1) := fun i hi => by
  rw [ZGH, ZGK hi, ZGC, <- List.drop_eq_getElem_cons hi, List.take_append_drop]
 have hfit : ∀ i < o.length, o.getD i 0 ∈ Zv x x.length /\ Zju x (o.take i) (o.getD i 0) := fun i hi => by
  obtain ⟨a, b⟩ := hf _ _ _ (hsplit i hi)
  exact ⟨hp.mem_iff.1 a, by rw [List.nil_append] at b; exact b⟩
 have hnd : o.Nodup := by
  refine List.pairwise_iff_getElem.2 fun i j hi hj hij e => ?_
  have := (hfit j hj).2.2.2
  rw [ZGH, ZGK hj, ZGC, <- e] at this
  exact this (List.mem_take_iff_getElem.2 ⟨i, by omega, rfl⟩)
 have hmem : ∀ w ∈ o, w ∈ Zv x x.length := fun w hw => by
  obtain ⟨i, hi, e⟩ := List.getElem_of_mem hw
  have := (hfit i hi).1
  rw [ZGH, ZGK hi, ZGC, e] at this
  exact this
 have hcom : ∀ w ∈ o, 0 < w /\ 0 <= ZA x 5 w x.length := fun w hw => by
  obtain ⟨k, hk, e⟩ := List.getElem_of_mem (hmem w hw)
  have hkb : k < B.kept.length := by rw [<- YN h]; exact hk
  have c := (h.ri.com k hkb).1
  have t := (h.tx (h.kt hkb)).2
  rw [(h.kw hkb).2] at t
  rw [ZGH, ZGK hk, ZGC, e] at c t
  exact ⟨t, c⟩
 have hgood : ∀ w ∈ o, ZBk (ZX x w x.length) := fun w hw => ZxY (hcom w hw).1 h.nf (hcom w hw).2
 have hcl := Zzx hnd hgood o.length (ZGx _)
 have h400 := ZfF hc
 have hYl := ZzT x o o.length (ZGx _)
 have hsum := Zsi (x := x) hnd x.length
 rw [List.take_length] at hYl
 have hmay := Zzw (x := x) (o := o) (fun i hi => h.may i hi) (fun w hw => (hcom w hw).1) (by omega) o.length (ZGx _)
 have hpos := Zzg (x := x) (o := o) o.length (ZGx _)
 have hfl := fun w => Zl7 (x := x) hnd w o.length (ZGx _)
 have hfl2 := fun w i (hi : i <= o.length) => Zl7 (x := x) hnd w i hi
 rw [List.take_length] at hfl
 refine ⟨hlen, ?_⟩
 have hkY := hcl.kp
 rw [List.take_length] at hkY
 generalize hY : bhN x o o.length = Y at *
 have hmayY : ∀ i < Y.length, ZbX (xa Y i) = true := fun i hi => by
  refine hmay _ ?_
  unfold xa; rw [ZGH, ZGK hi]; exact ZG4 _
 have hnf : NF Y Y.length := ⟨by rw [hcl.tn]; show ¬ (0 : Int) <= -1; omega, hmayY⟩
 have hGo : Go Y (ZV Y Y.length) := ⟨hnf, (Zhg Y Y.length hmayY).1 hnf, ZeD Y Y.length⟩
 have hchk : ZaA Y = 0 := by
  unfold ZaA
  rw [if_neg (by omega), if_pos]
  unfold Zih
  exact Zy hmayY
 have hser : ¬ 0 <= (ZbD Y Y.length).1 := fun h0 => by
  obtain ⟨m, hm, _, k2, hbad, _⟩ := (ZdF Y Y.length).1 h0
  rcases hpos m hm with ⟨i, hi, j, hj, e1, e2⟩ | h5
  ·obtain ⟨q, hq, p1, p2, p3⟩ := ZwP hj
   rw [p2] at e1
   have hwq : xw (xa x q) = o.getD i 0 := by unfold Zby at p1; simp at p1; exact p1.1
   have hin : o.getD i 0 ∈ o := by rw [ZGH, ZGK hi]; exact ZG4 _
   have hx : xw (xa Y m) = o.getD i 0 := by rw [e1, ZwZ]; exact hwq
   have hk2 : xk (xa x q) = 2 := by rw [e1, ZAn] at k2; exact k2
   have hkc := Zuv hGo (k := i) (by rw [hkY]; exact hi)
   have hc0 := (hGo.ri.com i (by rw [<- YN hGo, hkY]; exact hi)).1
   rw [hkY] at hkc hc0
   have he : Zhz Y m = (ZA Y 5 (o.getD i 0) Y.length).toNat := by rw [Zeo, hx, if_pos (hcom _ hin).1, if_pos hc0]
   rw [he, hkc] at hbad
   have ht := (hfit i hi).2.2.1 q (by omega) hk2 hwq
   have hlt : (o.take i).length = i := by rw [ZGJ]; omega
   have : (Zdd Y m (o.take i)).1 = (Zdd x q (o.take i)).1 := by
    refine ZGg (by omega) (by omega) e1 ?_ ?_
    ·rw [e2, hwq, <- p3]
     unfold wrL
     rw [<- Zd3 (o.getD i 0) _ (_ ++ _), List.filter_append, hfl2 _ i (by omega), if_neg ((hfit i hi).2.2.2), List.nil_append, Zd3]
     exact ZzM x _ _ (by omega)
    ·rw [hlt]
     refine Zzt i fun l hl => ?_
     rw [ZwA hl]
     have hin2 : o.getD l 0 ∈ o := by rw [ZGH, ZGK (by omega)]; exact ZG4 _
     have a := ZzM x (o.getD l 0) (ZJ (xa x q)) (ZGx x.length)
     rw [List.take_length] at a
     rw [<- a]
     unfold wrL
     rw [<- Zd3 (o.getD l 0) _ Y, hfl, if_pos hin2]
   rw [this, ht] at hbad; cases hbad
  ·omega
 unfold Ze1
 rw [if_neg (by rw [hchk]; exact fun q => q rfl), hcl.tn, if_neg (by show ¬ (0 : Int) <= -1; omega), Zq6 hser]
def joL : SX := usN 660 xX z0 z0
def Zoa : Ctr := ⟨hA, [.one (hS 0)], [hC 0 0], [eLe z0 (ai 2), eLe (ai 2) (Zk (rA 4)), eLe (ai 2) (ai 3), eLe (ai 2) (.int 9223372036854775807)], [.int, .int, .bool, .int], .tup [(false, [sl1 (ai 6) (Zdc joL) (ai 7)]), (false, [.bool (qA 8)]), (false, [.int .i64 (ai 9)])],
 [hC 0 0, iAr (ai 6) joL (ai 7)], [.f2 48 (qA 8) (usB 661 xX z0 z0), .f2 45 (ai 9) (usI 662 xX z0 z0), eLe (Zdc joL) (ai 7), .f2 50 (eLe z0 (ai 6)) (.f2 45 (Zdc joL) z0), eLe (Zdc joL) (.int 8)]⟩
def ZDR : Cx := { specs := [(17, [ZkR]), (27, [ZtV]), (30, [Zcd (.int 108)])], anns := [(9, [(3, .ghost ZzR []), (4, .ghost ZkU [.tmp 0, .tmp 5]), (5, .ghost ZzR []), (7, .ghost ZzR [])])] }
theorem ZA5 (x : List Ent) : ((orS x).getD []).length <= 8 := by
 unfold orS
 by_cases h : orE x = 0
 ·rw [if_pos h]
  have h8 : ¬ 8 < (Zv x x.length).length := fun q => by
   unfold orE at h
   by_cases h1 : ZaA x ≠ 0
   ·rw [if_pos h1] at h; exact h1 h
   ·rw [if_neg h1] at h
    by_cases h2 : 0 <= (ZaB x x.length).1
    ·rw [if_pos h2] at h; cases h
    ·rw [if_neg h2, if_pos q] at h; cases h
  have := ZyM x (ZkI (Zv x x.length) (Zv x x.length).length) [] (Nat.zero_le _)
  rw [ZdT] at this
  omega
 ·rw [if_neg h]; exact Nat.zero_le _
def ZgI : SX := .f2 115 (r 4) (a 2)
def Zz6 : SX := l z (a 6)
def Zx1 : SX := e (a 7) z
def ZAz : SX := p 661 ZgI
def Zyf : SX := .f2 48 (.bool false) ZAz
def Zuf : SX := v 662 ZgI
def ZxA : SX := o 660 ZgI
def Zqb : SX := .f1 30 ZxA
def ZyS : SX := l Zqb z
def Zqf : SX := e Zqb z
def ZnU : SX := .f2 50 (.bool false) Zqf
def Zkv : SX := l Zqb (k 8)
def Znh : SX := .f2 155 ZxA (.f1 152 z)
def Zfy : SX := .f1 32 ZgI
def ZgY : SX := hR0 548 ZgI Zfy (r 13)
def Zds : SX := .f1 32 ZgY
def Zte : SX := e Zds z
def Zn3 : SX := .f1 32 (wR 549 ZgI Zfy)
def Zhf : SX := f 561 ZgI Zfy
def Zug : SX := d 550 ZgI Zfy
def Zwb : SX := l z (a 15)
def ZqZ : SX := .us .ints 641 Zhf (.f1 155 z) (r 13) (r 17)
def ZjE : SX := .f1 30 ZqZ
def Zt8 : SX := l z (a 19)
def ZD5 : VC := i (l z (a 2)) (i (l (a 2) (.f1 32 (r 4))) (i (l (a 2) (a 3)) (i (l (a 2) (k 9223372036854775807)) (u 6 .int (u 7 .int (i (e (a 7) (v 523 ZgI)) (i (.f2 48 Zz6 Zx1) (.and (i (.f1 2 Zx1) (n Zyf (n (e (a 7) Zuf) (n ZyS (n ZnU (n Zkv (n Znh (n Zqf .tt)))))))) (i Zx1 (n Zz6 (u 8 .int (u 9 .int (u 10 .int (u 11 .int (u 12 .int (u 13 .rows (i (l z (a 8)) (i (l Zds (a 10)) (i (.f2 50 (l z (a 9)) Zte) (i (l Zn3 (a 12)) (i (.f2 50 (l z (a 11)) (e Zn3 z)) (i (c 558 (r 13) Zhf) (i (c 560 ZgY (r 13)) (i (l Zds Zfy) (i (l Zn3 Zfy) (.and (i (l z Zug) (n Zyf (n (e (k 280) Zuf) (n ZyS (n ZnU (n Zkv (n Znh (n Zqf .tt)))))))) (i (t Zug z) (.and (i (t (k 8) Zds) (n Zyf (n (e (k 2) Zuf) (n ZyS (n ZnU (n Zkv (n Znh (n Zqf .tt)))))))) (i (l Zds (k 8)) (u 14 .int (i (l z (a 14)) (n (p 620 ZgY) (n (l Zds (k 12)) (n (p 621 ZgY) (u 15 .int (u 16 .int (u 17 .rows (i (.us .bool 622 (r 17) ZgY (r 13) Zhf) (i (l Zds (a 16)) (i (.f2 50 Zwb Zte) (i (e (.f1 32 (r 17)) Zds) (u 18 .int (i (l z (a 18)) (n (l (.f2 40 (.f1 32 (r 17)) (k 100)) (k 108)) (n (l (.f1 32 (r 17)) (k 1000)) (n (c 560 (r 17) (r 13)) (n (p 621 (r 17)) (n (p 633 Zhf) (n (l (.f1 32 (r 17)) (a 16)) (n (l (a 16) (a 16)) (n (.f2 50 Zwb (e (.f1 32 (r 17)) z)) (u 19 .int (u 20 .int (u 21 .bool (i (.f2 48 (q 21) (.us .bool 642 Zhf (.f1 155 z) (r 13) (r 17))) (i (l ZjE (a 20)) (i (.f2 50 Zt8 (e ZjE z)) (i (l ZjE (.f1 32 (r 17))) (n (.f2 48 (q 21) ZAz) (n (e z Zuf) (n (l Zqb (a 20)) (n (.f2 50 Zt8 Zqf) (n Zkv (n (.f2 155 ZxA ZqZ) (n (e Zqb ZjE) .tt)))))))))))))))))))))))))))))))))))))))))))))))))))))))))))))))))
theorem ZGh : Zb4 Try.prog ZDR 12 9 Zoa = ZD5 := by kernel_rfl
theorem Zze (S : Sig GG) (hS : OrSig S) : ZH S Try.prog 9 Zoa := by
 refine Zp S (C := ZDR) (fuel := 12) (Zab ⟨Zm (by decide) (Zvg S hS.ou.ft.od.fi.js.jt), Zm (by decide) (ZDS S hS.ou.ft), Zm (by decide) (ZEh S hS.ou), trivial⟩ ⟨⟨⟨by decide, ZkF S⟩, ⟨by decide, Zmf S hS.ou.ft.od.fi.js.jt⟩, ⟨by decide, ZkF S⟩, ⟨by decide, ZkF S⟩, trivial⟩, trivial⟩ trivial) fun ρ => ?_
 rw [ZGh]
 simp only [ZD5, ZgI, Zz6, Zx1, ZAz, Zyf, Zuf, ZxA, Zqb, ZyS, Zqf, ZnU, Zkv, Znh, Zfy, ZgY, Zds, Zte, Zn3, Zhf, Zug, Zwb, ZqZ, ZjE, Zt8, hS.ou.ft.od.fi.js.jt.jb.rf.u523, hS.ou.ft.od.fi.js.jt.u548, hS.ou.ft.od.fi.js.jt.u549, hS.ou.ft.od.fi.js.jt.u550, hS.ou.ft.od.fi.js.jt.u558, hS.ou.ft.od.fi.js.jt.u560, hS.ou.ft.od.fi.js.jt.u561, hS.ou.ft.od.u620, hS.ou.ft.od.u621, hS.ou.ft.od.u622, hS.ou.ft.u633, hS.ou.u641, hS.ou.u642, hS.u660, hS.u661, hS.u662, ZT, ZGO, VC.den, SX.den, Env.upd, Y3, ZY, beq_iff_eq, ZGG, beq_eq_false_iff_ne, ne_eq, ZGF, ZGE, Int.reduceToNat, Nat.reduceEqDiff, reduceIte, sB]
 generalize hX : (ρ 4).tR.take (ρ 2).tI.toNat = X
 generalize hlen : (ρ 2).tI = l at *
 intro h1 h2 h3 h4
 have hl : l = (X.length : Nat) := by rw [<- hX, ZGJ]; omega
 subst hl
 clear hX hlen
 intro b e he hb
 have bad : ∀ q : Int, orE X = q -> q ≠ 0 -> orS X = none := fun q h1 h2 => by unfold orS; rw [if_neg (by rw [h1]; exact h2)]
 have hpl : ∀ (R : List (List Int)) (ks : List Nat), (Zbf R ks).length = ks.length := fun R ks => by unfold Zbf; rw [ZGR]
 refine ⟨fun hne => ?_, fun h0 => ⟨?_, ?_⟩⟩
 ·have hn : ZaA X ≠ 0 := by rw [<- he]; exact hne
  have hE : orE X = e := by unfold orE; rw [if_pos hn, he]
  rw [bad e hE hne]
  exact ⟨rfl, hE.symm, ZGS _, .inr rfl, by decide, rfl, rfl, trivial⟩
 ·rw [h0] at hb; exact Za.1 (by rw [hb]; rfl)
 have hc : ZaA X = 0 := by rw [<- he]; exact h0
 intro ma kb kc ob oc R q1 q2 q3 q4 q5 q6 q7 q8 q9
 refine ⟨fun hf => ?_, fun hf => ?_⟩
 ·have hE : orE X = 280 := by unfold orE; rw [if_neg (by rw [hc]; exact fun h => h rfl), if_pos (ZgX hc hf)]
  rw [bad 280 hE (by decide)]
  exact ⟨rfl, hE.symm, ZGS _, .inr rfl, by decide, rfl, rfl, trivial⟩
 have hgo : Go X (ZV X X.length) := ZAl hc hf
 have h400 := ZfF hc
 have hkt := YN hgo
 have hnt := ZuE hgo
 simp only [hpl] at *
 refine ⟨fun h8 => ?_, fun h8 m hm => ?_⟩
 ·have hE : orE X = 2 := by unfold orE; rw [if_neg (by rw [hc]; exact fun h => h rfl), if_neg hnt, if_pos (by omega)]
  rw [bad 2 hE (by decide)]
  exact ⟨rfl, hE.symm, ZGS _, .inr rfl, by decide, rfl, rfl, trivial⟩
 have hE : orE X = 0 := by unfold orE; rw [if_neg (by rw [hc]; exact fun h => h rfl), if_neg hnt, if_neg (by omega)]
 have hS1 : orS X = ZmD X (ZkI (Zv X X.length) (Zv X X.length).length) [] := by unfold orS; rw [if_pos hE]
 have hnd : ndP (Zbf R (ZV X X.length).kept) := by
  unfold ndP Zbf
  rw [List.map_map]
  have hkn : ((ZV X X.length).kept.map fun k => ((ZV X X.length).txs.getD k tx0).who).Nodup := by rw [hgo.ri.kep]; exact Zs0 hgo
  have hkd : (ZV X X.length).kept.Nodup := List.Pairwise.of_map _ (fun a b h e => h (by rw [e])) hkn
  refine List.pairwise_map.2 (List.Pairwise.imp_of_mem (fun {a b} ha hb' hab e => hab ?_) hkd)
  exact ZiI q6.2.1 (by rw [q6.1]; exact hgo.wf.ki a ha) (by rw [q6.1]; exact hgo.wf.ki b hb') e
 refine ⟨fun r hr => ?_, by omega, hnd, fun qb qc Q hQ hq1 hq2 hq3 m2 hm2 => ⟨by omega, by omega, fun r hr => q7 r (hQ.1.mem_iff.1 hr), ?_, fun t ht => ?_, by omega, by omega, by omega, fun b3 c3 w hw y1 y2 y3 => ?_⟩⟩
 ·obtain ⟨k, hk, rfl⟩ := List.mem_map.1 hr
  exact (q6.2.2 (R.getD k []) (ZrI (by rw [q6.1]; exact hgo.wf.ki k hk)) : 0 <= g0 (R.getD k []))
 ·exact ((hQ.1.map g0).nodup_iff).2 hnd
 ·have := (hgo.wf.rl t ht).1; omega
 ·have h9 := ZA5 X
  rw [hS1, <- ZAi hgo q6 hQ.1 hQ.2] at h9 ⊢
  exact ⟨hw, hE.symm, y1, y2, by omega, rfl, rfl, trivial⟩
def latC (x : List Ent) (f a : Int) : Bool := decide (0 <= f) && (List.range a.toNat).all fun i => !decide (f < (i : Int)) || (!decide (xk (xa x i) = 1) && !decide (xk (xa x i) = 2) && !decide (xk (xa x i) = 7))
theorem ZCy (x : List Ent) (f a : Int) : Zen x f a = latC x f a := by
 unfold Zen latC
 rw [Bool.eq_iff_iff, Zh, Bool.and_eq_true, decide_eq_true_eq, List.all_eq_true]
 refine ⟨fun ⟨h1, h2⟩ => ⟨h1, fun i hi => ?_⟩, fun ⟨h1, h2⟩ => ⟨h1, fun i hi ha => ?_⟩⟩
 ·rw [List.mem_range] at hi
  by_cases hf : f < (i : Int)
  ·obtain ⟨a1, a2, a3⟩ := h2 i hf (by omega)
   simp [a1, a2, a3]
  ·simp [hf]
 ·have := h2 i (List.mem_range.2 (by omega))
  simp [hi] at this
  exact ⟨this.1.1, this.1.2, this.2⟩
def chkC (x : List Ent) (n : Nat) : Bool := (List.range n).all fun i => ZbX (xa x i)
theorem ZAN (x : List Ent) (n : Nat) : Zih x n = chkC x n := by
 unfold Zih chkC
 rw [Bool.eq_iff_iff, Zh, List.all_eq_true]
 exact ⟨fun h i hi => h i (List.mem_range.1 hi), fun h i hi => h i (List.mem_range.2 hi)⟩
def outC (x : List Ent) (n : Nat) : Bool :=
 let r := xa x n
 let o := Z6 x (xw r) n
 if xk r = 1 then decide (0 <= ZA x 1 (xw r) n)
 else if xk r = 2 then decide (0 < xw r) && !o.1
 else if xk r = 3 \/ xk r = 4 \/ xk r = 6 then !o.1
 else if xk r = 5 then (!o.1 && !latC x o.2 n) || decide (0 <= ZA x 5 (xw r) n)
 else false
theorem ZAk (x : List Ent) (n : Nat) : ZhT x n = outC x n := by
 unfold ZhT outC
 simp only [ZCy]
def ZzP (x : List Ent) : Nat -> Int × Int
 | 0 => (-1, 0)
 | n + 1 => if 0 <= (ZzP x n).1 then ZzP x n else if outC x n then (n, 1) else if ZhC x n then (n, 2) else (-1, 0)
theorem ZhU (x : List Ent) : ∀ n, ZaB x n = ZzP x n
 | 0 => rfl
 | n + 1 => by
  show (if 0 <= (ZaB x n).1 then ZaB x n else if ZhT x n then (n, 1) else if ZhC x n then (n, 2) else (-1, 0)) = _
  rw [ZhU x n, ZAk]; rfl
def Zy9 (x : List Ent) : Int := if 400 < x.length then 2 else if chkC x x.length then 0 else 280
theorem Zma (x : List Ent) : ZaA x = Zy9 x := by unfold ZaA Zy9; rw [ZAN]
def serC (x : List Ent) : Int × Int × Int :=
 if Zy9 x ≠ 0 then (0, 0, Zy9 x) else if 0 <= (ZzP x x.length).1 then ((ZzP x x.length).1, (ZzP x x.length).2, 0) else ((ZbD x x.length).1, (ZbD x x.length).2, 0)
theorem Zm2 (x : List Ent) : Ze1 x = serC x := by unfold Ze1 serC; rw [Zma, ZhU]
def fneC (x : List Ent) : Int := if Zy9 x ≠ 0 then Zy9 x else if 0 <= (ZzP x x.length).1 then 280 else 0
theorem Zw1 (x : List Ent) : Ziw x = fneC x := by unfold Ziw fneC; rw [Zma, ZhU]
def fnrC (x : List Ent) : List (List Int) := if fneC x = 0 then ZFy x else []
theorem ZCP (x : List Ent) : finR' x = fnrC x := by unfold finR' fnrC; rw [Zw1]
def ZD6 (x : List Ent) (asg : List Int) (w : Int) : Bool :=
 ((List.range (ZA x 1 w x.length).toNat).all fun j => !decide (xk (xa x j) = 5) || asg.contains (xw (xa x j))) &&
 ((List.range x.length).all fun j => !decide (xk (xa x j) = 2) || !decide (xw (xa x j) = w) || (Zdd x j asg).1) && !asg.contains w
theorem ZCk (x : List Ent) (asg : List Int) (w : Int) : Zl (Zju x asg w) = ZD6 x asg w := by
 rw [Bool.eq_iff_iff, Zh]
 unfold Zju ZFG ZEJ ZD6
 rw [Bool.and_eq_true, Bool.and_eq_true, List.all_eq_true, List.all_eq_true]
 refine ⟨fun ⟨h1, h2, h3⟩ => ⟨⟨fun j hj => ?_, fun j hj => ?_⟩, ?_⟩, fun ⟨⟨h1, h2⟩, h3⟩ => ⟨fun j hj hk => ?_, fun j hj hk hw => ?_, ?_⟩⟩
 ·rw [List.mem_range] at hj
  by_cases hk : xk (xa x j) = 5
  ·have := h1 j (by omega) hk
   simp [this]
  ·simp [hk]
 ·rw [List.mem_range] at hj
  by_cases hk : xk (xa x j) = 2
  ·by_cases hw : xw (xa x j) = w
   ·simp [h2 j (by omega) hk hw]
   ·simp [hw]
  ·simp [hk]
 ·simpa using h3
 ·have := h1 j (List.mem_range.2 (by omega))
  simpa [hk] using this
 ·have := h2 j (List.mem_range.2 (by omega))
  simpa [hk, hw] using this
 ·simpa using h3
def Zys (x : List Ent) (all : List Int) : Nat -> List Int -> Option (List Int)
 | 0, asg => if asg.length = all.length then some asg else none
 | n + 1, asg => if asg.length = all.length then some asg else (List.range all.length).findSome? fun j => if ZD6 x asg (all.getD j 0) = true then Zys x all n (asg ++ [all.getD j 0]) else none
theorem ZrQ (x : List Ent) (all : List Int) : ∀ (n : Nat) (asg : List Int), ZhB x all n asg = Zys x all n asg
 | 0, asg => rfl
 | n + 1, asg => by
  show (if asg.length = all.length then some asg else (List.range all.length).findSome? fun j => Zqu x all asg (ZhB x all n) j) = (if asg.length = all.length then some asg else (List.range all.length).findSome? fun j => if ZD6 x asg (all.getD j 0) = true then Zys x all n (asg ++ [all.getD j 0]) else none)
  have : (fun j => Zqu x all asg (ZhB x all n) j) = fun j => if ZD6 x asg (all.getD j 0) = true then Zys x all n (asg ++ [all.getD j 0]) else none := by
   funext j
   unfold Zqu
   rw [ZCk, ZrQ x all n]
  rw [this]
def oreC (x : List Ent) : Int := if Zy9 x ≠ 0 then Zy9 x else if 0 <= (ZzP x x.length).1 then 280 else if 8 < (Zv x x.length).length then 2 else 0
theorem ZmX (x : List Ent) : orE x = oreC x := by unfold orE oreC; rw [Zma, ZhU]
def orsC (x : List Ent) : Option (List Int) := if oreC x = 0 then Zys x (ZkI (Zv x x.length) (Zv x x.length).length) (ZkI (Zv x x.length) (Zv x x.length).length).length [] else none
theorem ZDa (x : List Ent) : orS x = orsC x := by unfold orS orsC; rw [ZmX]; unfold ZmD; rw [ZrQ]; rfl
def awH : List Ent := [[1, 1, (Zq [] : Nat), (Zq [] : Nat), 0, 0], [3, 1, (Zq [107] : Nat), (Zq [120] : Nat), 1, 0], [1, 2, (Zq [] : Nat), (Zq [] : Nat), 0, 0], [2, 2, (Zq [107] : Nat), (Zq [] : Nat), 0, 0], [5, 1, (Zq [] : Nat), (Zq [] : Nat), 0, 1], [5, 2, (Zq [] : Nat), (Zq [] : Nat), 0, 2]]
def awK : List Ent := [[1, 1, (Zq [] : Nat), (Zq [] : Nat), 0, 0], [3, 1, (Zq [107] : Nat), (Zq [120] : Nat), 1, 0], [1, 2, (Zq [] : Nat), (Zq [] : Nat), 0, 0]]
def aw8 : List Ent := [[8, 0, (Zq [] : Nat), (Zq [] : Nat), 0, 0]]
def aw5 : List Ent := [[5, 1, (Zq [] : Nat), (Zq [] : Nat), 0, 1]]
theorem aw_1 : Ze1 awH = (3, 4, 0) := by rw [Zm2]; kernel_rfl
theorem aw_2 : Ziw awH = 0 := by rw [Zw1]; kernel_rfl
theorem aw_3 : finR' awH = [[((Zq [107] : Nat) : Int), ((Zq [120] : Nat) : Int)]] := by rw [ZCP]; kernel_rfl
theorem aw_4 : orE awH = 0 := by rw [ZmX]; kernel_rfl
theorem aw_5 : orS awH = some [2, 1] := by rw [ZDa]; kernel_rfl
theorem aw_6 : Ze1 awK = (-1, 0, 0) := by rw [Zm2]; kernel_rfl
theorem aw_7 : (Ze1 aw8).2.2 = 280 := by rw [Zm2]; kernel_rfl
theorem aw_8 : orE aw5 = 280 := by rw [ZmX]; kernel_rfl
end
end Go.Proofs.Ytidlngnhjffepaa
namespace Go.Proofs
open Go.Shelf
def Try.sortEn_ren : Go.Shelf.Ren := ⟨fun | 6 => 20 | 14 => 37 | 15 => 38 | 20 => 51 | 21 => 52 | 22 => 53 | 23 => 54 | 24 => 55 | 25 => 56 | 26 => 57 | 27 => 58 | 28 => 59 | 29 => 60 | 46 => 67 | 47 => 68 | 48 => 69 | 49 => 70 | 50 => 71 | 57 => 90 | n => n, fun | 24 => 65 | 0 => 0 | 3 => 3 | 4 => 4 | 5 => 5 | 9 => 9 | 22 => 59 | 25 => 73 | 39 => 94 | 45 => 109 | 46 => 110 | 50 => 52 | 53 => 116 | 55 => 118 | 66 => 125 | 70 => 129 | 76 => 143 | 77 => 144 | n => n, fun | n => n⟩
theorem Try.sortEn : Go.Proofs.SlLaysF0.n6 Try.prog Try.sortEn_ren := {
 mixed := by kernel_rfl
 f6 := ⟨Try.f20.name, by decide, Try.func20.trans (congrArg some (by kernel_rfl))⟩
 f14 := ⟨Try.f37.name, by decide, Try.func37.trans (congrArg some (by kernel_rfl))⟩
 f15 := Try.func38.trans (congrArg some (by kernel_rfl))
 f20 := ⟨Try.f51.name, by decide, Try.func51.trans (congrArg some (by kernel_rfl))⟩
 f21 := ⟨Try.f52.name, by decide, Try.func52.trans (congrArg some (by kernel_rfl))⟩
 f22 := ⟨Try.f53.name, by decide, Try.func53.trans (congrArg some (by kernel_rfl))⟩
 f23 := ⟨Try.f54.name, by decide, Try.func54.trans (congrArg some (by kernel_rfl))⟩
 f24 := ⟨Try.f55.name, by decide, Try.func55.trans (congrArg some (by kernel_rfl))⟩
 f25 := ⟨Try.f56.name, by decide, Try.func56.trans (congrArg some (by kernel_rfl))⟩
 f26 := ⟨Try.f57.name, by decide, Try.func57.trans (congrArg some (by kernel_rfl))⟩
 f27 := ⟨Try.f58.name, by decide, Try.func58.trans (congrArg some (by kernel_rfl))⟩
 f28 := Try.func59.trans (congrArg some (by kernel_rfl))
 f29 := Try.func60.trans (congrArg some (by kernel_rfl))
 f46 := ⟨Try.f67.name, by decide, Try.func67.trans (congrArg some (by kernel_rfl))⟩
 f47 := Try.func68.trans (congrArg some (by kernel_rfl))
 f48 := Try.func69.trans (congrArg some (by kernel_rfl))
 f49 := ⟨Try.f70.name, by decide, Try.func70.trans (congrArg some (by kernel_rfl))⟩
 f50 := ⟨Try.f71.name, by decide, Try.func71.trans (congrArg some (by kernel_rfl))⟩
 f57 := ⟨Try.f90.name, by decide, Try.func90.trans (congrArg some (by kernel_rfl))⟩
 t0 := Try.underlying0
 a0 := Try.isAgg0
 z0 := Try.sizeOf0
 v0 := Try.zeroValue0
 t3 := Try.underlying3
 a3 := Try.isAgg3
 z3 := Try.sizeOf3
 v3 := Try.zeroValue3
 t4 := Try.underlying4
 a4 := Try.isAgg4
 z4 := Try.sizeOf4
 v4 := Try.zeroValue4
 t5 := Try.underlying5
 a5 := Try.isAgg5
 z5 := Try.sizeOf5
 v5 := Try.zeroValue5
 t9 := Try.underlying9
 a9 := Try.isAgg9
 z9 := Try.sizeOf9
 v9 := Try.zeroValue9
 t22 := Try.underlying59
 a22 := Try.isAgg59
 z22 := Try.sizeOf59
 v22 := Try.zeroValue59
 t25 := Try.underlying73
 a25 := Try.isAgg73
 z25 := Try.sizeOf73
 v25 := Try.zeroValue73
 t39 := Try.underlying94
 a39 := Try.isAgg94
 z39 := Try.sizeOf94
 v39 := Try.zeroValue94
 t45 := Try.underlying109
 a45 := Try.isAgg109
 z45 := Try.sizeOf109
 v45 := Try.zeroValue109
 t46 := Try.underlying110
 a46 := Try.isAgg110
 z46 := Try.sizeOf110
 v46 := Try.zeroValue110
 t50 := Try.underlying52
 a50 := Try.isAgg52
 z50 := Try.sizeOf52
 v50 := Try.zeroValue52
 t53 := Try.underlying116
 a53 := Try.isAgg116
 z53 := Try.sizeOf116
 v53 := Try.zeroValue116
 t55 := Try.underlying118
 a55 := Try.isAgg118
 z55 := Try.sizeOf118
 v55 := Try.zeroValue118
 t66 := Try.underlying125
 a66 := Try.isAgg125
 z66 := Try.sizeOf125
 v66 := Try.zeroValue125
 t70 := Try.underlying129
 a70 := Try.isAgg129
 z70 := Try.sizeOf129
 v70 := Try.zeroValue129
 t76 := Try.underlying143
 a76 := Try.isAgg143
 z76 := Try.sizeOf143
 v76 := Try.zeroValue143
 t77 := Try.underlying144
 a77 := Try.isAgg144
 z77 := Try.sizeOf144
 v77 := Try.zeroValue144 }
def Try.cmpInt_ren : Go.Shelf.Ren := ⟨fun | 5 => 22 | 7 => 39 | n => n, fun | 3 => 3 | 4 => 4 | 22 => 3 | n => n, fun | n => n⟩
theorem Try.cmpInt : Go.Proofs.SlLaysC2.n5 Try.prog Try.cmpInt_ren := {
 mixed := by kernel_rfl
 f5 := ⟨Try.f22.name, by decide, Try.func22.trans (congrArg some (by kernel_rfl))⟩
 f7 := ⟨Try.f39.name, by decide, Try.func39.trans (congrArg some (by kernel_rfl))⟩
 t3 := Try.underlying3
 a3 := Try.isAgg3
 z3 := Try.sizeOf3
 v3 := Try.zeroValue3
 t4 := Try.underlying4
 a4 := Try.isAgg4
 z4 := Try.sizeOf4
 v4 := Try.zeroValue4
 t22 := Try.underlying3
 a22 := Try.isAgg3
 z22 := Try.sizeOf3
 v22 := Try.zeroValue3 }
end Go.Proofs
namespace Go.Proofs
open Go.Shelf Go.RowKit Go.Lib Go.Sort
open Go.Proofs.Ytidlngnhjffepaa (Zar rF hF g0 ZbO)
set_option maxHeartbeats 1000000 in
theorem Try.closureSort0 (x y : Int) (a1 a2 a3 a4 a5 a6 b1 b2 b3 b4 b5 b6 : Value) (W : World) : Calls Try.prog 21 #[.agg #[.int .i64 x, a1, a2, a3, a4, a5, a6], .agg #[.int .i64 y, b1, b2, b3, b4, b5, b6]] W fun e w' => e = .returned (.int .i64 (Lib.compareInt x y)) /\ ∃ q os', w' = grow (W.drewN q) os' := by
 have hcon := fun W' => AnyG.cmp_Compare_int Try.cmpInt x y W'
 change ∀ W', Calls Try.prog 22 _ _ _ at hcon
 generalize Lib.compareInt x y = r at hcon ⊢
 go_enter Try.func21, Try.ntmps21
 go_wp2_with (go_at_call 22; refine (hcon _).mono ?_; rintro e w' ⟨rfl, rfl⟩)
 go_ret
 exact ⟨rfl, 0, _, by rw [alloc_eq_grow, alloc_eq_grow, grow_grow]; rfl⟩
theorem Try.closureSort (x y : List Int) (W : World) : Calls Try.prog 21 #[.agg (Zar x).toArray, .agg (Zar y).toArray] W fun e w' => e = .returned (.int .i64 (Lib.compareInt (g0 x) (g0 y))) /\ ∃ q os', w' = grow (W.drewN q) os' :=
 Try.closureSort0 (g0 x) (g0 y) _ _ _ _ _ _ _ _ _ _ _ _ W
theorem Try.ltPage (x y : List Int) : ltOf (fun x y : List Int => Lib.compareInt (g0 x) (g0 y)) x y = decide (g0 x < g0 y) := by
 unfold ltOf Lib.compareInt
 by_cases h1 : g0 x < g0 y
 ·simp [h1]
 ·by_cases h2 : g0 y < g0 x <;> simp [h1, h2]
theorem Try.swoPage : SWO (ltOf fun x y : List Int => Lib.compareInt (g0 x) (g0 y)) where
 irrefl x := by rw [Try.ltPage]; simp
 trans x y z h1 h2 := by rw [Try.ltPage] at *; simp at *; omega
 ntrans x y z h1 h2 := by rw [Try.ltPage] at *; simp at *; omega
theorem Try.sortEntries (blk cap : Nat) (d : Array (List Int)) (w : World) (hH : HoldsK Zar 7 w blk 0 d) (hblk : blk < w.heap.size) (hsz : d.size < 4611686018427387904) :
  Calls Try.prog 20 #[.slice (some ⟨blk, 0, none⟩) d.size cap, .func (.func 21) #[] #[]] w fun e w' => e = .returned (.tuple #[]) ∧
   ∃ d' n os, PermIn 0 d.size d d' /\ SortedIn (ltOf fun x y : List Int => Lib.compareInt (g0 x) (g0 y)) 0 d.size d' /\ w' = sortWorldK Zar 7 w blk 0 n d' os := by
 have eg : ∀ args w, (callFunc 21 args).run Try.prog w = .ok (.enter 21 args) w := enters_of Try.func21 (by kernel_rfl) rfl
 exact AnyQ.slices_SortFunc Try.sortEn 7 Try.isAgg65 Try.sizeOf65 Zar (fun x => ZbO x) (fun x v hv => by simp [Zar, rF, hF, Go.Eng.rowVals, Go.Eng.Fd.val, Go.Eng.Fd.width] at hv; rcases hv with rfl | rfl | rfl | rfl | rfl | rfl | rfl <;> rfl) (fun x y => Lib.compareInt (g0 x) (g0 y)) Try.swoPage 21 #[] blk 0 cap d w eg
  (fun _ _ _ _ x y => Try.closureSort x y _) hH hblk hsz
theorem Try.sortNone (p : Option Addr) (cap : Nat) (fv : Value) (w : World) :
  Calls Try.prog 20 #[.slice p 0 cap, fv] w fun e w' => e = .returned (.tuple #[]) /\ w' = w := AnyF.slices_SortFunc_none Try.sortEn p cap fv w
end Go.Proofs
namespace Go.Proofs.Ytidlngnhjffepaa
noncomputable section
open Go.Eng
theorem ZDQ (S : Sig GG) (hS : JsSig S) : ZH S Try.prog 20 Zcm :=
 ZFo S hS (fun blk cap d w h1 h2 h3 => Try.sortEntries blk cap d w h1 h2 h3) (fun p cap fv w => Try.sortNone p cap fv w)
end
end Go.Proofs.Ytidlngnhjffepaa
namespace Go.Proofs.Ytidlngnhjffepaa
noncomputable section
open Go.Eng
def Znf : Ctr := ⟨hA, [.one (hS 0)], [hC 0 0], [eLe z0 (ai 2), eLe (ai 2) (Zk (rA 4)), eLe (ai 2) (ai 3), eLe (ai 2) (.int 9223372036854775807)], [.int, .int, .int], .tup [(false, [.int .i64 (ai 6)]), (false, [.int .i64 (ai 7)]), (false, [.int .i64 (ai 8)])], [hC 0 0],
 [.f2 45 (ai 6) (usI 520 xX z0 z0), .f2 45 (ai 7) (usI 521 xX z0 z0), .f2 45 (ai 8) (usI 522 xX z0 z0)]⟩
def lc (n : Nat) : SX := rA (1000000 + n)
def sraI (m R it a w l : Nat) : Inv := ⟨[.amap, .ints, .int, .int, .int, .int, .rows], [],
 [.itr (.int .i64) (.one .ptr) (ai m) (wM (rA R) bG) (ai it) (mA 1000000) (iA 1000001), .cel (ai a) 0 [.int .i64 (di 2)], .cel (ai w) 0 [.int .i64 (di 3)], .cel (ai l) 0 [slC (di 4) (Zk (lc 6)) (di 5) 7], rAr (di 4) (lc 6) (di 5)],
 [usB 571 (mA 1000000) (wM (rA R) bG) z0, .us .bool 586 xX (mA 1000000) (Zbt (di 2) (di 3)) (ai 2), usB 587 xX (mA 1000000) (lc 6), eLe (Zk (lc 6)) (di 5), .f2 50 (eLe z0 (di 4)) (.f2 45 (Zk (lc 6)) z0)], .f1 33 (mA 1000000)⟩
def srbX (k : Nat) (sa sw ix : SX) (j : SX) : SX := usI k (Zbt sa sw) (usN 546 bG ix z0) j
def srbI (a w sa sw : Nat) (ix : SX) : Inv := ⟨[.int], [(64, .one (.int .i64 (di 0)))], [.cel (ai a) 0 [.int .i64 (srbX 584 (ai sa) (ai sw) ix (di 0))], .cel (ai w) 0 [.int .i64 (srbX 585 (ai sa) (ai sw) ix (di 0))]],
 [eLe z0 (di 0), eLe (di 0) (Zdc (usN 546 bG ix z0))], .f2 41 (Zdc (usN 546 bG ix z0)) (di 0)⟩
def srP (R k : Nat) : SX := .f3 140 z0 (wM (rA R) bG) (ai k)
def ZBz (k L sa sw : Nat) (n : SX) : SX := .us .int k xX (rA L) (Zbt (ai sa) (ai sw)) n
def srkI (a w l b L sa sw m R : Nat) : Inv := ⟨[.int, .int, .int, .int, .amap], [(92, .one (.int .i64 (di 0)))], [.cel (ai l) 0 [.slice (ai b) z0 (ZBz 593 L sa sw (di 0)) (di 1) (di 2) (di 3) 7], .cel (ai a) 0 [.int .i64 (ZBz 594 L sa sw (di 0))], .cel (ai w) 0 [.int .i64 (ZBz 595 L sa sw (di 0))], scC (ai m) (mA 1000004)],
 [eLe z0 (di 0), eLe (di 0) (Zk (bK (rA R))), eLe z0 (di 2), eLe (di 2) (di 3), .f2 45 (.f2 40 (ZBz 593 L sa sw (di 0)) (di 2)) (Zk (rA L)), usB 596 xX (di 0) (mA 1000004)], .f2 41 (Zk (bK (rA R))) (di 0)⟩
def srK (R k : Nat) : SX := nt (bK (rA R)) (ai k) 0
def srE (q L sa sw k m : Nat) (ix : SX) : SX := usI q (rA L) (mA m) (ZjA (ZBz 593 L sa sw (ai k)) (ZBz 594 L sa sw (ai k)) (ZBz 595 L sa sw (ai k)) (usI 542 bG ix z0))
def srrX (q L sa sw k m : Nat) (ix j : SX) : SX := .us .int q (Zbt (srE 591 L sa sw k m ix) (srE 592 L sa sw k m ix)) (usR 545 bG ix z0) j (mA m)
def srsI (a w L sa sw k m : Nat) (ix : SX) : Inv := ⟨[.int], [(107, .one (.int .i64 (di 0)))], [.cel (ai a) 0 [.int .i64 (srrX 597 L sa sw k m ix (di 0))], .cel (ai w) 0 [.int .i64 (srrX 598 L sa sw k m ix (di 0))]],
 [eLe z0 (di 0), eLe (di 0) (Zk (usR 545 bG ix z0))], .f2 41 (Zk (usR 545 bG ix z0)) (di 0)⟩
def ZGm : Cx := { specs := notS ++ [(17, [ZkR]), (24, [Zhx]), (25, [ZkG]), (23, [ZqQ]), (20, [Zcm]), (19, [Zsw])], anns := [(7, [(4, .ghost ZkU [.tmp 0, .tmp 5]), (10, .inv (sraI 8 13 20 14 15 19)), (12, .ghost Zpi [.tmp 12]), (13, .inv (srbI 14 15 23 24 (ixB (rA 13) (srP 13 28)))), (500017, .ghost Zi0 [.tmp 12]), (18, .ghost Zpi [.tmp 12]), (500018, .ghost Zi0 [.tmp 12]), (23, .inv (srkI 14 15 19 25 28 23 24 29 13)), (25, .ghost Zpi [.tmp 18]), (27, .inv (srsI 14 15 28 23 24 31 35 (ixB (rA 13) (srK 13 31)))), (500032, .ghost Zi0 [.tmp 18])])] }
def Yv : SX := .f2 115 (r 4) (a 2)
def ZA2 : SX := l z (a 6)
def ZyG : SX := e (a 7) z
def Zsk : SX := v 520 Yv
def ZyY : SX := v 521 Yv
def ZBP : SX := e z ZyY
def ZB3 : SX := v 522 Yv
def Zj9 : SX := .f1 32 Yv
def Zxq : SX := hR0 548 Yv Zj9 (r 13)
def ZgN : SX := .f1 32 Zxq
def ZsZ : SX := wR 549 Yv Zj9
def ZeI : SX := .f1 32 ZsZ
def ZvN : SX := e ZeI z
def Zb8 : SX := f 561 Yv Zj9
def ZoH : SX := d 550 Yv Zj9
def Zpt : SX := e z ZB3
def ZeC : SX := wM0 547 (r 13) Zb8
def Y1 : SX := .f2 122 (a 23) (.f2 122 (a 24) (.f1 152 z))
def ZwK : SX := l z (a 25)
def ZuM : SX := l z (a 29)
def Zwv : SX := l z (a 30)
def Zvi : SX := x 593 Yv (r 28) Y1
def Zjx : SX := .us .int 593 Yv (r 28) Y1 (a 31)
def Zph : SX := .f3 112 Zxq (a 31) z
def Zbs : SX := d 566 (r 13) Zph
def ZwQ : SX := .f3 112 (r 13) Zbs z
def ZnW : SX := v 552 Zb8
def ZaK : SX := wR 545 Zb8 Zbs
def ZdS : SX := .f1 32 ZaK
def ZwI : SX := .f1 30 (wN 546 Zb8 Zbs)
def Znx : SX := e (.f1 32 (r 13)) ZnW
def Zw6 : SX := l z Zjx
def Zrf : SX := l (.f1 32 (r 28)) (k 1000000)
def Zty : SX := .f2 50 ZwK (e (a 33) z)
def Zq0 : SX := l z (a 37)
def ZrD : SX := l (a 37) (a 38)
def ZwN : SX := .us .int 594 Yv (r 28) Y1 (a 31)
def ZtJ : SX := .us .int 595 Yv (r 28) Y1 (a 31)
def Zox : SX := .f2 122 Zjx (.f2 122 ZwN (.f2 122 ZtJ (.f2 122 (d 542 Zb8 Zbs) (.f1 152 z))))
def Zq9 : SX := x 590 (r 28) (m 35) Zox
def Zuq : SX := x 591 (r 28) (m 35) Zox
def Zq1 : SX := x 592 (r 28) (m 35) Zox
def ZfO : SX := .f2 122 Zuq (.f2 122 Zq1 (.f1 152 z))
def ZfU : SX := .f2 40 (a 39) (k 1)
def ZrN : SX := .f1 23 ZfU
def Zry : SX := .f2 41 ZdS ZfU
def ZqY : SX := l z Zry
def Zrj : SX := t Zry (.f2 41 ZdS (a 39))
def Zt6 : SX := l z ZfU
def ZvU : SX := l ZfU ZdS
def Zsz : SX := .us .int 598 ZfO ZaK ZfU (m 35)
def Zks : SX := .us .int 597 ZfO ZaK (a 39) (m 35)
def ZjG : SX := .us .int 598 ZfO ZaK (a 39) (m 35)
def Zru : SX := .f3 112 ZaK (a 39) z
def ZvG : SX := .us .int 597 ZfO ZaK ZfU (m 35)
def Zdn : SX := .f2 40 (a 31) (k 1)
def Zv7 : SX := .f2 41 ZgN Zdn
def ZuF : SX := .us .int 593 Yv (r 28) Y1 Zdn
def Zo5 : SX := .f2 122 Zjx (.f2 122 ZwN (.f2 122 ZtJ (.f2 122 (a 2) (.f1 152 z))))
def Zto : SX := x 592 (r 28) (m 35) Zo5
def ZrH : SX := e Zto z
def Zne : SX := .f3 140 z ZeC (a 28)
def ZbZ : SX := d 566 (r 13) Zne
def Zwp : SX := .f3 112 (r 13) ZbZ z
def Zua : SX := e Zne Zwp
def ZrA : SX := t ZbZ ZnW
def ZrX : SX := wR 545 Zb8 ZbZ
def Zg8 : SX := .f1 32 ZrX
def ZsW : SX := l Zg8 (.f3 112 (r 13) ZbZ (k 3))
def ZdR : SX := wN 546 Zb8 ZbZ
def Zdr : SX := .f1 30 ZdR
def Zv9 : SX := l Zdr (.f3 112 (r 13) ZbZ (k 5))
def Ztf : SX := .f2 50 (l z (.f3 112 (r 13) ZbZ (k 2))) (e Zg8 z)
def Zvj : SX := .f2 50 (l z (.f3 112 (r 13) ZbZ (k 4))) (e Zdr z)
def Zr9 : SX := l z (.f3 112 (r 13) ZbZ (k 1))
def ZwJ : SX := l z Zwp
def Zgf : SX := .f2 40 (a 29) (k 1)
def Zsj : SX := .f2 41 Zdr Zgf
def Zn1 : SX := x 584 Y1 ZdR (a 29)
def Zod : SX := x 585 Y1 ZdR (a 29)
def Zu7 : SX := .f2 110 ZdR (a 29)
def Zvn : SX := d 542 Zb8 ZbZ
def Zos : SX := .f2 40 (.f1 32 (r 27)) Zg8
def Zhm : SX := .f2 143 (m 21) (a 28)
def ZwD : SX := t (.f1 33 Zhm) (.f1 33 (m 21))
def Zw9 : SX := c 571 Zhm ZeC
def Zsv : SX := .us .bool 586 Yv Zhm (.f2 122 Zn1 (.f2 122 Zod (.f1 152 z))) (a 2)
def ZEa : VC := i (l z (a 2)) (i (l (a 2) (.f1 32 (r 4))) (i (l (a 2) (a 3)) (i (l (a 2) (k 9223372036854775807)) (u 6 .int (u 7 .int (i (e (a 7) (v 523 Yv)) (i (.f2 48 ZA2 ZyG) (.and (i (.f1 2 ZyG) (n (e z Zsk) (n ZBP (n (e (a 7) ZB3) .tt)))) (i ZyG (n ZA2 (u 8 .int (u 9 .int (u 10 .int (u 11 .int (u 12 .int (u 13 .rows (i (l z (a 8)) (i (l ZgN (a 10)) (i (.f2 50 (l z (a 9)) (e ZgN z)) (i (l ZeI (a 12)) (i (.f2 50 (l z (a 11)) ZvN) (i (c 558 (r 13) Zb8) (i (c 560 Zxq (r 13)) (i (l ZgN Zj9) (i (l ZeI Zj9) (.and (i (l z ZoH) (n (e ZoH Zsk) (n (e (d 551 Yv Zj9) ZyY) (n Zpt .tt)))) (i (t ZoH z) (u 14 .int (i (l z (a 14)) (u 15 .int (i (l z (a 15)) (u 16 .int (i (l z (a 16)) (n (e ZeI ZeI) (n (l ZeI (k 1000000)) (u 17 .int (u 18 .int (i (l ZeI (a 18)) (i (.f2 50 (l z (a 17)) ZvN) (u 19 .int (i (l z (a 19)) (u 20 .int (i (l z (a 20)) (n (c 571 ZeC ZeC) (n (.us .bool 586 Yv ZeC (.f2 122 (a 2) (.f2 122 z (.f1 152 z))) (a 2)) (n (y 587 Yv ZeC ZsZ) (u 21 .amap (u 22 .ints (u 23 .int (u 24 .int (u 25 .int (u 26 .int (u 27 .rows (i (c 571 (m 21) ZeC) (i (.us .bool 586 Yv (m 21) Y1 (a 2)) (i (y 587 Yv (m 21) (r 27)) (i (l (.f1 32 (r 27)) (a 26)) (i (.f2 50 ZwK (e (.f1 32 (r 27)) z)) (.and (i (e (.f1 33 (m 21)) z) (n (e (.f1 32 (r 27)) (.f1 32 (r 27))) (n (l (.f1 32 (r 27)) k1) (u 28 .rows (i (e (.f1 32 (r 28)) (.f1 32 (r 27))) (i (c 580 (r 27) (r 28)) (u 29 .int (i ZuM (u 30 .int (i Zwv (n (e (.f2 40 Zvi (.f1 32 (r 27))) (.f1 32 (r 28))) (n (y 596 Yv z (.f1 155 z)) (n (e (x 595 Yv (r 28) Y1) (a 24)) (n (e (x 594 Yv (r 28) Y1) (a 23)) (n (e Zvi z) (u 31 .int (u 32 .int (u 33 .int (u 34 .int (u 35 .amap (i (l z (a 31)) (i (l (a 31) ZgN) (i (l z (a 33)) (i (l (a 33) (a 34)) (i (e (.f2 40 Zjx (a 33)) (.f1 32 (r 28))) (i (y 596 Yv (a 31) (m 35)) (.and (i (t (a 31) ZgN) (n (c 565 (r 13) Zph) (i (e Zph ZwQ) (i (t Zbs ZnW) (i (l ZdS (.f3 112 (r 13) Zbs (k 3))) (i (l ZwI (.f3 112 (r 13) Zbs (k 5))) (i (.f2 50 (l z (.f3 112 (r 13) Zbs (k 2))) (e ZdS z)) (i (.f2 50 (l z (.f3 112 (r 13) Zbs (k 4))) (e ZwI z)) (i (l z (.f3 112 (r 13) Zbs (k 1))) (i (l z ZwQ) (i Znx (n Zw6 (n Zrf (n Zty (u 36 .int (u 37 .int (u 38 .int (i Zq0 (i ZrD (i (e (.f2 40 Zq9 (a 37)) (.f1 32 (r 28))) (n (e (.us .int 598 ZfO ZaK z (m 35)) Zq1) (n (e (.us .int 597 ZfO ZaK z (m 35)) Zuq) (u 39 .int (i (l z (a 39)) (i (l (a 39) ZdS) (.and (i (t (a 39) ZdS) (u 40 .int (i (l z (a 40)) (u 41 .bool (i (.f2 48 (q 41) (c 530 (m 35) (.f2 122 (.f3 112 ZaK (a 39) (k 1)) (.f2 122 (.f3 112 ZaK (a 39) (k 2)) (.f2 122 (.f1 35 (.f1 36 (.f3 112 ZaK (a 39) (k 3)))) (.f2 122 (.f1 35 (.f1 36 (.f3 112 ZaK (a 39) (k 4)))) (.f2 122 (.f1 3 (.f1 2 (e (.f3 112 ZaK (a 39) (k 5)) z))) (.f2 122 (.f3 112 ZaK (a 39) (k 6)) (.f1 152 z))))))))) (.and (i (.f1 2 (q 41)) (n ZrN (n ZqY (n Zrj (n Zt6 (n ZvU (n (e Zsz (.us .int 583 Zks ZjG Zru (k 4))) (n (e ZvG (.us .int 582 Zks ZjG Zru (k 4))) .tt)))))))) (i (.f1 2 (.f1 2 (q 41))) (n ZrN (n ZqY (n Zrj (n Zt6 (n ZvU (n (e Zsz ZjG) (n (e ZvG Zks) .tt)))))))))))))) (i (l ZdS (a 39)) (u 40 .amap (i (y 531 (m 35) (wM0 544 Zb8 Zbs) (m 40)) (n (l z Zbs) (n (.f1 23 Zdn) (n (l z Zv7) (n (t Zv7 (.f2 41 ZgN (a 31))) (n (l z Zdn) (n (l Zdn ZgN) (n (e (.f2 40 ZuF (a 37)) (.f1 32 (r 28))) (n (y 596 Yv Zdn (m 40)) (n (e (.us .int 595 Yv (r 28) Y1 Zdn) ZjG) (n (e (.us .int 594 Yv (r 28) Y1 Zdn) Zks) (n (e ZuF Zq9) .tt)))))))))))))))))))))))))))))))))))))))) (i (l ZgN (a 31)) (n Zw6 (n Zrf (n Zty (u 36 .int (u 37 .int (u 38 .int (i Zq0 (i ZrD (i (e (.f2 40 (x 590 (r 28) (m 35) Zo5) (a 37)) (.f1 32 (r 28))) (.and (i ZrH (n (e (k (-1)) Zsk) (n ZBP (n Zpt .tt)))) (i (.f1 2 ZrH) (n (e (x 591 (r 28) (m 35) Zo5) Zsk) (n (e Zto ZyY) (n Zpt .tt)))))))))))))))))))))))))))))))))))))))))) (u 28 .int (i (.f2 141 (m 21) (a 28)) (n (c 565 (r 13) Zne) (i Zua (i ZrA (i ZsW (i Zv9 (i Ztf (i Zvj (i Zr9 (i ZwJ (i Znx (n (e (d 585 Y1 ZdR) (a 24)) (n (e (d 584 Y1 ZdR) (a 23)) (u 29 .int (i ZuM (i (l (a 29) Zdr) (.and (i (t (a 29) Zdr) (n (.f1 23 Zgf) (n (l z Zsj) (n (t Zsj (.f2 41 Zdr (a 29))) (n (l z Zgf) (n (l Zgf Zdr) (n (e (x 585 Y1 ZdR Zgf) (.us .int 583 Zn1 Zod Zu7 (k 3))) (n (e (x 584 Y1 ZdR Zgf) (.us .int 582 Zn1 Zod Zu7 (k 3))) .tt)))))))) (i (l Zdr (a 29)) (n (l z ZbZ) (.and (i (t Zvn z) (i Zua (i ZrA (i ZsW (i Zv9 (i Ztf (i Zvj (i Zr9 (i ZwJ (i Znx (n (l (.f1 32 (r 27)) (.f1 32 (r 27))) (n (l (.f2 42 Zos (k 72)) k1) (n (l Zg8 Zg8) (u 30 .int (u 31 .int (i (l Zos (a 31)) (i (.f2 50 Zwv (e Zos z)) (n ZwD (n Zw9 (n Zsv (n (y 587 Yv Zhm (.f2 121 (r 27) ZrX)) .tt))))))))))))))))))))) (i (l z Zvn) (n ZwD (n Zw9 (n Zsv (n (y 587 Yv Zhm (r 27)) .tt)))))))))))))))))))))))))))))))))))))))))))))))))))))))))))))))))))))))))))))))))))))
theorem ZEZ : Zb4 Try.prog ZGm 12 7 Znf = ZEa := by kernel_rfl
theorem Zzi (S : Sig GG) (hS : JsSig S) : ZH S Try.prog 7 Znf := by
 refine Zp S (C := ZGm) (fuel := 12) (Zab ⟨Zm (by decide) (ZzL S hS), Zm (by decide) (Zvg S hS.jt), Zm (by decide) (ZnS S hS.jt.jb), Zm (by decide) (Zt2 S hS.jt.jb), Zm (by decide) (ZEC S hS), Zm (by decide) (ZDQ S hS), Zm (by decide) (ZDG S hS), trivial⟩ ⟨⟨⟨by decide, Zmf S hS.jt⟩, trivial, ⟨by decide, Zcs S hS.jt⟩, trivial, ⟨by decide, Zcg S hS.jt⟩, ⟨by decide, Zcs S hS.jt⟩, ⟨by decide, Zcg S hS.jt⟩, trivial, ⟨by decide, Zcs S hS.jt⟩, trivial, ⟨by decide, Zcg S hS.jt⟩, trivial⟩, trivial⟩ trivial) fun ρ => ?_
 rw [ZEZ]
 simp only [ZEa, Yv, ZA2, ZyG, Zsk, ZyY, ZBP, ZB3, Zj9, Zxq, ZgN, ZsZ, ZeI, ZvN, Zb8, ZoH, Zpt, ZeC, Y1, ZwK, ZuM, Zwv, Zvi, Zjx, Zph, Zbs, ZwQ, ZnW, ZaK, ZdS, ZwI, Znx, Zw6, Zrf, Zty, Zq0, ZrD, ZwN, ZtJ, Zox, Zq9, Zuq, Zq1, ZfO, ZfU, ZrN, Zry, ZqY, Zrj, Zt6, ZvU, Zsz, Zks, ZjG, Zru, ZvG, Zdn, Zv7, ZuF, Zo5, Zto, ZrH, Zne, ZbZ, Zwp, Zua, ZrA, ZrX, Zg8, ZsW, ZdR, Zdr, Zv9, Ztf, Zvj, Zr9, ZwJ, Zgf, Zsj, Zn1, Zod, Zu7, Zvn, Zos, Zhm, ZwD, Zw9, Zsv, hS.jt.jb.rf.u520, hS.jt.jb.rf.u521, hS.jt.jb.rf.u522, hS.jt.jb.rf.u523, hS.jt.jb.u530, hS.jt.jb.u531, hS.jt.u542, hS.jt.u544, hS.jt.u545, hS.jt.u546, hS.jt.u547, hS.jt.u548, hS.jt.u549, hS.jt.u550, hS.jt.u551, hS.jt.u552, hS.jt.u558, hS.jt.u560, hS.jt.u561, hS.jt.u565, hS.jt.u566, hS.jt.u571, hS.u580, hS.u582, hS.u583, hS.u584, hS.u585, hS.u586, hS.u587, hS.u590, hS.u591, hS.u592, hS.u593, hS.u594, hS.u595, hS.u596, hS.u597, hS.u598, ZT, ZGO, VC.den, SX.den, Env.upd, Y3, ZY, beq_iff_eq, ZGG, beq_eq_false_iff_ne, ne_eq, ZGF, ZGE, Int.reduceToNat, Nat.reduceEqDiff, reduceIte, sB]
 generalize hX : (ρ 4).tR.take (ρ 2).tI.toNat = X
 generalize hlen : (ρ 2).tI = l at *
 intro h1 h2 h3 h4
 have hl : l = (X.length : Nat) := by rw [<- hX, ZGJ]; omega
 subst hl
 clear hX hlen
 simp only [ZGO, ZiY]
 intro b e he hb
 have hpl : ∀ (R : List (List Int)) (ks : List Nat), (Zbf R ks).length = ks.length := fun R ks => by unfold Zbf; rw [ZGR]
 have hwf := ZeD X X.length
 have prOf2 : ∀ u v : Int, ZkO [u, v] = (u, v) := fun _ _ => rfl
 simp only [hpl, prOf2, ZrL, Ziv, Zfg, ZGO]
 refine ⟨fun hne => ?_, fun h0 => ⟨?_, ?_⟩⟩
 ·rw [ZrM (by rw [<- he]; exact hne)]; exact ⟨rfl, rfl, he, trivial⟩
 ·rw [h0] at hb; exact Za.1 (by rw [hb]; rfl)
 have hc : ZaA X = 0 := by rw [<- he]; exact h0
 intro ma kb kc ob oc R q1 q2 q3 q4 q5 q6 q7 q8 q9
 refine ⟨fun hf => ?_, fun hf => ?_⟩
 ·rw [ZkM hc hf]; exact ⟨rfl, rfl, rfl, trivial⟩
 have hgo : Go X (ZV X X.length) := ZAl hc hf
 have h400 := ZfF hc
 rw [ZxK hc hgo]
 have hfin := @ZqD X _ hgo
 have hbl := fun t ht => ZEl hgo (t := t) ht
 have hll := ZBj hwf h400
 have hall : ∀ t ∈ (ZV X X.length).txs, Zt (Zei R (ZV X X.length).txs) t.who = true := Zdq q6.1
 have hget := fun w => ZbC (w := w) q6.1 0
 have hkeys := Zf4 q6.1
 have hkept : ∀ n < (ZV X X.length).kept.length, (ZV X X.length).kept.getD n 0 < R.length := fun n hn => by rw [q6.1]; exact (hgo.kw hn).1
 have hmst := @Zn4 (ZV X X.length)
 have hbst := @Zym (ZV X X.length)
 have hlst := @Zy0 (ZV X X.length)
 have hki : ∀ left i r, Zxd (ZV X X.length) left i r -> True := fun _ _ _ _ => trivial
 generalize ZV X X.length = B at *
 intro ca p1 cw p2 cn p3
 refine ⟨trivial, by omega, fun cb cc p4 p5 lb p6 it p7 => ?_⟩
 refine ⟨⟨by rw [hkeys]; exact hwf.nd, fun k hk => hk⟩, ZxO hall _, by rw [Zxl hall], fun left cur a w lob loc lo g1 g2 g3 g4 g5 => ?_⟩
 refine ⟨fun hz => ?_, fun k hk => ?_⟩
 ·have hz : left = [] := ZGW (by omega)
  subst hz
  refine ⟨trivial, by have := g3.length_eq; have := hll []; omega, fun L s1 s2 mb p8 nb p9 => ?_⟩
  refine ⟨by have : (YJ B L (a, w) 0).1 = 0 := rfl; omega, map_nil B, rfl, rfl, rfl, fun k z l c M j1 j2 j3 j4 j5 j6 => ?_⟩
  obtain ⟨n, rfl⟩ := ZGz j1
  have en : ((n : Int) + 1).toNat = n + 1 := by omega
  simp only [ZGO, en] at j5 j6 ⊢
  have hends : ∀ pl, ZeT (ZR M) L pl (YJ B L (a, w) n).1 (YJ B L (a, w) n).2 = ZeT (ZQ (stF B n)) L pl (YJ B L (a, w) n).1 (YJ B L (a, w) n).2 := fun pl => ZE6 j6 L pl _ _
  have hlen : L.length <= 1000000 := by have := g3.length_eq; have := hll []; omega
  have hlo : 0 <= lob \/ l = 0 := by
   rcases g5 with g5 | g5
   ·exact .inl g5
   ·right; omega
  refine ⟨fun hn => ?_, fun hn => ?_⟩
  ·have hn : n < B.kept.length := by omega
   have hJ := hkept n hn
   have hJt : B.kept.getD n 0 < B.txs.length := by rw [<- q6.1]; exact hJ
   have hri := ZaG q6.2.1 hJ
   simp only [Zv8 hn, hri, Zci]
   refine ⟨⟨_, hJ, rfl⟩, fun _ _ _ _ _ _ _ _ _ => ⟨by omega, by omega, hlo, fun z' l' c' j7 j8 j9 => ?_⟩⟩
   have hk1 : YJ B L (a, w) (n + 1) = ((ZeT (ZQ (stF B n)) L (B.txs.getD (B.kept.getD n 0) tx0).com (YJ B L (a, w) n).1 (YJ B L (a, w) n).2).1, Zix (ZQ (stF B n)) (ZeT (ZQ (stF B n)) L (B.txs.getD (B.kept.getD n 0) tx0).com (YJ B L (a, w) n).1 (YJ B L (a, w) n).2).2 (B.txs.getD (B.kept.getD n 0) tx0).rds (B.txs.getD (B.kept.getD n 0) tx0).rds.length) := rfl
   rw [<- hends] at hk1
   have hms := fun M' (hl : ZsH M (B.txs.getD (B.kept.getD n 0) tx0).ch M') => hmst j6 rfl hl
   have hrl := (hwf.rl _ (hgo.kt hn)).1
   generalize B.txs.getD (B.kept.getD n 0) tx0 = t at *
   generalize ZeT (ZR M) L t.com (YJ B L (a, w) n).1 (YJ B L (a, w) n).2 = E at *
   refine ⟨rfl, rfl, fun jj j10 j11 => ⟨fun hlt tb htb v hv => ?_, fun hge M' hl => ?_⟩⟩
   ·obtain ⟨m, rfl⟩ := ZGz j10
    have em : ((m : Int) + 1).toNat = m + 1 := by omega
    simp only [ZGO, em] at hv ⊢
    have st : Zix (ZR M) E.2 t.rds (m + 1) = if ZR M ((t.rds.getD m []).drop 1) = true then Zix (ZR M) E.2 t.rds m else ZdD (Zix (ZR M) E.2 t.rds m) (g0 (t.rds.getD m [])) 4 := rfl
    refine ⟨fun hn => ?_, fun hn => ?_⟩
    ·have hn : ¬ ZR M ((t.rds.getD m []).drop 1) = true := by rw [<- hv]; simpa using hn
     rw [if_neg hn] at st
     rw [st]
     exact ⟨⟨by omega, by omega⟩, by omega, by omega, by omega, by omega, rfl, rfl, trivial⟩
    ·have hn : ZR M ((t.rds.getD m []).drop 1) = true := by rw [<- hv]; simpa using hn
     rw [if_pos hn] at st
     rw [st]
     exact ⟨⟨by omega, by omega⟩, by omega, by omega, by omega, by omega, rfl, rfl, trivial⟩
   ·have hjj : jj.toNat = t.rds.length := by omega
    have hrd : Zix (ZQ (stF B n)) E.2 t.rds t.rds.length = Zix (ZR M) E.2 t.rds t.rds.length := (Zzr j6 _ _ _).symm
    rw [hjj, hk1, hrd]
    exact ⟨by omega, ⟨by omega, by omega⟩, by omega, by omega, by omega, by omega, j9, hms M' hl, rfl, rfl, rfl, trivial⟩
  ·have hn : n = B.kept.length := by omega
   subst hn
   refine ⟨by omega, by omega, hlo, fun z' l' c' j7 j8 j9 => ?_⟩
   have hf := hfin g2 g3 (L := L) s2
   simp only [hends] at *
   generalize ZeT (ZQ (stF B B.kept.length)) L (X.length : Int) (YJ B L (a, w) B.kept.length).1 (YJ B L (a, w) B.kept.length).2 = E at *
   refine ⟨fun hz => ?_, fun hz => ?_⟩
   ·rw [if_pos hz] at hf
    rw [<- hf]; exact ⟨rfl, rfl, trivial, trivial⟩
   ·rw [if_neg hz] at hf
    rw [<- hf]; exact ⟨rfl, rfl, trivial, trivial⟩
 ·have hm := g1.2 k hk
  obtain ⟨e1, e2⟩ := hget k
  rw [hm] at e2
  have hjl : ixL k B.txs < B.txs.length := of_decide_eq_true e2.symm
  rw [if_pos hjl] at e1
  have hbs := fun i r => hbst g1.1 hwf.nd (k := k) rfl hjl i r
  have hls := hlst g1.1 hwf.nd (k := k) rfl hjl hk
  have hdel : (YQ left k).length < left.length := ZcV hk
  have hnd := Zbr g1.1 k
  have hsub : ∀ q, Zt (YQ left k) q = true -> Zt (Zei R B.txs) q = true := fun q hq => by
   rw [mhas_del' g1.1] at hq
   split at hq
   ·cases hq
   ·exact g1.2 q hq
  have hml := hll (YQ left k)
  generalize ixL k B.txs = j at *
  have hJ : j < R.length := by rw [q6.1]; exact hjl
  have hri := ZaG q6.2.1 hJ
  have htm : B.txs.getD j tx0 ∈ B.txs := by rw [Yl hjl]; exact ZG4 hjl
  have hbt := hbl _ htm
  have hbw := (hwf.rl _ htm).2
  simp only [e1, hri, Zci]
  generalize B.txs.getD j tx0 = t at *
  refine ⟨⟨_, hJ, rfl⟩, fun _ _ _ _ _ _ _ _ _ => ⟨rfl, rfl, fun i i0 i1 => ⟨fun hlt => ?_, fun hge => ?_⟩⟩⟩
  ·obtain ⟨m, rfl⟩ := ZGz i0
   have em : ((m : Int) + 1).toNat = m + 1 := by omega
   simp only [ZGO, em]
   exact ⟨⟨by omega, by omega⟩, by omega, by omega, by omega, by omega, rfl, rfl, trivial⟩
  ·have hii : i.toNat = t.bad.length := by omega
   rw [hii]
   have hLP : Ys (Zxd B (YQ left k)) (X.length : Int) (ZAp (a, w) t.bad t.bad.length) :=
    (ZnO g2 t.bad (fun i hi => hbt i hi) _ (ZGx _)).congr fun i r => by rw [hbs, List.take_length]
   refine ⟨by omega, fun hcm _ _ _ _ _ _ _ _ _ => ?_, fun hcm => ?_⟩
   ·rw [if_pos hcm] at hls
    have hpm := (g3.append_right t.rds).trans hls.symm
    have hpl := hpm.length_eq
    rw [ZGM] at hpl
    exact ⟨by omega, by omega, by omega, fun _ _ _ _ => ⟨by omega, ⟨hnd, hsub⟩, hLP, hpm, trivial⟩⟩
   ·rw [if_neg (by omega), List.append_nil] at hls
    exact ⟨by omega, ⟨hnd, hsub⟩, hLP, g3.trans hls.symm, trivial⟩
def Zza : Ctr := ⟨[], [], [], [], [], .one (.bool (.bool true)), [], []⟩
def bR (x k : Nat) : SX := .f1 36 (nt (rA x) z0 k)
def ZDo : Ctr := ⟨[.int, .rows, .int, .rows], [.one (slC (ai 0) (Zk (rA 1)) (ai 2) 2)], [prC (rA 1) (rA 3)], [.f2 45 (Zk (rA 1)) (.int 1)], [], .tup [],
 [bAr (nt (rA 1) z0 0) (bR 3 0) (nt (rA 1) z0 2), bAr (nt (rA 1) z0 3) (bR 3 1) (nt (rA 1) z0 5)], [.f2 45 (nt (rA 1) z0 1) (ZyQ (bR 3 0)), .f2 45 (nt (rA 1) z0 4) (ZyQ (bR 3 1)), eLe (nt (rA 1) z0 1) (nt (rA 1) z0 2), eLe (nt (rA 1) z0 4) (nt (rA 1) z0 5), eLe z0 (nt (rA 1) z0 0), eLe z0 (nt (rA 1) z0 3)]⟩
theorem ZGa (S : Sig GG) (hS : FiSig S) : ZcQ S ZDo := by
 refine ZaR S fun T w0 ρ h hu hp hd hr hpre => ⟨ρ, Ext.refl _ _, ?_⟩
 have e1 : hpDen T ρ w0 ZDo.pre = Zd (T.prd 110 w0 ((rA 1).den T ρ) ((rA 3).den T ρ)) emp := rfl
 have r0 := ZmM (hr (.f2 45 (Zk (rA 1)) (.int 1)) (by simp [ZDo]))
 have r0 : (((ρ 1).tR.length : Nat) : Int) = 1 := r0
 rw [e1, Zi, hp, hS.p110] at hpre
 have hpre : prH (ρ 1).tR (ρ 3).tR h := hpre
 have hl := ZmU hpre
 have e2 : hpDen T ρ w0 ZDo.post = Zd (bAD (((ρ 1).tR.getD 0 []).getD 0 0) (Za6 (((ρ 3).tR.getD 0 []).getD 0 0).toNat) (((ρ 1).tR.getD 0 []).getD 2 0)) (Zd (bAD (((ρ 1).tR.getD 0 []).getD 3 0) (Za6 (((ρ 3).tR.getD 0 []).getD 1 0).toNat) (((ρ 1).tR.getD 0 []).getD 5 0)) emp) := rfl
 rw [e2, Zi]
 have k : ∀ n, (nt (rA 1) z0 n).den T ρ = .int (((ρ 1).tR.getD 0 []).getD n 0) := fun n => rfl
 have kb : ∀ n, (bR 3 n).den T ρ = .bytes (Za6 (((ρ 3).tR.getD 0 []).getD n 0).toNat) := fun n => rfl
 cases hR : (ρ 1).tR with
 | nil => rw [hR] at r0; cases r0
 | cons r R =>
  have hn : R = [] := ZGW (by rw [hR, ZG1] at r0; omega)
  subst hn
  cases hW : (ρ 3).tR with
  | nil => rw [hR, hW] at hl; cases hl
  | cons w W =>
   have hn : W = [] := ZGW (by rw [hR, hW] at hl; simpa using hl.symm)
   subst hn
   rw [hR, hW] at hpre
   have hq : itP r w h := by rw [<- ZuZ]; exact hpre
   obtain ⟨⟨f1, f2, f3, f4, f5, f6⟩, hh⟩ := hq
   refine ⟨hh, fun x hx => ?_⟩
   simp only [ZDo, List.mem_cons, List.not_mem_nil, or_false] at hx
   rcases hx with rfl | rfl | rfl | rfl | rfl | rfl
   ·show (ap2 45 ((nt (rA 1) z0 1).den T ρ) ((ZyQ (bR 3 0)).den T ρ)).tP
    rw [p45]
    show ((ρ 1).tR.getD 0 []).getD 1 0 = ((Za6 (((ρ 3).tR.getD 0 []).getD 0 0).toNat).length : Nat)
    rw [hR, hW]; exact f1
   ·show (ap2 45 ((nt (rA 1) z0 4).den T ρ) ((ZyQ (bR 3 1)).den T ρ)).tP
    rw [p45]
    show ((ρ 1).tR.getD 0 []).getD 4 0 = ((Za6 (((ρ 3).tR.getD 0 []).getD 1 0).toNat).length : Nat)
    rw [hR, hW]; exact f2
   ·rw [Ze]
    show ((ρ 1).tR.getD 0 []).getD 1 0 <= ((ρ 1).tR.getD 0 []).getD 2 0
    rw [hR]; exact f3
   ·rw [Ze]
    show ((ρ 1).tR.getD 0 []).getD 4 0 <= ((ρ 1).tR.getD 0 []).getD 5 0
    rw [hR]; exact f4
   ·rw [Ze]
    show 0 <= ((ρ 1).tR.getD 0 []).getD 0 0
    rw [hR]; exact f5
   ·rw [Ze]
    show 0 <= ((ρ 1).tR.getD 0 []).getD 3 0
    rw [hR]; exact f6
def ZGf : Cx := { specs := [(7, [Znf]), (8, [Zo7]), (9, [Zoa])], anns := [(5, [(10, .ghost ZDo [.tmp 5])])] }
def ZzB : Ctr := Zza
def ZDm : SX := .f2 122 z (.f1 152 z)
def ZBN : SX := .f2 122 (.f1 35 (.byt [])) (.f2 122 z ZDm)
def Zxy : SX := .f2 122 (.f1 35 (.byt [])) ZBN
def ZAb : SX := .f2 122 (k 1) (.f2 122 (k 1) Zxy)
def ZCH : SX := .f2 122 (k 3) (.f2 122 (k 1) (.f2 122 (.f1 35 (.byt [107])) (.f2 122 (.f1 35 (.byt [120])) (.f2 122 (k 1) ZDm))))
def ZCi : SX := .f2 122 (k 1) (.f2 122 (k 2) Zxy)
def ZAa : SX := .f2 122 (k 5) (.f2 122 (k 1) (.f2 122 (.f1 35 (.byt [])) (.f2 122 (.f1 35 (.byt [])) (.f2 122 z (.f2 122 (k 1) (.f1 152 z))))))
def Zim : SX := .f2 124 ZAb (.f2 124 ZCH (.f2 124 ZCi (.f2 124 (.f2 122 (k 2) (.f2 122 (k 2) (.f2 122 (.f1 35 (.byt [107])) ZBN))) (.f2 124 ZAa (.f2 124 (.f2 122 (k 5) (.f2 122 (k 2) (.f2 122 (.f1 35 (.byt [])) (.f2 122 (.f1 35 (.byt [])) (.f2 122 z (.f2 122 (k 2) (.f1 152 z))))))) (.f1 154 z))))))
def Zy1 : SX := vR 603 Zim
def Zyp : SX := o 660 Zim
def ZfB : SX := .f1 30 Zyp
def Znw : SX := .f2 124 ZAb (.f2 124 ZCH (.f2 124 ZCi (.f1 154 z)))
def Znm : SX := .f2 124 (.f2 122 (k 8) (.f2 122 z Zxy)) (.f1 154 z)
def ZnG : SX := .f2 124 ZAa (.f1 154 z)
def Zn2 : SX := .f1 30 (o 660 ZnG)
def ZwY : SX := e (a 7) (k 3)
def ZuV : SX := e (a 8) (k 4)
def ZsM : SX := e (a 9) z
def ZtH : SX := e (.f1 32 (r 11)) (k 1)
def Zr3 : SX := e (a 13) z
def ZtG : SX := e ZfB (k 2)
def ZvY : SX := e (a 17) z
def Zaa : SX := .f2 155 (.bool true) (.bool false)
def ZhI : SX := .f3 112 (r 11) z (k 1)
def Zvy : SX := .f1 36 (.f3 112 Zy1 z z)
def Zsu : SX := .f1 31 Zvy
def Zg4 : SX := .f3 112 (r 11) z (k 4)
def Zr8 : SX := .f1 36 (.f3 112 Zy1 z (k 1))
def Zrg : SX := .f1 31 Zr8
def ZrR : SX := .f2 150 (.f2 114 Zvy ZhI) (.byt [107])
def ZvR : SX := .f2 150 (.f2 114 Zr8 Zg4) (.byt [120])
def Zun : SX := e (.f2 110 Zyp z) (k 2)
def Zub : SX := e (.f2 110 Zyp (k 1)) (k 1)
def ZsN : SX := e (a 18) (k (-1))
def Zq7 : SX := e (a 19) z
def Zwj : SX := e (a 20) z
def Zrt : SX := e (a 24) (k 280)
def ZE3 : VC := u 0 .int (i (l z (a 0)) (u 1 .int (i (l z (a 1)) (u 2 .int (i (l z (a 2)) (u 3 .int (i (l z (a 3)) (u 4 .int (i (l z (a 4)) (u 5 .int (i (l z (a 5)) (u 6 .int (i (l z (a 6)) (u 7 .int (u 8 .int (u 9 .int (i (e (a 7) (v 520 Zim)) (i (e (a 8) (v 521 Zim)) (i (e (a 9) (v 522 Zim)) (u 10 .int (u 11 .rows (u 12 .int (u 13 .int (i (e (a 13) (v 604 Zim)) (i (e (.f1 32 (r 11)) (.f1 32 Zy1)) (i (l (.f1 32 (r 11)) (a 12)) (i (.f2 50 (l z (a 10)) (e (.f1 32 (r 11)) z)) (u 14 .int (u 15 .int (u 16 .bool (u 17 .int (i (.f2 48 (q 16) (p 661 Zim)) (i (e (a 17) (v 662 Zim)) (i (l ZfB (a 15)) (i (.f2 50 (l z (a 14)) (e ZfB z)) (i (l ZfB (k 8)) (u 18 .int (u 19 .int (u 20 .int (i (e (a 18) (v 520 Znw)) (i (e (a 19) (v 521 Znw)) (i (e (a 20) (v 522 Znw)) (u 21 .int (i (l z (a 21)) (u 22 .int (u 23 .int (u 24 .int (i (e (a 22) (v 520 Znm)) (i (e (a 23) (v 521 Znm)) (i (e (a 24) (v 522 Znm)) (u 25 .int (i (l z (a 25)) (u 26 .int (i (l z (a 26)) (u 27 .int (u 28 .int (u 29 .bool (u 30 .int (i (.f2 48 (q 29) (p 661 ZnG)) (i (e (a 30) (v 662 ZnG)) (i (l Zn2 (a 28)) (i (.f2 50 (l z (a 27)) (e Zn2 z)) (i (l Zn2 (k 8)) (.and (i ZwY (.and (i ZuV (.and (i ZsM (.and (i ZtH (.and (i Zr3 (.and (i ZtG (.and (i (.f1 2 (.f1 2 (q 16))) (.and (i (.f1 2 ZvY) (n Zaa .tt)) (i ZvY (i (e ZhI Zsu) (i (e Zg4 Zrg) (i (l ZhI (.f3 112 (r 11) z (k 2))) (i (l Zg4 (.f3 112 (r 11) z (k 5))) (i (l z (.f3 112 (r 11) z z)) (i (l z (.f3 112 (r 11) z (k 3))) (n (t z (.f1 32 (r 11))) (n (l z ZhI) (n (l ZhI Zsu) (.and (i ZrR (n (l z Zg4) (n (l Zg4 Zrg) (.and (i ZvR (n (t z ZfB) (.and (i Zun (n (t (k 1) ZfB) (.and (i Zub (.and (i ZsN (.and (i Zq7 (.and (i Zwj (.and (i Zrt (n (.f2 155 (.bool true) (e (a 30) (k 280))) .tt)) (i (.f1 2 Zrt) (n Zaa .tt)))) (i (.f1 2 Zwj) (n Zaa .tt)))) (i (.f1 2 Zq7) (n Zaa .tt)))) (i (.f1 2 ZsN) (n Zaa .tt)))) (i (.f1 2 Zub) (n Zaa .tt))))) (i (.f1 2 Zun) (n Zaa .tt))))) (i (.f1 2 ZvR) (n Zaa .tt)))))) (i (.f1 2 ZrR) (n Zaa .tt))))))))))))))) (i (.f1 2 (q 16)) (n Zaa .tt)))) (i (.f1 2 ZtG) (n Zaa .tt)))) (i (.f1 2 Zr3) (n Zaa .tt)))) (i (.f1 2 ZtH) (n Zaa .tt)))) (i (.f1 2 ZsM) (n Zaa .tt)))) (i (.f1 2 ZuV) (n Zaa .tt)))) (i (.f1 2 ZwY) (n Zaa .tt))))))))))))))))))))))))))))))))))))))))))))))))))))))))))))))))))
theorem ZEF : Zb4 Try.prog ZGf 12 5 ZzB = ZE3 := by kernel_rfl
theorem ZDy (S : Sig GG) (hS : OrSig S) : ZH S Try.prog 5 ZzB := by
 refine Zp S (C := ZGf) (fuel := 12) (Zab ⟨Zm (by decide) (Zzi S hS.ou.ft.od.fi.js), Zm (by decide) (ZzI S hS.ou.ft.od.fi), Zm (by decide) (Zze S hS), trivial⟩ ⟨⟨⟨by decide, ZGa S hS.ou.ft.od.fi⟩, trivial⟩, trivial⟩ trivial) fun ρ => ?_
 rw [ZEF]
 simp only [ZE3, ZDm, ZBN, Zxy, ZAb, ZCH, ZCi, ZAa, Zim, Zy1, Zyp, ZfB, Znw, Znm, ZnG, Zn2, ZwY, ZuV, ZsM, ZtH, Zr3, ZtG, ZvY, Zaa, ZhI, Zvy, Zsu, Zg4, Zr8, Zrg, ZrR, ZvR, Zun, Zub, ZsN, Zq7, Zwj, Zrt, hS.ou.ft.od.fi.js.jt.jb.rf.u520, hS.ou.ft.od.fi.js.jt.jb.rf.u521, hS.ou.ft.od.fi.js.jt.jb.rf.u522, hS.ou.ft.od.fi.u603, hS.ou.ft.od.fi.u604, hS.u660, hS.u661, hS.u662, ZT, ZGO, VC.den, SX.den, Env.upd, Y3, ZY, beq_iff_eq, ZGG, beq_eq_false_iff_ne, ne_eq, ZGF, ZGE, Int.reduceToNat, Nat.reduceEqDiff, reduceIte, sB]
 have eH : ([[1, 1, ((Zq [] : Nat) : Int), ((Zq [] : Nat) : Int), 0, 0], [3, 1, ((Zq [107] : Nat) : Int), ((Zq [120] : Nat) : Int), 1, 0], [1, 2, ((Zq [] : Nat) : Int), ((Zq [] : Nat) : Int), 0, 0], [2, 2, ((Zq [107] : Nat) : Int), ((Zq [] : Nat) : Int), 0, 0], [5, 1, ((Zq [] : Nat) : Int), ((Zq [] : Nat) : Int), 0, 1], [5, 2, ((Zq [] : Nat) : Int), ((Zq [] : Nat) : Int), 0, 2]] : List Ent) = awH := rfl
 have eK : ([[1, 1, ((Zq [] : Nat) : Int), ((Zq [] : Nat) : Int), 0, 0], [3, 1, ((Zq [107] : Nat) : Int), ((Zq [120] : Nat) : Int), 1, 0], [1, 2, ((Zq [] : Nat) : Int), ((Zq [] : Nat) : Int), 0, 0]] : List Ent) = awK := rfl
 have e8 : ([[8, 0, ((Zq [] : Nat) : Int), ((Zq [] : Nat) : Int), 0, 0]] : List Ent) = aw8 := rfl
 have e5 : ([[5, 1, ((Zq [] : Nat) : Int), ((Zq [] : Nat) : Int), 0, 1]] : List Ent) = aw5 := rfl
 have l1 : (Option.getD (some [2, 1]) [] : List Int) = [2, 1] := rfl
 have d1 : Za6 ((([[((Zq [107] : Nat) : Int), ((Zq [120] : Nat) : Int)]] : List (List Int)).getD 0 []).getD 0 0).toNat = [107] := by
  show Za6 (Int.toNat (Zq [107] : Nat)) = _
  rw [ZGO, Zn]
 have d2 : Za6 ((([[((Zq [107] : Nat) : Int), ((Zq [120] : Nat) : Int)]] : List (List Int)).getD 0 []).getD 1 0).toNat = [120] := by
  show Za6 (Int.toNat (Zq [120] : Nat)) = _
  rw [ZGO, Zn]
 simp only [eH, eK, e8, e5, aw_1, aw_2, aw_3, aw_4, aw_5, aw_6, aw_7, aw_8, l1, d1, d2]
 repeat' (first | exact trivial | apply And.intro | intro _)
 all_goals first
  | omega
  | rfl
  | (simp_all; done)
structure SbSig (S : Sig GG) : Prop where
 og : OrSig S
 u690 : ∀ a b c d, S.usr 690 a b c d = .rows (bhN a.tR b.tN c.tI.toNat ++ ZX a.tR (b.tN.getD c.tI.toNat 0) d.tI.toNat)
def bhW (i k : SX) : SX := .us .rows 690 (rA 4) (iA 8) i k
def bhL : SX := Zdc (iA 8)
def ZtZ : Ctr := ⟨hA ++ [.int, .int, .ints], [.one (hS 0), .one (sl1 (ai 6) bhL (ai 7))], [hC 0 0, iAr (ai 6) (iA 8) (ai 7)], hQ 0 ++ [eLe (ai 2) (.int 400), eLe bhL (.int 8), eLe bhL (ai 7)], [.int, .int], .one (slC (ai 9) (Zk (bhW bhL z0)) (ai 10) 6),
 [hC 0 0, iAr (ai 6) (iA 8) (ai 7), .arr hE (ai 9) (bhW bhL z0) (ai 10)], [eLe (Zk (bhW bhL z0)) (ai 10), .f2 50 (eLe z0 (ai 9)) (.f2 45 (Zk (bhW bhL z0)) z0)]⟩
def bhdI : Inv := ⟨[.int, .int, .int], [(6, .one (.int .i64 (di 0))), (5, .one (slC (di 1) (Zk (bhW (di 0) z0)) (di 2) 6))], [.arr hE (di 1) (bhW (di 0) z0) (di 2)], [eLe z0 (di 0), eLe (di 0) bhL, eLe (Zk (bhW (di 0) z0)) (di 2), .f2 50 (eLe z0 (di 1)) (.f2 45 (Zk (bhW (di 0) z0)) z0)], .f2 41 bhL (di 0)⟩
def bhdJ : Inv := ⟨[.int, .int, .int], [(7, .one (.int .i64 (di 0))), (5, .one (slC (di 1) (Zk (bhW (ai 9) (di 0))) (di 2) 6))], [.arr hE (di 1) (bhW (ai 9) (di 0)) (di 2)], [eLe z0 (di 0), eLe (di 0) (ai 2), eLe (Zk (bhW (ai 9) (di 0))) (di 2), .f2 50 (eLe z0 (di 1)) (.f2 45 (Zk (bhW (ai 9) (di 0))) z0)], .f2 41 (ai 2) (di 0)⟩
def ZFN : Cx := { specs := [], anns := [(12, [(0, .ghost emHC []), (3, .inv bhdI), (6, .inv bhdJ)])] }
def Zi3 : Ctr := ⟨hA, [.one (hS 0)], [hC 0 0], hQ 0, [.bool], .one (.bool (qA 6)), [hC 0 0], [qA 6]⟩
def sndI : Inv := ⟨[.int], [(13, .one (.int .i64 (di 0))), (12, .one (.int .i64 (Zdc (usN 515 (rA 4) (di 0) z0))))], [], [eLe z0 (di 0), eLe (di 0) (ai 2)], .f2 41 (ai 2) (di 0)⟩
def ZDX : Cx := { specs := [(5, [Zza]), (7, [Znf]), (9, [Zoa]), (8, [Zo7]), (12, [ZtZ])], anns := [(4, [(9, .inv sndI)])] }
theorem Zvr (x : List Ent) (w : Int) : ∀ n, (ZX x w n).length <= n
 | 0 => ZGx _
 | n + 1 => by
  have ih := Zvr x w n
  show (if Zby w (xa x n) = true then ZX x w n ++ [nr (xa x n)] else ZX x w n).length <= _
  split
  ·rw [ZGM, ZGv]; omega
  ·omega
theorem ZCV (x : List Ent) (o : List Int) : ∀ i, (bhN x o i).length <= i * (x.length + 1)
 | 0 => Nat.zero_le _
 | i + 1 => by
  have ih := ZCV x o i
  have := Zvr x (o.getD i 0) x.length
  show (bhN x o i ++ ZX x (o.getD i 0) x.length ++ [ZgM (o.getD i 0) ((i : Int) + 1)]).length <= _
  rw [ZGM, ZGM, ZGv, Nat.add_mul]; omega
theorem Zs8 (x : List Ent) (w : Int) (n : Nat) : ZX x w (n + 1) = if Zby w (xa x n) = true then ZX x w n ++ [nr (xa x n)] else ZX x w n := rfl
theorem Zsq (x : List Ent) : ∀ n : Nat, 0 <= (ZaB x n).1 -> ((ZaB x n).2 = 1 \/ (ZaB x n).2 = 2) /\ (ZaB x n).1 < n
 | 0, h => absurd h (by show ¬ (0 : Int) <= -1; omega)
 | n + 1, h => by
  rw [Zbc] at h ⊢
  by_cases h0 : 0 <= (ZaB x n).1
  ·rw [if_pos h0]
   have := Zsq x n h0
   exact ⟨this.1, by omega⟩
  ·rw [if_neg h0] at h ⊢
   by_cases h1 : ZhT x n = true
   ·rw [if_pos h1]; exact ⟨.inl rfl, by show (n : Int) < _; omega⟩
   ·rw [if_neg h1] at h ⊢
    by_cases h2 : ZhC x n = true
    ·rw [if_pos h2]; exact ⟨.inr rfl, by show (n : Int) < _; omega⟩
    ·rw [if_neg h2] at h; exact absurd h (by show ¬ (0 : Int) <= -1; omega)
theorem ZFr (x : List Ent) (n : Nat) (ks : List Int) : (Zdd x n ks).2 = 3 \/ (Zdd x n ks).2 = 4 := by
 unfold Zdd
 by_cases h : 0 <= Ye x (xw (xa x n)) (ZJ (xa x n)) n /\ 0 < xw (xa x n)
 ·simp only [if_pos h]; exact .inl trivial
 ·simp only [if_neg h]; exact .inr trivial
theorem ZE7 (x : List Ent) : (ZbD x x.length = (-1, 0)) \/ (0 <= (ZbD x x.length).1 /\ ((ZbD x x.length).2 = 3 \/ (ZbD x x.length).2 = 4)) := by
 by_cases h : 0 <= (ZbD x x.length).1
 ·obtain ⟨m, _, e, _⟩ := (ZdF x x.length).1 h
  refine .inr ⟨h, ?_⟩
  rw [e]; exact ZFr x m _
 ·exact .inl (Zq6 h)
theorem ZCd {x : List Ent} (h : ZaA x ≠ 0) : Ze1 x = (0, 0, ZaA x) /\ orE x = ZaA x /\ orS x = none /\ Ziw x = ZaA x := by
 have e : orE x = ZaA x := by unfold orE; rw [if_pos h]
 exact ⟨ZrM h, e, by unfold orS; rw [if_neg (by rw [e]; exact h)], ZEN h⟩
theorem ZxU {x : List Ent} (hc : ZaA x = 0) (ht : 0 <= (ZaB x x.length).1) : Ze1 x = ((ZaB x x.length).1, (ZaB x x.length).2, 0) /\ orE x = 280 /\ orS x = none /\ Ziw x = 280 := by
 have h0 : ¬ ZaA x ≠ 0 := fun q => q hc
 have e : orE x = 280 := by unfold orE; rw [if_neg h0, if_pos ht]
 exact ⟨by unfold Ze1; rw [if_neg h0, if_pos ht], e, by unfold orS; rw [if_neg (by rw [e]; decide)], by unfold Ziw; rw [if_neg h0, if_pos ht]⟩
theorem ZEH {x : List Ent} (hc : ZaA x = 0) (ht : ¬ 0 <= (ZaB x x.length).1) : Go x (ZV x x.length) /\ Ze1 x = ((ZbD x x.length).1, (ZbD x x.length).2, 0) /\ Ziw x = 0 /\ orE x = if 8 < (Zv x x.length).length then 2 else 0 := by
 have h0 : ¬ ZaA x ≠ 0 := fun q => q hc
 have hm : ∀ i < x.length, ZbX (xa x i) = true := by
  unfold ZaA at hc
  split at hc
  ·cases hc
  ·split at hc
   ·rename_i q
    unfold Zih at q
    rw [Zh] at q; exact q
   ·cases hc
 exact ⟨⟨⟨ht, hm⟩, (Zhg x x.length hm).1 ⟨ht, hm⟩, ZeD x x.length⟩, by unfold Ze1; rw [if_neg h0, if_neg ht], by unfold Ziw; rw [if_neg h0, if_neg ht], by unfold orE; rw [if_neg h0, if_neg ht]⟩
def ZBY : SX := wR 690 (r 4) (s 8)
def ZBy : SX := .f1 32 ZBY
def ZCs : SX := e ZBy z
def ZCB : SX := hR0 690 (r 4) (s 8) (a 9)
def ZxF : SX := .f1 32 ZCB
def ZA9 : SX := l z (a 10)
def ZrE : SX := .us .rows 690 (r 4) (s 8) (a 9) (a 12)
def Zlm : SX := .f1 32 ZrE
def ZBb : SX := l z (a 13)
def ZCp : SX := .f3 112 (r 4) (a 12) (k 1)
def ZwB : SX := .f2 110 (s 8) (a 9)
def Zva : SX := e ZCp ZwB
def Zrl : SX := .f3 112 (r 4) (a 12) z
def ZqE : SX := e Zrl (k 5)
def ZqK : SX := l z (a 15)
def Zs5 : SX := l Zlm Zlm
def ZgT : SX := .f2 40 Zlm (k 1)
def Ztv : SX := l (.f2 42 ZgT (k 64)) k1
def Zwm : SX := l ZgT (a 17)
def Zoc : SX := l z (a 16)
def ZrF : SX := .f2 50 Zoc (e ZgT z)
def Zhl : SX := .f2 40 (a 12) (k 1)
def Zoq : SX := .f1 23 Zhl
def Ztz : SX := .f2 41 (a 2) Zhl
def Zpf : SX := l z Ztz
def Zoi : SX := t Ztz (.f2 41 (a 2) (a 12))
def ZnY : SX := l z Zhl
def Zpu : SX := l Zhl (a 2)
def ZnF : SX := .us .rows 690 (r 4) (s 8) (a 9) Zhl
def Zhu : SX := .f1 32 ZnF
def Ztn : SX := e Zhu z
def Zw4 : SX := l Zhu (a 14)
def ZtB : SX := .f2 50 ZBb Ztn
def Zv3 : SX := .f2 155 ZnF ZrE
def ZvA : SX := e Zhu Zlm
def ZfI : SX := .f2 40 (a 9) (k 1)
def ZwE : SX := .f2 41 (.f1 30 (s 8)) ZfI
def Zvt : SX := hR0 690 (r 4) (s 8) ZfI
def Zor : SX := .f1 32 Zvt
def Zwe : SX := hR0 690 (r 4) (s 8) (.f1 30 (s 8))
def Zoh : SX := .f1 32 Zwe
def ZF5 : VC := i (l z (a 2)) (i (e (a 2) (.f1 32 (r 4))) (i (l (a 2) (a 3)) (i (l (a 2) (k 9223372036854775807)) (i (l (a 2) (k 400)) (i (l (.f1 30 (s 8)) (k 8)) (i (l (.f1 30 (s 8)) (a 7)) (n (l ZBy z) (n (.f2 50 (.bool false) ZCs) (n (.f2 155 ZBY (.f1 154 z)) (n ZCs (u 9 .int (u 10 .int (u 11 .int (i (l z (a 9)) (i (l (a 9) (.f1 30 (s 8))) (i (l ZxF (a 11)) (i (.f2 50 ZA9 (e ZxF z)) (.and (i (t (a 9) (.f1 30 (s 8))) (u 12 .int (u 13 .int (u 14 .int (i (l z (a 12)) (i (l (a 12) (a 2)) (i (l Zlm (a 14)) (i (.f2 50 ZBb (e Zlm z)) (.and (i (t (a 12) (a 2)) (n (t (a 12) (.f1 32 (r 4))) (.and (i Zva (.and (i (.f1 2 ZqE) (u 15 .int (i ZqK (n Zs5 (n Ztv (u 16 .int (u 17 .int (i Zwm (i ZrF (n Zoq (n Zpf (n Zoi (n ZnY (n Zpu (n (l Zhu (a 17)) (n (.f2 50 Zoc Ztn) (n (.f2 155 ZnF (.f2 121 ZrE (.f2 124 (.f2 122 Zrl (.f2 122 ZCp (.f2 122 (.f1 35 (.f1 36 (.f3 112 (r 4) (a 12) (k 2)))) (.f2 122 (.f1 35 (.f1 36 (.f3 112 (r 4) (a 12) (k 3)))) (.f2 122 (.f1 3 (.f1 2 (e (.f3 112 (r 4) (a 12) (k 4)) z))) (.f2 122 (.f3 112 (r 4) (a 12) (k 5)) (.f1 152 z))))))) (.f1 154 z)))) (n (e Zhu ZgT) .tt)))))))))))))))))) (i ZqE (n Zoq (n Zpf (n Zoi (n ZnY (n Zpu (n Zw4 (n ZtB (n Zv3 (n ZvA .tt)))))))))))) (i (.f1 2 Zva) (n Zoq (n Zpf (n Zoi (n ZnY (n Zpu (n Zw4 (n ZtB (n Zv3 (n ZvA .tt))))))))))))) (i (l (a 2) (a 12)) (n (.f1 23 ZfI) (u 15 .int (i ZqK (n Zs5 (n Ztv (u 16 .int (u 17 .int (i Zwm (i ZrF (n (l z ZwE) (n (t ZwE (.f2 41 (.f1 30 (s 8)) (a 9))) (n (l z ZfI) (n (l ZfI (.f1 30 (s 8))) (n (l Zor (a 17)) (n (.f2 50 Zoc (e Zor z)) (n (.f2 155 Zvt (.f2 121 ZrE (.f2 124 (.f2 122 (k 5) (.f2 122 ZwB (.f2 122 (.f1 35 (.byt [])) (.f2 122 (.f1 35 (.byt [])) (.f2 122 z (.f2 122 ZfI (.f1 152 z))))))) (.f1 154 z)))) (n (e Zor ZgT) .tt))))))))))))))))))))))))))) (i (l (.f1 30 (s 8)) (a 9)) (n (l Zoh (a 11)) (n (.f2 50 ZA9 (e Zoh z)) (n (.f2 155 Zwe ZCB) (n (e Zoh ZxF) .tt)))))))))))))))))))))))
theorem ZFH : Zb4 Try.prog ZFN 12 12 ZtZ = ZF5 := by kernel_rfl
def ZiN : SX := .f2 115 (r 4) (a 2)
def ZCG : SX := o 660 ZiN
def Zp1 : SX := .f1 30 ZCG
def ZuK : SX := e Zp1 z
def ZAd : SX := e (.f3 112 (r 4) (a 17) z) (k 5)
def ZpG : SX := .f1 30 (wN 515 (r 4) (a 17))
def ZBE : SX := .f2 40 ZpG (k 1)
def Zp7 : SX := .f2 40 (a 17) (k 1)
def ZAA : SX := .f1 23 Zp7
def ZA6 : SX := .f2 41 (a 2) Zp7
def Zt3 : SX := l z ZA6
def ZtS : SX := t ZA6 (.f2 41 (a 2) (a 17))
def ZsC : SX := l z Zp7
def Zro : SX := l Zp7 (a 2)
def ZqC : SX := .f1 30 (wN 515 (r 4) Zp7)
def ZwT : SX := e (a 8) z
def ZuT : SX := e (a 6) z
def Ztc : SX := e (a 7) z
def Zt4 : SX := e (a 12) (a 8)
def Ztj : SX := e (a 16) (a 8)
def ZdM : SX := .f1 2 (.f1 2 (q 11))
def ZuJ : SX := e (a 7) (k 1)
def Zts : SX := e (a 7) (k 2)
def ZoY : SX := e (a 12) (k 280)
def Zof : SX := e (a 16) (k 280)
def Zrd : SX := l z (a 6)
def ZuQ : SX := t (a 6) (a 2)
def Zqy : SX := t (a 6) z
def Zsf : SX := .f1 2 Zof
def ZwS : SX := .f1 2 ZoY
def Zxb : SX := e (a 12) (k 2)
def ZnV : SX := e (a 16) z
def Zti : SX := e (a 12) z
def Zwy : SX := e (a 6) (k (-1))
def ZtL : SX := l (a 2) (k 400)
def ZwF : SX := hR0 690 (r 4) ZCG Zp1
def Zf6 : SX := .f1 32 ZwF
def Zsn : SX := l Zf6 (a 19)
def ZuL : SX := .f2 50 (l z (a 18)) (e Zf6 z)
def Zsa : SX := l Zf6 Zf6
def Zsr : SX := l Zf6 (k 9223372036854775807)
def Zoe : SX := .f2 115 ZwF Zf6
def ZvB : SX := e (a 20) (v 520 Zoe)
def Zrc : SX := e (a 21) (v 521 Zoe)
def ZqI : SX := e (a 22) (v 522 Zoe)
def Zok : SX := e Zp1 ZpG
def ZnK : SX := e (a 20) (k (-1))
def ZnI : SX := e (a 21) z
def Zst : SX := e (a 22) z
def Zs2 : SX := .f1 2 ZnI
def Zws : SX := .f1 2 ZnK
def Zt0 : SX := .f1 2 Zok
def ZEd : VC := i (l z (a 2)) (i (e (a 2) (.f1 32 (r 4))) (i (l (a 2) (a 3)) (i (l (a 2) (k 9223372036854775807)) (n (l (a 2) (.f1 32 (r 4))) (u 6 .int (u 7 .int (u 8 .int (i (e (a 6) (v 520 ZiN)) (i (e (a 7) (v 521 ZiN)) (i (e (a 8) (v 522 ZiN)) (u 9 .int (u 10 .int (u 11 .bool (u 12 .int (i (.f2 48 (q 11) (p 661 ZiN)) (i (e (a 12) (v 662 ZiN)) (i (l Zp1 (a 10)) (i (.f2 50 (l z (a 9)) ZuK) (i (l Zp1 (k 8)) (u 13 .int (u 14 .rows (u 15 .int (u 16 .int (i (e (a 16) (v 604 ZiN)) (i (e (.f1 32 (r 14)) (.f1 32 (vR 603 ZiN))) (i (l (.f1 32 (r 14)) (a 15)) (i (.f2 50 (l z (a 13)) (e (.f1 32 (r 14)) z)) (n (e (.f1 30 (o 515 (r 4))) z) (u 17 .int (i (l z (a 17)) (i (l (a 17) (a 2)) (.and (i (t (a 17) (a 2)) (n (t (a 17) (.f1 32 (r 4))) (.and (i ZAd (n (.f1 23 ZBE) (n ZAA (n Zt3 (n ZtS (n ZsC (n Zro (n (e ZqC ZBE) .tt)))))))) (i (.f1 2 ZAd) (n ZAA (n Zt3 (n ZtS (n ZsC (n Zro (n (e ZqC ZpG) .tt)))))))))) (i (l (a 2) (a 17)) (.and (i (.f1 2 ZwT) (.and (i ZuT (.and (i Ztc (.and (i Zt4 (.and (i Ztj (.and (i (.f1 2 (q 11)) (n ZuK .tt)) (i ZdM (n (.bool false) .tt)))) (i (.f1 2 Ztj) (n (.bool false) .tt)))) (i (.f1 2 Zt4) (n (.bool false) .tt)))) (i (.f1 2 Ztc) (n (.bool false) .tt)))) (i (.f1 2 ZuT) (n (.bool false) .tt)))) (i ZwT (.and (i (.f1 2 ZuJ) (.and (i Zts (.and (i ZoY (.and (i Zof (.and (i (.f1 2 (q 11)) (.and (i Zrd (n ZuQ .tt)) (i Zqy (n (.bool false) .tt)))) (i ZdM (n (.bool false) .tt)))) (i Zsf (n (.bool false) .tt)))) (i ZwS (n (.bool false) .tt)))) (i (.f1 2 Zts) (.and (i (t (k 8) ZpG) (.and (i Zxb (n ZnV .tt)) (i (.f1 2 Zxb) (n (.bool false) .tt)))) (i (l ZpG (k 8)) (.and (i Zti (.and (i ZnV (.and (i Zwy (.and (i ZdM (.and .tt (i ZdM (.and .tt (i ZdM (n ZtL (u 18 .int (u 19 .int (i Zsn (i ZuL (n Zsa (n Zsr (u 20 .int (u 21 .int (u 22 .int (i ZvB (i Zrc (i ZqI (.and (i Zok (.and (i ZnK (.and (i ZnI (n Zst .tt)) (i Zs2 (n (.bool false) .tt)))) (i Zws (n (.bool false) .tt)))) (i Zt0 (n (.bool false) .tt))))))))))))))))))))) (i (.f1 2 (q 11)) (n (.bool false) .tt)))) (i (.f1 2 Zwy) (.and (i (.f1 2 (q 11)) (.and (i (.f1 2 ZuK) (n (.bool false) .tt)) (i ZuK (.and (i (.f1 2 (q 11)) .tt) .tt)))) (i ZdM (.and .tt (i ZdM (n ZtL (u 18 .int (u 19 .int (i Zsn (i ZuL (n Zsa (n Zsr (u 20 .int (u 21 .int (u 22 .int (i ZvB (i Zrc (i ZqI (.and (i Zok (.and (i ZnK (.and (i ZnI (n Zst .tt)) (i Zs2 (n (.bool false) .tt)))) (i Zws (n (.bool false) .tt)))) (i Zt0 (n (.bool false) .tt))))))))))))))))))))))) (i (.f1 2 ZnV) (n (.bool false) .tt)))) (i (.f1 2 Zti) (n (.bool false) .tt)))))))) (i ZuJ (.and (i ZoY (.and (i Zof (.and (i (.f1 2 (q 11)) (.and (i Zrd (n ZuQ .tt)) (i Zqy (n (.bool false) .tt)))) (i ZdM (n (.bool false) .tt)))) (i Zsf (n (.bool false) .tt)))) (i ZwS (n (.bool false) .tt))))))))))))))))))))))))))))))))))))))))
theorem ZGn : Zb4 Try.prog ZDX 12 4 Zi3 = ZEd := by kernel_rfl
theorem ZEW (S : Sig GG) (hS : SbSig S) : ZH S Try.prog 12 ZtZ := by
 refine Zp S (C := ZFN) (fuel := 12) (Zab trivial ⟨⟨⟨by decide, ZDI S⟩, trivial, trivial, trivial⟩, trivial⟩ trivial) fun ρ => ?_
 rw [ZFH]
 simp only [ZF5, ZBY, ZBy, ZCs, ZCB, ZxF, ZA9, ZrE, Zlm, ZBb, ZCp, ZwB, Zva, Zrl, ZqE, ZqK, Zs5, ZgT, Ztv, Zwm, Zoc, ZrF, Zhl, Zoq, Ztz, Zpf, Zoi, ZnY, Zpu, ZnF, Zhu, Ztn, Zw4, ZtB, Zv3, ZvA, ZfI, ZwE, Zvt, Zor, Zwe, Zoh, hS.u690, ZT, ZGO, VC.den, SX.den, Env.upd, Y3, ZY, beq_iff_eq, ZGG, beq_eq_false_iff_ne, ne_eq, ZGF, ZGE, Int.reduceToNat, Nat.reduceEqDiff, reduceIte, sB]
 simp only [ZE8]
 generalize (ρ 4).tR = X
 generalize (ρ 8).tN = o
 generalize (ρ 2).tI = l
 generalize (ρ 7).tI = c7
 intro h1 h2 h3 h4 h5 h6 h7
 subst h2
 have z : ∀ w, ZX X w 0 = [] := fun _ => rfl
 simp only [ZGO, z, List.append_nil]
 refine ⟨ZGS _, .inr rfl, rfl, rfl, fun i b c i0 i1 g1 g2 => ⟨fun hi k b2 c2 k0 k1 q1 q2 => ?_, fun hi => ?_⟩⟩
 ·obtain ⟨i, rfl⟩ := ZGz i0
  obtain ⟨k, rfl⟩ := ZGz k0
  have ek : ((k : Int) + 1).toNat = k + 1 := by omega
  have ei : ((i : Int) + 1).toNat = i + 1 := by omega
  have hb := ZCV X o i
  have hs := Zvr X (o.getD i 0) k
  have hi8 : i * (X.length + 1) <= 8 * (X.length + 1) := ZGy _ (by omega)
  have hap : (bhN X o i ++ ZX X (o.getD i 0) k).length = (bhN X o i).length + (ZX X (o.getD i 0) k).length := ZGM
  simp only [ZGO, ek, ei] at q1 q2 ⊢
  have hno : Zby (o.getD i 0) (xa X k) = false -> bhN X o i ++ ZX X (o.getD i 0) (k + 1) = bhN X o i ++ ZX X (o.getD i 0) k := fun h => by
   rw [Zs8, if_neg (by rw [h]; exact Bool.false_ne_true)]
  refine ⟨fun hk => ⟨hk, fun hw => ⟨fun h5 _ _ => ⟨ZGS _, by omega, fun b3 c3 y1 y2 => ?_⟩, fun h5 => ?_⟩, fun hw => ?_⟩, fun hk => ⟨⟨by omega, by omega⟩, fun _ _ => ⟨ZGS _, by omega, fun b3 c3 y1 y2 => ?_⟩⟩⟩
  ·have hp : Zby (o.getD i 0) (xa X k) = true := by
    have hw : xw (xa X k) = o.getD i 0 := hw
    have h5 : ¬ xk (xa X k) = 5 := h5
    unfold Zby; rw [decide_eq_true hw, decide_eq_false h5]; rfl
   have e : bhN X o i ++ ZX X (o.getD i 0) (k + 1) = bhN X o i ++ ZX X (o.getD i 0) k ++ [nr (X.getD k [])] := by
    rw [Zs8, if_pos hp, ZG5]; rfl
   have el : ((bhN X o i ++ ZX X (o.getD i 0) (k + 1)).length : Int) = ((bhN X o i ++ ZX X (o.getD i 0) k).length : Int) + 1 := by rw [e, ZGM]; rfl
   exact ⟨⟨by omega, by omega⟩, by omega, by omega, by omega, by omega, by omega, by omega, e, el, trivial⟩
  ·have e := hno (by have h5 : xk (xa X k) = 5 := h5; unfold Zby; rw [decide_eq_true h5, Bool.not_true, Bool.and_false])
   rw [e]
   exact ⟨⟨by omega, by omega⟩, by omega, by omega, by omega, by omega, q1, q2, rfl, rfl, trivial⟩
  ·have e := hno (by have hw : ¬ xw (xa X k) = o.getD i 0 := hw; unfold Zby; rw [decide_eq_false hw]; rfl)
   rw [e]
   exact ⟨⟨by omega, by omega⟩, by omega, by omega, by omega, by omega, q1, q2, rfl, rfl, trivial⟩
  ·have hkn : k = X.length := by omega
   subst hkn
   have e : bhN X o (i + 1) = bhN X o i ++ ZX X (o.getD i 0) X.length ++ [[5, o.getD i 0, ((Zq [] : Nat) : Int), ((Zq [] : Nat) : Int), 0, (i : Int) + 1]] := rfl
   have el : ((bhN X o (i + 1)).length : Int) = ((bhN X o i ++ ZX X (o.getD i 0) X.length).length : Int) + 1 := by rw [e, ZGM]; rfl
   exact ⟨by omega, by omega, by omega, by omega, by omega, by omega, e, el, trivial⟩
 ·have : i.toNat = o.length := by omega
  rw [this] at g1 g2 ⊢
  exact ⟨g1, g2, rfl, rfl, trivial⟩
theorem ZEr (S : Sig GG) (hS : SbSig S) : ZH S Try.prog 4 Zi3 := by
 refine Zp S (C := ZDX) (fuel := 12) (Zab ⟨Zm (by decide) (ZDy S hS.og), Zm (by decide) (Zzi S hS.og.ou.ft.od.fi.js), Zm (by decide) (Zze S hS.og), Zm (by decide) (ZzI S hS.og.ou.ft.od.fi), Zm (by decide) (ZEW S hS), trivial⟩ ⟨⟨trivial, trivial⟩, trivial⟩ trivial) fun ρ => ?_
 rw [ZGn]
 simp only [ZEd, ZiN, ZCG, Zp1, ZuK, ZAd, ZpG, ZBE, Zp7, ZAA, ZA6, Zt3, ZtS, ZsC, Zro, ZqC, ZwT, ZuT, Ztc, Zt4, Ztj, ZdM, ZuJ, Zts, ZoY, Zof, Zrd, ZuQ, Zqy, Zsf, ZwS, Zxb, ZnV, Zti, Zwy, ZtL, ZwF, Zf6, Zsn, ZuL, Zsa, Zsr, Zoe, ZvB, Zrc, ZqI, Zok, ZnK, ZnI, Zst, Zs2, Zws, Zt0, hS.og.ou.ft.od.fi.js.jt.jb.rf.u515, hS.og.ou.ft.od.fi.js.jt.jb.rf.u520, hS.og.ou.ft.od.fi.js.jt.jb.rf.u521, hS.og.ou.ft.od.fi.js.jt.jb.rf.u522, hS.og.ou.ft.od.fi.u603, hS.og.ou.ft.od.fi.u604, hS.og.u660, hS.og.u661, hS.og.u662, hS.u690, ZT, ZGO, VC.den, SX.den, Env.upd, Y3, ZY, beq_iff_eq, ZGG, beq_eq_false_iff_ne, ne_eq, ZGF, ZGE, Int.reduceToNat, Nat.reduceEqDiff, reduceIte, sB]
 generalize hX : (ρ 4).tR = X
 generalize (ρ 2).tI = l
 intro h1 h2 h3 h4
 subst h2
 have z : ∀ w, ZX X w 0 = [] := fun _ => rfl
 have tk : X.take X.length = X := List.take_length
 simp only [ZGO, tk, z, List.append_nil, List.take_length]
 refine ⟨ZGS _, fun pat pwh pe hat hwh he ob oc b f hb hf ho1 ho2 ho3 fb R fc g hg hR1 hR2 hR3 => ⟨rfl, fun i i0 i1 => ?_⟩⟩
 obtain ⟨n, rfl⟩ := ZGz i0
 have en : ((n : Int) + 1).toNat = n + 1 := by omega
 have hk := Zw5 X n
 simp only [ZGO, en]
 refine ⟨fun hn => ⟨hn, fun h5 => ?_, fun h5 => ?_⟩, fun hn => ?_⟩
 ·have h5 : xk (xa X n) = 5 := h5
  have : (Zv X (n + 1)).length = (Zv X n).length + 1 := by rw [Yi, if_pos h5, ZGM, ZGv]
  exact ⟨⟨by omega, by omega⟩, ⟨by omega, by omega⟩, by omega, by omega, by omega, by omega, by omega, trivial⟩
 ·have h5 : ¬ xk (xa X n) = 5 := h5
  have : (Zv X (n + 1)).length = (Zv X n).length := by rw [Yi, if_neg h5]
  exact ⟨⟨by omega, by omega⟩, by omega, by omega, by omega, by omega, by omega, trivial⟩
 have hnn : n = X.length := by omega
 subst hnn
 by_cases hc : ZaA X = 0
 ·by_cases ht : 0 <= (ZaB X X.length).1
  ·obtain ⟨a1, a2, a3, a4⟩ := ZxU hc ht
   obtain ⟨a5, a6⟩ := Zsq X X.length ht
   rw [a1] at hat hwh he
   rw [a3] at hb
   rw [a2] at hf
   rw [a4] at hg
   have hat : pat = (ZaB X X.length).1 := hat
   have hwh : pwh = (ZaB X X.length).2 := hwh
   have he : pe = 0 := he
   have hb : b = false := hb
   clear hR1 hR2 hR3 ho1 ho2 ho3
   rw [a3]
   subst hb
   repeat' (first | exact trivial | apply And.intro | intro _)
   all_goals first | omega | contradiction | rfl | (rename_i q; exact absurd rfl q) | (dsimp only at *; omega)
  ·obtain ⟨hgo, a1, a2, a3⟩ := ZEH hc ht
   have h400 := ZfF hc
   have a5 := ZE7 X
   rw [a1] at hat hwh he
   rw [a2] at hg
   by_cases h8 : 8 < (Zv X X.length).length
   ·rw [if_pos h8] at a3
    rw [a3] at hf
    have a6 : orS X = none := by unfold orS; rw [if_neg (by rw [a3]; decide)]
    rw [a6] at hb ⊢
    have hat : pat = (ZbD X X.length).1 := hat
    have hwh : pwh = (ZbD X X.length).2 := hwh
    have he : pe = 0 := he
    have hb : b = false := hb
    subst hb
    have a7 : pwh ≠ 1 /\ pwh ≠ 2 := by
     rcases a5 with q | ⟨_, q⟩
     ·rw [q] at hwh; omega
     ·omega
    clear hR1 hR2 hR3 ho1 ho2 ho3
    repeat' (first | exact trivial | apply And.intro | intro _)
    all_goals first | omega | contradiction | rfl | (rename_i q; exact absurd rfl q) | (dsimp only at *; omega)
   ·rw [if_neg h8] at a3
    rw [a3] at hf
    have hS1 : orS X = ZmD X (ZkI (Zv X X.length) (Zv X X.length).length) [] := by unfold orS; rw [if_pos a3]
    have hat : pat = (ZbD X X.length).1 := hat
    have hwh : pwh = (ZbD X X.length).2 := hwh
    have he : pe = 0 := he
    have a7 : pwh ≠ 1 /\ pwh ≠ 2 := by
     rcases a5 with q | ⟨_, q⟩
     ·rw [q] at hwh; omega
     ·omega
    clear hR1 hR2 hR3 ho1 ho2 ho3
    cases ho : orS X with
    | none =>
     have hns : ¬ (ZbD X X.length).1 = -1 := fun q => by
      have := Zuj hgo (by rw [q]; omega)
      rw [<- hS1, ho] at this; cases this
     rw [ho] at hb
     have hb : b = false := hb
     subst hb
     repeat' (first | exact trivial | apply And.intro | intro _)
     all_goals first | omega | contradiction | rfl | (rename_i q; exact absurd rfl q) | (dsimp only at *; omega)
    | some o =>
     obtain ⟨b1, b2⟩ := ZEB hgo hc (by rw [<- hS1]; exact ho)
     have b3 := ZCV X o o.length
     have hi8 : o.length * (X.length + 1) <= 8 * (X.length + 1) := ZGy _ (by omega)
     rw [ho] at hb
     have hb : b = true := hb
     subst hb
     simp only [ZGC, b2]
     repeat' (first | exact trivial | apply And.intro | intro _)
     all_goals first | omega | contradiction | rfl | (rename_i q; exact absurd rfl q) | (dsimp only at *; omega)
 ·obtain ⟨a1, a2, a3, a4⟩ := ZCd hc
  rw [a1] at hat hwh he
  rw [a3] at hb ho1 ho2 ho3 ⊢
  rw [a2] at hf
  rw [a4] at hg
  have hat : pat = 0 := hat
  have hwh : pwh = 0 := hwh
  have he : pe = ZaA X := he
  have hb : b = false := hb
  subst hb
  clear hR1 hR2 hR3 ho1 ho2 ho3
  repeat' (first | exact trivial | apply And.intro | intro _)
  all_goals first | omega | contradiction | rfl | (rename_i q; exact absurd rfl q) | (dsimp only at *; omega)
end
end Go.Proofs.Ytidlngnhjffepaa
namespace Go.Eng
open Go.ChangeShapes Go.WideShapes Go.Deep
theorem Zhw {cs : List Value} {i : Nat} {v : Value} (h : (cs.drop i).take 1 = [v]) : cs[i]? = some v := by
 have h2 : ((cs.drop i).take 1)[0]? = some v := by rw [h]; rfl
 rw [List.getElem?_take_of_lt (by omega), ZG6] at h2
 simpa using h2
abbrev Zf5 : List Fd := [.int .i64, .int .i64, .str, .str, .bool, .int .i64]
theorem ZsI (s : ByteArray) : Fd.str.val [((Zq s.data.toList : Nat) : Int)] = .string s := by
 show Value.string ⟨(Za6 (Int.toNat ((Zq s.data.toList : Nat) : Int))).toArray⟩ = _
 rw [ZGO, Zn]
theorem Zrw {H : Type} {enc : TypeId × Value -> H} {P : Program} {w : World} {base : Nat} {spare : Nat -> Bool} {Zk1 : Bool} {t e : TypeId} {g0 g1 g2 g3 g4 g5 : Field} {fuel : Nat} {cs : List Value} {x : DataW H × List MemPlace}
  (ht : P.underlying t = some (.slice e)) (he : P.underlying e = some (.struct #[g0, g1, g2, g3, g4, g5])) (ce : P.cellsOf e = 6) (o0 : g0.offset = 0) (o1 : g1.offset = 1) (o2 : g2.offset = 2) (o3 : g3.offset = 3) (o4 : g4.offset = 4) (o5 : g5.offset = 5)
  (c0 : P.cellsOf g0.type = 1) (c1 : P.cellsOf g1.type = 1) (c2 : P.cellsOf g2.type = 1) (c3 : P.cellsOf g3.type = 1) (c4 : P.cellsOf g4.type = 1) (c5 : P.cellsOf g5.type = 1)
  (t0 : P.underlying g0.type = some (.int .i64)) (t1 : P.underlying g1.type = some (.int .i64)) (t2 : P.underlying g2.type = some .string) (t3 : P.underlying g3.type = some .string) (t4 : P.underlying g4.type = some .bool) (t5 : P.underlying g5.type = some (.int .i64))
  (h : DataW.trod enc P w base spare Zk1 fuel t cs = some x) :
  (cs = [.slice none 0 0] /\ x = (.nil, [])) ∨
  ∃ (a : Addr) (len cap : Nat) (rows : List (List Int)), cs = [.slice (some a) len cap] /\ base <= a.block /\ len <= cap /\ cap <= maxLen /\ len = rows.length /\ (∃ ds sp, x.1 = .slice ds sp /\ ds.length = len) ∧
   ∀ j v, (rows.flatMap (rowVals Zf5))[j]? = some v -> w.cell? (a.add j) = some v := by
 rcases open_slice ht h with h0 | ⟨a, len, cap, m, n, D, Pl, rfl, hb, hl, hm, hmm, hxx, hx⟩
 ·exact .inl h0
 right
 have hlm : len <= m := by rw [hmm]; split <;> omega
 have each : ∀ i, i < m -> ∃ q : List Int, ∀ j, j < 6 -> ∃ v, (rowVals Zf5 q)[j]? = some v /\ w.cell? (a.add (i * 6 + j)) = some v := by
  intro i hi
  obtain ⟨cs', h1, h2⟩ := hx i hi
  rw [ce] at h1
  obtain ⟨_, hlen, hcell⟩ := World.cells?_some h1
  obtain ⟨xs, k, hk, _, _, hxl, hf⟩ := DataW.trod_struct he h2
  have f0 := hf 0 g0 rfl
  have f1 := hf 1 g1 rfl
  have f2 := hf 2 g2 rfl
  have f3 := hf 3 g3 rfl
  have f4 := hf 4 g4 rfl
  have f5 := hf 5 g5 rfl
  rw [o0, c0, ZGK (by rw [hxl]; show _ < 6; omega)] at f0
  rw [o1, c1, ZGK (by rw [hxl]; show _ < 6; omega)] at f1
  rw [o2, c2, ZGK (by rw [hxl]; show _ < 6; omega)] at f2
  rw [o3, c3, ZGK (by rw [hxl]; show _ < 6; omega)] at f3
  rw [o4, c4, ZGK (by rw [hxl]; show _ < 6; omega)] at f4
  rw [o5, c5, ZGK (by rw [hxl]; show _ < 6; omega)] at f5
  obtain ⟨n0, e0, _, _⟩ := DataW.trod_int t0 f0
  obtain ⟨n1, e1, _, _⟩ := DataW.trod_int t1 f1
  obtain ⟨s2, e2, _, _⟩ := DataW.trod_string t2 f2
  obtain ⟨s3, e3, _, _⟩ := DataW.trod_string t3 f3
  obtain ⟨b4, e4, _⟩ := DataW.trod_bool t4 f4
  obtain ⟨n5, e5, _, _⟩ := DataW.trod_int t5 f5
  have e0 := Zhw e0
  have e1 := Zhw e1
  have e2 := Zhw e2
  have e3 := Zhw e3
  have e4 := Zhw e4
  have e5 := Zhw e5
  refine ⟨[n0, n1, (Zq s2.data.toList : Nat), (Zq s3.data.toList : Nat), if b4 = true then 1 else 0, n5], fun j hj => ?_⟩
  have hc := hcell j (by omega)
  rw [add_add] at hc
  match j, hj with
  | 0, _ => exact ⟨_, rfl, by rw [hc, e0]; rfl⟩
  | 1, _ => exact ⟨_, rfl, by rw [hc, e1]; rfl⟩
  | 2, _ => exact ⟨_, rfl, by rw [hc, e2]; exact congrArg some (ZsI s2).symm⟩
  | 3, _ => exact ⟨_, rfl, by rw [hc, e3]; exact congrArg some (ZsI s3).symm⟩
  | 4, _ => exact ⟨_, rfl, by rw [hc, e4]; cases b4 <;> rfl⟩
  | 5, _ => exact ⟨_, rfl, by rw [hc, e5]; rfl⟩
 obtain ⟨q, hq⟩ := choose_lt each
 refine ⟨a, len, cap, (List.range len).map q, rfl, hb, hl, hm, by rw [ZGR, List.length_range], ⟨_, _, by rw [hxx], by rw [ZGR, List.length_range]⟩, fun j v hj => ?_⟩
 have hlen6 : ∀ r : List Int, (rowVals Zf5 r).length = 6 := fun r => ZN _ r
 have hjlt : j < len * 6 := by
  rcases ZGB j (len * 6) with h' | h'
  ·exact h'
  ·rw [List.getElem?_eq_none (by rw [Zbi _ 6 hlen6, ZGR, List.length_range]; exact h')] at hj; cases hj
 have hdm : j = j / 6 * 6 + j % 6 := by omega
 rw [hdm, ZcT _ 6 hlen6 _ _ _ (Nat.mod_lt _ (by decide)), ZGD, List.getElem?_range (by omega)] at hj
 obtain ⟨v', h1, h2⟩ := hq (j / 6) (by omega) (j % 6) (Nat.mod_lt _ (by decide))
 have hj' : (rowVals Zf5 (q (j / 6)))[j % 6]? = some v := hj
 rw [h1] at hj'
 cases hj'
 rw [hdm]; exact h2
def ZDW {H : Type} (w : World) (v : Value) (d : DataW H) (b o l c : Int) (n : Nat) (vals : List Value) : Prop :=
 v = .slice (if b < 0 then none else some ⟨b.toNat, o.toNat, none⟩) l.toNat c.toNat /\ 0 <= l /\ l = n /\ l <= c /\ l <= 9223372036854775807 ∧
  ((0 <= b \/ vals = []) /\ ∀ i u, vals[i]? = some u -> b.toNat < w.heap.size /\ w.cell? ⟨b.toNat, o.toNat + i, none⟩ = some u) /\ (d = .nil /\ l = 0 \/ ∃ ds sp, d = .slice ds sp /\ (ds.length : Int) = l)
theorem Zqh {P : Program} {W : World} {base : Nat} {t e : TypeId} {a : Addr} {len cap : Nat} (ht : P.underlying t = some (.slice e)) (hv : Value.okWide P W .any base t (.slice (some a) len cap)) : a.spot = none := by
 unfold Value.okWide at hv
 rw [ht] at hv
 unfold Cell.okWide at hv
 rw [ht] at hv
 simp only [Cell.ok] at hv
 rw [ht] at hv
 exact hv.2.2.2.1
theorem Zo6 {H : Type} {enc : TypeId × Value -> H} {P : Program} {W : World} {base : Nat} {t e : TypeId} {g0 g1 g2 g3 g4 g5 : Field} {v : Value} {d : DataW H} {ps : List MemPlace}
  (ht : P.underlying t = some (.slice e)) (he : P.underlying e = some (.struct #[g0, g1, g2, g3, g4, g5])) (ce : P.cellsOf e = 6) (o0 : g0.offset = 0) (o1 : g1.offset = 1) (o2 : g2.offset = 2) (o3 : g3.offset = 3) (o4 : g4.offset = 4) (o5 : g5.offset = 5)
  (c0 : P.cellsOf g0.type = 1) (c1 : P.cellsOf g1.type = 1) (c2 : P.cellsOf g2.type = 1) (c3 : P.cellsOf g3.type = 1) (c4 : P.cellsOf g4.type = 1) (c5 : P.cellsOf g5.type = 1)
  (t0 : P.underlying g0.type = some (.int .i64)) (t1 : P.underlying g1.type = some (.int .i64)) (t2 : P.underlying g2.type = some .string) (t3 : P.underlying g3.type = some .string) (t4 : P.underlying g4.type = some .bool) (t5 : P.underlying g5.type = some (.int .i64))
  (hv : Value.okWide P W .any base t v) (h : DataW.Trod enc P W 0 (fun _ => true) true t v d ps) :
  ∃ (b o l c : Int) (L : List (List Int)), ZDW W v d b o l c L.length (L.flatMap (rowVals Zf5)) := by
 obtain ⟨fuel, hf⟩ := h
 obtain ⟨a0, len, cap, rfl⟩ := okWide_slice ht hv
 rcases Zrw ht he ce o0 o1 o2 o3 o4 o5 c0 c1 c2 c3 c4 c5 t0 t1 t2 t3 t4 t5 hf with ⟨hcs, hx⟩ | ⟨a, len', cap', rows, hcs, _, hl, hm, hz, hd, hcell⟩
 ·simp [Value.cells] at hcs
  obtain ⟨rfl, rfl, rfl⟩ := hcs
  simp only [Prod.mk.injEq] at hx
  exact ⟨-1, 0, 0, 0, [], rfl, by decide, by decide, by decide, by decide, ⟨.inr rfl, fun i u hu => by simp at hu⟩, .inl ⟨hx.1, rfl⟩⟩
 ·simp [Value.cells] at hcs
  obtain ⟨rfl, rfl, rfl⟩ := hcs
  have hspot := Zqh ht hv
  obtain ⟨b, off, spot⟩ := a
  simp only at hspot
  subst hspot
  have hmax : maxLen = 9223372036854775807 := by decide
  obtain ⟨ds, sp, h1, h2⟩ := hd
  refine ⟨b, off, len, cap, rows, by rw [if_neg (by omega)]; simp, by omega, by omega, by omega, by omega, ⟨.inl (by omega), fun i u hu => ?_⟩, .inr ⟨ds, sp, h1, by omega⟩⟩
  have hc := hcell i u hu
  rw [add_plain] at hc
  exact ⟨by simpa using (World.block_lt_of_cell? W ⟨b, off + i, none⟩ hc), by simpa using hc⟩
end Go.Eng
namespace Go.Proofs.Ytidlngnhjffepaa.judgeSound
open Go.ChangeShapes Go.WideShapes Go.ChangeAt Go.RowKit
open Go.Eng (Zho Sig ZH ZcQ emp Zd Zn6 Sat Env U Ctr SX eLe rowVals ZDW Zo6 Zf5 Zt Yr Ym YQ)
theorem own : ownKnob Try.prog.godebug = none := by kernel_rfl
noncomputable def usr (n : Nat) (a b c d : U GG) : U GG :=
 match n with
 | 500 => .int (ZA a.tR b.tI c.tI d.tI.toNat)
 | 501 => .bool (Z6 a.tR b.tI c.tI.toNat).1
 | 502 => .int (Z6 a.tR b.tI c.tI.toNat).2
 | 503 => .bool (Zen a.tR b.tI c.tI)
 | 504 => .bool (Zl (latP a.tR b.tI c.tI))
 | 505 => .bool (ZhT a.tR b.tI.toNat)
 | 506 => .int (ZjX a.tR b.tI.toNat)
 | 507 => .bool (ZhC a.tR b.tI.toNat)
 | 508 => .int (ZaB a.tR b.tI.toNat).1
 | 509 => .int (ZaB a.tR b.tI.toNat).2
 | 510 => .bool (ZbX a.tN)
 | 511 => .bool (Zih a.tR b.tI.toNat)
 | 512 => .int (Ye a.tR b.tI c.tB d.tI.toNat)
 | 513 => .bytes (Zb5 a.tR b.tN c.tB d.tI.toNat).1
 | 514 => .bool (Zb5 a.tR b.tN c.tB d.tI.toNat).2
 | 515 => .ints (Zv a.tR b.tI.toNat)
 | 516 => .bool (Zdd a.tR b.tI.toNat c.tN).1
 | 517 => .int (Zdd a.tR b.tI.toNat c.tN).2
 | 518 => .int (ZbD a.tR b.tI.toNat).1
 | 519 => .int (ZbD a.tR b.tI.toNat).2
 | 520 => .int (Ze1 a.tR).1
 | 521 => .int (Ze1 a.tR).2.1
 | 522 => .int (Ze1 a.tR).2.2
 | 524 => .bytes (lasV a.tR b.tI)
 | 525 => .int (lasK a.tR b.tI)
 | 523 => .int (ZaA a.tR)
 | 530 => .bool (ZR a.tM b.tN)
 | 531 => .bool (Zl (ZsH a.tM b.tM c.tM))
 | 532 => .bool (Zl (layM a.tM b.tM c.tM d.tM))
 | 533 => .rows (revN a.tR b.tI.toNat)
 | 534 => .rows ((a.tR.take c.tI.toNat).map nr ++ b.tR.drop c.tI.toNat)
 | 536 => .bool (Zl ((a.tM.map (·.1)).Nodup))
 | 535 => .bool (Zl (∀ i : Nat, b.tI <= (i : Int) -> (i : Int) < c.tI -> eqE (xa a.tR i) (xa d.tR i)))
 | 568 => .g (.tx (Zb3 (ZE a) b.tM))
 | 571 => .bool (Zl ((a.tM.map (·.1)).Nodup /\ ∀ k, Zt a.tM k = true -> Zt b.tM k = true))
 | 569 => .bool (Zl (a.tR.map g0 = b.tR.map g0))
 | 570 => .bool (Zl (d.tR.Perm (Zbf c.tR (Zb1 b.tM (ZE a) 0))))
 | 565 => .bool (Zl (ZmL a.tR b.tI))
 | 566 => .int (ZcF b.tI a.tR : Nat)
 | 540 => .int (atT (ZE a) b.tI).who
 | 541 => .int (atT (ZE a) b.tI).beg
 | 542 => .int (atT (ZE a) b.tI).com
 | 543 => .bool (atT (ZE a) b.tI).opn
 | 544 => .amap (atT (ZE a) b.tI).ch
 | 545 => .rows (atT (ZE a) b.tI).rds
 | 546 => .ints (atT (ZE a) b.tI).bad
 | 547 => .amap (Zei a.tR (ZE b))
 | 548 => .rows (Zbf c.tR (ZV a.tR b.tI.toNat).kept)
 | 549 => .rows (ZV a.tR b.tI.toNat).out
 | 550 => .int (ZV a.tR b.tI.toNat).fault
 | 551 => .int (ZV a.tR b.tI.toNat).what
 | 552 => .int ((ZE a).length : Nat)
 | 553 => .int (ixL b.tI (ZE a) : Nat)
 | 554 => .rows (Zxh a.tR b.tI c.tN)
 | 555 => .g (.tx (setT (ZE a) b.tI (Zp5 (atT (ZE a) b.tI) c.tM d.tN)))
 | 556 => .g (.tx (setT (ZE a) b.tI (ZvE (atT (ZE a) b.tI) c.tR d.tN)))
 | 557 => .g (.tx (ZE a ++ [⟨b.tI, c.tI, -1, true, [], [], []⟩]))
 | 558 => .bool (Zl (plOk a.tR (ZE b)))
 | 559 => .bool (Zl (d.tR.Perm (Zbf c.tR (ZV a.tR b.tI.toNat).fal)))
 | 560 => .bool (Zl (∀ r ∈ a.tR, ∃ b', r = [b'] /\ ZmL b.tR b'))
 | 561 => .g (.tx (ZV a.tR b.tI.toNat).txs)
 | 562 => .bool (Zl ([b.tI] ∈ a.tR))
 | 563 => .rows (if Zt a.tM (kc b.tN) = true then c.tR else c.tR ++ [d.tI :: nr b.tN])
 | 564 => .ints (if Zt a.tM (kc b.tN) = true /\ ZR a.tM b.tN = false then c.tN ++ [d.tI] else c.tN)
 | 580 => .bool (Zl (SrtP a.tR b.tR))
 | 582 => .int (ZdD (a.tI, b.tI) c.tI d.tI).1
 | 583 => .int (ZdD (a.tI, b.tI) c.tI d.tI).2
 | 584 => .int (ZAp (ZkO a.tN) b.tN c.tI.toNat).1
 | 585 => .int (ZAp (ZkO a.tN) b.tN c.tI.toNat).2
 | 586 => .bool (Zl (Ys (Zxd (ZiY a.tR) b.tM) d.tI (ZkO c.tN)))
 | 587 => .bool (Zl (c.tR.Perm (Zly (ZiY a.tR) b.tM)))
 | 590 => .int ((ZCR a.tR b.tM c.tN).1 : Nat)
 | 591 => .int (ZCR a.tR b.tM c.tN).2.1
 | 592 => .int (ZCR a.tR b.tM c.tN).2.2
 | 593 => .int ((YJ (ZiY a.tR) b.tR (ZkO c.tN) d.tI.toNat).1 : Nat)
 | 594 => .int (YJ (ZiY a.tR) b.tR (ZkO c.tN) d.tI.toNat).2.1
 | 595 => .int (YJ (ZiY a.tR) b.tR (ZkO c.tN) d.tI.toNat).2.2
 | 596 => .bool (Zl (Zgt c.tM (stF (ZiY a.tR) b.tI.toNat)))
 | 597 => .int (Zix (ZR d.tM) (ZkO a.tN) b.tR c.tI.toNat).1
 | 598 => .int (Zix (ZR d.tM) (ZkO a.tN) b.tR c.tI.toNat).2
 | 600 => .rows (ZgR a.tR)
 | 601 => .rows (Zqg a.tM)
 | 602 => .rows (ZiZ (mvF a.tM) b.tR c.tI.toNat)
 | 603 => .rows (finR' a.tR)
 | 604 => .int (Ziw a.tR)
 | 605 => .bool (Zl (ZAX a.tM b.tM c.tR))
 | 610 => .rows ((Zp3 a.tR b.tI.toNat).map Zxf)
 | 611 => .bool (Zl (∀ j : Nat, (j : Int) < c.tI -> Op.bytesLess (txt (a.tR.getD j [])) b.tB = true))
 | 612 => .rows (ZiZ (leF a.tR b.tN) c.tR d.tI.toNat)
 | 606 => .bool (Zl (canM a.tM))
 | 620 => .bool (Zl (∀ r ∈ a.tR, 0 <= g0 r))
 | 621 => .bool (Zl (ndP a.tR))
 | 622 => .bool (Zl (a.tR.Perm b.tR /\ ZzD c.tR (ZE d) a.tR))
 | 623 => .bool (Zl (ZDp a.tR b.tR c.tR (ZE d)))
 | 624 => .bool (Zl (ZDw a.tR b.tR c.tR (ZE d)))
 | 630 => .bool (Zl (∀ j : Nat, (j : Int) < c.tI -> ZR b.tM ((a.tR.getD j []).drop 1) = true))
 | 631 => .bool (Zl (ZDO a.tR b.tR c.tM (ZE d)))
 | 633 => .bool (Zl (∀ t ∈ ZE a, t.rds.length <= 1000000))
 | 632 => .bool (Zl (∀ j : Nat, (j : Int) < d.tI -> okU b.tR (ZE c) (g0 (a.tR.getD 0 [])) ((a.tR.drop 1).getD j [])))
 | 640 => .rows (a.tR.eraseIdx b.tI.toNat)
 | 641 => .ints ((Zk0 c.tR (ZE a) b.tM d.tR).getD [])
 | 642 => .bool (Zk0 c.tR (ZE a) b.tM d.tR).isSome
 | 643 => .bool (Zl (∀ j : Nat, (j : Int) < g0 (d.tR.getD 0 []) -> Zqw c.tR (ZE a) (ZkZ b.tM) (d.tR.drop 1) (Zqs c.tR (ZE a) ((d.tR.drop 1).length - 1)) j = none))
 | 650 => .ints (ZkI a.tN b.tI.toNat)
 | 651 => .bool (Zl (∀ j : Nat, (j : Int) < c.tI -> a.tN.getD j 0 < b.tI))
 | 652 => .bool (Zl (b.tI ∈ a.tN))
 | 653 => .bool (Zl (∀ j : Nat, (j : Int) < c.tI -> a.tN.getD j 0 ≠ b.tI))
 | 654 => .bool (Zl (Zju a.tR b.tN c.tI))
 | 655 => .bool (Zl (ZFG a.tR b.tN c.tI d.tI))
 | 656 => .bool (Zl (ZEJ a.tR b.tN c.tI d.tI))
 | 657 => .ints ((ZmD a.tR b.tN c.tN).getD [])
 | 658 => .bool (ZmD a.tR b.tN c.tN).isSome
 | 659 => .bool (Zl (∀ j : Nat, (j : Int) < d.tI -> Zqu a.tR b.tN c.tN (ZhB a.tR b.tN (b.tN.length - c.tN.length - 1)) j = none))
 | 660 => .ints ((orS a.tR).getD [])
 | 661 => .bool (orS a.tR).isSome
 | 662 => .int (orE a.tR)
 | 690 => .rows (bhN a.tR b.tN c.tI.toNat ++ ZX a.tR (b.tN.getD c.tI.toNat 0) d.tI.toNat)
 | _ => .int 0
noncomputable def prd (n : Nat) (w0 : World) (k x : U GG) : Go.Eng.HProp :=
 match n with
 | 100 => ZdW k.tR (ZE x)
 | 101 => ZFm (g0 (k.tR.getD 0 [])) (k.tR.drop 1) (ZE x)
 | 103 => ZpX (g0 (k.tR.getD 0 [])) (k.tR.drop 1)
 | 102 => ZDr (g0 (k.tR.getD 0 [])) (g1 (k.tR.getD 0 [])) (k.tR.drop 1) (ZE x)
 | 110 => prH k.tR x.tR
 | 111 => prO k.tR x.tR
 | _ => emp
noncomputable def sig : Sig GG := { dg := gg0, ch := fun _ => true, usr := usr, prd := prd }
theorem hR : RfSig sig where
 u500 := fun _ _ _ _ => rfl
 u501 := fun _ _ _ _ => rfl
 u502 := fun _ _ _ _ => rfl
 u503 := fun _ _ _ _ => rfl
 u504 := fun _ _ _ _ => rfl
 u505 := fun _ _ _ _ => rfl
 u506 := fun _ _ _ _ => rfl
 u507 := fun _ _ _ _ => rfl
 u508 := fun _ _ _ _ => rfl
 u509 := fun _ _ _ _ => rfl
 u510 := fun _ _ _ _ => rfl
 u511 := fun _ _ _ _ => rfl
 u512 := fun _ _ _ _ => rfl
 u513 := fun _ _ _ _ => rfl
 u514 := fun _ _ _ _ => rfl
 u515 := fun _ _ _ _ => rfl
 u516 := fun _ _ _ _ => rfl
 u517 := fun _ _ _ _ => rfl
 u518 := fun _ _ _ _ => rfl
 u519 := fun _ _ _ _ => rfl
 u520 := fun _ _ _ _ => rfl
 u521 := fun _ _ _ _ => rfl
 u522 := fun _ _ _ _ => rfl
 u524 := fun _ _ _ _ => rfl
 u525 := fun _ _ _ _ => rfl
 u523 := fun _ _ _ _ => rfl
theorem hB : JbSig sig where
 rf := hR
 u530 := fun _ _ _ _ => rfl
 u531 := fun _ _ _ _ => rfl
 u532 := fun _ _ _ _ => rfl
 u533 := fun _ _ _ _ => rfl
 u534 := fun _ _ _ _ => rfl
 u536 := fun _ _ _ _ => rfl
 u535 := fun _ _ _ _ => rfl
theorem hT : JtSig sig where
 jb := hB
 p100 := fun _ _ _ => rfl
 p101 := fun _ _ _ => rfl
 p103 := fun _ _ _ => rfl
 p102 := fun _ _ _ => rfl
 u568 := fun _ _ _ _ => rfl
 u571 := fun _ _ _ _ => rfl
 u569 := fun _ _ _ _ => rfl
 u570 := fun _ _ _ _ => rfl
 u565 := fun _ _ _ _ => rfl
 u566 := fun _ _ _ _ => rfl
 u540 := fun _ _ _ _ => rfl
 u541 := fun _ _ _ _ => rfl
 u542 := fun _ _ _ _ => rfl
 u543 := fun _ _ _ _ => rfl
 u544 := fun _ _ _ _ => rfl
 u545 := fun _ _ _ _ => rfl
 u546 := fun _ _ _ _ => rfl
 u547 := fun _ _ _ _ => rfl
 u548 := fun _ _ _ _ => rfl
 u549 := fun _ _ _ _ => rfl
 u550 := fun _ _ _ _ => rfl
 u551 := fun _ _ _ _ => rfl
 u552 := fun _ _ _ _ => rfl
 u553 := fun _ _ _ _ => rfl
 u554 := fun _ _ _ _ => rfl
 u555 := fun _ _ _ _ => rfl
 u556 := fun _ _ _ _ => rfl
 u557 := fun _ _ _ _ => rfl
 u558 := fun _ _ _ _ => rfl
 u559 := fun _ _ _ _ => rfl
 u560 := fun _ _ _ _ => rfl
 u561 := fun _ _ _ _ => rfl
 u562 := fun _ _ _ _ => rfl
 u563 := fun _ _ _ _ => rfl
 u564 := fun _ _ _ _ => rfl
theorem hJ : JsSig sig where
 jt := hT
 u580 := fun _ _ _ _ => rfl
 u582 := fun _ _ _ _ => rfl
 u583 := fun _ _ _ _ => rfl
 u584 := fun _ _ _ _ => rfl
 u585 := fun _ _ _ _ => rfl
 u586 := fun _ _ _ _ => rfl
 u587 := fun _ _ _ _ => rfl
 u590 := fun _ _ _ _ => rfl
 u591 := fun _ _ _ _ => rfl
 u592 := fun _ _ _ _ => rfl
 u593 := fun _ _ _ _ => rfl
 u594 := fun _ _ _ _ => rfl
 u595 := fun _ _ _ _ => rfl
 u596 := fun _ _ _ _ => rfl
 u597 := fun _ _ _ _ => rfl
 u598 := fun _ _ _ _ => rfl
theorem hF : FiSig sig where
 js := hJ
 p110 := fun _ _ _ => rfl
 p111 := fun _ _ _ => rfl
 u600 := fun _ _ _ _ => rfl
 u601 := fun _ _ _ _ => rfl
 u602 := fun _ _ _ _ => rfl
 u603 := fun _ _ _ _ => rfl
 u604 := fun _ _ _ _ => rfl
 u605 := fun _ _ _ _ => rfl
 u610 := fun _ _ _ _ => rfl
 u611 := fun _ _ _ _ => rfl
 u612 := fun _ _ _ _ => rfl
 u606 := fun _ _ _ _ => rfl
theorem hD : OdSig sig where
 fi := hF
 u620 := fun _ _ _ _ => rfl
 u621 := fun _ _ _ _ => rfl
 u622 := fun _ _ _ _ => rfl
 u623 := fun _ _ _ _ => rfl
 u624 := fun _ _ _ _ => rfl
theorem hO : OfSig sig where
 od := hD
 u630 := fun _ _ _ _ => rfl
 u631 := fun _ _ _ _ => rfl
 u633 := fun _ _ _ _ => rfl
 u632 := fun _ _ _ _ => rfl
theorem hU : OuSig sig where
 ft := hO
 u640 := fun _ _ _ _ => rfl
 u641 := fun _ _ _ _ => rfl
 u642 := fun _ _ _ _ => rfl
 u643 := fun _ _ _ _ => rfl
theorem hG : OrSig sig where
 ou := hU
 u650 := fun _ _ _ _ => rfl
 u651 := fun _ _ _ _ => rfl
 u652 := fun _ _ _ _ => rfl
 u653 := fun _ _ _ _ => rfl
 u654 := fun _ _ _ _ => rfl
 u655 := fun _ _ _ _ => rfl
 u656 := fun _ _ _ _ => rfl
 u657 := fun _ _ _ _ => rfl
 u658 := fun _ _ _ _ => rfl
 u659 := fun _ _ _ _ => rfl
 u660 := fun _ _ _ _ => rfl
 u661 := fun _ _ _ _ => rfl
 u662 := fun _ _ _ _ => rfl
theorem hK : SbSig sig where
 og := hG
 u690 := fun _ _ _ _ => rfl
noncomputable def env (b o l c : Int) (L : List (List Int)) : Env GG := fun i => match i with
 | 0 => .int b | 1 => .int o | 2 => .int l | 3 => .int c | 4 => .rows L | _ => .int 0
abbrev V6 (L : List (List Int)) : List Value := L.flatMap (rowVals Zf5)
def Ro (w : World) (b o : Int) (vals : List Value) : Prop := (0 <= b \/ vals = []) /\ ∀ i v, vals[i]? = some v -> b.toNat < w.heap.size /\ w.cell? ⟨b.toNat, o.toNat + i, none⟩ = some v
def slV4 (b o l c : Int) : Value := .slice (if b < 0 then none else some ⟨b.toNat, o.toNat, none⟩) l.toNat c.toNat
theorem walk (b o l c : Int) (L : List (List Int)) (w : World) (h0 : 0 <= l /\ l = L.length /\ l <= c /\ l <= 9223372036854775807) (hr : Ro w b o (V6 L)) :
  Calls Try.prog 4 #[slV4 b o l c] w fun e w' => e = .returned (.bool true) /\ Below w.heap.size w w' := by
 have q : ∀ e ∈ Zi3.reqs, (e.den sig (env b o l c L)).tP := by
  intro e he
  simp only [Zi3, hQ, List.cons_append, List.nil_append, List.mem_cons, List.not_mem_nil, or_false] at he
  rcases he with rfl | rfl | rfl | rfl
  all_goals simp [eLe, Go.Eng.SX.mk2, Go.Eng.SX.den, Go.Eng.ap1, Go.Eng.ap2, ai, rA, Zk, z0, env, U.co]
  all_goals omega
 have := (ZEr sig hK) (fun _ => true) w emp (env b o l c L) w [slV4 b o l c] (by
  show Go.Eng.argsR _ _ [.one (.slice (ai 0) (ai 1) z0 z0 (ai 2) (ai 3) 6)] _
  refine ⟨.inr ?_, trivial⟩
  all_goals simp [slV4, Go.Eng.SV.den, Go.Eng.SC.den, Go.Eng.SX.den, ai, z0, env, U.co]) q (by
  obtain ⟨x, hx, hi⟩ := Zn6 w
  rw [Go.Eng.emp_star] at hx
  refine ⟨x, ?_, hi⟩
  have e : Go.Eng.hpDen (sig.wc fun _ => true) (env b o l c L) w Zi3.pre = Zd (Go.Eng.roDen sig w hE (.int b) (.int o) (.rows L)) emp := rfl
  rw [e, Go.Eng.star_assoc, Go.Eng.roDen, Go.Eng.star_pure, Go.Eng.emp_star]
  exact ⟨hr, hx⟩)
 refine this.mono ?_
 rintro e w' ⟨ρ', v, hx, rfl, hv, hs, hfa⟩
 have hv : v = (Go.Eng.SC.bool (.at .bool 6)).den sig ρ' := Go.Eng.R_one sig ρ' hv
 subst hv
 refine ⟨?_, hs.below⟩
 have h6 : (ρ' 6).toBool = true := hfa (qA 6) (List.mem_singleton.2 rfl)
 show Ending.returned (.bool (ρ' 6).toBool) = _
 rw [h6]
theorem laid : laidOutB Try.prog = true := by kernel_rfl
set_option maxRecDepth 100000 in
theorem YA (H : Type) (enc : TypeId × Value -> H) (W : World) (base : Nat) (args : Array Value) (ds gs : List (DataW H)) (before : List MemPlace)
  (hval : ∀ (j : Nat) t v, Try.f4.params[j]? = some t -> args[j]? = some v -> Value.okWide Try.prog W .any base t v)
  (hW : DataW.Whole enc Try.prog Try.f4.params.toList Rows.judgeSoundSpec.vars false W args.toList ds gs before) :
  Calls Try.prog 4 args W fun e W' => ∃ v, e = .returned v /\ Rows.judgeSoundSpec.post enc Try.prog Try.f4 false true false false W args v W' := by
 have hW' := hW
 obtain ⟨p, q, hA0, hV, rfl, hfz, hnd⟩ := hW
 have hA : DataW.TrodAll enc Try.prog W 0 (fun _ => true) true Try.f4.params.toList args.toList ds p := hA0
 rw [Try.params4] at hA hval
 obtain ⟨v0, vs0, d0, ds0, p0, q0, hargs, rfl, rfl, h0, r0⟩ := trodAll_cons hA
 obtain ⟨rfl, rfl, rfl⟩ := trodAll_nil r0
 obtain rfl : args = #[v0] := by cases args; simp_all
 obtain ⟨rfl, rfl⟩ := trodVars_none hV
 have hlt : ∀ x ∈ p0, x.block < W.heap.size := fun x hx => hW'.lt x (by simpa using hx)
 have fin : ∀ (e : Ending) (W' : World), (e = .returned (.bool true) /\ Below W.heap.size W W') -> ∃ v, e = .returned v /\ Rows.judgeSoundSpec.post enc Try.prog Try.f4 false true false false W #[v0] v W' := by
  rintro e W' ⟨rfl, hb⟩
  clear hA0
  simp only [List.append_nil] at hW'
  exact ⟨_, rfl, Zho (pa := p0) (pv := []) hW' (fun _ _ _ => (trodAll_cons_mk (shut_bool Try.underlying4 _) trodAll_mk0))
   (fun sp hsp => trodAll_mk1 (WideElems.Trod_stays laid (by kernel_rfl) (of_decide_eq_true (by kernel_rfl)) h0 (fun x hx => hb.same (hlt x hx)) (fun x hx => hsp x hx))) (fun _ _ => rfl) (by simp) hb
   (ok_one (by kernel_rfl) rfl (okWide_bool_mk Try.underlying4 _))⟩
 obtain ⟨b, o, l, c, L, g0⟩ := Zo6 (enc := enc) (W := W) (base := base) (v := v0) (d := d0) (ps := p0) Try.underlying26 Try.underlying43 (by kernel_rfl) rfl rfl rfl rfl rfl rfl (by kernel_rfl) (by kernel_rfl) (by kernel_rfl) (by kernel_rfl) (by kernel_rfl) (by kernel_rfl)
  Try.underlying3 Try.underlying3 Try.underlying9 Try.underlying9 Try.underlying4 Try.underlying3 (hval 0 26 v0 rfl rfl) h0
 refine Calls.mono ?_ fin
 have := walk b o l c L W ⟨g0.2.1, g0.2.2.1, g0.2.2.2.1, g0.2.2.2.2.1⟩ g0.2.2.2.2.2.1
 have e0 : v0 = slV4 b o l c := g0.1
 rw [e0]
 exact this
set_option maxRecDepth 100000 in
theorem ZFA (os : Os) (started : os.Started) (H : Type) (enc : TypeId × Value -> H) :
  ReturnsInHanded {} Try.checked os 4 .any (Rows.judgeSoundSpec.pre6 enc Try.prog Try.f4 Rows.judgeSoundRow.domain false) (Rows.judgeSoundSpec.post enc Try.prog Try.f4 false true false false) := by
 refine returnsInHanded_of_change (C := Try.checked) own started (by kernel_rfl) Try.func4
  (ChangeSpec.witness6 (enc := enc) (C := Try.checked) false ⟨#[], #[.slice none 0 0], []⟩ 8 (by kernel_rfl) (by kernel_rfl) (by kernel_rfl) (by kernel_rfl)) ?_
 intro W base args ds gs before hval hW hcnd _
 exact YA H enc W base args ds gs before hval hW
theorem over : Rows.judgeSoundRow.holds Try.pinned (OpenSpec.ofChange Rows.judgeSoundSpec) :=
 OpenClaim.holds_of_wide 4 Try.f4 rfl rfl rfl rfl rfl rfl rfl ⟨rfl, rfl, rfl, rfl, rfl⟩ rfl rfl rfl rfl rfl (by kernel_rfl) Try.func4 (by kernel_rfl)
  (of_decide_eq_true (by kernel_rfl)) (by unfold Func.isWrapper; first | (rw [if_pos (by decide +kernel)]; kernel_rfl) | (rw [if_neg (by decide +kernel)]; exact ⟨rfl, rfl⟩))
  (fun os started H enc _ => ZFA os started H enc)
theorem proved : Rows.JudgeSoundSaid :=
 over
#print axioms proved
end Go.Proofs.Ytidlngnhjffepaa.judgeSound
