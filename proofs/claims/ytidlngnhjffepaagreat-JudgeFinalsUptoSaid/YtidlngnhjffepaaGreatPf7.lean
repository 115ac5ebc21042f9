/- Part of a proof. -/
import Derived.Test.YtidlngnhjffepaaGreatPf6
import Derived.Shelf.SlLaysF0
import Derived.Shelf.SlLaysC2
import Derived.Ground.SlsfProg
import Derived.Ground.SlgcProg
import Derived.Test.YtidlngnhjffepaaGreatProg
import Derived.Shelf.SlSortCmp.NoneTotal
import Derived.Shelf.SlicesG.Cmp
import Derived.RangeFuncBox
import Derived.RangeFuncLeaves
import Derived.RangeFuncGives
import Derived.Maps.AppendAt
import Derived.Shelf.Abstract
import Derived.Shelf.SlIter.Collect
import Derived.WalkKit
import Derived.OwnWalkIn
import Derived.TacticsInMore
import Derived.LoopNIn
import Derived.LoopIn
import Derived.Shelf.SlMaps.Clone
set_option linter.unusedSimpArgs false
set_option linter.unusedVariables false
set_option maxRecDepth 20000
namespace Go.Proofs.YtidlngnhjffepaaGreat
noncomputable section
open Go.Eng
def mrk (j : Int) : List UInt8 := [byt j, byt (j.tdiv 256)]
def mkR (j : Int) : List (List Int) -> HProp
 | [] => emp
 | r :: R => Zd (fun h => (g1 r = 2 /\ 2 <= g2 r /\ 0 <= g0 r) /\ bAD (g0 r) (mrk j) (g2 r) h) (mkR j R)
def Zh2 (i j : Int) (r : List Int) : HProp := fun h => ∃ R : List (List Int), (0 <= g1 r /\ (R.length : Int) = g1 r) /\ Zd (rAD prE (g0 r) R (g2 r)) (if j < i then mkR j R else emp) h
def Zen (i : Int) : Int -> List (List Int) -> HProp
 | _, [] => emp
 | j, r :: rs => Zd (Zh2 i j r) (Zen i (j + 1) rs)
def ZMQ (Z : List (List Int)) (n : Int) : Prop := ∀ r ∈ Z.take n.toNat, g1 r <= 1000
def ZC1 (k : List (List Int)) : HProp := fun h => ZMQ (k.drop 1) (g2 (k.getD 0 [])) /\ Zen (g0 (k.getD 0 [])) (g1 (k.getD 0 [])) (((k.drop 1).take (g2 (k.getD 0 [])).toNat).drop (g1 (k.getD 0 [])).toNat) h
def ZGn (k : List (List Int)) : HProp := fun h => ZMQ (k.drop 1) (g2 (k.getD 0 [])) /\ Zd (Zen (g0 (k.getD 0 [])) 0 (((k.drop 1).take (g2 (k.getD 0 [])).toNat).take (g1 (k.getD 0 [])).toNat)) (Zen (g0 (k.getD 0 [])) (g1 (k.getD 0 []) + 1) (((k.drop 1).take (g2 (k.getD 0 [])).toNat).drop ((g1 (k.getD 0 [])).toNat + 1))) h
def ZJJ (k : List (List Int)) : HProp := mkR (g0 (k.getD 0 [])) ((k.drop 1).take (g1 (k.getD 0 [])).toNat)
def ZJf (k : List (List Int)) : HProp := Zd (mkR (g0 (k.getD 0 [])) ((k.drop 1).take (g1 (k.getD 0 [])).toNat)) (mkR (g0 (k.getD 0 [])) ((k.drop 1).drop ((g1 (k.getD 0 [])).toNat + 1)))
def Zsq (k W : List (List Int)) : HProp := prH ((k.drop 1).drop (g0 (k.getD 0 [])).toNat) (W.drop (g0 (k.getD 0 [])).toNat)
def txL (W : List (List Int)) : Prop := ∀ w ∈ W, (txt w).length <= 1048576 /\ (tx1 w).length <= 1048576
structure PbSig (S : Sig GG) : Prop where
 by' : BySig S
 p127 : ∀ w0 k x, S.prd 127 w0 k x = ZC1 k.tR
 p128 : ∀ w0 k x, S.prd 128 w0 k x = ZGn k.tR
 p129 : ∀ w0 k x, S.prd 129 w0 k x = ZJJ k.tR
 p130 : ∀ w0 k x, S.prd 130 w0 k x = ZJf k.tR
 p133 : ∀ w0 k x, S.prd 133 w0 k x = Zsq k.tR x.tR
 u701 : ∀ a b c d, S.usr 701 a b c d = .bytes (mrk a.tI)
 u703 : ∀ a b c d, S.usr 703 a b c d = .bool (Zn (txL a.tR))
def lpC (i j n Z : SX) : Ch := .prd 127 (Zu (ZaC i j n) Z) z0
def loC (q i n Z : SX) : Ch := .prd 128 (Zu (ZaC q i n) Z) z0
def mrC (j n R : SX) : Ch := .prd 129 (Zu (ZN j n) R) z0
def moC (j k R : SX) : Ch := .prd 130 (Zu (ZN j k) R) z0
def pdC (k R W : SX) : Ch := .prd 133 (Zu (ZoV k) R) W
def mrX (j : SX) : SX := usY 701 j z0 z0
def inPC : Ctr := ⟨[.int, .rows, .rows, .int], [.one (slC (ai 0) (Zh (rA 1)) (ai 3) 2)], [prC (rA 1) (rA 2)], [], [], .tup [], [pdC z0 (rA 1) (rA 2)], [.f2 45 (Zh (rA 1)) (Zh (rA 2))]⟩
def kyR (R k : SX) : SX := ZGr (nt R k 0) (nt R k 1) (nt R k 2)
def vaR (R k : SX) : SX := ZGr (nt R k 3) (nt R k 4) (nt R k 5)
def tk2 (Y n R k : SX) : SX := .f2 121 (tk (.f2 121 (tk Y n) (.f2 124 (kyR R k) Zbn)) (SX.mk2 40 n (.int 1))) (.f2 124 (vaR R k) Zbn)
def ZCA : Ctr := ⟨[.int, .rows, .rows, .int, .rows], [.one (.int .i64 (ai 0))], [pdC (ai 0) (rA 1) (rA 2), c42 z0 z0 (ai 3) (rA 4)], [eLe z0 (ai 0), eLt (ai 0) (Zh (rA 1)), .f2 45 (Zh (rA 1)) (Zh (rA 2)), eLe z0 (ai 3), eLe (ai 3) (Zh (rA 4)), usB 703 (rA 2) z0 z0], [], .tup [],
 [pdC (ZhM (ai 0)) (rA 1) (rA 2), c42 z0 z0 (SX.mk2 40 (SX.mk2 40 (ai 3) (.int 1)) (.int 1)) (tk2 (rA 4) (ai 3) (rA 1) (ai 0))], []⟩
theorem ZOI (S : Sig GG) (hS : PbSig S) : YH S inPC := by
 refine ZL S fun T w0 ρ h hu hp hd hr hpre => ⟨ρ, Ext.refl _ _, ?_⟩
 have e1 : hpDen T ρ w0 inPC.pre = Zd (T.prd 110 w0 ((rA 1).den T ρ) ((rA 2).den T ρ)) emp := rfl
 have e2 : hpDen T ρ w0 inPC.post = Zd (T.prd 133 w0 (.rows ([0] :: (ρ 1).tR)) (.rows (ρ 2).tR)) emp := rfl
 rw [e1, Zc, hp, hS.by'.fi.p110] at hpre
 have hpre : prH (ρ 1).tR (ρ 2).tR h := hpre
 refine ⟨?_, fun x hx => ?_⟩
 ·rw [e2, Zc, hp, hS.p133]; exact hpre
 ·rw [List.mem_singleton.1 hx]
  show (ap2 45 ((Zh (rA 1)).den T ρ) ((Zh (rA 2)).den T ρ)).tP
  rw [p45]
  show (((ρ 1).tR.length : Nat) : Int) = ((ρ 2).tR.length : Nat)
  rw [Zhz hpre]
theorem ZLd (S : Sig GG) (hS : PbSig S) : YH S ZCA := by
 refine ZL S fun T w0 ρ h hu hp hd hr hpre => ⟨ρ, Ext.refl _ _, ?_, fun x hx => nomatch hx⟩
 have a1 : ((ZhM (ai 0)).den T ρ).tI = (ρ 0).tI + 1 := by rw [ZhM, SX.mk2_den]; rfl
 have a2 : ((SX.mk2 40 (ai 3) (.int 1)).den T ρ).tI = (ρ 3).tI + 1 := by rw [SX.mk2_den]; rfl
 have a3 : ((SX.mk2 40 (SX.mk2 40 (ai 3) (.int 1)) (.int 1)).den T ρ).tI = (ρ 3).tI + 1 + 1 := by
  rw [SX.mk2_den]
  show ((SX.mk2 40 (ai 3) (.int 1)).den T ρ).tI + 1 = _
  rw [a2]
 have e1 : hpDen T ρ w0 ZCA.pre = Zd (T.prd 133 w0 (.rows ([(ρ 0).tI] :: (ρ 1).tR)) (.rows (ρ 2).tR)) (Zd (T.prd 122 w0 (.rows ([0, 0, (ρ 3).tI] :: (ρ 4).tR)) (z0.den T ρ)) emp) := rfl
 have e2 : hpDen T ρ w0 ZCA.post = Zd (T.prd 133 w0 (.rows ([((ZhM (ai 0)).den T ρ).tI] :: (ρ 1).tR)) (.rows (ρ 2).tR)) (Zd (T.prd 122 w0 (.rows ([0, 0, ((SX.mk2 40 (SX.mk2 40 (ai 3) (.int 1)) (.int 1)).den T ρ).tI] :: ((tk2 (rA 4) (ai 3) (rA 1) (ai 0)).den T ρ).tR)) (z0.den T ρ)) emp) := rfl
 have r0 := hr (eLe z0 (ai 0)) (by simp [ZCA])
 have r1 := hr (eLt (ai 0) (Zh (rA 1))) (by simp [ZCA])
 have r3 := hr (eLe z0 (ai 3)) (by simp [ZCA])
 have r4 := hr (eLe (ai 3) (Zh (rA 4))) (by simp [ZCA])
 have r5 := hr (usB 703 (rA 2) z0 z0) (by simp [ZCA])
 rw [Ze] at r0 r3 r4
 rw [ZI] at r1
 have r0 : 0 <= (ρ 0).tI := r0
 have r1 : (ρ 0).tI < ((ρ 1).tR.length : Nat) := r1
 have r3 : 0 <= (ρ 3).tI := r3
 have r4 : (ρ 3).tI <= ((ρ 4).tR.length : Nat) := r4
 simp only [usB, SX.den, hu, hS.u703, YQ, U.tPi, U.tQi, Zj, rA, Zw, U.tRi] at r5
 have l2 := hr (.f2 45 (Zh (rA 1)) (Zh (rA 2))) (by simp [ZCA])
 have l2 := Zav l2
 have l2 : (((ρ 1).tR.length : Nat) : Int) = ((ρ 2).tR.length : Nat) := l2
 have et : ((tk2 (rA 4) (ai 3) (rA 1) (ai 0)).den T ρ).tR = ((ρ 4).tR.take (ρ 3).tI.toNat ++ [[((ρ 1).tR.getD (ρ 0).tI.toNat []).getD 0 0, ((ρ 1).tR.getD (ρ 0).tI.toNat []).getD 1 0, ((ρ 1).tR.getD (ρ 0).tI.toNat []).getD 2 0]]).take ((SX.mk2 40 (ai 3) (.int 1)).den T ρ).tI.toNat ++ [[((ρ 1).tR.getD (ρ 0).tI.toNat []).getD 3 0, ((ρ 1).tR.getD (ρ 0).tI.toNat []).getD 4 0, ((ρ 1).tR.getD (ρ 0).tI.toNat []).getD 5 0]] := rfl
 rw [e1, Zc, hp, hS.p133, hS.by'.p122] at hpre
 rw [e2, Zc, hp, hS.p133, hS.by'.p122, et, a1, a2, a3]
 generalize (ρ 1).tR = R at *
 generalize (ρ 2).tR = W at *
 generalize (ρ 4).tR = Y at *
 obtain ⟨i, hi⟩ := ZPJ r0
 obtain ⟨n, hn⟩ := ZPJ r3
 rw [hi] at r1 hpre ⊢
 rw [hn] at r4 hpre ⊢
 have hiR : i < R.length := by omega
 have hiW : i < W.length := by omega
 have t1 : ((n : Int) + 1).toNat = n + 1 := by omega
 have t2 : ((n : Int) + 1 + 1).toNat = n + 1 + 1 := by omega
 have t3 : ((i : Int) + 1).toNat = i + 1 := by omega
 have dR : R.drop i = R.getD i [] :: R.drop (i + 1) := by rw [List.drop_eq_getElem_cons hiR, ZPR, ZPU hiR]; rfl
 have dW : W.drop i = W.getD i [] :: W.drop (i + 1) := by rw [List.drop_eq_getElem_cons hiW, ZPR, ZPU hiW]; rfl
 have hw : W.getD i [] ∈ W := by rw [ZPR, ZPU hiW]; exact ZQe _
 have f1 : Zsq (.rows ([(i : Int)] :: R) : U GG).tR (.rows W : U GG).tR = prH (R.drop i) (W.drop i) := by unfold Zsq; simp [g0]
 have f2 : Zsq (.rows ([(i : Int) + 1] :: R) : U GG).tR (.rows W : U GG).tR = prH (R.drop (i + 1)) (W.drop (i + 1)) := by unfold Zsq; simp [g0, t3]
 rw [f1, dR, dW, U.tRi, ZbP] at hpre
 rw [f2, U.tRi, ZbP]
 simp only [ZPY, ZPO, List.drop_zero, t1, t2] at hpre ⊢
 obtain ⟨wl1, wl2⟩ := r5 _ hw
 clear e1 e2 et hr r0 r3 hd f1 f2
 generalize R.getD i [] = r at *
 generalize W.getD i [] = w at *
 have hY : (Y.take n).length = n := by rw [ZPT]; omega
 have eY : ((Y.take n ++ [[r.getD 0 0, r.getD 1 0, r.getD 2 0]]).take (n + 1) ++ [[r.getD 3 0, r.getD 4 0, r.getD 5 0]]).take (n + 1 + 1) = Y.take n ++ ([[r.getD 0 0, r.getD 1 0, r.getD 2 0]] ++ [[r.getD 3 0, r.getD 4 0, r.getD 5 0]]) := by
  rw [ZP3 (i := n + 1) (by rw [ZPW, hY]; exact ZPH _), ZP3 (by rw [ZPW, ZPW, hY]; exact ZPH _), ZQf]
 rw [eY, Zf0, Zf0]
 have hpre : Zd (Zd (itP r w) (prH (R.drop (i + 1)) (W.drop (i + 1)))) (Zif 0 0 (Y.take n)) h := hpre
 rw [star_assoc, Zy, star_assoc] at hpre
 have fone : ∀ (j : Int) (q : List Int), Zif 0 j [q] = ZE7 0 j q := fun j q => Zc _
 rw [fone, fone]
 refine Zt (fun _ hh => hh) (fun h1 hh => Zt (fun _ hh => hh) (fun h2 hh => ?_) h1 hh) h hpre
 obtain ⟨⟨q1, q2, q3, q4, q5, q6⟩, hh⟩ := hh
 have q1 : r.getD 1 0 = ((txt w).length : Nat) := q1
 refine Zt (fun h3 hh => ?_) (fun h3 hh => ?_) h2 hh
 ·exact ⟨txt w, ⟨by show 0 <= r.getD 1 0; omega, by show r.getD 1 0 <= _; omega, by show r.getD 1 0 <= _; omega, fun q => absurd q (by omega)⟩, hh⟩
 ·exact ⟨tx1 w, ⟨by show 0 <= r.getD 4 0; omega, by show r.getD 4 0 <= _; omega, by show r.getD 4 0 <= _; omega, fun q => absurd q (by omega)⟩, hh⟩
def ZHu : Ctr := ⟨[.int, .rows, .int, .int, .rows], [.one (slC (ai 0) (Zh (rA 1)) (ai 2) 2)], [ZsJ (ai 0) (rA 1) (ai 2), lpC z0 z0 (ai 3) (rA 4)], [eLe z0 (ai 3), eLe (ai 3) (Zh (rA 4)), eLe (Zh (rA 1)) (.int 1000)], [], .tup [],
 [lpC z0 z0 (SX.mk2 40 (ai 3) (.int 1)) (.f2 121 (tk (rA 4) (ai 3)) (.f2 124 (ZGr (ai 0) (Zh (rA 1)) (ai 2)) Zbn))], []⟩
theorem ZfZ {i : Int} : ∀ {a : List (List Int)} {j : Int} (b : List (List Int)), Zen i j (a ++ b) = Zd (Zen i j a) (Zen i (j + a.length) b)
 | [], j, b => by rw [List.nil_append]; show _ = Zd emp _; rw [emp_star]; simp
 | r :: a, j, b => by
  rw [List.cons_append]
  show Zd _ (Zen i (j + 1) (a ++ b)) = Zd (Zd _ (Zen i (j + 1) a)) _
  rw [ZfZ b, star_assoc, show j + 1 + (a.length : Int) = j + ((r :: a).length : Nat) by simp only [ZQb]; omega]
theorem ZcW (i j n : Int) (Z : List (List Int)) : ZC1 ([i, j, n] :: Z) = fun h => ZMQ Z n /\ Zen i j ((Z.take n.toNat).drop j.toNat) h := rfl
theorem Zq9 (q i n : Int) (Z : List (List Int)) : ZGn ([q, i, n] :: Z) = fun h => ZMQ Z n /\ Zd (Zen q 0 ((Z.take n.toNat).take i.toNat)) (Zen q (i + 1) ((Z.take n.toNat).drop (i.toNat + 1))) h := rfl
theorem ZNg (S : Sig GG) (hS : PbSig S) : YH S ZHu := by
 refine ZL S fun T w0 ρ h hu hp hd hr hpre => ⟨ρ, Ext.refl _ _, ?_, fun x hx => nomatch hx⟩
 have a2 : ((SX.mk2 40 (ai 3) (.int 1)).den T ρ).tI = (ρ 3).tI + 1 := by rw [SX.mk2_den]; rfl
 have e1 : hpDen T ρ w0 ZHu.pre = Zd (rAD prE (ρ 0).tI (ρ 1).tR (ρ 2).tI) (Zd (T.prd 127 w0 (.rows ([0, 0, (ρ 3).tI] :: (ρ 4).tR)) (z0.den T ρ)) emp) := rfl
 have e2 : hpDen T ρ w0 ZHu.post = Zd (T.prd 127 w0 (.rows ([0, 0, ((SX.mk2 40 (ai 3) (.int 1)).den T ρ).tI] :: ((ρ 4).tR.take (ρ 3).tI.toNat ++ [[(ρ 0).tI, ((ρ 1).tR.length : Nat), (ρ 2).tI]]))) (z0.den T ρ)) emp := rfl
 have r3 := hr (eLe z0 (ai 3)) (by simp [ZHu])
 have r4 := hr (eLe (ai 3) (Zh (rA 4))) (by simp [ZHu])
 have r5 := hr (eLe (Zh (rA 1)) (.int 1000)) (by simp [ZHu])
 rw [Ze] at r3 r4 r5
 have r5 : (((ρ 1).tR.length : Nat) : Int) <= 1000 := r5
 have r3 : 0 <= (ρ 3).tI := r3
 have r4 : (ρ 3).tI <= ((ρ 4).tR.length : Nat) := r4
 rw [e1, Zc, hp, hS.p127, U.tRi] at hpre
 rw [e2, Zc, hp, hS.p127, U.tRi, a2]
 clear e1 e2 hr
 generalize (ρ 4).tR = Y at *
 obtain ⟨n, hn⟩ := ZPJ r3
 rw [hn] at r4 hpre ⊢
 have t1 : ((n : Int) + 1).toNat = n + 1 := by omega
 have hY : (Y.take n).length = n := by rw [ZPT]; omega
 rw [Zy] at hpre
 obtain ⟨h1, h2, hdj, rfl, hq, ha⟩ := hpre
 obtain ⟨hs, hq⟩ : ZMQ Y (n : Int) /\ Zen 0 0 ((Y.take ((n : Int)).toNat).drop ((0 : Int)).toNat) h1 := hq
 have eT : (Y.take ((n : Int)).toNat ++ [[(ρ 0).tI, ((ρ 1).tR.length : Nat), (ρ 2).tI]]).take ((n : Int) + 1).toNat = Y.take n ++ [[(ρ 0).tI, ((ρ 1).tR.length : Nat), (ρ 2).tI]] := by
  rw [t1, ZPY, ZP3 (by rw [ZPW, hY]; exact ZPH _)]
 refine ⟨?_, ?_⟩
 ·intro r hm
  replace hm : r ∈ (Y.take ((n : Int)).toNat ++ [[(ρ 0).tI, ((ρ 1).tR.length : Nat), (ρ 2).tI]]).take ((n : Int) + 1).toNat := hm
  rw [eT] at hm
  rcases List.mem_append.1 hm with hm | hm
  ·exact hs r hm
  ·rw [List.mem_singleton.1 hm]; exact r5
 ·show Zen 0 0 (((Y.take ((n : Int)).toNat ++ [[(ρ 0).tI, ((ρ 1).tR.length : Nat), (ρ 2).tI]]).take ((n : Int) + 1).toNat).drop 0) _
  rw [eT, List.drop_zero, ZfZ]
  refine ⟨h1, h2, hdj, rfl, hq, ?_⟩
  show Zd (Zh2 0 _ _) emp h2
  rw [Zc]
  refine ⟨(ρ 1).tR, ⟨Int.natCast_nonneg _, rfl⟩, ?_⟩
  rw [if_neg (by omega), Zc]
  exact ha
def tkpS (k : Nat) : List SC := [sl1 (ai (k + 1)) (ai k) (ai (k + 2)), sl1 (ai (k + 5)) (ai (k + 4)) (ai (k + 6)), sl1 (.int (-1)) z0 z0]
def ZMr : En := .rows [.slice 2]
def slA2 (b y c : SX) : Ch := .arr ZMr b y c
def tkpC (k : Nat) : List Ch := [.cel (ai 0) 0 (tkpS k), slA (ai (k + 1)) (rA (k + 3)) (ai (k + 2)), slA2 (ai (k + 5)) (rA (k + 7)) (ai (k + 6)), c42 z0 z0 (ai k) (rA (k + 3)), lpC z0 z0 (ai (k + 4)) (rA (k + 7))]
def tkpF (k : Nat) : List SX := [eLe z0 (ai k), eLe (ai k) (Zh (rA (k + 3))), eLe (ai k) (ai (k + 2)), eLe z0 (ai (k + 4)), eLe (ai (k + 4)) (Zh (rA (k + 7))), eLe (ai (k + 4)) (ai (k + 6)), eLe z0 (ai 0)]
def Zv9 : Ctr := ⟨[.int, .int, .int, .int, .rows, .int, .int, .int, .rows, .int, .rows, .int, .rows], [.one (.ptr (ai 0) 0), .one (slC (ai 9) (Zh (rA 10)) (ai 11) 2)], tkpC 1 ++ [ZsJ (ai 9) (rA 10) (ai 11), prC (rA 10) (rA 12)],
 tkpF 1 ++ [eLe (ai 1) (.int 1000000), eLe (ai 5) (.int 1000), eLe (Zh (rA 10)) (.int 1000), usB 703 (rA 12) z0 z0], [.int, .int, .int, .rows, .int, .int, .int, .rows], .tup [], tkpC 13, tkpF 13 ++ [.f2 45 (ai 13) (.f2 40 (ai 1) (.f2 42 (.int 2) (Zh (rA 10)))), .f2 45 (ai 17) (.f2 40 (ai 5) (.int 1))]⟩
def tkpI : Inv := ⟨[.int, .int, .int, .int, .rows], [(4, .one (.int .i64 (di 0)))], [.cel (ai 0) 0 [sl1 (di 2) (di 1) (di 3), sl1 (ai 6) (ai 5) (ai 7), sl1 (.int (-1)) z0 z0], slA (di 2) (rA 1000004) (di 3), c42 z0 z0 (di 1) (rA 1000004), pdC (di 0) (rA 10) (rA 12)],
 [eLe z0 (di 0), eLe (di 0) (Zh (rA 10)), .f2 45 (di 1) (.f2 40 (ai 1) (.f2 42 (.int 2) (di 0))), eLe (di 1) (Zh (rA 1000004)), eLe (di 1) (di 3)], .f2 41 (Zh (rA 10)) (di 0)⟩
def ZO4 : Cx := { specs := [], anns := [(15, [(0, .ghost inPC [.tmp 1]), (1, .inv tkpI), (2, .ghost ZCA [.tmp 4]), (999999, .ghost ZHu [.tmp 1])])] }
def ZHW : SX := l z (a 18)
def ZHf : SX := l z (a 19)
def ZKG : SX := l z (a 14)
def ZnZ : SX := .f2 40 (a 14) (k 1)
def ZI9 : SX := .f2 115 (r 17) (a 14)
def Zst : SX := .f2 40 (a 14) (k 2)
def Zsr : SX := .f2 40 (a 13) (k 1)
def ZJD : SX := .f2 41 (.f1 32 (r 10)) Zsr
def ZmD : SX := .f2 40 (a 5) (k 1)
def ZNW : VC := i (l z (a 1)) (i (l (a 1) (.f1 32 (r 4))) (i (l (a 1) (a 3)) (i (l z (a 5)) (i (l (a 5) (.f1 32 (r 8))) (i (l (a 5) (a 7)) (i (l z (a 0)) (i (l (a 1) (k 1000000)) (i (l (a 5) (k 1000)) (i (l (.f1 32 (r 10)) (k 1000)) (i (p 703 (r 12)) (i (e (.f1 32 (r 10)) (.f1 32 (r 12))) (n (e (a 1) (a 1)) (u 13 .int (u 14 .int (u 15 .int (u 16 .int (u 17 .rows (i (l z (a 13)) (i (l (a 13) (.f1 32 (r 10))) (i (e (a 14) (.f2 40 (a 1) (.f2 42 (k 2) (a 13)))) (i (l (a 14) (.f1 32 (r 17))) (i (l (a 14) (a 16)) (.and (i (t (a 13) (.f1 32 (r 10))) (u 18 .int (i ZHW (u 19 .int (i ZHf (n ZKG (n (l (.f2 42 ZnZ (k 24)) k1) (u 20 .int (u 21 .int (i (l ZnZ (a 21)) (i (.f2 50 (l z (a 20)) (e ZnZ z)) (u 22 .int (i (l z (a 22)) (n (l z ZnZ) (n (l ZnZ (.f2 40 (.f1 32 ZI9) (k 1))) (n (l (.f2 42 Zst (k 24)) k1) (u 23 .int (u 24 .int (i (l Zst (a 24)) (i (.f2 50 (l z (a 23)) (e Zst z)) (n (.f1 23 Zsr) (n (l z ZJD) (n (t ZJD (.f2 41 (.f1 32 (r 10)) (a 13))) (n (l z Zsr) (n (l Zsr (.f1 32 (r 10))) (n (e Zst (.f2 40 (a 1) (.f2 42 (k 2) Zsr))) (n (l Zst (.f2 40 (.f1 32 (.f2 115 (.f2 121 ZI9 (.f2 124 (.f2 122 (.f3 112 (r 10) (a 13) z) (.f2 122 (.f3 112 (r 10) (a 13) (k 1)) (.f2 122 (.f3 112 (r 10) (a 13) (k 2)) (.f1 152 z)))) (.f1 154 z))) ZnZ)) (k 1))) .tt))))))))))))))))))))))))))) (i (l (.f1 32 (r 10)) (a 13)) (u 18 .int (i ZHW (n (l (.f2 42 ZmD (k 24)) k1) (u 19 .int (u 20 .int (i (l ZmD (a 20)) (i (.f2 50 ZHf (e ZmD z)) (n ZKG (n (l z ZmD) (n (l ZmD (.f2 40 (.f1 32 (.f2 115 (r 8) (a 5))) (k 1))) (n (e (a 14) (.f2 40 (a 1) (.f2 42 (k 2) (.f1 32 (r 10))))) (n (e ZmD ZmD) .tt))))))))))))))))))))))))))))))))))))
theorem ZK4 : YV Tryz.prog ZO4 12 15 Zv9 = ZNW := by kernel_rfl
theorem ZO0 (S : Sig GG) (hS : PbSig S) : ZA S Tryz.prog 15 Zv9 := by
 refine Zg S (C := ZO4) (fuel := 12) (ZU trivial ⟨⟨⟨by decide, ZOI S hS⟩, trivial, ⟨by decide, ZLd S hS⟩, ⟨by decide, ZNg S hS⟩, trivial⟩, trivial⟩ trivial) fun ρ => ?_
 rw [ZK4]
 simp only [ZNW, ZHW, ZHf, ZKG, ZnZ, ZI9, Zst, Zsr, ZJD, ZmD, hS.u703, ZQ, ZPY, VC.den, SX.den, Env.upd, ZX, ZE, beq_iff_eq, ZPQ, beq_eq_false_iff_ne, ne_eq, ZPP, ZPO, Int.reduceToNat, Nat.reduceEqDiff, reduceIte, sB, sC]
 repeat' (first | exact trivial | apply And.intro | intro _)
 all_goals first
  | omega
  | rfl
  | assumption
  | (simp only [ZPW, ZPT, ZQb, List.length_nil] at *; omega)
def shr2 (Z : List (List Int)) (n : Int) : Prop := ∀ r ∈ Z.take n.toNat, g1 r <= 2000
def ZDk (k : List (List Int)) : HProp := fun h => shr2 (k.drop 1) (g0 (k.getD 0 [])) /\ Zen (g0 (k.getD 0 [])) 0 ((k.drop 1).take (g0 (k.getD 0 [])).toNat) h
def ZGX (k : List (List Int)) : HProp := fun h => shr2 (k.drop 1) (g1 (k.getD 0 [])) /\ Zd (Zen (g1 (k.getD 0 [])) 0 (((k.drop 1).take (g1 (k.getD 0 [])).toNat).take (g0 (k.getD 0 [])).toNat)) (Zen (g1 (k.getD 0 [])) (g0 (k.getD 0 []) + 1) (((k.drop 1).take (g1 (k.getD 0 [])).toNat).drop ((g0 (k.getD 0 [])).toNat + 1))) h
structure PoSig (S : Sig GG) : Prop where
 pb : PbSig S
 p131 : ∀ w0 k x, S.prd 131 w0 k x = ZDk k.tR
 p132 : ∀ w0 k x, S.prd 132 w0 k x = ZGX k.tR
def gpC (m P : SX) : Ch := .prd 131 (Zu (ZoV m) P) z0
def goC (i m P : SX) : Ch := .prd 132 (Zu (ZN i m) P) z0
def ltF : List SX := [.f2 45 (Zh (rA 3)) (nt (rA 2) (ai 0) 1), eLe z0 (nt (rA 2) (ai 0) 1), eLe (nt (rA 2) (ai 0) 1) (nt (rA 2) (ai 0) 2)]
def ltA : Ch := ZsJ (nt (rA 2) (ai 0) 0) (rA 3) (nt (rA 2) (ai 0) 2)
def ltQ : List SX := [eLe z0 (ai 0), eLt (ai 0) (ai 1), eLe (ai 1) (Zh (rA 2))]
def ltFs : List SX := ltF ++ [eLe (nt (rA 2) (ai 0) 1) (.int 1000)]
def ltFg : List SX := ltF ++ [eLe (nt (rA 2) (ai 0) 1) (.int 2000)]
def ZI0 (b c : SX) : SX := Zbm b (.int 2) c (.int (-1)) z0 z0
def tlC : Ctr := ⟨[.int, .int, .rows], [.one (.int .i64 (ai 0))], [lpC (ai 0) z0 (ai 1) (rA 2)], ltQ, [.rows], .tup [], [loC (ai 0) (ai 0) (ai 1) (rA 2), ltA, mrC (ai 0) z0 (rA 3)], ltFs⟩
def ZEj : Ctr := ⟨[.int, .int, .rows, .int, .int, .bytes], [.one (.int .i64 (ai 0)), .one (sl1 (ai 3) (.int 2) (ai 4))], [mrC (ai 1) (ai 0) (rA 2), bAr (ai 3) (bA 5) (ai 4)], [eLe z0 (ai 0), eLt (ai 0) (Zh (rA 2)), eqS (bA 5) (mrX (ai 1)), eLe (.int 2) (ai 4), eLe z0 (ai 3)], [], .tup [],
 [mrC (ai 1) (ZhM (ai 0)) (.f3 132 (rA 2) (ai 0) (ZI0 (ai 3) (ai 4)))], []⟩
def blC : Ctr := ⟨[.int, .int, .rows, .rows, .int], [.one (.int .i64 (ai 0)), .one (.int .i64 (ai 4))], [loC (ai 0) (ai 0) (ai 1) (rA 2), ltA, mrC (ai 0) (ai 4) (rA 3)], ltQ ++ [.f2 45 (Zh (rA 3)) (nt (rA 2) (ai 0) 1), eLe z0 (nt (rA 2) (ai 0) 1), .f2 45 (ai 4) (nt (rA 2) (ai 0) 1)], [], .tup [], [lpC (ZhM (ai 0)) z0 (ai 1) (rA 2)], []⟩
def ZKM : Ctr := ⟨[.int, .int, .rows], [.one (.int .i64 (ai 0))], [lpC (ai 0) z0 (ai 1) (rA 2)], [eLe (ai 1) (ai 0), eLe z0 (ai 1)], [], .tup [], [slA2 (.int (-1)) Zbn z0, gpC z0 Zbn, lpC (ai 1) z0 (ai 1) (rA 2)], []⟩
def ZFY : Ctr := ⟨[.int, .int, .rows], [.one (.int .i64 (ai 0))], [lpC (ai 1) (ai 0) (ai 1) (rA 2)], ltQ, [.rows], .tup [], [ltA, mrC (ai 0) (Zh (rA 3)) (rA 3), lpC (ai 1) (ZhM (ai 0)) (ai 1) (rA 2)], ltFs⟩
def Zs0 : Ctr := ⟨[.int, .rows, .int, .rows, .int, .rows, .int, .bytes, .int, .int, .int], [.one (.int .i64 (ai 0)), .one (slC (ai 2) (ai 9) (ai 4) 2), .one (sl1 (ai 6) (.int 2) (ai 8))], [gpC (ai 0) (rA 1), ZsJ (ai 2) (rA 3) (ai 4), mrC (ai 0) (ai 10) (rA 5), bAr (ai 6) (bA 7) (ai 8)],
 [eLe z0 (ai 0), eLe (ai 0) (Zh (rA 1)), eqS (rA 3) (.f2 121 (rA 5) (.f2 124 (ZI0 (ai 6) (ai 8)) Zbn)), eqS (bA 7) (mrX (ai 0)), eLe (.int 2) (ai 8), eLe z0 (ai 6), eLe z0 (ai 10), .f2 45 (ai 10) (Zh (rA 5)), .f2 45 (ai 9) (Zh (rA 3)), eLe (ai 9) (.int 2000)], [], .tup [], [gpC (ZhM (ai 0)) (.f2 121 (tk (rA 1) (ai 0)) (.f2 124 (ZGr (ai 2) (ai 9) (ai 4)) Zbn))], []⟩
def ZFw : Ctr := ⟨[.int, .int, .rows], [.one (.int .i64 (ai 0))], [gpC (ai 1) (rA 2)], ltQ, [.rows], .tup [], [goC (ai 0) (ai 1) (rA 2), ltA, mrC (ai 0) (Zh (rA 3)) (rA 3)], ltFg⟩
def ZCD : Ctr := ⟨[.int, .int, .rows, .rows, .int], [.one (.int .i64 (ai 0))], [goC (ai 0) (ai 1) (rA 2), ltA, mrC (ai 0) (ai 4) (rA 3)], ltQ ++ [.f2 45 (ai 4) (Zh (rA 3)), .f2 45 (Zh (rA 3)) (nt (rA 2) (ai 0) 1), eLe z0 (nt (rA 2) (ai 0) 1)], [], .tup [], [gpC (ai 1) (rA 2)], []⟩
def mkF : List SX := [.f2 45 (nt (rA 2) (ai 0) 1) (.int 2), eLe (.int 2) (nt (rA 2) (ai 0) 2), eLe z0 (nt (rA 2) (ai 0) 0)]
def mkP : List Ch := [moC (ai 1) (ai 0) (rA 2), bAr (nt (rA 2) (ai 0) 0) (mrX (ai 1)) (nt (rA 2) (ai 0) 2)]
def ZKP : Ctr := ⟨[.int, .int, .rows, .int], [.one (.int .i64 (ai 0))], [mrC (ai 1) (ai 3) (rA 2)], [.f2 45 (ai 3) (Zh (rA 2)), eLe z0 (ai 0), eLt (ai 0) (Zh (rA 2))], [], .tup [], mkP, mkF⟩
def ZKU : Ctr := ⟨[.int, .int, .rows], [.one (.int .i64 (ai 0))], mkP, [eLe z0 (ai 0), eLt (ai 0) (Zh (rA 2))] ++ mkF, [], .tup [], [mrC (ai 1) (Zh (rA 2)) (rA 2)], []⟩
def ZwK : Ctr := ⟨[.int, .int, .int, .int, .rows, .int, .int, .int, .rows], [.one (.ptr (ai 0) 0)], tkpC 1, tkpF 1 ++ [eLe (ai 1) (.int 1000000), eLe (ai 5) (.int 1000)], [], .one (.bool (.bool true)), [], []⟩
def ownI1 : Inv := ⟨[.int], [(4, .one (.int .i64 (di 0)))], [lpC (di 0) z0 (ai 5) (rA 8)], [eLe z0 (di 0), eLe (di 0) (ai 5)], .f2 41 (ai 5) (di 0)⟩
def ownI2 : Inv := ⟨[.int, .rows], [(5, .one (.int .i64 (di 0)))], [ZsJ (nt (rA 8) (ai 9) 0) (rA 1000001) (nt (rA 8) (ai 9) 2), mrC (ai 9) (di 0) (rA 1000001)], [eLe z0 (di 0), eLe (di 0) (nt (rA 8) (ai 9) 1), .f2 45 (Zh (rA 1000001)) (nt (rA 8) (ai 9) 1)], .f2 41 (nt (rA 8) (ai 9) 1) (di 0)⟩
def ownI3 : Inv := ⟨[.int, .int, .int, .rows], [(9, .one (.int .i64 (di 0))), (8, .one (sl1 (di 1) (di 0) (di 2)))], [slA2 (di 1) (rA 1000003) (di 2), gpC (di 0) (rA 1000003), lpC (ai 5) (di 0) (ai 5) (rA 8)], [eLe z0 (di 0), eLe (di 0) (ai 5), eLe (di 0) (Zh (rA 1000003)), eLe (di 0) (di 2)], .f2 41 (ai 5) (di 0)⟩
def ownI5 : Inv := ⟨[.int], [(12, .one (.int .i64 (di 0)))], [], [eLe z0 (di 0), eLe (di 0) (ai 10)], .f2 41 (ai 10) (di 0)⟩
def ownI6 : Inv := ⟨[.int], [(13, .one (.int .i64 (di 0)))], [], [eLe z0 (di 0), eLe (di 0) (nt (rA 13) (ai 14) 1)], .f2 41 (nt (rA 13) (ai 14) 1) (di 0)⟩
def ZLC : Cx := { specs := [(34, [Zwd])], anns := [(16, [(3, .inv ownI1), (5, .ghost tlC [.tmp 4]), (6, .inv ownI2), (7, .ghost ZEj [.tmp 5, .tmp 54]), (4, .ghost blC [.tmp 4, .tmp 5]), (16, .ghost ZKM [.tmp 4]), (18, .inv ownI3), (20, .ghost ZFY [.tmp 9]), (19, .ghost Zs0 [.tmp 9, .tmp 119, .tmp 116]), (27, .inv ownI5), (29, .ghost ZFw [.tmp 12]), (30, .inv ownI6), (32, .ghost ZKP [.tmp 13]), (500032, .ghost ZKU [.tmp 13]), (28, .ghost ZCD [.tmp 12])])] }
theorem Zcv {i i' : Int} : ∀ {l : List (List Int)} {j : Int}, (∀ q : Int, j <= q -> q < j + l.length -> (q < i ↔ q < i')) -> Zen i j l = Zen i' j l
 | [], _, _ => rfl
 | r :: l, j, hq => by
  have e : ((r :: l).length : Int) = l.length + 1 := by simp
  have h1 : Zh2 i j r = Zh2 i' j r := by unfold Zh2; simp only [hq j (ZP2 _) (by omega)]
  show Zd (Zh2 i j r) (Zen i (j + 1) l) = Zd (Zh2 i' j r) (Zen i' (j + 1) l)
  rw [h1, Zcv (l := l) (j := j + 1) fun q a b => hq q (by omega) (by omega)]
theorem ZdC {i j : Int} {k : List (List Int)} {q : Nat} (hq : q < k.length) : Zen i j k = Zd (Zd (Zen i j (k.take q)) (Zen i (j + q + 1) (k.drop (q + 1)))) (Zh2 i (j + q) (k.getD q [])) := by
 conv => lhs; rw [ZbX (d := []) hq]
 have hl : (k.take q).length = q := by rw [ZPT]; omega
 rw [ZfZ, hl, List.singleton_append]
 show Zd _ (Zd _ (Zen i (j + q + 1) _)) = _
 rw [Zy (Zh2 _ _ _), star_assoc]
theorem Zgs {j : Int} : ∀ (a b : List (List Int)), mkR j (a ++ b) = Zd (mkR j a) (mkR j b)
 | [], b => by rw [List.nil_append]; show _ = Zd emp _; rw [emp_star]
 | r :: a, b => by rw [List.cons_append]; show Zd _ (mkR j (a ++ b)) = Zd (Zd _ _) _; rw [Zgs a b, star_assoc]
theorem ZrI {j : Int} {k : List (List Int)} {q : Nat} (hq : q < k.length) : mkR j k = Zd (Zd (mkR j (k.take q)) (mkR j (k.drop (q + 1)))) (mkR j [k.getD q []]) := by
 conv => lhs; rw [ZbX (d := []) hq]
 rw [Zgs, Zgs, Zy (mkR j [_]), star_assoc]
theorem ZjJ {j : Int} {r : List Int} : mkR j [r] = fun h => (g1 r = 2 /\ 2 <= g2 r /\ 0 <= g0 r) /\ bAD (g0 r) (mrk j) (g2 r) h := Zc _
theorem Y3 (j n : Int) (R : List (List Int)) : ZJJ ([j, n] :: R) = mkR j (R.take n.toNat) := rfl
theorem ZEf (j k : Int) (R : List (List Int)) : ZJf ([j, k] :: R) = Zd (mkR j (R.take k.toNat)) (mkR j (R.drop (k.toNat + 1))) := rfl
theorem ZfX (m : Int) (P : List (List Int)) : ZDk ([m] :: P) = fun h => shr2 P m /\ Zen m 0 (P.take m.toNat) h := rfl
theorem ZqW (i m : Int) (P : List (List Int)) : ZGX ([i, m] :: P) = fun h => shr2 P m /\ Zd (Zen m 0 ((P.take m.toNat).take i.toNat)) (Zen m (i + 1) ((P.take m.toNat).drop (i.toNat + 1))) h := rfl
theorem ZMb (S : Sig GG) (hS : PoSig S) : YH S tlC := by
 refine ZL S fun T w0 ρ h hu hp hd hr hpre => ?_
 have e1 : hpDen T ρ w0 tlC.pre = Zd (T.prd 127 w0 (.rows ([(ρ 0).tI, 0, (ρ 1).tI] :: (ρ 2).tR)) (z0.den T ρ)) emp := rfl
 have e2 : ∀ R : List (List Int), hpDen T (ρ.upd 3 (.rows R)) w0 tlC.post = Zd (T.prd 128 w0 (.rows ([(ρ 0).tI, (ρ 0).tI, (ρ 1).tI] :: (ρ 2).tR)) (z0.den T ρ)) (Zd (rAD prE (g0 ((ρ 2).tR.getD (ρ 0).tI.toNat [])) R (g2 ((ρ 2).tR.getD (ρ 0).tI.toNat []))) (Zd (T.prd 129 w0 (.rows ([(ρ 0).tI, 0] :: R)) (z0.den T ρ)) emp)) := fun _ => rfl
 have r0 := hr (eLe z0 (ai 0)) (by simp [tlC, ltQ])
 have r1 := hr (eLt (ai 0) (ai 1)) (by simp [tlC, ltQ])
 have r2 := hr (eLe (ai 1) (Zh (rA 2))) (by simp [tlC, ltQ])
 rw [Ze] at r0 r2
 rw [ZI] at r1
 have r0 : 0 <= (ρ 0).tI := r0
 have r1 : (ρ 0).tI < (ρ 1).tI := r1
 have r2 : (ρ 1).tI <= ((ρ 2).tR.length : Nat) := r2
 rw [e1, Zc, hp, hS.pb.p127, U.tRi, ZcW] at hpre
 obtain ⟨hs, hpre⟩ := hpre
 rw [show ((0 : Int)).toNat = 0 from rfl, List.drop_zero] at hpre
 have hi : (ρ 0).tI.toNat < ((ρ 2).tR.take (ρ 1).tI.toNat).length := by rw [ZPT]; omega
 rw [ZdC hi, Z5 (by omega), show (0 : Int) + ((ρ 0).tI.toNat : Nat) = (ρ 0).tI by omega] at hpre
 obtain ⟨a, b, d, rfl, ha, R, ⟨q1, q2⟩, hb⟩ := hpre
 rw [if_neg (by omega), Zc] at hb
 have q3 := ZlC (by simp) hb
 have q4 := hs ((ρ 2).tR.getD (ρ 0).tI.toNat []) (by rw [<- Z5 (n := (ρ 1).tI.toNat) (by omega), ZPR, ZPU hi]; exact ZQe _)
 refine ⟨ρ.upd 3 (.rows R), Ext.upd _ _, ?_, fun x hx => ?_⟩
 ·rw [e2, Zc, hp, hS.pb.p128, hS.pb.p129, U.tRi, U.tRi, Zq9, Y3]
  rw [show mkR (ρ 0).tI (R.take ((0 : Int)).toNat) = emp from rfl, Zc]
  exact ⟨a, b, d, rfl, ⟨hs, ha⟩, hb⟩
 ·simp only [tlC, ltFs, ltF, List.cons_append, List.nil_append, List.mem_cons, List.not_mem_nil, or_false] at hx
  rcases hx with rfl | rfl | rfl | rfl
  ·show (ap2 45 _ _).tP
   rw [p45]; exact q2
  ·rw [Ze]; exact q1
  ·rw [Ze]
   have q5 : g1 ((ρ 2).tR.getD (ρ 0).tI.toNat []) <= g2 ((ρ 2).tR.getD (ρ 0).tI.toNat []) := by omega
   exact q5
  ·rw [Ze]; exact q4
theorem ZOR (S : Sig GG) (hS : PoSig S) : YH S ZFY := by
 refine ZL S fun T w0 ρ h hu hp hd hr hpre => ?_
 have e1 : hpDen T ρ w0 ZFY.pre = Zd (T.prd 127 w0 (.rows ([(ρ 1).tI, (ρ 0).tI, (ρ 1).tI] :: (ρ 2).tR)) (z0.den T ρ)) emp := rfl
 have a1 : ∀ ρ' : Go.Eng.Env GG, ((ZhM (ai 0)).den T ρ').tI = (ρ' 0).tI + 1 := fun ρ' => by rw [ZhM, SX.mk2_den]; rfl
 have e2 : ∀ R : List (List Int), hpDen T (ρ.upd 3 (.rows R)) w0 ZFY.post = Zd (rAD prE (g0 ((ρ 2).tR.getD (ρ 0).tI.toNat [])) R (g2 ((ρ 2).tR.getD (ρ 0).tI.toNat []))) (Zd (T.prd 129 w0 (.rows ([(ρ 0).tI, (R.length : Nat)] :: R)) (z0.den T ρ)) (Zd (T.prd 127 w0 (.rows ([(ρ 1).tI, ((ZhM (ai 0)).den T (ρ.upd 3 (.rows R))).tI, (ρ 1).tI] :: (ρ 2).tR)) (z0.den T ρ)) emp)) := fun _ => rfl
 have r0 := hr (eLe z0 (ai 0)) (by simp [ZFY, ltQ])
 have r1 := hr (eLt (ai 0) (ai 1)) (by simp [ZFY, ltQ])
 have r2 := hr (eLe (ai 1) (Zh (rA 2))) (by simp [ZFY, ltQ])
 rw [Ze] at r0 r2
 rw [ZI] at r1
 have r0 : 0 <= (ρ 0).tI := r0
 have r1 : (ρ 0).tI < (ρ 1).tI := r1
 have r2 : (ρ 1).tI <= ((ρ 2).tR.length : Nat) := r2
 rw [e1, Zc, hp, hS.pb.p127, U.tRi, ZcW] at hpre
 obtain ⟨hs, hpre⟩ := hpre
 have hi : (ρ 0).tI.toNat < ((ρ 2).tR.take (ρ 1).tI.toNat).length := by rw [ZPT]; omega
 have hj : ((ρ 2).tR.take (ρ 1).tI.toNat).getD (ρ 0).tI.toNat [] = (ρ 2).tR.getD (ρ 0).tI.toNat [] := Z5 (by omega)
 have ed : ((ρ 2).tR.take (ρ 1).tI.toNat).drop (ρ 0).tI.toNat = (ρ 2).tR.getD (ρ 0).tI.toNat [] :: ((ρ 2).tR.take (ρ 1).tI.toNat).drop ((ρ 0).tI.toNat + 1) := by
  rw [List.drop_eq_getElem_cons hi, <- hj, ZPR, ZPU hi]; rfl
 rw [ed] at hpre
 obtain ⟨a, b, d, rfl, ⟨R, ⟨q1, q2⟩, ha⟩, hb⟩ := hpre
 rw [if_pos r1] at ha
 have q3 : (R.length : Int) <= g2 ((ρ 2).tR.getD (ρ 0).tI.toNat []) := by
  obtain ⟨a1, a2, _, _, h1, _⟩ := ha
  exact ZlC (by simp) h1
 have q4 := hs ((ρ 2).tR.getD (ρ 0).tI.toNat []) (by rw [<- hj, ZPR, ZPU hi]; exact ZQe _)
 refine ⟨ρ.upd 3 (.rows R), Ext.upd _ _, ?_, fun x hx => ?_⟩
 ·rw [e2, Zc, hp, hS.pb.p127, hS.pb.p129, U.tRi, U.tRi, ZcW, Y3, a1, ZPY, List.take_length, <- star_assoc]
  refine ⟨a, b, d, rfl, ha, hs, ?_⟩
  show Zen _ ((ρ 0).tI + 1) (List.drop ((ρ 0).tI + 1).toNat _) b
  rw [show ((ρ 0).tI + 1).toNat = (ρ 0).tI.toNat + 1 by omega]
  exact hb
 ·simp only [ZFY, ltFs, ltF, List.cons_append, List.nil_append, List.mem_cons, List.not_mem_nil, or_false] at hx
  rcases hx with rfl | rfl | rfl | rfl
  ·show (ap2 45 _ _).tP
   rw [p45]; exact q2
  ·rw [Ze]; exact q1
  ·rw [Ze]
   have q5 : g1 ((ρ 2).tR.getD (ρ 0).tI.toNat []) <= g2 ((ρ 2).tR.getD (ρ 0).tI.toNat []) := by omega
   exact q5
  ·rw [Ze]; exact q4
theorem ZN2 (S : Sig GG) (hS : PoSig S) : YH S ZEj := by
 refine ZL S fun T w0 ρ h hu hp hd hr hpre => ⟨ρ, Ext.refl _ _, ?_, fun x hx => nomatch hx⟩
 have e1 : hpDen T ρ w0 ZEj.pre = Zd (T.prd 129 w0 (.rows ([(ρ 1).tI, (ρ 0).tI] :: (ρ 2).tR)) (z0.den T ρ)) (Zd (bAD (ρ 3).tI (ρ 5).tB (ρ 4).tI) emp) := rfl
 have a1 : ((ZhM (ai 0)).den T ρ).tI = (ρ 0).tI + 1 := by rw [ZhM, SX.mk2_den]; rfl
 have e2 : hpDen T ρ w0 ZEj.post = Zd (T.prd 129 w0 (.rows ([(ρ 1).tI, ((ZhM (ai 0)).den T ρ).tI] :: (ρ 2).tR.set (ρ 0).tI.toNat [(ρ 3).tI, 2, (ρ 4).tI, -1, 0, 0])) (z0.den T ρ)) emp := rfl
 have r0 := hr (eLe z0 (ai 0)) (by simp [ZEj])
 have r1 := hr (eLt (ai 0) (Zh (rA 2))) (by simp [ZEj])
 have r2 := hr (eqS (bA 5) (mrX (ai 1))) (by simp [ZEj])
 have r3 := hr (eLe (.int 2) (ai 4)) (by simp [ZEj])
 have r4 := hr (eLe z0 (ai 3)) (by simp [ZEj])
 rw [Ze] at r0 r3 r4
 rw [ZI] at r1
 have r0 : 0 <= (ρ 0).tI := r0
 have r1 : (ρ 0).tI < ((ρ 2).tR.length : Nat) := r1
 have r3 : 2 <= (ρ 4).tI := r3
 have r4 : 0 <= (ρ 3).tI := r4
 simp only [eqS, SX.mk2, mrX, usY, SX.den, ai, bA, hu, hS.pb.u701, Zp, ZG, U.tIi, ZCF, U.bytes.injEq] at r2
 rw [e1, Zc, hp, hS.pb.p129, U.tRi, Y3] at hpre
 rw [e2, Zc, hp, hS.pb.p129, U.tRi, Y3, a1, show ((ρ 0).tI + 1).toNat = (ρ 0).tI.toNat + 1 by omega, List.take_add_one, List.take_set_of_le (ZPH _), List.getElem?_set_self (by omega)]
 show mkR _ (_ ++ [_]) h
 rw [Zgs, ZjJ]
 refine Zt (fun _ hh => hh) (fun h1 hh => ⟨⟨rfl, r3, r4⟩, ?_⟩) h hpre
 rw [r2] at hh
 exact hh
theorem bl_gh (S : Sig GG) (hS : PoSig S) : YH S blC := by
 refine ZL S fun T w0 ρ h hu hp hd hr hpre => ⟨ρ, Ext.refl _ _, ?_, fun x hx => nomatch hx⟩
 have e1 : hpDen T ρ w0 blC.pre = Zd (T.prd 128 w0 (.rows ([(ρ 0).tI, (ρ 0).tI, (ρ 1).tI] :: (ρ 2).tR)) (z0.den T ρ)) (Zd (rAD prE (g0 ((ρ 2).tR.getD (ρ 0).tI.toNat [])) (ρ 3).tR (g2 ((ρ 2).tR.getD (ρ 0).tI.toNat []))) (Zd (T.prd 129 w0 (.rows ([(ρ 0).tI, (ρ 4).tI] :: (ρ 3).tR)) (z0.den T ρ)) emp)) := rfl
 have a1 : ((ZhM (ai 0)).den T ρ).tI = (ρ 0).tI + 1 := by rw [ZhM, SX.mk2_den]; rfl
 have e2 : hpDen T ρ w0 blC.post = Zd (T.prd 127 w0 (.rows ([((ZhM (ai 0)).den T ρ).tI, 0, (ρ 1).tI] :: (ρ 2).tR)) (z0.den T ρ)) emp := rfl
 have r0 := hr (eLe z0 (ai 0)) (by simp [blC, ltQ])
 have r1 := hr (eLt (ai 0) (ai 1)) (by simp [blC, ltQ])
 have r2 := hr (eLe (ai 1) (Zh (rA 2))) (by simp [blC, ltQ])
 have r3 := Zav (hr (.f2 45 (Zh (rA 3)) (nt (rA 2) (ai 0) 1)) (by simp [blC, ltQ]))
 have r4 := hr (eLe z0 (nt (rA 2) (ai 0) 1)) (by simp [blC, ltQ])
 have r5 := Zav (hr (.f2 45 (ai 4) (nt (rA 2) (ai 0) 1)) (by simp [blC, ltQ]))
 rw [Ze] at r0 r2 r4
 rw [ZI] at r1
 have r0 : 0 <= (ρ 0).tI := r0
 have r1 : (ρ 0).tI < (ρ 1).tI := r1
 have r2 : (ρ 1).tI <= ((ρ 2).tR.length : Nat) := r2
 have r3 : (((ρ 3).tR.length : Nat) : Int) = g1 ((ρ 2).tR.getD (ρ 0).tI.toNat []) := r3
 have r4 : 0 <= g1 ((ρ 2).tR.getD (ρ 0).tI.toNat []) := r4
 have r5 : (ρ 4).tI = g1 ((ρ 2).tR.getD (ρ 0).tI.toNat []) := r5
 rw [e1, Zc, hp, hS.pb.p128, hS.pb.p129, U.tRi, U.tRi, Zq9, Y3, show (ρ 4).tI.toNat = (ρ 3).tR.length by omega, List.take_length] at hpre
 rw [e2, Zc, hp, hS.pb.p127, U.tRi, ZcW, a1]
 have hi : (ρ 0).tI.toNat < ((ρ 2).tR.take (ρ 1).tI.toNat).length := by rw [ZPT]; omega
 obtain ⟨a, b, d, rfl, ⟨hs, ha⟩, hb⟩ := hpre
 refine ⟨hs, ?_⟩
 rw [show ((0 : Int)).toNat = 0 from rfl, List.drop_zero, ZdC hi, Z5 (by omega), show (0 : Int) + ((ρ 0).tI.toNat : Nat) = (ρ 0).tI by omega]
 refine ⟨a, b, d, rfl, ?_, (ρ 3).tR, ⟨r4, r3⟩, ?_⟩
 ·rw [Zcv (i := (ρ 0).tI + 1) (i' := (ρ 0).tI) (j := 0) fun q a b => by rw [ZPT] at b; omega, Zcv (i := (ρ 0).tI + 1) (i' := (ρ 0).tI) (j := (ρ 0).tI + 1) fun q a b => by omega]
  exact ha
 ·rw [if_pos (by omega)]; exact hb
theorem ZMy (S : Sig GG) (hS : PoSig S) : YH S ZKM := by
 refine ZL S fun T w0 ρ h hu hp hd hr hpre => ⟨ρ, Ext.refl _ _, ?_, fun x hx => nomatch hx⟩
 have e1 : hpDen T ρ w0 ZKM.pre = Zd (T.prd 127 w0 (.rows ([(ρ 0).tI, 0, (ρ 1).tI] :: (ρ 2).tR)) (z0.den T ρ)) emp := rfl
 have e2 : hpDen T ρ w0 ZKM.post = Zd (rAD ZMr (-1) [] 0) (Zd (T.prd 131 w0 (.rows [[0]]) (z0.den T ρ)) (Zd (T.prd 127 w0 (.rows ([(ρ 1).tI, 0, (ρ 1).tI] :: (ρ 2).tR)) (z0.den T ρ)) emp)) := rfl
 have r0 := hr (eLe (ai 1) (ai 0)) (by simp [ZKM])
 have r1 := hr (eLe z0 (ai 1)) (by simp [ZKM])
 rw [Ze] at r0 r1
 have r0 : (ρ 1).tI <= (ρ 0).tI := r0
 have r1 : 0 <= (ρ 1).tI := r1
 rw [e1, Zc, hp, hS.pb.p127, U.tRi, ZcW] at hpre
 rw [e2, Zc, hp, hS.p131, hS.pb.p127, U.tRi, U.tRi, ZcW, show rAD ZMr (-1) [] 0 = emp from Zci _, emp_star, show ZDk [[0]] = emp from funext fun h => propext ⟨fun q => q.2, fun q => ⟨(fun r hr => nomatch hr), q⟩⟩, emp_star]
 refine ⟨hpre.1, ?_⟩
 rw [Zcv (i := (ρ 1).tI) (i' := (ρ 0).tI) fun q a b => by rw [show ((0 : Int)).toNat = 0 from rfl, List.drop_zero, ZPT] at b; omega]
 exact hpre.2
theorem ZPu (S : Sig GG) (hS : PoSig S) : YH S Zs0 := by
 refine ZL S fun T w0 ρ h hu hp hd hr hpre => ⟨ρ, Ext.refl _ _, ?_, fun x hx => nomatch hx⟩
 have e1 : hpDen T ρ w0 Zs0.pre = Zd (T.prd 131 w0 (.rows ([(ρ 0).tI] :: (ρ 1).tR)) (z0.den T ρ)) (Zd (rAD prE (ρ 2).tI (ρ 3).tR (ρ 4).tI) (Zd (T.prd 129 w0 (.rows ([(ρ 0).tI, (ρ 10).tI] :: (ρ 5).tR)) (z0.den T ρ)) (Zd (bAD (ρ 6).tI (ρ 7).tB (ρ 8).tI) emp))) := rfl
 have a1 : ((ZhM (ai 0)).den T ρ).tI = (ρ 0).tI + 1 := by rw [ZhM, SX.mk2_den]; rfl
 have e2 : hpDen T ρ w0 Zs0.post = Zd (T.prd 131 w0 (.rows ([((ZhM (ai 0)).den T ρ).tI] :: ((ρ 1).tR.take (ρ 0).tI.toNat ++ [[(ρ 2).tI, (ρ 9).tI, (ρ 4).tI]]))) (z0.den T ρ)) emp := rfl
 have r0 := hr (eLe z0 (ai 0)) (by simp [Zs0])
 have r1 := hr (eLe (ai 0) (Zh (rA 1))) (by simp [Zs0])
 have r2 := hr (eqS (rA 3) (.f2 121 (rA 5) (.f2 124 (ZI0 (ai 6) (ai 8)) Zbn))) (by simp [Zs0])
 have r3 := hr (eqS (bA 7) (mrX (ai 0))) (by simp [Zs0])
 have r4 := hr (eLe (.int 2) (ai 8)) (by simp [Zs0])
 have r5 := hr (eLe z0 (ai 6)) (by simp [Zs0])
 have r6 := Zav (hr (.f2 45 (ai 10) (Zh (rA 5))) (by simp [Zs0]))
 have r7 := Zav (hr (.f2 45 (ai 9) (Zh (rA 3))) (by simp [Zs0]))
 have r8 := hr (eLe (ai 9) (.int 2000)) (by simp [Zs0])
 rw [Ze] at r0 r1 r4 r5 r8
 have r8 : (ρ 9).tI <= 2000 := r8
 have r0 : 0 <= (ρ 0).tI := r0
 have r1 : (ρ 0).tI <= ((ρ 1).tR.length : Nat) := r1
 have r4 : 2 <= (ρ 8).tI := r4
 have r5 : 0 <= (ρ 6).tI := r5
 have r6 : (ρ 10).tI = ((ρ 5).tR.length : Nat) := r6
 have r7 : (ρ 9).tI = ((ρ 3).tR.length : Nat) := r7
 simp only [eqS, SX.mk2, mrX, usY, SX.den, ai, bA, hu, hS.pb.u701, Zp, ZG, U.tIi, ZCF, U.bytes.injEq] at r3
 have r2 : (ρ 3).tR = (ρ 5).tR ++ [[(ρ 6).tI, 2, (ρ 8).tI, -1, 0, 0]] := by
  have r2 : (ap2 155 ((rA 3).den T ρ) (.rows ((ρ 5).tR ++ [[(ρ 6).tI, 2, (ρ 8).tI, -1, 0, 0]]))).tP := by
   simp only [eqS, SX.mk2] at r2
   exact r2
  rw [ZCF] at r2
  exact U.rows.inj r2
 rw [e1, Zc, hp, hS.p131, hS.pb.p129, U.tRi, U.tRi, ZfX, Y3, show (ρ 10).tI.toNat = (ρ 5).tR.length by omega, List.take_length] at hpre
 rw [e2, Zc, hp, hS.p131, U.tRi, ZfX, a1]
 have hl : ((ρ 1).tR.take (ρ 0).tI.toNat).length = (ρ 0).tI.toNat := by rw [ZPT]; omega
 have eT : ((ρ 1).tR.take (ρ 0).tI.toNat ++ [[(ρ 2).tI, (ρ 9).tI, (ρ 4).tI]]).take ((ρ 0).tI + 1).toNat = (ρ 1).tR.take (ρ 0).tI.toNat ++ [[(ρ 2).tI, (ρ 9).tI, (ρ 4).tI]] :=
  ZP3 (by rw [ZPW, hl]; simp only [ZQb, List.length_nil]; omega)
 obtain ⟨a, b, d, rfl, ⟨hs, ha⟩, hb⟩ := hpre
 refine ⟨fun r hm => ?_, ?_⟩
 ·rw [eT] at hm
  rcases List.mem_append.1 hm with hm | hm
  ·exact hs r hm
  ·rw [List.mem_singleton.1 hm]; exact r8
 ·rw [eT, ZfZ, hl]
  refine ⟨a, b, d, rfl, ?_, ?_⟩
  ·rw [Zcv (i := (ρ 0).tI + 1) (i' := (ρ 0).tI) fun q a b => by rw [hl] at b; omega]
   exact ha
  ·show Zd (Zh2 _ _ _) emp b
   rw [Zc]
   refine ⟨(ρ 3).tR, ⟨by show 0 <= (ρ 9).tI; omega, r7.symm⟩, ?_⟩
   rw [if_pos (by omega), show (0 : Int) + ((ρ 0).tI.toNat : Nat) = (ρ 0).tI by omega]
   refine Zt (fun _ hh => hh) (fun h2 hh => ?_) b hb
   rw [r2, Zgs, ZjJ]
   refine Zt (fun _ hh => hh) (fun h3 hh => ⟨⟨rfl, r4, r5⟩, ?_⟩) h2 hh
   rw [r3] at hh
   exact hh
theorem ZNE (S : Sig GG) (hS : PoSig S) : YH S ZFw := by
 refine ZL S fun T w0 ρ h hu hp hd hr hpre => ?_
 have e1 : hpDen T ρ w0 ZFw.pre = Zd (T.prd 131 w0 (.rows ([(ρ 1).tI] :: (ρ 2).tR)) (z0.den T ρ)) emp := rfl
 have e2 : ∀ R : List (List Int), hpDen T (ρ.upd 3 (.rows R)) w0 ZFw.post = Zd (T.prd 132 w0 (.rows ([(ρ 0).tI, (ρ 1).tI] :: (ρ 2).tR)) (z0.den T ρ)) (Zd (rAD prE (g0 ((ρ 2).tR.getD (ρ 0).tI.toNat [])) R (g2 ((ρ 2).tR.getD (ρ 0).tI.toNat []))) (Zd (T.prd 129 w0 (.rows ([(ρ 0).tI, (R.length : Nat)] :: R)) (z0.den T ρ)) emp)) := fun _ => rfl
 have r0 := hr (eLe z0 (ai 0)) (by simp [ZFw, ltQ])
 have r1 := hr (eLt (ai 0) (ai 1)) (by simp [ZFw, ltQ])
 have r2 := hr (eLe (ai 1) (Zh (rA 2))) (by simp [ZFw, ltQ])
 rw [Ze] at r0 r2
 rw [ZI] at r1
 have r0 : 0 <= (ρ 0).tI := r0
 have r1 : (ρ 0).tI < (ρ 1).tI := r1
 have r2 : (ρ 1).tI <= ((ρ 2).tR.length : Nat) := r2
 rw [e1, Zc, hp, hS.p131, U.tRi, ZfX] at hpre
 obtain ⟨hs, hpre⟩ := hpre
 have hi : (ρ 0).tI.toNat < ((ρ 2).tR.take (ρ 1).tI.toNat).length := by rw [ZPT]; omega
 rw [ZdC hi, Z5 (by omega), show (0 : Int) + ((ρ 0).tI.toNat : Nat) = (ρ 0).tI by omega] at hpre
 obtain ⟨a, b, d, rfl, ha, R, ⟨q1, q2⟩, hb⟩ := hpre
 rw [if_pos r1] at hb
 have q3 : (R.length : Int) <= g2 ((ρ 2).tR.getD (ρ 0).tI.toNat []) := by
  obtain ⟨a1, a2, _, _, h1, _⟩ := hb
  exact ZlC (by simp) h1
 have q4 := hs ((ρ 2).tR.getD (ρ 0).tI.toNat []) (by rw [<- Z5 (n := (ρ 1).tI.toNat) (by omega), ZPR, ZPU hi]; exact ZQe _)
 refine ⟨ρ.upd 3 (.rows R), Ext.upd _ _, ?_, fun x hx => ?_⟩
 ·rw [e2, Zc, hp, hS.p132, hS.pb.p129, U.tRi, U.tRi, ZqW, Y3, ZPY, List.take_length]
  exact ⟨a, b, d, rfl, ⟨hs, ha⟩, hb⟩
 ·simp only [ZFw, ltFg, ltF, List.cons_append, List.nil_append, List.mem_cons, List.not_mem_nil, or_false] at hx
  rcases hx with rfl | rfl | rfl | rfl
  ·show (ap2 45 _ _).tP
   rw [p45]; exact q2
  ·rw [Ze]; exact q1
  ·rw [Ze]
   have q5 : g1 ((ρ 2).tR.getD (ρ 0).tI.toNat []) <= g2 ((ρ 2).tR.getD (ρ 0).tI.toNat []) := by omega
   exact q5
  ·rw [Ze]; exact q4
theorem ZLW (S : Sig GG) (hS : PoSig S) : YH S ZCD := by
 refine ZL S fun T w0 ρ h hu hp hd hr hpre => ⟨ρ, Ext.refl _ _, ?_, fun x hx => nomatch hx⟩
 have e1 : hpDen T ρ w0 ZCD.pre = Zd (T.prd 132 w0 (.rows ([(ρ 0).tI, (ρ 1).tI] :: (ρ 2).tR)) (z0.den T ρ)) (Zd (rAD prE (g0 ((ρ 2).tR.getD (ρ 0).tI.toNat [])) (ρ 3).tR (g2 ((ρ 2).tR.getD (ρ 0).tI.toNat []))) (Zd (T.prd 129 w0 (.rows ([(ρ 0).tI, (ρ 4).tI] :: (ρ 3).tR)) (z0.den T ρ)) emp)) := rfl
 have e2 : hpDen T ρ w0 ZCD.post = Zd (T.prd 131 w0 (.rows ([(ρ 1).tI] :: (ρ 2).tR)) (z0.den T ρ)) emp := rfl
 have r0 := hr (eLe z0 (ai 0)) (by simp [ZCD, ltQ])
 have r1 := hr (eLt (ai 0) (ai 1)) (by simp [ZCD, ltQ])
 have r2 := hr (eLe (ai 1) (Zh (rA 2))) (by simp [ZCD, ltQ])
 have r3 := Zav (hr (.f2 45 (Zh (rA 3)) (nt (rA 2) (ai 0) 1)) (by simp [ZCD, ltQ]))
 have r4 := hr (eLe z0 (nt (rA 2) (ai 0) 1)) (by simp [ZCD, ltQ])
 have r5 := Zav (hr (.f2 45 (ai 4) (Zh (rA 3))) (by simp [ZCD, ltQ]))
 rw [Ze] at r0 r2 r4
 rw [ZI] at r1
 have r0 : 0 <= (ρ 0).tI := r0
 have r1 : (ρ 0).tI < (ρ 1).tI := r1
 have r2 : (ρ 1).tI <= ((ρ 2).tR.length : Nat) := r2
 have r3 : (((ρ 3).tR.length : Nat) : Int) = g1 ((ρ 2).tR.getD (ρ 0).tI.toNat []) := r3
 have r4 : 0 <= g1 ((ρ 2).tR.getD (ρ 0).tI.toNat []) := r4
 have r5 : (ρ 4).tI = ((ρ 3).tR.length : Nat) := r5
 rw [e1, Zc, hp, hS.p132, hS.pb.p129, U.tRi, U.tRi, ZqW, Y3, show (ρ 4).tI.toNat = (ρ 3).tR.length by omega, List.take_length] at hpre
 rw [e2, Zc, hp, hS.p131, U.tRi, ZfX]
 have hi : (ρ 0).tI.toNat < ((ρ 2).tR.take (ρ 1).tI.toNat).length := by rw [ZPT]; omega
 obtain ⟨a, b, d, rfl, ⟨hs, ha⟩, hb⟩ := hpre
 refine ⟨hs, ?_⟩
 rw [ZdC hi, Z5 (by omega), show (0 : Int) + ((ρ 0).tI.toNat : Nat) = (ρ 0).tI by omega]
 refine ⟨a, b, d, rfl, ha, (ρ 3).tR, ⟨r4, r3⟩, ?_⟩
 rw [if_pos r1]; exact hb
theorem Zwa (S : Sig GG) (hS : PoSig S) {T : Sig GG} (hu : T.usr = S.usr) (hp : T.prd = S.prd) (ρ : Go.Eng.Env GG) (w0 : World) : hpDen T ρ w0 mkP = Zd (Zd (mkR (ρ 1).tI ((ρ 2).tR.take (ρ 0).tI.toNat)) (mkR (ρ 1).tI ((ρ 2).tR.drop ((ρ 0).tI.toNat + 1)))) (bAD (g0 ((ρ 2).tR.getD (ρ 0).tI.toNat [])) (mrk (ρ 1).tI) (g2 ((ρ 2).tR.getD (ρ 0).tI.toNat []))) := by
 have e1 : hpDen T ρ w0 mkP = Zd (T.prd 130 w0 (.rows ([(ρ 1).tI, (ρ 0).tI] :: (ρ 2).tR)) (z0.den T ρ)) (Zd (bAD (g0 ((ρ 2).tR.getD (ρ 0).tI.toNat [])) ((mrX (ai 1)).den T ρ).tB (g2 ((ρ 2).tR.getD (ρ 0).tI.toNat []))) emp) := by
  have e3 : ((mrX (ai 1)).den T ρ) = .bytes (mrk (ρ 1).tI) := by
   simp only [mrX, usY, SX.den, ai, hu, hS.pb.u701, Zp, ZG, U.tIi, U.tBi]
  rw [e3]
  show Zd _ (Zd (ZK T .bytes _ ((mrX (ai 1)).den T ρ) _) emp) = _
  rw [e3]
  rfl
 have e3 : ((mrX (ai 1)).den T ρ).tB = mrk (ρ 1).tI := by
  simp only [mrX, usY, SX.den, ai, hu, hS.pb.u701, Zp, ZG, U.tIi, U.tBi]
 rw [e1, Zc, hp, hS.pb.p130, U.tRi, ZEf, e3]
theorem Zu3 (T : Sig GG) (ρ : Go.Eng.Env GG) : (∀ x ∈ mkF, (x.den T ρ).tP) ↔ (g1 ((ρ 2).tR.getD (ρ 0).tI.toNat []) = 2 /\ 2 <= g2 ((ρ 2).tR.getD (ρ 0).tI.toNat []) /\ 0 <= g0 ((ρ 2).tR.getD (ρ 0).tI.toNat [])) := by
 refine ⟨fun h => ⟨Zav (h _ (ZPZ ..)), (Ze T ρ _ _).1 (h _ (ZPX _ (ZPZ ..))), (Ze T ρ _ _).1 (h _ (ZPX _ (ZPX _ (ZPZ ..))))⟩, fun ⟨h1, h2, h3⟩ x hx => ?_⟩
 simp only [mkF, List.mem_cons, List.not_mem_nil, or_false] at hx
 rcases hx with rfl | rfl | rfl
 ·show (ap2 45 _ _).tP
  rw [p45]; exact h1
 ·rw [Ze]; exact h2
 ·rw [Ze]; exact h3
theorem ZLE (S : Sig GG) (hS : PoSig S) : YH S ZKP := by
 refine ZL S fun T w0 ρ h hu hp hd hr hpre => ⟨ρ, Ext.refl _ _, ?_⟩
 have e1 : hpDen T ρ w0 ZKP.pre = Zd (T.prd 129 w0 (.rows ([(ρ 1).tI, (ρ 3).tI] :: (ρ 2).tR)) (z0.den T ρ)) emp := rfl
 have r0 := hr (eLe z0 (ai 0)) (by simp [ZKP])
 have r1 := hr (eLt (ai 0) (Zh (rA 2))) (by simp [ZKP])
 have r5 := Zav (hr (.f2 45 (ai 3) (Zh (rA 2))) (by simp [ZKP]))
 rw [Ze] at r0
 rw [ZI] at r1
 have r0 : 0 <= (ρ 0).tI := r0
 have r1 : (ρ 0).tI < ((ρ 2).tR.length : Nat) := r1
 have r5 : (ρ 3).tI = ((ρ 2).tR.length : Nat) := r5
 rw [e1, Zc, hp, hS.pb.p129, U.tRi, Y3, show (ρ 3).tI.toNat = (ρ 2).tR.length by omega, List.take_length, ZrI (q := (ρ 0).tI.toNat) (by omega), ZjJ] at hpre
 obtain ⟨a, b, d, rfl, ha, hf, hb⟩ := hpre
 refine ⟨?_, (Zu3 T ρ).2 hf⟩
 show hpDen T ρ w0 mkP _
 rw [Zwa S hS hu hp]
 exact ⟨a, b, d, rfl, ha, hb⟩
theorem ZNJ (S : Sig GG) (hS : PoSig S) : YH S ZKU := by
 refine ZL S fun T w0 ρ h hu hp hd hr hpre => ⟨ρ, Ext.refl _ _, ?_, fun x hx => nomatch hx⟩
 have e2 : hpDen T ρ w0 ZKU.post = Zd (T.prd 129 w0 (.rows ([(ρ 1).tI, ((ρ 2).tR.length : Nat)] :: (ρ 2).tR)) (z0.den T ρ)) emp := rfl
 have r0 := hr (eLe z0 (ai 0)) (by simp [ZKU])
 have r1 := hr (eLt (ai 0) (Zh (rA 2))) (by simp [ZKU])
 have r2 := (Zu3 T ρ).1 fun x hx => hr x (by simp only [ZKU]; exact List.mem_append_right _ hx)
 rw [Ze] at r0
 rw [ZI] at r1
 have r0 : 0 <= (ρ 0).tI := r0
 have r1 : (ρ 0).tI < ((ρ 2).tR.length : Nat) := r1
 have hpre : hpDen T ρ w0 mkP h := hpre
 rw [Zwa S hS hu hp] at hpre
 rw [e2, Zc, hp, hS.pb.p129, U.tRi, Y3, ZPY, List.take_length, ZrI (q := (ρ 0).tI.toNat) (by omega), ZjJ]
 obtain ⟨a, b, d, rfl, ha, hb⟩ := hpre
 exact ⟨a, b, d, rfl, ha, r2, hb⟩
theorem ZNX {n j : Int} (h : n = 2) : (mrk j).take n.toNat = [UInt8.ofNat (ap1 14 (U.int j : U GG)).tI.toNat, UInt8.ofNat (ap1 14 (U.int (j.tdiv 256) : U GG)).tI.toNat] := by subst h; rfl
theorem ZLw {n j : Int} (h : n = 2) : n <= ((mrk j).length : Nat) := by subst h; exact ZP2 2
def Zez : SX := .f3 112 (r 8) (a 9) (k 1)
def ZGk : SX := .f2 43 (a 9) (k 256)
def Zz6 : SX := .f2 40 (a 11) (k 1)
def ZJ5 : SX := .f2 41 Zez Zz6
def ZB1 : SX := .f2 40 (a 9) (k 1)
def ZIh : SX := .f2 41 (a 5) ZB1
def ZlO : SX := .f3 112 (r 8) (a 10) (k 1)
def ZIa : SX := .f2 43 (a 10) (k 256)
def ZHx : SX := l z (a 16)
def Zsv : SX := .f2 40 ZlO (k 1)
def Zw6 : SX := l z (a 17)
def Zd7 : SX := .f2 40 (a 10) (k 1)
def ZAq : SX := .f2 115 (r 14) ZlO
def Zx7 : SX := .f2 124 (.f2 122 (a 15) (.f2 122 (k 2) (.f2 122 (k 2) (.f2 122 (k (-1)) (.f2 122 z (.f2 122 z (.f1 152 z))))))) (.f1 154 z)
def ZyT : SX := .f2 41 (a 5) Zd7
def ZcG : SX := .f3 112 (r 13) (a 14) (k 1)
def ZuA : SX := e (.f1 32 (r 15)) (.f1 32 (r 15))
def Zix : SX := .f3 112 (r 15) (a 16) (k 1)
def Zz8 : SX := .f3 112 (r 15) (a 16) (k 2)
def ZzB : SX := j 701 (a 14)
def ZxD : SX := .f2 43 (a 14) (k 256)
def ZBD : SX := .f1 2 (.f2 150 (.f2 114 ZzB Zix) (.f2 123 (.f1 14 (a 14)) (.f2 123 (.f1 14 ZxD) (.f1 153 z))))
def Zlt : SX := .f2 40 (a 16) (k 1)
def ZAy : SX := .f2 41 ZcG Zlt
def ZlR : SX := .f2 40 (a 14) (k 1)
def ZxF : SX := .f2 41 (a 10) ZlR
def ZNK : VC := i (l z (a 1)) (i (l (a 1) (.f1 32 (r 4))) (i (l (a 1) (a 3)) (i (l z (a 5)) (i (l (a 5) (.f1 32 (r 8))) (i (l (a 5) (a 7)) (i (l z (a 0)) (i (l (a 1) (k 1000000)) (i (l (a 5) (k 1000)) (n (l (a 1) k3) (u 9 .int (i (l z (a 9)) (i (l (a 9) (a 5)) (.and (i (t (a 9) (a 5)) (u 10 .rows (i (e (.f1 32 (r 10)) Zez) (i (l z Zez) (i (l Zez (.f3 112 (r 8) (a 9) (k 2))) (i (l Zez (k 1000)) (u 11 .int (u 12 .rows (i (l z (a 11)) (i (l (a 11) Zez) (i (e (.f1 32 (r 12)) Zez) (n (t (a 9) (.f1 32 (r 8))) (.and (i (t (a 11) Zez) (n (.f1 23 ZGk) (u 13 .int (i (l z (a 13)) (n (t (a 11) (.f1 32 (r 12))) (n (.f2 155 (.f2 123 (.f1 14 (a 9)) (.f2 123 (.f1 14 ZGk) (.f1 153 z))) (j 701 (a 9))) (n (.f1 23 Zz6) (n (l z ZJ5) (n (t ZJ5 (.f2 41 Zez (a 11))) (n (l z Zz6) (n (l Zz6 Zez) .tt))))))))))) (i (l Zez (a 11)) (n (e (a 11) Zez) (n (.f1 23 ZB1) (n (l z ZIh) (n (t ZIh (.f2 41 (a 5) (a 9))) (n (l z ZB1) (n (l ZB1 (a 5)) .tt)))))))))))))))))))) (i (l (a 5) (a 9)) (u 10 .int (u 11 .int (u 12 .int (u 13 .rows (i (l z (a 10)) (i (l (a 10) (a 5)) (i (l (a 10) (.f1 32 (r 13))) (i (l (a 10) (a 12)) (.and (i (t (a 10) (a 5)) (u 14 .rows (i (e (.f1 32 (r 14)) ZlO) (i (l z ZlO) (i (l ZlO (.f3 112 (r 8) (a 10) (k 2))) (i (l ZlO (k 1000)) (n (t (a 10) (.f1 32 (r 8))) (n (.f1 23 ZIa) (u 15 .int (i (l z (a 15)) (u 16 .int (i ZHx (n (l ZlO (.f1 32 (r 14))) (n (l (.f2 42 Zsv (k 48)) k1) (u 17 .int (u 18 .int (i (l Zsv (a 18)) (i (.f2 50 Zw6 (e Zsv z)) (u 19 .int (i (l z (a 19)) (n (l (.f2 42 Zd7 (k 24)) k1) (u 20 .int (u 21 .int (i (l Zd7 (a 21)) (i (.f2 50 (l z (a 20)) (e Zd7 z)) (n (.f2 155 (.f2 121 ZAq Zx7) (.f2 121 (r 14) Zx7)) (n (.f2 155 (.f2 123 (.f1 14 (a 10)) (.f2 123 (.f1 14 ZIa) (.f1 153 z))) (j 701 (a 10))) (n (e (.f1 32 (r 14)) (.f1 32 (r 14))) (n (e Zsv (.f2 40 (.f1 32 ZAq) (k 1))) (n (l Zsv (k 2000)) (n (.f1 23 Zd7) (n (l z ZyT) (n (t ZyT (.f2 41 (a 5) (a 10))) (n (l z Zd7) (n (l Zd7 (a 5)) (n (l Zd7 (.f2 40 (.f1 32 (.f2 115 (r 13) (a 10))) (k 1))) .tt)))))))))))))))))))))))))))))))))))) (i (l (a 5) (a 10)) (u 14 .int (i (l z (a 14)) (i (l (a 14) (a 10)) (.and (i (t (a 14) (a 10)) (u 15 .rows (i (e (.f1 32 (r 15)) ZcG) (i (l z ZcG) (i (l ZcG (.f3 112 (r 13) (a 14) (k 2))) (i (l ZcG (k 2000)) (u 16 .int (i ZHx (i (l (a 16) ZcG) (n (t (a 14) (.f1 32 (r 13))) (.and (i (t (a 16) ZcG) (n ZuA (n (t (a 16) (.f1 32 (r 15))) (i (e Zix (k 2)) (i (l (k 2) Zz8) (i (l z (.f3 112 (r 15) (a 16) z)) (n (l z Zix) (n (l Zix (.f1 31 ZzB)) (n (l Zix Zz8) (n (.f1 23 ZxD) (u 17 .int (i Zw6 (.and (i ZBD (n (.f2 155 (.bool true) (.bool false)) .tt)) (i (.f1 2 ZBD) (n (.f1 23 Zlt) (n (l z ZAy) (n (t ZAy (.f2 41 ZcG (a 16))) (n (l z Zlt) (n (l Zlt ZcG) .tt))))))))))))))))))) (i (l ZcG (a 16)) (n ZuA (n (.f1 23 ZlR) (n (l z ZxF) (n (t ZxF (.f2 41 (a 10) (a 14))) (n (l z ZlR) (n (l ZlR (a 10)) .tt)))))))))))))))))) (i (l (a 10) (a 14)) .tt)))))))))))))))))))))))))))))
theorem ZMh : YV Tryz.prog ZLC 12 16 ZwK = ZNK := by kernel_rfl
theorem ZOD (S : Sig GG) (hS : PoSig S) : ZA S Tryz.prog 16 ZwK := by
 refine Zg S (C := ZLC) (fuel := 12) (ZU ⟨Zi (by decide) (ZOV S hS.pb.by'), trivial⟩ ⟨⟨trivial, ⟨by decide, ZMb S hS⟩, trivial, ⟨by decide, ZN2 S hS⟩, ⟨by decide, bl_gh S hS⟩, ⟨by decide, ZMy S hS⟩, trivial, ⟨by decide, ZOR S hS⟩, ⟨by decide, ZPu S hS⟩, trivial, ⟨by decide, ZNE S hS⟩, trivial, ⟨by decide, ZLE S hS⟩, ⟨by decide, ZNJ S hS⟩, ⟨by decide, ZLW S hS⟩, trivial⟩, trivial⟩ trivial) fun ρ => ?_
 rw [ZMh]
 simp only [ZNK, Zez, ZGk, Zz6, ZJ5, ZB1, ZIh, ZlO, ZIa, ZHx, Zsv, Zw6, Zd7, ZAq, Zx7, ZyT, ZcG, ZuA, Zix, Zz8, ZzB, ZxD, ZBD, Zlt, ZAy, ZlR, ZxF, hS.pb.u701, ZQ, ZPY, VC.den, SX.den, Env.upd, ZX, ZE, beq_iff_eq, ZPQ, beq_eq_false_iff_ne, ne_eq, ZPP, ZPO, Int.reduceToNat, Nat.reduceEqDiff, reduceIte, sB, sC]
 repeat' (first | exact trivial | apply And.intro | intro _)
 all_goals try omega
 all_goals first
  | rfl
  | assumption
  | exact absurd (ZNX (by assumption)) (by assumption)
  | (rw [Int.tdiv_eq_ediv_of_nonneg (by omega)]; omega)
  | (rw [ZP3 (by omega)]; done)
  | exact ZLw (by assumption)
  | (simp only [ZPW, ZPT, ZQb, List.length_nil]; omega)
end
end Go.Proofs.YtidlngnhjffepaaGreat
namespace Go.Proofs
open Go.Shelf
def Tryz.sortEn_ren : Go.Shelf.Ren := ⟨fun | 6 => 44 | 14 => 73 | 15 => 74 | 20 => 86 | 21 => 87 | 22 => 88 | 23 => 89 | 24 => 90 | 25 => 91 | 26 => 92 | 27 => 93 | 28 => 94 | 29 => 95 | 46 => 114 | 47 => 115 | 48 => 116 | 49 => 117 | 50 => 118 | 57 => 126 | n => n, fun | 24 => 95 | 0 => 0 | 3 => 3 | 4 => 4 | 5 => 5 | 9 => 9 | 22 => 61 | 25 => 97 | 39 => 126 | 45 => 140 | 46 => 141 | 50 => 145 | 53 => 148 | 55 => 150 | 66 => 163 | 70 => 167 | 76 => 174 | 77 => 75 | n => n, fun | n => n⟩
theorem Tryz.sortEn : Go.Proofs.SlLaysF0.n6 Tryz.prog Tryz.sortEn_ren := {
 mixed := by kernel_rfl
 f6 := ⟨Tryz.f44.name, by decide, Tryz.func44.trans (congrArg some (by kernel_rfl))⟩
 f14 := ⟨Tryz.f73.name, by decide, Tryz.func73.trans (congrArg some (by kernel_rfl))⟩
 f15 := Tryz.func74.trans (congrArg some (by kernel_rfl))
 f20 := ⟨Tryz.f86.name, by decide, Tryz.func86.trans (congrArg some (by kernel_rfl))⟩
 f21 := ⟨Tryz.f87.name, by decide, Tryz.func87.trans (congrArg some (by kernel_rfl))⟩
 f22 := ⟨Tryz.f88.name, by decide, Tryz.func88.trans (congrArg some (by kernel_rfl))⟩
 f23 := ⟨Tryz.f89.name, by decide, Tryz.func89.trans (congrArg some (by kernel_rfl))⟩
 f24 := ⟨Tryz.f90.name, by decide, Tryz.func90.trans (congrArg some (by kernel_rfl))⟩
 f25 := ⟨Tryz.f91.name, by decide, Tryz.func91.trans (congrArg some (by kernel_rfl))⟩
 f26 := ⟨Tryz.f92.name, by decide, Tryz.func92.trans (congrArg some (by kernel_rfl))⟩
 f27 := ⟨Tryz.f93.name, by decide, Tryz.func93.trans (congrArg some (by kernel_rfl))⟩
 f28 := Tryz.func94.trans (congrArg some (by kernel_rfl))
 f29 := Tryz.func95.trans (congrArg some (by kernel_rfl))
 f46 := ⟨Tryz.f114.name, by decide, Tryz.func114.trans (congrArg some (by kernel_rfl))⟩
 f47 := Tryz.func115.trans (congrArg some (by kernel_rfl))
 f48 := Tryz.func116.trans (congrArg some (by kernel_rfl))
 f49 := ⟨Tryz.f117.name, by decide, Tryz.func117.trans (congrArg some (by kernel_rfl))⟩
 f50 := ⟨Tryz.f118.name, by decide, Tryz.func118.trans (congrArg some (by kernel_rfl))⟩
 f57 := ⟨Tryz.f126.name, by decide, Tryz.func126.trans (congrArg some (by kernel_rfl))⟩
 t0 := Tryz.underlying0
 a0 := Tryz.isAgg0
 z0 := Tryz.sizeOf0
 v0 := Tryz.zeroValue0
 t3 := Tryz.underlying3
 a3 := Tryz.isAgg3
 z3 := Tryz.sizeOf3
 v3 := Tryz.zeroValue3
 t4 := Tryz.underlying4
 a4 := Tryz.isAgg4
 z4 := Tryz.sizeOf4
 v4 := Tryz.zeroValue4
 t5 := Tryz.underlying5
 a5 := Tryz.isAgg5
 z5 := Tryz.sizeOf5
 v5 := Tryz.zeroValue5
 t9 := Tryz.underlying9
 a9 := Tryz.isAgg9
 z9 := Tryz.sizeOf9
 v9 := Tryz.zeroValue9
 t22 := Tryz.underlying61
 a22 := Tryz.isAgg61
 z22 := Tryz.sizeOf61
 v22 := Tryz.zeroValue61
 t25 := Tryz.underlying97
 a25 := Tryz.isAgg97
 z25 := Tryz.sizeOf97
 v25 := Tryz.zeroValue97
 t39 := Tryz.underlying126
 a39 := Tryz.isAgg126
 z39 := Tryz.sizeOf126
 v39 := Tryz.zeroValue126
 t45 := Tryz.underlying140
 a45 := Tryz.isAgg140
 z45 := Tryz.sizeOf140
 v45 := Tryz.zeroValue140
 t46 := Tryz.underlying141
 a46 := Tryz.isAgg141
 z46 := Tryz.sizeOf141
 v46 := Tryz.zeroValue141
 t50 := Tryz.underlying145
 a50 := Tryz.isAgg145
 z50 := Tryz.sizeOf145
 v50 := Tryz.zeroValue145
 t53 := Tryz.underlying148
 a53 := Tryz.isAgg148
 z53 := Tryz.sizeOf148
 v53 := Tryz.zeroValue148
 t55 := Tryz.underlying150
 a55 := Tryz.isAgg150
 z55 := Tryz.sizeOf150
 v55 := Tryz.zeroValue150
 t66 := Tryz.underlying163
 a66 := Tryz.isAgg163
 z66 := Tryz.sizeOf163
 v66 := Tryz.zeroValue163
 t70 := Tryz.underlying167
 a70 := Tryz.isAgg167
 z70 := Tryz.sizeOf167
 v70 := Tryz.zeroValue167
 t76 := Tryz.underlying174
 a76 := Tryz.isAgg174
 z76 := Tryz.sizeOf174
 v76 := Tryz.zeroValue174
 t77 := Tryz.underlying75
 a77 := Tryz.isAgg75
 z77 := Tryz.sizeOf75
 v77 := Tryz.zeroValue75 }
def Tryz.cmpInt_ren : Go.Shelf.Ren := ⟨fun | 5 => 38 | 7 => 67 | n => n, fun | 3 => 3 | 4 => 4 | 22 => 3 | n => n, fun | n => n⟩
theorem Tryz.cmpInt : Go.Proofs.SlLaysC2.n5 Tryz.prog Tryz.cmpInt_ren := {
 mixed := by kernel_rfl
 f5 := ⟨Tryz.f38.name, by decide, Tryz.func38.trans (congrArg some (by kernel_rfl))⟩
 f7 := ⟨Tryz.f67.name, by decide, Tryz.func67.trans (congrArg some (by kernel_rfl))⟩
 t3 := Tryz.underlying3
 a3 := Tryz.isAgg3
 z3 := Tryz.sizeOf3
 v3 := Tryz.zeroValue3
 t4 := Tryz.underlying4
 a4 := Tryz.isAgg4
 z4 := Tryz.sizeOf4
 v4 := Tryz.zeroValue4
 t22 := Tryz.underlying3
 a22 := Tryz.isAgg3
 z22 := Tryz.sizeOf3
 v22 := Tryz.zeroValue3 }
end Go.Proofs
namespace Go.Proofs
open Go.Shelf Go.RowKit Go.Lib Go.Sort
open Go.Proofs.YtidlngnhjffepaaGreat (ZaB rF hF g0 ZbW)
set_option maxHeartbeats 1000000 in
theorem Tryz.closureSort0 (x y : Int) (a1 a2 a3 a4 a5 a6 b1 b2 b3 b4 b5 b6 : Value) (W : World) : Calls Tryz.prog 45 #[.agg #[.int .i64 x, a1, a2, a3, a4, a5, a6], .agg #[.int .i64 y, b1, b2, b3, b4, b5, b6]] W fun e w' => e = .returned (.int .i64 (Lib.compareInt x y)) /\ ∃ q os', w' = grow (W.drewN q) os' := by
 have hcon := fun W' => AnyG.cmp_Compare_int Tryz.cmpInt x y W'
 change ∀ W', Calls Tryz.prog 38 _ _ _ at hcon
 generalize Lib.compareInt x y = r at hcon ⊢
 go_enter Tryz.func45, Tryz.ntmps45
 go_wp2_with (go_at_call 38; refine (hcon _).mono ?_; rintro e w' ⟨rfl, rfl⟩)
 go_ret
 exact ⟨rfl, 0, _, by rw [alloc_eq_grow, alloc_eq_grow, grow_grow]; rfl⟩
theorem Tryz.closureSort (x y : List Int) (W : World) : Calls Tryz.prog 45 #[.agg (ZaB x).toArray, .agg (ZaB y).toArray] W fun e w' => e = .returned (.int .i64 (Lib.compareInt (g0 x) (g0 y))) /\ ∃ q os', w' = grow (W.drewN q) os' :=
 Tryz.closureSort0 (g0 x) (g0 y) _ _ _ _ _ _ _ _ _ _ _ _ W
theorem Tryz.ltPage (x y : List Int) : ltOf (fun x y : List Int => Lib.compareInt (g0 x) (g0 y)) x y = decide (g0 x < g0 y) := by
 unfold ltOf Lib.compareInt
 by_cases h1 : g0 x < g0 y
 ·simp [h1]
 ·by_cases h2 : g0 y < g0 x <;> simp [h1, h2]
theorem Tryz.swoPage : SWO (ltOf fun x y : List Int => Lib.compareInt (g0 x) (g0 y)) where
 irrefl x := by rw [Tryz.ltPage]; simp
 trans x y z h1 h2 := by rw [Tryz.ltPage] at *; simp at *; omega
 ntrans x y z h1 h2 := by rw [Tryz.ltPage] at *; simp at *; omega
theorem Tryz.sortEntries (blk cap : Nat) (d : Array (List Int)) (w : World) (hH : HoldsK ZaB 7 w blk 0 d) (hblk : blk < w.heap.size) (hsz : d.size < 4611686018427387904) :
  Calls Tryz.prog 44 #[.slice (some ⟨blk, 0, none⟩) d.size cap, .func (.func 45) #[] #[]] w fun e w' => e = .returned (.tuple #[]) ∧
   ∃ d' n os, PermIn 0 d.size d d' /\ SortedIn (ltOf fun x y : List Int => Lib.compareInt (g0 x) (g0 y)) 0 d.size d' /\ w' = sortWorldK ZaB 7 w blk 0 n d' os := by
 have eg : ∀ args w, (callFunc 45 args).run Tryz.prog w = .ok (.enter 45 args) w := enters_of Tryz.func45 (by kernel_rfl) rfl
 exact AnyQ.slices_SortFunc Tryz.sortEn 7 Tryz.isAgg95 Tryz.sizeOf95 ZaB (fun x => ZbW x) (fun x v hv => by simp [ZaB, rF, hF, Go.Eng.rowVals, Go.Eng.Fd.val, Go.Eng.Fd.width] at hv; rcases hv with rfl | rfl | rfl | rfl | rfl | rfl | rfl <;> rfl) (fun x y => Lib.compareInt (g0 x) (g0 y)) Tryz.swoPage 45 #[] blk 0 cap d w eg
  (fun _ _ _ _ x y => Tryz.closureSort x y _) hH hblk hsz
theorem Tryz.sortNone (p : Option Addr) (cap : Nat) (fv : Value) (w : World) :
  Calls Tryz.prog 44 #[.slice p 0 cap, fv] w fun e w' => e = .returned (.tuple #[]) /\ w' = w := AnyF.slices_SortFunc_none Tryz.sortEn p cap fv w
end Go.Proofs
namespace Go.Proofs.YtidlngnhjffepaaGreat
noncomputable section
open Go.Eng
theorem ZLx (S : Sig GG) (hS : JsSig S) : ZA S Tryz.prog 44 ZcE :=
 ZNQ S hS (fun blk cap d w h1 h2 h3 => Tryz.sortEntries blk cap d w h1 h2 h3) (fun p cap fv w => Tryz.sortNone p cap fv w)
end
end Go.Proofs.YtidlngnhjffepaaGreat
namespace Go.Proofs.YtidlngnhjffepaaGreat
noncomputable section
open Go.Eng
def ZtG : Ctr := ⟨hA, [.one (hS 0)], [hC 0 0], [eLe z0 (ai 2), eLe (ai 2) (Zh (rA 4)), eLe (ai 2) (ai 3), eLe (ai 2) (.int 1099511627776)], [.int, .int, .int], .tup [(false, [.int .i64 (ai 6)]), (false, [.int .i64 (ai 7)]), (false, [.int .i64 (ai 8)])], [hC 0 0],
 [.f2 45 (ai 6) (usI 520 xX z0 z0), .f2 45 (ai 7) (usI 521 xX z0 z0), .f2 45 (ai 8) (usI 522 xX z0 z0)]⟩
def lc (n : Nat) : SX := rA (1000000 + n)
def sraI (m R it a w l : Nat) : Inv := ⟨[.amap, .ints, .int, .int, .int, .int, .rows], [],
 [.itr (.int .i64) (.one .ptr) (ai m) (wM (rA R) bG) (ai it) (mA 1000000) (iA 1000001), .cel (ai a) 0 [.int .i64 (di 2)], .cel (ai w) 0 [.int .i64 (di 3)], .cel (ai l) 0 [slC (di 4) (Zh (lc 6)) (di 5) 7], rAr (di 4) (lc 6) (di 5)],
 [usB 571 (mA 1000000) (wM (rA R) bG) z0, .us .bool 586 xX (mA 1000000) (ZN (di 2) (di 3)) (ai 2), usB 587 xX (mA 1000000) (lc 6), eLe (Zh (lc 6)) (di 5), .f2 50 (eLe z0 (di 4)) (.f2 45 (Zh (lc 6)) z0)], .f1 33 (mA 1000000)⟩
def srbX (k : Nat) (sa sw ix : SX) (j : SX) : SX := usI k (ZN sa sw) (usN 546 bG ix z0) j
def srbI (a w sa sw : Nat) (ix : SX) : Inv := ⟨[.int], [(64, .one (.int .i64 (di 0)))], [.cel (ai a) 0 [.int .i64 (srbX 584 (ai sa) (ai sw) ix (di 0))], .cel (ai w) 0 [.int .i64 (srbX 585 (ai sa) (ai sw) ix (di 0))]],
 [eLe z0 (di 0), eLe (di 0) (Zcs (usN 546 bG ix z0))], .f2 41 (Zcs (usN 546 bG ix z0)) (di 0)⟩
def srP (R k : Nat) : SX := .f3 140 z0 (wM (rA R) bG) (ai k)
def ZIi (k L sa sw : Nat) (n : SX) : SX := .us .int k xX (rA L) (ZN (ai sa) (ai sw)) n
def srkI (a w l b L sa sw m R : Nat) : Inv := ⟨[.int, .int, .int, .int, .amap], [(92, .one (.int .i64 (di 0)))], [.cel (ai l) 0 [.slice (ai b) z0 (ZIi 593 L sa sw (di 0)) (di 1) (di 2) (di 3) 7], .cel (ai a) 0 [.int .i64 (ZIi 594 L sa sw (di 0))], .cel (ai w) 0 [.int .i64 (ZIi 595 L sa sw (di 0))], scC (ai m) (mA 1000004)],
 [eLe z0 (di 0), eLe (di 0) (Zh (bK (rA R))), eLe z0 (di 2), eLe (di 2) (di 3), .f2 45 (.f2 40 (ZIi 593 L sa sw (di 0)) (di 2)) (Zh (rA L)), usB 596 xX (di 0) (mA 1000004)], .f2 41 (Zh (bK (rA R))) (di 0)⟩
def srK (R k : Nat) : SX := nt (bK (rA R)) (ai k) 0
def srE (q L sa sw k m : Nat) (ix : SX) : SX := usI q (rA L) (mA m) (Zc7 (ZIi 593 L sa sw (ai k)) (ZIi 594 L sa sw (ai k)) (ZIi 595 L sa sw (ai k)) (usI 542 bG ix z0))
def srrX (q L sa sw k m : Nat) (ix j : SX) : SX := .us .int q (ZN (srE 591 L sa sw k m ix) (srE 592 L sa sw k m ix)) (usR 545 bG ix z0) j (mA m)
def srsI (a w L sa sw k m : Nat) (ix : SX) : Inv := ⟨[.int], [(107, .one (.int .i64 (di 0)))], [.cel (ai a) 0 [.int .i64 (srrX 597 L sa sw k m ix (di 0))], .cel (ai w) 0 [.int .i64 (srrX 598 L sa sw k m ix (di 0))]],
 [eLe z0 (di 0), eLe (di 0) (Zh (usR 545 bG ix z0))], .f2 41 (Zh (usR 545 bG ix z0)) (di 0)⟩
def ZPt : Cx := { specs := notS ++ [(25, [ZmX]), (47, [ZiU]), (26, [ZmM]), (46, [Zt4]), (44, [ZcE]), (43, [Zwy])], anns := [(23, [(4, .ghost Zm0 [.tmp 0, .tmp 5]), (10, .inv (sraI 8 13 20 14 15 19)), (12, .ghost ZrY [.tmp 12]), (13, .inv (srbI 14 15 23 24 (ixB (rA 13) (srP 13 28)))), (500017, .ghost ZkN [.tmp 12]), (18, .ghost ZrY [.tmp 12]), (500018, .ghost ZkN [.tmp 12]), (23, .inv (srkI 14 15 19 25 28 23 24 29 13)), (25, .ghost ZrY [.tmp 18]), (27, .inv (srsI 14 15 28 23 24 31 35 (ixB (rA 13) (srK 13 31)))), (500032, .ghost ZkN [.tmp 18])])] }
def YG : SX := .f2 115 (r 4) (a 2)
def ZHA : SX := l z (a 6)
def ZEu : SX := e (a 7) z
def Zwk : SX := v 520 YG
def ZET : SX := v 521 YG
def ZIx : SX := e z ZET
def ZIO : SX := v 522 YG
def Zl9 : SX := .f1 32 YG
def ZCO : SX := hR0 548 YG Zl9 (r 13)
def ZhU : SX := .f1 32 ZCO
def Zxa : SX := wR 549 YG Zl9
def Zfl : SX := .f1 32 Zxa
def ZAN : SX := e Zfl z
def Zcm : SX := f 561 YG Zl9
def Zrl : SX := d 550 YG Zl9
def Zsb : SX := e z ZIO
def Zfg : SX := wM0 547 (r 13) Zcm
def Zac : SX := .f2 122 (a 23) (.f2 122 (a 24) (.f1 152 z))
def ZB8 : SX := l z (a 25)
def Zzw : SX := l z (a 29)
def ZBH : SX := l z (a 30)
def Zz7 : SX := x 593 YG (r 28) Zac
def Zls : SX := .us .int 593 YG (r 28) Zac (a 31)
def ZrX : SX := .f3 112 ZCO (a 31) z
def ZbA : SX := d 566 (r 13) ZrX
def ZCd : SX := .f3 112 (r 13) ZbA z
def Zqm : SX := v 552 Zcm
def ZaT : SX := wR 545 Zcm ZbA
def Zem : SX := .f1 32 ZaT
def ZB0 : SX := .f1 30 (wN 546 Zcm ZbA)
def ZpZ : SX := e (.f1 32 (r 13)) Zqm
def ZCs : SX := l z Zls
def ZuJ : SX := l (.f1 32 (r 28)) (k 1000000)
def ZxW : SX := .f2 50 ZB8 (e (a 33) z)
def Zuj : SX := l z (a 37)
def Zvg : SX := l (a 37) (a 38)
def ZCb : SX := .us .int 594 YG (r 28) Zac (a 31)
def Zx9 : SX := .us .int 595 YG (r 28) Zac (a 31)
def Zq6 : SX := .f2 122 Zls (.f2 122 ZCb (.f2 122 Zx9 (.f2 122 (d 542 Zcm ZbA) (.f1 152 z))))
def Zuw : SX := x 590 (r 28) (m 35) Zq6
def Zy3 : SX := x 591 (r 28) (m 35) Zq6
def Zuk : SX := x 592 (r 28) (m 35) Zq6
def ZgF : SX := .f2 122 Zy3 (.f2 122 Zuk (.f1 152 z))
def ZgM : SX := .f2 40 (a 39) (k 1)
def Zvr : SX := .f1 23 ZgM
def Zu6 : SX := .f2 41 Zem ZgM
def Zuh : SX := l z Zu6
def ZuN : SX := t Zu6 (.f2 41 Zem (a 39))
def ZyB : SX := l z ZgM
def ZAV : SX := l ZgM Zem
def ZwB : SX := .us .int 598 ZgF ZaT ZgM (m 35)
def Zmw : SX := .us .int 597 ZgF ZaT (a 39) (m 35)
def Zlz : SX := .us .int 598 ZgF ZaT (a 39) (m 35)
def ZuY : SX := .f3 112 ZaT (a 39) z
def ZAD : SX := .us .int 597 ZgF ZaT ZgM (m 35)
def ZdM : SX := .f2 40 (a 31) (k 1)
def ZBa : SX := .f2 41 ZhU ZdM
def Zzp : SX := .us .int 593 YG (r 28) Zac ZdM
def ZrO : SX := .f2 122 Zls (.f2 122 ZCb (.f2 122 Zx9 (.f2 122 (a 2) (.f1 152 z))))
def ZxH : SX := x 592 (r 28) (m 35) ZrO
def Zvj : SX := e ZxH z
def ZpB : SX := .f3 140 z Zfg (a 28)
def Zb8 : SX := d 566 (r 13) ZpB
def ZBy : SX := .f3 112 (r 13) Zb8 z
def ZyG : SX := e ZpB ZBy
def Zu8 : SX := t Zb8 Zqm
def ZvF : SX := wR 545 Zcm Zb8
def Zim : SX := .f1 32 ZvF
def Zw7 : SX := l Zim (.f3 112 (r 13) Zb8 (k 3))
def Zel : SX := wN 546 Zcm Zb8
def ZdQ : SX := .f1 30 Zel
def ZBd : SX := l ZdQ (.f3 112 (r 13) Zb8 (k 5))
def Zxt : SX := .f2 50 (l z (.f3 112 (r 13) Zb8 (k 2))) (e Zim z)
def Zz9 : SX := .f2 50 (l z (.f3 112 (r 13) Zb8 (k 4))) (e ZdQ z)
def Zv1 : SX := l z (.f3 112 (r 13) Zb8 (k 1))
def ZB6 : SX := l z ZBy
def Zhd : SX := .f2 40 (a 29) (k 1)
def Zwj : SX := .f2 41 ZdQ Zhd
def Zqq : SX := x 584 Zac Zel (a 29)
def ZqL : SX := x 585 Zac Zel (a 29)
def ZzV : SX := .f2 110 Zel (a 29)
def ZAf : SX := d 542 Zcm Zb8
def ZqX : SX := .f2 40 (.f1 32 (r 27)) Zim
def ZiH : SX := .f2 143 (m 21) (a 28)
def ZBU : SX := t (.f1 33 ZiH) (.f1 33 (m 21))
def ZCw : SX := c 571 ZiH Zfg
def Zwx : SX := .us .bool 586 YG ZiH (.f2 122 Zqq (.f2 122 ZqL (.f1 152 z))) (a 2)
def ZL0 : VC := i (l z (a 2)) (i (l (a 2) (.f1 32 (r 4))) (i (l (a 2) (a 3)) (i (l (a 2) k0) (u 6 .int (u 7 .int (i (e (a 7) (v 523 YG)) (i (.f2 48 ZHA ZEu) (.and (i (.f1 2 ZEu) (n (e z Zwk) (n ZIx (n (e (a 7) ZIO) .tt)))) (i ZEu (n ZHA (u 8 .int (u 9 .int (u 10 .int (u 11 .int (u 12 .int (u 13 .rows (i (l z (a 8)) (i (l ZhU (a 10)) (i (.f2 50 (l z (a 9)) (e ZhU z)) (i (l Zfl (a 12)) (i (.f2 50 (l z (a 11)) ZAN) (i (c 558 (r 13) Zcm) (i (c 560 ZCO (r 13)) (i (l ZhU Zl9) (i (l Zfl Zl9) (.and (i (l z Zrl) (n (e Zrl Zwk) (n (e (d 551 YG Zl9) ZET) (n Zsb .tt)))) (i (t Zrl z) (u 14 .int (i (l z (a 14)) (u 15 .int (i (l z (a 15)) (u 16 .int (i (l z (a 16)) (n (e Zfl Zfl) (n (l Zfl (k 1000000)) (u 17 .int (u 18 .int (i (l Zfl (a 18)) (i (.f2 50 (l z (a 17)) ZAN) (u 19 .int (i (l z (a 19)) (u 20 .int (i (l z (a 20)) (n (c 571 Zfg Zfg) (n (.us .bool 586 YG Zfg (.f2 122 (a 2) (.f2 122 z (.f1 152 z))) (a 2)) (n (y 587 YG Zfg Zxa) (u 21 .amap (u 22 .ints (u 23 .int (u 24 .int (u 25 .int (u 26 .int (u 27 .rows (i (c 571 (m 21) Zfg) (i (.us .bool 586 YG (m 21) Zac (a 2)) (i (y 587 YG (m 21) (r 27)) (i (l (.f1 32 (r 27)) (a 26)) (i (.f2 50 ZB8 (e (.f1 32 (r 27)) z)) (.and (i (e (.f1 33 (m 21)) z) (n (e (.f1 32 (r 27)) (.f1 32 (r 27))) (n (l (.f1 32 (r 27)) k1) (u 28 .rows (i (e (.f1 32 (r 28)) (.f1 32 (r 27))) (i (c 580 (r 27) (r 28)) (u 29 .int (i Zzw (u 30 .int (i ZBH (n (e (.f2 40 Zz7 (.f1 32 (r 27))) (.f1 32 (r 28))) (n (y 596 YG z (.f1 155 z)) (n (e (x 595 YG (r 28) Zac) (a 24)) (n (e (x 594 YG (r 28) Zac) (a 23)) (n (e Zz7 z) (u 31 .int (u 32 .int (u 33 .int (u 34 .int (u 35 .amap (i (l z (a 31)) (i (l (a 31) ZhU) (i (l z (a 33)) (i (l (a 33) (a 34)) (i (e (.f2 40 Zls (a 33)) (.f1 32 (r 28))) (i (y 596 YG (a 31) (m 35)) (.and (i (t (a 31) ZhU) (n (c 565 (r 13) ZrX) (i (e ZrX ZCd) (i (t ZbA Zqm) (i (l Zem (.f3 112 (r 13) ZbA (k 3))) (i (l ZB0 (.f3 112 (r 13) ZbA (k 5))) (i (.f2 50 (l z (.f3 112 (r 13) ZbA (k 2))) (e Zem z)) (i (.f2 50 (l z (.f3 112 (r 13) ZbA (k 4))) (e ZB0 z)) (i (l z (.f3 112 (r 13) ZbA (k 1))) (i (l z ZCd) (i ZpZ (n ZCs (n ZuJ (n ZxW (u 36 .int (u 37 .int (u 38 .int (i Zuj (i Zvg (i (e (.f2 40 Zuw (a 37)) (.f1 32 (r 28))) (n (e (.us .int 598 ZgF ZaT z (m 35)) Zuk) (n (e (.us .int 597 ZgF ZaT z (m 35)) Zy3) (u 39 .int (i (l z (a 39)) (i (l (a 39) Zem) (.and (i (t (a 39) Zem) (u 40 .int (i (l z (a 40)) (u 41 .bool (i (.f2 48 (q 41) (c 530 (m 35) (.f2 122 (.f3 112 ZaT (a 39) (k 1)) (.f2 122 (.f3 112 ZaT (a 39) (k 2)) (.f2 122 (.f1 35 (.f1 36 (.f3 112 ZaT (a 39) (k 3)))) (.f2 122 (.f1 35 (.f1 36 (.f3 112 ZaT (a 39) (k 4)))) (.f2 122 (.f1 3 (.f1 2 (e (.f3 112 ZaT (a 39) (k 5)) z))) (.f2 122 (.f3 112 ZaT (a 39) (k 6)) (.f1 152 z))))))))) (.and (i (.f1 2 (q 41)) (n Zvr (n Zuh (n ZuN (n ZyB (n ZAV (n (e ZwB (.us .int 583 Zmw Zlz ZuY (k 4))) (n (e ZAD (.us .int 582 Zmw Zlz ZuY (k 4))) .tt)))))))) (i (.f1 2 (.f1 2 (q 41))) (n Zvr (n Zuh (n ZuN (n ZyB (n ZAV (n (e ZwB Zlz) (n (e ZAD Zmw) .tt)))))))))))))) (i (l Zem (a 39)) (u 40 .amap (i (y 531 (m 35) (wM0 544 Zcm ZbA) (m 40)) (n (l z ZbA) (n (.f1 23 ZdM) (n (l z ZBa) (n (t ZBa (.f2 41 ZhU (a 31))) (n (l z ZdM) (n (l ZdM ZhU) (n (e (.f2 40 Zzp (a 37)) (.f1 32 (r 28))) (n (y 596 YG ZdM (m 40)) (n (e (.us .int 595 YG (r 28) Zac ZdM) Zlz) (n (e (.us .int 594 YG (r 28) Zac ZdM) Zmw) (n (e Zzp Zuw) .tt)))))))))))))))))))))))))))))))))))))))) (i (l ZhU (a 31)) (n ZCs (n ZuJ (n ZxW (u 36 .int (u 37 .int (u 38 .int (i Zuj (i Zvg (i (e (.f2 40 (x 590 (r 28) (m 35) ZrO) (a 37)) (.f1 32 (r 28))) (.and (i Zvj (n (e (k (-1)) Zwk) (n ZIx (n Zsb .tt)))) (i (.f1 2 Zvj) (n (e (x 591 (r 28) (m 35) ZrO) Zwk) (n (e ZxH ZET) (n Zsb .tt)))))))))))))))))))))))))))))))))))))))))) (u 28 .int (i (.f2 141 (m 21) (a 28)) (n (c 565 (r 13) ZpB) (i ZyG (i Zu8 (i Zw7 (i ZBd (i Zxt (i Zz9 (i Zv1 (i ZB6 (i ZpZ (n (e (d 585 Zac Zel) (a 24)) (n (e (d 584 Zac Zel) (a 23)) (u 29 .int (i Zzw (i (l (a 29) ZdQ) (.and (i (t (a 29) ZdQ) (n (.f1 23 Zhd) (n (l z Zwj) (n (t Zwj (.f2 41 ZdQ (a 29))) (n (l z Zhd) (n (l Zhd ZdQ) (n (e (x 585 Zac Zel Zhd) (.us .int 583 Zqq ZqL ZzV (k 3))) (n (e (x 584 Zac Zel Zhd) (.us .int 582 Zqq ZqL ZzV (k 3))) .tt)))))))) (i (l ZdQ (a 29)) (n (l z Zb8) (.and (i (t ZAf z) (i ZyG (i Zu8 (i Zw7 (i ZBd (i Zxt (i Zz9 (i Zv1 (i ZB6 (i ZpZ (n (l (.f1 32 (r 27)) (.f1 32 (r 27))) (n (l (.f2 42 ZqX (k 72)) k1) (n (l Zim Zim) (u 30 .int (u 31 .int (i (l ZqX (a 31)) (i (.f2 50 ZBH (e ZqX z)) (n ZBU (n ZCw (n Zwx (n (y 587 YG ZiH (.f2 121 (r 27) ZvF)) .tt))))))))))))))))))))) (i (l z ZAf) (n ZBU (n ZCw (n Zwx (n (y 587 YG ZiH (r 27)) .tt)))))))))))))))))))))))))))))))))))))))))))))))))))))))))))))))))))))))))))))))))))))
theorem ZNd : YV Tryz.prog ZPt 12 23 ZtG = ZL0 := by kernel_rfl
theorem ZMD (S : Sig GG) (hS : JsSig S) : ZA S Tryz.prog 23 ZtG := by
 refine Zg S (C := ZPt) (fuel := 12) (ZU ⟨Zi (by decide) (ZFU S hS), Zi (by decide) (Zz4 S hS.jt), Zi (by decide) (Zqi S hS.jt.jb), Zi (by decide) (Zyx S hS.jt.jb), Zi (by decide) (ZMB S hS), Zi (by decide) (ZLx S hS), Zi (by decide) (ZLk S hS), trivial⟩ ⟨⟨⟨by decide, Zox S hS.jt⟩, trivial, ⟨by decide, ZcM S hS.jt⟩, trivial, ⟨by decide, Zcw S hS.jt⟩, ⟨by decide, ZcM S hS.jt⟩, ⟨by decide, Zcw S hS.jt⟩, trivial, ⟨by decide, ZcM S hS.jt⟩, trivial, ⟨by decide, Zcw S hS.jt⟩, trivial⟩, trivial⟩ trivial) fun ρ => ?_
 rw [ZNd]
 simp only [ZL0, YG, ZHA, ZEu, Zwk, ZET, ZIx, ZIO, Zl9, ZCO, ZhU, Zxa, Zfl, ZAN, Zcm, Zrl, Zsb, Zfg, Zac, ZB8, Zzw, ZBH, Zz7, Zls, ZrX, ZbA, ZCd, Zqm, ZaT, Zem, ZB0, ZpZ, ZCs, ZuJ, ZxW, Zuj, Zvg, ZCb, Zx9, Zq6, Zuw, Zy3, Zuk, ZgF, ZgM, Zvr, Zu6, Zuh, ZuN, ZyB, ZAV, ZwB, Zmw, Zlz, ZuY, ZAD, ZdM, ZBa, Zzp, ZrO, ZxH, Zvj, ZpB, Zb8, ZBy, ZyG, Zu8, ZvF, Zim, Zw7, Zel, ZdQ, ZBd, Zxt, Zz9, Zv1, ZB6, Zhd, Zwj, Zqq, ZqL, ZzV, ZAf, ZqX, ZiH, ZBU, ZCw, Zwx, hS.jt.jb.rf.u520, hS.jt.jb.rf.u521, hS.jt.jb.rf.u522, hS.jt.jb.rf.u523, hS.jt.jb.u530, hS.jt.jb.u531, hS.jt.u542, hS.jt.u544, hS.jt.u545, hS.jt.u546, hS.jt.u547, hS.jt.u548, hS.jt.u549, hS.jt.u550, hS.jt.u551, hS.jt.u552, hS.jt.u558, hS.jt.u560, hS.jt.u561, hS.jt.u565, hS.jt.u566, hS.jt.u571, hS.u580, hS.u582, hS.u583, hS.u584, hS.u585, hS.u586, hS.u587, hS.u590, hS.u591, hS.u592, hS.u593, hS.u594, hS.u595, hS.u596, hS.u597, hS.u598, ZQ, ZPY, VC.den, SX.den, Env.upd, ZX, ZE, beq_iff_eq, ZPQ, beq_eq_false_iff_ne, ne_eq, ZPP, ZPO, Int.reduceToNat, Nat.reduceEqDiff, reduceIte, sB, sC]
 generalize hX : (ρ 4).tR.take (ρ 2).tI.toNat = X
 generalize hlen : (ρ 2).tI = l at *
 intro h1 h2 h3 h4
 have hl : l = (X.length : Nat) := by rw [<- hX, ZPT]; omega
 subst hl
 clear hX hlen
 simp only [ZPY, ZkM]
 intro b e he hb
 have hpl : ∀ (R : List (List Int)) (ks : List Nat), (Zbk R ks).length = ks.length := fun R ks => by unfold Zbk; rw [ZP1]
 have hwf := ZiA X X.length
 have prOf2 : ∀ u v : Int, ZmU [u, v] = (u, v) := fun _ _ => rfl
 simp only [hpl, prOf2, Zvp, Zkb, Zf2, ZPY]
 refine ⟨fun hne => ?_, fun h0 => ⟨?_, ?_⟩⟩
 ·rw [ZG7 (by rw [<- he]; exact hne)]; exact ⟨rfl, rfl, he, trivial⟩
 ·rw [h0] at hb; exact Za.1 (by rw [hb]; rfl)
 have hc : Zb9 X = 0 := by rw [<- he]; exact h0
 intro ma kb kc ob oc R q1 q2 q3 q4 q5 q6 q7 q8 q9
 refine ⟨fun hf => ?_, fun hf => ?_⟩
 ·rw [ZmR hc hf]; exact ⟨rfl, rfl, rfl, trivial⟩
 have hgo : Go X (Z7 X X.length) := ZGB hc hf
 have h400 := Zgx hc
 rw [ZDi hc hgo]
 have hfin := @ZtQ X _ hgo
 have hbl := fun t ht => ZMg hgo (t := t) ht
 have hll := ZHU hwf h400
 have hall : ∀ t ∈ (Z7 X X.length).txs, Zx (ZeQ R (Z7 X X.length).txs) t.who = true := ZdP q6.1
 have hget := fun w => ZbI (w := w) q6.1 0
 have hkeys := ZgZ q6.1
 have hkept : ∀ n < (Z7 X X.length).kept.length, (Z7 X X.length).kept.getD n 0 < R.length := fun n hn => by rw [q6.1]; exact (hgo.kw hn).1
 have hmst := @Zqv (Z7 X X.length)
 have hbst := @ZD3 (Z7 X X.length)
 have hlst := @ZEW (Z7 X X.length)
 have hki : ∀ left i r, ZCy (Z7 X X.length) left i r -> True := fun _ _ _ _ => trivial
 generalize Z7 X X.length = B at *
 intro ca p1 cw p2 cn p3
 refine ⟨trivial, by omega, fun cb cc p4 p5 lb p6 it p7 => ?_⟩
 refine ⟨⟨by rw [hkeys]; exact hwf.nd, fun k hk => hk⟩, ZDn hall _, by rw [ZCG hall], fun left cur a w lob loc lo g1 g2 g3 g4 g5 => ?_⟩
 refine ⟨fun hz => ?_, fun k hk => ?_⟩
 ·have hz : left = [] := ZP6 (by omega)
  subst hz
  refine ⟨trivial, by have := g3.length_eq; have := hll []; omega, fun L s1 s2 mb p8 nb p9 => ?_⟩
  refine ⟨by have : (YW B L (a, w) 0).1 = 0 := rfl; omega, map_nil B, rfl, rfl, rfl, fun k z l c M j1 j2 j3 j4 j5 j6 => ?_⟩
  obtain ⟨n, rfl⟩ := ZPJ j1
  have en : ((n : Int) + 1).toNat = n + 1 := by omega
  simp only [ZPY, en] at j5 j6 ⊢
  have hends : ∀ pl, Zfw (Z3 M) L pl (YW B L (a, w) n).1 (YW B L (a, w) n).2 = Zfw (Z2 (stF B n)) L pl (YW B L (a, w) n).1 (YW B L (a, w) n).2 := fun pl => ZNp j6 L pl _ _
  have hlen : L.length <= 1000000 := by have := g3.length_eq; have := hll []; omega
  have hlo : 0 <= lob \/ l = 0 := by
   rcases g5 with g5 | g5
   ·exact .inl g5
   ·right; omega
  refine ⟨fun hn => ?_, fun hn => ?_⟩
  ·have hn : n < B.kept.length := by omega
   have hJ := hkept n hn
   have hJt : B.kept.getD n 0 < B.txs.length := by rw [<- q6.1]; exact hJ
   have hri := ZaP q6.2.1 hJ
   simp only [ZBc hn, hri, ZcA]
   refine ⟨⟨_, hJ, rfl⟩, fun _ _ _ _ _ _ _ _ _ => ⟨by omega, by omega, hlo, fun z' l' c' j7 j8 j9 => ?_⟩⟩
   have hk1 : YW B L (a, w) (n + 1) = ((Zfw (Z2 (stF B n)) L (B.txs.getD (B.kept.getD n 0) tx0).com (YW B L (a, w) n).1 (YW B L (a, w) n).2).1, Zke (Z2 (stF B n)) (Zfw (Z2 (stF B n)) L (B.txs.getD (B.kept.getD n 0) tx0).com (YW B L (a, w) n).1 (YW B L (a, w) n).2).2 (B.txs.getD (B.kept.getD n 0) tx0).rds (B.txs.getD (B.kept.getD n 0) tx0).rds.length) := rfl
   rw [<- hends] at hk1
   have hms := fun M' (hl : ZwI M (B.txs.getD (B.kept.getD n 0) tx0).ch M') => hmst j6 rfl hl
   have hrl := (hwf.rl _ (hgo.kt hn)).1
   generalize B.txs.getD (B.kept.getD n 0) tx0 = t at *
   generalize Zfw (Z3 M) L t.com (YW B L (a, w) n).1 (YW B L (a, w) n).2 = E at *
   refine ⟨rfl, rfl, fun jj j10 j11 => ⟨fun hlt tb htb v hv => ?_, fun hge M' hl => ?_⟩⟩
   ·obtain ⟨m, rfl⟩ := ZPJ j10
    have em : ((m : Int) + 1).toNat = m + 1 := by omega
    simp only [ZPY, em] at hv ⊢
    have st : Zke (Z3 M) E.2 t.rds (m + 1) = if Z3 M ((t.rds.getD m []).drop 1) = true then Zke (Z3 M) E.2 t.rds m else Zd6 (Zke (Z3 M) E.2 t.rds m) (g0 (t.rds.getD m [])) 4 := rfl
    refine ⟨fun hn => ?_, fun hn => ?_⟩
    ·have hn : ¬ Z3 M ((t.rds.getD m []).drop 1) = true := by rw [<- hv]; simpa using hn
     rw [if_neg hn] at st
     rw [st]
     exact ⟨⟨by omega, by omega⟩, by omega, by omega, by omega, by omega, rfl, rfl, trivial⟩
    ·have hn : Z3 M ((t.rds.getD m []).drop 1) = true := by rw [<- hv]; simpa using hn
     rw [if_pos hn] at st
     rw [st]
     exact ⟨⟨by omega, by omega⟩, by omega, by omega, by omega, by omega, rfl, rfl, trivial⟩
   ·have hjj : jj.toNat = t.rds.length := by omega
    have hrd : Zke (Z2 (stF B n)) E.2 t.rds t.rds.length = Zke (Z3 M) E.2 t.rds t.rds.length := (ZFu j6 _ _ _).symm
    rw [hjj, hk1, hrd]
    exact ⟨by omega, ⟨by omega, by omega⟩, by omega, by omega, by omega, by omega, j9, hms M' hl, rfl, rfl, rfl, trivial⟩
  ·have hn : n = B.kept.length := by omega
   subst hn
   refine ⟨by omega, by omega, hlo, fun z' l' c' j7 j8 j9 => ?_⟩
   have hf := hfin g2 g3 (L := L) s2
   simp only [hends] at *
   generalize Zfw (Z2 (stF B B.kept.length)) L (X.length : Int) (YW B L (a, w) B.kept.length).1 (YW B L (a, w) B.kept.length).2 = E at *
   refine ⟨fun hz => ?_, fun hz => ?_⟩
   ·rw [if_pos hz] at hf
    rw [<- hf]; exact ⟨rfl, rfl, trivial, trivial⟩
   ·rw [if_neg hz] at hf
    rw [<- hf]; exact ⟨rfl, rfl, trivial, trivial⟩
 ·have hm := g1.2 k hk
  obtain ⟨e1, e2⟩ := hget k
  rw [hm] at e2
  have hjl : ixL k B.txs < B.txs.length := of_decide_eq_true e2.symm
  rw [if_pos hjl] at e1
  have hbs := fun i r => hbst g1.1 hwf.nd (k := k) rfl hjl i r
  have hls := hlst g1.1 hwf.nd (k := k) rfl hjl hk
  have hdel : (Y0 left k).length < left.length := Zdk hk
  have hnd := Zbz g1.1 k
  have hsub : ∀ q, Zx (Y0 left k) q = true -> Zx (ZeQ R B.txs) q = true := fun q hq => by
   rw [mhas_del' g1.1] at hq
   split at hq
   ·cases hq
   ·exact g1.2 q hq
  have hml := hll (Y0 left k)
  generalize ixL k B.txs = j at *
  have hJ : j < R.length := by rw [q6.1]; exact hjl
  have hri := ZaP q6.2.1 hJ
  have htm : B.txs.getD j tx0 ∈ B.txs := by rw [Yv hjl]; exact ZQe hjl
  have hbt := hbl _ htm
  have hbw := (hwf.rl _ htm).2
  simp only [e1, hri, ZcA]
  generalize B.txs.getD j tx0 = t at *
  refine ⟨⟨_, hJ, rfl⟩, fun _ _ _ _ _ _ _ _ _ => ⟨rfl, rfl, fun i i0 i1 => ⟨fun hlt => ?_, fun hge => ?_⟩⟩⟩
  ·obtain ⟨m, rfl⟩ := ZPJ i0
   have em : ((m : Int) + 1).toNat = m + 1 := by omega
   simp only [ZPY, em]
   exact ⟨⟨by omega, by omega⟩, by omega, by omega, by omega, by omega, rfl, rfl, trivial⟩
  ·have hii : i.toNat = t.bad.length := by omega
   rw [hii]
   have hLP : YC (ZCy B (Y0 left k)) (X.length : Int) (ZGF (a, w) t.bad t.bad.length) :=
    (Zqd g2 t.bad (fun i hi => hbt i hi) _ (ZPH _)).congr fun i r => by rw [hbs, List.take_length]
   refine ⟨by omega, fun hcm _ _ _ _ _ _ _ _ _ => ?_, fun hcm => ?_⟩
   ·rw [if_pos hcm] at hls
    have hpm := (g3.append_right t.rds).trans hls.symm
    have hpl := hpm.length_eq
    rw [ZPW] at hpl
    exact ⟨by omega, by omega, by omega, fun _ _ _ _ => ⟨by omega, ⟨hnd, hsub⟩, hLP, hpm, trivial⟩⟩
   ·rw [if_neg (by omega), List.append_nil] at hls
    exact ⟨by omega, ⟨hnd, hsub⟩, hLP, g3.trans hls.symm, trivial⟩
def ZuH : Ctr := ⟨[], [], [], [], [], .one (.bool (.bool true)), [], []⟩
theorem ZPf (x : List Ent) (n : Nat) : (ZqK x n).map nr = ZqK x n := by
 unfold ZqK
 rw [List.map_reverse, List.map_map]
 congr 1
 apply List.map_congr_left
 intro r _
 exact ZLP r
theorem ZjU {α : Type} (x y : List α) {n : Nat} (h : n = x.length) : (x ++ y).take n = x := by subst h; exact List.take_left
theorem ZEZ {α : Type} (x y : List α) {n : Nat} (h : n = x.length) : (x ++ y).drop n = y := by subst h; exact List.drop_left
theorem ZwJ (x y : List Ent) {l : Int} (h : l = x.length) : ∀ i : Nat, (0 : Int) <= i -> (i : Int) < l -> eqE (xa (x ++ y) i) (xa x i) := fun i _ hi => by
 unfold eqE xa
 rw [ZPR, ZP9 (by omega), <- ZPR]
/-! ### What is left has short texts, where the history has -/
def shT (x : List Ent) : Prop := ∀ r ∈ x, (ZY r).length <= 1048576 /\ (Zao r).length <= 1048576
theorem ZPk {x : List Ent} (h : shT x) (i : Nat) : (ZY (xa x i)).length <= 1048576 /\ (Zao (xa x i)).length <= 1048576 := by
 by_cases hi : i < x.length
 ·exact h _ (by unfold xa; rw [ZPR, ZPU hi]; exact ZQe _)
 ·have e : xa x i = [] := by unfold xa; rw [ZPR, List.getElem?_eq_none (by omega)]; rfl
  rw [e]
  exact ⟨Nat.zero_le _, Nat.zero_le _⟩
theorem ZFz {x : List Ent} (h : shT x) (ks : List Int) (k : List UInt8) : ∀ n, (Zch x ks k n).1.length <= 1048576
 | 0 => Nat.zero_le _
 | n + 1 => by
  unfold Zch
  dsimp only
  split
  ·exact (ZPk h _).2
  ·exact ZFz h ks k n
theorem Zub {f : Kf} (hf : ∀ s, (f s).1.length <= 1048576) {R : List (List Int)} (hR : ∀ i, (txt (R.getD i [])).length <= 1048576) : ∀ n, txL (ZfW f R n) /\ (ZfW f R n).length <= n
 | 0 => ⟨(fun w hw => nomatch hw), ZPH _⟩
 | n + 1 => by
  obtain ⟨h1, h2⟩ := Zub hf hR n
  unfold ZfW
  split
  ·refine ⟨fun w hw => ?_, by rw [ZPW]; simp only [ZQb, List.length_nil]; omega⟩
   rcases List.mem_append.1 hw with hw | hw
   ·exact h1 w hw
   ·rw [List.mem_singleton.1 hw]
    have e1 : txt (ZK9 f (txt (R.getD n []))) = txt (R.getD n []) := by show Yc (Int.toNat (Zr _ : Nat)) = _; rw [ZPY, Zm]
    have e2 : tx1 (ZK9 f (txt (R.getD n []))) = (f (txt (R.getD n []))).1 := by show Yc (Int.toNat (Zr _ : Nat)) = _; rw [ZPY, Zm]
    rw [e1, e2]
    exact ⟨hR n, hf _⟩
  ·exact ⟨h1, by omega⟩
theorem ZzW {x : List Ent} (h : shT x) : txL (finR' x) /\ (finR' x).length <= 400 := by
 unfold finR'
 split
 ·rename_i he
  have hc : Zb9 x = 0 := Classical.byContradiction fun q => by unfold Zkc at he; rw [if_pos q] at he; exact q he
  have hl := Zgx hc
  have hk := Zky x x.length
  unfold ZKT
  obtain ⟨a, b⟩ := Zub (f := leF x (ZM x x.length)) (fun s => ZFz h _ _ _) (R := (Zd2 x x.length).map Ze2) (fun i => by
   by_cases hi : i < (Zd2 x x.length).length
   ·have e : ((Zd2 x x.length).map Ze2).getD i [] = Ze2 ((Zd2 x x.length)[i]) := by
     rw [ZPR, ZPN, ZPU hi]; rfl
    rw [e, Zks]
    obtain ⟨j, _, _, e2⟩ := (ZfY x _ _).1 (ZQe hi)
    rw [<- e2]
    exact (ZPk h j).1
   ·have e : ((Zd2 x x.length).map Ze2).getD i [] = [] := by
     rw [ZPR, List.getElem?_eq_none (by rw [ZP1]; omega)]; rfl
    rw [e]
    exact Nat.zero_le _) (Zd2 x x.length).length
  exact ⟨a, by omega⟩
 ·exact ⟨(fun w hw => nomatch hw), Nat.zero_le _⟩
theorem ZNe (r : Ent) : ZY (nr r) = ZY r := by show Yc (Int.toNat (Zr _ : Nat)) = _; rw [ZPY, Zm]
theorem ZOg (r : Ent) : Zao (nr r) = Zao r := by show Yc (Int.toNat (Zr _ : Nat)) = _; rw [ZPY, Zm]
theorem ZNU {x : List Ent} (h : shT x) (n : Nat) : shT (ZqK x n) := by
 intro r hr
 unfold ZqK at hr
 rw [List.mem_reverse, List.mem_map] at hr
 obtain ⟨q, hq, rfl⟩ := hr
 rw [ZNe, ZOg]
 exact h q (List.mem_of_mem_drop hq)
structure JfSig (S : Sig GG) : Prop where
 po : PoSig S
 u705 : ∀ a b c d, S.usr 705 a b c d = .bool (Zn (shT a.tR))
def ZD8 : Ctr := ⟨[], [], [], [], [], .tup [], [slA (.int (-1)) Zbn z0, c42 z0 z0 z0 Zbn, slA2 (.int (-1)) Zbn z0, lpC z0 z0 z0 Zbn], []⟩
def ZpS : Ctr := ⟨hA ++ hA, [.one (hS 0), .one (hS 6)], [hC 0 0, hC 1 6], hQ 0 ++ hQ 6 ++ [usB 705 (rA 4) z0 z0, usB 705 (rA 10) z0 z0], [.bool], .one (.bool (qA 12)), [hC 0 0, hC 1 6], [qA 12]⟩
def ZNT : Cx := { specs := [(6, [ZuH]), (7, [ZBK]), (12, [ZrP]), (9, [ZAx]), (10, [Zxd]), (11, [ZuD]), (13, [Zxg]), (14, [Zvn]), (15, [Zv9]), (16, [ZwK])], anns := [(4, [(24, .ghost ZD8 [])])] }
theorem ZIP (S : Sig GG) (hS : JfSig S) : YH S ZD8 := by
 refine ZL S fun T w0 ρ h hu hp hd hr hpre => ⟨ρ, Ext.refl _ _, ?_, fun x hx => nomatch hx⟩
 have e1 : hpDen T ρ w0 ZD8.pre = emp := rfl
 have e2 : hpDen T ρ w0 ZD8.post = Zd (rAD (.rows [.slice 1]) (-1) [] 0) (Zd (T.prd 122 w0 (.rows [[0, 0, 0]]) (z0.den T ρ)) (Zd (rAD ZMr (-1) [] 0) (Zd (T.prd 127 w0 (.rows [[0, 0, 0]]) (z0.den T ρ)) emp))) := rfl
 rw [e1] at hpre
 rw [e2, Zc, hp, hS.po.pb.by'.p122, hS.po.pb.p127, U.tRi, show rAD ZMr (-1) [] 0 = emp from Zci _, show rAD (.rows [.slice 1]) (-1) [] 0 = emp from Zci _, emp_star, emp_star, ZbP]
 show Zd emp (ZC1 [[0, 0, 0]]) h
 rw [emp_star]
 exact ⟨(fun r hr => nomatch hr), hpre⟩
def ZCN : SX := .f2 40 (a 2) (k 3)
def ZC4 : SX := .f2 40 (a 8) (k 3)
def ZEO : SX := .f2 122 (k (-7)) (.f2 122 z (.f2 122 z (.f2 122 z (.f2 122 z (.f2 122 z (.f1 152 z))))))
def ZDf : SX := .f2 124 ZEO (.f2 124 ZEO (.f2 124 ZEO (.f1 154 z)))
def ZG1 : SX := .f2 121 (r 4) ZDf
def ZHc : SX := .f2 115 ZG1 (a 2)
def ZD9 : SX := v 604 ZHc
def ZDG : SX := vR 603 ZHc
def ZFb : SX := .f1 32 ZDG
def ZHy : SX := .f2 40 (.f1 32 (r 10)) (k 3)
def ZkO : SX := .f2 121 (r 10) ZDf
def Zyy : SX := .f2 115 ZkO (a 8)
def ZqE : SX := vR 603 Zyy
def Zgd : SX := wR 533 (r 4) (a 2)
def Zlc : SX := hR0 534 Zgd ZG1 (a 2)
def ZtZ : SX := .f1 32 Zlc
def ZzO : SX := .f2 115 Zlc (a 2)
def Zrv : SX := vR 603 ZzO
def ZBu : SX := vR 603 (r 4)
def Zvx : SX := vR 603 (r 10)
def ZuS : SX := vR 603 Zgd
def ZBB : SX := e (a 19) (a 43)
def ZCu : SX := e (a 23) (a 43)
def ZBV : SX := e (a 27) (a 47)
def ZtJ : SX := e (a 31) (a 43)
def ZBS : SX := e (a 37) (a 51)
def Zha : SX := l z (a 52)
def ZN3 : VC := i (l z (a 2)) (i (e (a 2) (.f1 32 (r 4))) (i (l (a 2) (a 3)) (i (l (a 2) k0) (i (l z (a 8)) (i (e (a 8) (.f1 32 (r 10))) (i (l (a 8) (a 9)) (i (l (a 8) k0) (i (p 705 (r 4)) (i (p 705 (r 10)) (u 12 .int (u 13 .int (i (l ZCN (a 13)) (i (l z (a 12)) (u 14 .int (u 15 .int (i (l ZC4 (a 15)) (i (l z (a 14)) (n (l (a 2) (.f2 40 (.f1 32 (r 4)) (k 3))) (n (l (a 2) (a 13)) (u 16 .int (u 17 .rows (u 18 .int (u 19 .int (i (e (a 19) ZD9) (i (e (.f1 32 (r 17)) ZFb) (i (l (.f1 32 (r 17)) (a 18)) (i (.f2 50 (l z (a 16)) (e (.f1 32 (r 17)) z)) (u 20 .int (u 21 .rows (u 22 .int (u 23 .int (i (e (a 23) ZD9) (i (e (.f1 32 (r 21)) ZFb) (i (l (.f1 32 (r 21)) (a 22)) (i (.f2 50 (l z (a 20)) (e (.f1 32 (r 21)) z)) (n (l (a 8) ZHy) (n (l (a 8) (a 15)) (u 24 .int (u 25 .rows (u 26 .int (u 27 .int (i (e (a 27) (v 604 Zyy)) (i (e (.f1 32 (r 25)) (.f1 32 ZqE)) (i (l (.f1 32 (r 25)) (a 26)) (i (.f2 50 (l z (a 24)) (e (.f1 32 (r 25)) z)) (u 28 .int (u 29 .rows (u 30 .int (u 31 .int (i (e (a 31) ZD9) (i (e (.f1 32 (r 29)) ZFb) (i (l (.f1 32 (r 29)) (a 30)) (i (.f2 50 (l z (a 28)) (e (.f1 32 (r 29)) z)) (u 32 .int (u 33 .int (i (l (a 2) (a 33)) (i (.f2 50 (l z (a 32)) (e (a 2) z)) (n (e (a 2) (a 2)) (n (e (a 2) (.f1 32 Zgd)) (n (l (a 2) ZtZ) (u 34 .int (u 35 .rows (u 36 .int (u 37 .int (i (e (a 37) (v 604 ZzO)) (i (e (.f1 32 (r 35)) (.f1 32 Zrv)) (i (l (.f1 32 (r 35)) (a 36)) (i (.f2 50 (l z (a 34)) (e (.f1 32 (r 35)) z)) (n (e ZtZ ZCN) (n (.us .bool 535 Zlc z (a 2) Zgd) (n (.us .bool 535 Zlc (a 2) ZCN (.f2 121 Zgd ZDf)) (u 38 .bool (i (q 38) (n (e ZHy ZC4) (n (e (a 8) (a 8)) (n (.us .bool 535 ZkO z (a 8) (r 10)) (n (.us .bool 535 ZkO (a 8) ZC4 ZkO) (u 39 .bool (i (q 39) (u 40 .int (u 41 .rows (u 42 .int (u 43 .int (i (e (a 43) (v 604 (r 4))) (i (e (.f1 32 (r 41)) (.f1 32 ZBu)) (i (l (.f1 32 (r 41)) (a 42)) (i (.f2 50 (l z (a 40)) (e (.f1 32 (r 41)) z)) (u 44 .int (u 45 .rows (u 46 .int (u 47 .int (i (e (a 47) (v 604 (r 10))) (i (e (.f1 32 (r 45)) (.f1 32 Zvx)) (i (l (.f1 32 (r 45)) (a 46)) (i (.f2 50 (l z (a 44)) (e (.f1 32 (r 45)) z)) (u 48 .int (u 49 .rows (u 50 .int (u 51 .int (i (e (a 51) (v 604 Zgd)) (i (e (.f1 32 (r 49)) (.f1 32 ZuS)) (i (l (.f1 32 (r 49)) (a 50)) (i (.f2 50 (l z (a 48)) (e (.f1 32 (r 49)) z)) (.and (i (.f1 2 (.f1 2 (q 38))) (.and (i (.f1 2 (.f1 2 (q 39))) (.and (i ZBB (.and (i ZCu (.and (i ZBV (.and (i ZtJ (.and (i (.f1 2 ZBS) (n (.bool false) .tt)) (i ZBS (n (e (.f1 32 (r 17)) (.f1 32 (r 41))) (n (.f2 155 ZDG ZBu) (n (l (.f1 32 (r 17)) (k 1048576)) (n (e (.f1 32 (r 21)) (.f1 32 (r 41))) (n (l (.f1 32 (r 21)) (k 1048576)) (n (e (.f1 32 (r 25)) (.f1 32 (r 45))) (n (.f2 155 ZqE Zvx) (n (l (.f1 32 (r 25)) (k 1048576)) (n (e (.f1 32 (r 29)) (.f1 32 (r 41))) (n (l (.f1 32 (r 29)) (k 1048576)) (n (e (.f1 32 (r 35)) (.f1 32 (r 49))) (n (.f2 155 Zrv ZuS) (n (l (.f1 32 (r 35)) (k 1048576)) (u 52 .int (i Zha (n (l (.f1 32 (r 17)) (k 1000)) (n (p 703 ZDG) (u 53 .int (u 54 .int (u 55 .int (u 56 .rows (u 57 .int (u 58 .int (u 59 .int (u 60 .rows (i (l z (a 53)) (i (l (a 53) (.f1 32 (r 56))) (i (l (a 53) (a 55)) (i (l z (a 57)) (i (l (a 57) (.f1 32 (r 60))) (i (l (a 57) (a 59)) (i Zha (i (e (a 53) (.f2 42 (k 2) (.f1 32 (r 17)))) (i (e (a 57) (k 1)) (n (l (a 53) (k 1000000)) (n (l (a 57) (k 1000)) (n (l (.f1 32 (r 21)) (k 1000)) (u 61 .int (u 62 .int (u 63 .int (u 64 .rows (u 65 .int (u 66 .int (u 67 .int (u 68 .rows (i (l z (a 61)) (i (l (a 61) (.f1 32 (r 64))) (i (l (a 61) (a 63)) (i (l z (a 65)) (i (l (a 65) (.f1 32 (r 68))) (i (l (a 65) (a 67)) (i Zha (i (e (a 61) (.f2 40 (a 53) (.f2 42 (k 2) (.f1 32 (r 21))))) (i (e (a 65) (.f2 40 (a 57) (k 1))) (n (l (a 61) (k 1000000)) (n (l (a 65) (k 1000)) (n (l (.f1 32 (r 25)) (k 1000)) (n (p 703 ZqE) (u 69 .int (u 70 .int (u 71 .int (u 72 .rows (u 73 .int (u 74 .int (u 75 .int (u 76 .rows (i (l z (a 69)) (i (l (a 69) (.f1 32 (r 72))) (i (l (a 69) (a 71)) (i (l z (a 73)) (i (l (a 73) (.f1 32 (r 76))) (i (l (a 73) (a 75)) (i Zha (i (e (a 69) (.f2 40 (a 61) (.f2 42 (k 2) (.f1 32 (r 25))))) (i (e (a 73) (.f2 40 (a 65) (k 1))) (n (l (a 69) (k 1000000)) (n (l (a 73) (k 1000)) (n (l (.f1 32 (r 29)) (k 1000)) (u 77 .int (u 78 .int (u 79 .int (u 80 .rows (u 81 .int (u 82 .int (u 83 .int (u 84 .rows (i (l z (a 77)) (i (l (a 77) (.f1 32 (r 80))) (i (l (a 77) (a 79)) (i (l z (a 81)) (i (l (a 81) (.f1 32 (r 84))) (i (l (a 81) (a 83)) (i Zha (i (e (a 77) (.f2 40 (a 69) (.f2 42 (k 2) (.f1 32 (r 29))))) (i (e (a 81) (.f2 40 (a 73) (k 1))) (n (l (a 77) (k 1000000)) (n (l (a 81) (k 1000)) (n (l (.f1 32 (r 35)) (k 1000)) (n (p 703 Zrv) (u 85 .int (u 86 .int (u 87 .int (u 88 .rows (u 89 .int (u 90 .int (u 91 .int (u 92 .rows (i (l z (a 85)) (i (l (a 85) (.f1 32 (r 88))) (i (l (a 85) (a 87)) (i (l z (a 89)) (i (l (a 89) (.f1 32 (r 92))) (i (l (a 89) (a 91)) (i Zha (i (e (a 85) (.f2 40 (a 77) (.f2 42 (k 2) (.f1 32 (r 35))))) (i (e (a 89) (.f2 40 (a 81) (k 1))) (n (l (a 85) (k 1000000)) (n (l (a 89) (k 1000)) .tt))))))))))))))))))))))))))))))))))))))))))))))))))))))))))))))))))))))))))))))))))))))))))))))))))))))))))))))))))))))))) (i (.f1 2 ZtJ) (n (.bool false) .tt)))) (i (.f1 2 ZBV) (n (.bool false) .tt)))) (i (.f1 2 ZCu) (n (.bool false) .tt)))) (i (.f1 2 ZBB) (n (.bool false) .tt)))) (i (.f1 2 (q 39)) (n (.bool false) .tt)))) (i (.f1 2 (q 38)) (n (.bool false) .tt))))))))))))))))))))))))))))))))))))))))))))))))))))))))))))))))))))))))))))))))))))))))))))))))))))))))))
theorem ZOz : YV Tryz.prog ZNT 12 4 ZpS = ZN3 := by kernel_rfl
theorem ZNl (S : Sig GG) (hS : JfSig S) (haw : ZA S Tryz.prog 6 ZuH) : ZA S Tryz.prog 4 ZpS := by
 refine Zg S (C := ZNT) (fuel := 12) (ZU ⟨Zi (by decide) haw, Zi (by decide) (ZK0 S hS.po.pb.by'.fi.js.jt.jb), Zi (by decide) (ZFQ S hS.po.pb.by'.fi), Zi (by decide) (ZLD S hS.po.pb.by'.fi.js.jt.jb), Zi (by decide) (ZPs S hS.po.pb.by'.fi.js.jt.jb), Zi (by decide) (ZLI S hS.po.pb.by'.fi.js.jt.jb), Zi (by decide) (ZOC S hS.po.pb.by'.fi), Zi (by decide) (ZLa S hS.po.pb.by'.fi), Zi (by decide) (ZO0 S hS.po.pb), Zi (by decide) (ZOD S hS.po), trivial⟩ ⟨⟨⟨by decide, ZIP S hS⟩, trivial⟩, trivial⟩ trivial) fun ρ => ?_
 rw [ZOz]
 simp only [ZN3, ZCN, ZC4, ZEO, ZDf, ZG1, ZHc, ZD9, ZDG, ZFb, ZHy, ZkO, Zyy, ZqE, Zgd, Zlc, ZtZ, ZzO, Zrv, ZBu, Zvx, ZuS, ZBB, ZCu, ZBV, ZtJ, ZBS, Zha, hS.po.pb.by'.fi.js.jt.jb.u533, hS.po.pb.by'.fi.js.jt.jb.u534, hS.po.pb.by'.fi.js.jt.jb.u535, hS.po.pb.by'.fi.u603, hS.po.pb.by'.fi.u604, hS.po.pb.u703, hS.u705, ZQ, ZPY, VC.den, SX.den, Env.upd, ZX, ZE, beq_iff_eq, ZPQ, beq_eq_false_iff_ne, ne_eq, ZPP, ZPO, Int.reduceToNat, Nat.reduceEqDiff, reduceIte, sB, sC]
 generalize (ρ 4).tR = X
 generalize (ρ 10).tR = Y
 generalize (ρ 2).tI = l
 generalize (ρ 8).tI = m
 intro h1 h2 h3 h4 h5 h6 h7 h8 s1 s2
 subst h2 h6
 simp only [ZPY, U.tQi, Zj] at s1 s2 ⊢
 have hR := ZhF (ZPH X.length)
 have hN := ZPf X X.length
 have s3 := ZNU s1 X.length
 generalize ZqK X X.length = T at *
 have hk : ([[-7, 0, 0, 0, 0, 0], [-7, 0, 0, 0, 0, 0], [-7, 0, 0, 0, 0, 0]] : List (List Int)).length = 3 := rfl
 generalize ([[-7, 0, 0, 0, 0, 0], [-7, 0, 0, 0, 0, 0], [-7, 0, 0, 0, 0, 0]] : List (List Int)) = K at *
 have t1 : T.take X.length = T := ZP3 (by omega)
 simp only [ZjU X K rfl, ZjU Y K rfl, ZEZ X K rfl, t1, hN, ZjU T K hR.symm, ZPW, hk, hR]
 obtain ⟨u1, l1⟩ := ZzW s1
 obtain ⟨u2, l2⟩ := ZzW s2
 obtain ⟨u3, l3⟩ := ZzW s3
 clear s1 s2 s3 t1 hN
 repeat' (first | exact trivial | exact u1 | exact u2 | exact u3 | apply And.intro | intro _)
 all_goals first
  | omega
  | assumption
  | rfl
  | exact ZwJ _ _ (by rw [hR]) _ (by assumption) (by assumption)
  | exact ZwJ _ _ rfl _ (by assumption) (by assumption)
  | (simp_all; done)
end
end Go.Proofs.YtidlngnhjffepaaGreat
namespace Go.Proofs.YtidlngnhjffepaaGreat.colV
open Go.RowKit Go.Maps Go.Sort Go.Shelf Go.Proofs
abbrev encPt (p : Nat) : Value := .pointer (some ⟨p, 0, none⟩)
def SeqB {α : Type} (F : Fence) (n : Nat) (P : Program) (g : Nat) (lb : Array Value) (enc : α -> Value) (S : List α -> Prop) (N : Nat) (w : World) : Prop :=
 ∀ (l : Nat) (J : List α -> World -> Prop) (W : World), Below w.heap.size w W →
  (∀ pre x W1, J pre W1 -> pre.length < N -> YieldAt F (n - 1) P l #[enc x] W1 fun e W' => e = .returned (.bool true) /\ J (pre ++ [x]) W' /\ Below w.heap.size W1 W') →
  J [] W -> CallsIn F n P g (#[.func (.yield l) #[] #[]] ++ lb) W fun e W' => (∃ v, e = .returned v) /\ ∃ xs, S xs /\ J xs W'
def Zji : Code := (Code.region 2 #[{ dst := some 5, op := Op.assign (Operand.tmp 7), type := 66, pos := "iter.go:51", after := #[], guard := none }] false)
def Zwq : Code := (Code.block 1 (Code.region 3 #[{ dst := some 8, op := Op.load 60 (Operand.tmp 2), type := 60, pos := "iter.go:52", after := #[], guard := none }, { dst := some 9, op := Op.move (Operand.tmp 5), type := 66, pos := "iter.go:52", after := #[], guard := none }, { dst := some 10, op := Op.buildSlice 60 1 #[(0, Operand.tmp 9)], type := 60, pos := "iter.go:52", after := #[{ on := 1, ground := Ground.data }], guard := none }, { dst := some 11, op := Op.call { callee := Callee.builtin Builtin.append, args := #[Operand.tmp 8, Operand.tmp 10], argTypes := #[60, 60] }, type := 60, pos := "iter.go:52", after := #[{ on := 0, ground := Ground.data }, { on := 2, ground := Ground.data }], guard := none }, { dst := none, op := Op.store 60 (Operand.tmp 2) (Operand.tmp 11), type := 0, pos := "iter.go:52", after := #[{ on := 3, ground := Ground.data }, { on := 3, ground := Ground.chain }, { on := 0, ground := Ground.phase }, { on := 1, ground := Ground.phase }, { on := 2, ground := Ground.phase }, { on := 3, ground := Ground.phase }], guard := none }] false))
def Zhk (fn : FuncId) (sv : Value) (Bs D : Nat) (st : LoopState) (pend : Option Code) : Loop :=
 { state := st, pending := pend, fn, tmps := #[.slice none 0 0, sv, .pointer (some ⟨Bs, 0, none⟩), undef, .slice none 0 0, undef, sv, undef, undef, undef, undef, undef, undef], params := #[7], assign := Zji, body := Zwq, defers := D }
structure ApAt (w0 : World) (fn : FuncId) (sv : Value) (Bs l D : Nat) (ss : List Nat) (W : World) : Prop where
 box : ∃ v, W.heap[Bs]? = some (.cells #[v] 60 (0, 0)) /\ W.ownsRow w0.heap.size 66 1 v ss.length (ss.map encPt) /\ (v = .slice none 0 0 ↔ ss = [])
 L : W.heap[l]? = some (.loop (Zhk fn sv Bs D .ready none))
 K : W.heap[D]? = some (.deferred (some []))
 below : Below w0.heap.size w0 W
theorem Yf (W : World) (l : Nat) (o : Obj) : W.grownBy (W.putObj l o) (some l) :=
 ⟨rfl, rfl, rfl, by simp, fun k _ hk => World.putObj_heap_other (fun e => hk (by rw [e]))⟩
theorem Zfy (W : World) (b : Nat) (v : Value) : W.grownBy (W.setCell ⟨b, 0, none⟩ v) (some b) :=
 ⟨rfl, rfl, rfl, (KeepsWalks.setCell W _ v).size, fun k _ hk => Below.heap_setCell _ _ _ k (fun e => hk (by rw [e]))⟩
theorem ZaK {W : World} {base : Nat} {e : TypeId} {size : Nat} {v : Value} {k : Nat} {xs : List Value} (h : W.ownsRow base e size v k xs) {j : Nat} {o : Obj} (hj : W.heap[j]? = some o) (hno : ∀ cur, o ≠ .cells cur e (0, 0)) :
  v.ownBlock = none \/ v.ownBlock ≠ some j := by
 rcases h.2 with ⟨rfl, _⟩ | ⟨g, cap, cur, rfl, _, hgb, _⟩
 ·exact .inl rfl
 ·refine .inr fun e' => ?_
  have : g = j := by simpa [Value.ownBlock] using e'
  subst this; rw [hgb] at hj; cases hj; exact hno cur rfl
theorem Zdr {W : World} {B : Nat} {v : Value} {t : TypeId} (h : W.heap[B]? = some (.cells #[v] t (0, 0))) : W.cell? ⟨B, 0, none⟩ = some v /\ W.frozen? ⟨B, 0, none⟩ = false := by
 constructor <;> simp [World.cell?, World.frozen?, h]
theorem Zfs {W : World} {B : Nat} {v : Value} {t : TypeId} (v' : Value) (h : W.heap[B]? = some (.cells #[v] t (0, 0))) : (W.setCell ⟨B, 0, none⟩ v').heap[B]? = some (.cells #[v'] t (0, 0)) := by
 obtain ⟨hlt, hk⟩ := Array.getElem?_eq_some_iff.1 h
 show (W.heap.modify B _)[B]? = _
 rw [Array.getElem?_eq_getElem (by rw [Array.size_modify]; exact hlt), Array.getElem_modify_self, hk]
 rfl
theorem Zfz {W : World} {base : Nat} {e : TypeId} {size : Nat} {v : Value} {k : Nat} {xs : List Value} (h : W.ownsRow base e size v k xs) : ∀ (j : Nat) (o : Obj), v.ownBlock = some j -> W.heap[j]? = some o -> o.isWalk = false := by
 intro j o hj ho
 rcases h.2 with ⟨rfl, _⟩ | ⟨g, cap, cur, rfl, _, hgb, _⟩
 ·simp [Value.ownBlock] at hj
 ·have : g = j := by simpa [Value.ownBlock] using hj
  subst this; rw [hgb] at ho; cases ho; rfl
theorem Tryz.info66 : (Tryz.prog.info? 66).map (fun i => (i.zero, i.size, i.bytes)) = some (some (.pointer none), 1, 8) := by kernel_rfl
set_option maxRecDepth 100000 in
set_option maxHeartbeats 2000000 in
theorem ZJa (F : Fence) (m : Nat) (w0 : World) (fn : FuncId) (hfn : F.fn fn) (sv : Value) (Bs l D : Nat) (hBl : Bs ≠ l) (hDl : D ≠ l) (hDB : D ≠ Bs) (h0B : w0.heap.size <= Bs) (h0l : w0.heap.size <= l)
  (N : Nat) (hN : N <= maxLen) (hNb : N * 8 <= 140737488355328) (ss : List Nat) (x : Nat) (W : World) (h : ApAt w0 fn sv Bs l D ss W) (hlen : ss.length < N) :
  YieldAt F m Tryz.prog l #[encPt x] W fun e W' => e = .returned (.bool true) /\ ApAt w0 fn sv Bs l D (ss ++ [x]) W' /\ KeepsWalks W W' := by
 obtain ⟨i0, hi, hz0, hz1, hz2⟩ := info_parts Tryz.info66
 obtain ⟨v, hv, hrow, _⟩ := h.box
 refine ⟨fn, #[.slice none 0 0, sv, .pointer (some ⟨Bs, 0, none⟩), undef, .slice none 0 0, undef, sv, encPt x, undef, undef, undef, undef, undef], Zji, Zwq, by simpa [Zhk] using run_yield (P := Tryz.prog) (args := #[encPt x]) h.L rfl, roundIn_of_wpIn hfn ?_⟩
 have hl : l < W.heap.size := (Array.getElem?_eq_some_iff.1 h.L).1
 have hbr := run_beginRound (P := Tryz.prog) h.L rfl
 obtain ⟨W2, hW2⟩ : ∃ W2, W.putObj l (.loop { Zhk fn sv Bs D .ready none with state := .busy }) = W2 := ⟨_, rfl⟩
 rw [hW2] at hbr
 have hg2 : W.grownBy W2 (some l) := by rw [<- hW2]; exact Yf _ _ _
 have hk2 : KeepsWalks W W2 := by rw [<- hW2]; exact KeepsWalks.putObj _ h.L rfl
 have hv2 : W2.heap[Bs]? = some (.cells #[v] 60 (0, 0)) := by rw [<- hW2]; exact (World.putObj_heap_other hBl).trans hv
 have hK2 : W2.heap[D]? = some (.deferred (some [])) := by rw [<- hW2]; exact (World.putObj_heap_other hDl).trans h.K
 have hL2 : W2.heap[l]? = some (.loop { Zhk fn sv Bs D .ready none with state := .busy }) := by rw [<- hW2]; exact World.putObj_heap_same hl
 have hrow2 : W2.ownsRow w0.heap.size 66 1 v ss.length (ss.map encPt) := hrow.kept hg2 (ZaK hrow h.L (fun cur e => by cases e))
 have hb2 : Below w0.heap.size w0 W2 := h.below.grown hg2 h.below.size (fun k e => by cases e; exact h0l)
 obtain ⟨hc2, hf2⟩ := Zdr hv2
 have hBlt : Bs < W2.heap.size := (Array.getElem?_eq_some_iff.1 hv2).1
 have hl2 : l < W2.heap.size := (Array.getElem?_eq_some_iff.1 hL2).1
 have hDlt : D < W2.heap.size := (Array.getElem?_eq_some_iff.1 hK2).1
 have ne_of : ∀ {j : Nat} {o : Obj}, W2.heap[j]? = some o -> (∀ cur, o ≠ .cells cur 66 (0, 0)) -> some j ≠ v.ownBlock := fun hj hno => by
  rcases ZaK hrow2 hj hno with e | e
  ·rw [e]; simp
  ·exact fun e' => e e'.symm
 clear hW2
 unfold Zji
 gi_wp2_with gi_round_op_a
 unfold Zwq
 gi_wp2_with (first
  | (
   gi_at_builtin; refine wpListIn_append_own _ rfl _ _ 60 rfl w0.heap.size 66 i0 (.pointer none) 1 8 Tryz.underlying60 hi hz0 hz1 hz2 rfl (by decide) _ _ _ rfl (hrow2.alloc _) ⟨W2.heap.size, 0, none⟩ 1 1 [encPt x] rfl rfl (cell_one_new _ _ _) (by simp [Value.oneCell', encPt]) (by omega) (by omega) (by have := hb2.size; simp; omega) ?_; intro v' w3 hown' hg3 hnil3
   have hv3 : w3.heap[Bs]? = some (.cells #[v] 60 (0, 0)) := (hg3.block Bs (by simp; omega) (ne_of hv2 (fun cur e => by cases e))).trans ((Below.heap_alloc _ _ Bs hBlt).trans hv2)
   obtain ⟨hc3, hf3⟩ := Zdr hv3
   obtain ⟨g', cap', cur', rfl, hbase', hgb', hr1, hr2, hr3, hr4⟩ : ∃ g' cap' cur', v' = .slice (some ⟨g', 0, none⟩) (ss.length + 1) cap' /\ w0.heap.size <= g' /\ w3.heap[g']? = some (.cells cur' 66 (0, 0)) /\ ss.length + 1 <= cap' /\ cap' <= maxLen /\ cur'.size = cap' * 1 /\ cur'.toList.take ((ss.length + 1) * 1) = ss.map encPt ++ [encPt x] := by
    rcases hown'.2 with ⟨_, h0⟩ | h'
    ·exact absurd h0 (by omega)
    ·exact h'
   go_frame)
  | gi_round_op_a)
 have hg3' : (W2.alloc (.cells #[encPt x] 66)).grownBy w3 v.ownBlock := hg3
 have hL3 : w3.heap[l]? = some (.loop { Zhk fn sv Bs D .ready none with state := .busy }) := (hg3'.block l (by simp; omega) (ne_of hL2 (fun cur e => by cases e))).trans ((Below.heap_alloc _ _ l hl2).trans hL2)
 have hK3 : w3.heap[D]? = some (.deferred (some [])) := (hg3'.block D (by simp; omega) (ne_of hK2 (fun cur e => by cases e))).trans ((Below.heap_alloc _ _ D hDlt).trans hK2)
 obtain ⟨w4, hw4⟩ : ∃ w4, w3.setCell ⟨Bs, 0, none⟩ (.slice (some ⟨g', 0, none⟩) (ss.length + 1) cap') = w4 := ⟨_, rfl⟩
 rw [hw4]
 have hg4 : w3.grownBy w4 (some Bs) := by rw [<- hw4]; exact Zfy _ _ _
 have hv4 : w4.heap[Bs]? = some (.cells #[.slice (some ⟨g', 0, none⟩) (ss.length + 1) cap'] 60 (0, 0)) := by rw [<- hw4]; exact Zfs _ hv3
 have hL4 : w4.heap[l]? = some (.loop { Zhk fn sv Bs D .ready none with state := .busy }) := (hg4.block l (Array.getElem?_eq_some_iff.1 hL3).1 (fun e => hBl (by cases e; rfl))).trans hL3
 have hK4 : w4.heap[D]? = some (.deferred (some [])) := (hg4.block D (Array.getElem?_eq_some_iff.1 hK3).1 (fun e => hDB (by cases e; rfl))).trans hK3
 have hrow4 := hown'.kept hg4 (ZaK hown' hv3 (fun cur e => by cases e))
 have hl4 : l < w4.heap.size := (Array.getElem?_eq_some_iff.1 hL4).1
 have hb3 : Below w0.heap.size w0 w3 := (hb2.alloc hb2.size _).grown hg3' (by have := hb2.size; simp; omega) (fun k e => (hrow2.lt k e).1)
 have hb4 : Below w0.heap.size w0 w4 := hb3.grown hg4 hb3.size (fun k e => by cases e; exact h0B)
 have hk4 : KeepsWalks W w4 := ((hk2.trans (KeepsWalks.alloc _ _)).trans (KeepsWalks.of_grownBy hg3' (Zfz (hrow2.alloc _)))).trans (by rw [<- hw4]; exact KeepsWalks.setCell _ _ _)
 clear hw4
 refine ⟨_, _, run_endRound none hL4, rfl, ⟨⟨_, (World.putObj_heap_other hBl).trans hv4, ?_, by simp⟩, World.putObj_heap_same hl4, (World.putObj_heap_other hDl).trans hK4, hb4.grown (Yf _ _ _) hb4.size (fun k e => by cases e; exact h0l)⟩, hk4.trans (KeepsWalks.putObj _ hL4 rfl)⟩
 have := hrow4.kept (Yf w4 l (.loop { { Zhk fn sv Bs D .ready none with state := .busy } with state := if (none : Option Code).isNone then .ready else .done, pending := none })) (ZaK hrow4 hL4 (fun cur e => by cases e))
 simpa using this
theorem ZDo {n : Nat} {w0 W W' : World} (h1 : Below n w0 W) (h2 : Below n w0 W') (h3 : W.heap.size <= W'.heap.size) : Below n W W' :=
 ⟨h2.os.trans h1.os.symm, h2.tape.trans h1.tape.symm, h2.output.trans h1.output.symm, h3, fun k hk => (h2.block k hk).trans (h1.block k hk).symm⟩
theorem ZDj (F : Fence) (m : Nat) (w0 : World) (fn : FuncId) (hfn : F.fn fn) (sv : Value) (Bs l D : Nat) (hBl : Bs ≠ l) (hDl : D ≠ l) (hDB : D ≠ Bs) (h0B : w0.heap.size <= Bs) (h0l : w0.heap.size <= l)
  (N : Nat) (hN : N <= maxLen) (hNb : N * 8 <= 140737488355328) (ss : List Nat) (x : Nat) (W : World) (h : ApAt w0 fn sv Bs l D ss W) (hlen : ss.length < N) :
  YieldAt F m Tryz.prog l #[encPt x] W fun e W' => e = .returned (.bool true) /\ ApAt w0 fn sv Bs l D (ss ++ [x]) W' /\ Below w0.heap.size W W' := by
 obtain ⟨f, tm, a, b, hy, hR⟩ := ZJa F m w0 fn hfn sv Bs l D hBl hDl hDB h0B h0l N hN hNb ss x W h hlen
 exact ⟨f, tm, a, b, hy, hR.mono fun e W' ⟨q1, q2, q3⟩ => ⟨q1, q2, ZDo h.below q2.below q3.size⟩⟩
set_option maxRecDepth 100000 in
set_option maxHeartbeats 2000000 in
theorem Zmb (F : Fence) (n : Nat) (h11 : F.fn 80) (hro : F.round = none) (hn : 2 <= n) (g : Nat) (lb : Array Value) (hFg : F.fn g) (eg : ∀ args w, (callFunc g args).run Tryz.prog w = .ok (.enter g args) w)
  (S : List Nat -> Prop) (N : Nat) (hN : N <= maxLen) (hNb : N * 8 <= 140737488355328) (w : World) (hseq : SeqB F (n - 1) Tryz.prog g lb encPt S N w) :
  CallsIn F n Tryz.prog 80 #[.slice none 0 0, .func (.func g) #[] lb] w fun e w' => ∃ (v : Value) (ss : List Nat), e = .returned v /\ S ss /\ w'.ownsRow w.heap.size 66 1 v ss.length (ss.map encPt) /\ (v = .slice none 0 0 ↔ ss = []) /\ Below w.heap.size w w' := by
 have h1 : 1 <= n := by omega
 refine callsIn_of_wp_marks Tryz.func80 rfl h11 ?_ hro
 simp only [Tryz.ntmps80, List.size_toArray, ZQb, List.length_nil, Nat.reduceAdd, Nat.reduceSub, Array.replicate_succ, Array.replicate_zero, List.push_toArray, List.append_toArray, List.nil_append, List.cons_append]
 gi_wp2
 refine wpIn_rangeFunc ?_
 intro fn hfn
 rw [hro]
 obtain ⟨W0, hW0⟩ : ∃ W0, w.alloc (.cells #[.slice none 0 0] 60) = W0 := ⟨_, rfl⟩
 have hs0 : W0.heap.size = w.heap.size + 1 := by rw [<- hW0]; simp
 have hv0 : W0.heap[w.heap.size]? = some (.cells #[.slice none 0 0] 60 (0, 0)) := by rw [<- hW0]; exact World.alloc_heap_new w _
 have hb0 : Below w.heap.size w W0 := by rw [<- hW0]; exact (Below.refl _ w).alloc (ZPH _) _
 rw [hW0]
 obtain ⟨W1, hW1⟩ : ∃ W1, (W0.alloc (.deferred (some []))).alloc (.loop (Zhk fn (.func (.func g) #[] lb) w.heap.size W0.heap.size .ready none)) = W1 := ⟨_, rfl⟩
 have hold : ∀ k, k < W0.heap.size -> W1.heap[k]? = W0.heap[k]? := fun k hk => by
  rw [<- hW1]; exact (Below.heap_alloc _ _ k (by simp; omega)).trans (Below.heap_alloc _ _ k hk)
 have hb1 : Below w.heap.size w W1 := by rw [<- hW1]; exact (hb0.alloc hb0.size _).alloc (by have := hb0.size; simp; omega) _
 have hs1 : W1.heap.size = W0.heap.size + 2 := by rw [<- hW1]; simp
 have hM : ApAt w fn (.func (.func g) #[] lb) w.heap.size (W0.heap.size + 1) W0.heap.size [] W1 :=
  ⟨⟨_, (hold w.heap.size (by omega)).trans hv0, ⟨rfl, .inl ⟨rfl, rfl⟩⟩, by simp⟩,
   by rw [<- hW1]; have := World.alloc_heap_new (W0.alloc (.deferred (some []))) (.loop (Zhk fn (.func (.func g) #[] lb) w.heap.size W0.heap.size .ready none)); rwa [World.size_alloc] at this,
   by rw [<- hW1]; exact (Below.heap_alloc _ _ _ (by simp)).trans (World.alloc_heap_new W0 _), hb1⟩
 refine ⟨W0.heap.size + 1, [{ target := .collected W0.heap.size, args := #[] }], W1, { target := .fn (.func g) lb, args := #[.func (.yield (W0.heap.size + 1)) #[] #[]] }, W1, g,
  #[.func (.yield (W0.heap.size + 1)) #[] #[]] ++ lb, W1, ?_, ?_, ?_, ?_, fun _ => h1, ?_⟩
 ·rw [<- hW1]; exact run_enterLoop_outer _ _ _ _ _
 ·simp [resolve, go_sem]
 ·intro f' hf'; simp [Target.leads] at hf'; subst hf'; exact hFg
 ·simp [invoke, go_sem, eg]
 ·refine (hseq (W0.heap.size + 1) (ApAt w fn (.func (.func g) #[] lb) w.heap.size (W0.heap.size + 1) W0.heap.size) W1 hb1
   (fun pre x W hJ hl => ZDj F (n - 1 - 1) w fn hfn _ w.heap.size (W0.heap.size + 1) W0.heap.size (by omega) (by omega) (by omega) (ZPH _) (by omega) N hN hNb pre x W hJ hl) hM).mono ?_
  rintro e W2 ⟨⟨v0, rfl⟩, ss, hS, h2⟩
  obtain ⟨v, hv, hrow, hnil⟩ := h2.box
  have hend := run_endLoop (P := Tryz.prog) h2.L (by simp [Zhk])
  obtain ⟨W3, hW3⟩ : ∃ W3, W2.putObj (W0.heap.size + 1) (.loop { Zhk fn (.func (.func g) #[] lb) w.heap.size W0.heap.size .ready none with state := .exhausted }) = W3 := ⟨_, rfl⟩
  rw [hW3] at hend
  have hg3 : W2.grownBy W3 (some (W0.heap.size + 1)) := by rw [<- hW3]; exact Yf _ _ _
  have hv3 : W3.heap[w.heap.size]? = some (.cells #[v] 60 (0, 0)) := by rw [<- hW3]; exact (World.putObj_heap_other (by omega)).trans hv
  have hK3 : W3.heap[W0.heap.size]? = some (.deferred (some [])) := by rw [<- hW3]; exact (World.putObj_heap_other (by omega)).trans h2.K
  have hrow3 := hrow.kept hg3 (ZaK hrow h2.L (fun cur e => by cases e))
  have hb3 : Below w.heap.size w W3 := h2.below.grown hg3 h2.below.size (fun k e => by cases e; omega)
  obtain ⟨hc3, hf3⟩ := Zdr hv3
  clear hW3
  refine ⟨none, W3, hend, ?_⟩
  gi_wp2
  rw [<- hs0]
  refine ⟨by simp, .inl ⟨_, _, rfl, run_takeDeferred hK3, ?_⟩⟩
  exact ⟨_, results_tmp rfl _ _ _, v, ss, rfl, hS, hrow3.kept (Yf _ _ _) (ZaK hrow3 hK3 (fun cur e => by cases e)), hnil, hb3.grown (Yf _ _ _) hb3.size (fun k e => by cases e; omega)⟩
set_option maxHeartbeats 1000000 in
theorem Zsn (F : Fence) (n : Nat) (h8 : F.fn 64) (h11 : F.fn 80) (hro : F.round = none) (hn : 3 <= n) (g : Nat) (lb : Array Value) (hFg : F.fn g) (eg : ∀ args w, (callFunc g args).run Tryz.prog w = .ok (.enter g args) w)
  (S : List Nat -> Prop) (N : Nat) (hN : N <= maxLen) (hNb : N * 8 <= 140737488355328) (w : World) (hseq : SeqB F (n - 1 - 1) Tryz.prog g lb encPt S N w) :
  CallsIn F n Tryz.prog 64 #[.func (.func g) #[] lb] w fun e w' => ∃ (v : Value) (ss : List Nat), e = .returned v /\ S ss /\ w'.ownsRow w.heap.size 66 1 v ss.length (ss.map encPt) /\ (v = .slice none 0 0 ↔ ss = []) /\ Below w.heap.size w w' := by
 have h1 : 1 <= n := by omega
 refine callsIn_of_wp Tryz.func64 rfl h8 ?_ hro
 simp only [Tryz.ntmps64, List.size_toArray, ZQb, List.length_nil, Nat.reduceAdd, Nat.reduceSub, Array.replicate_succ, Array.replicate_zero, List.push_toArray, List.append_toArray, List.nil_append, List.cons_append]
 gi_wp2_with (gi_at_call 80; refine (Zmb F (n - 1) h11 hro (by omega) g lb hFg eg S N hN hNb _ hseq).mono ?_; rintro e w' ⟨v, ss, rfl, hS, hrow, hnil, hb⟩)
 go_ret
 exact ⟨v, ss, rfl, hS, hrow, hnil, hb⟩
set_option maxHeartbeats 1000000 in
attribute [local go_sem] Oper.semAt_some
set_option maxRecDepth 100000 in
set_option maxHeartbeats 2000000 in
theorem Ztp (n : Nat) (hn : 1 <= n) (l Bs n₀ : Nat) (a : Option Addr) (len cap : Nat) (zs : List Nat) (hreach : len * 8 <= 140737488351232) (J : List Nat -> World -> Prop)
  (hY : ∀ pre x W, J pre W -> pre.length < len -> YieldAt Fence.wide (n - 1) Tryz.prog l #[encPt x] W fun e W' => e = .returned (.bool true) /\ J (pre ++ [x]) W' /\ Below n₀ W W')
  (W : World) (hBs : W.cell? ⟨Bs, 0, none⟩ = some (.slice a len cap)) (hl : len = zs.length) (hc : ∀ j (hj : j < zs.length), ∃ b, a = some ⟨b, 0, none⟩ /\ b < n₀ /\ W.cell? ⟨b, 0 + j, none⟩ = some (encPt zs[j])) (h0 : J [] W) :
  CallsIn Fence.wide n Tryz.prog 66 #[.func (.yield l) #[] #[], .pointer (some ⟨Bs, 0, none⟩)] W fun e W' => (∃ v, e = .returned v) /\ J zs W' := by
 refine callsIn_of_wp Tryz.func66 rfl trivial ?_ rfl
 simp only [Tryz.ntmps66, List.size_toArray, ZQb, List.length_nil, Nat.reduceAdd, Nat.reduceSub, Array.replicate_succ, Array.replicate_zero, List.push_toArray, List.append_toArray, List.nil_append, List.cons_append]
 gi_wp2
 gi_loopw [7] (fun i wr => ∃ k : Nat, k <= len /\ i = .int .i64 k /\ J (zs.take k) wr /\ Below n₀ W wr)
  (fun i _ => len - (intOf i).toNat)
 case atStart => exact ⟨0, Nat.zero_le _, rfl, h0, Below.refl _ _⟩
 case round =>
  obtain ⟨k, hk, rfl, hJs, hnx⟩ := hrel
  by_cases hlt : k < len
  ·have hkz : k < zs.length := by omega
   obtain ⟨b, rfl, hb, hcell⟩ := hc k hkz
   have hcx' : wr.cell? ⟨b, 0 + k, none⟩ = some (encPt zs[k]) := (hnx.cell (p := ⟨b, 0 + k, none⟩) hb).trans hcell
   obtain ⟨fn, tmps, assign, body, hy, hR⟩ := hY _ zs[k] wr hJs (by rw [ZPT]; omega)
   rw [Nat.zero_add] at hcx'
   gi_wp2
   refine hR.mono ?_
   rintro e W3 ⟨rfl, hJ3, hk3⟩
   gi_wp2
   go_roundw
   case rel => exact ⟨k + 1, by omega, by simp, by rw [List.take_succ_eq_append_getElem hkz]; exact hJ3, hnx.trans hk3⟩
   case measure => simp [intOf]; omega
  ·obtain rfl : k = len := by omega
   gi_wp2
   go_end0
   rw [hl, List.take_length] at hJs
   exact ⟨⟨_, rfl⟩, hJs⟩
theorem collected (Bs : Nat) (a : Option Addr) (cap : Nat) (zs : List Nat) (hreach : zs.length * 8 <= 140737488351232) (w : World) (hB : Bs < w.heap.size) (hBs : w.cell? ⟨Bs, 0, none⟩ = some (.slice a zs.length cap))
  (hc : ∀ j (hj : j < zs.length), ∃ b, a = some ⟨b, 0, none⟩ /\ b < w.heap.size /\ w.cell? ⟨b, 0 + j, none⟩ = some (encPt zs[j])) :
  Calls Tryz.prog 64 #[.func (.func 66) #[] #[.pointer (some ⟨Bs, 0, none⟩)]] w fun e w' => ∃ (v : Value), e = .returned v /\ w'.ownsRow w.heap.size 66 1 v zs.length (zs.map encPt) /\ (v = .slice none 0 0 ↔ zs = []) /\ Below w.heap.size w w' := by
 refine (callsIn_wide (n := 5)).1 ?_
 have hs : SeqB Fence.wide 3 Tryz.prog 66 #[.pointer (some ⟨Bs, 0, none⟩)] encPt (fun ss => ss = zs) zs.length w := fun l J W hW hY h0 =>
  (Ztp 3 (by omega) l Bs w.heap.size a zs.length cap zs hreach J hY W ((hW.cell (p := ⟨Bs, 0, none⟩) hB).trans hBs) rfl (fun j hj => by
   obtain ⟨b, h1, h2, h3⟩ := hc j hj; exact ⟨b, h1, h2, (hW.cell (p := ⟨b, 0 + j, none⟩) h2).trans h3⟩) h0).mono fun e W' ⟨q1, q2⟩ => ⟨q1, zs, rfl, q2⟩
 have hm : zs.length <= maxLen := by
  have : maxLen = 9223372036854775807 := by decide
  omega
 have h := Zsn Fence.wide 5 trivial trivial rfl (by omega) 66 #[.pointer (some ⟨Bs, 0, none⟩)] trivial (enters_of Tryz.func66 (by kernel_rfl) rfl) (fun ss => ss = zs) zs.length hm (by omega) w hs
 refine h.mono ?_
 rintro e w' ⟨v, ss, rfl, rfl, h1, h2, h3⟩
 exact ⟨v, rfl, h1, h2, h3⟩
end Go.Proofs.YtidlngnhjffepaaGreat.colV
namespace Go.Proofs.YtidlngnhjffepaaGreat
open Go.Shelf Go.RowKit Go.Maps Go.Proofs
set_option maxRecDepth 100000 in
set_option maxHeartbeats 2000000 in
theorem Ztv (b : Nat) (es : Array MapEntry) (clock : Nat) (w : World) (hb : w.heap[b]? = some (.map es clock)) :
  Calls Tryz.prog 69 #[.map (some b)] w fun e w' => e = .returned (.map (some w.heap.size)) /\ w' = w.alloc (.map es clock) := by
 have hq := fun w => run_eql_map_nil_sl (P := Tryz.prog) w 65 _ _ (some b) Tryz.underlying65
 go_enter Tryz.func69, Tryz.ntmps69
 go_wp2
 rw [run_callFunc_extern Tryz.func84 (by kernel_rfl) (by kernel_rfl) (by kernel_rfl) (e := Extern.MapsClone.clone) (by kernel_rfl), run_maps_clone_sl w 65 hb]
 simp only [Result.andThen]
 rw [Oper.upon_value]
 go_wp2
 rw [run_typeAssert_map_sl _ 65 _ _ _ _ Tryz.underlying65]
 simp only [Result.andThen]
 rw [Oper.upon_value]
 go_wp2
 go_ret
 exact ⟨rfl, rfl⟩
end Go.Proofs.YtidlngnhjffepaaGreat
namespace Go.Proofs.YtidlngnhjffepaaGreat
noncomputable section
open Go.Eng
open Go.RowKit (Below)
theorem ZBJ {w0 w w' : World} {H : HProp} (h : Sat w0 H w) (hb : Below w.heap.size w w') : Sat w0 H w' := by
 obtain ⟨x, hx, hi⟩ := h
 have h0 := hi.below.size
 refine ⟨x, hx, fun b o v z e => ?_, fun b o y e => ?_, hi.below.trans (hb.mono h0)⟩
 ·have hlt := hi.lt e
  have q := hi.cell _ _ _ _ e
  have hk := hb.block b hlt
  refine ⟨q.1, ?_, ?_, fun hz => ?_⟩
  ·have := q.2.1; unfold World.cell? at this ⊢; rw [hk]; exact this
  ·have := q.2.2.1; unfold World.frozen? at this ⊢; rw [hk]; exact this
  ·rw [hk]; exact q.2.2.2 hz
 ·have hlt := hi.lt e
  have q := hi.obj _ _ _ e
  exact ⟨q.1, q.2.1, by rw [hb.block b hlt]; exact q.2.2.1, q.2.2.2⟩
theorem ZDU {w0 w w' : World} {H : HProp} (h : Sat w0 H w) (hb : Below w.heap.size w w') {g : Nat} (hg : w.heap.size <= g) {cur : Array Value} {t : TypeId} (hc : w'.heap[g]? = some (.cells cur t (0, 0))) : Sat w0 (Zd (row g 0 cur.toList true) H) w' := by
 have h2 := ZBJ h hb
 obtain ⟨x, hx, hi⟩ := h
 obtain ⟨hn, hcell⟩ : (∀ j, x g j = none) /\ True := by
  refine ⟨fun j => ?_, trivial⟩
  cases e : x g j with
  | none => rfl
  | some r => exact absurd (hi.lt e) (by omega)
 have hi2 : In w0 x w' := by
  have h0 := hi.below.size
  refine ⟨fun b o v z e => ?_, fun b o y e => ?_, hi.below.trans (hb.mono h0)⟩
  ·have hlt := hi.lt e
   have q := hi.cell _ _ _ _ e
   have hk := hb.block b hlt
   refine ⟨q.1, ?_, ?_, fun hz => ?_⟩
   ·have := q.2.1; unfold World.cell? at this ⊢; rw [hk]; exact this
   ·have := q.2.2.1; unfold World.frozen? at this ⊢; rw [hk]; exact this
   ·rw [hk]; exact q.2.2.2 hz
  ·have hlt := hi.lt e
   have q := hi.obj _ _ _ e
   exact ⟨q.1, q.2.1, by rw [hb.block b hlt]; exact q.2.2.1, q.2.2.2⟩
 have h0 := hi.below.size
 refine ⟨Hl.un (Zbr g 0 cur.toList true) x, ⟨_, x, ?_, rfl, rfl, hx⟩, fun b o v z e => ?_, fun b o y e => ?_, hi2.below⟩
 ·intro i j
  by_cases hig : i = g
  ·right; rw [hig]; exact hn j
  ·left; unfold Zbr; rw [if_neg (fun q => hig q.1)]
 ·unfold Hl.un at e
  cases hr : Zbr g 0 cur.toList true b o with
  | none => rw [hr] at e; exact hi2.cell _ _ _ _ e
  | some r =>
   rw [hr] at e
   injection e with e
   subst e
   unfold Zbr at hr
   by_cases hbg : b = g /\ 0 <= o
   ·rw [if_pos hbg] at hr
    obtain ⟨rfl, _⟩ := hbg
    rw [Nat.sub_zero] at hr
    cases hq : cur.toList[o]? with
    | none => rw [hq] at hr; cases hr
    | some u =>
     rw [hq] at hr
     injection hr with hr
     injection hr with e1 e2
     subst e1
     refine ⟨by omega, ?_, ?_, fun _ => ⟨_, _, hc⟩⟩
     ·unfold World.cell?; simp only [hc]
      rw [ZPG] at hq
      exact hq
     ·unfold World.frozen?; simp [hc]
   ·rw [if_neg hbg] at hr; cases hr
 ·unfold Hl.un at e
  cases hr : Zbr g 0 cur.toList true b o with
  | none => rw [hr] at e; exact hi2.obj _ _ _ e
  | some r =>
   rw [hr] at e
   injection e with e
   subst e
   unfold Zbr at hr
   split at hr
   ·cases hq : cur.toList[o - 0]? with
    | none => rw [hq] at hr; cases hr
    | some u => rw [hq] at hr; injection hr with hr; cases hr
   ·cases hr
def ZdF : Ctr := ⟨[.int, .int, .rows, .int, .int], [.one (.cap (.fn 66) (.ptr (ai 0) 0))], [.cel (ai 0) 0 [slC (ai 1) (Zh (rA 2)) (ai 3) 1], pAr (ai 1) (rA 2) (ai 4)],
 [usB 620 (rA 2) z0 z0, eLe (Zh (rA 2)) (.int 1000000)], [.int, .int], .one (slC (ai 5) (Zh (rA 2)) (ai 6) 1), [.cel (ai 0) 0 [slC (ai 1) (Zh (rA 2)) (ai 3) 1], pAr (ai 1) (rA 2) (ai 4), pAr (ai 5) (rA 2) (ai 6)],
 [eLe (Zh (rA 2)) (ai 6), .f2 50 (eLe z0 (ai 5)) (.f2 45 (Zh (rA 2)) z0)]⟩
def Zs4 (ρ : Go.Eng.Env GG) (a c : Int) : Go.Eng.Env GG := (ρ.upd 5 (.int a)).upd 6 (.int c)
theorem Zb4 (ρ : Go.Eng.Env GG) (a c : Int) : Ext 5 ρ (Zs4 ρ a c) := fun i hi => by
 unfold Zs4 Go.Eng.Env.upd; rw [if_neg (by omega), if_neg (by omega)]
theorem ZN1 (ρ : Go.Eng.Env GG) (a c : Int) : Zs4 ρ a c 0 = ρ 0 := Zb4 ρ a c 0 (by decide)
theorem ZNo (ρ : Go.Eng.Env GG) (a c : Int) : Zs4 ρ a c 1 = ρ 1 := Zb4 ρ a c 1 (by decide)
theorem ZlG (ρ : Go.Eng.Env GG) (a c : Int) : Zs4 ρ a c 2 = ρ 2 := Zb4 ρ a c 2 (by decide)
theorem ZNf (ρ : Go.Eng.Env GG) (a c : Int) : Zs4 ρ a c 3 = ρ 3 := Zb4 ρ a c 3 (by decide)
theorem ZOO (ρ : Go.Eng.Env GG) (a c : Int) : Zs4 ρ a c 4 = ρ 4 := Zb4 ρ a c 4 (by decide)
theorem ZpW (ρ : Go.Eng.Env GG) (a c : Int) : Zs4 ρ a c 5 = .int a := rfl
theorem ZqQ (ρ : Go.Eng.Env GG) (a c : Int) : Zs4 ρ a c 6 = .int c := rfl
theorem ZrV {R : List (List Int)} (h : ∀ r ∈ R, 0 <= g0 r) : pE.vals (U.rows R : U GG) = (R.map fun r => (g0 r).toNat).map colV.encPt := by
 show R.flatMap (rowVals [.ptr]) = _
 induction R with
 | nil => rfl
 | cons r R ih =>
  rw [List.flatMap_cons, ZP0, ZP0, ih (fun q hq => h q (ZPX _ hq))]
  have h0 := h r ZPZ
  have : rowVals [.ptr] r = [colV.encPt (g0 r).toNat] := by
   show [if r.getD 0 0 < 0 then Value.pointer none else _] = _
   rw [if_neg (by unfold g0 at h0; omega)]; rfl
  rw [this]; rfl
theorem ZPi (S : Sig GG) (h620 : ∀ a b c d, S.usr 620 a b c d = .bool (Zn (∀ r ∈ a.tR, 0 <= g0 r))) : ZA S Tryz.prog 64 ZdF := by
 intro ch w0 F ρ w xs hx hq hsat
 obtain ⟨v, rfl, hv⟩ : ∃ v, xs = [v] /\ SV.R S ρ (.one (.cap (.fn 66) (.ptr (ai 0) 0))) v := by
  match xs, hx with
  | [v], hx => exact ⟨v, rfl, hx.1⟩
 have hv := R_one S ρ hv
 have q1 := hq (usB 620 (rA 2) z0 z0) (by simp [ZdF])
 have q2 := hq (eLe (Zh (rA 2)) (.int 1000000)) (by simp [ZdF])
 rw [Ze] at q2
 simp only [ZdF, Zq, star_assoc, Ch.den, pAr] at hsat
 rw [SX.den_wc, SX.den_wc, SX.den_wc, SX.den_wc] at hsat
 simp only [usB, SX.den, h620, YQ, Zp, Zw, U.tPi, U.tQi, Zj, U.tRi, U.tIi, ai, rA, Zh, Yd] at q1 q2 hsat
 generalize hR : (ρ 2).tR = R at *
 obtain ⟨g1, hsat⟩ := Zs hsat
 have hb0 : 0 <= (ρ 0).tI := g1.resolve_right (by simp)
 have hrow0 := hsat
 have hld := (hrow0.load (i := 0) (by simp)).1
 have hlt := hrow0.row_lt (by simp)
 have hbox : SC.den (S.wc ch) ρ (slC (.at .int 1) (.f1 32 (.at .rows 2)) (.at .int 3) 1) = slV (ρ 1).tI R.length (ρ 3).tI := by
  rw [ZcQ]; simp only [SX.den, Zp, Zw, Yd, U.tIi, U.tRi, hR]
 simp only [ZP0, List.map_nil, List.getElem_cons_zero] at hld
 rw [hbox] at hld
 have hsat2 := hsat
 rw [Zo] at hsat2
 obtain ⟨spare, hsat2⟩ := Yy hsat2
 obtain ⟨e1, hsat2⟩ := Zs hsat2
 obtain ⟨e2, hsat2⟩ := Zs hsat2
 obtain ⟨e3, hsat2⟩ := Zs hsat2
 rw [ZrV q1] at e1 hsat2
 simp only [U.tIi] at e1 e2 e3 hsat2
 subst hv
 have hvd : SC.den S ρ (.cap (.fn 66) (.ptr (ai 0) 0)) = .func (.func 66) #[] #[.pointer (some ⟨(ρ 0).tI.toNat, 0, none⟩)] := by
  simp only [SC.den, SX.den, ai, Zp, U.tIi]
  rw [if_neg (by omega)]; rfl
 rw [hvd]
 have hzl : (R.map fun r => (g0 r).toNat).length = R.length := ZP1 ..
 have hcall := colV.collected (ρ 0).tI.toNat (if (ρ 1).tI < 0 then none else some ⟨(ρ 1).tI.toNat, 0, none⟩) (ρ 3).tI.toNat (R.map fun r => (g0 r).toNat) (by rw [hzl]; omega) w hlt.2
  (by rw [hzl]; unfold slV at hld; simpa using hld) (fun j hj => by
   have hb1 : 0 <= (ρ 1).tI := by
    rcases e3 with h | h
    ·exact h
    ·exfalso; rw [h] at e1; simp at e1 hj; have := e1.1; rw [this] at hj; simp at hj
   have hj2 : j < (((R.map fun r => (g0 r).toNat).map colV.encPt) ++ spare).length := by rw [ZPW, ZP1]; omega
   have hl := hsat2.load hj2
   have hlt2 := hsat2.row_lt (by intro e; rw [e] at hj2; simp at hj2)
   refine ⟨(ρ 1).tI.toNat, by rw [if_neg (by omega)], hlt2.2, ?_⟩
   rw [hl.1, List.getElem_append_left (by rw [ZP1]; exact hj), List.getElem_map])
 refine hcall.mono ?_
 rintro e w' ⟨v, rfl, ⟨hl, hor⟩, hnil, hbel⟩
 have fin : ∀ (a c : Int), Sat w0 (Zd (ZK S pE (.int a) (.rows R) (.int c)) (Zd (fun h => (0 <= (ρ 0).tI \/ ([slC (.at .int 1) (.f1 32 (.at .rows 2)) (.at .int 3) 1] : List SC) = []) /\ row (ρ 0).tI.toNat 0 (List.map (SC.den (S.wc ch) ρ) [slC (.at .int 1) (.f1 32 (.at .rows 2)) (.at .int 3) 1]) true h) (Zd (ZK S pE (.int (ρ 1).tI) (.rows R) (.int (ρ 4).tI)) (Zd (hpDen (S.wc ch) ρ w0 []) F)))) w' →
   Sat w0 (Zd (hpDen (S.wc ch) (Zs4 ρ a c) w0 ZdF.post) F) w' := by
  intro a c h
  simp only [ZdF, Zq, star_assoc, Ch.den, pAr]
  repeat rw [SX.den_wc]
  simp only [ZP0, List.map_nil, SX.den, SX.den_wc, ZcQ, ai, rA, Zh, Yd, Zp, Zw, U.tIi, U.tRi, ZN1, ZNo, ZlG, ZNf, ZOO, ZpW, ZqQ, hR] at h ⊢
  rw [Zo (ZK _ _ _ _ _), Zo (ZK _ _ (.int a) _ _)] at h
  exact h
 have fc : ∀ (a c : Int), (R.length : Int) <= c -> (0 <= a \/ R.length = 0) -> ∀ x ∈ ZdF.facts, (x.den S (Zs4 ρ a c)).tP := by
  intro a c h1 h2 x hx
  simp only [ZdF, List.mem_cons, List.not_mem_nil, or_false] at hx
  rcases hx with rfl | rfl
  ·rw [Ze]
   simp only [SX.den, rA, ai, Zh, Zp, Zw, ZlG, ZqQ, Yd, U.tIi, U.tRi, hR]; exact h1
  ·simp only [eLe, SX.mk2, SX.den, rA, ai, Zh, z0, Zp, Zw, ZlG, ZpW, Yd, p50, p45, p47, U.tIi, U.tRi, hR]
   rcases h2 with h2 | h2
   ·exact .inl (by simp [ap2, h2])
   ·exact .inr (by simp [ap2, h2])
 rcases hor with ⟨rfl, hz⟩ | ⟨gb, cap, cur, rfl, hgb, hcur, hnc, hcm, hcs, htk⟩
 ·have hR0 : R = [] := by
   have : R.length = 0 := by rw [<- hzl]; exact hz
   exact ZP6 this
  subst hR0
  refine ⟨Zs4 ρ (-1) 0, _, Zb4 ρ _ _, rfl, .inr ?_, fin _ _ ?_, fc _ _ (ZP2 _) (.inr rfl)⟩
  ·show _ = SC.den S _ (slC (ai 5) (Zh (rA 2)) (ai 6) 1)
   rw [ZcQ]
   simp only [SX.den, ai, rA, Zh, Zp, Zw, ZlG, ZpW, ZqQ, Yd, U.tIi, U.tRi, hR]; rfl
  ·have h2 := ZBJ hsat hbel
   refine YI [] (Zv rfl (Zv (ZP2 _) (Zv (.inr rfl) ?_)))
   rw [show (En.vals pE (U.rows [] : U GG) ++ []) = [] from rfl, Zcj, emp_star]
   have h3 : Sat w0 (Zd (row (ρ 0).tI.toNat 0 (List.map (SC.den (S.wc ch) ρ) [slC (SX.at Srt.int 1) (SX.f1 32 (SX.at Srt.rows 2)) (SX.at Srt.int 3) 1]) true) (Zd (ZK S pE (.int (ρ 1).tI) (.rows []) (.int (ρ 4).tI)) (Zd (hpDen (S.wc ch) ρ w0 []) F))) w' := h2
   exact Zv g1 h3
 ·refine ⟨Zs4 ρ gb cap, _, Zb4 ρ _ _, rfl, .inr ?_, fin _ _ ?_, fc _ _ (by omega) (.inl (by omega))⟩
  ·show _ = SC.den S _ (slC (ai 5) (Zh (rA 2)) (ai 6) 1)
   rw [ZcQ]
   simp only [SX.den, ai, rA, Zh, Zp, Zw, ZlG, ZpW, ZqQ, Yd, U.tIi, U.tRi, hR]
   unfold slV
   rw [if_neg (by omega), hzl]; simp
  ·have h2 := ZDU hsat hbel hgb hcur
   have hvs : cur.toList = En.vals pE (U.rows R : U GG) ++ cur.toList.drop (R.length * 1) := by
    rw [ZrV q1, <- htk, hzl, List.take_append_drop]
   refine YI (cur.toList.drop (R.length * 1)) (Zv ?_ (Zv (show 0 <= ((cap : Nat) : Int) by omega) (Zv (.inl (show 0 <= ((gb : Nat) : Int) by omega)) ?_)))
   ·rw [<- ZPW, <- hvs]
    show cur.toList.length = cap * 1
    rw [Array.length_toList]; exact hcs
   ·rw [<- hvs]
    have h3 : Sat w0 (Zd (row gb 0 cur.toList true) (Zd (row (ρ 0).tI.toNat 0 (List.map (SC.den (S.wc ch) ρ) [slC (SX.at Srt.int 1) (SX.f1 32 (SX.at Srt.rows 2)) (SX.at Srt.int 3) 1]) true) (Zd (ZK S pE (.int (ρ 1).tI) (.rows R) (.int (ρ 4).tI)) (Zd (hpDen (S.wc ch) ρ w0 []) F)))) w' := h2
    rw [Zo] at h3 ⊢
    exact Zv g1 h3
def Zl6 : Ctr := ⟨[.int, .amap], [.one (.map (ai 0))], [scC (ai 0) (mA 1)], [], [.int], .one (.map (ai 2)), [scC (ai 0) (mA 1), scC (ai 2) (mA 1)], [eLe z0 (ai 2)]⟩
theorem ZOS {G : Type} (S : Sig G) : ZA S Tryz.prog 69 Zl6 := by
 intro ch w0 F ρ w xs hx hq hsat
 obtain ⟨v, rfl, hv⟩ : ∃ v, xs = [v] /\ SV.R S ρ (.one (.map (ai 0))) v := by
  match xs, hx with
  | [v], hx => exact ⟨v, rfl, hx.1⟩
 have hv := R_one S ρ hv
 simp only [Zl6, Zq, star_assoc, Ch.den, scC] at hsat
 repeat rw [SX.den_wc] at hsat
 simp only [SX.den, ai, mA, Zp, Ze6, U.tIi, U.tMi] at hsat
 obtain ⟨g1, hsat⟩ := Zs hsat
 obtain ⟨es, hsat⟩ := Yy hsat
 obtain ⟨clock, hsat⟩ := Yy hsat
 obtain ⟨g2, hsat⟩ := Zs hsat
 obtain ⟨_, hlt, hobj, _⟩ := hsat.obj
 subst hv
 have hvd : SC.den S ρ (.map (ai 0)) = .map (some (ρ 0).tI.toNat) := by
  simp only [SC.den, SX.den, ai, Zp, U.tIi]
  rw [if_neg (by omega)]
 rw [hvd]
 refine (Ztv (ρ 0).tI.toNat es clock w hobj).mono ?_
 rintro e w' ⟨rfl, rfl⟩
 refine ⟨ρ.upd 2 (.int (w.heap.size : Nat)), _, Ext.upd _ _, rfl, .inr ?_, ?_, ?_⟩
 ·show Value.map (some w.heap.size) = Value.map (if (((w.heap.size : Nat) : Int) < 0) then none else some (((w.heap.size : Nat) : Int).toNat))
  rw [if_neg (by omega), ZPY]
 ·have h2 := Sat.newObj hsat (.map es clock) rfl
  simp only [Zl6, Zq, star_assoc, Ch.den, scC]
  repeat rw [SX.den_wc]
  simp only [SX.den, ai, mA, Env.upd, if_true, Nat.reduceEqDiff, reduceIte, Zp, Ze6, U.tIi, U.tMi]
  refine Zv g1 (YI es (YI clock (Zv g2 ?_)))
  rw [Zo]
  refine Zv (by omega) (YI es (YI clock (Zv g2 ?_)))
  rw [ZPY]
  exact h2
 ·intro x hx
  simp only [Zl6, List.mem_cons, List.not_mem_nil, or_false] at hx
  subst hx
  rw [Ze]
  simp only [SX.den, ai, z0, Env.upd, if_true, Zp, U.tIi]; omega
end
end Go.Proofs.YtidlngnhjffepaaGreat
namespace Go.Proofs.YtidlngnhjffepaaGreat
noncomputable section
open Go.Eng
/-! ### Plain words -/
def ZCz (RT : List (List Int)) (L : List Tx) (r : List Int) : Int := (atT L (Zc2 (g0 r) RT : Nat)).who
def leW (RT : List (List Int)) (L : List Tx) (r s : List Int) : Prop := ZCz RT L r <= ZCz RT L s
def ZFI (RT : List (List Int)) (L : List Tx) (P : List (List Int)) : Prop := P.Pairwise (leW RT L)
def ndP (P : List (List Int)) : Prop := (P.map g0).Nodup
def ZKK (k P RT : List (List Int)) (L : List Tx) : Prop := (k.drop 1).Perm P /\ ZFI RT L ((k.drop 1).take (g0 (k.getD 0 [])).toNat)
def ZKX (k P RT : List (List Int)) (L : List Tx) : Prop := (k.drop 1).Perm P /\ ∃ A B C x, k.drop 1 = A ++ x :: B ++ C /\ (A.length : Int) = g1 (k.getD 0 []) /\ ((A.length : Int) + B.length) = g0 (k.getD 0 []) /\ ZFI RT L (A ++ B) /\ ∀ b ∈ B, leW RT L x b
structure OdSig (S : Sig GG) : Prop where
 fi : FiSig S
 u620 : ∀ a b c d, S.usr 620 a b c d = .bool (Zn (∀ r ∈ a.tR, 0 <= g0 r))
 u621 : ∀ a b c d, S.usr 621 a b c d = .bool (Zn (ndP a.tR))
 u622 : ∀ a b c d, S.usr 622 a b c d = .bool (Zn (a.tR.Perm b.tR /\ ZFI c.tR (ZO d) a.tR))
 u623 : ∀ a b c d, S.usr 623 a b c d = .bool (Zn (ZKK a.tR b.tR c.tR (ZO d)))
 u624 : ∀ a b c d, S.usr 624 a b c d = .bool (Zn (ZKX a.tR b.tR c.tR (ZO d)))
def ZFO : Ctr := ⟨[.int, .int, .rows, .g], [.one (.ptr (ai 0) 0), .one (.ptr (ai 1) 0)], [txC (rA 2) (gA 3)], [usB 565 (rA 2) (ai 0) z0, usB 565 (rA 2) (ai 1) z0, .f1 2 (.f2 45 (ai 0) (ai 1))], [], .tup [],
 [.cel (ai 0) 0 (txQ (rA 2) (gA 3) (ixB (rA 2) (ai 0))), .cel (ai 1) 0 (txQ (rA 2) (gA 3) (ixB (rA 2) (ai 1))), twC (ai 0) (ai 1) (rA 2) (gA 3)], [eLe z0 (ai 0), eLe z0 (ai 1)]⟩
theorem Zwb : ∀ {R : List (List Int)} {L : List Tx} {h : Hl}, Zeq R L h -> ∀ b, Zo7 R b -> 0 <= b
 | [], [], _, _, b, hb => by obtain ⟨k, hk, _⟩ := hb; simp at hk
 | r :: R, t :: L, h, hx, b, hb => by
  obtain ⟨p, q, _, _, hp, hq⟩ := hx
  obtain ⟨k, hk, rfl⟩ := hb
  cases k with
  | zero => exact (Zdm hp).2.2.2.2.2
  | succ k => exact Zwb hq _ ⟨k, by simpa using hk, rfl⟩
 | [], _ :: _, _, hx, _, _ => hx.elim
 | _ :: _, [], _, hx, _, _ => hx.elim
theorem ZMs (S : Sig GG) (hS : JtSig S) : YH S ZFO := by
 refine ZL S fun T w0 ρ h hu hp hd hr hpre => ⟨ρ, Ext.refl _ _, ?_⟩
 have hT := hS.of hu hp
 have e1 : hpDen T ρ w0 ZFO.pre = Zd (T.prd 100 w0 ((rA 2).den T ρ) ((gA 3).den T ρ)) emp := rfl
 have e2 : hpDen T ρ w0 ZFO.post = Zd ((Ch.cel (ai 0) 0 (txQ (rA 2) (gA 3) (ixB (rA 2) (ai 0)))).den T ρ w0) (Zd ((Ch.cel (ai 1) 0 (txQ (rA 2) (gA 3) (ixB (rA 2) (ai 1)))).den T ρ w0) (Zd (T.prd 102 w0 ((Zu (ZN (ai 0) (ai 1)) (rA 2)).den T ρ) ((gA 3).den T ρ)) emp)) := rfl
 have r0 := hr (usB 565 (rA 2) (ai 0) z0) (by simp [ZFO])
 have r1 := hr (usB 565 (rA 2) (ai 1) z0) (by simp [ZFO])
 have r2 := hr (.f1 2 (.f2 45 (ai 0) (ai 1))) (by simp [ZFO])
 simp only [usB, SX.den, hT.u565, YQ, U.tPi, U.tQi, Zj] at r0 r1
 have r2 : (ap1 2 (ap2 45 ((ai 0).den T ρ) ((ai 1).den T ρ))).tP := r2
 rw [ZGK] at r2
 have ib : ∀ b : SX, ((ixB (rA 2) b).den T ρ).tI = (Zc2 (b.den T ρ).tI ((rA 2).den T ρ).tR : Nat) := fun b => by
  simp only [ixB, usI, SX.den, hT.u566, Zp, U.tIi]
 have k2 : ((Zu (ZN (ai 0) (ai 1)) (rA 2)).den T ρ).tR = [((ai 0).den T ρ).tI, ((ai 1).den T ρ).tI] :: ((rA 2).den T ρ).tR := rfl
 have a0 := ZbY (YY r0)
 have a1 := ZbY (YY r1)
 rw [e1, Zc, hT.p100] at hpre
 have gd := Zwb hpre
 refine ⟨?_, ?_⟩
 ·rw [e2, Zc, ZeA hT ρ w0 (ai 0) (rA 2) (gA 3) (ixB (rA 2) (ai 0)) _ (by rw [ib]) (by rw [a0]),
   ZeA hT ρ w0 (ai 1) (rA 2) (gA 3) (ixB (rA 2) (ai 1)) _ (by rw [ib]) (by rw [a1]), hT.p102, k2]
  generalize ((ai 0).den T ρ).tI = v at *
  generalize ((ai 1).den T ρ).tI = y at *
  generalize ((rA 2).den T ρ).tR = R at *
  generalize ZO ((gA 3).den T ρ) = L at *
  have hl := Za7 hpre
  have hne : Zc2 v R ≠ Zc2 y R := fun e => r2 (by rw [<- a0, <- a1, e])
  obtain ⟨A, hA⟩ := ZrJ hl (YY r0) (YY r1) hne
  have hq2 := hpre
  rw [hA] at hq2
  obtain ⟨s, t, d2, rfl, hs, ht⟩ := hq2
  have hw : ZKO (g0 ([v, y] :: R |>.getD 0 [])) (g1 ([v, y] :: R |>.getD 0 [])) (([v, y] :: R).drop 1) L s := by
   intro h' hd' hh'
   show Zeq R L _
   rw [hA]
   exact ⟨s, h', hd', rfl, hs, hh'⟩
  have : Zd (Zd (ZhR R L (Zc2 v R)) (ZhR R L (Zc2 y R))) (ZKO (g0 ([v, y] :: R |>.getD 0 [])) (g1 ([v, y] :: R |>.getD 0 [])) (([v, y] :: R).drop 1) L) (Hl.un s t) := ⟨t, s, d2.symm, Hl.un_comm d2, ht, hw⟩
  rw [star_assoc] at this
  exact this
 ·intro x hx
  simp only [ZFO, List.mem_cons, List.not_mem_nil, or_false] at hx
  rcases hx with rfl | rfl
  ·rw [Ze]; exact gd _ r0
  ·rw [Ze]; exact gd _ r1
def whoX (p : SX) : SX := usI 540 (gA 3) (ixB (rA 2) p) z0
def Zyn : Ctr := ⟨[.int, .int, .rows, .g], [.one (.ptr (ai 0) 0), .one (.ptr (ai 1) 0)], [txC (rA 2) (gA 3)], [usB 565 (rA 2) (ai 0) z0, usB 565 (rA 2) (ai 1) z0, .f1 2 (.f2 45 (ai 0) (ai 1))], [.int], .one (.int .i64 (ai 4)), [txC (rA 2) (gA 3)],
 [.f2 48 (eLt (ai 4) z0) (eLt (whoX (ai 0)) (whoX (ai 1)))]⟩
def ZLH : Cx := { specs := [], anns := [(37, [(1, .ghost ZFO [.tmp 0, .tmp 1]), (500001, .ghost ZDy [.tmp 0])])] }
def sF : SC := .fn 37
def isQ : List SX := [eLe z0 (ai 2), .f2 45 (ai 2) (Zh (rA 1)), eLe (ai 2) (.int 12), usB 560 (rA 1) (rA 5) z0, usB 621 (rA 1) z0 z0]
def isA : List Srt := [.int, .rows, .int, .int, .int, .rows, .g]
def isP (k : Nat) : List Ch := [pAr (ai 0) (rA k) (ai 4), txC (rA 5) (gA 6)]
def isF : List SX := [.us .bool 622 (rA 7) (rA 1) (rA 5) (gA 6)]
def Zx0 : Ctr := ⟨isA, [.one (slC (ai 0) (ai 2) (ai 3) 1), .one (.int .i64 z0), .one (.int .i64 (ai 2)), .one sF], isP 1, isQ, [.rows], .tup [], isP 7, isF⟩
def isoI : Inv := ⟨[.int, .rows], [(8, .one (.int .i64 (di 0)))], [pAr (ai 0) (rA 1000001) (ai 4), txC (rA 5) (gA 6)], [eLe (.int 1) (di 0), .f2 45 (Zh (rA 1000001)) (ai 2), .us .bool 623 (Zu (ZoV (di 0)) (rA 1000001)) (rA 1) (rA 5) (gA 6)], .f2 41 (.int 13) (di 0)⟩
def isoJ : Inv := ⟨[.int, .rows], [(9, .one (.int .i64 (di 0)))], [pAr (ai 0) (rA 1000001) (ai 4), txC (rA 5) (gA 6)], [eLe z0 (di 0), eLe (di 0) (ai 7), .f2 45 (Zh (rA 1000001)) (ai 2), .us .bool 624 (Zu (ZN (ai 7) (di 0)) (rA 1000001)) (rA 1) (rA 5) (gA 6)], di 0⟩
def ZMK : Cx := { specs := [(37, [Zyn])], anns := [(105, [(1, .inv isoI), (4, .inv isoJ)])] }
def ZzQ : Ctr := ⟨isA ++ [.int], [.one (slC (ai 0) (ai 2) (ai 3) 1), .one (.int .i64 z0), .one (.int .i64 (ai 2)), .one (.int .i64 (ai 7)), .one sF], isP 1, isQ, [.rows], .tup [], isP 8, [.us .bool 622 (rA 8) (rA 1) (rA 5) (gA 6)]⟩
def ZLs : Cx := { specs := [(105, [Zx0])], anns := [] }
def ZxS : Ctr := ⟨isA, [.one (slC (ai 0) (ai 2) (ai 3) 1), .one sF], isP 1, isQ, [.rows], .tup [], isP 7, isF⟩
def ZN6 : Cx := { specs := [(81, [ZzQ])], anns := [] }
theorem ZJQ {α : Type} (A D : List α) (y d : α) : (A ++ y :: D).getD A.length d = y := by
 induction A with
 | nil => rfl
 | cons a A ih => exact ih
theorem ZIe {α : Type} (A D : List α) (y x d : α) : (A ++ y :: x :: D).getD (A.length + 1) d = x := by
 induction A with
 | nil => rfl
 | cons a A ih => exact ih
theorem ZHF {α : Type} (A D : List α) (y z : α) : (A ++ y :: D).set A.length z = A ++ z :: D := by
 induction A with
 | nil => rfl
 | cons a A ih => simp only [List.cons_append, ZQb, List.set_cons_succ, ih]
theorem ZKB {α : Type} (A D : List α) (y x z : α) : (A ++ y :: x :: D).set (A.length + 1) z = A ++ y :: z :: D := by
 induction A with
 | nil => rfl
 | cons a A ih => simp only [List.cons_append, ZQb, List.set_cons_succ, ih]
theorem ZDu {P RT : List (List Int)} {L : List Tx} : ZKK ([1] :: P) P RT L := ⟨List.Perm.refl _, by
 show (P.take 1).Pairwise _
 cases P with
 | nil => simp
 | cons a P => simp⟩
theorem ZJ0 {i : Int} {Q P RT : List (List Int)} {L : List Tx} (h : ZKK ([i] :: Q) P RT L) (i0 : 1 <= i) (i1 : i < Q.length) : ZKX ([i, i] :: Q) P RT L := by
 obtain ⟨h1, h2⟩ := h
 obtain ⟨n, rfl⟩ := ZPJ (show 0 <= i by omega)
 have hn : n < Q.length := by omega
 refine ⟨h1, Q.take n, [], Q.drop (n + 1), Q[n], ?_, ?_, ?_, ?_, fun b hb => nomatch hb⟩
 ·show Q = _
  rw [ZQf, List.cons_append, List.nil_append, <- List.drop_eq_getElem_cons hn, List.take_append_drop]
 ·show ((Q.take n).length : Int) = (n : Int)
  rw [ZPT]; omega
 ·show ((Q.take n).length : Int) + 0 = (n : Int)
  rw [ZPT]; omega
 ·rw [List.append_nil]
  have : ((g0 (([(n : Int)] :: Q).getD 0 [])).toNat) = n := by show ((n : Int)).toNat = n; omega
  rw [this] at h2; exact h2
theorem ZES {i j : Int} {Q P RT : List (List Int)} {L : List Tx} (h : ZKX ([i, j] :: Q) P RT L) (hj : 0 < j) (hv : ∀ r ∈ P, ∃ b, r = [b] /\ Zo7 RT b) (hn : ndP P) :
  Zo7 RT (g0 (Q.getD j.toNat [])) /\ Zo7 RT (g0 (Q.getD (j + -1).toNat [])) /\ ¬ g0 (Q.getD j.toNat []) = g0 (Q.getD (j + -1).toNat []) ∧
  (ZCz RT L (Q.getD j.toNat []) < ZCz RT L (Q.getD (j + -1).toNat []) -> ZKX ([i, j + -1] :: (Q.set j.toNat [g0 (Q.getD (j + -1).toNat [])]).set (j + -1).toNat [g0 (Q.getD j.toNat [])]) P RT L) ∧
  (¬ ZCz RT L (Q.getD j.toNat []) < ZCz RT L (Q.getD (j + -1).toNat []) -> ZKK ([i + 1] :: Q) P RT L) := by
 obtain ⟨h1, A, B, C, x, h2, h3, h4, h5, h6⟩ := h
 have h1 : Q.Perm P := h1
 have h2 : Q = A ++ x :: B ++ C := h2
 have h3 : (A.length : Int) = j := h3
 have h4 : (A.length : Int) + B.length = i := h4
 obtain ⟨A', y, rfl⟩ : ∃ A' y, A = A' ++ [y] := by
  rcases List.eq_nil_or_concat A with rfl | ⟨A', y, e⟩
  ·simp at h3; omega
  ·exact ⟨A', y, by rw [e, List.concat_eq_append]⟩
 rw [ZPW, ZPF] at h3 h4
 have e1 : j.toNat = A'.length + 1 := by omega
 have e2 : (j + -1).toNat = A'.length := by omega
 have hQ : Q = A' ++ y :: x :: (B ++ C) := by rw [h2]; simp
 have gx : Q.getD j.toNat [] = x := by rw [e1, hQ, ZIe]
 have gy : Q.getD (j + -1).toNat [] = y := by rw [e2, hQ, ZJQ]
 have hx : x ∈ Q := by rw [hQ]; simp
 have hy : y ∈ Q := by rw [hQ]; simp
 obtain ⟨bx, ex, hbx⟩ := hv x (h1.mem_iff.1 hx)
 obtain ⟨by', ey, hby⟩ := hv y (h1.mem_iff.1 hy)
 have sx : [g0 x] = x := by rw [ex]; rfl
 have sy : [g0 y] = y := by rw [ey]; rfl
 have hnq : (Q.map g0).Nodup := (h1.map g0).nodup_iff.2 hn
 rw [gx, gy]
 refine ⟨by rw [ex]; exact hbx, by rw [ey]; exact hby, fun e => ?_, fun hlt => ?_, fun hge => ?_⟩
 ·rw [hQ, ZP7, ZP0, ZP0, List.nodup_append] at hnq
  have := (List.nodup_cons.1 hnq.2.1).1
  exact this (by rw [<- e]; exact ZPZ)
 ·rw [sx, sy, e1, e2, hQ, ZKB, ZHF]
  refine ⟨?_, A', y :: B, C, x, by simp, by show (A'.length : Int) = j + -1; omega, by show (A'.length : Int) + ((y :: B).length : Nat) = i; rw [ZQb]; omega, ?_, ?_⟩
  ·show (A' ++ x :: y :: (B ++ C)).Perm P
   rw [hQ] at h1
   exact ((List.Perm.swap _ _ _).append_left _).trans h1
  ·have : A' ++ [y] ++ B = A' ++ y :: B := by simp
   rw [this] at h5; exact h5
  ·intro b hb
   rcases List.mem_cons.1 hb with rfl | hb
   ·exact Int.le_of_lt hlt
   ·exact h6 b hb
 ·refine ⟨h1, ?_⟩
  have e3 : (g0 (([i + 1] :: Q).getD 0 [])).toNat = (A' ++ [y] ++ x :: B).length := by
   show (i + 1).toNat = _
   simp only [ZPW, ZQb, List.length_nil]; omega
  rw [e3]
  show ZFI RT L (Q.take _)
  rw [h2, List.take_left']
  ·have h5' := List.pairwise_append.1 h5
   refine List.pairwise_append.2 ⟨h5'.1, List.pairwise_cons.2 ⟨fun b hb => h6 b hb, h5'.2.1⟩, fun a ha b hb => ?_⟩
   have hyx : leW RT L y x := by unfold leW; omega
   have hay : leW RT L a y := by
    rcases List.mem_append.1 ha with ha | ha
    ·exact (List.pairwise_append.1 h5'.1).2.2 a ha y (by simp)
    ·rw [ZPK] at ha; subst ha; exact ZP2 _
   rcases List.mem_cons.1 hb with rfl | hb
   ·exact Int.le_trans hay hyx
   ·exact h5'.2.2 a ha b hb
  ·rfl
theorem ZBZ {i j : Int} {Q P RT : List (List Int)} {L : List Tx} (h : ZKX ([i, j] :: Q) P RT L) (hj : j <= 0) (h0 : 0 <= j) : ZKK ([i + 1] :: Q) P RT L := by
 obtain ⟨h1, A, B, C, x, h2, h3, h4, h5, h6⟩ := h
 have h3 : (A.length : Int) = j := h3
 have h4 : (A.length : Int) + B.length = i := h4
 have hA : A = [] := ZP6 (by omega)
 subst hA
 refine ⟨h1, ?_⟩
 have h2 : Q = x :: B ++ C := h2
 have e3 : (g0 (([i + 1] :: Q).getD 0 [])).toNat = (x :: B).length := by
  show (i + 1).toNat = _
  rw [ZQb]; simp at h4; omega
 rw [e3]
 show ZFI RT L (Q.take _)
 rw [h2, List.take_left' rfl]
 exact List.pairwise_cons.2 ⟨fun b hb => h6 b hb, h5⟩
theorem ZEG {x : Int} (h0 : 0 <= x) (h1 : x <= 12) : IntKind.u64.wrap x = x := ZaQ (by simp [IntKind.min, IntKind.max, IntKind.bits, IntKind.signed]; omega)
theorem ZvA {x : Int} (h0 : 0 <= x) (h1 : x <= 12) : IntKind.u8.wrap x = x := ZaQ (by simp [IntKind.min, IntKind.max, IntKind.bits, IntKind.signed]; omega)
def ZvE : SX := d 540 (g 3) (d 566 (r 2) (a 0))
def ZzZ : SX := d 540 (g 3) (d 566 (r 2) (a 1))
def ZDS : SX := t ZvE ZzZ
def ZIF : SX := .f2 48 (.bool false) ZDS
def ZNx : VC := i (c 565 (r 2) (a 0)) (i (c 565 (r 2) (a 1)) (i (.f1 2 (e (a 0) (a 1))) (i (l z (a 0)) (i (l z (a 1)) (.and (i ZDS (n (.f2 48 (.bool true) ZDS) .tt)) (i (l ZzZ ZvE) (.and (i (t ZzZ ZvE) (n ZIF .tt)) (i (l ZvE ZzZ) (n ZIF .tt)))))))))
theorem ZNt : YV Tryz.prog ZLH 12 37 Zyn = ZNx := by kernel_rfl
def ZHh : SX := .f2 122 (a 7) (.f1 152 z)
def ZhY : SX := .f2 40 (a 9) (k (-1))
def ZxT : SX := .f3 112 (r 10) (a 9) z
def ZA0 : SX := .f3 112 (r 10) ZhY z
def ZH0 : SX := t (a 11) z
def Zw3 : SX := .f2 40 (a 7) (k 1)
def ZIT : SX := .f1 23 Zw3
def ZHm : SX := .f2 41 (k 13) Zw3
def ZIB : SX := l z ZHm
def ZJP : SX := t ZHm (.f2 41 (k 13) (a 7))
def ZCe : SX := l (k 1) Zw3
def ZAn : SX := .us .bool 623 (.f2 124 (.f2 122 Zw3 (.f1 152 z)) (r 10)) (r 1) (r 5) (g 6)
def ZMt : VC := i (l z (a 2)) (i (e (a 2) (.f1 32 (r 1))) (i (l (a 2) (k 12)) (i (c 560 (r 1) (r 5)) (i (p 621 (r 1)) (n (e (.f1 32 (r 1)) (a 2)) (n (.us .bool 623 (.f2 124 (.f2 122 (k 1) (.f1 152 z)) (r 1)) (r 1) (r 5) (g 6)) (u 7 .int (u 8 .rows (i (l (k 1) (a 7)) (i (e (.f1 32 (r 8)) (a 2)) (i (.us .bool 623 (.f2 124 ZHh (r 8)) (r 1) (r 5) (g 6)) (.and (i (t (a 7) (a 2)) (n (l z (a 7)) (n (l (a 7) (a 7)) (n (.us .bool 624 (.f2 124 (.f2 122 (a 7) ZHh) (r 8)) (r 1) (r 5) (g 6)) (u 9 .int (u 10 .rows (i (l z (a 9)) (i (l (a 9) (a 7)) (i (e (.f1 32 (r 10)) (a 2)) (i (.us .bool 624 (.f2 124 (.f2 122 (a 7) (.f2 122 (a 9) (.f1 152 z))) (r 10)) (r 1) (r 5) (g 6)) (.and (i (t z (a 9)) (n (t (a 9) (a 2)) (n (t (a 9) (.f1 32 (r 10))) (n (.f1 23 ZhY) (n (l z ZhY) (n (t ZhY (a 2)) (n (t ZhY (.f1 32 (r 10))) (n (c 565 (r 5) ZxT) (n (c 565 (r 5) ZA0) (n (.f1 2 (e ZxT ZA0)) (u 11 .int (i (.f2 48 ZH0 (t (d 540 (g 6) (d 566 (r 5) ZxT)) (d 540 (g 6) (d 566 (r 5) ZA0)))) (.and (i ZH0 (n (t ZhY (a 9)) (n (l ZhY (a 7)) (n (.us .bool 624 (.f2 124 (.f2 122 (a 7) (.f2 122 ZhY (.f1 152 z))) (.f3 132 (.f3 132 (r 10) (a 9) (.f2 122 ZA0 (.f1 152 z))) ZhY (.f2 122 ZxT (.f1 152 z)))) (r 1) (r 5) (g 6)) .tt)))) (i (l z (a 11)) (n ZIT (n ZIB (n ZJP (n ZCe (n ZAn .tt))))))))))))))))))) (i (l (a 9) z) (n ZIT (n ZIB (n ZJP (n ZCe (n ZAn .tt))))))))))))))))) (i (l (a 2) (a 7)) (n (.us .bool 622 (r 8) (r 1) (r 5) (g 6)) .tt))))))))))))))
theorem ZOu : YV Tryz.prog ZMK 12 105 Zx0 = ZMt := by kernel_rfl
def ZGN : SX := l (a 2) (k 12)
def ZOE : VC := i (l z (a 2)) (i (e (a 2) (.f1 32 (r 1))) (i ZGN (i (c 560 (r 1) (r 5)) (i (p 621 (r 1)) (n (.f1 23 (a 2)) (.and (i ZGN (u 8 .rows (i (.us .bool 622 (r 8) (r 1) (r 5) (g 6)) .tt))) .tt))))))
theorem ZNh : YV Tryz.prog ZLs 12 81 ZzQ = ZOE := by kernel_rfl
def Zk3 : SX := .f2 107 (.f1 17 (a 2)) (k 32)
def Zwn : SX := .f2 107 Zk3 (k 16)
def ZEB : SX := .f1 14 (.f2 107 Zwn (k 8))
def Zkn : SX := .us .bool 622 (r 7) (r 1) (r 5) (g 6)
def ZEz : SX := .f1 14 Zwn
def ZDr : SX := .f1 14 (.f2 107 Zk3 (k 8))
def ZEN : SX := .f1 14 Zk3
def Zyz : SX := .f2 107 (.f1 17 (a 2)) (k 16)
def ZE5 : SX := .f1 14 (.f2 107 Zyz (k 8))
def ZDN : SX := .f1 14 Zyz
def Zr4 : SX := .f1 14 (.f2 107 (.f1 17 (a 2)) (k 8))
def ZrK : SX := .f1 14 (.f1 17 (a 2))
def ZN7 : VC := i (l z (a 2)) (i (e (a 2) (.f1 32 (r 1))) (i (l (a 2) (k 12)) (i (c 560 (r 1) (r 5)) (i (p 621 (r 1)) (.and (i (l k4 (.f1 17 (a 2))) (.and (i (l (k 65536) Zk3) (.and (i (l (k 256) Zwn) (n (l z ZEB) (n (t ZEB (k 256)) (n (.f1 23 (.f2 40 (.f2 111 (.byt [0, 1, 2, 2, 3, 3, 3, 3, 4, 4, 4, 4, 4, 4, 4, 4, 5, 5, 5, 5, 5, 5, 5, 5, 5, 5, 5, 5, 5, 5, 5, 5, 6, 6, 6, 6, 6, 6, 6, 6, 6, 6, 6, 6, 6, 6, 6, 6, 6, 6, 6, 6, 6, 6, 6, 6, 6, 6, 6, 6, 6, 6, 6, 6, 7, 7, 7, 7, 7, 7, 7, 7, 7, 7, 7, 7, 7, 7, 7, 7, 7, 7, 7, 7, 7, 7, 7, 7, 7, 7, 7, 7, 7, 7, 7, 7, 7, 7, 7, 7, 7, 7, 7, 7, 7, 7, 7, 7, 7, 7, 7, 7, 7, 7, 7, 7, 7, 7, 7, 7, 7, 7, 7, 7, 7, 7, 7, 7, 8, 8, 8, 8, 8, 8, 8, 8, 8, 8, 8, 8, 8, 8, 8, 8, 8, 8, 8, 8, 8, 8, 8, 8, 8, 8, 8, 8, 8, 8, 8, 8, 8, 8, 8, 8, 8, 8, 8, 8, 8, 8, 8, 8, 8, 8, 8, 8, 8, 8, 8, 8, 8, 8, 8, 8, 8, 8, 8, 8, 8, 8, 8, 8, 8, 8, 8, 8, 8, 8, 8, 8, 8, 8, 8, 8, 8, 8, 8, 8, 8, 8, 8, 8, 8, 8, 8, 8, 8, 8, 8, 8, 8, 8, 8, 8, 8, 8, 8, 8, 8, 8, 8, 8, 8, 8, 8, 8, 8, 8, 8, 8, 8, 8, 8, 8, 8, 8, 8, 8, 8, 8, 8, 8, 8, 8, 8, 8]) ZEB) (k 56))) (u 7 .rows (i Zkn .tt)))))) (i (t Zwn (k 256)) (n (l z ZEz) (n (t ZEz (k 256)) (n (.f1 23 (.f2 40 (.f2 111 (.byt [0, 1, 2, 2, 3, 3, 3, 3, 4, 4, 4, 4, 4, 4, 4, 4, 5, 5, 5, 5, 5, 5, 5, 5, 5, 5, 5, 5, 5, 5, 5, 5, 6, 6, 6, 6, 6, 6, 6, 6, 6, 6, 6, 6, 6, 6, 6, 6, 6, 6, 6, 6, 6, 6, 6, 6, 6, 6, 6, 6, 6, 6, 6, 6, 7, 7, 7, 7, 7, 7, 7, 7, 7, 7, 7, 7, 7, 7, 7, 7, 7, 7, 7, 7, 7, 7, 7, 7, 7, 7, 7, 7, 7, 7, 7, 7, 7, 7, 7, 7, 7, 7, 7, 7, 7, 7, 7, 7, 7, 7, 7, 7, 7, 7, 7, 7, 7, 7, 7, 7, 7, 7, 7, 7, 7, 7, 7, 7, 8, 8, 8, 8, 8, 8, 8, 8, 8, 8, 8, 8, 8, 8, 8, 8, 8, 8, 8, 8, 8, 8, 8, 8, 8, 8, 8, 8, 8, 8, 8, 8, 8, 8, 8, 8, 8, 8, 8, 8, 8, 8, 8, 8, 8, 8, 8, 8, 8, 8, 8, 8, 8, 8, 8, 8, 8, 8, 8, 8, 8, 8, 8, 8, 8, 8, 8, 8, 8, 8, 8, 8, 8, 8, 8, 8, 8, 8, 8, 8, 8, 8, 8, 8, 8, 8, 8, 8, 8, 8, 8, 8, 8, 8, 8, 8, 8, 8, 8, 8, 8, 8, 8, 8, 8, 8, 8, 8, 8, 8, 8, 8, 8, 8, 8, 8, 8, 8, 8, 8, 8, 8, 8, 8, 8, 8, 8, 8]) ZEz) (k 48))) (u 7 .rows (i Zkn .tt)))))))) (i (t Zk3 (k 65536)) (.and (i (l (k 256) Zk3) (n (l z ZDr) (n (t ZDr (k 256)) (n (.f1 23 (.f2 40 (.f2 111 (.byt [0, 1, 2, 2, 3, 3, 3, 3, 4, 4, 4, 4, 4, 4, 4, 4, 5, 5, 5, 5, 5, 5, 5, 5, 5, 5, 5, 5, 5, 5, 5, 5, 6, 6, 6, 6, 6, 6, 6, 6, 6, 6, 6, 6, 6, 6, 6, 6, 6, 6, 6, 6, 6, 6, 6, 6, 6, 6, 6, 6, 6, 6, 6, 6, 7, 7, 7, 7, 7, 7, 7, 7, 7, 7, 7, 7, 7, 7, 7, 7, 7, 7, 7, 7, 7, 7, 7, 7, 7, 7, 7, 7, 7, 7, 7, 7, 7, 7, 7, 7, 7, 7, 7, 7, 7, 7, 7, 7, 7, 7, 7, 7, 7, 7, 7, 7, 7, 7, 7, 7, 7, 7, 7, 7, 7, 7, 7, 7, 8, 8, 8, 8, 8, 8, 8, 8, 8, 8, 8, 8, 8, 8, 8, 8, 8, 8, 8, 8, 8, 8, 8, 8, 8, 8, 8, 8, 8, 8, 8, 8, 8, 8, 8, 8, 8, 8, 8, 8, 8, 8, 8, 8, 8, 8, 8, 8, 8, 8, 8, 8, 8, 8, 8, 8, 8, 8, 8, 8, 8, 8, 8, 8, 8, 8, 8, 8, 8, 8, 8, 8, 8, 8, 8, 8, 8, 8, 8, 8, 8, 8, 8, 8, 8, 8, 8, 8, 8, 8, 8, 8, 8, 8, 8, 8, 8, 8, 8, 8, 8, 8, 8, 8, 8, 8, 8, 8, 8, 8, 8, 8, 8, 8, 8, 8, 8, 8, 8, 8, 8, 8, 8, 8, 8, 8, 8, 8]) ZDr) (k 40))) (u 7 .rows (i Zkn .tt)))))) (i (t Zk3 (k 256)) (n (l z ZEN) (n (t ZEN (k 256)) (n (.f1 23 (.f2 40 (.f2 111 (.byt [0, 1, 2, 2, 3, 3, 3, 3, 4, 4, 4, 4, 4, 4, 4, 4, 5, 5, 5, 5, 5, 5, 5, 5, 5, 5, 5, 5, 5, 5, 5, 5, 6, 6, 6, 6, 6, 6, 6, 6, 6, 6, 6, 6, 6, 6, 6, 6, 6, 6, 6, 6, 6, 6, 6, 6, 6, 6, 6, 6, 6, 6, 6, 6, 7, 7, 7, 7, 7, 7, 7, 7, 7, 7, 7, 7, 7, 7, 7, 7, 7, 7, 7, 7, 7, 7, 7, 7, 7, 7, 7, 7, 7, 7, 7, 7, 7, 7, 7, 7, 7, 7, 7, 7, 7, 7, 7, 7, 7, 7, 7, 7, 7, 7, 7, 7, 7, 7, 7, 7, 7, 7, 7, 7, 7, 7, 7, 7, 8, 8, 8, 8, 8, 8, 8, 8, 8, 8, 8, 8, 8, 8, 8, 8, 8, 8, 8, 8, 8, 8, 8, 8, 8, 8, 8, 8, 8, 8, 8, 8, 8, 8, 8, 8, 8, 8, 8, 8, 8, 8, 8, 8, 8, 8, 8, 8, 8, 8, 8, 8, 8, 8, 8, 8, 8, 8, 8, 8, 8, 8, 8, 8, 8, 8, 8, 8, 8, 8, 8, 8, 8, 8, 8, 8, 8, 8, 8, 8, 8, 8, 8, 8, 8, 8, 8, 8, 8, 8, 8, 8, 8, 8, 8, 8, 8, 8, 8, 8, 8, 8, 8, 8, 8, 8, 8, 8, 8, 8, 8, 8, 8, 8, 8, 8, 8, 8, 8, 8, 8, 8, 8, 8, 8, 8, 8, 8]) ZEN) (k 32))) (u 7 .rows (i Zkn .tt)))))))))) (i (t (.f1 17 (a 2)) k4) (.and (i (l (k 65536) (.f1 17 (a 2))) (.and (i (l (k 256) Zyz) (n (l z ZE5) (n (t ZE5 (k 256)) (n (.f1 23 (.f2 40 (.f2 111 (.byt [0, 1, 2, 2, 3, 3, 3, 3, 4, 4, 4, 4, 4, 4, 4, 4, 5, 5, 5, 5, 5, 5, 5, 5, 5, 5, 5, 5, 5, 5, 5, 5, 6, 6, 6, 6, 6, 6, 6, 6, 6, 6, 6, 6, 6, 6, 6, 6, 6, 6, 6, 6, 6, 6, 6, 6, 6, 6, 6, 6, 6, 6, 6, 6, 7, 7, 7, 7, 7, 7, 7, 7, 7, 7, 7, 7, 7, 7, 7, 7, 7, 7, 7, 7, 7, 7, 7, 7, 7, 7, 7, 7, 7, 7, 7, 7, 7, 7, 7, 7, 7, 7, 7, 7, 7, 7, 7, 7, 7, 7, 7, 7, 7, 7, 7, 7, 7, 7, 7, 7, 7, 7, 7, 7, 7, 7, 7, 7, 8, 8, 8, 8, 8, 8, 8, 8, 8, 8, 8, 8, 8, 8, 8, 8, 8, 8, 8, 8, 8, 8, 8, 8, 8, 8, 8, 8, 8, 8, 8, 8, 8, 8, 8, 8, 8, 8, 8, 8, 8, 8, 8, 8, 8, 8, 8, 8, 8, 8, 8, 8, 8, 8, 8, 8, 8, 8, 8, 8, 8, 8, 8, 8, 8, 8, 8, 8, 8, 8, 8, 8, 8, 8, 8, 8, 8, 8, 8, 8, 8, 8, 8, 8, 8, 8, 8, 8, 8, 8, 8, 8, 8, 8, 8, 8, 8, 8, 8, 8, 8, 8, 8, 8, 8, 8, 8, 8, 8, 8, 8, 8, 8, 8, 8, 8, 8, 8, 8, 8, 8, 8, 8, 8, 8, 8, 8, 8]) ZE5) (k 24))) (u 7 .rows (i Zkn .tt)))))) (i (t Zyz (k 256)) (n (l z ZDN) (n (t ZDN (k 256)) (n (.f1 23 (.f2 40 (.f2 111 (.byt [0, 1, 2, 2, 3, 3, 3, 3, 4, 4, 4, 4, 4, 4, 4, 4, 5, 5, 5, 5, 5, 5, 5, 5, 5, 5, 5, 5, 5, 5, 5, 5, 6, 6, 6, 6, 6, 6, 6, 6, 6, 6, 6, 6, 6, 6, 6, 6, 6, 6, 6, 6, 6, 6, 6, 6, 6, 6, 6, 6, 6, 6, 6, 6, 7, 7, 7, 7, 7, 7, 7, 7, 7, 7, 7, 7, 7, 7, 7, 7, 7, 7, 7, 7, 7, 7, 7, 7, 7, 7, 7, 7, 7, 7, 7, 7, 7, 7, 7, 7, 7, 7, 7, 7, 7, 7, 7, 7, 7, 7, 7, 7, 7, 7, 7, 7, 7, 7, 7, 7, 7, 7, 7, 7, 7, 7, 7, 7, 8, 8, 8, 8, 8, 8, 8, 8, 8, 8, 8, 8, 8, 8, 8, 8, 8, 8, 8, 8, 8, 8, 8, 8, 8, 8, 8, 8, 8, 8, 8, 8, 8, 8, 8, 8, 8, 8, 8, 8, 8, 8, 8, 8, 8, 8, 8, 8, 8, 8, 8, 8, 8, 8, 8, 8, 8, 8, 8, 8, 8, 8, 8, 8, 8, 8, 8, 8, 8, 8, 8, 8, 8, 8, 8, 8, 8, 8, 8, 8, 8, 8, 8, 8, 8, 8, 8, 8, 8, 8, 8, 8, 8, 8, 8, 8, 8, 8, 8, 8, 8, 8, 8, 8, 8, 8, 8, 8, 8, 8, 8, 8, 8, 8, 8, 8, 8, 8, 8, 8, 8, 8, 8, 8, 8, 8, 8, 8]) ZDN) (k 16))) (u 7 .rows (i Zkn .tt)))))))) (i (t (.f1 17 (a 2)) (k 65536)) (.and (i (l (k 256) (.f1 17 (a 2))) (n (l z Zr4) (n (t Zr4 (k 256)) (n (.f1 23 (.f2 40 (.f2 111 (.byt [0, 1, 2, 2, 3, 3, 3, 3, 4, 4, 4, 4, 4, 4, 4, 4, 5, 5, 5, 5, 5, 5, 5, 5, 5, 5, 5, 5, 5, 5, 5, 5, 6, 6, 6, 6, 6, 6, 6, 6, 6, 6, 6, 6, 6, 6, 6,
 6, 6, 6, 6, 6, 6, 6, 6, 6, 6, 6, 6, 6, 6, 6, 6, 6, 7, 7, 7, 7, 7, 7, 7, 7, 7, 7, 7, 7, 7, 7, 7, 7, 7, 7, 7, 7, 7, 7, 7, 7, 7, 7, 7, 7, 7, 7, 7, 7, 7, 7, 7, 7, 7, 7, 7, 7, 7, 7, 7, 7, 7, 7, 7, 7, 7, 7, 7, 7, 7, 7, 7, 7, 7, 7, 7, 7, 7, 7, 7, 7, 8, 8, 8, 8, 8, 8, 8, 8, 8, 8, 8, 8, 8, 8, 8, 8, 8, 8, 8, 8, 8, 8, 8, 8, 8, 8, 8, 8, 8, 8, 8, 8, 8, 8, 8, 8, 8, 8, 8, 8, 8, 8, 8, 8, 8, 8, 8, 8, 8, 8, 8, 8, 8, 8, 8, 8, 8, 8, 8, 8, 8, 8, 8, 8, 8, 8, 8, 8, 8, 8, 8, 8, 8, 8, 8, 8, 8, 8, 8, 8, 8, 8, 8, 8, 8, 8, 8, 8, 8, 8, 8, 8, 8, 8, 8, 8, 8, 8, 8, 8, 8, 8, 8, 8, 8, 8, 8, 8, 8, 8, 8, 8, 8, 8, 8, 8, 8, 8, 8, 8, 8, 8, 8, 8, 8, 8, 8, 8]) Zr4) (k 8))) (u 7 .rows (i Zkn .tt)))))) (i (t (.f1 17 (a 2)) (k 256)) (n (l z ZrK) (n (t ZrK (k 256)) (n (.f1 23 (.f2 111 (.byt [0, 1, 2, 2, 3, 3, 3, 3, 4, 4, 4, 4, 4, 4, 4, 4, 5, 5, 5, 5, 5, 5, 5, 5, 5, 5, 5, 5, 5, 5, 5, 5, 6, 6, 6, 6, 6, 6, 6, 6, 6, 6, 6, 6, 6, 6, 6, 6, 6, 6, 6, 6, 6, 6, 6, 6, 6, 6, 6, 6, 6, 6, 6, 6, 7, 7, 7, 7, 7, 7, 7, 7, 7, 7, 7, 7, 7, 7, 7, 7, 7, 7, 7, 7, 7, 7, 7, 7, 7, 7, 7, 7, 7, 7, 7, 7, 7, 7, 7, 7, 7, 7, 7, 7, 7, 7, 7, 7, 7, 7, 7, 7, 7, 7, 7, 7, 7, 7, 7, 7, 7, 7, 7, 7, 7, 7, 7, 7, 8, 8, 8, 8, 8, 8, 8, 8, 8, 8, 8, 8, 8, 8, 8, 8, 8, 8, 8, 8, 8, 8, 8, 8, 8, 8, 8, 8, 8, 8, 8, 8, 8, 8, 8, 8, 8, 8, 8, 8, 8, 8, 8, 8, 8, 8, 8, 8, 8, 8, 8, 8, 8, 8, 8, 8, 8, 8, 8, 8, 8, 8, 8, 8, 8, 8, 8, 8, 8, 8, 8, 8, 8, 8, 8, 8, 8, 8, 8, 8, 8, 8, 8, 8, 8, 8, 8, 8, 8, 8, 8, 8, 8, 8, 8, 8, 8, 8, 8, 8, 8, 8, 8, 8, 8, 8, 8, 8, 8, 8, 8, 8, 8, 8, 8, 8, 8, 8, 8, 8, 8, 8, 8, 8, 8, 8, 8, 8]) ZrK)) (u 7 .rows (i Zkn .tt)))))))))))))))
theorem ZON : YV Tryz.prog ZN6 12 65 ZxS = ZN7 := by kernel_rfl
theorem ZOa (S : Sig GG) (hS : OdSig S) : ZA S Tryz.prog 37 Zyn := by
 refine Zg S (C := ZLH) (fuel := 12) (ZU trivial ⟨⟨⟨by decide, ZMs S hS.fi.js.jt⟩, ⟨by decide, ZrB S hS.fi.js.jt⟩, trivial⟩, trivial⟩ trivial) fun ρ => ?_
 rw [ZNt]
 simp only [ZNx, ZvE, ZzZ, ZDS, ZIF, hS.fi.js.jt.u540, hS.fi.js.jt.u565, hS.fi.js.jt.u566, ZQ, ZPY, VC.den, SX.den, Env.upd, ZX, ZE, beq_iff_eq, ZPQ, beq_eq_false_iff_ne, ne_eq, ZPP, ZPO, Int.reduceToNat, Nat.reduceEqDiff, reduceIte, sB, sC]
 intro h1 h2 h3 h4 h5
 refine ⟨fun h => ⟨?_, trivial⟩, fun h => ⟨fun h' => ⟨?_, trivial⟩, fun h' => ⟨?_, trivial⟩⟩⟩
 ·unfold ltB; simp; omega
 ·unfold ltB; simp; omega
 ·unfold ltB; simp; omega
theorem ZLo (S : Sig GG) (hS : OdSig S) : ZA S Tryz.prog 105 Zx0 := by
 refine Zg S (C := ZMK) (fuel := 12) (ZU ⟨Zi (by decide) (ZOa S hS), trivial⟩ ⟨⟨trivial, trivial, trivial⟩, trivial⟩ trivial) fun ρ => ?_
 rw [ZOu]
 simp only [ZMt, ZHh, ZhY, ZxT, ZA0, ZH0, Zw3, ZIT, ZHm, ZIB, ZJP, ZCe, ZAn, hS.fi.js.jt.u540, hS.fi.js.jt.u560, hS.fi.js.jt.u565, hS.fi.js.jt.u566, hS.u621, hS.u622, hS.u623, hS.u624, ZQ, ZPY, VC.den, SX.den, Env.upd, ZX, ZE, beq_iff_eq, ZPQ, beq_eq_false_iff_ne, ne_eq, ZPP, ZPO, Int.reduceToNat, Nat.reduceEqDiff, reduceIte, sB, sC]
 generalize (ρ 1).tR = P
 generalize (ρ 5).tR = RT
 generalize ZO (U.co S Srt.g (ρ 6)) = L
 generalize (ρ 2).tI = n
 intro h0 h1 h2 hv hn
 subst h1
 refine ⟨rfl, ZDu, fun i Q i0 hl g1 => ⟨fun hi => ⟨by omega, ZP2 _, ZJ0 g1 i0 (by omega), fun j Q2 j0 j1 hl2 g2 => ⟨fun hj => ?_, fun hj => ?_⟩⟩, fun hi => ⟨?_, trivial⟩⟩⟩
 ·obtain ⟨t1, t2, t3, t4, t5⟩ := ZES g2 hj hv hn
  refine ⟨by omega, by omega, ⟨by omega, by omega⟩, by omega, by omega, by omega, t1, t2, t3, fun r hr => ⟨fun hneg => ⟨by omega, by omega, t4 ?_, trivial⟩, fun hpos => ⟨⟨by omega, by omega⟩, by omega, by omega, by omega, t5 ?_, trivial⟩⟩⟩
  ·have : ltB r 0 = true := by unfold ltB; simp; omega
   rw [this] at hr
   have := Zes.mp hr.symm
   exact this
  ·intro hlt
   have : ltB r 0 = false := by unfold ltB; simp; omega
   rw [this] at hr
   have hf : ltB (ZCz RT L (Q2.getD j.toNat [])) (ZCz RT L (Q2.getD (j + -1).toNat [])) = false := hr.symm
   have ht : ltB (ZCz RT L (Q2.getD j.toNat [])) (ZCz RT L (Q2.getD (j + -1).toNat [])) = true := Zes.mpr hlt
   rw [ht] at hf; cases hf
 ·exact ⟨⟨by omega, by omega⟩, by omega, by omega, by omega, ZBZ g2 hj j0, trivial⟩
 ·obtain ⟨q1, q2⟩ := g1
  refine ⟨q1, ?_⟩
  have q2 : ZFI RT L (Q.take i.toNat) := q2
  rw [ZP3 (by omega)] at q2
  exact q2
theorem ZN9 (S : Sig GG) (hS : OdSig S) : ZA S Tryz.prog 81 ZzQ := by
 refine Zg S (C := ZLs) (fuel := 12) (ZU ⟨Zi (by decide) (ZLo S hS), trivial⟩ trivial trivial) fun ρ => ?_
 rw [ZNh]
 simp only [ZOE, ZGN, hS.fi.js.jt.u560, hS.u621, hS.u622, ZQ, ZPY, VC.den, SX.den, Env.upd, ZX, ZE, beq_iff_eq, ZPQ, beq_eq_false_iff_ne, ne_eq, ZPP, ZPO, Int.reduceToNat, Nat.reduceEqDiff, reduceIte, sB, sC]
 intro h0 h1 h2 hv hn
 exact ⟨⟨by omega, by omega⟩, fun _ _ _ => trivial, trivial⟩
theorem ZNL (S : Sig GG) (hS : OdSig S) : ZA S Tryz.prog 65 ZxS := by
 refine Zg S (C := ZN6) (fuel := 12) (ZU ⟨Zi (by decide) (ZN9 S hS), trivial⟩ trivial trivial) fun ρ => ?_
 rw [ZON]
 simp only [ZN7, Zk3, Zwn, ZEB, Zkn, ZEz, ZDr, ZEN, Zyz, ZE5, ZDN, Zr4, ZrK, hS.fi.js.jt.u560, hS.u621, hS.u622, ZQ, ZPY, VC.den, SX.den, Env.upd, ZX, ZE, beq_iff_eq, ZPQ, beq_eq_false_iff_ne, ne_eq, ZPP, ZPO, Int.reduceToNat, Nat.reduceEqDiff, reduceIte, sB, sC]
 generalize (ρ 2).tI = n
 intro h0 h1 h2 hv hn
 have e17 : (ap1 17 (U.int n : U GG)) = .int n := by show U.int (IntKind.u64.wrap n) = _; rw [ZEG h0 h2]
 have e14 : (ap1 14 (U.int n : U GG)) = .int n := by show U.int (IntKind.u8.wrap n) = _; rw [ZvA h0 h2]
 simp only [e17, e14, U.tIi]
 refine ⟨fun h => absurd h (by omega), fun _ => ⟨fun h => absurd h (by omega), fun _ => ⟨fun h => absurd h (by omega), fun _ => ⟨by omega, by omega, ⟨by omega, ?_⟩, fun _ _ => trivial⟩⟩⟩⟩
 exact Int.le_trans (Int.ofNat_le.2 (Nat.le_of_lt (UInt8.toNat_lt _))) (by decide)
def Y4 (RT : List (List Int)) (L : List Tx) (b : Int) : Tx := atT L (Zc2 b RT : Nat)
def okU (RT : List (List Int)) (L : List Tx) (t : Int) (u : List Int) : Prop := g0 u ≠ t -> ¬ (Y4 RT L (g0 u)).com < (Y4 RT L t).beg
def ZLu (k RT : List (List Int)) (M : List (Int × Int)) (L : List Tx) : Prop :=
 (∀ u ∈ k.drop 1, okU RT L (g0 (k.getD 0 [])) u) /\ (Y4 RT L (g0 (k.getD 0 []))).bad = [] /\ ∀ r ∈ (Y4 RT L (g0 (k.getD 0 []))).rds, Z3 M (r.drop 1) = true
structure OfSig (S : Sig GG) : Prop where
 od : OdSig S
 u630 : ∀ a b c d, S.usr 630 a b c d = .bool (Zn (∀ j : Nat, (j : Int) < c.tI -> Z3 b.tM ((a.tR.getD j []).drop 1) = true))
 u631 : ∀ a b c d, S.usr 631 a b c d = .bool (Zn (ZLu a.tR b.tR c.tM (ZO d)))
 u633 : ∀ a b c d, S.usr 633 a b c d = .bool (Zn (∀ t ∈ ZO a, t.rds.length <= 1000000))
 u632 : ∀ a b c d, S.usr 632 a b c d = .bool (Zn (∀ j : Nat, (j : Int) < d.tI -> okU b.tR (ZO c) (g0 (a.tR.getD 0 [])) ((a.tR.drop 1).getD j [])))
def Zyo : Ctr := ⟨[.int, .int, .rows, .int, .int, .rows, .g], [.one (.cap (.fn 66) (.ptr (ai 0) 0)), .one sF], [.cel (ai 0) 0 [slC (ai 1) (Zh (rA 2)) (ai 3) 1], pAr (ai 1) (rA 2) (ai 4), txC (rA 5) (gA 6)],
 [usB 620 (rA 2) z0 z0, eLe (Zh (rA 2)) (.int 12), usB 560 (rA 2) (rA 5) z0, usB 621 (rA 2) z0 z0], [.int, .int, .rows], .one (slC (ai 7) (Zh (rA 2)) (ai 8) 1), [pAr (ai 1) (rA 2) (ai 4), txC (rA 5) (gA 6), pAr (ai 7) (rA 9) (ai 8)],
 [.us .bool 622 (rA 9) (rA 2) (rA 5) (gA 6), eLe (Zh (rA 2)) (ai 8), .f2 50 (eLe z0 (ai 7)) (.f2 45 (Zh (rA 2)) z0), .f2 45 (Zh (rA 9)) (Zh (rA 2))]⟩
def ZNZ : Cx := { specs := [(64, [ZdF]), (65, [ZxS])], anns := [] }
def ftA : List Srt := [.int, .int, .amap, .int, .rows, .int, .int, .rows, .g]
def ftK : SX := Zu (ZoV (ai 0)) (rA 4)
def ftX : SX := .us .bool 631 ftK (rA 7) (mA 2) (gA 8)
def ZBe : Ctr := ⟨ftA, [.one (.ptr (ai 0) 0), .one (.map (ai 1)), .one (slC (ai 3) (Zh (rA 4)) (ai 5) 1)], [scC (ai 1) (mA 2), pAr (ai 3) (rA 4) (ai 6), txC (rA 7) (gA 8)],
 [usB 565 (rA 7) (ai 0) z0, usB 560 (rA 4) (rA 7) z0, eLe (Zh (rA 4)) (.int 1000), eLe (Zh (rA 4)) (ai 5), eLe z0 (ai 1), usB 633 (gA 8) z0 z0], [.bool], .one (.bool (qA 9)), [scC (ai 1) (mA 2), pAr (ai 3) (rA 4) (ai 6), txC (rA 7) (gA 8)], [.f2 48 (qA 9) ftX]⟩
def ftsI : Inv := ⟨[.int], [(11, .one (.int .i64 (di 0)))], [], [eLe z0 (di 0), eLe (di 0) (Zh (rA 4)), .us .bool 632 ftK (rA 7) (gA 8) (di 0)], .f2 41 (Zh (rA 4)) (di 0)⟩
def ftsE : SX := .f2 45 (nt (rA 4) (ai 10) 0) (ai 0)
def ftR : SX := usR 545 (gA 8) (ixB (rA 7) (ai 0)) z0
def ftsJ : Inv := ⟨[.int], [(8, .one (.int .i64 (di 0)))], [], [eLe z0 (di 0), eLe (di 0) (Zh ftR), usB 630 ftR (mA 2) (di 0)], .f2 41 (Zh ftR) (di 0)⟩
def ZLY : Cx := { specs := [(47, [ZiU])], anns := [(68, [(1, .ghost ZM6 []), (2, .inv ftsI), (4, .split ftsE), (4, .iff (ZcP ftsE)), (4, .ghost ZD4 [.tmp 9, .tmp 11, .tmp 0]), (500004, .iff (ZcP ftsE)), (500004, .ghost ZDy [.tmp 0]), (7, .ghost ZrY [.tmp 0]), (500007, .ghost ZkN [.tmp 0])]), (113, [(2, .inv ftsJ)])] }
def ZMA : VC := i (p 620 (r 2)) (i (l (.f1 32 (r 2)) (k 12)) (i (c 560 (r 2) (r 5)) (i (p 621 (r 2)) (n (l (.f1 32 (r 2)) (k 1000000)) (u 7 .int (u 8 .int (i (l (.f1 32 (r 2)) (a 8)) (i (.f2 50 (l z (a 7)) (e (.f1 32 (r 2)) z)) (n (e (.f1 32 (r 2)) (.f1 32 (r 2))) (u 9 .rows (i (.us .bool 622 (r 9) (r 2) (r 5) (g 6)) (n (e (.f1 32 (r 9)) (.f1 32 (r 2))) .tt))))))))))))
theorem ZNs : YV Tryz.prog ZNZ 12 35 Zyo = ZMA := by kernel_rfl
def ZBz : SX := .f2 124 (.f2 122 (a 0) (.f1 152 z)) (r 4)
def Ztc : SX := .f3 112 (r 4) (a 10) z
def ZHJ : SX := e Ztc (a 0)
def ZsR : SX := .f2 40 (a 10) (k 1)
def ZGW : SX := .f1 23 ZsR
def ZJM : SX := .f2 41 (.f1 32 (r 4)) ZsR
def ZJg : SX := l z ZJM
def ZJe : SX := t ZJM (.f2 41 (.f1 32 (r 4)) (a 10))
def ZIn : SX := l z ZsR
def ZHg : SX := l ZsR (.f1 32 (r 4))
def Zy2 : SX := .us .bool 632 ZBz (r 7) (g 8) ZsR
def Zt8 : SX := d 542 (g 8) (d 566 (r 7) Ztc)
def Zb7 : SX := d 566 (r 7) (a 0)
def Zxq : SX := d 541 (g 8) Zb7
def Zr7 : SX := .us .bool 631 ZBz (r 7) (m 2) (g 8)
def ZBI : SX := .f2 48 (.bool false) Zr7
def ZvL : SX := .f3 112 (r 7) Zb7 z
def Zz1 : SX := v 552 (g 8)
def ZcK : SX := wR 545 (g 8) Zb7
def ZdV : SX := .f1 32 ZcK
def ZBA : SX := .f1 30 (wN 546 (g 8) Zb7)
def Zsj : SX := e ZBA z
def Zsg : SX := l z Zb7
def Ziy : SX := .f2 40 (a 11) (k 1)
def ZuM : SX := .f2 41 ZdV Ziy
def ZPC : VC := i (c 565 (r 7) (a 0)) (i (c 560 (r 4) (r 7)) (i (l (.f1 32 (r 4)) (k 1000)) (i (l (.f1 32 (r 4)) (a 5)) (i (l z (a 1)) (i (p 633 (g 8)) (u 9 .int (i (l z (a 9)) (i (c 558 (r 7) (g 8)) (n (y 632 ZBz (r 7) (g 8)) (u 10 .int (i (l z (a 10)) (i (l (a 10) (.f1 32 (r 4))) (i (.us .bool 632 ZBz (r 7) (g 8) (a 10)) (.and (i (t (a 10) (.f1 32 (r 4))) (.and (i ZHJ (n (l z Ztc) (n ZGW (n ZJg (n ZJe (n ZIn (n ZHg (n Zy2 .tt)))))))) (i (.f1 2 ZHJ) (n (c 565 (r 7) Ztc) (n (.f1 2 (e (a 0) Ztc)) (.and (i (t Zt8 Zxq) (n ZBI .tt)) (i (l Zxq Zt8) (n ZGW (n ZJg (n ZJe (n ZIn (n ZHg (n Zy2 .tt))))))))))))) (i (l (.f1 32 (r 4)) (a 10)) (i (e (a 0) ZvL) (i (t Zb7 Zz1) (i (l ZdV (.f3 112 (r 7) Zb7 (k 3))) (i (l ZBA (.f3 112 (r 7) Zb7 (k 5))) (i (.f2 50 (l z (.f3 112 (r 7) Zb7 (k 2))) (e ZdV z)) (i (.f2 50 (l z (.f3 112 (r 7) Zb7 (k 4))) Zsj) (i (l z (.f3 112 (r 7) Zb7 (k 1))) (i (l z ZvL) (i (e (.f1 32 (r 7)) Zz1) (.and (i Zsj (n (c 630 ZcK (m 2)) (u 11 .int (i (l z (a 11)) (i (l (a 11) ZdV) (i (y 630 ZcK (m 2) (a 11)) (.and (i (t (a 11) ZdV) (u 12 .int (i (l z (a 12)) (u 13 .bool (i (.f2 48 (q 13) (c 530 (m 2) (.f2 122 (.f3 112 ZcK (a 11) (k 1)) (.f2 122 (.f3 112 ZcK (a 11) (k 2)) (.f2 122 (.f1 35 (.f1 36 (.f3 112 ZcK (a 11) (k 3)))) (.f2 122 (.f1 35 (.f1 36 (.f3 112 ZcK (a 11) (k 4)))) (.f2 122 (.f1 3 (.f1 2 (e (.f3 112 ZcK (a 11) (k 5)) z))) (.f2 122 (.f3 112 ZcK (a 11) (k 6)) (.f1 152 z))))))))) (.and (i (.f1 2 (q 13)) (n Zsg (n (.f2 48 (t (a 11) z) Zr7) .tt))) (i (.f1 2 (.f1 2 (q 13))) (n (.f1 23 Ziy) (n (l z ZuM) (n (t ZuM (.f2 41 ZdV (a 11))) (n (l z Ziy) (n (l Ziy ZdV) (n (y 630 ZcK (m 2) Ziy) .tt))))))))))))) (i (l ZdV (a 11)) (n Zsg (n (.f2 48 (.bool true) Zr7) .tt)))))))))) (i (.f1 2 Zsj) (n Zsg (n ZBI .tt))))))))))))))))))))))))))))
theorem ZMm : YV Tryz.prog ZLY 12 68 ZBe = ZPC := by kernel_rfl
theorem ZLF (S : Sig GG) (hS : OfSig S) : ZA S Tryz.prog 35 Zyo := by
 refine Zg S (C := ZNZ) (fuel := 12) (ZU ⟨Zi (by decide) (ZPi S hS.od.u620), Zi (by decide) (ZNL S hS.od), trivial⟩ trivial trivial) fun ρ => ?_
 rw [ZNs]
 simp only [ZMA, hS.od.fi.js.jt.u560, hS.od.u620, hS.od.u621, hS.od.u622, ZQ, ZPY, VC.den, SX.den, Env.upd, ZX, ZE, beq_iff_eq, ZPQ, beq_eq_false_iff_ne, ne_eq, ZPP, ZPO, Int.reduceToNat, Nat.reduceEqDiff, reduceIte, sB, sC]
 generalize (ρ 2).tR = P
 intro h1 h2 h3 h4
 refine ⟨by omega, fun b c _ _ => ⟨trivial, fun Q hQ => ⟨?_, trivial⟩⟩⟩
 have := hQ.1.length_eq
 omega
theorem ZOe (S : Sig GG) (hS : OfSig S) : ZA S Tryz.prog 68 ZBe := by
 refine Zg S (C := ZLY) (fuel := 12) (ZU ⟨Zi (by decide) (Zqi S hS.od.fi.js.jt.jb), trivial⟩ ⟨⟨⟨by decide, ZFj S hS.od.fi.js.jt⟩, trivial, trivial, trivial, ⟨by decide, ZAU S hS.od.fi.js.jt⟩, trivial, ⟨by decide, ZrB S hS.od.fi.js.jt⟩, ⟨by decide, ZcM S hS.od.fi.js.jt⟩, ⟨by decide, Zcw S hS.od.fi.js.jt⟩, trivial⟩, ⟨trivial, trivial⟩, trivial⟩ trivial) fun ρ => ?_
 rw [ZMm]
 simp only [ZPC, ZBz, Ztc, ZHJ, ZsR, ZGW, ZJM, ZJg, ZJe, ZIn, ZHg, Zy2, Zt8, Zb7, Zxq, Zr7, ZBI, ZvL, Zz1, ZcK, ZdV, ZBA, Zsj, Zsg, Ziy, ZuM, hS.od.fi.js.jt.jb.u530, hS.od.fi.js.jt.u541, hS.od.fi.js.jt.u542, hS.od.fi.js.jt.u545, hS.od.fi.js.jt.u546, hS.od.fi.js.jt.u552, hS.od.fi.js.jt.u558, hS.od.fi.js.jt.u560, hS.od.fi.js.jt.u565, hS.od.fi.js.jt.u566, hS.u630, hS.u631, hS.u632, hS.u633, ZQ, ZPY, VC.den, SX.den, Env.upd, ZX, ZE, beq_iff_eq, ZPQ, beq_eq_false_iff_ne, ne_eq, ZPP, ZPO, Int.reduceToNat, Nat.reduceEqDiff, reduceIte, sB, sC]
 simp only [Zkb, Zf2]
 generalize (ρ 4).tR = P
 generalize (ρ 7).tR = RT
 generalize (ρ 2).tM = M
 generalize ZO (U.co S Srt.g (ρ 8)) = L
 generalize (ρ 0).tI = t
 generalize (ρ 5).tI = c5
 generalize (ρ 1).tI = mb
 intro ht hv h1 h2 h3 hrl bx hbx hpl
 have bl0 : ∀ b, Zo7 RT b -> 0 <= b := fun b hb => by
  obtain ⟨k, hk, rfl⟩ := hb
  exact hpl.2.2 _ (by rw [ZPR, ZPU hk]; exact ZQe hk)
 refine ⟨fun j hj => absurd hj (by omega), fun i i0 i1 g1 => ?_⟩
 obtain ⟨n, rfl⟩ := ZPJ i0
 have en : ((n : Int) + 1).toNat = n + 1 := by omega
 have gd : ∀ (j : Nat) (hj : j < P.length), P.getD j [] = P[j] := fun j hj => by rw [ZPR, ZPU hj]; rfl
 have hb : n < P.length -> Zo7 RT (g0 (P.getD n [])) := fun hn => by
  obtain ⟨b, e, hb⟩ := hv P[n] (ZQe hn)
  rw [gd n hn, e]; exact hb
 have step : okU RT L t (P.getD n []) -> ∀ j : Nat, (j : Int) < (n : Int) + 1 -> okU RT L t (P.getD j []) := fun ho j hj => by
  rcases ZPL j n with q | q
  ·exact g1 j (by omega)
  ·have : j = n := by omega
   subst this; exact ho
 have nofit : ∀ n : Nat, n < P.length -> ¬ okU RT L t (P.getD n []) -> false = Zn (ZLu ([t] :: P) RT M L) := fun n hn h => by
  refine (ZD fun hf => h ?_).symm
  exact hf.1 (P.getD n []) (by rw [gd n hn]; exact ZQe hn)
 simp only [ZPY]
 refine ⟨fun hn => ?_, fun hn => ?_⟩
 ·have hn : n < P.length := by omega
  have hbn := hb hn
  refine ⟨fun he => ⟨bl0 _ hbn, ⟨by omega, by omega⟩, by omega, by omega, by omega, by omega, step (fun hne => absurd he hne), trivial⟩, fun hne => ⟨hbn, fun e => hne e.symm, fun hlt => ⟨?_, trivial⟩, fun hge => ⟨⟨by omega, by omega⟩, by omega, by omega, by omega, by omega, step (fun _ => ?_), trivial⟩⟩⟩
  ·exact nofit n hn fun ho => ho hne hlt
  ·unfold Y4
   show ¬ (atT L (Zc2 ((P.getD n []).getD 0 0) RT : Nat)).com < _
   omega
 ·have hall : ∀ u ∈ P, okU RT L t u := fun u hu => by
   obtain ⟨j, hj, rfl⟩ := List.getElem_of_mem hu
   rw [<- gd j hj]; exact g1 j (by omega)
  intro _ _ _ _ _ _ _ _ _
  generalize hT : atT L (Zc2 t RT : Nat) = T at *
  have hT2 : Y4 RT L t = T := hT
  have hTl : T.rds.length <= 1000000 := by
   rw [<- hT]
   unfold atT
   rw [ZPY]
   rcases ZPL (Zc2 t RT) L.length with q | q
   ·rw [Yv q]; exact hrl _ (ZQe q)
   ·rw [ZPR, List.getElem?_eq_none q]; exact Nat.zero_le _
  have gr : ∀ (j : Nat) (hj : j < T.rds.length), T.rds.getD j [] = T.rds[j] := fun j hj => by rw [ZPR, ZPU hj]; rfl
  refine ⟨fun hb0 => ⟨fun j hj => absurd hj (by omega), fun i i0 i1 g2 => ?_⟩, fun hb0 => ⟨by omega, ?_, trivial⟩⟩
  ·obtain ⟨m, rfl⟩ := ZPJ i0
   simp only [ZPY]
   refine ⟨fun hm b hbb v hv2 => ⟨fun hno => ⟨by omega, ?_, trivial⟩, fun hyes => ⟨⟨by omega, by omega⟩, by omega, by omega, by omega, by omega, fun j hj => ?_, trivial⟩⟩, fun hm => ⟨by omega, ?_, trivial⟩⟩
   ·have hv3 : Z3 M ((T.rds.getD m []).drop 1) = false := by rw [<- hv2]; simpa using hno
    have : ltB (m : Int) 0 = false := by unfold ltB; simp
    rw [this]
    refine (ZD fun hf => ?_).symm
    have h := hf.2.2
    have hh := h (T.rds.getD m []) (by show _ ∈ (Y4 RT L t).rds; rw [hT2, gr m (by omega)]; exact ZQe (by omega))
    rw [hv3] at hh; cases hh
   ·have hv3 : Z3 M ((T.rds.getD m []).drop 1) = true := by rw [<- hv2]; simpa using hyes
    rcases ZPL j m with q | q
    ·exact g2 j (by omega)
    ·have : j = m := by omega
     subst this; exact hv3
   ·refine (ZC ⟨hall, ?_, fun r hr => ?_⟩).symm
    ·show (Y4 RT L t).bad = []
     rw [hT2]; exact ZP6 (by omega)
    ·have hr : r ∈ (Y4 RT L t).rds := hr
     rw [hT2] at hr
     obtain ⟨j, hj, rfl⟩ := List.getElem_of_mem hr
     rw [<- gr j hj]; exact g2 j (by omega)
  ·refine (ZD fun hf => hb0 ?_).symm
   have h := hf.2.1
   have h : (Y4 RT L t).bad = [] := h
   rw [hT2] at h
   rw [h]; rfl
/-! ### Plain words -/
abbrev Stf := Int -> Bool × (List UInt8 × Bool)
def Zm6 (M : List (Int × Int)) : Stf := fun q => (Zx M q, vw (YB 0 M q))
def ZFr (f : Stf) (ch : List (Int × Int)) : Stf := fun q => if Zx ch q = true then (true, vw (YB 0 ch q)) else f q
def ZCB (RT : List (List Int)) (L : List Tx) (f : Stf) (P : List (List Int)) (t : Int) : Prop :=
 (∀ u ∈ P, okU RT L t u) /\ (Y4 RT L t).bad = [] /\ ∀ r ∈ (Y4 RT L t).rds, Z2 f (r.drop 1) = true
def ZtD (RT : List (List Int)) (L : List Tx) (f : Stf) (P : List (List Int)) (rec : Stf -> List (List Int) -> Option (List Int)) (j : Nat) : Option (List Int) :=
 if Zn (ZCB RT L f P (g0 (P.getD j []))) = true then (rec (ZFr f (Y4 RT L (g0 (P.getD j []))).ch) (P.eraseIdx j)).map ((Y4 RT L (g0 (P.getD j []))).who :: ·) else none
def ZtB (RT : List (List Int)) (L : List Tx) : Nat -> Stf -> List (List Int) -> Option (List Int)
 | 0, _, P => if P = [] then some [] else none
 | n + 1, f, P => if P = [] then some [] else (List.range P.length).findSome? fun j => ZtD RT L f P (ZtB RT L n) j
def Zm8 (RT : List (List Int)) (L : List Tx) (M : List (Int × Int)) (P : List (List Int)) : Option (List Int) := ZtB RT L P.length (Zm6 M) P
structure OuSig (S : Sig GG) : Prop where
 ft : OfSig S
 u640 : ∀ a b c d, S.usr 640 a b c d = .rows (a.tR.eraseIdx b.tI.toNat)
 u641 : ∀ a b c d, S.usr 641 a b c d = .ints ((Zm8 c.tR (ZO a) b.tM d.tR).getD [])
 u642 : ∀ a b c d, S.usr 642 a b c d = .bool (Zm8 c.tR (ZO a) b.tM d.tR).isSome
 u643 : ∀ a b c d, S.usr 643 a b c d = .bool (Zn (∀ j : Nat, (j : Int) < g0 (d.tR.getD 0 []) -> ZtD c.tR (ZO a) (Zm6 b.tM) (d.tR.drop 1) (ZtB c.tR (ZO a) ((d.tR.drop 1).length - 1)) j = none))
def trmC : Ctr := ⟨[.int, .int, .int, .rows, .int], [.one (slC (ai 0) (ai 1) (ai 2) 1)], [pAr (ai 0) (rA 3) (ai 4)], [eLe z0 (ai 1), eLe (ai 1) (Zh (rA 3))], [], .tup [], [pAr (ai 0) (tk (rA 3) (ai 1)) (ai 4)], []⟩
theorem ZMJ {G : Type} (S : Sig G) : YH S trmC := by
 refine ZL S fun T w0 ρ h hu hp hd hr hpre => ⟨ρ, Ext.refl _ _, ?_, fun x hx => nomatch hx⟩
 have e1 : hpDen T ρ w0 trmC.pre = Zd (rAD pE (ρ 0).tI (ρ 3).tR (ρ 4).tI) emp := rfl
 have e2 : hpDen T ρ w0 trmC.post = Zd (rAD pE (ρ 0).tI ((ρ 3).tR.take (ρ 1).tI.toNat) (ρ 4).tI) emp := rfl
 rw [e1, Zc] at hpre
 rw [e2, Zc]
 obtain ⟨spare, h1, h2, h3, h4⟩ := hpre
 generalize (ρ 3).tR = R at *
 generalize (ρ 1).tI.toNat = n at *
 have hv : pE.vals (U.rows R : U Unit) = pE.vals (U.rows (R.take n) : U Unit) ++ pE.vals (U.rows (R.drop n) : U Unit) := by
  show R.flatMap _ = (R.take n).flatMap _ ++ (R.drop n).flatMap _
  rw [<- List.flatMap_append, List.take_append_drop]
 refine ⟨pE.vals (U.rows (R.drop n) : U Unit) ++ spare, ?_, h2, h3, ?_⟩
 ·rw [<- h1, hv]; simp only [ZPW]; omega
 ·rw [hv, ZQf] at h4; exact h4
def dlL : SX := SX.mk2 40 (ai 4) (SX.mk2 41 (Zh (rA 1)) (ZhM (ai 4)))
def ZxJ : Ctr := ⟨[.int, .rows, .int, .int, .int], [.one (slC (ai 0) (Zh (rA 1)) (ai 2) 1), .one (.int .i64 (ai 4)), .one (.int .i64 (ZhM (ai 4)))], [pAr (ai 0) (rA 1) (ai 3)],
 [eLe z0 (ai 4), eLt (ai 4) (Zh (rA 1)), eLe (Zh (rA 1)) (ai 2), eLe dlL (ai 2), eLe (ai 2) (ai 3), eLe (Zh (rA 1)) (.int 1000)], [], .one (slC (ai 0) (SX.mk2 41 (Zh (rA 1)) (.int 1)) (ai 2) 1), [pAr (ai 0) (usR 640 (rA 1) (ai 4) z0) (ai 3)], []⟩
def ZOp : Cx := { specs := [], anns := [(70, [(7, .ghost trmC [.tmp 0])])] }
def ZlW : SX := .f2 40 (a 4) (k 1)
def ZwZ : SX := .f2 41 (.f1 32 (r 1)) ZlW
def ZdD : SX := .f2 40 (a 4) ZwZ
def ZKj : SX := e (a 4) ZlW
def ZIY : SX := wR 640 (r 1) (a 4)
def ZIf : SX := .f2 40 (.f1 32 (r 1)) (k (-1))
def ZCj : SX := .f2 41 (.f1 32 (r 1)) ZdD
def ZJN : SX := .f2 40 ZdD ZCj
def ZI1 : SX := .f2 115 (r 1) (a 4)
def ZJi : SX := .f2 115 (.f2 118 (r 1) ZlW) ZwZ
def ZzL : SX := .f2 118 (r 1) ZdD
def Zya : SX := .f2 121 ZI1 (.f2 121 ZJi ZzL)
def ZyV : SX := .f2 115 Zya ZdD
def ZtE : SX := .f2 127 ZCj (.f2 122 (k (-1)) (.f1 152 z))
def ZzX : SX := .f2 118 Zya ZJN
def ZNI : VC := i (l z (a 4)) (i (t (a 4) (.f1 32 (r 1))) (i (l (.f1 32 (r 1)) (a 2)) (i (l ZdD (a 2)) (i (l (a 2) (a 3)) (i (l (.f1 32 (r 1)) (k 1000)) (n (l z (a 2)) (n (l (a 4) ZlW) (n (l z ZlW) (n (l ZlW (.f1 32 (r 1))) (.and (i ZKj (n (.f2 155 ZIY (r 1)) (n (e ZIf (.f1 32 (r 1))) .tt))) (i (.f1 2 ZKj) (n (l (a 4) (a 2)) (n (l (a 4) (.f1 32 (r 1))) (n (l ZdD (a 3)) (n (l z ZwZ) (n (l ZwZ (.f2 41 (a 2) ZlW)) (n (l (.f2 40 ZdD (k 1)) (.f1 32 (r 1))) (n (l z ZdD) (n (l ZdD (.f1 32 (r 1))) (n (l z ZCj) (n (l ZCj (.f2 41 (a 2) ZdD)) (n (l ZJN (.f2 40 (.f1 32 ZI1) (.f2 40 (.f1 32 ZJi) (.f1 32 ZzL)))) (n (l ZdD (.f2 40 (.f1 32 ZyV) (.f2 40 (.f1 32 ZtE) (.f1 32 ZzX)))) (n (.f2 155 ZIY (.f2 115 (.f2 121 ZyV (.f2 121 ZtE ZzX)) ZdD)) (n (e ZIf ZdD) .tt)))))))))))))))))))))))))
theorem ZOQ : YV Tryz.prog ZOp 12 70 ZxJ = ZNI := by kernel_rfl
theorem ZM7 (S : Sig GG) (hS : OuSig S) : ZA S Tryz.prog 70 ZxJ := by
 refine Zg S (C := ZOp) (fuel := 12) (ZU trivial ⟨⟨⟨by decide, ZMJ S⟩, trivial⟩, trivial⟩ trivial) fun ρ => ?_
 rw [ZOQ]
 simp only [ZNI, ZlW, ZwZ, ZdD, ZKj, ZIY, ZIf, ZCj, ZJN, ZI1, ZJi, ZzL, Zya, ZyV, ZtE, ZzX, hS.u640, ZQ, ZPY, VC.den, SX.den, Env.upd, ZX, ZE, beq_iff_eq, ZPQ, beq_eq_false_iff_ne, ne_eq, ZPP, ZPO, Int.reduceToNat, Nat.reduceEqDiff, reduceIte, sB, sC]
 generalize (ρ 1).tR = R
 generalize (ρ 2).tI = c
 generalize (ρ 3).tI = c3
 intro h1 h2 h3 h4 h5 h6
 generalize (ρ 4).tI = i at *
 obtain ⟨n, rfl⟩ := ZPJ h1
 have hn : n < R.length := by omega
 have e1 : ((n : Int) + 1).toNat = n + 1 := by omega
 have e2 : ((R.length : Int) - ((n : Int) + 1)).toNat = R.length - (n + 1) := by omega
 have e3 : ((n : Int) + ((R.length : Int) - ((n : Int) + 1))).toNat = R.length - 1 := by omega
 simp only [ZPY, e1, e2, e3, ZvI, U.tRi, U.tIi] at *
 have l1 : (R.take n).length = n := by rw [ZPT]; omega
 have l2 : ((R.drop (n + 1)).take (R.length - (n + 1))) = R.drop (n + 1) := ZP3 (by rw [ZP5]; omega)
 have l3 : (R.drop (n + 1)).length = R.length - (n + 1) := ZP5
 have l4 : (R.drop (R.length - 1)).length = 1 := by rw [ZP5]; omega
 have l5 : (R.take n ++ (R.drop (n + 1) ++ R.drop (R.length - 1))).take (R.length - 1) = R.take n ++ R.drop (n + 1) := by
  rw [<- ZQf, List.take_left']
  rw [ZPW, l1, l3]; omega
 have l6 : (R.take n ++ R.drop (n + 1)).length = R.length - 1 := by rw [ZPW, l1, l3]; omega
 simp only [l2, l5]
 refine ⟨by omega, by omega, by omega, by omega, fun h => absurd h (by omega), fun _ => ⟨by omega, by omega, by omega, by omega, by omega, by omega, by omega, by omega, by omega, by omega, by rw [l1, l3, l4]; omega, ?_, ?_, by omega, trivial⟩⟩
 ·rw [l6]; omega
 ·rw [List.take_left' l6, List.eraseIdx_eq_take_drop_succ]
/-! ### Plain lemmas of the order -/
theorem ZIk (M : List (Int × Int)) : Zhs M (Zm6 M) := fun _ => ⟨rfl, rfl⟩
theorem ZE2 {M ch M' : List (Int × Int)} (h : ZwI M ch M') : Zm6 M' = ZFr (Zm6 M) ch := by
 funext q
 obtain ⟨a, b⟩ := h q
 unfold Zm6 ZFr
 by_cases hc : Zx ch q = true
 ·rw [if_pos hc] at b ⊢
  rw [a, hc, b, Bool.or_true]
 ·rw [if_neg hc] at b ⊢
  have : Zx ch q = false := by simpa using hc
  rw [a, this, b, Bool.or_false]
theorem ZFq (RT : List (List Int)) (L : List Tx) (M : List (Int × Int)) (P : List (List Int)) (t : Int) : ZLu ([t] :: P) RT M L ↔ ZCB RT L (Zm6 M) P t := by
 unfold ZLu ZCB
 simp only [ZnF (ZIk M)]
 exact Iff.rfl
theorem ZsZ {α : Type} {f : Nat -> Option α} {n i : Nat} {a : α} (hi : i < n) (h0 : ∀ j < i, f j = none) (h1 : f i = some a) : (List.range n).findSome? f = some a := by
 induction n with
 | zero => omega
 | succ n ih =>
  rw [List.range_succ, List.findSome?_append]
  rcases ZPL i n with q | q
  ·rw [ih q]; rfl
  ·have : i = n := by omega
   subst this
   have : (List.range i).findSome? f = none := by
    rw [List.findSome?_eq_none_iff]
    intro j hj; exact h0 j (List.mem_range.1 hj)
   rw [this]; simp [h1]
theorem ZvZ {α : Type} {f : Nat -> Option α} {n : Nat} (h0 : ∀ j < n, f j = none) : (List.range n).findSome? f = none := by
 rw [List.findSome?_eq_none_iff]
 intro j hj; exact h0 j (List.mem_range.1 hj)
theorem ZEw (RT : List (List Int)) (L : List Tx) (M : List (Int × Int)) : Zm8 RT L M [] = some [] := rfl
theorem ZtO {RT : List (List Int)} {L : List Tx} {M : List (Int × Int)} {P : List (List Int)} (h : P ≠ []) : Zm8 RT L M P = (List.range P.length).findSome? fun j => ZtD RT L (Zm6 M) P (ZtB RT L (P.length - 1)) j := by
 unfold Zm8
 cases hl : P.length with
 | zero => exact absurd (ZP6 hl) h
 | succ n =>
  show (if P = [] then _ else _) = _
  rw [if_neg h, hl]; rfl
theorem ZD5 {RT : List (List Int)} {L : List Tx} {f : Stf} {P : List (List Int)} {rec : Stf -> List (List Int) -> Option (List Int)} {j : Nat} (h : ¬ ZCB RT L f P (g0 (P.getD j []))) : ZtD RT L f P rec j = none := by
 unfold ZtD; rw [if_neg (by rw [Zj]; exact h)]
theorem ZCT {RT : List (List Int)} {L : List Tx} {f : Stf} {P : List (List Int)} {rec : Stf -> List (List Int) -> Option (List Int)} {j : Nat} (h : ZCB RT L f P (g0 (P.getD j []))) :
  ZtD RT L f P rec j = (rec (ZFr f (Y4 RT L (g0 (P.getD j []))).ch) (P.eraseIdx j)).map ((Y4 RT L (g0 (P.getD j []))).who :: ·) := by
 unfold ZtD; rw [if_pos (by rw [Zj]; exact h)]
def orA : List Srt := [.int, .amap, .int, .rows, .int, .int, .rows, .g]
def orL : SX := .us .ints 641 (gA 7) (mA 1) (rA 6) (rA 3)
def orB : SX := .us .bool 642 (gA 7) (mA 1) (rA 6) (rA 3)
def Zcr (k : SX) : Ctr := ⟨orA, [.one (.map (ai 0)), .one (slC (ai 2) (Zh (rA 3)) (ai 4) 1)], [scC (ai 0) (mA 1), pAr (ai 2) (rA 3) (ai 5), txC (rA 6) (gA 7)],
 [eLe (.f2 40 (Zh (rA 3)) (.int 100)) k, eLe (Zh (rA 3)) (.int 1000), usB 560 (rA 3) (rA 6) z0, usB 621 (rA 3) z0 z0, usB 633 (gA 7) z0 z0, eLe (Zh (rA 3)) (ai 4), eLe (ai 4) (ai 5), eLe z0 (ai 0), .f2 50 (eLe z0 (ai 2)) (.f2 45 (Zh (rA 3)) z0)], [.int, .int, .bool],
 .tup [(false, [sl1 (ai 8) (Zcs orL) (ai 9)]), (false, [.bool (qA 10)])], [scC (ai 0) (mA 1), pAr (ai 2) (rA 3) (ai 5), txC (rA 6) (gA 7), iAr (ai 8) orL (ai 9)],
 [.f2 48 (qA 10) orB, eLe (Zcs orL) (ai 9), .f2 50 (eLe z0 (ai 8)) (.f2 45 (Zcs orL) z0), eLe (Zcs orL) (Zh (rA 3))]⟩
def ordI : Inv := ⟨[.int], [(16, .one (.int .i64 (di 0)))], [], [eLe z0 (di 0), eLe (di 0) (Zh (rA 3)), .us .bool 643 (gA 7) (mA 1) (rA 6) (Zu (ZoV (di 0)) (rA 3))], .f2 41 (Zh (rA 3)) (di 0)⟩
def ZgE (k' : SX) : Cx := { specs := [(68, [ZBe]), (69, [Zl6]), (26, [ZmM]), (70, [ZxJ]), (39, [Zcr k'])], anns := [(39, [(2, .ghost ZE8 []), (4, .inv ordI), (8, .ghost ZrY [.tmp 7]), (500008, .ghost ZkN [.tmp 7]), (11, .ghost ZrY [.tmp 7]), (500011, .ghost ZkN [.tmp 7]), (13, .ghost ZE8 [])])] }
def ZJc : SX := l z (a 2)
def ZvK : SX := e (.f1 32 (r 3)) z
def ZHV : SX := .us .bool 642 (g 7) (m 1) (r 6) (r 3)
def ZDx : SX := .f2 48 (.bool true) ZHV
def ZtP : SX := .us .ints 641 (g 7) (m 1) (r 6) (r 3)
def Zl4 : SX := .f1 30 ZtP
def ZG4 : SX := l Zl4 z
def ZsB : SX := e Zl4 z
def ZIg : SX := .f2 50 (.bool false) ZsB
def Zvm : SX := l Zl4 (.f1 32 (r 3))
def ZAW : SX := .f2 155 ZtP (.f1 152 z)
def ZkS : SX := .f3 112 (r 3) (a 8) z
def Zhx : SX := .f2 40 (a 8) (k 1)
def ZrL : SX := .f1 23 Zhx
def Zre : SX := .f2 41 (.f1 32 (r 3)) Zhx
def ZpI : SX := l z Zre
def ZrG : SX := t Zre (.f2 41 (.f1 32 (r 3)) (a 8))
def Zp2 : SX := l z Zhx
def ZrQ : SX := l Zhx (.f1 32 (r 3))
def Zsd : SX := .us .bool 643 (g 7) (m 1) (r 6) (.f2 124 (.f2 122 Zhx (.f1 152 z)) (r 3))
def Zbx : SX := d 566 (r 6) ZkS
def ZyR : SX := .f3 112 (r 6) Zbx z
def ZpX : SX := e ZkS ZyR
def ZB9 : SX := v 552 (g 7)
def ZpM : SX := t Zbx ZB9
def ZyF : SX := .f1 32 (wR 545 (g 7) Zbx)
def Zp1 : SX := l ZyF (.f3 112 (r 6) Zbx (k 3))
def ZyS : SX := .f1 30 (wN 546 (g 7) Zbx)
def ZpL : SX := l ZyS (.f3 112 (r 6) Zbx (k 5))
def ZqO : SX := .f2 50 (l z (.f3 112 (r 6) Zbx (k 2))) (e ZyF z)
def ZqV : SX := .f2 50 (l z (.f3 112 (r 6) Zbx (k 4))) (e ZyS z)
def Zrk : SX := l z (.f3 112 (r 6) Zbx (k 1))
def ZrT : SX := l z ZyR
def ZqC : SX := e (.f1 32 (r 6)) ZB9
def Zi1 : SX := wR 640 (.f1 154 z) (a 8)
def ZgD : SX := .f1 32 Zi1
def ZwE : SX := .us .ints 641 (g 7) (m 11) (r 6) Zi1
def ZgA : SX := .f1 30 ZwE
def ZuR : SX := l z (a 12)
def Zvi : SX := l z (a 15)
def ZmB : SX := .f2 40 ZgA (k 1)
def ZxN : SX := l z (a 16)
def ZuV : SX := d 540 (g 7) Zbx
def ZA9 : SX := l z (a 13)
def Ziv : SX := wR 640 (r 3) (a 8)
def Zho : SX := .f1 32 Ziv
def ZBF : SX := .us .ints 641 (g 7) (m 11) (r 6) Ziv
def Zhp : SX := .f1 30 ZBF
def Zlu : SX := .f2 40 Zhp (k 1)
def Zu7 : SX := l z (a 19)
def ZfA (k k' : SX) : VC := (.imp (.f2 47 (.f2 40 (.f1 32 (.at .rows 3)) (.int 100)) k) (.imp (.f2 47 (.f1 32 (.at .rows 3)) (.int 1000)) (.imp (.us .bool 560 (.at .rows 3) (.at .rows 6) 
  (.int 0) (.int 0)) (.imp (.us .bool 621 (.at .rows 3) (.int 0) (.int 0) (.int 0)) (.imp (.us .bool 633 (.at .g 7) (.int 0) (.int 0) (.int 0)) (.imp 
  (.f2 47 (.f1 32 (.at .rows 3)) (.at .int 4)) (.imp (.f2 47 (.at .int 4) (.at .int 5)) (.imp (.f2 47 (.int 0) (.at .int 0)) (.imp (.f2 50 ZJc ZvK) 
  (.and (.imp ZvK (.need ZDx (.need ZG4 (.need ZIg (.need Zvm (.need ZAW (.need ZsB (.tt)))))))) (.imp (.f1 2 ZvK) (.need (.us .bool 
  643 (.at .g 7) (.at .amap 1) (.at .rows 6) (.f2 124 (.f2 122 (.int 0) (.f1 152 (.int 0))) (.at .rows 3))) (.all 8 .int (.imp (.f2 47 (.int 0) (.at 
  .int 8)) (.imp (.f2 47 (.at .int 8) (.f1 32 (.at .rows 3))) (.imp (.us .bool 643 (.at .g 7) (.at .amap 1) (.at .rows 6) (.f2 124 (.f2 122 (.at .int 8) 
  (.f1 152 (.int 0))) (.at .rows 3))) (.and (.imp (.f2 46 (.at .int 8) (.f1 32 (.at .rows 3))) (.need (.us .bool 565 (.at .rows 6) ZkS (.int 0) (.int 
  0)) (.all 9 .bool (.imp (.f2 48 (.at .bool 9) (.us .bool 631 (.f2 124 (.f2 122 ZkS (.f1 152 (.int 0))) (.at .rows 3)) (.at .rows 6) (.at .amap 1) 
  (.at .g 7))) (.and (.imp (.f1 2 (.at .bool 9)) (.need ZrL (.need ZpI (.need ZrG (.need Zp2 (.need ZrQ (.need Zsd (.tt)))))))) (.imp 
  (.f1 2 (.f1 2 (.at .bool 9))) (.all 10 .int (.imp (.f2 47 (.int 0) (.at .int 10)) (.imp ZpX (.imp ZpM (.imp Zp1 (.imp ZpL (.imp ZqO 
  (.imp ZqV (.imp Zrk (.imp ZrT (.imp ZqC (.all 11 .amap (.imp (.us .bool 531 (.at .amap 1) (.us .amap 544 (.at .g 7) Zbx (.int 0) (.int 
  0)) (.at .amap 11) (.int 0)) (.need (.f2 47 (.int 0) Zbx) (.and (.imp (.f2 46 (.at .int 2) (.int 0)) (.need ZrL (.need (.f2 46 (.at .int 8) 
  (.int 0)) (.need (.f2 47 (.f2 40 (.at .int 8) (.f2 41 (.int 0) Zhx)) (.int 0)) (.need (.f2 47 (.f2 40 ZgD (.int 100)) k') (.need (.f2 47 ZgD (.int 1000)) 
  (.need (.us .bool 560 Zi1 (.at .rows 6) (.int 0) (.int 0)) (.need (.us .bool 621 Zi1 (.int 0) (.int 0) (.int 0)) (.need (.f2 47 ZgD (.int 0)) 
  (.need (.f2 50 (.bool false) (.f2 45 ZgD (.int 0))) (.need (.f2 45 ZgD (.int (-1))) (.all 12 .int (.all 13 .int (.all 14 .bool (.imp (.f2 48 
  (.at .bool 14) (.us .bool 642 (.at .g 7) (.at .amap 11) (.at .rows 6) Zi1)) (.imp (.f2 47 ZgA (.at .int 13)) (.imp (.f2 50 ZuR (.f2 45 ZgA 
  (.int 0))) (.imp (.f2 47 ZgA ZgD) (.and (.imp (.at .bool 14) (.imp ZpX (.imp ZpM (.imp Zp1 (.imp ZpL (.imp ZqO (.imp ZqV (.imp 
  Zrk (.imp ZrT (.imp ZqC (.all 15 .int (.imp Zvi (.need (.f2 47 (.f2 42 ZmB (.int 8)) (.int 140737488355328)) (.need (.f2 47 ZgA 
  ZgA) (.all 16 .int (.all 17 .int (.imp (.f2 47 ZmB (.at .int 17)) (.imp (.f2 50 ZxN (.f2 45 ZmB (.int 0))) (.need ZDx (.need (.f2 47 
  Zl4 (.at .int 17)) (.need (.f2 50 ZxN ZsB) (.need Zvm (.need (.f2 155 ZtP (.f2 122 ZuV ZwE)) (.need (.f2 45 Zl4 ZmB) 
  (.tt))))))))))))))))))))))))) (.imp (.f1 2 (.at .bool 14)) (.need ZpI (.need ZrG (.need Zp2 (.need ZrQ (.need Zsd 
  (.tt)))))))))))))))))))))))))) (.imp ZJc (.all 12 .int (.imp ZuR (.need (.f2 47 (.f2 42 (.f1 32 (.at .rows 3)) (.int 8)) (.int 140737488355328)) 
  (.need (.f2 47 (.f1 32 (.at .rows 3)) (.f1 32 (.at .rows 3))) (.all 13 .int (.all 14 .int (.imp (.f2 47 (.f1 32 (.at .rows 3)) (.at .int 14)) (.imp 
  (.f2 50 ZA9 ZvK) (.need ZrL (.need (.f2 47 (.f2 40 (.at .int 8) Zre) (.at .int 14)) (.need (.f2 47 (.at .int 14) (.at .int 14)) (.need (.f2 47 (.f2 40 Zho (.int 100)) k') (.need (.f2 47 Zho (.int 1000)) (.need (.us .bool 560 Ziv (.at .rows 6) (.int 0) (.int 0)) (.need (.us .bool 621 Ziv 
  (.int 0) (.int 0) (.int 0)) (.need (.f2 47 Zho (.at .int 14)) (.need (.f2 50 ZA9 (.f2 45 Zho (.int 0))) (.need (.f2 45 Zho (.f2 40 (.f1 32 
  (.at .rows 3)) (.int (-1)))) (.all 15 .int (.all 16 .int (.all 17 .bool (.imp (.f2 48 (.at .bool 17) (.us .bool 642 (.at .g 7) (.at .amap 11) (.at 
  .rows 6) Ziv)) (.imp (.f2 47 Zhp (.at .int 16)) (.imp (.f2 50 Zvi (.f2 45 Zhp (.int 0))) (.imp (.f2 47 Zhp Zho) (.and (.imp (.at 
  .bool 17) (.imp ZpX (.imp ZpM (.imp Zp1 (.imp ZpL (.imp ZqO (.imp ZqV (.imp Zrk (.imp ZrT (.imp ZqC (.all 18 .int (.imp 
  (.f2 47 (.int 0) (.at .int 18)) (.need (.f2 47 (.f2 42 Zlu (.int 8)) (.int 140737488355328)) (.need (.f2 47 Zhp Zhp) (.all 19 .int (.all 20 
  .int (.imp (.f2 47 Zlu (.at .int 20)) (.imp (.f2 50 Zu7 (.f2 45 Zlu (.int 0))) (.need ZDx (.need (.f2 47 Zl4 (.at .int 20)) (.need (.f2 
  50 Zu7 ZsB) (.need Zvm (.need (.f2 155 ZtP (.f2 122 ZuV ZBF)) (.need (.f2 45 Zl4 Zlu) (.tt))))))))))))))))))))))))) (.imp (.f1 2 
  (.at .bool 17)) (.need ZpI (.need ZrG (.need Zp2 (.need ZrQ (.need Zsd (.tt))))))))))))))))))))))))))))))))))))))))))))))))))))))) 
  (.imp (.f2 47 (.f1 32 (.at .rows 3)) (.at .int 8)) (.need (.f2 48 (.bool false) ZHV) (.need ZG4 (.need ZIg (.need Zvm (.need ZAW (.need 
  ZsB (.tt)))))))))))))))))))))))))
theorem ZJ6 : YV Tryz.prog (ZgE (.int 99)) 12 39 (Zcr (.int 100)) = ZfA (.int 100) (.int 99) := by kernel_rfl
theorem ZJw : YV Tryz.prog (ZgE (.int 100)) 12 39 (Zcr (.int 101)) = ZfA (.int 101) (.int 100) := by kernel_rfl
theorem ZHE : YV Tryz.prog (ZgE (.int 101)) 12 39 (Zcr (.int 102)) = ZfA (.int 102) (.int 101) := by kernel_rfl
theorem ZGO : YV Tryz.prog (ZgE (.int 102)) 12 39 (Zcr (.int 103)) = ZfA (.int 103) (.int 102) := by kernel_rfl
theorem ZHo : YV Tryz.prog (ZgE (.int 103)) 12 39 (Zcr (.int 104)) = ZfA (.int 104) (.int 103) := by kernel_rfl
theorem ZJ7 : YV Tryz.prog (ZgE (.int 104)) 12 39 (Zcr (.int 105)) = ZfA (.int 105) (.int 104) := by kernel_rfl
theorem ZG2 : YV Tryz.prog (ZgE (.int 105)) 12 39 (Zcr (.int 106)) = ZfA (.int 106) (.int 105) := by kernel_rfl
theorem ZIG : YV Tryz.prog (ZgE (.int 106)) 12 39 (Zcr (.int 107)) = ZfA (.int 107) (.int 106) := by kernel_rfl
theorem ZF7 : YV Tryz.prog (ZgE (.int 107)) 12 39 (Zcr (.int 108)) = ZfA (.int 108) (.int 107) := by kernel_rfl
theorem ZHP (S : Sig GG) (hS : OuSig S) (k : Int) (ρ : Go.Eng.Env GG) : (ZfA (.int k) (.int (k - 1))).den S ρ := by
 simp only [ZfA, ZJc, ZvK, ZHV, ZDx, ZtP, Zl4, ZG4, ZsB, ZIg, Zvm, ZAW, ZkS, Zhx, ZrL, Zre, ZpI, ZrG, Zp2, ZrQ, Zsd, Zbx, ZyR, ZpX, ZB9, ZpM, ZyF, Zp1, ZyS, ZpL, ZqO, ZqV, Zrk, ZrT, ZqC, Zi1, ZgD, ZwE, ZgA, ZuR, Zvi, ZmB, ZxN, ZuV, ZA9, Ziv, Zho, ZBF, Zhp, Zlu, Zu7, hS.ft.od.fi.js.jt.jb.u531, hS.ft.od.fi.js.jt.u540, hS.ft.od.fi.js.jt.u544, hS.ft.od.fi.js.jt.u545, hS.ft.od.fi.js.jt.u546, hS.ft.od.fi.js.jt.u552, hS.ft.od.fi.js.jt.u560, hS.ft.od.fi.js.jt.u565, hS.ft.od.fi.js.jt.u566, hS.ft.od.u621, hS.ft.u631, hS.ft.u633, hS.u640, hS.u641, hS.u642, hS.u643, ZQ, ZPY, VC.den, SX.den, Env.upd, ZX, ZE, beq_iff_eq, ZPQ, beq_eq_false_iff_ne, ne_eq, ZPP, ZPO, Int.reduceToNat, Nat.reduceEqDiff, reduceIte, sB, sC]
 generalize (ρ 3).tR = P
 generalize (ρ 6).tR = RT
 generalize (ρ 1).tM = M
 generalize ZO (U.co S Srt.g (ρ 7)) = L
 generalize (ρ 0).tI = c0
 generalize (ρ 2).tI = c2
 generalize (ρ 4).tI = c4
 generalize (ρ 5).tI = c5
 intro h1 h2 h3 h4 h5 h6 h7 h8 h9
 have hdr : ∀ x : Int, List.drop 1 ([x] :: P) = P := fun _ => rfl
 have hg : ∀ x : Int, g0 (([x] :: P).getD 0 []) = x := fun _ => rfl
 simp only [hdr, hg]
 refine ⟨fun hz => ?_, fun hz => ⟨fun j hj => absurd hj (by omega), fun i i0 i1 g1 => ?_⟩⟩
 ·have hp : P = [] := ZP6 (by omega)
  subst hp
  rw [ZEw]
  exact ⟨rfl, ZP2 _, .inr rfl, ZP2 _, rfl, rfl, trivial⟩
 ·have hne : P ≠ [] := fun h => hz (by rw [h]; rfl)
  have hs := ZtO (RT := RT) (L := L) (M := M) hne
  obtain ⟨n, rfl⟩ := ZPJ i0
  simp only [ZPY]
  have step : ZtD RT L (Zm6 M) P (ZtB RT L (P.length - 1)) n = none -> ∀ j : Nat, (j : Int) < (n : Int) + 1 -> ZtD RT L (Zm6 M) P (ZtB RT L (P.length - 1)) j = none := fun ho j hj => by
   rcases ZPL j n with q | q
   ·exact g1 j (by omega)
   ·have : j = n := by omega
    subst this; exact ho
  refine ⟨fun hn => ?_, fun hn => ?_⟩
  ·have hn2 : n < P.length := by omega
   have hmem : P.getD n [] ∈ P := by rw [ZPR, ZPU hn2]; exact ZQe _
   obtain ⟨t, ht, hbl⟩ := h3 _ hmem
   have ht2 : (P.getD n []).getD 0 0 = t := by rw [ht]; rfl
   have hg0 : g0 (P.getD n []) = t := ht2
   simp only [ht2]
   have hlen : (P.eraseIdx n).length = P.length - 1 := List.length_eraseIdx_of_lt hn2
   refine ⟨hbl, fun v hv => ⟨fun hno => ⟨⟨by omega, by omega⟩, by omega, by omega, by omega, by omega, step ?_, trivial⟩, fun hyes => ?_⟩⟩
   ·refine ZD5 fun hf => ?_
    rw [hg0] at hf
    have := ZC ((ZFq RT L M P t).2 hf)
    rw [<- hv, hno] at this
    cases this
   ·have hfit : ZCB RT L (Zm6 M) P (g0 (P.getD n [])) := by rw [hg0]; exact (ZFq RT L M P t).1 (Zj.mp (hv.symm.trans hyes))
    have hT := ZCT (rec := ZtB RT L (P.length - 1)) hfit
    rw [hg0] at hT
    intro c _ _ _ _ _ _ _ _ _ _ M2 hM2
    have hT2 : ZtD RT L (Zm6 M) P (ZtB RT L (P.length - 1)) n = (Zm8 RT L M2 (P.eraseIdx n)).map ((Y4 RT L t).who :: ·) := by
     rw [hT]; unfold Zm8; rw [hlen, ZE2 hM2]; rfl
    refine ⟨by omega, fun hc => absurd (h9.resolve_left (by omega)) (by omega), fun hc _ _ => ⟨by omega, by omega, fun b r hr hb => ⟨⟨by omega, by omega⟩, by omega, by omega, by omega, by omega, fun u hu => h3 u (List.mem_of_mem_eraseIdx hu), ?_, by omega, by omega, by omega, fun b2 r2 w hw q1 q2 q3 => ⟨fun hy => ?_, fun hn => ⟨by omega, by omega, by omega, by omega, step ?_, trivial⟩⟩⟩⟩⟩
    ·exact List.Nodup.sublist (List.Sublist.map g0 (List.eraseIdx_sublist P n)) h4
    ·have hyy : (Zm8 RT L M2 (P.eraseIdx n)).isSome = true := by rw [<- hw]; exact hy
     obtain ⟨l, hl⟩ := Option.isSome_iff_exists.1 hyy
     have hall : Zm8 RT L M P = some ((Y4 RT L t).who :: l) := by
      rw [hs]; exact ZsZ (i := n) hn2 (fun j hj => g1 j (by omega)) (by rw [hT2, hl]; rfl)
     rw [hall]
     rw [hl] at q1 q2 q3 ⊢
     have hl1 : (((Y4 RT L t).who :: l).length : Int) = (l.length : Int) + 1 := by rw [ZQb]; rfl
     simp only [ZPM, Option.isSome_some, hl1] at q1 q2 q3 ⊢
     intro _ _ _ _ _ _ _ _ _ c3 _
     exact ⟨by omega, by omega, fun b3 r3 y1 y2 => ⟨trivial, y1, y2, by omega, rfl, trivial, trivial⟩⟩
    ·rw [hT2]
     have : (Zm8 RT L M2 (P.eraseIdx n)).isSome = false := by rw [<- hw]; exact hn
     have hn0 : Zm8 RT L M2 (P.eraseIdx n) = none := Option.isNone_iff_eq_none.1 (by rw [<- Option.not_isSome, this]; rfl)
     rw [hn0]; rfl
  ·have : Zm8 RT L M P = none := by rw [hs]; exact ZvZ fun j hj => g1 j (by omega)
   rw [this]
   exact ⟨rfl, ZP2 _, .inr rfl, Int.natCast_nonneg _, rfl, rfl, trivial⟩
theorem ZN5 {G : Type} (S : Sig G) (P : Program) (f : FuncId) : ZA S P f (Zcr (.int 99)) := by
 intro ch w0 F ρ w xs hx hq hsat
 exfalso
 have h1 := hq (eLe (.f2 40 (Zh (rA 3)) (.int 100)) (.int 99)) (by simp [Zcr])
 rw [Ze] at h1
 simp only [SX.den, Zxm, Yd, Zh, U.tIi] at h1
 omega
theorem ZbO (S : Sig GG) (hS : OuSig S) {k k' : Int} (hk : k' = k - 1) (hv : YV Tryz.prog (ZgE (.int k')) 12 39 (Zcr (.int k)) = ZfA (.int k) (.int k'))
  (h : ZA S Tryz.prog 39 (Zcr (.int k'))) : ZA S Tryz.prog 39 (Zcr (.int k)) := by
 subst hk
 refine Zg S (C := ZgE (.int (k - 1))) (fuel := 12) (ZU ⟨Zi (by decide) (ZOe S hS.ft), Zi (by decide) (ZOS S), Zi (by decide) (Zyx S hS.ft.od.fi.js.jt.jb), Zi (by decide) (ZM7 S hS), Zi rfl h, trivial⟩ ⟨⟨⟨by decide, ZiZ S⟩, trivial, ⟨by decide, ZcM S hS.ft.od.fi.js.jt⟩, ⟨by decide, Zcw S hS.ft.od.fi.js.jt⟩, ⟨by decide, ZcM S hS.ft.od.fi.js.jt⟩, ⟨by decide, Zcw S hS.ft.od.fi.js.jt⟩, ⟨by decide, ZiZ S⟩, trivial⟩, trivial⟩ trivial) fun ρ => ?_
 rw [hv]
 exact ZHP S hS k ρ
theorem ZL8 (S : Sig GG) (hS : OuSig S) : ZA S Tryz.prog 39 (Zcr (.int 108)) :=
 ZbO S hS rfl ZF7 <| ZbO S hS rfl ZIG <| ZbO S hS rfl ZG2 <| ZbO S hS rfl ZJ7 <| ZbO S hS rfl ZHo <| ZbO S hS rfl ZGO <| ZbO S hS rfl ZHE <| ZbO S hS rfl ZJw <| ZbO S hS rfl ZJ6 <| ZN5 S _ _
/-! ### Plain words -/
def ZCS : List Int -> Int -> List Int
 | [], k => [k]
 | a :: l, k => if a < k then a :: ZCS l k else k :: a :: l
def Ztr (l : List Int) : Nat -> List Int
 | 0 => []
 | n + 1 => ZCS (Ztr l n) (l.getD n 0)
def ZOn (x : List Ent) (asg : List Int) (w : Int) (n : Int) : Prop := ∀ j : Nat, (j : Int) < n -> xk (xa x j) = 5 -> xw (xa x j) ∈ asg
def ZMN (x : List Ent) (asg : List Int) (w : Int) (n : Int) : Prop := ∀ j : Nat, (j : Int) < n -> xk (xa x j) = 2 -> xw (xa x j) = w -> (ZhN x j asg).1 = true
def ZsE (x : List Ent) (asg : List Int) (w : Int) : Prop := ZOn x asg w (Yl x 1 w x.length) /\ ZMN x asg w x.length /\ w ∉ asg
def ZFG (x : List Ent) (all asg : List Int) (rec : List Int -> Option (List Int)) (j : Nat) : Option (List Int) := if Zn (ZsE x asg (all.getD j 0)) = true then rec (asg ++ [all.getD j 0]) else none
def Znb (x : List Ent) (all : List Int) : Nat -> List Int -> Option (List Int)
 | 0, asg => if asg.length = all.length then some asg else none
 | n + 1, asg => if asg.length = all.length then some asg else (List.range all.length).findSome? fun j => ZFG x all asg (Znb x all n) j
def ZAt (x : List Ent) (all asg : List Int) : Option (List Int) := Znb x all (all.length - asg.length) asg
def orE (x : List Ent) : Int := if Zb9 x ≠ 0 then Zb9 x else if 0 <= (ZcO x x.length).1 then 280 else if 8 < (ZM x x.length).length then 2 else 0
def orS (x : List Ent) : Option (List Int) := if orE x = 0 then ZAt x (Ztr (ZM x x.length) (ZM x x.length).length) [] else none
structure OrSig (S : Sig GG) : Prop where
 ou : OuSig S
 u650 : ∀ a b c d, S.usr 650 a b c d = .ints (Ztr a.tN b.tI.toNat)
 u651 : ∀ a b c d, S.usr 651 a b c d = .bool (Zn (∀ j : Nat, (j : Int) < c.tI -> a.tN.getD j 0 < b.tI))
 u652 : ∀ a b c d, S.usr 652 a b c d = .bool (Zn (b.tI ∈ a.tN))
 u653 : ∀ a b c d, S.usr 653 a b c d = .bool (Zn (∀ j : Nat, (j : Int) < c.tI -> a.tN.getD j 0 ≠ b.tI))
 u654 : ∀ a b c d, S.usr 654 a b c d = .bool (Zn (ZsE a.tR b.tN c.tI))
 u655 : ∀ a b c d, S.usr 655 a b c d = .bool (Zn (ZOn a.tR b.tN c.tI d.tI))
 u656 : ∀ a b c d, S.usr 656 a b c d = .bool (Zn (ZMN a.tR b.tN c.tI d.tI))
 u657 : ∀ a b c d, S.usr 657 a b c d = .ints ((ZAt a.tR b.tN c.tN).getD [])
 u658 : ∀ a b c d, S.usr 658 a b c d = .bool (ZAt a.tR b.tN c.tN).isSome
 u659 : ∀ a b c d, S.usr 659 a b c d = .bool (Zn (∀ j : Nat, (j : Int) < d.tI -> ZFG a.tR b.tN c.tN (Znb a.tR b.tN (b.tN.length - c.tN.length - 1)) j = none))
 u660 : ∀ a b c d, S.usr 660 a b c d = .ints ((orS a.tR).getD [])
 u661 : ∀ a b c d, S.usr 661 a b c d = .bool (orS a.tR).isSome
 u662 : ∀ a b c d, S.usr 662 a b c d = .int (orE a.tR)
/-! ### Plain lemmas -/
theorem Zro (k : Int) : ∀ l : List Int, (ZCS l k).length = l.length + 1
 | [] => rfl
 | a :: l => by
  unfold ZCS
  split
  ·rw [ZQb, Zro k l, ZQb]
  ·rfl
theorem Zsf (l : List Int) : ∀ n, (Ztr l n).length = n
 | 0 => rfl
 | n + 1 => by show (ZCS _ _).length = _; rw [Zro, Zsf l n]
theorem ZqR (x : List Ent) (all : List Int) : ∀ (n : Nat) (asg l : List Int), Znb x all n asg = some l -> l.length = all.length
 | 0, asg, l, h => by
  unfold Znb at h
  split at h
  ·rename_i e; cases h; exact e
  ·cases h
 | n + 1, asg, l, h => by
  unfold Znb at h
  split at h
  ·rename_i e; cases h; exact e
  ·obtain ⟨j, hj, h⟩ := List.exists_of_findSome?_eq_some h
   unfold ZFG at h
   split at h
   ·exact ZqR x all n _ _ h
   ·cases h
theorem ZED (x : List Ent) (all asg : List Int) (h : asg.length <= all.length) : ((ZAt x all asg).getD []).length <= all.length := by
 cases e : ZAt x all asg with
 | none => exact Nat.zero_le _
 | some l => exact Nat.le_of_eq (ZqR x all _ _ _ e)
end
end Go.Proofs.YtidlngnhjffepaaGreat
