/- JudgeOrders answers true, and what was handed in stays as it is, where it is of bulk at most 1048576. No other condition. -/
import Derived.Test.YtidlngnhjffepaaGreatPo7
import Derived.Test.YtidlngnhjffepaaGreatPo4
import Derived.Test.YtidlngnhjffepaaGreatRows
import Derived.WalkKit
import Derived.ProofKit
import Derived.OpenShut
import Derived.JoinedCond
import Derived.Carry
set_option linter.unusedSimpArgs false
set_option linter.unusedVariables false
set_option maxRecDepth 20000
namespace Go.Proofs.YtidlngnhjffepaaGreat.judgeOrders
open Go.ChangeShapes Go.WideShapes Go.ChangeAt Go.RowKit
open Go.Eng (Zh5 Sig Zy Zbm emp Zc ZpF Sat Env U Ctr SX eLe rowVals ZE5 Zjx Zgu Zx YC Yw Y0)
theorem own : ownKnob Tryz.prog.godebug = none := by kernel_rfl
noncomputable def usr (n : Nat) (a b c d : U GG) : U GG :=
 match n with
 | 500 => .int (Yd a.tR b.tI c.tI d.tI.toNat)
 | 501 => .bool (Zbo a.tR b.tI c.tI.toNat).1
 | 502 => .int (Zbo a.tR b.tI c.tI.toNat).2
 | 503 => .bool (Zhb a.tR b.tI c.tI)
 | 504 => .bool (Zn (ZJs a.tR b.tI c.tI))
 | 505 => .bool (Zl8 a.tR b.tI.toNat)
 | 506 => .int (ZwO a.tR b.tI.toNat)
 | 507 => .bool (Zmd a.tR b.tI.toNat)
 | 508 => .int (ZcG a.tR b.tI.toNat).1
 | 509 => .int (ZcG a.tR b.tI.toNat).2
 | 510 => .bool (ZbI a.tN)
 | 511 => .bool (Zi8 a.tR b.tI.toNat)
 | 512 => .int (YA a.tR b.tI c.tB d.tI.toNat)
 | 513 => .bytes (ZcY a.tR b.tN c.tB d.tI.toNat).1
 | 514 => .bool (ZcY a.tR b.tN c.tB d.tI.toNat).2
 | 515 => .ints (ZJ a.tR b.tI.toNat)
 | 516 => .bool (Zg8 a.tR b.tI.toNat c.tN).1
 | 517 => .int (Zg8 a.tR b.tI.toNat c.tN).2
 | 518 => .int (Zfl a.tR b.tI.toNat).1
 | 519 => .int (Zfl a.tR b.tI.toNat).2
 | 520 => .int (Zkn a.tR).1
 | 521 => .int (Zkn a.tR).2.1
 | 522 => .int (Zkn a.tR).2.2
 | 524 => .bytes (ZKO a.tR b.tI)
 | 525 => .int (ZLw a.tR b.tI)
 | 523 => .int (Zb5 a.tR)
 | 530 => .bool (ZZ a.tM b.tN)
 | 531 => .bool (Zn (ZvE a.tM b.tM c.tM))
 | 532 => .bool (Zn (layM a.tM b.tM c.tM d.tM))
 | 533 => .rows (revN a.tR b.tI.toNat)
 | 534 => .rows ((a.tR.take c.tI.toNat).map nr ++ b.tR.drop c.tI.toNat)
 | 536 => .bool (Zn ((a.tM.map (·.1)).Nodup))
 | 535 => .bool (Zn (∀ i : Nat, b.tI <= (i : Int) -> (i : Int) < c.tI -> eqE (xa a.tR i) (xa d.tR i)))
 | 568 => .g (.tx (Zce (ZK a) b.tM))
 | 571 => .bool (Zn ((a.tM.map (·.1)).Nodup /\ ∀ k, Zx a.tM k = true -> Zx b.tM k = true))
 | 569 => .bool (Zn (a.tR.map g0 = b.tR.map g0))
 | 570 => .bool (Zn (d.tR.Perm (Zbh c.tR (Zcb b.tM (ZK a) 0))))
 | 565 => .bool (Zn (Zn4 a.tR b.tI))
 | 566 => .int (ZcT b.tI a.tR : Nat)
 | 540 => .int (atT (ZK a) b.tI).who
 | 541 => .int (atT (ZK a) b.tI).beg
 | 542 => .int (atT (ZK a) b.tI).com
 | 543 => .bool (atT (ZK a) b.tI).opn
 | 544 => .amap (atT (ZK a) b.tI).ch
 | 545 => .rows (atT (ZK a) b.tI).rds
 | 546 => .ints (atT (ZK a) b.tI).bad
 | 547 => .amap (Zez a.tR (ZK b))
 | 548 => .rows (Zbh c.tR (Z4 a.tR b.tI.toNat).kept)
 | 549 => .rows (Z4 a.tR b.tI.toNat).out
 | 550 => .int (Z4 a.tR b.tI.toNat).fault
 | 551 => .int (Z4 a.tR b.tI.toNat).what
 | 552 => .int ((ZK a).length : Nat)
 | 553 => .int (ixL b.tI (ZK a) : Nat)
 | 554 => .rows (ZBf a.tR b.tI c.tN)
 | 555 => .g (.tx (setT (ZK a) b.tI (ZrZ (atT (ZK a) b.tI) c.tM d.tN)))
 | 556 => .g (.tx (setT (ZK a) b.tI (Zzm (atT (ZK a) b.tI) c.tR d.tN)))
 | 557 => .g (.tx (ZK a ++ [⟨b.tI, c.tI, -1, true, [], [], []⟩]))
 | 558 => .bool (Zn (plOk a.tR (ZK b)))
 | 559 => .bool (Zn (d.tR.Perm (Zbh c.tR (Z4 a.tR b.tI.toNat).fal)))
 | 560 => .bool (Zn (∀ r ∈ a.tR, ∃ b', r = [b'] /\ Zn4 b.tR b'))
 | 561 => .g (.tx (Z4 a.tR b.tI.toNat).txs)
 | 562 => .bool (Zn ([b.tI] ∈ a.tR))
 | 563 => .rows (if Zx a.tM (kc b.tN) = true then c.tR else c.tR ++ [d.tI :: nr b.tN])
 | 564 => .ints (if Zx a.tM (kc b.tN) = true /\ ZZ a.tM b.tN = false then c.tN ++ [d.tI] else c.tN)
 | 580 => .bool (Zn (SrtP a.tR b.tR))
 | 582 => .int (ZdW (a.tI, b.tI) c.tI d.tI).1
 | 583 => .int (ZdW (a.tI, b.tI) c.tI d.tI).2
 | 584 => .int (ZE6 (ZlS a.tN) b.tN c.tI.toNat).1
 | 585 => .int (ZE6 (ZlS a.tN) b.tN c.tI.toNat).2
 | 586 => .bool (Zn (YD (ZBb (ZjS a.tR) b.tM) d.tI (ZlS c.tN)))
 | 587 => .bool (Zn (c.tR.Perm (ZmO (ZjS a.tR) b.tM)))
 | 590 => .int ((ZIx a.tR b.tM c.tN).1 : Nat)
 | 591 => .int (ZIx a.tR b.tM c.tN).2.1
 | 592 => .int (ZIx a.tR b.tM c.tN).2.2
 | 593 => .int ((YU (ZjS a.tR) b.tR (ZlS c.tN) d.tI.toNat).1 : Nat)
 | 594 => .int (YU (ZjS a.tR) b.tR (ZlS c.tN) d.tI.toNat).2.1
 | 595 => .int (YU (ZjS a.tR) b.tR (ZlS c.tN) d.tI.toNat).2.2
 | 596 => .bool (Zn (ZgU c.tM (stF (ZjS a.tR) b.tI.toNat)))
 | 597 => .int (Zjm (ZZ d.tM) (ZlS a.tN) b.tR c.tI.toNat).1
 | 598 => .int (Zjm (ZZ d.tM) (ZlS a.tN) b.tR c.tI.toNat).2
 | 600 => .rows (Zhm a.tR)
 | 601 => .rows (Zsb a.tM)
 | 602 => .rows (ZjT (mvF a.tM) b.tR c.tI.toNat)
 | 603 => .rows (finR' a.tR)
 | 604 => .int (Zqn a.tR)
 | 605 => .bool (Zn (ZFR a.tM b.tM c.tR))
 | 610 => .rows ((ZrX a.tR b.tI.toNat).map ZBd)
 | 611 => .bool (Zn (∀ j : Nat, (j : Int) < c.tI -> Op.bytesLess (txt (a.tR.getD j [])) b.tB = true))
 | 612 => .rows (ZjT (leF a.tR b.tN) c.tR d.tI.toNat)
 | 606 => .bool (Zn (canM a.tM))
 | 620 => .bool (Zn (∀ r ∈ a.tR, 0 <= g0 r))
 | 621 => .bool (Zn (ndP a.tR))
 | 622 => .bool (Zn (a.tR.Perm b.tR /\ ZEa c.tR (ZK d) a.tR))
 | 623 => .bool (Zn (ZJt a.tR b.tR c.tR (ZK d)))
 | 624 => .bool (Zn (ZJB a.tR b.tR c.tR (ZK d)))
 | 630 => .bool (Zn (∀ j : Nat, (j : Int) < c.tI -> ZZ b.tM ((a.tR.getD j []).drop 1) = true))
 | 631 => .bool (Zn (ZJ5 a.tR b.tR c.tM (ZK d)))
 | 633 => .bool (Zn (∀ t ∈ ZK a, t.rds.length <= 1000000))
 | 632 => .bool (Zn (∀ j : Nat, (j : Int) < d.tI -> okU b.tR (ZK c) (g0 (a.tR.getD 0 [])) ((a.tR.drop 1).getD j [])))
 | 640 => .rows (a.tR.eraseIdx b.tI.toNat)
 | 641 => .ints ((Zmb c.tR (ZK a) b.tM d.tR).getD [])
 | 642 => .bool (Zmb c.tR (ZK a) b.tM d.tR).isSome
 | 643 => .bool (Zn (∀ j : Nat, (j : Int) < g0 (d.tR.getD 0 []) -> Zst c.tR (ZK a) (Zl9 b.tM) (d.tR.drop 1) (Zsq c.tR (ZK a) ((d.tR.drop 1).length - 1)) j = none))
 | 650 => .ints (ZlK a.tN b.tI.toNat)
 | 651 => .bool (Zn (∀ j : Nat, (j : Int) < c.tI -> a.tN.getD j 0 < b.tI))
 | 652 => .bool (Zn (b.tI ∈ a.tN))
 | 653 => .bool (Zn (∀ j : Nat, (j : Int) < c.tI -> a.tN.getD j 0 ≠ b.tI))
 | 654 => .bool (Zn (Zpr a.tR b.tN c.tI))
 | 655 => .bool (Zn (ZHH a.tR b.tN c.tI d.tI))
 | 656 => .bool (Zn (ZF8 a.tR b.tN c.tI d.tI))
 | 657 => .ints ((ZgN a.tR b.tN c.tN).getD [])
 | 658 => .bool (ZgN a.tR b.tN c.tN).isSome
 | 659 => .bool (Zn (∀ j : Nat, (j : Int) < d.tI -> Zqj a.tR b.tN c.tN (Zik a.tR b.tN (b.tN.length - c.tN.length - 1)) j = none))
 | 660 => .ints ((orS a.tR).getD [])
 | 661 => .bool (orS a.tR).isSome
 | 662 => .int (orE a.tR)
 | 680 => .ints (mkL a.tI b.tI.toNat)
 | _ => .int 0
noncomputable def prd (n : Nat) (w0 : World) (k x : U GG) : Go.Eng.HProp :=
 match n with
 | 100 => Zec k.tR (ZK x)
 | 101 => ZMa (g0 (k.tR.getD 0 [])) (k.tR.drop 1) (ZK x)
 | 103 => ZrS (g0 (k.tR.getD 0 [])) (k.tR.drop 1)
 | 102 => ZJv (g0 (k.tR.getD 0 [])) (g1 (k.tR.getD 0 [])) (k.tR.drop 1) (ZK x)
 | 110 => prH k.tR x.tR
 | 111 => prO k.tR x.tR
 | 112 => kp42 k.tR
 | 113 => kp43 k.tR
 | 114 => kp46 k.tR x.tR
 | 115 => kp47 k.tR x.tR
 | 116 => kp48 k.tR x.tR
 | _ => emp
noncomputable def sig : Sig GG := { dg := gg0, ch := fun _ => true, usr := usr, prd := prd }
theorem hR : RfSig sig where
 u500 := fun _ _ _ _ => rfl
 u501 := fun _ _ _ _ => rfl
 u502 := fun _ _ _ _ => rfl
 u503 := fun _ _ _ _ => rfl
 u504 := fun _ _ _ _ => rfl
 u505 := fun _ _ _ _ => rfl
 u506 := fun _ _ _ _ => rfl
 u507 := fun _ _ _ _ => rfl
 u508 := fun _ _ _ _ => rfl
 u509 := fun _ _ _ _ => rfl
 u510 := fun _ _ _ _ => rfl
 u511 := fun _ _ _ _ => rfl
 u512 := fun _ _ _ _ => rfl
 u513 := fun _ _ _ _ => rfl
 u514 := fun _ _ _ _ => rfl
 u515 := fun _ _ _ _ => rfl
 u516 := fun _ _ _ _ => rfl
 u517 := fun _ _ _ _ => rfl
 u518 := fun _ _ _ _ => rfl
 u519 := fun _ _ _ _ => rfl
 u520 := fun _ _ _ _ => rfl
 u521 := fun _ _ _ _ => rfl
 u522 := fun _ _ _ _ => rfl
 u524 := fun _ _ _ _ => rfl
 u525 := fun _ _ _ _ => rfl
 u523 := fun _ _ _ _ => rfl
theorem hB : JbSig sig where
 rf := hR
 u530 := fun _ _ _ _ => rfl
 u531 := fun _ _ _ _ => rfl
 u532 := fun _ _ _ _ => rfl
 u533 := fun _ _ _ _ => rfl
 u534 := fun _ _ _ _ => rfl
 u536 := fun _ _ _ _ => rfl
 u535 := fun _ _ _ _ => rfl
theorem hT : JtSig sig where
 jb := hB
 p100 := fun _ _ _ => rfl
 p101 := fun _ _ _ => rfl
 p103 := fun _ _ _ => rfl
 p102 := fun _ _ _ => rfl
 u568 := fun _ _ _ _ => rfl
 u571 := fun _ _ _ _ => rfl
 u569 := fun _ _ _ _ => rfl
 u570 := fun _ _ _ _ => rfl
 u565 := fun _ _ _ _ => rfl
 u566 := fun _ _ _ _ => rfl
 u540 := fun _ _ _ _ => rfl
 u541 := fun _ _ _ _ => rfl
 u542 := fun _ _ _ _ => rfl
 u543 := fun _ _ _ _ => rfl
 u544 := fun _ _ _ _ => rfl
 u545 := fun _ _ _ _ => rfl
 u546 := fun _ _ _ _ => rfl
 u547 := fun _ _ _ _ => rfl
 u548 := fun _ _ _ _ => rfl
 u549 := fun _ _ _ _ => rfl
 u550 := fun _ _ _ _ => rfl
 u551 := fun _ _ _ _ => rfl
 u552 := fun _ _ _ _ => rfl
 u553 := fun _ _ _ _ => rfl
 u554 := fun _ _ _ _ => rfl
 u555 := fun _ _ _ _ => rfl
 u556 := fun _ _ _ _ => rfl
 u557 := fun _ _ _ _ => rfl
 u558 := fun _ _ _ _ => rfl
 u559 := fun _ _ _ _ => rfl
 u560 := fun _ _ _ _ => rfl
 u561 := fun _ _ _ _ => rfl
 u562 := fun _ _ _ _ => rfl
 u563 := fun _ _ _ _ => rfl
 u564 := fun _ _ _ _ => rfl
theorem hJ : JsSig sig where
 jt := hT
 u580 := fun _ _ _ _ => rfl
 u582 := fun _ _ _ _ => rfl
 u583 := fun _ _ _ _ => rfl
 u584 := fun _ _ _ _ => rfl
 u585 := fun _ _ _ _ => rfl
 u586 := fun _ _ _ _ => rfl
 u587 := fun _ _ _ _ => rfl
 u590 := fun _ _ _ _ => rfl
 u591 := fun _ _ _ _ => rfl
 u592 := fun _ _ _ _ => rfl
 u593 := fun _ _ _ _ => rfl
 u594 := fun _ _ _ _ => rfl
 u595 := fun _ _ _ _ => rfl
 u596 := fun _ _ _ _ => rfl
 u597 := fun _ _ _ _ => rfl
 u598 := fun _ _ _ _ => rfl
theorem hF : FiSig sig where
 js := hJ
 p110 := fun _ _ _ => rfl
 p111 := fun _ _ _ => rfl
 u600 := fun _ _ _ _ => rfl
 u601 := fun _ _ _ _ => rfl
 u602 := fun _ _ _ _ => rfl
 u603 := fun _ _ _ _ => rfl
 u604 := fun _ _ _ _ => rfl
 u605 := fun _ _ _ _ => rfl
 u610 := fun _ _ _ _ => rfl
 u611 := fun _ _ _ _ => rfl
 u612 := fun _ _ _ _ => rfl
 u606 := fun _ _ _ _ => rfl
theorem hD : OdSig sig where
 fi := hF
 u620 := fun _ _ _ _ => rfl
 u621 := fun _ _ _ _ => rfl
 u622 := fun _ _ _ _ => rfl
 u623 := fun _ _ _ _ => rfl
 u624 := fun _ _ _ _ => rfl
theorem hO : OfSig sig where
 od := hD
 u630 := fun _ _ _ _ => rfl
 u631 := fun _ _ _ _ => rfl
 u633 := fun _ _ _ _ => rfl
 u632 := fun _ _ _ _ => rfl
theorem hU : OuSig sig where
 ft := hO
 u640 := fun _ _ _ _ => rfl
 u641 := fun _ _ _ _ => rfl
 u642 := fun _ _ _ _ => rfl
 u643 := fun _ _ _ _ => rfl
theorem hG : OrSig sig where
 ou := hU
 u650 := fun _ _ _ _ => rfl
 u651 := fun _ _ _ _ => rfl
 u652 := fun _ _ _ _ => rfl
 u653 := fun _ _ _ _ => rfl
 u654 := fun _ _ _ _ => rfl
 u655 := fun _ _ _ _ => rfl
 u656 := fun _ _ _ _ => rfl
 u657 := fun _ _ _ _ => rfl
 u658 := fun _ _ _ _ => rfl
 u659 := fun _ _ _ _ => rfl
 u660 := fun _ _ _ _ => rfl
 u661 := fun _ _ _ _ => rfl
 u662 := fun _ _ _ _ => rfl
theorem hI : IbSig sig where
 og := hG
 p112 := fun _ _ _ => rfl
 p113 := fun _ _ _ => rfl
 p114 := fun _ _ _ => rfl
 p115 := fun _ _ _ => rfl
 p116 := fun _ _ _ => rfl
 u680 := fun _ _ _ _ => rfl
noncomputable def env (b o l c : Int) (L : List (List Int)) (b2 o2 l2 c2 : Int) (L2 : List (List Int)) : Env GG := fun i => match i with
 | 0 => .int b | 1 => .int o | 2 => .int l | 3 => .int c | 4 => .rows L | 5 => .int 0 | 6 => .int b2 | 7 => .int o2 | 8 => .int l2 | 9 => .int c2 | 10 => .rows L2 | _ => .int 0
abbrev V6 (L : List (List Int)) : List Value := L.flatMap (rowVals Zgu)
def Ro (w : World) (b o : Int) (vals : List Value) : Prop := (0 <= b \/ vals = []) /\ ∀ i v, vals[i]? = some v -> b.toNat < w.heap.size /\ w.cell? ⟨b.toNat, o.toNat + i, none⟩ = some v
def ZHX (b o l c : Int) : Value := .slice (if b < 0 then none else some ⟨b.toNat, o.toNat, none⟩) l.toNat c.toNat
theorem walk (b o l c : Int) (L : List (List Int)) (b2 o2 l2 c2 : Int) (L2 : List (List Int)) (w : World) (h0 : 0 <= l /\ l = L.length /\ l <= c /\ l <= 1048576) (hr : Ro w b o (V6 L)) (h2 : 0 <= l2 /\ l2 = L2.length /\ l2 <= c2 /\ l2 <= 1048576) (hr2 : Ro w b2 o2 (V6 L2)) :
  Calls Tryz.prog 5 #[ZHX b o l c, ZHX b2 o2 l2 c2] w fun e w' => e = .returned (.bool true) /\ Below w.heap.size w w' := by
 have q : ∀ e ∈ ZlU.reqs, (e.den sig (env b o l c L b2 o2 l2 c2 L2)).tP := by
  intro e he
  simp only [ZlU, hQ, List.cons_append, List.nil_append, List.mem_cons, List.not_mem_nil, or_false] at he
  rcases he with rfl | rfl | rfl | rfl | rfl | rfl | rfl | rfl
  all_goals simp [eLe, Go.Eng.SX.mk2, Go.Eng.SX.den, Go.Eng.ap1, Go.Eng.ap2, ai, rA, Zj, z0, env, U.co]
  all_goals omega
 have := (ZEy sig hI (ZJF sig hG)) (fun _ => true) w emp (env b o l c L b2 o2 l2 c2 L2) w [ZHX b o l c, ZHX b2 o2 l2 c2] (by
  show Go.Eng.argsR _ _ [.one (.slice (ai 0) (ai 1) z0 z0 (ai 2) (ai 3) 6), .one (.slice (ai 6) (ai 7) z0 z0 (ai 8) (ai 9) 6)] _
  refine ⟨.inr ?_, .inr ?_, trivial⟩
  all_goals simp [ZHX, Go.Eng.SV.den, Go.Eng.SC.den, Go.Eng.SX.den, ai, z0, env, U.co]) q (by
  obtain ⟨x, hx, hi⟩ := ZpF w
  rw [Go.Eng.emp_star] at hx
  refine ⟨x, ?_, hi⟩
  have e : Go.Eng.hpDen (sig.wc fun _ => true) (env b o l c L b2 o2 l2 c2 L2) w ZlU.pre = Zc (Go.Eng.roDen sig w hE (.int b) (.int o) (.rows L)) (Zc (Go.Eng.roDen sig w hE (.int b2) (.int o2) (.rows L2)) emp) := rfl
  rw [e, Go.Eng.star_assoc, Go.Eng.star_assoc, Go.Eng.roDen, Go.Eng.star_pure, Go.Eng.roDen, Go.Eng.star_pure, Go.Eng.emp_star]
  exact ⟨hr, hr2, hx⟩)
 refine this.mono ?_
 rintro e w' ⟨ρ', v, hx, rfl, hv, hs, hfa⟩
 have hv : v = (Go.Eng.SC.bool (.at .bool 12)).den sig ρ' := Go.Eng.R_one sig ρ' hv
 subst hv
 refine ⟨?_, hs.below⟩
 have h12 : (ρ' 12).toBool = true := hfa (qA 12) (List.mem_singleton.2 rfl)
 show Ending.returned (.bool (ρ' 12).toBool) = _
 rw [h12]
theorem ZoT {H : Type} : ∀ l : List (DataW H), l.length <= Rows.uptoBulkAll l
 | [] => by simp [Rows.uptoBulkAll]
 | d :: r => by
  have h1 : 1 <= Rows.uptoBulk d := by
   cases d with
   | lit l => cases l <;> simp [Rows.uptoBulk]
   | _ => simp [Rows.uptoBulk]
  have := ZoT r
  simp only [Rows.uptoBulkAll, List.length_cons]; omega
theorem ZqD {H : Type} {w : World} {v : Value} {d : DataW H} {b o l c : Int} {n : Nat} {vals : List Value} (h : ZE5 w v d b o l c n vals) : l <= Rows.uptoBulk d := by
 rcases h.2.2.2.2.2.2 with ⟨rfl, h⟩ | ⟨ds, sp, rfl, h⟩
 ·simp [Rows.uptoBulk]; omega
 ·have := ZoT ds
  simp only [Rows.uptoBulk]; omega
theorem laid : laidOutB Tryz.prog = true := by kernel_rfl
set_option maxRecDepth 100000 in
theorem YM (H : Type) (enc : TypeId × Value -> H) (W : World) (base : Nat) (args : Array Value) (ds gs : List (DataW H)) (before : List MemPlace)
  (hval : ∀ (j : Nat) t v, Tryz.f5.params[j]? = some t -> args[j]? = some v -> Value.okWide Tryz.prog W .any base t v)
  (hW : DataW.Whole enc Tryz.prog Tryz.f5.params.toList Rows.judgeOrdersSpec.vars false W args.toList ds gs before) (hk : Rows.uptoSmall H (ds ++ gs) = true) :
  Calls Tryz.prog 5 args W fun e W' => ∃ v, e = .returned v /\ Rows.judgeOrdersSpec.post enc Tryz.prog Tryz.f5 false true false false W args v W' := by
 have hW' := hW
 obtain ⟨p, q, hA0, hV, rfl, hfz, hnd⟩ := hW
 have hA : DataW.TrodAll enc Tryz.prog W 0 (fun _ => true) true Tryz.f5.params.toList args.toList ds p := hA0
 rw [Tryz.params5] at hA hval
 obtain ⟨v0, vs0, d0, ds0, p0, q0, hargs, rfl, rfl, h0, r0⟩ := trodAll_cons hA
 obtain ⟨v1, vs1, d1, ds1, p1, q1, rfl, rfl, rfl, h1, r1⟩ := trodAll_cons r0
 obtain ⟨rfl, rfl, rfl⟩ := trodAll_nil r1
 obtain rfl : args = #[v0, v1] := by cases args; simp_all
 obtain ⟨rfl, rfl⟩ := trodVars_none hV
 have hlt : ∀ x ∈ p0 ++ (p1 ++ []), x.block < W.heap.size := fun x hx => hW'.lt x (List.mem_append_left _ hx)
 have fin : ∀ (e : Ending) (W' : World), (e = .returned (.bool true) /\ Below W.heap.size W W') -> ∃ v, e = .returned v /\ Rows.judgeOrdersSpec.post enc Tryz.prog Tryz.f5 false true false false W #[v0, v1] v W' := by
  rintro e W' ⟨rfl, hb⟩
  clear hA0
  refine ⟨_, rfl, Zh5 (pa := p0 ++ (p1 ++ [])) (pv := []) hW' (fun _ _ _ => (trodAll_cons_mk (shut_bool Tryz.underlying4 _) trodAll_mk0)) ?_ (fun _ _ => rfl) rfl hb
   (ok_one (by kernel_rfl) rfl (okWide_bool_mk Tryz.underlying4 _))⟩
  intro sp hsp
  refine trodAll_cons_mk ?_ (trodAll_cons_mk ?_ trodAll_mk0)
  ·exact WideElems.Trod_stays laid (by kernel_rfl) (of_decide_eq_true (by kernel_rfl)) h0 (fun x hx => hb.same (hlt x (by simp [hx]))) (fun x hx => hsp x (by simp [hx]))
  ·exact WideElems.Trod_stays laid (by kernel_rfl) (of_decide_eq_true (by kernel_rfl)) h1 (fun x hx => hb.same (hlt x (by simp [hx]))) (fun x hx => hsp x (by simp [hx]))
 obtain ⟨b, o, l, c, L, g0⟩ := Zjx (enc := enc) (W := W) (base := base) (v := v0) (d := d0) (ps := p0) Tryz.underlying22 Tryz.underlying48 (by kernel_rfl) rfl rfl rfl rfl rfl rfl (by kernel_rfl) (by kernel_rfl) (by kernel_rfl) (by kernel_rfl) (by kernel_rfl) (by kernel_rfl)
  Tryz.underlying3 Tryz.underlying3 Tryz.underlying9 Tryz.underlying9 Tryz.underlying4 Tryz.underlying3 (hval 0 22 v0 rfl rfl) h0
 obtain ⟨b2, o2, l2, c2, L2, g1⟩ := Zjx (enc := enc) (W := W) (base := base) (v := v1) (d := d1) (ps := p1) Tryz.underlying22 Tryz.underlying48 (by kernel_rfl) rfl rfl rfl rfl rfl rfl (by kernel_rfl) (by kernel_rfl) (by kernel_rfl) (by kernel_rfl) (by kernel_rfl) (by kernel_rfl)
  Tryz.underlying3 Tryz.underlying3 Tryz.underlying9 Tryz.underlying9 Tryz.underlying4 Tryz.underlying3 (hval 1 22 v1 rfl rfl) h1
 have hb : Rows.uptoBulkAll ([d0, d1] ++ [] : List (DataW H)) <= 1048576 := of_decide_eq_true hk
 simp only [List.append_nil, Rows.uptoBulkAll] at hb
 have k0 := ZqD g0
 have k1 := ZqD g1
 refine Calls.mono ?_ fin
 have := walk b o l c L b2 o2 l2 c2 L2 W ⟨g0.2.1, g0.2.2.1, g0.2.2.2.1, by omega⟩ g0.2.2.2.2.2.1 ⟨g1.2.1, g1.2.2.1, g1.2.2.2.1, by omega⟩ g1.2.2.2.2.2.1
 have e0 : v0 = ZHX b o l c := g0.1
 have e1 : v1 = ZHX b2 o2 l2 c2 := g1.1
 rw [e0, e1]
 exact this
set_option maxRecDepth 100000 in
theorem ZMx (os : Os) (started : os.Started) (H : Type) (enc : TypeId × Value -> H) (F : Stop.Interp) :
  ReturnsInHanded {} Tryz.checked os 5 .any ((Rows.OpenSpec.upto Rows.judgeOrdersSpec).pre6 enc Tryz.prog Tryz.f5 Rows.judgeOrdersUptoRow.domain false) (((Rows.OpenSpec.upto Rows.judgeOrdersSpec).at F).post enc Tryz.prog Tryz.f5 false true false false) := by
 refine returnsInHanded_of_cond (C := Tryz.checked) (s := Rows.OpenSpec.upto Rows.judgeOrdersSpec) (k := Rows.uptoSmall) rfl own started (by kernel_rfl) Tryz.func5
  (OpenSpec.witness (enc := enc) (C := Tryz.checked) (s := Rows.OpenSpec.upto Rows.judgeOrdersSpec) (k := Rows.uptoSmall) rfl false ⟨#[], #[.slice none 0 0, .slice none 0 0], []⟩ 8 (by kernel_rfl) (by kernel_rfl) (by kernel_rfl)
   (x := ([.nil, .nil], [], [])) (by kernel_rfl) rfl (by kernel_rfl)) ?_
 intro W base args ds gs before hval hW _ hk _
 exact YM H enc W base args ds gs before hval hW hk
theorem over : Rows.judgeOrdersUptoRow.holds Tryz.pinned (Rows.OpenSpec.upto Rows.judgeOrdersSpec) :=
 OpenClaim.holds_of_cond 5 Tryz.f5 rfl rfl rfl rfl rfl rfl rfl ⟨rfl, rfl, rfl, rfl, rfl⟩ rfl rfl rfl rfl rfl (by kernel_rfl) Tryz.func5 (by kernel_rfl)
  (of_decide_eq_true (by kernel_rfl)) (by unfold Func.isWrapper; first | (rw [if_pos (by decide +kernel)]; kernel_rfl) | (rw [if_neg (by decide +kernel)]; exact ⟨rfl, rfl⟩))
  (fun os started H enc _ F => ZMx os started H enc F)
theorem proved : Rows.JudgeOrdersUptoSaid :=
 over
#print axioms proved
end Go.Proofs.YtidlngnhjffepaaGreat.judgeOrders
