/- Part of a proof. -/
import Derived.Test.YtlcfjjjdhdfbdaaGreatPs4
import Derived.Shelf.SlIterI.Sorted
import Derived.Shelf.SortM.Plain
import Derived.Shelf.SortM.SortNone
import Derived.Ground.GgzProg
import Derived.Ground.SlgmProg
import Derived.Test.YtlcfjjjdhdfbdaaGreatProg
set_option linter.unusedSimpArgs false
set_option linter.unusedVariables false
set_option maxRecDepth 20000
namespace Go.Proofs.YtlcfjjjdhdfbdaaGreat
noncomputable section
open Go.Eng
def ZvU : Ctr := ⟨[.int, .ints, .int, .int, .int, .int], [.one (sl1 (ai 0) (ai 2) (ai 3)), .one (.int .i64 (ai 5))], [iAr (ai 0) (iA 1) (ai 4)], [eLe (.int 0) (ai 2), eLe (ai 2) (Zb7 (iA 1)), eLe (ai 2) (.int 140737488355328)], [.bool], .one (.bool (qA 6)), [iAr (ai 0) (iA 1) (ai 4)], [.f2 48 (qA 6) (usB 231 (iA 1) (ai 2) (ai 5))]⟩
def conI : Inv := ⟨[.int], [(8, .one (.int .i64 (di 0)))], [], [eLe (.int 0) (di 0), eLe (di 0) (ai 2), .f1 2 (usB 231 (iA 1) (di 0) (ai 5))], .f2 41 (ai 2) (di 0)⟩
def ZQz : Cx := { specs := [], anns := [(103, [(2, .inv conI)])] }
def faC : List Ch := .cel (ai 0) 0 (ZFE (gA 1)) :: ZOK (gA 1) ++ [lsC (ai 5) (rA 11) (gA 1)]
def Zjb : Ctr := ⟨[.int, .g, .int, .int, .int, .int, .int, .int, .int, .int, .int, .rows, .amap, .ints], [.one (.ptr (ai 0) 0), .agg [sl1 (ai 8) (ai 9) (ai 10), .int .i64 (usI 203 (gA 1) z0 z0), .int .i64 (usI 204 (gA 1) z0 z0)]], faC,
 [eLe (.int 0) (ai 5), eLe (ai 5) (ZA (rA 11)), .f2 45 (ai 5) (usI 211 (gA 1) z0 z0), eLe (ai 5) Zau, eLe (.int 0) (ai 9), eLe (ai 9) (Zb7 (iA 13)), eLe (ai 9) (.int 140737488355328), .f2 153 (tkI (iA 13) (ai 9)) (usN 209 (gA 1) z0 z0), usB 215 (gA 1) z0 z0, eLe (ZP (sfX (gA 1))) (ai 3)], [], .tup [], [plC (ai 0) (usG 225 (gA 1) z0 z0)], []⟩
def fallI : Inv := ⟨[.int, .bytes], [(11, .one (.int .i64 (di 0)))], [bAr (ai 2) (bA 1000001) (ai 3)], [eLe (.int 0) (di 0), eLe (di 0) (ai 5), eqS (bA 1000001) (usY 226 (gA 1) (di 0) z0), .f2 45 (ZP (bA 1000001)) (ZP (sfX (gA 1)))], .f2 41 (ai 5) (di 0)⟩
def ZIl : Cx := { specs := [(90, [ZvU])], anns := [(80, [(2, .inv fallI), (4, .ghost ZpZ [.tmp 4]), (8, .ghost Zjh []), (9, .ghost (ZIw 225) []), (999999, .ghost (ZeE [] [] (gA 1)) [.tmp 0])])] }
def ZSD : VC := i (l z (a 2)) (i (l (a 2) (.f1 30 (s 1))) (i (l (a 2) k1) (n (.f1 2 (y 231 (s 1) z (a 5))) (u 6 .int (i (l z (a 6)) (i (l (a 6) (a 2)) (i (.f1 2 (y 231 (s 1) (a 6) (a 5))) (.and (i (t (a 6) (a 2)) (n (t (a 6) (.f1 30 (s 1))) (.and (i (e (a 5) (.f2 110 (s 1) (a 6))) (n (.f2 48 (l z (a 6)) (y 231 (s 1) (a 2) (a 5))) .tt)) (i (.f1 2 (e (a 5) (.f2 110 (s 1) (a 6)))) (n (.f1 23 (.f2 40 (a 6) (k 1))) (n (l z (.f2 41 (a 2) (.f2 40 (a 6) (k 1)))) (n (t (.f2 41 (a 2) (.f2 40 (a 6) (k 1))) (.f2 41 (a 2) (a 6))) (n (l z (.f2 40 (a 6) (k 1))) (n (l (.f2 40 (a 6) (k 1)) (a 2)) (n (.f1 2 (y 231 (s 1) (.f2 40 (a 6) (k 1)) (a 5))) .tt)))))))))) (i (l (a 2) (a 6)) (n (.f2 48 (.bool .false) (y 231 (s 1) (a 2) (a 5))) .tt))))))))))
theorem ZR2 : Yk Tryz.prog ZQz 12 90 ZvU = ZSD := by kernel_rfl
def ZH1 : VC := i (l z (a 5)) (i (l (a 5) (.f1 32 (r 11))) (i (e (a 5) (v 211 (g 1))) (i (l (a 5) k2) (i (l z (a 9)) (i (l (a 9) (.f1 30 (s 13))) (i (l (a 9) k1) (i (.f2 153 (.f2 113 (s 13) (a 9)) (o 209 (g 1))) (i (p 215 (g 1)) (i (l (.f1 31 (j 208 (g 1))) (a 3)) (u 14 .int (i (l z (a 14)) (n (.f2 155 (j 208 (g 1)) (j 226 (g 1))) (n (e (.f1 31 (j 208 (g 1))) (.f1 31 (j 208 (g 1)))) (u 15 .int (u 16 .bytes (i (l z (a 15)) (i (l (a 15) (a 5)) (i (.f2 155 (b 16) (wB 226 (g 1) (a 15))) (i (e (.f1 31 (b 16)) (.f1 31 (j 208 (g 1)))) (.and (i (t (a 15) (a 5)) (n (t (a 15) (.f1 32 (r 11))) (u 17 .int (i (l z (a 17)) (u 18 .bytes (i (l z (.f3 112 (r 11) (a 15) (k 2))) (i (l (.f3 112 (r 11) (a 15) (k 2)) (.f1 31 (b 18))) (i (.f2 155 (.f2 114 (b 18) (.f3 112 (r 11) (a 15) (k 2))) (wB 212 (g 1) (a 15))) (i (e (.f3 112 (r 11) (a 15) z) (d 217 (g 1) (a 15))) (i (l (.f3 112 (r 11) (a 15) (k 2)) (.f3 112 (r 11) (a 15) (k 3))) (.and (i (e (a 15) (v 203 (g 1))) (n (l z (.f3 112 (r 11) (a 15) (k 3))) (n (l z (.f2 51 (.f2 52 (v 204 (g 1)) z) (v 200 (g 1)))) (n (l (.f2 51 (.f2 52 (v 204 (g 1)) z) (v 200 (g 1))) (.f3 112 (r 11) (a 15) (k 3))) (n (.f1 23 (.f2 42 (.f3 112 (r 11) (a 15) z) (v 200 (g 1)))) (n (.f1 23 (.f2 40 (.f3 112 (r 11) (a 15) z) (k 1))) (n (.f1 23 (.f2 42 (.f2 40 (.f3 112 (r 11) (a 15) z) (k 1)) (v 200 (g 1)))) (n (l z (a 3)) (n (l z (.f2 42 (.f3 112 (r 11) (a 15) z) (v 200 (g 1)))) (n (l (.f2 42 (.f3 112 (r 11) (a 15) z) (v 200 (g 1))) (.f2 42 (.f2 40 (.f3 112 (r 11) (a 15) z) (k 1)) (v 200 (g 1)))) (n (l z (.f2 42 (.f2 40 (.f3 112 (r 11) (a 15) z) (k 1)) (v 200 (g 1)))) (n (l (.f2 42 (.f2 40 (.f3 112 (r 11) (a 15) z) (k 1)) (v 200 (g 1))) (a 3)) (n (l z (.f2 41 (.f2 42 (.f2 40 (.f3 112 (r 11) (a 15) z) (k 1)) (v 200 (g 1))) (.f2 42 (.f3 112 (r 11) (a 15) z) (v 200 (g 1))))) (n (l (.f2 41 (.f2 42 (.f2 40 (.f3 112 (r 11) (a 15) z) (k 1)) (v 200 (g 1))) (.f2 42 (.f3 112 (r 11) (a 15) z) (v 200 (g 1)))) (.f2 41 (a 3) (.f2 42 (.f3 112 (r 11) (a 15) z) (v 200 (g 1))))) (n (l (.f2 42 (.f3 112 (r 11) (a 15) z) (v 200 (g 1))) (.f1 31 (b 16))) (n (l (.f2 40 (.f2 42 (.f3 112 (r 11) (a 15) z) (v 200 (g 1))) (.f2 41 (.f2 42 (.f2 40 (.f3 112 (r 11) (a 15) z) (k 1)) (v 200 (g 1))) (.f2 42 (.f3 112 (r 11) (a 15) z) (v 200 (g 1))))) (a 3)) (n (l (.f2 51 (.f2 52 (v 204 (g 1)) z) (v 200 (g 1))) (.f1 31 (b 18))) (n (.f1 23 (.f2 40 (a 15) (k 1))) (n (l z (.f2 41 (a 5) (.f2 40 (a 15) (k 1)))) (n (t (.f2 41 (a 5) (.f2 40 (a 15) (k 1))) (.f2 41 (a 5) (a 15))) (n (l z (.f2 40 (a 15) (k 1))) (n (l (.f2 40 (a 15) (k 1)) (a 5)) (n (.f2 155 (.f2 120 (.f2 114 (b 16) (.f2 42 (.f3 112 (r 11) (a 15) z) (v 200 (g 1)))) (.f2 120 (.f2 114 (.f2 114 (b 18) (.f2 51 (.f2 52 (v 204 (g 1)) z) (v 200 (g 1)))) (.f2 51 (.f2 51 (.f2 52 (v 204 (g 1)) z) (v 200 (g 1))) (.f2 41 (.f2 42 (.f2 40 (.f3 112 (r 11) (a 15) z) (k 1)) (v 200 (g 1))) (.f2 42 (.f3 112 (r 11) (a 15) z) (v 200 (g 1)))))) (.f2 117 (b 16) (.f2 40 (.f2 42 (.f3 112 (r 11) (a 15) z) (v 200 (g 1))) (.f2 51 (.f2 51 (.f2 52 (v 204 (g 1)) z) (v 200 (g 1))) (.f2 41 (.f2 42 (.f2 40 (.f3 112 (r 11) (a 15) z) (k 1)) (v 200 (g 1))) (.f2 42 (.f3 112 (r 11) (a 15) z) (v 200 (g 1))))))))) (wB 226 (g 1) (.f2 40 (a 15) (k 1)))) (n (e (.f2 40 (.f1 31 (.f2 114 (b 16) (.f2 42 (.f3 112 (r 11) (a 15) z) (v 200 (g 1))))) (.f2 40 (.f1 31 (.f2 114 (.f2 114 (b 18) (.f2 51 (.f2 52 (v 204 (g 1)) z) (v 200 (g 1)))) (.f2 51 (.f2 51 (.f2 52 (v 204 (g 1)) z) (v 200 (g 1))) (.f2 41 (.f2 42 (.f2 40 (.f3 112 (r 11) (a 15) z) (k 1)) (v 200 (g 1))) (.f2 42 (.f3 112 (r 11) (a 15) z) (v 200 (g 1))))))) (.f1 31 (.f2 117 (b 16) (.f2 40 (.f2 42 (.f3 112 (r 11) (a 15) z) (v 200 (g 1))) (.f2 51 (.f2 51 (.f2 52 (v 204 (g 1)) z) (v 200 (g 1))) (.f2 41 (.f2 42 (.f2 40 (.f3 112 (r 11) (a 15) z) (k 1)) (v 200 (g 1))) (.f2 42 (.f3 112 (r 11) (a 15) z) (v 200 (g 1)))))))))) (.f1 31 (j 208 (g 1)))) .tt)))))))))))))))))))))))) (i (.f1 2 (e (a 15) (v 203 (g 1)))) (u 19 .bool (i (.f2 48 (q 19) (y 231 (s 13) (a 9) (a 15))) (.and (i (q 19) (n (.f1 23 (.f2 42 (.f3 112 (r 11) (a 15) z) (v 200 (g 1)))) (n (.f1 23 (.f2 40 (.f3 112 (r 11) (a 15) z) (k 1))) (n (.f1 23 (.f2 42 (.f2 40 (.f3 112 (r 11) (a 15) z) (k 1)) (v 200 (g 1)))) (n (l z (a 3)) (n (l z (.f2 42 (.f3 112 (r 11) (a 15) z) (v 200 (g 1)))) (n (l (.f2 42 (.f3 112 (r 11) (a 15) z) (v 200 (g 1))) (.f2 42 (.f2 40 (.f3 112 (r 11) (a 15) z) (k 1)) (v 200 (g 1)))) (n (l z (.f2 42 (.f2 40 (.f3 112 (r 11) (a 15) z) (k 1)) (v 200 (g 1)))) (n (l (.f2 42 (.f2 40 (.f3 112 (r 11) (a 15) z) (k 1)) (v 200 (g 1))) (a 3)) (n (l z (.f2 41 (.f2 42 (.f2 40 (.f3 112 (r 11) (a 15) z) (k 1)) (v 200 (g 1))) (.f2 42 (.f3 112 (r 11) (a 15) z) (v 200 (g 1))))) (n (l (.f2 41 (.f2 42 (.f2 40 (.f3 112 (r 11) (a 15) z) (k 1)) (v 200 (g 1))) (.f2 42 (.f3 112 (r 11) (a 15) z) (v 200 (g 1)))) (.f2 41 (a 3) (.f2 42 (.f3 112 (r 11) (a 15) z) (v 200 (g 1))))) (n (l (.f2 42 (.f3 112 (r 11) (a 15) z) (v 200 (g 1))) (.f1 31 (b 16))) (n (l (.f2 40 (.f2 42 (.f3 112 (r 11) (a 15) z) (v 200 (g 1))) (.f2 41 (.f2 42 (.f2 40 (.f3 112 (r 11) (a 15) z) (k 1)) (v 200 (g 1))) (.f2 42 (.f3 112 (r 11) (a 15) z) (v 200 (g 1))))) (a 3)) (n (.f1 23 (.f2 40 (a 15) (k 1))) (n (l z (.f2 41 (a 5) (.f2 40 (a 15) (k 1)))) (n (t (.f2 41 (a 5) (.f2 40 (a 15) (k 1))) (.f2 41 (a 5) (a 15))) (n (l z (.f2 40 (a 15) (k 1))) (n (l (.f2 40 (a 15) (k 1)) (a 5)) (n (.f2 155 (.f2 120 (.f2 114 (b 16) (.f2 42 (.f3 112 (r 11) (a 15) z) (v 200 (g 1)))) (.f2 120 (.f2 114 (.f2 114 (b 18) (.f3 112 (r 11) (a 15) (k 2))) (.f2 51 (.f3 112 (r 11) (a 15) (k 2)) (.f2 41 (.f2 42 (.f2 40 (.f3 112 (r 11) (a 15) z) (k 1)) (v 200 (g 1))) (.f2 42 (.f3 112 (r 11) (a 15) z) (v 200 (g 1)))))) (.f2 117 (b 16) (.f2 40 (.f2 42 (.f3 112 (r 11) (a 15) z) (v 200 (g 1))) (.f2 51 (.f3 112 (r 11) (a 15) (k 2)) (.f2 41 (.f2 42 (.f2 40 (.f3 112 (r 11) (a 15) z) (k 1)) (v 200 (g 1))) (.f2 42 (.f3 112 (r 11) (a 15) z) (v 200 (g 1))))))))) (wB 226 (g 1) (.f2 40 (a 15) (k 1)))) (n (e (.f2 40 (.f1 31 (.f2 114 (b 16) (.f2 42 (.f3 112 (r 11) (a 15) z) (v 200 (g 1))))) (.f2 40 (.f1 31 (.f2 114
 (.f2 114 (b 18) (.f3 112 (r 11) (a 15) (k 2))) (.f2 51 (.f3 112 (r 11) (a 15) (k 2)) (.f2 41 (.f2 42 (.f2 40 (.f3 112 (r 11) (a 15) z) (k 1)) (v 200 (g 1))) (.f2 42 (.f3 112 (r 11) (a 15) z) (v 200 (g 1))))))) (.f1 31 (.f2 117 (b 16) (.f2 40 (.f2 42 (.f3 112 (r 11) (a 15) z) (v 200 (g 1))) (.f2 51 (.f3 112 (r 11) (a 15) (k 2)) (.f2 41 (.f2 42 (.f2 40 (.f3 112 (r 11) (a 15) z) (k 1)) (v 200 (g 1))) (.f2 42 (.f3 112 (r 11) (a 15) z) (v 200 (g 1)))))))))) (.f1 31 (j 208 (g 1)))) .tt)))))))))))))))))))) (i (.f1 2 (q 19)) (n (.f1 23 (.f2 40 (a 15) (k 1))) (n (l z (.f2 41 (a 5) (.f2 40 (a 15) (k 1)))) (n (t (.f2 41 (a 5) (.f2 40 (a 15) (k 1))) (.f2 41 (a 5) (a 15))) (n (l z (.f2 40 (a 15) (k 1))) (n (l (.f2 40 (a 15) (k 1)) (a 5)) (n (.f2 155 (b 16) (wB 226 (g 1) (.f2 40 (a 15) (k 1)))) .tt)))))))))))))))))))))) (i (l (a 5) (a 15)) (n (e (v 211 (w 225 (g 1))) z) (n (.f2 155 (.f1 154 z) (.f1 154 z)) (n (.f2 153 (.f2 113 (s 13) (a 9)) (o 209 (w 225 (g 1)))) (n (c 214 (.f1 155 z) (w 225 (g 1))) (n (p 215 (w 225 (g 1))) (n (c 216 (w 225 (g 1)) (w 225 (g 1))) (n (.f2 155 (j 208 (w 225 (g 1))) (b 16)) (n (e (v 207 (w 225 (g 1))) (v 207 (g 1))) (n (e (v 206 (w 225 (g 1))) (v 206 (g 1))) (n (e (v 205 (w 225 (g 1))) (v 205 (g 1))) (n (e (v 204 (w 225 (g 1))) (v 204 (g 1))) (n (e (v 203 (w 225 (g 1))) (v 203 (g 1))) (n (e (v 202 (w 225 (g 1))) (k (- (0 + 1)))) (n (.f2 155 (p 201 (w 225 (g 1))) (.bool .true)) (n (e (.f1 31 (j 208 (w 225 (g 1)))) (.f1 31 (j 208 (g 1)))) (n (e (v 200 (w 225 (g 1))) (v 200 (g 1))) .tt)))))))))))))))))))))))))))))))))))))
theorem ZKo : Yk Tryz.prog ZIl 12 80 Zjb = ZH1 := by kernel_rfl
theorem Zjx {X : List Int} {i v : Int} (h0 : 0 <= i) (h1 : i < X.length) : (X.take (i + 1).toNat).contains v = ((X.take i.toNat).contains v || v == X.getD i.toNat 0) := by
 have e : X.take (i + 1).toNat = X.take i.toNat ++ [X.getD i.toNat 0] := by
  rw [show (i + 1).toNat = i.toNat + 1 by omega, List.take_add_one, ZUj, ZUm (show i.toNat < X.length by omega)]; rfl
 rw [e]
 generalize X.take i.toNat = A
 generalize X.getD i.toNat 0 = x
 simp
 rfl
theorem ZSZ (S : Sig GG) (hS : DvSig S) : Zs S Tryz.prog 90 ZvU := by
 refine Zd S (C := ZQz) (fuel := 12) (Zx trivial ⟨⟨trivial, trivial⟩, trivial⟩ trivial) fun ρ => ?_
 rw [ZR2]
 simp only [ZSD, VC.den, SX.den, ZN, Env.upd, ZS, Zao, Z3, Z2, ZB, ZI, ZJ, ZH, beq_iff_eq, Bool.not_eq_true', beq_eq_false_iff_ne, ne_eq, Bool.not_not, U.tMi, Int.toNat_zero, Nat.reduceEqDiff, reduceIte, Zf, ZK, ZG, U.int.injEq, sdv hS, sB]
 generalize (ρ 1).tN = X
 generalize (ρ 2).tI = l
 generalize (ρ 5).tI = v
 intro h1 h2 h3
 refine ⟨by simp, fun i i0 i1 hi => ⟨fun hil => ⟨by omega, fun hv => ⟨?_, trivial⟩, fun hv => ⟨by omega, by omega, by omega, by omega, by omega, ?_, trivial⟩⟩, fun hil => ⟨?_, trivial⟩⟩⟩
 ·have hs := Zjx (X := X) (v := v) i0 (by omega)
  have : (X.take l.toNat).contains v = true := by
   have hm : v ∈ X.take (i + 1).toNat := by
    have : (X.take (i + 1).toNat).contains v = true := by rw [hs, hv]; simp
    simpa using this
   have hsub : X.take (i + 1).toNat = (X.take l.toNat).take (i + 1).toNat := by rw [List.take_take, Nat.min_eq_left (by omega)]
   rw [hsub] at hm
   simpa using List.mem_of_mem_take hm
  rw [this, ZQC, ZRS]
  simp only [U.tPi, U.tQi, U.tIi, beq_iff_eq]; exact decide_eq_true i0
 ·rw [Zjx i0 (by omega), hi]; simpa using hv
 ·rw [show l = i by omega, hi]
theorem ZlY (d : Dv) (p : Int × List UInt8) : ∀ (l : List (Int × List UInt8)) (i : Int) (s : List UInt8), Zcd d i (l ++ [p]) s = ZdV (Zcd d i l s) (p.1 * d.page).toNat (p.2.take (ZeW d (i + l.length)).toNat)
 | [], i, s => by simp [Zcd]
 | q :: l, i, s => by
  show Zcd d (i + 1) (l ++ [p]) _ = _
  rw [ZlY d p l, show i + 1 + (l.length : Int) = i + ((q :: l).length : Nat) by simp only [ZUD]; omega]; rfl
theorem Zk6 {d : Dv} {i : Int} (h0 : 0 <= i) (h1 : i < d.w.length) : Zcd d 0 (d.w.take (i + 1).toNat) d.safe = ZdV (Zcd d 0 (d.w.take i.toNat) d.safe) (d.pg i * d.page).toNat ((d.dat i).take (ZeW d i).toNat) := by
 have e : d.w.take (i + 1).toNat = d.w.take i.toNat ++ [d.w.getD i.toNat (0, [])] := by
  rw [show (i + 1).toNat = i.toNat + 1 by omega, List.take_add_one, ZUj, ZUm (by omega)]; rfl
 rw [e, ZlY, show (0 : Int) + ((d.w.take i.toNat).length : Nat) = i by rw [ZUl]; omega]; rfl
theorem ZlC {X Y : List UInt8} {p k c : Int} (hk : k = c) (p0 : 0 <= p) (c0 : 0 <= c) (hc : c <= Y.length) : X.take p.toNat ++ ((Y.take c.toNat).take k.toNat ++ X.drop (p + k).toNat) = ZdV X p.toNat (Y.take c.toNat) := by
 subst hk
 unfold ZdV
 rw [List.take_take, Nat.min_self, ZUl, Nat.min_eq_left (by omega), show (p + k).toNat = p.toNat + k.toNat by omega]
theorem ZJD (X : List UInt8) (p : Nat) : ZdV X p [] = X := by unfold ZdV; simp
theorem Zhr {X Y : List UInt8} {p k c m : Int} (hk : k = c) (p0 : 0 <= p) (c0 : 0 <= c) (hc : c <= Y.length) (hx : (X.length : Int) = m) (h : p + c <= m) : ((X.take p.toNat).length : Int) + ((((Y.take c.toNat).take k.toNat).length : Nat) + ((X.drop (p + k).toNat).length : Nat)) = m := by
 subst hk
 simp only [ZUl, ZUx]; omega
theorem ZwH {d : Dv} (hp : 0 <= d.page) (i : Int) : 0 <= ZeW d i /\ ZeW d i <= d.page := by
 unfold ZeW Zkt Zbd
 repeat' split
 all_goals omega
theorem ZdW {d : Dv} (hg : GoodD d) : ∀ (l : List (Int × List UInt8)) (i : Int) (s : List UInt8), s.length = d.safe.length -> (∀ p ∈ l, p ∈ d.w) -> (Zcd d i l s).length = d.safe.length
 | [], _, _, h, _ => h
 | p :: l, i, s, h, hm => by
  have hb := Yv hg
  have hw := hg.w p (hm p ZUr)
  have hi := Yn hw.1 hw.2.1 (Int.le_of_lt hb.1)
  have hc := ZwH (Int.le_of_lt hb.1) (d := d) i
  have hl : (ZdV s (p.1 * d.page).toNat (p.2.take (ZeW d i).toNat)).length = s.length := Zek (by rw [ZUl]; omega)
  exact ZdW hg l _ _ (by rw [hl]; exact h) fun q hq => hm q (ZUp _ hq)
theorem ZmP {d : Dv} (hg : GoodD d) : GoodD d.fall := by
 have hl : d.fall.safe.length = d.safe.length := ZdW hg d.w 0 d.safe rfl fun _ h => h
 obtain ⟨k, k1, k2, k3, k4⟩ := hg.pgs
 exact ⟨hg.size, ⟨k, k1, k2, by rw [hl]; exact k3, by rw [hl]; exact k4⟩, (fun p hp => nomatch hp), ⟨ZUu _, show (-1 : Int) <= 9223372036854775807 by decide⟩, hg.cnt⟩
theorem ZBG (S : Sig GG) (hS : DvSig S) : Zs S Tryz.prog 80 Zjb := by
 refine Zd S (C := ZIl) (fuel := 12) (Zx ⟨Zc (by decide) (ZSZ S hS), trivial⟩ ⟨⟨trivial, ⟨by decide, Zfe S hS⟩, ⟨by decide, Zfd S hS⟩, ⟨by decide, Zqw S hS 225⟩, ⟨by decide, Y9 S hS _ _ _⟩, trivial⟩, trivial⟩ trivial) fun ρ => ?_
 rw [ZKo]
 simp only [ZH1, Zbf, Zr, VC.den, SX.den, ZN, Env.upd, ZS, Zao, Z3, Z2, ZB, ZI, ZJ, ZH, beq_iff_eq, Bool.not_eq_true', beq_eq_false_iff_ne, ne_eq, Bool.not_not, U.tMi, Int.toNat_zero, Nat.reduceEqDiff, reduceIte, Zf, ZK, ZG, U.int.injEq, sdv hS, sB]
 generalize Zk (U.co S .g (ρ 1)) = d
 generalize (ρ 11).tR = R
 generalize (ρ 13).tN = Z
 generalize (ρ 5).tI = m
 generalize (ρ 9).tI = fl
 generalize (ρ 3).tI = sc
 intro h1 h2 h3 hbig h4 h5 h6 h7 hg h9 _ _
 have hb := Yv hg
 have hF : ∀ i : Int, (Zcd d 0 (d.w.take i.toNat) d.safe).length = d.safe.length := fun i => ZdW hg _ _ _ rfl fun p hp => List.mem_of_mem_take hp
 refine ⟨rfl, trivial, fun i X i0 i1 hX hXl => ⟨fun him => ?_, fun him => ?_⟩⟩
 ·refine ⟨by omega, fun _ _ B q0 q1 q2 q3 q4 => ?_⟩
  obtain ⟨hdl, hp0, hp1⟩ := ZaB hg i0 (show i < d.w.length by omega)
  have hpp := Yn hp0 hp1 (Int.le_of_lt hb.1)
  have hst := Zk6 (d := d) i0 (by omega)
  rw [<- hX] at hst
  have hL : ((R.getD i.toNat []).getD (Int.toNat 2) 0) = d.page := by
   rw [<- hdl, <- q2, ZUl]; omega
  rw [hL] at q1 q2 q4 ⊢
  rw [q3]
  have hw : (d.pg i + 1) * d.page - d.pg i * d.page = d.page := by rw [Int.add_mul, Int.one_mul]; omega
  have hw1 : (d.pg i + 1) * d.page = d.pg i * d.page + d.page := by rw [Int.add_mul, Int.one_mul]
  rw [hw, hw1, hst]
  have hcl := ZwH (Int.le_of_lt hb.1) (d := d) i
  refine ⟨fun ht => ?_, fun ht x hx => ⟨fun hxt => ?_, fun hxf => ?_⟩⟩
  ·have hc : ZeW d i = Zkt (Zbd d.at' 0) d.page := by unfold ZeW; rw [if_pos ht]
   rw [<- hc, YF (x := ZeW d i) hcl.2]
   have e : B.take (ZeW d i).toNat = (d.dat i).take (ZeW d i).toNat := by rw [<- q2, List.take_take, Nat.min_eq_left (by omega)]
   rw [e]
   exact ⟨by omega, by omega, by omega, ⟨by omega, by omega⟩, ⟨by omega, by omega⟩, ⟨by omega, by omega⟩, by omega, by omega, by omega, by omega, by omega, by omega, by omega, by omega, by omega, by omega, ⟨by omega, by omega⟩, by omega, by omega, by omega, by omega, ZlC rfl hpp.1 hcl.1 (by omega), Zhr rfl hpp.1 hcl.1 (by omega) hXl (by omega), trivial⟩
  ·have hkc : d.keep.contains i = true := by rw [<- h7, <- hx]; exact hxt
   have hc : ZeW d i = d.page := by unfold ZeW; rw [if_neg ht, if_pos hkc]
   rw [YF (x := d.page) (ZUu _), q2, hc]
   exact ⟨⟨by omega, by omega⟩, ⟨by omega, by omega⟩, ⟨by omega, by omega⟩, by omega, by omega, by omega, by omega, by omega, by omega, by omega, by omega, by omega, ⟨by omega, by omega⟩, by omega, by omega, by omega, by omega, by have h := ZlC (X := X) (Y := d.dat i) (p := d.pg i * d.page) (k := d.page) (c := d.page) rfl hpp.1 (by omega) (by omega); rw [List.take_take, Nat.min_self] at h; exact h, by have h := Zhr (X := X) (Y := d.dat i) (p := d.pg i * d.page) (k := d.page) (c := d.page) rfl hpp.1 (by omega) (by omega) hXl (by omega); rw [List.take_take, Nat.min_self] at h; exact h, trivial⟩
  ·have hkc : ¬ d.keep.contains i = true := by rw [<- h7, <- hx, hxf]; simp
   have hc : ZeW d i = 0 := by unfold ZeW; rw [if_neg ht, if_neg hkc]
   rw [hc]
   exact ⟨⟨by omega, by omega⟩, by omega, by omega, by omega, by omega, (ZJD X _).symm, trivial⟩
 ·have hil : i = d.w.length := by omega
  have hall : X = d.fall.safe := by rw [hX, hil]; show Zcd d 0 (d.w.take ((d.w.length : Nat) : Int).toNat) d.safe = Zcd d 0 d.w d.safe; rw [ZUq, List.take_length]
  exact ⟨rfl, trivial, h7, ⟨fun n => rfl, fun p hp => nomatch hp⟩, ZmP hg, trivial, hall.symm, rfl, rfl, rfl, rfl, rfl, rfl, rfl, by rw [<- hall]; exact hXl, rfl, trivial⟩
def wbX : SX := tkB (bA 7) (ai 5)
def Zee : Ctr := ⟨[.int, .g, .int, .int, .int, .int, .int, .bytes, .int], [.one (.ptr (ai 0) 0), .one (.int .i64 (ai 2)), .one (slR 3)], [plC (ai 0) (gA 1), ZtS 0 3],
 [eLe (.int 0) (ai 5), eLe (ai 5) (ZP (bA 7)), eLe (ai 5) (ai 6), eLe (ai 5) (.int 1099511627776), .f2 50 (eLe (.int 0) (ai 3)) (.f2 45 (ai 5) z0), eLe (usI 206 (gA 1) z0 z0) Zau, eLe (usI 211 (gA 1) z0 z0) (.int 1099511627776), eLe (.f1 30 (usN 209 (gA 1) z0 z0)) (.int 140737488355328)], [],
 .one (.int .i64 (usI 222 (gA 1) (ai 2) wbX)), [plC (ai 0) (usG 221 (gA 1) (ai 2) wbX), ZtS 0 3], []⟩
def ZAO : Cx := { specs := [(79, [Zry]), (80, [Zjb])], anns := [(47, [(1, .ghost Zob [.tmp 0]),
 (3, .ghost (ZeE [] [] (usG 234 (gA 1) z0 z0)) [.tmp 0]), (5, .ghost (ZeE [] [] (usG 234 (gA 1) z0 z0)) [.tmp 0]), (9, .ghost ZEP [.tmp 1, .tmp 41]), (12, .ghost (ZeE [] [] (usG 233 (gA 1) z0 z0)) [.tmp 0])])] }
def ZxM : VC := i (l z (a 5)) (i (l (a 5) (.f1 31 (b 7))) (i (l (a 5) (a 6)) (i (l (a 5) k0) (i (.f2 50 (l z (a 3)) (e (a 5) z)) (i (l (v 206 (g 1)) k2) (i (l (v 211 (g 1)) k0) (i (l (.f1 30 (o 209 (g 1))) k1) (u 9 .int (u 10 .int (u 11 .int (u 12 .int (u 13 .int (u 14 .int (u 15 .int (u 16 .int (u 17 .int (u 18 .rows (u 19 .amap (u 20 .ints (i (l z (a 12)) (i (l (a 12) (.f1 32 (r 18))) (i (e (a 12) (v 211 (g 1))) (i (l (a 12) (a 13)) (i (l z (a 16)) (i (l (a 16) (.f1 30 (s 20))) (i (.f2 153 (.f2 113 (s 20) (a 16)) (o 209 (g 1))) (i (c 214 (m 19) (g 1)) (i (p 215 (g 1)) (i (l (.f1 31 (j 208 (g 1))) (a 10)) (i (l z (a 9)) (i (p 237 (m 19)) (.and (i (p 201 (g 1)) (n (.f2 155 (.f2 115 (r 18) (a 12)) (.f2 115 (r 18) (a 12))) (n (.f2 153 (.f2 113 (s 20) (a 16)) (o 209 (w 234 (g 1)))) (n (c 214 (m 19) (w 234 (g 1))) (n (p 215 (w 234 (g 1))) (n (c 216 (w 234 (g 1)) (g 1)) (n (.f2 155 (j 208 (w 234 (g 1))) (j 208 (g 1))) (n (e (v 207 (w 234 (g 1))) (v 207 (g 1))) (n (e (v 206 (w 234 (g 1))) (v 206 (g 1))) (n (e (v 205 (w 234 (g 1))) (v 205 (g 1))) (n (e (v 204 (w 234 (g 1))) (v 204 (g 1))) (n (e (v 203 (w 234 (g 1))) (v 203 (g 1))) (n (e (v 202 (w 234 (g 1))) (v 202 (g 1))) (n (.f2 155 (p 201 (w 234 (g 1))) (p 201 (g 1))) (n (e (.f1 31 (j 208 (w 234 (g 1)))) (.f1 31 (j 208 (g 1)))) (n (e (v 200 (w 234 (g 1))) (v 200 (g 1))) (n (.f2 155 (h 221 (g 1) (a 2) (.f2 114 (b 7) (a 5))) (w 234 (g 1))) (n (e (x 222 (g 1) (a 2) (.f2 114 (b 7) (a 5))) (k 3)) .tt)))))))))))))))))) (i (.f1 2 (p 201 (g 1))) (.and (i (l z (a 2)) (n (.f1 2 (e (v 200 (g 1)) z)) (n (.f1 23 (.f2 43 (.f1 31 (j 208 (g 1))) (v 200 (g 1)))) (.and (i (l (.f2 43 (.f1 31 (j 208 (g 1))) (v 200 (g 1))) (a 2)) (n (.f2 155 (.f2 115 (r 18) (a 12)) (.f2 115 (r 18) (a 12))) (n (.f2 153 (.f2 113 (s 20) (a 16)) (o 209 (w 234 (g 1)))) (n (c 214 (m 19) (w 234 (g 1))) (n (p 215 (w 234 (g 1))) (n (c 216 (w 234 (g 1)) (g 1)) (n (.f2 155 (j 208 (w 234 (g 1))) (j 208 (g 1))) (n (e (v 207 (w 234 (g 1))) (v 207 (g 1))) (n (e (v 206 (w 234 (g 1))) (v 206 (g 1))) (n (e (v 205 (w 234 (g 1))) (v 205 (g 1))) (n (e (v 204 (w 234 (g 1))) (v 204 (g 1))) (n (e (v 203 (w 234 (g 1))) (v 203 (g 1))) (n (e (v 202 (w 234 (g 1))) (v 202 (g 1))) (n (.f2 155 (p 201 (w 234 (g 1))) (p 201 (g 1))) (n (e (.f1 31 (j 208 (w 234 (g 1)))) (.f1 31 (j 208 (g 1)))) (n (e (v 200 (w 234 (g 1))) (v 200 (g 1))) (n (.f2 155 (h 221 (g 1) (a 2) (.f2 114 (b 7) (a 5))) (w 234 (g 1))) (n (e (x 222 (g 1) (a 2) (.f2 114 (b 7) (a 5))) (k 30)) .tt)))))))))))))))))) (i (t (a 2) (.f2 43 (.f1 31 (j 208 (g 1))) (v 200 (g 1)))) (.and (i (.f1 2 (e (a 5) (v 200 (g 1)))) (n (.f2 155 (.f2 115 (r 18) (a 12)) (.f2 115 (r 18) (a 12))) (n (.f2 153 (.f2 113 (s 20) (a 16)) (o 209 (w 234 (g 1)))) (n (c 214 (m 19) (w 234 (g 1))) (n (p 215 (w 234 (g 1))) (n (c 216 (w 234 (g 1)) (g 1)) (n (.f2 155 (j 208 (w 234 (g 1))) (j 208 (g 1))) (n (e (v 207 (w 234 (g 1))) (v 207 (g 1))) (n (e (v 206 (w 234 (g 1))) (v 206 (g 1))) (n (e (v 205 (w 234 (g 1))) (v 205 (g 1))) (n (e (v 204 (w 234 (g 1))) (v 204 (g 1))) (n (e (v 203 (w 234 (g 1))) (v 203 (g 1))) (n (e (v 202 (w 234 (g 1))) (v 202 (g 1))) (n (.f2 155 (p 201 (w 234 (g 1))) (p 201 (g 1))) (n (e (.f1 31 (j 208 (w 234 (g 1)))) (.f1 31 (j 208 (g 1)))) (n (e (v 200 (w 234 (g 1))) (v 200 (g 1))) (n (.f2 155 (h 221 (g 1) (a 2) (.f2 114 (b 7) (a 5))) (w 234 (g 1))) (n (e (x 222 (g 1) (a 2) (.f2 114 (b 7) (a 5))) (k 31)) .tt)))))))))))))))))) (i (e (a 5) (v 200 (g 1))) (n (.f1 23 (.f2 40 (v 206 (g 1)) (k 1))) (.and (i (e (v 202 (g 1)) z) (u 21 .int (u 22 .bytes (u 23 .int (i (.f2 155 (.f2 114 (b 22) (a 5)) (.f2 114 (b 7) (a 5))) (i (e (.f1 31 (b 22)) (a 5)) (i (l (a 5) (a 23)) (i (.f2 50 (l z (a 21)) (e (a 5) z)) (u 24 .int (i (l z (a 24)) (n (l (.f2 42 (.f2 40 (a 12) (k 1)) (k 32)) k1) (u 25 .int (u 26 .int (i (l (.f2 40 (a 12) (k 1)) (a 26)) (i (.f2 50 (l z (a 25)) (e (.f2 40 (a 12) (k 1)) z)) (n (l (a 5) (.f1 31 (b 22))) (n (l z (.f2 40 (a 12) (k 1))) (n (l (.f2 40 (a 12) (k 1)) (.f2 40 (.f1 32 (.f2 115 (r 18) (a 12))) (k 1))) (n (e (.f2 40 (a 12) (k 1)) (v 211 (h 224 (g 1) (a 2) (.f2 114 (b 22) (a 5))))) (n (l (.f2 40 (a 12) (k 1)) k2) (n (l (a 16) k1) (n (.f2 153 (.f2 113 (s 20) (a 16)) (o 209 (h 224 (g 1) (a 2) (.f2 114 (b 22) (a 5))))) (n (p 215 (h 224 (g 1) (a 2) (.f2 114 (b 22) (a 5)))) (n (l (.f1 31 (j 208 (h 224 (g 1) (a 2) (.f2 114 (b 22) (a 5))))) (a 10)) (n (.f2 155 (j 208 (h 224 (g 1) (a 2) (.f2 114 (b 22) (a 5)))) (j 208 (g 1))) (n (e (v 207 (h 224 (g 1) (a 2) (.f2 114 (b 22) (a 5)))) (v 207 (g 1))) (n (e (v 206 (h 224 (g 1) (a 2) (.f2 114 (b 22) (a 5)))) (.f2 40 (v 206 (g 1)) (k 1))) (n (e (v 205 (h 224 (g 1) (a 2) (.f2 114 (b 22) (a 5)))) (v 205 (g 1))) (n (e (v 202 (h 224 (g 1) (a 2) (.f2 114 (b 22) (a 5)))) (v 202 (g 1))) (n (.f2 155 (p 201 (h 224 (g 1) (a 2) (.f2 114 (b 22) (a 5)))) (p 201 (g 1))) (n (e (.f1 31 (j 208 (h 224 (g 1) (a 2) (.f2 114 (b 22) (a 5))))) (.f1 31 (j 208 (g 1)))) (n (e (v 200 (h 224 (g 1) (a 2) (.f2 114 (b 22) (a 5)))) (v 200 (g 1))) (n (e (v 204 (h 224 (g 1) (a 2) (.f2 114 (b 22) (a 5)))) (v 204 (g 1))) (n (e (v 203 (h 224 (g 1) (a 2) (.f2 114 (b 22) (a 5)))) (v 203 (g 1))) (n (.f2 155 (h 221 (g 1) (a 2) (.f2 114 (b 7) (a 5))) (w 225 (h 224 (g 1) (a 2) (.f2 114 (b 22) (a 5))))) (n (e (x 222 (g 1) (a 2) (.f2 114 (b 7) (a 5))) (k 3)) .tt)))))))))))))))))))))))))))))))))))) (i (.f1 2 (e (v 202 (g 1)) z)) (n (.f1 23 (.f2 40 (v 202 (g 1)) (k (- (0 + 1))))) (u 21 .int (u 22 .bytes (u 23 .int (i (.f2 155 (.f2 114 (b 22) (a 5)) (.f2 114 (b 7) (a 5))) (i (e (.f1 31 (b 22)) (a 5)) (i (l (a 5) (a 23)) (i (.f2 50 (l z (a 21)) (e (a 5) z)) (u 24 .int (i (l z (a 24)) (n (l (.f2 42 (.f2 40 (a 12) (k 1)) (k 32)) k1) (u 25 .int (u 26 .int (i (l (.f2 40 (a 12) (k 1)) (a 26)) (i (.f2 50 (l z (a 25)) (e (.f2 40 (a 12) (k 1)) z)) (n (l (a 5) (.f1 31 (b 22))) (n (l z (.f2 40 (a 12) (k 1))) (n (l (.f2 40 (a 12) (k 1)) (.f2 40 (.f1 32 (.f2 115 (r 18) (a 12))) (k 1))) (n (.f2 155 (.f2 115 (.f2 121 (.f2 115 (r 18) (a 12)) (.f2 124 (.f2 122 (a 2) (.f2 122 (a 21) (.f2 122 (a
 5) (.f2 122 (a 23) (.f1 152 z))))) (.f1 154 z))) (.f2 40 (a 12) (k 1))) (.f2 115 (.f2 121 (.f2 115 (r 18) (a 12)) (.f2 124 (.f2 122 (a 2) (.f2 122 (a 21) (.f2 122 (a 5) (.f2 122 (a 23) (.f1 152 z))))) (.f1 154 z))) (.f2 40 (a 12) (k 1)))) (n (.f2 153 (.f2 113 (s 20) (a 16)) (o 209 (w 233 (h 224 (g 1) (a 2) (.f2 114 (b 22) (a 5)))))) (n (c 214 (.f3 142 (m 19) (a 2) (a 12)) (w 233 (h 224 (g 1) (a 2) (.f2 114 (b 22) (a 5))))) (n (p 215 (w 233 (h 224 (g 1) (a 2) (.f2 114 (b 22) (a 5))))) (n (c 216 (w 233 (h 224 (g 1) (a 2) (.f2 114 (b 22) (a 5)))) (h 224 (g 1) (a 2) (.f2 114 (b 22) (a 5)))) (n (.f2 155 (j 208 (w 233 (h 224 (g 1) (a 2) (.f2 114 (b 22) (a 5))))) (j 208 (g 1))) (n (e (v 207 (w 233 (h 224 (g 1) (a 2) (.f2 114 (b 22) (a 5))))) (v 207 (g 1))) (n (e (v 206 (w 233 (h 224 (g 1) (a 2) (.f2 114 (b 22) (a 5))))) (.f2 40 (v 206 (g 1)) (k 1))) (n (e (v 205 (w 233 (h 224 (g 1) (a 2) (.f2 114 (b 22) (a 5))))) (v 205 (g 1))) (n (e (v 204 (w 233 (h 224 (g 1) (a 2) (.f2 114 (b 22) (a 5))))) (v 204 (g 1))) (n (e (v 203 (w 233 (h 224 (g 1) (a 2) (.f2 114 (b 22) (a 5))))) (v 203 (g 1))) (n (e (v 202 (w 233 (h 224 (g 1) (a 2) (.f2 114 (b 22) (a 5))))) (.f2 52 (.f2 40 (v 202 (g 1)) (k (- (0 + 1)))) (k (- (0 + 1))))) (n (.f2 155 (p 201 (w 233 (h 224 (g 1) (a 2) (.f2 114 (b 22) (a 5))))) (p 201 (g 1))) (n (e (.f1 31 (j 208 (w 233 (h 224 (g 1) (a 2) (.f2 114 (b 22) (a 5)))))) (.f1 31 (j 208 (g 1)))) (n (e (v 200 (w 233 (h 224 (g 1) (a 2) (.f2 114 (b 22) (a 5))))) (v 200 (g 1))) (n (.f2 155 (h 221 (g 1) (a 2) (.f2 114 (b 7) (a 5))) (w 233 (h 224 (g 1) (a 2) (.f2 114 (b 22) (a 5))))) (n (e (x 222 (g 1) (a 2) (.f2 114 (b 7) (a 5))) z) .tt))))))))))))))))))))))))))))))))))))))))))))) (i (t (a 2) z) (n (.f2 155 (.f2 115 (r 18) (a 12)) (.f2 115 (r 18) (a 12))) (n (.f2 153 (.f2 113 (s 20) (a 16)) (o 209 (w 234 (g 1)))) (n (c 214 (m 19) (w 234 (g 1))) (n (p 215 (w 234 (g 1))) (n (c 216 (w 234 (g 1)) (g 1)) (n (.f2 155 (j 208 (w 234 (g 1))) (j 208 (g 1))) (n (e (v 207 (w 234 (g 1))) (v 207 (g 1))) (n (e (v 206 (w 234 (g 1))) (v 206 (g 1))) (n (e (v 205 (w 234 (g 1))) (v 205 (g 1))) (n (e (v 204 (w 234 (g 1))) (v 204 (g 1))) (n (e (v 203 (w 234 (g 1))) (v 203 (g 1))) (n (e (v 202 (w 234 (g 1))) (v 202 (g 1))) (n (.f2 155 (p 201 (w 234 (g 1))) (p 201 (g 1))) (n (e (.f1 31 (j 208 (w 234 (g 1)))) (.f1 31 (j 208 (g 1)))) (n (e (v 200 (w 234 (g 1))) (v 200 (g 1))) (n (.f2 155 (h 221 (g 1) (a 2) (.f2 114 (b 7) (a 5))) (w 234 (g 1))) (n (e (x 222 (g 1) (a 2) (.f2 114 (b 7) (a 5))) (k 30)) .tt))))))))))))))))))))))))))))))))))))))))))))))))))))
theorem ZFh : Yk Tryz.prog ZAO 12 47 Zee = ZxM := by kernel_rfl
theorem Ztu {m : List (Int × Int)} {w : List (Int × List UInt8)} {n : Int} {x : List UInt8} (h : Zdi m w) : Zdi (Zai m n w.length) (w ++ [(n, x)]) := by
 intro k
 rw [Zgm, h k, Zho]
 show _ = (if n = k then (0 + (w.length : Int)) else _)
 rw [Int.zero_add]
theorem ZgZ {d : Dv} (hg : GoodD d) {n : Int} {x : List UInt8} (h0 : 0 <= n) (h1 : n < d.pages) (hx : (x.length : Int) = d.page) : GoodD { d with wr := d.wr + 1, w := d.w ++ [(n, x)] } :=
 ⟨hg.size, hg.pgs, fun p hp => by
  rcases List.mem_append.1 hp with hp | hp
  ·exact hg.w p hp
  ·rw [List.mem_singleton] at hp; subst hp; exact ⟨h0, h1, hx⟩, hg.acts, by have := hg.cnt; exact ⟨this.1, by show 0 <= d.wr + 1; omega, this.2.2⟩⟩
theorem Zl4 {d : Dv} (hg : GoodD d) : GoodD { d with acts := Zbx d.acts } := by
 have := hg.acts
 refine ⟨hg.size, hg.pgs, hg.w, ?_, hg.cnt⟩
 show -1 <= Zbx d.acts /\ Zbx d.acts <= 9223372036854775807
 unfold Zbx Zbd
 split <;> omega
theorem ZiE {d : Dv} {n : Int} {x : List UInt8} (h : d.ref n ≠ 0) : d.wrD n x = d /\ d.wrE n x = d.ref n := by unfold Dv.wrD Dv.wrE; rw [if_pos h, if_pos h]; exact ⟨rfl, rfl⟩
theorem ZHJ {d : Dv} {n : Int} {x : List UInt8} (h : d.ref n = 0) (h2 : (x.length : Int) ≠ d.page) : d.wrD n x = d /\ d.wrE n x = 31 := by
 unfold Dv.wrD Dv.wrE; simp [h, h2]
theorem ZqZ {d : Dv} {n : Int} {x : List UInt8} (h : d.ref n = 0) (h2 : (x.length : Int) = d.page) (h3 : d.acts = 0) : d.wrD n x = Dv.fall { d with wr := d.wr + 1, w := d.w ++ [(n, x)] } /\ d.wrE n x = 3 := by
 unfold Dv.wrD Dv.wrE Dv.writ; simp [h, h2, h3]
theorem ZCN {d : Dv} {n : Int} {x : List UInt8} (h : d.ref n = 0) (h2 : (x.length : Int) = d.page) (h3 : ¬ d.acts = 0) : d.wrD n x = { d with wr := d.wr + 1, w := d.w ++ [(n, x)], acts := Zbx d.acts } /\ d.wrE n x = 0 := by
 unfold Dv.wrD Dv.wrE Dv.writ; simp [h, h2, h3]
theorem Zeo (S : Sig GG) (hS : DvSig S) : Zs S Tryz.prog 47 Zee := by
 refine Zd S (C := ZAO) (fuel := 12) (Zx ⟨Zc (by decide) (ZHW S), Zc (by decide) (ZBG S hS), trivial⟩ ⟨⟨⟨by decide, ZcI S hS⟩, ⟨by decide, Y9 S hS _ _ _⟩, ⟨by decide, Y9 S hS _ _ _⟩, ⟨by decide, ZHA S hS⟩, ⟨by decide, Y9 S hS _ _ _⟩, trivial⟩, trivial⟩ trivial) fun ρ => ?_
 rw [ZFh]
 simp only [ZxM, Zbf, Zr, VC.den, SX.den, ZN, Env.upd, ZS, Zao, Z3, Z2, ZB, ZI, ZJ, ZH, beq_iff_eq, Bool.not_eq_true', beq_eq_false_iff_ne, ne_eq, Bool.not_not, U.tMi, Int.toNat_zero, Nat.reduceEqDiff, reduceIte, Zf, ZK, ZG, U.int.injEq, sdv hS, sB]
 generalize Zk (U.co S .g (ρ 1)) = d
 generalize (ρ 7).tB = X
 generalize (ρ 2).tI = n
 generalize (ρ 5).tI = l
 generalize (ρ 3).tI = b
 generalize (ρ 6).tI = c
 intro a1 a2 a3 a4 a5 a6 a7 a8 i9 i10 i11 i12 i13 i14 i15 i16 i17 R M Z h1 h2 h3 h4 h5 h6 h7 h8 hg h9 h10 h11
 have hb := Yv hg
 have hp : (d.safe.length : Int).tdiv d.page = d.pages := rfl
 have hc := hg.cnt
 have ha := hg.acts
 have hxl : ((X.take l.toNat).length : Int) = l := by rw [ZUl]; omega
 have hkl : i16 <= d.keep.length := by rw [<- h7, ZUl]; omega
 rw [hp]
 rcases (Bool.eq_false_or_eq_true d.down).symm with hd | hd
 ·refine ⟨(fun h => by rw [hd] at h; cases h), fun _ => ⟨fun hn0 => ?_, fun hn0 => ?_⟩⟩
  ·refine ⟨by omega, ⟨by omega, by omega⟩, fun hout => ?_, fun hin => ?_⟩
   ·have hr := Zcz (n := n) hd (.inr hout)
    obtain ⟨e1, e2⟩ := ZiE (x := X.take l.toNat) (show d.ref n ≠ 0 by rw [hr]; decide)
    rw [e1, e2, hr]
    repeat' (first | exact trivial | rfl | assumption | apply And.intro)
   ·have hr := ZhD hd hn0 hin
    refine ⟨fun hsz => ?_, fun hsz => ?_⟩
    ·obtain ⟨e1, e2⟩ := ZHJ (x := X.take l.toNat) hr (by rw [hxl]; exact hsz)
     rw [e1, e2]
     repeat' (first | exact trivial | rfl | assumption | apply And.intro)
    ·refine ⟨⟨by omega, by omega⟩, fun hz => ?_, fun hz => ?_⟩
     ·obtain ⟨e1, e2⟩ := ZqZ (x := X.take l.toNat) hr (by rw [hxl]; exact hsz) hz
      rw [e1, e2]
      intro b2 X2 c2 q1 q2 q3 q4 _ _
      rw [q1]
      have hgp := ZgZ hg hn0 hin (show ((X.take l.toNat).length : Int) = d.page by rw [hxl]; exact hsz)
      refine ⟨by omega, fun _ _ _ _ => ⟨by omega, by omega, by simp only [ZUl]; omega, by simp only [ZUo, ZUD, List.length_nil]; omega, by omega, by omega, ?_⟩⟩
      repeat' (first | exact trivial | rfl | assumption | apply And.intro)
     ·obtain ⟨e1, e2⟩ := ZCN (x := X.take l.toNat) hr (by rw [hxl]; exact hsz) hz
      rw [e1, e2]
      refine ⟨⟨by omega, by omega⟩, fun b2 X2 c2 q1 q2 q3 q4 _ _ => ?_⟩
      rw [q1]
      have hgp := Zl4 (ZgZ hg hn0 hin (show ((X.take l.toNat).length : Int) = d.page by rw [hxl]; exact hsz))
      have hlo : Zdi (Zai M n i12) (d.w ++ [(n, X.take l.toNat)]) /\ ZEJ (Zai M n i12) := ⟨by rw [h3]; exact Ztu h8.1, ZF6 h8.2 h1⟩
      refine ⟨by omega, fun _ _ _ _ => ⟨by omega, by omega, by simp only [ZUl]; omega, ?_⟩⟩
      repeat' (first | exact trivial | rfl | assumption | apply And.intro)
  ·have hr := Zcz (n := n) hd (.inl hn0)
   obtain ⟨e1, e2⟩ := ZiE (x := X.take l.toNat) (show d.ref n ≠ 0 by rw [hr]; decide)
   rw [e1, e2, hr]
   repeat' (first | exact trivial | rfl | assumption | apply And.intro)
 ·have hr := ZfS (n := n) hd
  obtain ⟨e1, e2⟩ := ZiE (x := X.take l.toNat) (show d.ref n ≠ 0 by rw [hr]; decide)
  rw [e1, e2, hr]
  refine ⟨fun _ => ?_, (fun h => by rw [hd] at h; cases h)⟩
  repeat' (first | exact trivial | rfl | assumption | apply And.intro)
def Znc : List (Nat × List Ctr) := [(73, [Zpp]), (74, [Zxu]), (60, [ZpB]), (42, [ZiS]), (47, [Zee]), (15, [Zj5])] ++ ZGL
def dvQ (g : SX) : List SX := [eLe (usI 206 g z0 z0) Zau, eLe (usI 211 g z0 z0) (.int 1099511627776), eLe (.f1 30 (usN 209 g z0 z0)) (.int 140737488355328)]
def Zi5 : Ctr := ⟨[.int, .int, .g, .g], [.one (.ptr (ai 0) 0)], [csC (ai 0) (ai 1) (gA 2), plC (ai 1) (gA 3)], dvQ (gA 3) ++ [eLe (usI 260 (gA 2) z0 z0) Zau], [],
 .one (.int .i64 (usI 282 (gA 2) (gA 3) z0)), [csC (ai 0) (ai 1) (usG 280 (gA 2) (gA 3) z0), plC (ai 1) (usG 281 (gA 2) (gA 3) z0)], []⟩
def ZId : Cx := { specs := Znc, anns := [(41, [(0, .ghost ZM2 []), (1, .ghost Zdo [.tmp 0]), (1, .ghost Zol []), (6, .ghost Zln [.tmp 3]), (9, .ghost ZkV [.tmp 3]), (10, .ghost ZkV [.tmp 3]), (999999, .ghost Znv [.tmp 0])])] }
def Zur : SX := v 260 (g 2)
def Zq4 : SX := v 256 (g 2)
def Znk : SX := o 242 (r 6)
def ZyT : SX := v 257 (g 2)
def ZDG : SX := .us .g 267 (g 2) (v 258 (g 2)) (v 259 (g 2)) Zur
def Zql : SX := p 268 ZDG
def ZzY : SX := f 281 (g 2) (g 3)
def Zg2 : SX := w 234 (g 3)
def ZrH : SX := .f2 155 ZzY Zg2
def ZCB : SX := f 280 (g 2) (g 3)
def Zjz : SX := .f2 155 ZCB ZDG
def Zjo : SX := d 282 (g 2) (g 3)
def Zji : SX := e Zjo z
def ZgS : SX := d 272 (r 6) (g 2)
def Zbc : SX := d 250 (r 6) ZgS
def ZnG : SX := wB 253 (g 2) Zbc
def Zdu : SX := .f1 31 ZnG
def ZoT : SX := c 254 (g 2) Zbc
def Zoa : SX := d 252 (g 2) Zbc
def ZoC : SX := .f2 114 ZnG Zdu
def Zoc : SX := x 222 Zg2 Zoa ZoC
def Zpa : SX := e Zoc z
def Zj7 : SX := l z Zbc
def Zi9 : SX := e ZgS (.f3 112 (r 6) Zbc z)
def Zpt : SX := .f2 155 ZzY (h 221 Zg2 Zoa ZoC)
def ZnB : SX := wR 271 (r 6) Zbc
def Zdy : SX := f 264 (g 2) Zbc
def ZpX : SX := y 251 (m 8) ZnB Zdy
def Zoq : SX := p 268 Zdy
def ZnO : SX := .f2 40 (v 260 Zdy) (k 1)
def Zoj : SX := .f1 23 ZnO
def ZoK : SX := o 242 ZnB
def Zoo : SX := .f2 155 ZoK ZoK
def Zoz : SX := .us .g 267 Zdy (v 258 Zdy) (v 259 Zdy) ZnO
def Zpy : SX := p 268 Zoz
def ZoM : SX := .f2 155 ZCB Zoz
def ZHU : VC := i (l (v 206 (g 3)) k2) (i (l (v 211 (g 3)) k0) (i (l (.f1 30 (o 209 (g 3))) k1) (i (l Zur k2) (u 4 .int (u 5 .int (u 6 .rows (u 7 .amap (i (y 251 (m 7) (r 6) (g 2)) (i (p 268 (g 2)) (i (e (.f1 32 (r 6)) Zq4) (i (l z (a 4)) (i (c 246 (a 5) Znk) (i (c 249 (a 5) Znk) (n (.f2 155 Znk Znk) (.and (i (t Zq4 ZyT) (n Zql (n ZrH (n Zjz (n Zji .tt))))) (i (l ZyT Zq4) (.and (i (t ZgS z) (n Zql (n ZrH (n Zjz (n (e Zjo (k 40)) .tt))))) (i (l z ZgS) (n (t Zbc (.f1 32 (r 6))) (i (l Zdu (.f3 112 (r 6) Zbc (k 2))) (i (.f2 50 (l z (.f3 112 (r 6) Zbc (k 1))) (e Zdu z)) (.and (i ZoT (n (l Zdu Zdu) (n (l Zdu k0) (n (l (v 206 Zg2) k2) (n (l (v 211 Zg2) k0) (n (l (.f1 30 (o 209 Zg2)) k1) (.and (i (.f1 2 Zpa) (n Zj7 (n Zi9 (n Zql (n Zpt (n Zjz (n (e Zjo Zoc) .tt))))))) (i Zpa (n Zj7 (n Zi9 (u 8 .amap (i ZpX (i Zoq (n Zoj (n Zoo (n Zpy (n Zpt (n ZoM (n Zji .tt))))))))))))))))))) (i (.f1 2 ZoT) (n Zj7 (n Zi9 (u 8 .amap (i ZpX (i Zoq (n Zoj (n Zoo (n Zpy (n ZrH (n ZoM (n Zji .tt))))))))))))))))))))))))))))))))))
theorem ZNn : Yk Tryz.prog ZId 12 41 Zi5 = ZHU := by kernel_rfl
theorem ZbT {S : Sig GG} (hS : CsSig S) : YK S Tryz.prog Znc := ⟨Zc (by decide) (ZNW S hS), Zc (by decide) (ZTk S hS), Zc (by decide) (ZNK S hS), Zc (by decide) (ZHe S hS), Zc (by decide) (Zeo S hS.dv), Zc (by decide) (ZwL S hS.dv), ZeG hS⟩
theorem Zac (R : List (List Int)) (k : Nat) (h : k < R.length) : (R.map g0).getD k 0 = g0 (R.getD k []) := by
 rw [ZUj, ZUj, List.getElem?_map, ZUm h]; rfl
theorem Zuz (S : Sig GG) (hS : CsSig S) : Zs S Tryz.prog 41 Zi5 := by
 refine Zd S (C := ZId) (fuel := 12) (Zx (ZbT hS) ⟨⟨⟨by decide, ZsC S hS⟩, ⟨by decide, Zba S hS⟩, ⟨by decide, Zca S hS.rg⟩, ⟨by decide, ZbE S hS⟩, ⟨by decide, Zcp S hS⟩, ⟨by decide, Zcp S hS⟩, ⟨by decide, Zb9 S hS⟩, trivial⟩, trivial⟩ trivial) fun ρ => ?_
 rw [ZNn]
 simp only [ZHU, Zur, Zq4, Znk, ZyT, ZDG, Zql, ZzY, Zg2, ZrH, ZCB, Zjz, Zjo, Zji, ZgS, Zbc, ZnG, Zdu, ZoT, Zoa, ZoC, Zoc, Zpa, Zj7, Zi9, Zpt, ZnB, Zdy, ZpX, Zoq, ZnO, Zoj, ZoK, Zoo, Zoz, Zpy, ZoM, Zbf, Zr, Zq, VC.den, SX.den, ZN, Env.upd, ZS, Zao, Z3, Z2, ZB, ZI, ZJ, ZH, beq_iff_eq, Bool.not_eq_true', beq_eq_false_iff_ne, ne_eq, Bool.not_not, U.tMi, Int.toNat_zero, Nat.reduceEqDiff, reduceIte, Zf, ZK, ZG, U.int.injEq, scs hS, sdv hS.dv, srg hS.rg, sB]
 generalize Zn (U.co S .g (ρ 2)) = c
 generalize Zk (U.co S .g (ρ 3)) = d
 intro q1 q2 q3 q4 hm H R m hh hg hlen hpos hnd hp
 have key : ∀ h : 0 <= ZtP R c, c.old < c.fr.length /\ Zcc (ZtP R c) R = c.old /\ ZtP R c = g0 (R.getD c.old []) := by
  intro h
  unfold ZtP at h ⊢
  by_cases ho : c.old < c.fr.length
  ·rw [if_pos ho] at h ⊢
   have hoR : c.old < R.length := by omega
   refine ⟨ho, ?_, rfl⟩
   rw [Zah, <- Zac R c.old hoR]
   exact Zab (List.nodup_cons.1 hnd).2 (by rw [ZUt]; exact hoR)
  ·rw [if_neg ho] at h; omega
 have key2 : ZtP R c < 0 -> c.fr.length <= c.old := by
  intro h
  rcases Nat.lt_or_ge c.old c.fr.length with ho | ho
  ·unfold ZtP at h
   rw [if_pos ho] at h
   have := hp (g0 (R.getD c.old [])) (ZUp _ (by
    have hoR : c.old < R.length := by omega
    rw [<- Zac R c.old hoR, ZUj, ZUm (by rw [ZUt]; exact hoR)]; exact ZUG _))
   omega
  ·exact ho
 refine ⟨?_, fun hlt => ?_, fun hge => ⟨fun hneg => ?_, fun h0 => ?_⟩⟩
 ·first | trivial | rfl
 ·have hl : ((c.fr.length : Nat) : Int) < c.frames := hlt
  refine ⟨hg, ?_, ?_, ?_, trivial⟩
  ·unfold Cs.roomD; rw [if_pos (.inl hl)]
  ·unfold Cs.roomC; rw [if_pos (.inl hl)]
  ·unfold Cs.roomE; rw [if_pos hl]
 ·have ho := key2 hneg
  refine ⟨hg, ?_, ?_, ?_, trivial⟩
  ·unfold Cs.roomD; rw [if_pos (.inr ho)]
  ·unfold Cs.roomC; rw [if_pos (.inr ho)]
  ·unfold Cs.roomE; rw [if_neg (by omega), if_pos ho]
 ·obtain ⟨k1, k2, k3⟩ := key h0
  have hf : ¬ ((c.fr.length : Int) < c.frames \/ c.fr.length <= c.old) := by omega
  have hoF : c.at' (c.old : Nat) = c.oldF := rfl
  have hb : c.oldF.b.length <= 65536 := hg.b _ (by
   show c.fr.getD ((c.old : Nat) : Int).toNat fr0 ∈ c.fr
   rw [ZUq, ZUj, ZUm k1]; exact ZUG _)
  have hge' : GoodC c.evict := by
   have h := hg.gone ((c.old : Nat) : Int)
   have hc := hg.cnt
   exact ⟨h.frames, h.len, h.nod, h.pins, ⟨hc.1, hc.2.1, show 0 <= c.evic + 1 by omega⟩, h.b⟩
  have hi : -9223372036854775808 <= c.evic + 1 /\ c.evic + 1 <= 9223372036854775807 := by have hc := hg.cnt; omega
  simp only [k2, ZUq, List.take_length, hoF]
  refine ⟨by omega, fun _ _ => ⟨fun hd => ⟨?_, ?_, q1, q2, q3, fun he => ⟨?_, k3, hg, ?_, ?_, ?_, trivial⟩, fun he => ⟨?_, k3, fun m' hh' hg' => ⟨hi, ?_, hge', ?_, ?_, ?_, trivial⟩⟩⟩, fun hd => ⟨?_, k3, fun m' hh' hg' => ⟨hi, ?_, hge', ?_, ?_, ?_, trivial⟩⟩⟩⟩
  ·exact ZUu _
  ·omega
  ·omega
  ·unfold Cs.roomD; rw [if_neg hf, if_pos hd]
  ·unfold Cs.roomC; rw [if_neg hf, if_pos ⟨hd, he⟩]
  ·unfold Cs.roomE; rw [if_neg (fun h => hf (.inl h)), if_neg (fun h => hf (.inr h)), if_pos hd]
  ·omega
  ·first | trivial | rfl
  ·unfold Cs.roomD; rw [if_neg hf, if_pos hd]
  ·unfold Cs.roomC; rw [if_neg hf, if_neg (fun h => h.2 he)]; rfl
  ·unfold Cs.roomE; rw [if_neg (fun h => hf (.inl h)), if_neg (fun h => hf (.inr h)), if_pos hd]; exact he
  ·omega
  ·first | trivial | rfl
  ·unfold Cs.roomD; rw [if_neg hf, if_neg (by rw [hd]; decide)]
  ·unfold Cs.roomC; rw [if_neg hf, if_neg (fun h => by rw [hd] at h; exact absurd h.1 (by decide))]; rfl
  ·unfold Cs.roomE; rw [if_neg (fun h => hf (.inl h)), if_neg (fun h => hf (.inr h)), if_neg (by rw [hd]; decide)]
def ZG7 : List (Nat × List Ctr) := (41, [Zi5]) :: Znc
def ZhR : SX := usG 283 (gA 2) (gA 3) (ai 4)
def Zdk : SX := usI 285 (gA 2) (gA 3) (ai 4)
def Ze0 : Ctr := ⟨[.int, .int, .g, .g, .int], [.one (.ptr (ai 0) 0), .one (.int .i64 (ai 4))], [csC (ai 0) (ai 1) (gA 2), plC (ai 1) (gA 3)],
 dvQ (gA 3) ++ [eLe (usI 205 (gA 3) z0 z0) Zau, eLe (usI 258 (gA 2) z0 z0) Zau, eLe (usI 259 (gA 2) z0 z0) Zau, eLe (usI 260 (gA 2) z0 z0) Zau], [.int, .int, .rows, .amap, .int],
 .tup [(false, [.ptr (ai 9) 0]), (false, [.int .i64 Zdk])],
 [.cel (ai 0) 0 (ZtN (ai 1) (ai 5) (ai 6) ZhR), mpC (ai 5) (mA 8), rgC (ai 6) (rgX (rA 7)), frC (rA 7) ZhR, plC (ai 1) (usG 284 (gA 2) (gA 3) (ai 4))],
 [usB 251 (mA 8) (rA 7) ZhR, usB 268 ZhR z0 z0, usB 246 (ai 6) (rgX (rA 7)) z0, .f2 50 (.f1 2 (.f2 45 Zdk z0)) (.f2 45 (ai 9) (nt (rA 7) (SX.mk2 41 (ZA (rA 7)) (.int 1)) 0))]⟩
def ZHv : Cx := { specs := ZG7, anns := [(44, [(0, .ghost ZM2 []), (0, .ghost ZUc []), (1, .ghost Zdo [.tmp 0]), (1, .ghost Zol []), (5, .ghost ZOz [.tmp 6]), (12, .ghost Znv [.tmp 0]), (14, .ghost Zdo [.tmp 0]), (14, .ghost Zol []), (15, .ghost Zdo [.tmp 0]), (16, .ghost ZOH [.tmp 0]), (999999, .ghost ZOH [.tmp 0]), (999999, .ghost Zol [])])] }
def ZqC : SX := v 258 (g 2)
def Zsf : SX := v 259 (g 2)
def Zsn : SX := v 260 (g 2)
def Zg0 : SX := w 234 (g 3)
def ZrL : SX := v 256 (g 2)
def Zhs : SX := o 242 (r 7)
def ZmF : SX := c 246 (a 6) Zhs
def ZmN : SX := c 249 (a 6) Zhs
def ZvW : SX := .f2 141 (m 8) (a 4)
def Ziq : SX := .f3 140 (k (- (0 + 1))) (m 8) (a 4)
def ZjB : SX := d 250 (r 7) Ziq
def Zn0 : SX := .f2 40 ZqC (k 1)
def Zpd : SX := f 263 (g 2) ZjB
def Zjd : SX := v 257 (g 2)
def ZiT : SX := wN 243 (wN 240 Zhs Ziq) Ziq
def ZgQ : SX := wR 270 (r 7) ZjB
def YP : SX := h 283 (g 2) (g 3) (a 4)
def Zb4 : SX := p 268 YP
def Zot : SX := o 242 ZgQ
def Zgo : SX := x 285 (g 2) (g 3) (a 4)
def ZgF : SX := e Zgo z
def Zgu : SX := .f1 2 ZgF
def ZjI : SX := h 284 (g 2) (g 3) (a 4)
def Zps : SX := .f2 155 ZjI Zg0
def ZeL : SX := .us .g 267 Zpd Zn0 Zsf Zsn
def ZgB : SX := v 260 YP
def ZgD : SX := v 259 YP
def Zhj : SX := v 258 YP
def Zhp : SX := v 257 YP
def ZnW : SX := d 272 (r 7) (g 2)
def Zkk : SX := y 251 (m 8) (r 7) YP
def Zkc : SX := .f2 50 Zgu (e (k (- (0 + 1))) (.f3 112 (r 7) (.f2 40 (.f1 32 (r 7)) (k (- (0 + 1)))) z))
def Zbr : SX := .us .g 267 (g 2) ZqC Zsf Zsn
def Zki : SX := .f2 155 YP Zbr
def ZnV : SX := v 260 Zbr
def ZjN : SX := e ZgB ZnV
def ZiZ : SX := e ZgD (v 259 Zbr)
def ZiM : SX := e Zhj (v 258 Zbr)
def ZiP : SX := e Zhp (v 257 Zbr)
def ZoJ : SX := l (v 205 Zg0) k2
def ZoN : SX := .f2 114 (b 12) (a 10)
def Zpi : SX := wB 223 Zg0 (a 4)
def ZpI : SX := .f2 155 ZoN Zpi
def Zn5 : SX := e (a 10) (.f1 31 Zpi)
def Zpc : SX := l (a 10) (.f1 31 (b 12))
def ZpY : SX := l (a 10) (a 11)
def ZnR : SX := e (a 13) (d 213 Zg0 (a 4))
def ZnT : SX := .f2 50 (l z (a 9)) (e (a 10) z)
def Zjw : SX := e (a 13) z
def Zpn : SX := .f1 2 Zjw
def Zcy : SX := f 220 Zg0 (a 4)
def Zpm : SX := .f2 155 ZjI Zcy
def Zpl : SX := e Zgo (a 13)
def Zo8 : SX := p 268 Zbr
def Zo4 : SX := l (v 206 Zcy) k2
def ZoD : SX := l (v 211 Zcy) k0
def Zph : SX := l (.f1 30 (o 209 Zcy)) k1
def ZnE : SX := l ZnV k2
def Zom : SX := d 282 Zbr Zcy
def Zi7 : SX := e Zom z
def ZpA : SX := .f1 2 Zi7
def ZbX : SX := f 280 Zbr Zcy
def ZhB : SX := y 251 (m 17) (r 16) ZbX
def Zgs : SX := p 268 ZbX
def ZgT : SX := e (.f1 32 (r 16)) (v 256 ZbX)
def Zge : SX := l z (a 14)
def Zgb : SX := o 242 (r 16)
def Zhx : SX := c 246 (a 15) Zgb
def Zhh : SX := c 249 (a 15) Zgb
def Zn8 : SX := y 251 (m 17) (r 16) YP
def ZnH : SX := .f2 50 Zgu (e (k (- (0 + 1))) (.f3 112 (r 16) (.f2 40 (.f1 32 (r 16)) (k (- (0 + 1)))) z))
def ZgG : SX := .f2 155 ZjI (f 281 Zbr Zcy)
def ZnC : SX := v 258 ZbX
def ZoH : SX := v 259 ZbX
def ZnU : SX := v 260 ZbX
def ZeS : SX := .us .g 267 ZbX ZnC ZoH ZnU
def ZoZ : SX := .f2 155 YP ZeS
def ZpT : SX := e ZgB (v 260 ZeS)
def Zov : SX := e ZgD (v 259 ZeS)
def ZpE : SX := e Zhj (v 258 ZeS)
def ZpN : SX := e Zhp (v 257 ZeS)
def Zop : SX := e Zgo Zom
def ZoG : SX := .f2 40 ZoH (k 1)
def ZnD : SX := .f1 23 ZoG
def ZnQ : SX := .f2 155 Zgb Zgb
def ZdK : SX := .us .g 267 ZbX ZnC ZoG ZnU
def ZpP : SX := y 251 (m 17) (r 16) ZdK
def Zn3 : SX := p 268 ZdK
def Zpw : SX := l z (a 10)
def Zo2 : SX := l (a 10) (k 65536)
def ZpG : SX := v 256 ZdK
def ZnS : SX := l ZpG (d 262 ZdK (a 4))
def ZoV : SX := t ZpG (v 257 ZdK)
def ZdO : SX := h 265 ZdK (a 4) ZoN
def ZpJ : SX := y 251 (m 20) (r 19) ZdO
def ZoA : SX := p 268 ZdO
def ZoS : SX := e (.f1 32 (r 19)) (.f2 40 (.f1 32 (r 16)) (k 1))
def ZoF : SX := e (.f3 112 (r 19) (.f1 32 (r 16)) z) (a 18)
def ZnL : SX := o 242 (r 19)
def ZhA : SX := c 246 (a 15) ZnL
def Zje : SX := c 249 (a 15) ZnL
def ZjS : SX := y 251 (m 20) (r 19) YP
def ZjJ : SX := .f2 50 Zgu (e (a 18) (.f3 112 (r 19) (.f2 40 (.f1 32 (r 19)) (k (- (0 + 1)))) z))
def ZcV : SX := .us .g 267 ZdO (v 258 ZdO) (v 259 ZdO) (v 260 ZdO)
def ZjT : SX := .f2 155 YP ZcV
def Zjy : SX := e ZgB (v 260 ZcV)
def Zks : SX := e ZgD (v 259 ZcV)
def Zj0 : SX := e Zhj (v 258 ZcV)
def Zj4 : SX := e Zhp (v 257 ZcV)
def ZIt : VC := i (l (v 206 (g 3)) k2) (i (l (v 211 (g 3)) k0) (i (l (.f1 30 (o 209 (g 3))) k1) (i (l (v 205 (g 3)) k2) (i (l ZqC k2) (i (l Zsf k2) (i (l Zsn k2) (i (p 215 Zg0) (u 5 .int (u 6 .int (u 7 .rows (u 8 .amap (i (y 251 (m 8) (r 7) (g 2)) (i (p 268 (g 2)) (i (e (.f1 32 (r 7)) ZrL) (i (l z (a 5)) (i ZmF (i ZmN (.and (i ZvW (n (c 241 Zhs Ziq) (u 9 .int (u 10 .int (n (t ZjB (.f1 32 (r 7))) (n (.f1 23 Zn0) (n (e (v 257 Zpd) Zjd) (i (c 246 (a 6) ZiT) (i (c 249 (a 6) ZiT) (n (y 251 (m 8) ZgQ YP) (n Zb4 (n (c 246 (a 6) Zot) (n (.f2 50 Zgu (e Ziq (.f3 112 ZgQ (.f2 40 (.f1 32 ZgQ) (k (- (0 + 1)))) z))) (n Zps (n (.f2 155 YP ZeL) (n (.f2 155 Zot ZiT) (n (e ZgB (v 260 ZeL)) (n (e ZgD (v 259 ZeL)) (n (e Zhj (v 258 ZeL)) (n (e Zhp (v 257 ZeL)) (n ZgF .tt))))))))))))))))))))) (i (.f1 2 ZvW) (n (.f2 155 Zhs Zhs) (.and (i (l Zjd ZrL) (.and (i (t ZnW z) (i ZmF (i ZmN (n Zkk (n Zb4 (n Zkc (n Zps (n Zki (n ZjN (n ZiZ (n ZiM (n ZiP (n (e Zgo (k 40)) .tt))))))))))))) (i (l z ZnW) (n ZoJ (u 9 .int (u 10 .int (u 11 .int (u 12 .bytes (u 13 .int (i ZpI (i Zn5 (i Zpc (i ZpY (i ZnR (i ZnT (.and (i Zpn (i ZmF (i ZmN (n Zkk (n Zb4 (n Zkc (n Zpm (n Zki (n ZjN (n ZiZ (n ZiM (n ZiP (n Zpl .tt))))))))))))) (i Zjw (n Zo8 (n Zo4 (n ZoD (n Zph (n ZnE (.and (i ZpA (u 14 .int (u 15 .int (u 16 .rows (u 17 .amap (i ZhB (i Zgs (i ZgT (i Zge (i Zhx (i Zhh (i Zhx (i Zhh (n Zn8 (n Zb4 (n ZnH (n ZgG (n ZoZ (n ZpT (n Zov (n ZpE (n ZpN (n Zop .tt))))))))))))))))))))))) (i Zi7 (u 14 .int (u 15 .int (u 16 .rows (u 17 .amap (i ZhB (i Zgs (i ZgT (i Zge (n ZnD (n ZnQ (n ZpP (n Zn3 (n Zpw (n Zo2 (n ZnS (n ZoV (u 18 .int (u 19 .rows (u 20 .amap (i ZpJ (i ZoA (i ZoS (i ZoF (i ZhA (i ZhA (i Zje (n ZjS (n Zb4 (n ZjJ (n ZgG (n ZjT (n Zjy (n Zks (n Zj0 (n Zj4 (n ZgF .tt)))))))))))))))))))))))))))))))))))))))))))))))))))))))))))) (i (t ZrL Zjd) (n ZoJ (u 9 .int (u 10 .int (u 11 .int (u 12 .bytes (u 13 .int (i ZpI (i Zn5 (i Zpc (i ZpY (i ZnR (i ZnT (.and (i Zpn (i ZmF (i ZmN (n Zkk (n Zb4 (n Zkc (n Zpm (n Zki (n ZjN (n ZiZ (n ZiM (n ZiP (n Zpl .tt))))))))))))) (i Zjw (n Zo8 (n Zo4 (n ZoD (n Zph (n ZnE (.and (i ZpA (u 14 .int (u 15 .int (u 16 .rows (u 17 .amap (i ZhB (i Zgs (i ZgT (i Zge (i Zhx (i Zhh (i Zhx (i Zhh (n Zn8 (n Zb4 (n ZnH (n ZgG (n ZoZ (n ZpT (n Zov (n ZpE (n ZpN (n Zop .tt))))))))))))))))))))))) (i Zi7 (u 14 .int (u 15 .int (u 16 .rows (u 17 .amap (i ZhB (i Zgs (i ZgT (i Zge (n ZnD (n ZnQ (n ZpP (n Zn3 (n Zpw (n Zo2 (n ZnS (n ZoV (u 18 .int (u 19 .rows (u 20 .amap (i ZpJ (i ZoA (i ZoS (i ZoF (i ZhA (i ZhA (i Zje (n ZjS (n Zb4 (n ZjJ (n ZgG (n ZjT (n Zjy (n Zks (n Zj0 (n Zj4 (n ZgF .tt)))))))))))))))))))))))))))))))))))))))))))))))))))))))))))))))))))))))))))))))
theorem ZOd : Yk Tryz.prog ZHv 12 44 Ze0 = ZIt := by kernel_rfl
theorem Zfa {S : Sig GG} (hS : CsSig S) : YK S Tryz.prog ZG7 := ⟨Zc (by decide) (Zuz S hS), ZbT hS⟩
theorem GoodC.hit {c : Cs} (h : GoodC c) {n : Int} (hj : c.idx n < c.fr.length) (hn : ((c.fr.take (c.idx n) ++ c.fr.drop (c.idx n + 1) ++ [c.fr.getD (c.idx n) fr0]).map (·.n)).Nodup) : GoodC (c.hitC n) := by
 have hsub : ∀ f ∈ (c.hitC n).fr, f ∈ c.fr := by
  intro f hf
  have hf : f ∈ c.fr.take (c.idx n) ++ c.fr.drop (c.idx n + 1) ++ [c.fr.getD (c.idx n) fr0] := hf
  rcases List.mem_append.1 hf with hf | hf
  ·rcases List.mem_append.1 hf with hf | hf
   ·exact List.mem_of_mem_take hf
   ·exact List.mem_of_mem_drop hf
  ·rw [List.mem_singleton.1 hf, ZUj, ZUm hj]; exact ZUG _
 have hl := h.len
 have hc := h.cnt
 refine ⟨h.frames, ?_, hn, fun f hf => h.pins f (hsub f hf), ⟨show 0 <= c.hits + 1 by omega, hc.2.1, hc.2.2⟩, fun f hf => h.b f (hsub f hf)⟩
 show ((c.fr.take (c.idx n) ++ c.fr.drop (c.idx n + 1) ++ [c.fr.getD (c.idx n) fr0]).length : Int) <= c.frames
 simp only [ZUo, ZUl, ZUx, List.length_singleton]; omega
theorem ZqJ {R : List (List Int)} {j : Nat} (hj : j < R.length) : (Zty R (j : Nat)).getD (((Zty R (j : Nat)).length : Int) + -1).toNat [] = R.getD j [] := by
 have hl : (ZjM R (j : Nat)).length = R.length - 1 := by
  show (R.take j ++ R.drop (j + 1)).length = _
  rw [ZUo, ZUl, ZUx]; omega
 have hk : (((Zty R (j : Nat)).length : Int) + -1).toNat = (ZjM R (j : Nat)).length := by
  show (((ZjM R (j : Nat) ++ [_]).length : Int) + -1).toNat = _
  rw [ZUo]; show (((_ + 1 : Nat) : Int) + -1).toNat = _; omega
 rw [hk]
 show (ZjM R (j : Nat) ++ [R.getD j []]).getD _ [] = _
 rw [ZUj, ZUC (Nat.le_refl _), Nat.sub_self]; rfl
theorem Zqp {c : Cs} {n : Int} (h : ¬ c.hit n) : ∀ f ∈ c.fr, (f.n == n) = false := by
 intro f hf
 obtain ⟨i, hi, e⟩ := List.getElem_of_mem hf
 have hl : i < c.idx n := Nat.lt_of_lt_of_le hi (Nat.le_of_not_lt h)
 have := (Zgr (P := fun f => f.n == n) hl).2
 rw [ZUj, ZUm hi, Option.getD_some, e] at this
 exact this
theorem ZJ6 {c : Cs} {d : Dv} (hg : GoodC c) (h : c.roomE d = 0) : (c.roomC d = c /\ (c.fr.length : Int) < c.frames) \/ (c.roomC d = c.evict /\ c.old < c.fr.length) := by
 unfold Cs.roomE at h
 unfold Cs.roomC
 by_cases h1 : (c.fr.length : Int) < c.frames
 ·exact .inl ⟨if_pos (.inl h1), h1⟩
 ·rw [if_neg h1] at h
  by_cases h2 : c.fr.length <= c.old
  ·rw [if_pos h2] at h; cases h
  ·rw [if_neg h2] at h
   refine .inr ⟨?_, by omega⟩
   rw [if_neg (by rintro (h | h); exact h1 h; exact h2 h)]
   by_cases h3 : c.oldF.dirty = true
   ·rw [if_pos h3] at h
    exact if_neg (fun q => q.2 h)
   ·exact if_neg (fun q => h3 q.1)
theorem ZkM {c : Cs} : ∀ f ∈ c.evict.fr, f ∈ c.fr := by
 intro f hf
 have hf : f ∈ c.fr.take ((c.old : Nat) : Int).toNat ++ c.fr.drop (((c.old : Nat) : Int).toNat + 1) := hf
 rcases List.mem_append.1 hf with h | h
 ·exact List.mem_of_mem_take h
 ·exact List.mem_of_mem_drop h
theorem ZdX {c : Cs} {d : Dv} {n : Int} (hg : GoodC c) (hno : ¬ c.hit n) (h : c.roomE d = 0) : (c.roomC d).misses = c.misses /\ ((c.roomC d).fr.length : Int) <= ((c.roomC d).idx n : Nat) /\ ((c.roomC d).fr.length : Int) < (c.roomC d).frames := by
 have hl := hg.len
 rcases ZJ6 hg h with ⟨e, h1⟩ | ⟨e, h1⟩
 ·rw [e]
  refine ⟨rfl, ?_, h1⟩
  have := Zl8 (Zqp hno)
  show _ <= ((Zf7 _ c.fr : Nat) : Int)
  rw [this]; exact ZUu _
 ·rw [e]
  refine ⟨rfl, ?_, ?_⟩
  ·have := Zl8 (P := fun f => f.n == n) (l := c.evict.fr) (fun f hf => Zqp hno f (ZkM f hf))
   show _ <= ((Zf7 _ c.evict.fr : Nat) : Int)
   rw [this]; exact ZUu _
  ·show ((c.fr.take ((c.old : Nat) : Int).toNat ++ c.fr.drop (((c.old : Nat) : Int).toNat + 1)).length : Int) < c.frames
   rw [ZUo, ZUl, ZUx, ZUq]; omega
theorem ZEn (S : Sig GG) (hS : CsSig S) : Zs S Tryz.prog 44 Ze0 := by
 refine Zd S (C := ZHv) (fuel := 12) (Zx (Zfa hS) ⟨⟨⟨by decide, ZsC S hS⟩, ⟨by decide, ZIb S hS⟩, ⟨by decide, Zba S hS⟩, ⟨by decide, Zca S hS.rg⟩, ⟨by decide, ZIB S hS⟩, ⟨by decide, Zb9 S hS⟩, ⟨by decide, Zba S hS⟩, ⟨by decide, Zca S hS.rg⟩, ⟨by decide, Zba S hS⟩, ⟨by decide, ZBv S hS⟩, ⟨by decide, ZBv S hS⟩, ⟨by decide, Zca S hS.rg⟩, trivial⟩, trivial⟩ trivial) fun ρ => ?_
 rw [ZOd]
 simp only [ZIt, ZqC, Zsf, Zsn, Zg0, ZrL, Zhs, ZmF, ZmN, ZvW, Ziq, ZjB, Zn0, Zpd, Zjd, ZiT, ZgQ, YP, Zb4, Zot, Zgo, ZgF, Zgu, ZjI, Zps, ZeL, ZgB, ZgD, Zhj, Zhp, ZnW, Zkk, Zkc, Zbr, Zki, ZnV, ZjN, ZiZ, ZiM, ZiP, ZoJ, ZoN, Zpi, ZpI, Zn5, Zpc, ZpY, ZnR, ZnT, Zjw, Zpn, Zcy, Zpm, Zpl, Zo8, Zo4, ZoD, Zph, ZnE, Zom, Zi7, ZpA, ZbX, ZhB, Zgs, ZgT, Zge, Zgb, Zhx, Zhh, Zn8, ZnH, ZgG, ZnC, ZoH, ZnU, ZeS, ZoZ, ZpT, Zov, ZpE, ZpN, Zop, ZoG, ZnD, ZnQ, ZdK, ZpP, Zn3, Zpw, Zo2, ZpG, ZnS, ZoV, ZdO, ZpJ, ZoA, ZoS, ZoF, ZnL, ZhA, Zje, ZjS, ZjJ, ZcV, ZjT, Zjy, Zks, Zj0, Zj4, Zbf, Zr, Zq, VC.den, SX.den, ZN, Env.upd, ZS, Zao, Z3, Z2, ZB, ZI, ZJ, ZH, beq_iff_eq, Bool.not_eq_true', beq_eq_false_iff_ne, ne_eq, Bool.not_not, U.tMi, Int.toNat_zero, Nat.reduceEqDiff, reduceIte, Zf, ZK, ZG, U.int.injEq, scs hS, sdv hS.dv, srg hS.rg, sB]
 generalize Zn (U.co S .g (ρ 2)) = c
 generalize Zk (U.co S .g (ρ 3)) = d
 generalize (ρ 4).tI = n
 intro q1 q2 q3 q4 q5 q6 q7 hgd hm H R m hh hg hlen hpos hnd hp
 have hhas := hh.has n
 refine ⟨fun hit => ?_, fun nohit => ⟨?_, fun hfull => ⟨fun hneg => ?_, fun h0 => ?_⟩, fun hnf => ?_⟩⟩
 ·have hj : c.idx n < c.fr.length := hhas.1 hit
  have hlen' := hh.1
  have hl : Y5 (-(0 + 1)) m n = g0 (R.getD (c.idx n) []) := by have := hh.get (d := -(0 + 1)) hj; rwa [Cs.idx_n hj] at this
  have hr : Zcc (Y5 (-(0 + 1)) m n) R = c.idx n := by
   rw [hl, Zah, <- Zac R _ (by omega)]; exact Zab (List.nodup_cons.1 hnd).2 (by rw [ZUt]; omega)
  have hC : c.holdC d n = c.hitC n := if_pos hj
  have hE : c.holdE d n = 0 := if_pos hj
  have hD : c.holdD d n = d := if_pos (.inl hj)
  have hrot : (Zty R (c.idx n : Nat)).map g0 = (R.map g0).erase (Y5 (-(0 + 1)) m n) ++ [Y5 (-(0 + 1)) m n] := by
   rw [Zd4, hr, hl]
   show (ZjM R _ ++ [_]).map g0 = _
   rw [ZUz]; rfl
  simp only [hr, hC, hE, hD]
  refine ⟨?_, fun _ _ => ⟨by omega, ?_, rfl, fun nd2 hp2 => ⟨hh.rot hj, ?_, by rw [hrot]; exact nd2, ?_, trivial, rfl, hrot, rfl, rfl, rfl, rfl, trivial, trivial⟩⟩⟩
  ·exact ZjH (by rw [hr]; omega)
  ·have hc := hg.cnt; omega
  ·exact hg.hit hj (hh.rot hj).2.1
  ·have e := ZqJ (R := R) (show c.idx n < R.length by omega)
   exact .inr (hl.trans (congrArg g0 e.symm))
 ·first | trivial | rfl
 ·have hno : ¬ c.hit n := fun h => by rw [hhas.2 h] at nohit; cases nohit
  have hst : c.stuck := by
   refine ⟨hfull, ?_⟩
   rcases Nat.lt_or_ge c.old c.fr.length with ho | ho
   ·unfold ZtP at hneg
    rw [if_pos ho] at hneg
    have hoR : c.old < R.length := by omega
    have := hp (g0 (R.getD c.old [])) (ZUp _ (by
     rw [<- Zac R c.old hoR, ZUj, ZUm (by rw [ZUt]; exact hoR)]; exact ZUG _))
    omega
   ·exact ho
  have hC : c.holdC d n = c := by unfold Cs.holdC; rw [if_neg hno, if_pos (.inl hst)]
  have hE : c.holdE d n = 40 := by unfold Cs.holdE; rw [if_neg hno, if_pos hst]
  have hD : c.holdD d n = d := if_pos (.inr (.inl hst))
  simp only [hC, hE, hD]
  intro nd2 hp2
  refine ⟨hh, hg, .inl (by decide), trivial, trivial, trivial, trivial, trivial, trivial, trivial, trivial⟩
 all_goals
  have hno : ¬ c.hit n := fun h => by rw [hhas.2 h] at nohit; cases nohit
  have hst : ¬ c.stuck := by
   rintro ⟨s1, s2⟩
   first
    | omega
    | (unfold ZtP at h0; rw [if_neg (by omega)] at h0; omega)
  have eta : ({ fr := c.fr, frames := c.frames, hits := c.hits, misses := c.misses, evic := c.evic } : Cs) = c := rfl
  have w1 : (d.rdD n).wr = d.wr := by unfold Dv.rdD; split <;> rfl
  have w2 : (d.rdD n).w = d.w := by unfold Dv.rdD; split <;> rfl
  have w3 : (d.rdD n).keep = d.keep := by unfold Dv.rdD; split <;> rfl
  simp only [eta, w1, w2, w3]
  refine ⟨q4, fun rb rl rc B re f1 f2 f3 f4 f5 f6 => ⟨fun he => ?_, fun he => ?_⟩⟩
  ·rw [f5] at he ⊢
   have hC : c.holdC d n = c := by unfold Cs.holdC; rw [if_neg hno, if_pos (.inr he)]
   have hE : c.holdE d n = d.ref n := by unfold Cs.holdE; rw [if_neg hno, if_neg hst, if_pos he]
   have hD : c.holdD d n = d := if_pos (.inr (.inr he))
   have hrd : d.rdD n = d := if_pos he
   simp only [hC, hE, hD, hrd]
   intro nd2 hp2
   exact ⟨hh, hg, .inl he, trivial, trivial, trivial, trivial, trivial, trivial, trivial, trivial⟩
  ·rw [f5] at he
   refine ⟨hg, q1, q2, q3, q7, fun he2 => ?_, fun he2 => ?_⟩
   ·have hC : c.holdC d n = c.roomC (d.rdD n) := by unfold Cs.holdC; rw [if_neg hno, if_neg (by rintro (h | h); exact hst h; exact h he), if_pos he2]
    have hE : c.holdE d n = c.roomE (d.rdD n) := by unfold Cs.holdE; rw [if_neg hno, if_neg hst, if_neg (fun h => h he)]
    have hD : c.holdD d n = c.roomD (d.rdD n) := if_neg (by rintro (h | h | h); exact hno h; exact hst h; exact h he)
    simp only [hC, hE, hD]
    intro hm' H' R' m' hh' hg' hl' hpos' _ _ nd2 hp2
    exact ⟨hh', hg', .inl he2, trivial, trivial, trivial, trivial, trivial, trivial, trivial, trivial⟩
   ·obtain ⟨r1, r2, r3⟩ := ZdX hg hno he2
    have hc := hg.cnt
    intro hm' H' R' m' hh' hg' hl' hpos'
    have hcnt' := hg'.cnt
    rw [r1] at hcnt'
    simp only [r1]
    refine ⟨by omega, ?_, hh', ⟨hg'.frames, hg'.len, hg'.nod, hg'.pins, ⟨hcnt'.1, by show 0 <= c.misses + 1; omega, hcnt'.2.2⟩, hg'.b⟩, ?_, ?_, r2, r3, fun l R2 m2 => ?_⟩
    ·first | trivial | rfl
    ·rw [f2]; omega
    ·have hrd : d.rdB n = d.read n := if_neg (fun h => h he)
     have hn : 0 <= n /\ n < d.pages := by
      unfold Dv.ref at he
      cases hdn : d.down
      ·rw [hdn] at he
       have he : (if n < 0 \/ d.pages <= n then (30 : Int) else 0) = 0 := he
       by_cases h : n < 0 \/ d.pages <= n
       ·rw [if_pos h] at he; cases he
       ·omega
      ·rw [hdn] at he; cases he
     have h1 := Zkb hgd hn.1 hn.2
     have h2 := ZcN hgd.size
     rw [f2, hrd]; omega
    ·have hca : (c.roomC (d.rdD n)).came n (d.rdB n) = ({ c.roomC (d.rdD n) with misses := c.misses + 1 } : Cs).addF n (d.rdB n) := by unfold Cs.came; rw [r1]; rfl
     have hC : c.holdC d n = ({ c.roomC (d.rdD n) with misses := c.misses + 1 } : Cs).addF n (d.rdB n) := by rw [<- hca]; unfold Cs.holdC; rw [if_neg hno, if_neg (by rintro (h | h); exact hst h; exact h he), if_neg (fun h => h he2)]
     have hE : c.holdE d n = 0 := by unfold Cs.holdE; rw [if_neg hno, if_neg hst, if_neg (fun h => h he)]; exact he2
     have hD : c.holdD d n = c.roomD (d.rdD n) := if_neg (by rintro (h | h | h); exact hno h; exact hst h; exact h he)
     simp only [hC, hE, hD, f1]
     intro hh2 hg2 hl2 hnt _ nd2 hp2
     have hl3 : (((R2.length : Nat) : Int) + -1).toNat = ((R'.length : Nat) : Int).toNat := by omega
     refine ⟨hh2, hg2, .inr ?_, by first | trivial | rfl, by first | trivial | rfl, by first | trivial | rfl, by first | trivial | rfl, by first | trivial | rfl, by first | trivial | rfl, trivial, trivial⟩
     show l = (R2.getD (((R2.length : Nat) : Int) + -1).toNat []).getD 0 0
     rw [hl3]
     exact hnt.symm
def getS : List (Nat × List Ctr) := (44, [Ze0]) :: (43, [Zsq]) :: ZG7
def Zm8 : Ctr := ⟨[.int, .int, .g, .g, .int], [.one (.ptr (ai 0) 0), .one (.int .i64 (ai 4))], [csC (ai 0) (ai 1) (gA 2), plC (ai 1) (gA 3)], Ze0.reqs, [.int, .int, .int, .bytes],
 .tup [(false, [sl1 (ai 5) (ai 6) (ai 7)]), (false, [.int .i64 Zdk])], [csC (ai 0) (ai 1) (usG 273 ZhR z0 z0), plC (ai 1) (usG 284 (gA 2) (gA 3) (ai 4)), bAr (ai 5) (bA 8) (ai 7)],
 [.f2 50 (.f1 2 (.f2 45 Zdk z0)) (eqS (tkB (bA 8) (ai 6)) (usY 253 ZhR (SX.mk2 41 (usI 256 ZhR z0 z0) (.int 1)) z0)), .f2 50 (eLe z0 (ai 5)) (.f2 45 (ai 6) z0), eLe z0 (ai 6), eLe (ai 6) (ZP (bA 8)), eLe (ai 6) (ai 7)]⟩
def ZJp : Cx := { specs := getS, anns := [(13, [(4, .ghost Zln [.tmp 6]), (500004, .ghost ZkV [.tmp 6]), (999999, .ghost Znv [.tmp 0]), (999999, .ghost Ztn [])])] }
def ZPV : VC := i (l (v 206 (g 3)) k2) (i (l (v 211 (g 3)) k0) (i (l (.f1 30 (o 209 (g 3))) k1) (i (l (v 205 (g 3)) k2) (i (l (v 258 (g 2)) k2) (i (l (v 259 (g 2)) k2) (i (l (v 260 (g 2)) k2) (u 5 .int (u 6 .int (u 7 .rows (u 8 .amap (u 9 .int (i (y 251 (m 8) (r 7) (h 283 (g 2) (g 3) (a 4))) (i (p 268 (h 283 (g 2) (g 3) (a 4))) (i (c 246 (a 6) (o 242 (r 7))) (i (.f2 50 (.f1 2 (e (x 285 (g 2) (g 3) (a 4)) z)) (e (a 9) (.f3 112 (r 7) (.f2 40 (.f1 32 (r 7)) (k (- (0 + 1)))) z))) (.and (i (.f1 2 (e (x 285 (g 2) (g 3) (a 4)) z)) (n (.f2 155 (o 242 (r 7)) (o 242 (r 7))) (n (p 268 (.us .g 267 (h 283 (g 2) (g 3) (a 4)) (v 258 (h 283 (g 2) (g 3) (a 4))) (v 259 (h 283 (g 2) (g 3) (a 4))) (v 260 (h 283 (g 2) (g 3) (a 4))))) (n (.f2 50 (.f1 2 (e (x 285 (g 2) (g 3) (a 4)) z)) (.f2 155 (.f1 153 z) (wB 253 (h 283 (g 2) (g 3) (a 4)) (.f2 40 (v 256 (h 283 (g 2) (g 3) (a 4))) (k (- (0 + 1))))))) (n (.f2 155 (w 273 (h 283 (g 2) (g 3) (a 4))) (.us .g 267 (h 283 (g 2) (g 3) (a 4)) (v 258 (h 283 (g 2) (g 3) (a 4))) (v 259 (h 283 (g 2) (g 3) (a 4))) (v 260 (h 283 (g 2) (g 3) (a 4))))) .tt))))) (i (e (x 285 (g 2) (g 3) (a 4)) z) (n (t (d 250 (r 7) (a 9)) (.f1 32 (r 7))) (i (l (.f1 31 (wB 253 (h 283 (g 2) (g 3) (a 4)) (d 250 (r 7) (a 9)))) (.f3 112 (r 7) (d 250 (r 7) (a 9)) (k 2))) (i (.f2 50 (l z (.f3 112 (r 7) (d 250 (r 7) (a 9)) (k 1))) (e (.f1 31 (wB 253 (h 283 (g 2) (g 3) (a 4)) (d 250 (r 7) (a 9)))) z)) (n (l (.f1 31 (wB 253 (h 283 (g 2) (g 3) (a 4)) (d 250 (r 7) (a 9)))) (.f1 31 (wB 253 (h 283 (g 2) (g 3) (a 4)) (d 250 (r 7) (a 9))))) (n (l (.f1 31 (wB 253 (h 283 (g 2) (g 3) (a 4)) (d 250 (r 7) (a 9)))) k0) (u 10 .int (u 11 .bytes (u 12 .int (i (.f2 155 (.f2 114 (b 11) (.f1 31 (wB 253 (h 283 (g 2) (g 3) (a 4)) (d 250 (r 7) (a 9))))) (.f2 114 (wB 253 (h 283 (g 2) (g 3) (a 4)) (d 250 (r 7) (a 9))) (.f1 31 (wB 253 (h 283 (g 2) (g 3) (a 4)) (d 250 (r 7) (a 9)))))) (i (e (.f1 31 (b 11)) (.f1 31 (wB 253 (h 283 (g 2) (g 3) (a 4)) (d 250 (r 7) (a 9))))) (i (l (.f1 31 (wB 253 (h 283 (g 2) (g 3) (a 4)) (d 250 (r 7) (a 9)))) (a 12)) (i (.f2 50 (l z (a 10)) (e (.f1 31 (wB 253 (h 283 (g 2) (g 3) (a 4)) (d 250 (r 7) (a 9)))) z)) (n (l z (d 250 (r 7) (a 9))) (n (e (a 9) (.f3 112 (r 7) (d 250 (r 7) (a 9)) z)) (n (e (.f1 32 (r 7)) (v 256 (h 283 (g 2) (g 3) (a 4)))) (n (.f2 155 (o 242 (r 7)) (o 242 (r 7))) (n (p 268 (.us .g 267 (h 283 (g 2) (g 3) (a 4)) (v 258 (h 283 (g 2) (g 3) (a 4))) (v 259 (h 283 (g 2) (g 3) (a 4))) (v 260 (h 283 (g 2) (g 3) (a 4))))) (n (.f2 50 (.f1 2 (e (x 285 (g 2) (g 3) (a 4)) z)) (.f2 155 (.f2 114 (b 11) (.f1 31 (wB 253 (h 283 (g 2) (g 3) (a 4)) (d 250 (r 7) (a 9))))) (wB 253 (h 283 (g 2) (g 3) (a 4)) (.f2 40 (v 256 (h 283 (g 2) (g 3) (a 4))) (k (- (0 + 1))))))) (n (l (.f1 31 (wB 253 (h 283 (g 2) (g 3) (a 4)) (d 250 (r 7) (a 9)))) (.f1 31 (b 11))) (n (.f2 155 (w 273 (h 283 (g 2) (g 3) (a 4))) (.us .g 267 (h 283 (g 2) (g 3) (a 4)) (v 258 (h 283 (g 2) (g 3) (a 4))) (v 259 (h 283 (g 2) (g 3) (a 4))) (v 260 (h 283 (g 2) (g 3) (a 4))))) .tt)))))))))))))))))))))))))))))))))))))
theorem ZTf : Yk Tryz.prog ZJp 12 13 Zm8 = ZPV := by kernel_rfl
theorem Zlf {S : Sig GG} (hS : CsSig S) : YK S Tryz.prog getS := ⟨Zc (by decide) (ZEn S hS), Zc (by decide) (ZIu S), Zfa hS⟩
theorem Zet {c : Cs} {d : Dv} {n : Int} (h : c.holdE d n = 0) : 0 < (c.holdC d n).fr.length := by
 unfold Cs.holdE at h
 unfold Cs.holdC
 by_cases h1 : c.hit n
 ·rw [if_pos h1]
  show 0 < (_ ++ [_]).length
  rw [ZUo]; exact Nat.succ_pos _
 ·rw [if_neg h1] at h ⊢
  by_cases h2 : c.stuck
  ·rw [if_pos h2] at h; cases h
  ·rw [if_neg h2] at h
   by_cases h3 : d.ref n ≠ 0
   ·rw [if_pos h3] at h; exact absurd h h3
   ·rw [if_neg h3] at h
    rw [if_neg (by rintro (q | q); exact h2 q; exact h3 q), if_neg (fun q => q h)]
    show 0 < (_ ++ [_]).length
    rw [ZUo]; exact Nat.succ_pos _
theorem Zew {R : List (List Int)} {H l : Int} (hn : (H :: R.map g0).Nodup) (h0 : 0 < R.length) (hl : l = g0 (R.getD (((R.length : Nat) : Int) + -1).toNat [])) : Zcc l R = R.length - 1 /\ l = g0 (R.getD (R.length - 1) []) := by
 have e : (((R.length : Nat) : Int) + -1).toNat = R.length - 1 := by omega
 rw [e] at hl
 refine ⟨?_, hl⟩
 rw [hl, Zah, <- Zac R _ (by omega)]
 exact Zab (List.nodup_cons.1 hn).2 (by rw [ZUt]; omega)
theorem get_ok (S : Sig GG) (hS : CsSig S) : Zs S Tryz.prog 13 Zm8 := by
 refine Zd S (C := ZJp) (fuel := 12) (Zx (Zlf hS) ⟨⟨⟨by decide, ZbE S hS⟩, ⟨by decide, Zcp S hS⟩, ⟨by decide, Zb9 S hS⟩, ⟨by decide, Zcx S⟩, trivial⟩, trivial⟩ trivial) fun ρ => ?_
 rw [ZTf]
 simp only [ZPV, Zbf, Zr, Zq, VC.den, SX.den, ZN, Env.upd, ZS, Zao, Z3, Z2, ZB, ZI, ZJ, ZH, beq_iff_eq, Bool.not_eq_true', beq_eq_false_iff_ne, ne_eq, Bool.not_not, U.tMi, Int.toNat_zero, Nat.reduceEqDiff, reduceIte, Zf, ZK, ZG, U.int.injEq, scs hS, sdv hS.dv, srg hS.rg, sB]
 generalize Zn (U.co S .g (ρ 2)) = c
 generalize Zk (U.co S .g (ρ 3)) = d
 generalize (ρ 4).tI = n
 intro q1 q2 q3 q4 q5 q6 q7 hm H R m l hh hg hnd hor
 refine ⟨fun he => ⟨?_, hg, .inl he, ?_, trivial⟩, fun he => ?_⟩
 ·first | trivial | rfl
 ·first | trivial | rfl
 ·have h0 : 0 < R.length := by rw [hh.1]; exact Zet he
  obtain ⟨k1, k2⟩ := Zew hnd h0 (hor.resolve_left (fun h => h he))
  have hlen := hh.1
  have hb := hg.b ((c.holdC d n).at' ((R.length - 1 : Nat) : Int)) (by
   show (c.holdC d n).fr.getD (R.length - 1) fr0 ∈ _
   rw [ZUj, ZUm (by omega)]; exact ZUG _)
  have hix : (((c.holdC d n).fr.length : Nat) : Int) + -1 = ((R.length - 1 : Nat) : Int) := by omega
  simp only [k1, hix]
  refine ⟨by omega, fun f1 f2 => ⟨by omega, by omega, fun b B cp g1 g2 g3 g4 => ⟨by omega, k2, by omega, ?_, hg, .inr ?_, by omega, ?_, trivial⟩⟩⟩
  ·first | trivial | rfl
  ·have e : (-(0 + 1) : Int) = -1 := rfl
   have hix' : ((((c.holdC d n).fr.length : Nat) : Int) + -(0 + 1)) = ((R.length - 1 : Nat) : Int) := hix
   rw [hix', g1, ZUq, List.take_length]
   show (ap2 155 _ _).tP
   rw [ZfH]
  ·first | trivial | rfl
def ZC4 : Ctr := ⟨[.int, .int, .g, .int], [.one (.ptr (ai 0) 0), .one (.int .i64 (ai 3))], [csC (ai 0) (ai 1) (gA 2)], [usB 288 (gA 2) z0 z0], [], .one (.int .i64 (usI 290 (gA 2) (ai 3) z0)), [csC (ai 0) (ai 1) (usG 289 (gA 2) (ai 3) z0)], []⟩
def ZSC : Cx := { specs := [], anns := [(28, [(1, .ghost Zdo [.tmp 0]), (1, .ghost Zol []), (2, .split (.f2 141 (mA 7) (ai 3))), (2, .iff (.f2 141 (mA 7) (ai 3))), (2, .ghost Zln [.tmp 5]), (3, .iff (.f2 141 (mA 7) (ai 3))), (3, .ghost ZkV [.tmp 5]), (500004, .ghost ZuG [.tmp 5]), (999999, .ghost Znv [.tmp 0])])] }
def ZTn : VC := i (p 288 (g 2)) (u 4 .int (u 5 .int (u 6 .rows (u 7 .amap (i (y 251 (m 7) (r 6) (g 2)) (i (p 268 (g 2)) (i (e (.f1 32 (r 6)) (v 256 (g 2))) (i (l z (a 4)) (i (c 246 (a 5) (o 242 (r 6))) (i (c 249 (a 5) (o 242 (r 6))) (.and (i (.f2 141 (m 7) (a 3)) (n (t (d 250 (r 6) (.f3 140 (k (- (0 + 1))) (m 7) (a 3))) (.f1 32 (r 6))) (i (l (.f1 31 (wB 253 (g 2) (d 250 (r 6) (.f3 140 (k (- (0 + 1))) (m 7) (a 3))))) (.f3 112 (r 6) (d 250 (r 6) (.f3 140 (k (- (0 + 1))) (m 7) (a 3))) (k 2))) (i (.f2 50 (l z (.f3 112 (r 6) (d 250 (r 6) (.f3 140 (k (- (0 + 1))) (m 7) (a 3))) (k 1))) (e (.f1 31 (wB 253 (g 2) (d 250 (r 6) (.f3 140 (k (- (0 + 1))) (m 7) (a 3))))) z)) (.and (i (.f1 2 (.f1 2 (.f2 141 (m 7) (a 3)))) (.and (i (e (d 255 (g 2) (d 250 (r 6) (.f3 140 (k (- (0 + 1))) (m 7) (a 3)))) z) (n (l z (d 250 (r 6) (.f3 140 (k (- (0 + 1))) (m 7) (a 3)))) (n (e (.f3 140 (k (- (0 + 1))) (m 7) (a 3)) (.f3 112 (r 6) (d 250 (r 6) (.f3 140 (k (- (0 + 1))) (m 7) (a 3))) z)) (n (.f2 155 (o 242 (r 6)) (o 242 (r 6))) (n (p 268 (.us .g 267 (g 2) (v 258 (g 2)) (v 259 (g 2)) (v 260 (g 2)))) (n (.f2 155 (f 289 (g 2) (a 3)) (.us .g 267 (g 2) (v 258 (g 2)) (v 259 (g 2)) (v 260 (g 2)))) (n (e (d 290 (g 2) (a 3)) (k 41)) .tt))))))) (i (.f1 2 (e (d 255 (g 2) (d 250 (r 6) (.f3 140 (k (- (0 + 1))) (m 7) (a 3)))) z)) (n (.f1 23 (.f2 40 (d 255 (g 2) (d 250 (r 6) (.f3 140 (k (- (0 + 1))) (m 7) (a 3)))) (k (- (0 + 1))))) (n (l z (d 250 (r 6) (.f3 140 (k (- (0 + 1))) (m 7) (a 3)))) (n (e (d 252 (g 2) (d 250 (r 6) (.f3 140 (k (- (0 + 1))) (m 7) (a 3)))) (d 252 (g 2) (d 250 (r 6) (.f3 140 (k (- (0 + 1))) (m 7) (a 3))))) (n (l (.f1 31 (wB 253 (g 2) (d 250 (r 6) (.f3 140 (k (- (0 + 1))) (m 7) (a 3))))) (.f1 31 (wB 253 (g 2) (d 250 (r 6) (.f3 140 (k (- (0 + 1))) (m 7) (a 3)))))) (n (.f2 155 (o 242 (r 6)) (o 242 (hR 269 (r 6) (d 250 (r 6) (.f3 140 (k (- (0 + 1))) (m 7) (a 3))) (.f2 122 (.f3 140 (k (- (0 + 1))) (m 7) (a 3)) (.f2 122 (.f3 112 (r 6) (d 250 (r 6) (.f3 140 (k (- (0 + 1))) (m 7) (a 3))) (k 1)) (.f2 122 (.f3 112 (r 6) (d 250 (r 6) (.f3 140 (k (- (0 + 1))) (m 7) (a 3))) (k 2)) (.f1 152 z))))))) (n (y 251 (m 7) (hR 269 (r 6) (d 250 (r 6) (.f3 140 (k (- (0 + 1))) (m 7) (a 3))) (.f2 122 (.f3 140 (k (- (0 + 1))) (m 7) (a 3)) (.f2 122 (.f3 112 (r 6) (d 250 (r 6) (.f3 140 (k (- (0 + 1))) (m 7) (a 3))) (k 1)) (.f2 122 (.f3 112 (r 6) (d 250 (r 6) (.f3 140 (k (- (0 + 1))) (m 7) (a 3))) (k 2)) (.f1 152 z))))) (.us .g 266 (g 2) (d 250 (r 6) (.f3 140 (k (- (0 + 1))) (m 7) (a 3))) (.f2 114 (wB 253 (g 2) (d 250 (r 6) (.f3 140 (k (- (0 + 1))) (m 7) (a 3)))) (.f1 31 (wB 253 (g 2) (d 250 (r 6) (.f3 140 (k (- (0 + 1))) (m 7) (a 3)))))) (.f2 122 (.f1 3 (c 254 (g 2) (d 250 (r 6) (.f3 140 (k (- (0 + 1))) (m 7) (a 3))))) (.f2 122 (.f2 40 (d 255 (g 2) (d 250 (r 6) (.f3 140 (k (- (0 + 1))) (m 7) (a 3)))) (k (- (0 + 1)))) (.f1 152 z))))) (n (p 268 (.us .g 267 (.us .g 266 (g 2) (d 250 (r 6) (.f3 140 (k (- (0 + 1))) (m 7) (a 3))) (.f2 114 (wB 253 (g 2) (d 250 (r 6) (.f3 140 (k (- (0 + 1))) (m 7) (a 3)))) (.f1 31 (wB 253 (g 2) (d 250 (r 6) (.f3 140 (k (- (0 + 1))) (m 7) (a 3)))))) (.f2 122 (.f1 3 (c 254 (g 2) (d 250 (r 6) (.f3 140 (k (- (0 + 1))) (m 7) (a 3))))) (.f2 122 (.f2 40 (d 255 (g 2) (d 250 (r 6) (.f3 140 (k (- (0 + 1))) (m 7) (a 3)))) (k (- (0 + 1)))) (.f1 152 z)))) (v 258 (g 2)) (v 259 (g 2)) (v 260 (g 2)))) (n (e (v 257 (.us .g 266 (g 2) (d 250 (r 6) (.f3 140 (k (- (0 + 1))) (m 7) (a 3))) (.f2 114 (wB 253 (g 2) (d 250 (r 6) (.f3 140 (k (- (0 + 1))) (m 7) (a 3)))) (.f1 31 (wB 253 (g 2) (d 250 (r 6) (.f3 140 (k (- (0 + 1))) (m 7) (a 3)))))) (.f2 122 (.f1 3 (c 254 (g 2) (d 250 (r 6) (.f3 140 (k (- (0 + 1))) (m 7) (a 3))))) (.f2 122 (.f2 40 (d 255 (g 2) (d 250 (r 6) (.f3 140 (k (- (0 + 1))) (m 7) (a 3)))) (k (- (0 + 1)))) (.f1 152 z))))) (v 257 (g 2))) (n (.f2 155 (f 289 (g 2) (a 3)) (.us .g 267 (.us .g 266 (g 2) (d 250 (r 6) (.f3 140 (k (- (0 + 1))) (m 7) (a 3))) (.f2 114 (wB 253 (g 2) (d 250 (r 6) (.f3 140 (k (- (0 + 1))) (m 7) (a 3)))) (.f1 31 (wB 253 (g 2) (d 250 (r 6) (.f3 140 (k (- (0 + 1))) (m 7) (a 3)))))) (.f2 122 (.f1 3 (c 254 (g 2) (d 250 (r 6) (.f3 140 (k (- (0 + 1))) (m 7) (a 3))))) (.f2 122 (.f2 40 (d 255 (g 2) (d 250 (r 6) (.f3 140 (k (- (0 + 1))) (m 7) (a 3)))) (k (- (0 + 1)))) (.f1 152 z)))) (v 258 (g 2)) (v 259 (g 2)) (v 260 (g 2)))) (n (e (d 290 (g 2) (a 3)) z) .tt))))))))))))) (i (.f1 2 (.f2 141 (m 7) (a 3))) (n (l z (d 250 (r 6) (.f3 140 (k (- (0 + 1))) (m 7) (a 3)))) (n (e (.f3 140 (k (- (0 + 1))) (m 7) (a 3)) (.f3 112 (r 6) (d 250 (r 6) (.f3 140 (k (- (0 + 1))) (m 7) (a 3))) z)) (n (.f2 155 (o 242 (r 6)) (o 242 (r 6))) (n (p 268 (.us .g 267 (g 2) (v 258 (g 2)) (v 259 (g 2)) (v 260 (g 2)))) (n (.f2 155 (f 289 (g 2) (a 3)) (.us .g 267 (g 2) (v 258 (g 2)) (v 259 (g 2)) (v 260 (g 2)))) (n (e (d 290 (g 2) (a 3)) (k 41)) .tt)))))))))))) (i (.f1 2 (.f2 141 (m 7) (a 3))) (.and .tt (i (.f1 2 (.f2 141 (m 7) (a 3))) (n (.f2 155 (o 242 (r 6)) (o 242 (r 6))) (n (p 268 (.us .g 267 (g 2) (v 258 (g 2)) (v 259 (g 2)) (v 260 (g 2)))) (n (.f2 155 (f 289 (g 2) (a 3)) (.us .g 267 (g 2) (v 258 (g 2)) (v 259 (g 2)) (v 260 (g 2)))) (n (e (d 290 (g 2) (a 3)) (k 41)) .tt))))))))))))))))))
theorem ZTQ : Yk Tryz.prog ZSC 12 28 ZC4 = ZTn := by kernel_rfl
theorem ZEr {c : Cs} {i : Int} {b : List UInt8} {dt : Bool} {p : Int} : c.putF i b (ap2 122 (ap1 3 (U.bool dt)) (ap2 122 (U.int p) (U.ints [])) : U GG).tN = c.put i ⟨(c.at' i).n, b, dt, p⟩ := by cases dt <;> rfl
theorem ZiN {R : List (List Int)} {i x y z : Int} : ZIE R i (ap2 122 (U.int x) (ap2 122 (U.int y) (ap2 122 (U.int z) (U.ints []))) : U GG).tN = ZIE R i [x, y, z] := rfl
theorem Y2 {c : Cs} {i : Nat} (h : i < c.fr.length) : c.at' (i : Nat) ∈ c.fr := by
 show c.fr.getD i fr0 ∈ c.fr
 rw [ZUj, ZUm h]; exact ZUG _
theorem ZfN {R : List (List Int)} {i : Nat} {x y z : Int} (h : i < R.length) (hr : x = g0 (R.getD i [])) : (ZIE R (i : Nat) [x, y, z]).map g0 = R.map g0 := by
 have e := ZO (d := []) h
 conv => rhs; rw [e]
 show (R.take i ++ [x, y, z] :: R.drop (i + 1)).map g0 = _
 have hr : g0 [x, y, z] = g0 (R.getD i []) := hr
 simp only [ZUz, ZUs, hr, List.map_nil]
 rw [List.append_cons]; simp
theorem Zf6 {m : List (Int × Int)} {R : List (List Int)} {c : Cs} (h : ZX m R c.fr) {i : Nat} (hi : i < c.fr.length) {f : Fr} {x y z : Int} (hf : f.n = (c.at' (i : Nat)).n) (hr : x = g0 (R.getD i [])) : ZX m (ZIE R (i : Nat) [x, y, z]) (c.put (i : Nat) f).fr := h.put hi hf hr
theorem GoodC.put {c : Cs} (h : GoodC c) {i : Nat} (hi : i < c.fr.length) {f : Fr} (hn : f.n = (c.at' (i : Nat)).n) (hp : 0 <= f.pins) (hb : f.b.length <= 65536) : GoodC (c.put (i : Nat) f) := by
 have hF := ZO (d := fr0) hi
 have hsub : ∀ g ∈ (c.put (i : Nat) f).fr, g = f \/ g ∈ c.fr := by
  intro g hg
  have hg : g ∈ c.fr.take i ++ f :: c.fr.drop (i + 1) := hg
  rcases List.mem_append.1 hg with q | q
  ·exact .inr (List.mem_of_mem_take q)
  ·rcases List.mem_cons.1 q with q | q
   ·exact .inl q
   ·exact .inr (List.mem_of_mem_drop q)
 have hl := h.len
 refine ⟨h.frames, ?_, ?_, fun g hg => ?_, h.cnt, fun g hg => ?_⟩
 ·show ((c.fr.take i ++ f :: c.fr.drop (i + 1)).length : Int) <= c.frames
  simp only [ZUo, ZUl, ZUx, ZUD]; omega
 ·show ((c.fr.take i ++ f :: c.fr.drop (i + 1)).map (·.n)).Nodup
  have e : (c.fr.take i ++ f :: c.fr.drop (i + 1)).map (·.n) = c.fr.map (·.n) := by
   conv => rhs; rw [hF]
   have hn : f.n = (c.fr.getD i fr0).n := hn
   simp [hn]
  rw [e]; exact h.nod
 ·rcases hsub g hg with rfl | q
  ·exact hp
  ·exact h.pins g q
 ·rcases hsub g hg with rfl | q
  ·exact hb
  ·exact h.b g q
theorem ZRe (S : Sig GG) (hS : CsSig S) : Zs S Tryz.prog 28 ZC4 := by
 refine Zd S (C := ZSC) (fuel := 12) (Zx trivial ⟨⟨⟨by decide, Zba S hS⟩, ⟨by decide, Zca S hS.rg⟩, trivial, trivial, ⟨by decide, ZbE S hS⟩, trivial, ⟨by decide, Zcp S hS⟩, ⟨by decide, ZEA S hS⟩, ⟨by decide, Zb9 S hS⟩, trivial⟩, trivial⟩ trivial) fun ρ => ?_
 rw [ZTQ]
 simp only [ZTn, Zbf, Zq, VC.den, SX.den, ZN, Env.upd, ZS, Zao, Z3, Z2, ZB, ZI, ZJ, ZH, beq_iff_eq, Bool.not_eq_true', beq_eq_false_iff_ne, ne_eq, Bool.not_not, U.tMi, Int.toNat_zero, Nat.reduceEqDiff, reduceIte, Zf, ZK, ZG, U.int.injEq, scs hS, srg hS.rg, sB]
 generalize Zn (U.co S .g (ρ 2)) = c
 generalize (ρ 3).tI = n
 intro hp0 hm H R m hh hg hlen hpos hnd hp
 have hhas := hh.has n
 refine ⟨fun hit => ?_, fun nohit => ⟨trivial, fun _ => ?_⟩⟩
 ·have hj : c.idx n < c.fr.length := hhas.1 hit
  have hlen' := hh.1
  have hl : Y5 (-(0 + 1)) m n = g0 (R.getD (c.idx n) []) := by have := hh.get (d := -(0 + 1)) hj; rwa [Cs.idx_n hj] at this
  have hr : Zcc (Y5 (-(0 + 1)) m n) R = c.idx n := by
   rw [hl, Zah, <- Zac R _ (by omega)]; exact Zab (List.nodup_cons.1 hnd).2 (by rw [ZUt]; omega)
  rw [hl] at hr
  simp only [hl, hr, ZEr, ZiN, ZUq, List.take_length]
  have hat : (c.at' (c.idx n : Nat)) ∈ c.fr := Y2 hj
  have hpn := hg.pins _ hat
  have hC0 : (c.at' (c.idx n : Nat)).pins = 0 -> c.unpC n = c /\ c.unpE n = 41 := fun h => ⟨if_neg (fun q => q.2 h), if_neg (fun q => q.2 h)⟩
  refine ⟨by omega, fun _ _ => ⟨fun _ => ⟨fun h0 => ?_, fun h0 => ?_⟩, fun h => absurd hit (by rw [h]; decide)⟩⟩
  ·obtain ⟨e1, e2⟩ := hC0 h0
   simp only [e1, e2]
   exact ⟨by omega, rfl, trivial, hg, by first | trivial | rfl, by first | trivial | rfl, trivial⟩
  ·have e1 : c.unpC n = c.pinAt (c.idx n : Nat) (-1) := if_pos ⟨hj, h0⟩
   have e2 : c.unpE n = 0 := if_pos ⟨hj, h0⟩
   have hpb := hp0 _ hat
   simp only [e1, e2]
   refine ⟨by omega, by omega, trivial, ZUu _, (ZfN (show c.idx n < R.length by omega) rfl).symm, Zf6 hh hj rfl rfl, hg.put hj rfl (show 0 <= (c.at' (c.idx n : Nat)).pins + -(0 + 1) by omega) (show (c.at' (c.idx n : Nat)).b.length <= 65536 from hg.b _ hat), rfl, rfl, by first | trivial | rfl, trivial⟩
 ·have hno : ¬ c.hit n := fun h => by rw [hhas.2 h] at nohit; cases nohit
  have hC : c.unpC n = c := if_neg (fun h => hno h.1)
  have hE : c.unpE n = 41 := if_neg (fun h => hno h.1)
  simp only [hC, hE]
  exact ⟨by first | trivial | rfl, hg, by first | trivial | rfl, by first | trivial | rfl, trivial⟩
def pinS : List (Nat × List Ctr) := (44, [Ze0]) :: ZG7
def ZxF : Ctr := ⟨[.int, .int, .g, .g, .int], [.one (.ptr (ai 0) 0), .one (.int .i64 (ai 4))], [csC (ai 0) (ai 1) (gA 2), plC (ai 1) (gA 3)], Ze0.reqs ++ [usB 288 (gA 2) z0 z0], [],
 .one (.int .i64 Zdk), [csC (ai 0) (ai 1) (usG 287 (gA 2) (gA 3) (ai 4)), plC (ai 1) (usG 284 (gA 2) (gA 3) (ai 4))], []⟩
def ZSv : Cx := { specs := pinS, anns := [(26, [(3, .ghost Zln [.tmp 5]), (500003, .ghost ZuG [.tmp 5]), (999999, .ghost Znv [.tmp 0])])] }
def ZSL : VC := i (l (v 206 (g 3)) k2) (i (l (v 211 (g 3)) k0) (i (l (.f1 30 (o 209 (g 3))) k1) (i (l (v 205 (g 3)) k2) (i (l (v 258 (g 2)) k2) (i (l (v 259 (g 2)) k2) (i (l (v 260 (g 2)) k2) (i (p 288 (g 2)) (u 5 .int (u 6 .int (u 7 .rows (u 8 .amap (u 9 .int (i (y 251 (m 8) (r 7) (h 283 (g 2) (g 3) (a 4))) (i (p 268 (h 283 (g 2) (g 3) (a 4))) (i (c 246 (a 6) (o 242 (r 7))) (i (.f2 50 (.f1 2 (e (x 285 (g 2) (g 3) (a 4)) z)) (e (a 9) (.f3 112 (r 7) (.f2 40 (.f1 32 (r 7)) (k (- (0 + 1)))) z))) (.and (i (e (x 285 (g 2) (g 3) (a 4)) z) (n (t (d 250 (r 7) (a 9)) (.f1 32 (r 7))) (i (l (.f1 31 (wB 253 (h 283 (g 2) (g 3) (a 4)) (d 250 (r 7) (a 9)))) (.f3 112 (r 7) (d 250 (r 7) (a 9)) (k 2))) (i (.f2 50 (l z (.f3 112 (r 7) (d 250 (r 7) (a 9)) (k 1))) (e (.f1 31 (wB 253 (h 283 (g 2) (g 3) (a 4)) (d 250 (r 7) (a 9)))) z)) (n (.f1 23 (.f2 40 (d 255 (h 283 (g 2) (g 3) (a 4)) (d 250 (r 7) (a 9))) (k 1))) (n (l z (d 250 (r 7) (a 9))) (n (e (d 252 (h 283 (g 2) (g 3) (a 4)) (d 250 (r 7) (a 9))) (d 252 (h 283 (g 2) (g 3) (a 4)) (d 250 (r 7) (a 9)))) (n (l (.f1 31 (wB 253 (h 283 (g 2) (g 3) (a 4)) (d 250 (r 7) (a 9)))) (.f1 31 (wB 253 (h 283 (g 2) (g 3) (a 4)) (d 250 (r 7) (a 9))))) (n (.f2 155 (o 242 (r 7)) (o 242 (hR 269 (r 7) (d 250 (r 7) (a 9)) (.f2 122 (a 9) (.f2 122 (.f3 112 (r 7) (d 250 (r 7) (a 9)) (k 1)) (.f2 122 (.f3 112 (r 7) (d 250 (r 7) (a 9)) (k 2)) (.f1 152 z))))))) (n (y 251 (m 8) (hR 269 (r 7) (d 250 (r 7) (a 9)) (.f2 122 (a 9) (.f2 122 (.f3 112 (r 7) (d 250 (r 7) (a 9)) (k 1)) (.f2 122 (.f3 112 (r 7) (d 250 (r 7) (a 9)) (k 2)) (.f1 152 z))))) (.us .g 266 (h 283 (g 2) (g 3) (a 4)) (d 250 (r 7) (a 9)) (.f2 114 (wB 253 (h 283 (g 2) (g 3) (a 4)) (d 250 (r 7) (a 9))) (.f1 31 (wB 253 (h 283 (g 2) (g 3) (a 4)) (d 250 (r 7) (a 9))))) (.f2 122 (.f1 3 (c 254 (h 283 (g 2) (g 3) (a 4)) (d 250 (r 7) (a 9)))) (.f2 122 (.f2 40 (d 255 (h 283 (g 2) (g 3) (a 4)) (d 250 (r 7) (a 9))) (k 1)) (.f1 152 z))))) (n (p 268 (.us .g 267 (.us .g 266 (h 283 (g 2) (g 3) (a 4)) (d 250 (r 7) (a 9)) (.f2 114 (wB 253 (h 283 (g 2) (g 3) (a 4)) (d 250 (r 7) (a 9))) (.f1 31 (wB 253 (h 283 (g 2) (g 3) (a 4)) (d 250 (r 7) (a 9))))) (.f2 122 (.f1 3 (c 254 (h 283 (g 2) (g 3) (a 4)) (d 250 (r 7) (a 9)))) (.f2 122 (.f2 40 (d 255 (h 283 (g 2) (g 3) (a 4)) (d 250 (r 7) (a 9))) (k 1)) (.f1 152 z)))) (v 258 (h 283 (g 2) (g 3) (a 4))) (v 259 (h 283 (g 2) (g 3) (a 4))) (v 260 (h 283 (g 2) (g 3) (a 4))))) (n (e (v 257 (.us .g 266 (h 283 (g 2) (g 3) (a 4)) (d 250 (r 7) (a 9)) (.f2 114 (wB 253 (h 283 (g 2) (g 3) (a 4)) (d 250 (r 7) (a 9))) (.f1 31 (wB 253 (h 283 (g 2) (g 3) (a 4)) (d 250 (r 7) (a 9))))) (.f2 122 (.f1 3 (c 254 (h 283 (g 2) (g 3) (a 4)) (d 250 (r 7) (a 9)))) (.f2 122 (.f2 40 (d 255 (h 283 (g 2) (g 3) (a 4)) (d 250 (r 7) (a 9))) (k 1)) (.f1 152 z))))) (v 257 (h 283 (g 2) (g 3) (a 4)))) (n (.f2 155 (h 287 (g 2) (g 3) (a 4)) (.us .g 267 (.us .g 266 (h 283 (g 2) (g 3) (a 4)) (d 250 (r 7) (a 9)) (.f2 114 (wB 253 (h 283 (g 2) (g 3) (a 4)) (d 250 (r 7) (a 9))) (.f1 31 (wB 253 (h 283 (g 2) (g 3) (a 4)) (d 250 (r 7) (a 9))))) (.f2 122 (.f1 3 (c 254 (h 283 (g 2) (g 3) (a 4)) (d 250 (r 7) (a 9)))) (.f2 122 (.f2 40 (d 255 (h 283 (g 2) (g 3) (a 4)) (d 250 (r 7) (a 9))) (k 1)) (.f1 152 z)))) (v 258 (h 283 (g 2) (g 3) (a 4))) (v 259 (h 283 (g 2) (g 3) (a 4))) (v 260 (h 283 (g 2) (g 3) (a 4))))) .tt))))))))))))) (i (.f1 2 (e (x 285 (g 2) (g 3) (a 4)) z)) (n (.f2 155 (o 242 (r 7)) (o 242 (r 7))) (n (p 268 (.us .g 267 (h 283 (g 2) (g 3) (a 4)) (v 258 (h 283 (g 2) (g 3) (a 4))) (v 259 (h 283 (g 2) (g 3) (a 4))) (v 260 (h 283 (g 2) (g 3) (a 4))))) (n (.f2 155 (h 287 (g 2) (g 3) (a 4)) (.us .g 267 (h 283 (g 2) (g 3) (a 4)) (v 258 (h 283 (g 2) (g 3) (a 4))) (v 259 (h 283 (g 2) (g 3) (a 4))) (v 260 (h 283 (g 2) (g 3) (a 4))))) .tt)))))))))))))))))))))
theorem ZRK : Yk Tryz.prog ZSv 12 26 ZxF = ZSL := by kernel_rfl
theorem ZCV {S : Sig GG} (hS : CsSig S) : YK S Tryz.prog pinS := ⟨Zc (by decide) (ZEn S hS), Zfa hS⟩
theorem ZL4 (c : Cs) (d : Dv) : c.roomC d = c \/ c.roomC d = c.evict := by
 unfold Cs.roomC
 by_cases h1 : (c.fr.length : Int) < c.frames \/ c.fr.length <= c.old
 ·exact .inl (if_pos h1)
 ·rw [if_neg h1]
  by_cases h2 : c.oldF.dirty = true /\ d.wrE c.oldF.n c.oldF.b ≠ 0
  ·exact .inl (if_pos h2)
  ·exact .inr (if_neg h2)
theorem ZsD {c : Cs} {d : Dv} : ∀ f ∈ (c.roomC d).fr, f ∈ c.fr := by
 intro f hf
 rcases ZL4 c d with h | h
 ·rwa [h] at hf
 ·rw [h] at hf; exact ZkM f hf
theorem ZkA {c : Cs} {d : Dv} {n : Int} : ∀ f ∈ (c.holdC d n).fr, f.pins = 0 \/ f ∈ c.fr := by
 intro f hf
 unfold Cs.holdC at hf
 by_cases h1 : c.hit n
 ·rw [if_pos h1] at hf
  have hf : f ∈ c.fr.take (c.idx n) ++ c.fr.drop (c.idx n + 1) ++ [c.at' (c.idx n : Nat)] := hf
  rcases List.mem_append.1 hf with hf | hf
  ·rcases List.mem_append.1 hf with hf | hf
   ·exact .inr (List.mem_of_mem_take hf)
   ·exact .inr (List.mem_of_mem_drop hf)
  ·rw [List.mem_singleton.1 hf]; exact .inr (Y2 h1)
 ·rw [if_neg h1] at hf
  by_cases h2 : c.stuck \/ d.ref n ≠ 0
  ·rw [if_pos h2] at hf; exact .inr hf
  ·rw [if_neg h2] at hf
   by_cases h3 : c.roomE (d.rdD n) ≠ 0
   ·rw [if_pos h3] at hf; exact .inr (ZsD f hf)
   ·rw [if_neg h3] at hf
    have hf : f ∈ (c.roomC (d.rdD n)).fr ++ [_] := hf
    rcases List.mem_append.1 hf with hf | hf
    ·exact .inr (ZsD f hf)
    ·rw [List.mem_singleton.1 hf]; exact .inl rfl
theorem ZTd (S : Sig GG) (hS : CsSig S) : Zs S Tryz.prog 26 ZxF := by
 refine Zd S (C := ZSv) (fuel := 12) (Zx (ZCV hS) ⟨⟨⟨by decide, ZbE S hS⟩, ⟨by decide, ZEA S hS⟩, ⟨by decide, Zb9 S hS⟩, trivial⟩, trivial⟩ trivial) fun ρ => ?_
 rw [ZRK]
 simp only [ZSL, Zbf, Zr, Zq, VC.den, SX.den, ZN, Env.upd, ZS, Zao, Z3, Z2, ZB, ZI, ZJ, ZH, beq_iff_eq, Bool.not_eq_true', beq_eq_false_iff_ne, ne_eq, Bool.not_not, U.tMi, Int.toNat_zero, Nat.reduceEqDiff, reduceIte, Zf, ZK, ZG, U.int.injEq, scs hS, sdv hS.dv, srg hS.rg, sB]
 generalize Zn (U.co S .g (ρ 2)) = c
 generalize Zk (U.co S .g (ρ 3)) = d
 generalize (ρ 4).tI = n
 intro q1 q2 q3 q4 q5 q6 q7 hpb hm H R m l hh hg hnd hor
 refine ⟨fun he => ?_, fun he => ?_⟩
 ·have h0 : 0 < R.length := by rw [hh.1]; exact Zet he
  obtain ⟨k1, k2⟩ := Zew hnd h0 (hor.resolve_left (fun h => h he))
  have hlen := hh.1
  simp only [k1, ZEr, ZiN, ZUq, List.take_length]
  have hj : R.length - 1 < (c.holdC d n).fr.length := by omega
  have hat := Y2 hj
  have hpn := hg.pins _ hat
  have hpp : ((c.holdC d n).at' ((R.length - 1 : Nat) : Int)).pins <= 4611686018427387904 := by
   rcases ZkA _ hat with h | h
   ·omega
   ·exact hpb _ h
  have e1 : c.pinC d n = (c.holdC d n).pinAt ((R.length - 1 : Nat) : Int) 1 := by
   unfold Cs.pinC
   rw [if_pos he, show (((c.holdC d n).fr.length : Nat) : Int) + -1 = ((R.length - 1 : Nat) : Int) by omega]
  simp only [e1]
  refine ⟨by omega, fun _ _ => ⟨by omega, by omega, trivial, ZUu _, (ZfN (show R.length - 1 < R.length by omega) k2).symm, Zf6 hh hj rfl k2, hg.put hj rfl (show 0 <= ((c.holdC d n).at' ((R.length - 1 : Nat) : Int)).pins + 1 by omega) (show ((c.holdC d n).at' ((R.length - 1 : Nat) : Int)).b.length <= 65536 from hg.b _ hat), rfl, by first | trivial | rfl, trivial⟩⟩
 ·have e1 : c.pinC d n = c.holdC d n := if_neg he
  simp only [e1]
  exact ⟨by first | trivial | rfl, hg, by first | trivial | rfl, trivial⟩
def Zn2 : Ctr := ⟨[.int, .g], [.one (.ptr (ai 0) 0)], [plC (ai 0) (gA 1)], [], [], .one (.int .i64 (usI 200 (gA 1) z0 z0)), [plC (ai 0) (gA 1)], []⟩
def ZIi : Cx := { specs := [], anns := [(38, [(0, .ghost Zob [.tmp 0]), (999999, .ghost (ZeE [] [] (gA 1)) [.tmp 0])])] }
def putS : List (Nat × List Ctr) := (41, [Zi5]) :: (43, [Zsq]) :: (38, [Zn2]) :: (37, [Zpz]) :: Znc
def putB : SX := tkB (bA 8) (ai 6)
def putG (k : Nat) : SX := Go.Eng.SX.us .g k (gA 2) (gA 3) (ai 4) putB
def Zrj : Ctr := ⟨[.int, .int, .g, .g, .int, .int, .int, .int, .bytes], [.one (.ptr (ai 0) 0), .one (.int .i64 (ai 4)), .one (sl1 (ai 5) (ai 6) (ai 7))], [csC (ai 0) (ai 1) (gA 2), plC (ai 1) (gA 3), bAr (ai 5) (bA 8) (ai 7)],
 dvQ (gA 3) ++ [eLe (usI 260 (gA 2) z0 z0) Zau, eLe z0 (ai 6), eLe (ai 6) (ZP (bA 8)), eLe (ai 6) (ai 7), .f2 50 (eLe z0 (ai 5)) (.f2 45 (ai 6) z0)], [],
 .one (.int .i64 (Go.Eng.SX.us .int 301 (gA 2) (gA 3) (ai 4) putB)), [csC (ai 0) (ai 1) (putG 299), plC (ai 1) (putG 300), bAr (ai 5) (bA 8) (ai 7)], []⟩
def ZPy : Cx := { specs := putS, anns := [(12, [(0, .ghost ZM2 []), (0, .ghost ZUc []), (1, .ghost Zdo [.tmp 0]), (1, .ghost Zol []), (500008, .ghost ZOz [.tmp 7]), (9, .ghost Znv [.tmp 0]), (11, .ghost Zdo [.tmp 0]), (12, .ghost Zdo [.tmp 0]), (12, .ghost Zol []), (12, .ghost Ztn []), (13, .ghost Zln [.tmp 7]), (500013, .ghost ZuG [.tmp 7]), (999999, .ghost Znv [.tmp 0])])] }
def ZIH : VC := u 2 .int (u 3 .int (u 4 .int (u 5 .int (u 6 .int (u 7 .int (u 8 .int (u 9 .int (u 10 .int (u 11 .rows (u 12 .amap (u 13 .ints (i (l z (a 5)) (i (l (a 5) (.f1 32 (r 11))) (i (e (a 5) (v 211 (g 1))) (i (l (a 5) (a 6)) (i (l z (a 9)) (i (l (a 9) (.f1 30 (s 13))) (i (.f2 153 (.f2 113 (s 13) (a 9)) (o 209 (g 1))) (i (c 214 (m 12) (g 1)) (i (p 215 (g 1)) (i (l (.f1 31 (j 208 (g 1))) (a 3)) (i (l z (a 2)) (i (p 237 (m 12)) (n (.f2 155 (.f2 115 (r 11) (a 5)) (.f2 115 (r 11) (a 5))) (n (c 216 (g 1) (g 1)) .tt)))))))))))))))))))))))))
theorem ZOo : Yk Tryz.prog ZIi 12 38 Zn2 = ZIH := by kernel_rfl
def ZFc : SX := v 260 (g 2)
def ZE4 : SX := e (a 6) z
def Zht : SX := w 234 (g 3)
def ZnY : SX := o 242 (r 11)
def ZLN : SX := v 210 Zht
def ZBZ : SX := .f2 155 ZnY ZnY
def ZLB : SX := v 258 (g 2)
def ZI8 : SX := v 259 (g 2)
def Zo7 : SX := .us .g 267 (g 2) ZLB ZI8 ZFc
def ZyL : SX := p 268 Zo7
def Ziw : SX := .f2 114 (b 8) (a 6)
def ZDO : SX := .us .g 300 (g 2) (g 3) (a 4) Ziw
def ZlS : SX := .f2 155 ZDO Zht
def Znj : SX := .us .g 299 (g 2) (g 3) (a 4) Ziw
def Zsb : SX := .f2 155 Znj Zo7
def Zmj : SX := .us .int 301 (g 2) (g 3) (a 4) Ziw
def ZuO : SX := e Zmj (k 30)
def ZAA : SX := e (a 6) (v 200 Zht)
def Zyc : SX := .f2 141 (m 12) (a 4)
def ZhJ : SX := .f3 140 (k (- (0 + 1))) (m 12) (a 4)
def Zq8 : SX := d 250 (r 11) ZhJ
def Zh4 : SX := wR 270 (r 11) Zq8
def Zdc : SX := d 250 Zh4 ZhJ
def ZmL : SX := f 263 (g 2) Zq8
def ZvL : SX := .f1 31 (wB 253 ZmL Zdc)
def ZDe : SX := l (a 6) k0
def ZAQ : SX := .f2 114 (b 16) (a 6)
def ZDr : SX := d 252 ZmL Zdc
def ZEw : SX := hR 269 Zh4 Zdc (.f2 122 ZhJ (.f2 122 (a 15) (.f2 122 (a 17) (.f1 152 z))))
def Zr5 : SX := .us .g 266 ZmL Zdc ZAQ (.f2 122 (k 1) (.f2 122 (d 255 ZmL Zdc) (.f1 152 z)))
def Zv4 : SX := .us .g 267 Zr5 ZLB ZI8 ZFc
def Zue : SX := e Zmj z
def ZwS : SX := d 282 Zo7 Zht
def ZCT : SX := e ZwS z
def ZcG : SX := f 280 Zo7 Zht
def Zzu : SX := y 251 (m 16) (r 15) ZcG
def ZDP : SX := p 268 ZcG
def ZsA : SX := v 256 ZcG
def ZxI : SX := e (.f1 32 (r 15)) ZsA
def Zvo : SX := l z (a 13)
def Zlj : SX := o 242 (r 15)
def ZDF : SX := .f2 155 Zlj Zlj
def ZA7 : SX := .us .g 267 ZcG (v 258 ZcG) (v 259 ZcG) (v 260 ZcG)
def ZCn : SX := .f2 155 ZDO (f 281 Zo7 Zht)
def ZcA : SX := h 265 ZcG (a 4) (.f1 153 z)
def ZuQ : SX := o 242 (r 18)
def Zdg : SX := d 250 (r 18) (a 17)
def ZAb : SX := .f1 31 (wB 253 ZcA Zdg)
def ZDI : SX := .f2 114 (b 21) (a 6)
def ZA2 : SX := d 252 ZcA Zdg
def Zzg : SX := hR 269 (r 18) Zdg (.f2 122 (a 17) (.f2 122 (a 20) (.f2 122 (a 22) (.f1 152 z))))
def ZrF : SX := .us .g 266 ZcA Zdg ZDI (.f2 122 (k 1) (.f2 122 (d 255 ZcA Zdg) (.f1 152 z)))
def ZtZ : SX := .us .g 267 ZrF (v 258 ZcA) (v 259 ZcA) (v 260 ZcA)
def ZQP : VC := i (l (v 206 (g 3)) k2) (i (l (v 211 (g 3)) k0) (i (l (.f1 30 (o 209 (g 3))) k1) (i (l ZFc k2) (i (l z (a 6)) (i (l (a 6) (.f1 31 (b 8))) (i (l (a 6) (a 7)) (i (.f2 50 (l z (a 5)) ZE4) (i (p 215 Zht) (u 9 .int (u 10 .int (u 11 .rows (u 12 .amap (i (y 251 (m 12) (r 11) (g 2)) (i (p 268 (g 2)) (i (e (.f1 32 (r 11)) (v 256 (g 2))) (i (l z (a 9)) (i (c 246 (a 10) ZnY) (i (c 249 (a 10) ZnY) (.and (i (l z (a 4)) (.and (i (l ZLN (a 4)) (n ZBZ (n ZyL (n ZlS (n Zsb (n ZuO .tt)))))) (i (t (a 4) ZLN) (.and (i (.f1 2 ZAA) (n ZBZ (n ZyL (n ZlS (n Zsb (n (e Zmj (k 31)) .tt)))))) (i ZAA (.and (i Zyc (n (c 241 ZnY ZhJ) (u 13 .int (u 14 .int (n (t Zq8 (.f1 32 (r 11))) (n (t Zdc (.f1 32 Zh4)) (i (l ZvL (.f3 112 Zh4 Zdc (k 2))) (i (.f2 50 (l z (.f3 112 Zh4 Zdc (k 1))) (e ZvL z)) (n ZDe (u 15 .int (u 16 .bytes (u 17 .int (i (.f2 155 ZAQ Ziw) (i (e (.f1 31 (b 16)) (a 6)) (i (l (a 6) (a 17)) (i (.f2 50 (l z (a 15)) ZE4) (n (l z Zdc) (n (e ZDr ZDr) (n (l (a 6) (.f1 31 (b 16))) (n (.f2 155 (wN 243 (wN 240 ZnY ZhJ) ZhJ) (o 242 ZEw)) (n (y 251 (m 12) ZEw Zr5) (n (p 268 Zv4) (n (e (v 257 Zr5) (v 257 (g 2))) (n ZlS (n (.f2 155 Znj Zv4) (n Zue .tt)))))))))))))))))))))))))) (i (.f1 2 Zyc) (n ZBZ (n ZyL (n (l (v 206 Zht) k2) (n (l (v 211 Zht) k0) (n (l (.f1 30 (o 209 Zht)) k1) (n (l (v 260 Zo7) k2) (.and (i (.f1 2 ZCT) (u 13 .int (u 14 .int (u 15 .rows (u 16 .amap (i Zzu (i ZDP (i ZxI (i Zvo (n ZDF (n (p 268 ZA7) (n ZCn (n (.f2 155 Znj ZA7) (n (e Zmj ZwS) .tt)))))))))))))) (i ZCT (u 13 .int (u 14 .int (u 15 .rows (u 16 .amap (i Zzu (i ZDP (i ZxI (i Zvo (i (c 246 (a 14) Zlj) (i (c 249 (a 14) Zlj) (n ZDF (n (l ZsA (d 262 ZcG (a 4))) (n (t ZsA (v 257 ZcG)) (u 17 .int (u 18 .rows (u 19 .amap (i (y 251 (m 19) (r 18) ZcA) (i (p 268 ZcA) (i (e (.f1 32 (r 18)) (.f2 40 (.f1 32 (r 15)) (k 1))) (i (e (.f3 112 (r 18) (.f1 32 (r 15)) z) (a 17)) (i (c 246 (a 14) ZuQ) (n (t Zdg (.f1 32 (r 18))) (i (l ZAb (.f3 112 (r 18) Zdg (k 2))) (i (.f2 50 (l z (.f3 112 (r 18) Zdg (k 1))) (e ZAb z)) (n ZDe (u 20 .int (u 21 .bytes (u 22 .int (i (.f2 155 ZDI Ziw) (i (e (.f1 31 (b 21)) (a 6)) (i (l (a 6) (a 22)) (i (.f2 50 (l z (a 20)) ZE4) (n (l z Zdg) (n (e ZA2 ZA2) (n (l (a 6) (.f1 31 (b 21))) (n (.f2 155 ZuQ (o 242 Zzg)) (n (y 251 (m 19) Zzg ZrF) (n (p 268 ZtZ) (n (e (v 257 ZrF) (v 257 ZcA)) (n ZCn (n (.f2 155 Znj ZtZ) (n Zue .tt))))))))))))))))))))))))))))))))))))))))))))))))))))))))) (i (t (a 4) z) (n ZBZ (n ZyL (n ZlS (n Zsb (n ZuO .tt)))))))))))))))))))))))))
theorem ZRp : Yk Tryz.prog ZPy 12 12 Zrj = ZQP := by kernel_rfl
theorem ZLW (S : Sig GG) (hS : DvSig S) : Zs S Tryz.prog 38 Zn2 := by
 refine Zd S (C := ZIi) (fuel := 12) (Zx trivial ⟨⟨⟨by decide, ZcI S hS⟩, ⟨by decide, Y9 S hS _ _ _⟩, trivial⟩, trivial⟩ trivial) fun ρ => ?_
 rw [ZOo]
 simp only [ZIH, Zbf, Zr, hS.u200, hS.u201, hS.u202, hS.u203, hS.u204, hS.u205, hS.u206, hS.u207, hS.u208, hS.u209, hS.u210, hS.u211, hS.u214, hS.u215, hS.u216, hS.u237, VC.den, SX.den, Zi, Zv, Zu, ZQ, Zt, ZN, Env.upd, ZfH, ZON, p45, p46, p47, U.tPi, U.tQi, Zf]
 intro i2 i3 i4 i5 i6 i7 i8 i9 i10 R11 M12 I13 h1 h2 h3 h4 h5 h6 h7 h8 hg h9 h10 h11
 exact ⟨trivial, trivial, trivial⟩
theorem ZzP {S : Sig GG} (hS : CsSig S) : YK S Tryz.prog putS := ⟨Zc (by decide) (Zuz S hS), Zc (by decide) (ZIu S), Zc (by decide) (ZLW S hS.dv), Zc (by decide) (ZIZ S hS.dv), ZbT hS⟩
theorem Zra {c : Cs} {i : Int} {b : List UInt8} {p : Int} : c.putF i b (ap2 122 (U.int 1) (ap2 122 (U.int p) (U.ints [])) : U GG).tN = c.put i ⟨(c.at' i).n, b, true, p⟩ := rfl
theorem Zv2 {c : Cs} {f g : Fr} : (c.add f).put (c.fr.length : Nat) g = c.add g := by
 unfold Cs.put Cs.add
 simp
theorem put_ok (S : Sig GG) (hS : CsSig S) : Zs S Tryz.prog 12 Zrj := by
 refine Zd S (C := ZPy) (fuel := 12) (Zx (ZzP hS) ⟨⟨⟨by decide, ZsC S hS⟩, ⟨by decide, ZIb S hS⟩, ⟨by decide, Zba S hS⟩, ⟨by decide, Zca S hS.rg⟩, ⟨by decide, ZIB S hS⟩, ⟨by decide, Zb9 S hS⟩, ⟨by decide, Zba S hS⟩, ⟨by decide, Zba S hS⟩, ⟨by decide, Zca S hS.rg⟩, ⟨by decide, Zcx S⟩, ⟨by decide, ZbE S hS⟩, ⟨by decide, ZEA S hS⟩, ⟨by decide, Zb9 S hS⟩, trivial⟩, trivial⟩ trivial) fun ρ => ?_
 rw [ZRp]
 simp only [ZQP, ZFc, ZE4, Zht, ZnY, ZLN, ZBZ, ZLB, ZI8, Zo7, ZyL, Ziw, ZDO, ZlS, Znj, Zsb, Zmj, ZuO, ZAA, Zyc, ZhJ, Zq8, Zh4, Zdc, ZmL, ZvL, ZDe, ZAQ, ZDr, ZEw, Zr5, Zv4, Zue, ZwS, ZCT, ZcG, Zzu, ZDP, ZsA, ZxI, Zvo, Zlj, ZDF, ZA7, ZCn, ZcA, ZuQ, Zdg, ZAb, ZDI, ZA2, Zzg, ZrF, ZtZ, Zbf, Zr, Zq, VC.den, SX.den, ZN, Env.upd, ZS, Zao, Z3, Z2, ZB, ZI, ZJ, ZH, beq_iff_eq, Bool.not_eq_true', beq_eq_false_iff_ne, ne_eq, Bool.not_not, U.tMi, Int.toNat_zero, Nat.reduceEqDiff, reduceIte, Zf, ZK, ZG, U.int.injEq, scs hS, sdv hS.dv, srg hS.rg, sB]
 generalize Zn (U.co S .g (ρ 2)) = c
 generalize Zk (U.co S .g (ρ 3)) = d
 generalize (ρ 4).tI = n
 generalize hL : (ρ 6).tI = L
 generalize hB0 : (ρ 8).tB = B0
 intro q1 q2 q3 q4 r1 r2 r3 r4 hgd hm H R m hh hg hlen hpos hnd hp
 have hhas := hh.has n
 have hBl : ((B0.take L.toNat).length : Int) = L := by rw [ZUl]; omega
 have hpb := Yv hgd
 generalize hB : B0.take L.toNat = B at *
 refine ⟨fun hn0 => ⟨fun hn1 => ?_, fun hn1 => ⟨fun hsz => ?_, fun hsz => ⟨fun hit => ?_, fun nohit => ?_⟩⟩⟩, fun hn0 => ?_⟩
 ·have hbad : Cs.bad d n B := .inr (.inl hn1)
  have e1 : c.putC d n B = c := if_pos hbad
  have e2 : c.putD d n B = d := if_pos (.inl hbad)
  have e3 : c.putE d n B = 30 := if_pos (.inr hn1)
  simp only [e1, e2, e3]
  exact ⟨trivial, hg, trivial, trivial, trivial, trivial⟩
 ·have hbad : Cs.bad d n B := .inr (.inr (by omega))
  have e1 : c.putC d n B = c := if_pos hbad
  have e2 : c.putD d n B = d := if_pos (.inl hbad)
  have e3 : c.putE d n B = 31 := by unfold Cs.putE; rw [if_neg (by omega), if_pos (by omega)]
  simp only [e1, e2, e3]
  exact ⟨trivial, hg, trivial, trivial, trivial, trivial⟩
 ·have hbad : ¬ Cs.bad d n B := by rintro (h | h | h) <;> omega
  have hj : c.idx n < c.fr.length := hhas.1 hit
  have e1 : c.putC d n B = c.hitP n B := by unfold Cs.putC; rw [if_neg hbad, if_pos (show c.hit n from hj)]
  have e2 : c.putD d n B = d := if_pos (.inr hj)
  have e3 : c.putE d n B = 0 := by unfold Cs.putE; rw [if_neg (by omega), if_neg (by omega), if_pos (show c.hit n from hj)]
  have hlen' := hh.1
  have hl : Y5 (-(0 + 1)) m n = g0 (R.getD (c.idx n) []) := by have := hh.get (d := -(0 + 1)) hj; rwa [Cs.idx_n hj] at this
  have hr : Zcc (Y5 (-(0 + 1)) m n) R = c.idx n := by
   rw [hl, Zah, <- Zac R _ (by omega)]; exact Zab (List.nodup_cons.1 hnd).2 (by rw [ZUt]; omega)
  have hrot : (Zty R (c.idx n : Nat)).map g0 = (R.map g0).erase (Y5 (-(0 + 1)) m n) ++ [Y5 (-(0 + 1)) m n] := by
   rw [Zd4, hr, hl]
   show (ZjM R _ ++ [_]).map g0 = _
   rw [ZUz]; rfl
  have hmem : Y5 (-(0 + 1)) m n ∈ R.map g0 := ZjH (by rw [hr]; omega)
  have hnd2 : (H :: (Zty R (c.idx n : Nat)).map g0).Nodup := by
   rw [hrot]
   exact (((List.perm_cons_erase hmem).trans (List.perm_append_comm (l₁ := [_]))).cons H).nodup_iff.1 hnd
  have hgt : GoodC (c.touch (c.idx n : Nat)) := by have h := hg.hit hj (hh.rot hj).2.1; exact ⟨h.frames, h.len, h.nod, h.pins, hg.cnt, h.b⟩
  have hht : ZX m (Zty R (c.idx n : Nat)) (c.touch (c.idx n : Nat)).fr := hh.rot hj
  have hgl : (c.gone (c.idx n : Nat)).fr.length + 1 = c.fr.length := by
   show (c.fr.take (c.idx n) ++ c.fr.drop (c.idx n + 1)).length + 1 = _
   rw [ZUo, ZUl, ZUx]; omega
  have hK : (c.gone (c.idx n : Nat)).fr.length < (c.touch (c.idx n : Nat)).fr.length := by
   show _ < ((c.gone (c.idx n : Nat)).fr ++ [_]).length
   rw [ZUo]; exact Nat.lt_succ_self _
  have hRl : (Zty R (c.idx n : Nat)).length = R.length := by
   have := hht.1
   rw [this]; show ((c.gone (c.idx n : Nat)).fr ++ [_]).length = _
   rw [ZUo]; show _ + 1 = _; omega
  obtain ⟨k1, k2⟩ := Zew hnd2 (by omega) (hl.trans (congrArg g0 (ZqJ (R := R) (show c.idx n < R.length by omega)).symm))
  have hKR : (Zty R (c.idx n : Nat)).length - 1 = (c.gone (c.idx n : Nat)).fr.length := by omega
  rw [hKR] at k1 k2
  have hat : (c.touch (c.idx n : Nat)).at' ((c.gone (c.idx n : Nat)).fr.length : Nat) = c.at' (c.idx n : Nat) := by
   show ((c.gone (c.idx n : Nat)).fr ++ [_]).getD _ fr0 = _
   rw [ZUq, ZUj, ZUC (Nat.le_refl _), Nat.sub_self]; rfl
  simp only [hr, k1, Zra, ZiN, hat, e1, e2, e3]
  refine ⟨hmem, fun _ _ => ⟨by omega, by omega, fun _ _ => ⟨by omega, fun b X cp x1 x2 x3 x4 => ?_⟩⟩⟩
  rw [x1]
  have hcp : (c.touch (c.idx n : Nat)).put ((c.gone (c.idx n : Nat)).fr.length : Nat) ⟨(c.at' (c.idx n : Nat)).n, B, true, (c.at' (c.idx n : Nat)).pins⟩ = c.hitP n B := Zv2
  rw [<- hcp]
  exact ⟨by omega, trivial, by omega, hrot.symm.trans (ZfN (show (c.gone (c.idx n : Nat)).fr.length < _ by omega) k2).symm, Zf6 hht hK (by rw [hat]) k2, hgt.put hK (by rw [hat]) (show 0 <= (c.at' (c.idx n : Nat)).pins from hg.pins _ (Y2 hj)) (show B.length <= 65536 by omega), rfl, trivial, by first | trivial | rfl, trivial, trivial⟩
 ·have hbad : ¬ Cs.bad d n B := by rintro (h | h | h) <;> omega
  have hno : ¬ c.hit n := fun h => by rw [hhas.2 h] at nohit; cases nohit
  have e2 : c.putD d n B = c.roomD d := if_neg (by rintro (h | h); exact hbad h; exact hno h)
  have e3 : c.putE d n B = c.roomE d := by unfold Cs.putE; rw [if_neg (by omega), if_neg (by omega), if_neg hno]
  refine ⟨trivial, hg, q1, q2, q3, q4, fun he => ?_, fun he => ?_⟩
  ·have e1 : c.putC d n B = c.roomC d := by unfold Cs.putC; rw [if_neg hbad, if_neg hno, if_pos he]
   intro hm' H' R' m' hh' hg' hl' hp'
   simp only [e1, e2, e3]
   exact ⟨trivial, hg', trivial, trivial, trivial, trivial⟩
  ·have e1 : c.putC d n B = (c.roomC d).add ⟨n, B, true, 0⟩ := by unfold Cs.putC; rw [if_neg hbad, if_neg hno, if_neg (fun h => h he)]
   obtain ⟨s1, s2, s3⟩ := ZdX hg hno he
   intro hm' H' R' m' hh' hg' hl' hp' hnd' hpp'
   refine ⟨trivial, s2, s3, fun l R2 m2 hh2 hg2 hl2 hnt hnd2 => ?_⟩
   have hl' : (R'.length : Int) = ((c.roomC d).fr.length : Nat) := hl'
   have hnt : l = g0 (R2.getD (((R2.length : Nat) : Int) + -1).toNat []) := by
    rw [show (((R2.length : Nat) : Int) + -1).toNat = ((R'.length : Nat) : Int).toNat by omega]; exact hnt.symm
   obtain ⟨k1, k2⟩ := Zew hnd2 (by omega) hnt
   have hRK : R2.length - 1 = (c.roomC d).fr.length := by omega
   rw [hRK] at k1 k2
   have hK : (c.roomC d).fr.length < ((c.roomC d).addF n []).fr.length := by
    show _ < ((c.roomC d).fr ++ [_]).length
    rw [ZUo]; exact Nat.lt_succ_self _
   have hat : ((c.roomC d).addF n []).at' ((c.roomC d).fr.length : Nat) = ⟨n, [], false, 0⟩ := by
    show ((c.roomC d).fr ++ [_]).getD _ fr0 = _
    rw [ZUq, ZUj, ZUC (Nat.le_refl _), Nat.sub_self]; rfl
   simp only [k1, Zra, ZiN, hat, e1, e2, e3]
   refine ⟨by omega, fun _ _ => ⟨by omega, fun b X cp x1 x2 x3 x4 => ?_⟩⟩
   rw [x1]
   have hcp : ((c.roomC d).addF n []).put ((c.roomC d).fr.length : Nat) ⟨n, B, true, 0⟩ = (c.roomC d).add ⟨n, B, true, 0⟩ := Zv2
   rw [<- hcp]
   exact ⟨by omega, trivial, by omega, (ZfN (show (c.roomC d).fr.length < R2.length by omega) k2).symm, Zf6 hh2 hK (by rw [hat]) k2, hg2.put hK (by rw [hat]) (ZUu _) (show B.length <= 65536 by omega), rfl, trivial, by first | trivial | rfl, he, trivial⟩
 ·have hbad : Cs.bad d n B := .inl hn0
  have e1 : c.putC d n B = c := if_pos hbad
  have e2 : c.putD d n B = d := if_pos (.inl hbad)
  have e3 : c.putE d n B = 30 := if_pos (.inl hn0)
  simp only [e1, e2, e3]
  exact ⟨trivial, hg, trivial, trivial, trivial, trivial⟩
def Zv7 : Ctr := ⟨[.int, .g], [.one (.ptr (ai 0) 0)], [plC (ai 0) (gA 1)], [], [.int, .bytes, .int], .one (sl1 (ai 2) (ZP (bA 3)) (ai 4)), [plC (ai 0) (gA 1), bAr (ai 2) (bA 3) (ai 4)],
 [eqS (bA 3) (usY 229 (gA 1) z0 z0), eLe (ZP (bA 3)) (ai 4)]⟩
def imgI (o m r lc : Nat) : Inv := ⟨[.amap, .ints, .bytes], [], [.itr .i64 (.int .i64) (ai 7) (mA m) (ai r) (mA 1000000) (iA 1000001), bAr (ai o) (bA 1000002) (ai lc)],
 [usB 235 (bA 1000002) (mA 1000000) (gA 1), usB 236 (mA 1000000) (mA m) z0, .f2 45 (ZP (bA 1000002)) (ZP (sfX (gA 1)))], .f1 33 (mA 1000000)⟩
def ZST : Cx := { specs := [(79, [Zry])], anns := [(68, [(1, .ghost Zob [.tmp 0]), (3, .inv (imgI 14 12 17 16)), (5, .ghost ZpZ [.tmp 5]), (500005, .ghost Zjh []), (6, .ghost (ZeE [] [] (gA 1)) [.tmp 0])])] }
def ZRV : VC := u 2 .int (u 3 .int (u 4 .int (u 5 .int (u 6 .int (u 7 .int (u 8 .int (u 9 .int (u 10 .int (u 11 .rows (u 12 .amap (u 13 .ints (i (l z (a 5)) (i (l (a 5) (.f1 32 (r 11))) (i (e (a 5) (v 211 (g 1))) (i (l (a 5) (a 6)) (i (l z (a 9)) (i (l (a 9) (.f1 30 (s 13))) (i (.f2 153 (.f2 113 (s 13) (a 9)) (o 209 (g 1))) (i (c 214 (m 12) (g 1)) (i (p 215 (g 1)) (i (l (.f1 31 (j 208 (g 1))) (a 3)) (i (l z (a 2)) (i (p 237 (m 12)) (n (l (.f1 31 (j 208 (g 1))) (.f1 31 (j 208 (g 1)))) (n (l (.f1 31 (j 208 (g 1))) k0) (n (.f2 50 (l z (a 2)) (e (.f1 31 (j 208 (g 1))) z)) (u 14 .int (u 15 .bytes (u 16 .int (i (.f2 155 (.f2 114 (b 15) (.f1 31 (j 208 (g 1)))) (.f2 114 (j 208 (g 1)) (.f1 31 (j 208 (g 1))))) (i (e (.f1 31 (b 15)) (.f1 31 (j 208 (g 1)))) (i (l (.f1 31 (j 208 (g 1))) (a 16)) (i (.f2 50 (l z (a 14)) (e (.f1 31 (j 208 (g 1))) z)) (u 17 .int (i (l z (a 17)) (n (y 235 (b 15) (m 12) (g 1)) (n (c 236 (m 12) (m 12)) (u 18 .amap (u 19 .ints (u 20 .bytes (i (y 235 (b 20) (m 18) (g 1)) (i (c 236 (m 18) (m 12)) (i (e (.f1 31 (b 20)) (.f1 31 (j 208 (g 1)))) (.and (i (e (.f1 33 (m 18)) z) (n (.f2 155 (.f2 115 (r 11) (a 5)) (.f2 115 (r 11) (a 5))) (n (c 216 (g 1) (g 1)) (n (.f2 155 (b 20) (j 229 (g 1))) (n (l (.f1 31 (b 20)) (a 16)) .tt))))) (u 21 .int (i (.f2 141 (m 18) (a 21)) (n (l z (.f3 140 z (m 12) (a 21))) (n (t (.f3 140 z (m 12) (a 21)) (a 5)) (u 22 .bytes (i (l z (.f3 112 (r 11) (.f3 140 z (m 12) (a 21)) (k 2))) (i (l (.f3 112 (r 11) (.f3 140 z (m 12) (a 21)) (k 2)) (.f1 31 (b 22))) (i (.f2 155 (.f2 114 (b 22) (.f3 112 (r 11) (.f3 140 z (m 12) (a 21)) (k 2))) (wB 212 (g 1) (.f3 140 z (m 12) (a 21)))) (i (e (.f3 112 (r 11) (.f3 140 z (m 12) (a 21)) z) (d 217 (g 1) (.f3 140 z (m 12) (a 21)))) (i (l (.f3 112 (r 11) (.f3 140 z (m 12) (a 21)) (k 2)) (.f3 112 (r 11) (.f3 140 z (m 12) (a 21)) (k 3))) (n (.f1 23 (.f2 42 (a 21) (v 200 (g 1)))) (n (l z (a 16)) (n (l z (.f2 42 (a 21) (v 200 (g 1)))) (n (l (.f2 42 (a 21) (v 200 (g 1))) (.f1 31 (j 208 (g 1)))) (n (t (.f3 140 z (m 12) (a 21)) (.f1 32 (r 11))) (n (l z (.f2 41 (.f1 31 (j 208 (g 1))) (.f2 42 (a 21) (v 200 (g 1))))) (n (l (.f2 41 (.f1 31 (j 208 (g 1))) (.f2 42 (a 21) (v 200 (g 1)))) (.f2 41 (a 16) (.f2 42 (a 21) (v 200 (g 1))))) (n (l (.f2 42 (a 21) (v 200 (g 1))) (.f1 31 (b 20))) (n (l (.f2 40 (.f2 42 (a 21) (v 200 (g 1))) (.f2 41 (.f1 31 (j 208 (g 1))) (.f2 42 (a 21) (v 200 (g 1))))) (a 16)) (n (t (.f1 33 (.f2 143 (m 18) (a 21))) (.f1 33 (m 18))) (n (y 235 (.f2 120 (.f2 114 (b 20) (.f2 42 (a 21) (v 200 (g 1)))) (.f2 120 (.f2 114 (.f2 114 (b 22) (.f3 112 (r 11) (.f3 140 z (m 12) (a 21)) (k 2))) (.f2 51 (.f3 112 (r 11) (.f3 140 z (m 12) (a 21)) (k 2)) (.f2 41 (.f1 31 (j 208 (g 1))) (.f2 42 (a 21) (v 200 (g 1)))))) (.f2 117 (b 20) (.f2 40 (.f2 42 (a 21) (v 200 (g 1))) (.f2 51 (.f3 112 (r 11) (.f3 140 z (m 12) (a 21)) (k 2)) (.f2 41 (.f1 31 (j 208 (g 1))) (.f2 42 (a 21) (v 200 (g 1))))))))) (.f2 143 (m 18) (a 21)) (g 1)) (n (c 236 (.f2 143 (m 18) (a 21)) (m 12)) (n (e (.f2 40 (.f1 31 (.f2 114 (b 20) (.f2 42 (a 21) (v 200 (g 1))))) (.f2 40 (.f1 31 (.f2 114 (.f2 114 (b 22) (.f3 112 (r 11) (.f3 140 z (m 12) (a 21)) (k 2))) (.f2 51 (.f3 112 (r 11) (.f3 140 z (m 12) (a 21)) (k 2)) (.f2 41 (.f1 31 (j 208 (g 1))) (.f2 42 (a 21) (v 200 (g 1))))))) (.f1 31 (.f2 117 (b 20) (.f2 40 (.f2 42 (a 21) (v 200 (g 1))) (.f2 51 (.f3 112 (r 11) (.f3 140 z (m 12) (a 21)) (k 2)) (.f2 41 (.f1 31 (j 208 (g 1))) (.f2 42 (a 21) (v 200 (g 1)))))))))) (.f1 31 (j 208 (g 1)))) .tt)))))))))))))))))))))))))))))))))))))))))))))))))))))))))))))))))))
theorem ZPz : Yk Tryz.prog ZST 12 68 Zv7 = ZRV := by kernel_rfl
theorem Zpo {m : List (Int × Int)} (h : m.length = 0) : m = [] := ZUy h
theorem sub_self {m : List (Int × Int)} (h : (m.map (·.1)).Nodup) : ZOA m m := ⟨h, fun _ h => ⟨h, rfl⟩⟩
theorem Zon {a m : List (Int × Int)} {k : Int} (h : ZOA a m) : ZOA (Zay a k) m := by
 refine ⟨Zs0 h.1, fun n hn => ?_⟩
 obtain ⟨h1, h2⟩ := (ZbU h.1).1 hn
 rw [ZE1 h2]; exact h.2 n h1
theorem Zmk {d : Dv} (hg : GoodD d) {m : List (Int × Int)} (hl : Zdi m d.w) (hm : ZEJ m) {X : List UInt8} (hX : X = d.safe) : ZtH d X m := by
 subst hX
 refine ⟨rfl, fun n n0 n1 => ?_⟩
 have hh := (Zec hl hm n).1
 by_cases h : Yl m n = true
 ·rw [if_pos h]; rfl
 ·rw [if_neg h]
  unfold Dv.read
  rw [if_neg (fun hn => h (hh.2 hn))]; rfl
theorem ZrZ {d : Dv} (hg : GoodD d) {m left : List (Int × Int)} (hs : ZOA left m) (hl : Zdi m d.w) (hm : ZEJ m) {X : List UInt8} {k : Int} (hX : ZtH d X left) (hk : Yl left k = true) :
  ZtH d (ZdV X (k * d.page).toNat (d.dat (d.last k))) (Zay left k) := by
 have hb := Yv hg
 have hla := Zec hl hm k
 have hk0 := hla.1.1 (hs.2 k hk).1
 have hd := ZaB hg hk0 (Zgj d k).2
 rw [ZpK hk0] at hd
 have hin := Yn hd.2.1 hd.2.2 (Int.le_of_lt hb.1)
 have hlen := hX.1
 refine ⟨by rw [Zek (by omega)]; exact hX.1, fun n n0 n1 => ?_⟩
 rw [ZgI hb.1 (K := d.pages) (by rw [hX.1]; exact hb.2.2.2.2.1) hd.1 hd.2.1 hd.2.2 n0 n1]
 by_cases e : n = k
 ·subst e
  rw [if_pos rfl, if_neg (fun h => ((ZbU hs.1).1 h).2 rfl)]
  unfold Dv.read
  rw [if_pos hk0]
 ·rw [if_neg e, hX.2 n n0 n1]
  by_cases h : Yl left n = true
  ·rw [if_pos h, if_pos ((ZbU hs.1).2 ⟨h, e⟩)]
  ·rw [if_neg h, if_neg (fun h2 => h ((ZbU hs.1).1 h2).1)]
theorem ZAF (S : Sig GG) (hS : DvSig S) : Zs S Tryz.prog 68 Zv7 := by
 refine Zd S (C := ZST) (fuel := 12) (Zx ⟨Zc (by decide) (ZHW S), trivial⟩ ⟨⟨⟨by decide, ZcI S hS⟩, trivial, ⟨by decide, Zfe S hS⟩, ⟨by decide, Zfd S hS⟩, ⟨by decide, Y9 S hS _ _ _⟩, trivial⟩, trivial⟩ trivial) fun ρ => ?_
 rw [ZPz]
 simp only [ZRV, Zbf, Zr, VC.den, SX.den, ZN, Env.upd, ZS, Zao, Z3, Z2, ZB, ZI, ZJ, ZeO, Zeb, ZH, beq_iff_eq, Bool.not_eq_true', beq_eq_false_iff_ne, ne_eq, Bool.not_not, U.tMi, Int.toNat_zero, Nat.reduceEqDiff, reduceIte, Zf, ZK, ZG, U.int.injEq, sdv hS, sB]
 generalize Zk (U.co S .g (ρ 1)) = d
 intro i2 i3 i4 i5 i6 i7 i8 i9 i10 R M Z h1 h2 h3 h4 h5 h6 h7 h8 hg h9 h10 h11
 have hb := Yv hg
 refine ⟨by omega, by omega, .inl h10, fun b X c q1 q2 q3 q4 r r0 => ?_⟩
 have hX : X = d.safe := by
  rw [ZUv (by omega), ZUv (by omega)] at q1; exact q1
 refine ⟨Zmk hg h8.1 h8.2 hX, sub_self h11, fun left cur Y y1 y2 y3 => ⟨fun hz => ?_, fun k hk => ?_⟩⟩
 ·have hz : left.length = 0 := by omega
  rw [Zpo hz] at y1
  exact ⟨trivial, trivial, ZrX hg y1, by omega, trivial⟩
 ·have hla := Zec h8.1 h8.2 k
  have hmk := (y2.2 k hk).1
  have hk0 := hla.1.1 hmk
  have hll := Zgj d k
  rw [hla.2 hmk]
  refine ⟨by omega, by omega, fun B q0 p1 p2 p3 p4 => ?_⟩
  have hd := ZaB hg hk0 hll.2
  rw [ZpK hk0] at hd
  have hin := Yn hd.2.1 hd.2.2 (Int.le_of_lt hb.1)
  have hL : ((R.getD (d.last k).toNat []).getD (Int.toNat 2) 0) = d.page := by
   rw [<- hd.1, <- p2, ZUl]; omega
  rw [hL] at p2 ⊢
  rw [p2, YF (x := d.page) (by omega)]
  have hst := ZrZ hg y2 h8.1 h8.2 y1 hk
  have hlay := ZlC (X := Y) (Y := d.dat (d.last k)) (p := k * d.page) (k := d.page) (c := d.page) rfl hin.1 (by omega) (by omega)
  rw [ZUv (l := d.dat (d.last k)) (by omega)] at hlay
  have hln := Zhr (X := Y) (Y := d.dat (d.last k)) (p := k * d.page) (k := d.page) (c := d.page) (m := d.safe.length) rfl hin.1 (by omega) (by omega) y3 (by omega)
  rw [ZUv (l := d.dat (d.last k)) (by omega)] at hln
  have hdl := ZjO hk
  rw [hlay]
  exact ⟨⟨by omega, by omega⟩, by omega, by omega, by omega, by omega, by omega, by omega, by omega, by omega, by omega, hst, Zon y2, hln, trivial⟩
def nilM : SX := .f1 155 z0
def stSV : SV := .agg [.int .i64 (usI 257 (gA 2) z0 z0), .int .i64 (usI 256 (gA 2) z0 z0), .int .i64 (usI 291 (gA 2) nilM z0), .int .i64 (usI 292 (gA 2) nilM z0), .int .i64 (usI 258 (gA 2) z0 z0), .int .i64 (usI 259 (gA 2) z0 z0), .int .i64 (usI 260 (gA 2) z0 z0)]
def ZFJ : Ctr := ⟨[.int, .int, .g], [.one (.ptr (ai 0) 0)], [csC (ai 0) (ai 1) (gA 2)], [], [], stSV, [csC (ai 0) (ai 1) (gA 2)], []⟩
def stI (hm m s r : Nat) : Inv := ⟨[.amap, .ints], [], [.itr .i64 .ptr (ai hm) (mA m) (ai r) (mA 1000000) (iA 1000001), .cel (ai s) 0 [.int .i64 (usI 257 (gA 2) z0 z0), .int .i64 (usI 256 (gA 2) z0 z0), .int .i64 (usI 291 (gA 2) (mA 1000000) z0), .int .i64 (usI 292 (gA 2) (mA 1000000) z0), .int .i64 (usI 258 (gA 2) z0 z0), .int .i64 (usI 259 (gA 2) z0 z0), .int .i64 (usI 260 (gA 2) z0 z0)]],
 [usB 236 (mA 1000000) (mA m) z0], .f1 33 (mA 1000000)⟩
def stCx : Cx := { specs := [], anns := [(16, [(1, .ghost Zdo [.tmp 0]), (1, .ghost Zol []), (4, .inv (stI 4 7 8 9)), (6, .ghost Zln [.tmp 5]), (500008, .ghost ZkV [.tmp 5]), (10, .ghost (ZkX (gA 2)) [.tmp 0])])] }
def stVc : VC := u 3 .int (i (l z (a 3)) (u 4 .int (u 5 .int (u 6 .rows (u 7 .amap (i (y 251 (m 7) (r 6) (g 2)) (i (p 268 (g 2)) (i (e (.f1 32 (r 6)) (v 256 (g 2))) (i (l z (a 4)) (i (c 246 (a 5) (o 242 (r 6))) (i (c 249 (a 5) (o 242 (r 6))) (u 8 .int (i (l z (a 8)) (u 9 .int (i (l z (a 9)) (n (c 236 (m 7) (m 7)) (n (e (d 292 (g 2) (m 7)) z) (n (e (d 291 (g 2) (m 7)) z) (n (e (v 256 (g 2)) (.f1 33 (m 7))) (u 10 .amap (u 11 .ints (i (c 236 (m 10) (m 7)) (.and (i (e (.f1 33 (m 10)) z) (n (.f2 155 (o 242 (r 6)) (o 242 (r 6))) (n (c 274 (g 2) (g 2)) (n (e (d 292 (g 2) (.f1 155 z)) (d 292 (g 2) (m 10))) (n (e (d 291 (g 2) (.f1 155 z)) (d 291 (g 2) (m 10))) .tt))))) (u 12 .int (i (.f2 141 (m 10) (a 12)) (n (t (d 250 (r 6) (.f3 140 z (m 7) (a 12))) (.f1 32 (r 6))) (i (l (.f1 31 (wB 253 (g 2) (d 250 (r 6) (.f3 140 z (m 7) (a 12))))) (.f3 112 (r 6) (d 250 (r 6) (.f3 140 z (m 7) (a 12))) (k 2))) (i (.f2 50 (l z (.f3 112 (r 6) (d 250 (r 6) (.f3 140 z (m 7) (a 12))) (k 1))) (e (.f1 31 (wB 253 (g 2) (d 250 (r 6) (.f3 140 z (m 7) (a 12))))) z)) (.and (i (c 254 (g 2) (d 250 (r 6) (.f3 140 z (m 7) (a 12)))) (n (.f1 23 (.f2 40 (d 291 (g 2) (m 10)) (k 1))) (n (l z (d 250 (r 6) (.f3 140 z (m 7) (a 12)))) (n (e (.f3 140 z (m 7) (a 12)) (.f3 112 (r 6) (d 250 (r 6) (.f3 140 z (m 7) (a 12))) z)) (.and (i (t z (d 255 (g 2) (d 250 (r 6) (.f3 140 z (m 7) (a 12))))) (n (.f1 23 (.f2 40 (d 292 (g 2) (m 10)) (k 1))) (n (t (.f1 33 (.f2 143 (m 10) (a 12))) (.f1 33 (m 10))) (n (c 236 (.f2 143 (m 10) (a 12)) (m 7)) (n (e (d 292 (g 2) (.f2 143 (m 10) (a 12))) (.f2 40 (d 292 (g 2) (m 10)) (k 1))) (n (e (d 291 (g 2) (.f2 143 (m 10) (a 12))) (.f2 40 (d 291 (g 2) (m 10)) (k 1))) .tt)))))) (i (l (d 255 (g 2) (d 250 (r 6) (.f3 140 z (m 7) (a 12)))) z) (n (t (.f1 33 (.f2 143 (m 10) (a 12))) (.f1 33 (m 10))) (n (c 236 (.f2 143 (m 10) (a 12)) (m 7)) (n (e (d 292 (g 2) (.f2 143 (m 10) (a 12))) (d 292 (g 2) (m 10))) (n (e (d 291 (g 2) (.f2 143 (m 10) (a 12))) (.f2 40 (d 291 (g 2) (m 10)) (k 1))) .tt)))))))))) (i (.f1 2 (c 254 (g 2) (d 250 (r 6) (.f3 140 z (m 7) (a 12))))) (n (l z (d 250 (r 6) (.f3 140 z (m 7) (a 12)))) (n (e (.f3 140 z (m 7) (a 12)) (.f3 112 (r 6) (d 250 (r 6) (.f3 140 z (m 7) (a 12))) z)) (.and (i (t z (d 255 (g 2) (d 250 (r 6) (.f3 140 z (m 7) (a 12))))) (n (.f1 23 (.f2 40 (d 292 (g 2) (m 10)) (k 1))) (n (t (.f1 33 (.f2 143 (m 10) (a 12))) (.f1 33 (m 10))) (n (c 236 (.f2 143 (m 10) (a 12)) (m 7)) (n (e (d 292 (g 2) (.f2 143 (m 10) (a 12))) (.f2 40 (d 292 (g 2) (m 10)) (k 1))) (n (e (d 291 (g 2) (.f2 143 (m 10) (a 12))) (d 291 (g 2) (m 10))) .tt)))))) (i (l (d 255 (g 2) (d 250 (r 6) (.f3 140 z (m 7) (a 12)))) z) (n (t (.f1 33 (.f2 143 (m 10) (a 12))) (.f1 33 (m 10))) (n (c 236 (.f2 143 (m 10) (a 12)) (m 7)) (n (e (d 292 (g 2) (.f2 143 (m 10) (a 12))) (d 292 (g 2) (m 10))) (n (e (d 291 (g 2) (.f2 143 (m 10) (a 12))) (d 291 (g 2) (m 10))) .tt))))))))))))))))))))))))))))))))))))))
theorem st_vc : Yk Tryz.prog stCx 12 16 ZFJ = stVc := by kernel_rfl
theorem Zcs (x : U GG) : ap1 155 x = .amap [] := rfl
def Zns (P : Fr -> Bool) (left : List (Int × Int)) (l : List Fr) : Nat := (l.filter fun f => P f && !Yl left f.n).length
theorem Zv9 (P : Fr -> Bool) (left : List (Int × Int)) (l : List Fr) : Zns P left l <= l.length := List.length_filter_le _ _
theorem Zf0 (P : Fr -> Bool) (left : List (Int × Int)) (a b : List Fr) : Zns P left (a ++ b) = Zns P left a + Zns P left b := by
 unfold Zns; rw [List.filter_append, ZUo]
theorem ZyX {P : Fr -> Bool} {left : List (Int × Int)} {k : Int} (hn : (left.map (·.1)).Nodup) {l : List Fr} (h : ∀ f ∈ l, f.n ≠ k) : Zns P (Zay left k) l = Zns P left l := by
 unfold Zns
 congr 1
 refine List.filter_congr fun f hf => ?_
 have e : Yl (Zay left k) f.n = Yl left f.n := by
  cases h1 : Yl left f.n
  ·cases h2 : Yl (Zay left k) f.n
   ·rfl
   ·rw [((ZbU hn).1 h2).1] at h1; cases h1
  ·exact (ZbU hn).2 ⟨h1, h f hf⟩
 rw [e]
theorem ZlF {P : Fr -> Bool} {left : List (Int × Int)} {k : Int} (hn : (left.map (·.1)).Nodup) (hk : Yl left k = true) {l : List Fr} (hl : (l.map (·.n)).Nodup) {i : Nat} (hi : i < l.length) (hik : (l.getD i fr0).n = k) :
  Zns P (Zay left k) l = Zns P left l + (if P (l.getD i fr0) = true then 1 else 0) := by
 have hF := ZO (d := fr0) hi
 rw [hF] at hl
 rw [ZUz, List.singleton_append, ZUs] at hl
 obtain ⟨_, h2, h3⟩ := List.nodup_append.1 hl
 rw [List.nodup_cons] at h2
 have hx : ∀ f ∈ l.take i, f.n ≠ k := fun f hf e => h3 f.n (List.mem_map.2 ⟨f, hf, rfl⟩) _ ZUr (e.trans hik.symm)
 have hy : ∀ f ∈ l.drop (i + 1), f.n ≠ k := fun f hf e => h2.1 (List.mem_map.2 ⟨f, hf, e.trans hik.symm⟩)
 generalize hX : l.getD i fr0 = x at *
 rw [hF, Zf0, Zf0, Zf0, Zf0, ZyX hn hx, ZyX hn hy]
 have e1 : Zns P left [x] = 0 := by
  unfold Zns; rw [List.filter_cons, hik, hk]; cases P x <;> rfl
 have e2 : Zns P (Zay left k) [x] = if P x = true then 1 else 0 := by
  have h : Yl (Zay left k) k = false := by
   cases h : Yl (Zay left k) k
   ·rfl
   ·exact absurd rfl ((ZbU hn).1 h).2
  unfold Zns; rw [List.filter_cons, hik, h]; cases P x <;> rfl
 rw [e1, e2]; omega
theorem ZqG {P : Fr -> Bool} {left : List (Int × Int)} {l : List Fr} (h : ∀ f ∈ l, Yl left f.n = true) : Zns P left l = 0 := by
 unfold Zns
 rw [List.length_eq_zero_iff, List.filter_eq_nil_iff]
 intro f hf
 rw [h f hf]; cases P f <;> decide
theorem ZX.all {m : List (Int × Int)} {R : List (List Int)} {fr : List Fr} (h : ZX m R fr) : ∀ f ∈ fr, Yl m f.n = true := by
 intro f hf
 rw [Zf5, (h.2.2.map (·.1)).mem_iff, ZgR h.1]
 exact List.mem_map.2 ⟨f, hf, rfl⟩
theorem ZP6 (S : Sig GG) (hS : CsSig S) : Zs S Tryz.prog 16 ZFJ := by
 refine Zd S (C := stCx) (fuel := 12) (Zx trivial ⟨⟨⟨by decide, Zba S hS⟩, ⟨by decide, Zca S hS.rg⟩, trivial, ⟨by decide, ZbE S hS⟩, ⟨by decide, Zcp S hS⟩, ⟨by decide, ZKd S hS _⟩, trivial⟩, trivial⟩ trivial) fun ρ => ?_
 rw [st_vc]
 simp only [stVc, Zcs, ZeO, Zeb, Zbf, Zr, Zq, VC.den, SX.den, ZN, Env.upd, ZS, Zao, Z3, Z2, ZB, ZI, ZJ, ZH, beq_iff_eq, Bool.not_eq_true', beq_eq_false_iff_ne, ne_eq, Bool.not_not, U.tMi, Int.toNat_zero, Nat.reduceEqDiff, reduceIte, Zf, ZK, ZG, U.int.injEq, sdv hS.dv, scs hS, srg hS.rg, sB]
 generalize Zn (U.co S .g (ρ 2)) = c
 intro _ _ hm H R m hh hg hlen hpos hnd hp _ _ _ _
 have hlen' := hh.1
 have hl := hg.len
 have hf := hg.frames
 have bd : ∀ left, (c.dirN left : Int) <= 4096 := fun left => by have := Zv9 (fun f => f.dirty) left c.fr; have h : c.dirN left <= c.fr.length := this; omega
 have bp : ∀ left, (c.pinN left : Int) <= 4096 := fun left => by have := Zv9 (fun f => decide (0 < f.pins)) left c.fr; have h : c.pinN left <= c.fr.length := this; omega
 have hml := hh.len
 refine ⟨sub_self hh.nod, ?_, ?_, by omega, fun left _ hs => ⟨fun hz => ?_, fun k hk => ?_⟩⟩
 ·have : c.pinN m = 0 := ZqG hh.all
  rw [this]; rfl
 ·have : c.dirN m = 0 := ZqG hh.all
  rw [this]; rfl
 ·have hz : left.length = 0 := by omega
  rw [Zpo hz]
  exact ⟨by first | trivial | rfl, by first | trivial | rfl, by first | trivial | rfl, by first | trivial | rfl, trivial⟩
 ·have hmk := hs.2 k hk
  have hj : c.idx k < c.fr.length := (hh.has k).1 hmk.1
  have hl : Y5 0 m k = g0 (R.getD (c.idx k) []) := by have := hh.get (d := 0) hj; rwa [Cs.idx_n hj] at this
  have hr : Zcc (Y5 0 m k) R = c.idx k := by
   rw [hl, Zah, <- Zac R _ (by omega)]; exact Zab (List.nodup_cons.1 hnd).2 (by rw [ZUt]; omega)
  have s1 : c.dirN (Zay left k) = c.dirN left + (if (c.at' (c.idx k : Nat)).dirty = true then 1 else 0) := ZlF (P := fun f => f.dirty) hs.1 hk hg.nod hj (Cs.idx_n hj)
  have s2 : c.pinN (Zay left k) = c.pinN left + (if decide (0 < (c.at' (c.idx k : Nat)).pins) = true then 1 else 0) := ZlF (P := fun f => decide (0 < f.pins)) hs.1 hk hg.nod hj (Cs.idx_n hj)
  have hdl := ZjO hk
  have b1 := bd left
  have b2 := bp left
  simp only [hr]
  have hD0 : 0 <= ((c.idx k : Nat) : Int) := by omega
  have hsd := Zon (k := k) hs
  refine ⟨by omega, fun _ _ => ⟨fun hd => ⟨by omega, by omega, hl, fun hpn => ?_, fun hpn => ?_⟩, fun hd => ⟨by omega, hl, fun hpn => ?_, fun hpn => ?_⟩⟩⟩
  ·rw [if_pos hd] at s1; rw [if_pos (decide_eq_true hpn)] at s2
   exact ⟨by omega, by omega, hsd, by omega, by omega, trivial⟩
  ·rw [if_pos hd] at s1; rw [if_neg (by rw [decide_eq_true_eq]; omega)] at s2
   exact ⟨by omega, hsd, by omega, by omega, trivial⟩
  ·rw [if_neg (by rw [hd]; decide)] at s1; rw [if_pos (decide_eq_true hpn)] at s2
   exact ⟨by omega, by omega, hsd, by omega, by omega, trivial⟩
  ·rw [if_neg (by rw [hd]; decide)] at s1; rw [if_neg (by rw [decide_eq_true_eq]; omega)] at s2
   exact ⟨by omega, hsd, by omega, by omega, trivial⟩
end
end Go.Proofs.YtlcfjjjdhdfbdaaGreat
namespace Go.Proofs.YtlcfjjjdhdfbdaaGreat
noncomputable section
open Go.Eng
open Go.RowKit (Below)
def ZiQ (g : FuncId) : Ctr := ⟨[.int, .int, .amap], [.one (.cap (.fn g) (.ptr (ai 0) 0))], [.cel (ai 0) 0 [.map (ai 1)], mpC (ai 1) (mA 2)], [usB 306 (mA 2) z0 z0, eLe (.f1 33 (mA 2)) (.int 65536)], [.int, .ints, .int],
 .one (sl1 (ai 3) (Zb7 (iA 4)) (ai 5)), [.cel (ai 0) 0 [.map (ai 1)], mpC (ai 1) (mA 2), iAr (ai 3) (iA 4) (ai 5)], [eqS (iA 4) (usN 298 (mA 2) z0 z0), eLe (Zb7 (iA 4)) (ai 5)]⟩
def ZfZ (P : Program) (f g : FuncId) : Prop := ∃ t : TypeId, ∀ (b0 b1 : Nat) (es : Array MapEntry) (clock : Nat) (m : List (Int × Int)) (w : World), Ze5 .i64 .ptr es clock m -> (∀ p ∈ m, 0 <= p.1 /\ p.1 < 65536) -> m.length <= 65536 →
 b0 < w.heap.size -> w.cell? ⟨b0, 0, none⟩ = some (.map (some b1)) -> w.heap[b1]? = some (.map es clock) →
 Calls P f #[.func (.func g) #[] #[.pointer (some ⟨b0, 0, none⟩)]] w fun e w' => ∃ v, e = .returned v /\ w'.ownsRow w.heap.size t 1 v m.length ((sortK (m.map (·.1))).map (Value.int .i64)) /\ Below w.heap.size w w'
theorem ZB2 {w0 w w' : World} {H : HProp} (h : Sat w0 H w) (hb : Below w.heap.size w w') : Sat w0 H w' := by
 obtain ⟨x, hx, hi⟩ := h
 have h0 := hi.below.size
 refine ⟨x, hx, fun b o v z e => ?_, fun b o y e => ?_, hi.below.trans (hb.mono h0)⟩
 ·have hlt := hi.lt e
  have q := hi.cell _ _ _ _ e
  have hk := hb.block b hlt
  refine ⟨q.1, ?_, ?_, fun hz => ?_⟩
  ·have := q.2.1; unfold World.cell? at this ⊢; rw [hk]; exact this
  ·have := q.2.2.1; unfold World.frozen? at this ⊢; rw [hk]; exact this
  ·rw [hk]; exact q.2.2.2 hz
 ·have hlt := hi.lt e
  have q := hi.obj _ _ _ e
  exact ⟨q.1, q.2.1, by rw [hb.block b hlt]; exact q.2.2.1, q.2.2.2⟩
theorem ZGM {w0 w w' : World} {H : HProp} (h : Sat w0 H w) (hb : Below w.heap.size w w') {g : Nat} (hg : w.heap.size <= g) {cur : Array Value} {t : TypeId} (hc : w'.heap[g]? = some (.cells cur t (0, 0))) : Sat w0 (Zb (row g 0 cur.toList true) H) w' := by
 have h2 := ZB2 h hb
 obtain ⟨x, hx, hi⟩ := h
 obtain ⟨hn, hcell⟩ : (∀ j, x g j = none) /\ True := by
  refine ⟨fun j => ?_, trivial⟩
  cases e : x g j with
  | none => rfl
  | some r => exact absurd (hi.lt e) (by omega)
 have hi2 : In w0 x w' := by
  have h0 := hi.below.size
  refine ⟨fun b o v z e => ?_, fun b o y e => ?_, hi.below.trans (hb.mono h0)⟩
  ·have hlt := hi.lt e
   have q := hi.cell _ _ _ _ e
   have hk := hb.block b hlt
   refine ⟨q.1, ?_, ?_, fun hz => ?_⟩
   ·have := q.2.1; unfold World.cell? at this ⊢; rw [hk]; exact this
   ·have := q.2.2.1; unfold World.frozen? at this ⊢; rw [hk]; exact this
   ·rw [hk]; exact q.2.2.2 hz
  ·have hlt := hi.lt e
   have q := hi.obj _ _ _ e
   exact ⟨q.1, q.2.1, by rw [hb.block b hlt]; exact q.2.2.1, q.2.2.2⟩
 have h0 := hi.below.size
 refine ⟨Hl.un (Zbe g 0 cur.toList true) x, ⟨_, x, ?_, rfl, rfl, hx⟩, fun b o v z e => ?_, fun b o y e => ?_, hi2.below⟩
 ·intro i j
  by_cases hig : i = g
  ·right; rw [hig]; exact hn j
  ·left; unfold Zbe; rw [if_neg (fun q => hig q.1)]
 ·unfold Hl.un at e
  cases hr : Zbe g 0 cur.toList true b o with
  | none => rw [hr] at e; exact hi2.cell _ _ _ _ e
  | some r =>
   rw [hr] at e
   injection e with e
   subst e
   unfold Zbe at hr
   by_cases hbg : b = g /\ 0 <= o
   ·rw [if_pos hbg] at hr
    obtain ⟨rfl, _⟩ := hbg
    rw [Nat.sub_zero] at hr
    cases hq : cur.toList[o]? with
    | none => rw [hq] at hr; cases hr
    | some u =>
     rw [hq] at hr
     injection hr with hr
     injection hr with e1 e2
     subst e1
     refine ⟨by omega, ?_, ?_, fun _ => ⟨_, _, hc⟩⟩
     ·unfold World.cell?; simp only [hc]
      rw [Array.getElem?_toList] at hq
      exact hq
     ·unfold World.frozen?; simp [hc]
   ·rw [if_neg hbg] at hr; cases hr
 ·unfold Hl.un at e
  cases hr : Zbe g 0 cur.toList true b o with
  | none => rw [hr] at e; exact hi2.obj _ _ _ e
  | some r =>
   rw [hr] at e
   injection e with e
   subst e
   unfold Zbe at hr
   split at hr
   ·cases hq : cur.toList[o - 0]? with
    | none => rw [hq] at hr; cases hr
    | some u => rw [hq] at hr; injection hr with hr; cases hr
   ·cases hr
def ZCd (ρ : Go.Eng.Env GG) (a : Int) (l : List Int) (c : Int) : Go.Eng.Env GG := ((ρ.upd 3 (.int a)).upd 4 (.ints l)).upd 5 (.int c)
theorem Zeu (ρ : Go.Eng.Env GG) (a : Int) (l : List Int) (c : Int) : Ext 3 ρ (ZCd ρ a l c) := fun i hi => by
 unfold ZCd Go.Eng.Env.upd; rw [if_neg (by omega), if_neg (by omega), if_neg (by omega)]
theorem ZID (ρ : Go.Eng.Env GG) (a : Int) (l : List Int) (c : Int) : ZCd ρ a l c 0 = ρ 0 := Zeu ρ a l c 0 (by decide)
theorem ZH4 (ρ : Go.Eng.Env GG) (a : Int) (l : List Int) (c : Int) : ZCd ρ a l c 1 = ρ 1 := Zeu ρ a l c 1 (by decide)
theorem ZrD (ρ : Go.Eng.Env GG) (a : Int) (l : List Int) (c : Int) : ZCd ρ a l c 2 = ρ 2 := Zeu ρ a l c 2 (by decide)
theorem Zrm (ρ : Go.Eng.Env GG) (a : Int) (l : List Int) (c : Int) : ZCd ρ a l c 3 = .int a := rfl
theorem ZfA (ρ : Go.Eng.Env GG) (a : Int) (l : List Int) (c : Int) : ZCd ρ a l c 4 = .ints l := rfl
theorem Zh5 (ρ : Go.Eng.Env GG) (a : Int) (l : List Int) (c : Int) : ZCd ρ a l c 5 = .int c := rfl
theorem sk_of (S : Sig GG) (hS : CsSig S) {P : Program} {f g : FuncId} (hk : ZfZ P f g) : Zs S P f (ZiQ g) := by
 obtain ⟨t, hk⟩ := hk
 intro ch w0 F ρ w xs hx hq hsat
 obtain ⟨v, rfl, hv⟩ : ∃ v, xs = [v] /\ SV.R S ρ (.one (.cap (.fn g) (.ptr (ai 0) 0))) v := by
  match xs, hx with
  | [v], hx => exact ⟨v, rfl, hx.1⟩
 have hv := R_one S ρ hv
 have q1 := hq (usB 306 (mA 2) z0 z0) (by simp [ZiQ])
 have q2 := hq (eLe (.f1 33 (mA 2)) (.int 65536)) (by simp [ZiQ])
 rw [Zg] at q2
 simp only [ZiQ, ZC, star_assoc, Ch.den, mpC] at hsat
 rw [SX.den_wc, SX.den_wc, SX.den_wc] at hsat
 simp only [usB, SX.den, hS.u306, Zv, Zi, ZN, U.tPi, U.tQi, Zf, U.tMi, U.tIi, ai, mA] at q1 q2 hsat
 have q2 : ((ρ 2).tM.length : Int) <= 65536 := q2
 obtain ⟨g1, hsat⟩ := ZE hsat
 rw [Zl] at hsat
 obtain ⟨g2, hsat⟩ := ZE hsat
 obtain ⟨es, hsat⟩ := Zaj hsat
 obtain ⟨clock, hsat⟩ := Zaj hsat
 obtain ⟨g3, hsat⟩ := ZE hsat
 have g1' : 0 <= (ρ 0).tI \/ [SC.map (SX.at Srt.int 1)] = [] := g1
 have hb0 : 0 <= (ρ 0).tI := g1.resolve_right (by simp)
 subst hv
 have hvd : SC.den S ρ (.cap (.fn g) (.ptr (ai 0) 0)) = .func (.func g) #[] #[.pointer (some ⟨(ρ 0).tI.toNat, 0, none⟩)] := by
  simp only [SC.den, SX.den, ai, Zi, U.tIi]
  rw [if_neg (by omega)]; rfl
 rw [hvd]
 obtain ⟨x, ⟨a, r, d, rfl, rfl, a2, r2, d2, rfl, rfl, h3⟩, hi⟩ := id hsat
 have hobj : w.heap[(ρ 1).tI.toNat]? = some (.map es clock) := by
  have e : Hl.un (Zft (ρ 1).tI.toNat (.map es clock)) (Hl.un (Zbe (ρ 0).tI.toNat 0 [SC.den (S.wc ch) ρ (.map (.at .int 1))] true) r2) (ρ 1).tI.toNat 0 = some (.obj (.map es clock)) := by
   unfold Hl.un Zft; simp
  exact (hi.obj _ _ _ e).2.2.1
 have hrow := hsat
 rw [Zl] at hrow
 have hld := (hrow.load (i := 0) (by simp)).1
 have hlt := hrow.row_lt (by simp)
 have hmv : SC.den (S.wc ch) ρ (.map (.at .int 1)) = .map (some (ρ 1).tI.toNat) := by
  simp only [SC.den, SX.den, Zi, U.tIi]
  exact congrArg Value.map (if_neg (show ¬ (ρ 1).tI < 0 by omega))
 simp only [ZUs, List.map_nil, List.getElem_cons_zero] at hld
 rw [hmv] at hld
 refine (hk _ _ es clock (ρ 2).tM w g3 q1 (by omega) hlt.2 hld hobj).mono ?_
 rintro e w' ⟨v, rfl, ⟨hl, hor⟩, hbel⟩
 rcases hor with ⟨rfl, hz⟩ | ⟨gb, cap, cur, rfl, hgb, hcur, hnc, hcm, hcs, htk⟩
 ·have hnil : (sortK ((ρ 2).tM.map (·.1))) = [] := by
   rw [ZUt, hz, Nat.zero_mul] at hl; exact ZUy hl
  refine ⟨ZCd ρ (-1) [] 0, _, Zeu ρ _ _ _, rfl, .inr ?_, ?_, ?_⟩
  ·simp only [SV.den, SC.den, sl1, slC, Zb7, ai, iA, z0, SX.den, Zi, ZQ, ZS, Zrm, ZfA, Zh5, U.tIi, U.tNi]; rfl
  ·have h2 := ZB2 hsat hbel
   simp only [ZiQ, ZC, star_assoc, Ch.den, mpC, iAr]
   rw [SX.den_wc, SX.den_wc, SX.den_wc, SX.den_wc, SX.den_wc, SX.den_wc]
   simp only [ZUs, List.map_nil, SC.den, SX.den, SX.den_wc, ai, iA, mA, Zi, ZQ, ZN, U.tIi, U.tNi, U.tMi, ZID, ZH4, ZrD, Zrm, ZfA, Zh5] at h2 ⊢
   refine Z9 g1' ?_
   rw [Zl]
   refine Z9 g2 (Zby es (Zby clock (Z9 g3 ?_)))
   rw [Zl (row _ _ _ _), Zl (Zdt _ _)]
   refine Zby [] (Z9 rfl (Z9 (ZUu _) (Z9 (.inr rfl) ?_)))
   rw [show (En.vals iE (U.ints [] : U GG) ++ []) = [] from rfl, Zbs, emp_star]
   exact h2
  ·intro x hx
   simp only [ZiQ, List.mem_cons, List.not_mem_nil, or_false] at hx
   rcases hx with rfl | rfl
   ·simp only [eqS, usN, SX.den, iA, mA, hS.u298, ZQ, ZN, ZrD, ZfA, U.tNi, U.tMi, ZfH, hnil]
   ·rw [Zg]
    simp only [SX.den, iA, ai, Zb7, Zi, ZQ, ZfA, Zh5, ZS, U.tIi, U.tNi]; exact ZUu _
 ·have hll : (sortK ((ρ 2).tM.map (·.1))).length = (ρ 2).tM.length := by rw [ZUt, Nat.mul_one] at hl; exact hl
  refine ⟨ZCd ρ gb (sortK ((ρ 2).tM.map (·.1))) cap, _, Zeu ρ _ _ _, rfl, .inr ?_, ?_, ?_⟩
  ·show Value.slice (some ⟨gb, 0, none⟩) (ρ 2).tM.length cap = SC.den S (ZCd ρ gb (sortK ((ρ 2).tM.map (·.1))) cap) (sl1 (ai 3) (Zb7 (iA 4)) (ai 5))
   simp only [SC.den, sl1, slC, Zb7, ai, iA, z0, SX.den, Zi, ZQ, ZS, Zrm, ZfA, Zh5, U.tIi, U.tNi]
   show _ = Value.slice (if ((gb : Nat) : Int) < 0 then none else some ⟨((gb : Nat) : Int).toNat, Int.toNat 0 + (if ((cap : Nat) : Int) = 0 then (0 : Int) else 0).toNat * 1, none⟩) (((sortK ((ρ 2).tM.map (·.1))).length : Nat) : Int).toNat ((cap : Nat) : Int).toNat
   rw [if_neg (by omega), hll]
   simp
  ·have h2 := ZGM hsat hbel hgb hcur
   simp only [ZiQ, ZC, star_assoc, Ch.den, mpC, iAr]
   rw [SX.den_wc, SX.den_wc, SX.den_wc, SX.den_wc, SX.den_wc, SX.den_wc]
   simp only [ZUs, List.map_nil, SC.den, SX.den, SX.den_wc, ai, iA, mA, Zi, ZQ, ZN, U.tIi, U.tNi, U.tMi, ZID, ZH4, ZrD, Zrm, ZfA, Zh5] at h2 ⊢
   refine Z9 g1' ?_
   rw [Zl]
   refine Z9 g2 (Zby es (Zby clock (Z9 g3 ?_)))
   rw [Zl (row _ _ _ _), Zl (Zdt _ _)]
   have hvs : cur.toList = En.vals iE (U.ints (sortK ((ρ 2).tM.map (·.1))) : U GG) ++ cur.toList.drop ((ρ 2).tM.length * 1) := by
    conv => lhs; rw [<- List.take_append_drop ((ρ 2).tM.length * 1) cur.toList, htk]
    rfl
   refine Zby (cur.toList.drop ((ρ 2).tM.length * 1)) (Z9 ?_ (Z9 (show 0 <= ((cap : Nat) : Int) by omega) (Z9 (.inl (show 0 <= ((gb : Nat) : Int) by omega)) ?_)))
   ·rw [<- ZUo, <- hvs]
    show cur.toList.length = cap * 1
    rw [Array.length_toList]; exact hcs
   ·rw [<- hvs]
    exact h2
  ·intro x hx
   simp only [ZiQ, List.mem_cons, List.not_mem_nil, or_false] at hx
   rcases hx with rfl | rfl
   ·simp only [eqS, usN, SX.den, iA, mA, hS.u298, ZQ, ZN, ZrD, ZfA, U.tNi, U.tMi, ZfH]
   ·rw [Zg]
    simp only [SX.den, iA, ai, Zb7, Zi, ZQ, ZfA, Zh5, ZS, U.tIi, U.tNi]; rw [hll]; omega
end
end Go.Proofs.YtlcfjjjdhdfbdaaGreat
namespace Go.Proofs.YtlcfjjjdhdfbdaaGreat
noncomputable section
open Go.Eng
def clQ (g i bb bc : SX) : List SC := [.int .i64 (usI 252 g i z0), sl1 bb (ZP (usY 253 g i z0)) bc, .bool (.bool false), .int .i64 (usI 255 g i z0)]
def ZIG : Ctr := ⟨[.int, .int, .rows, .g], [.one (.ptr (ai 0) 0)], [frO (ai 1) (rA 2) (gA 3), .cel (ai 0) 2 (clQ (gA 3) (ai 1) (nt (rA 2) (ai 1) 1) (nt (rA 2) (ai 1) 2)), bAr (nt (rA 2) (ai 1) 1) (usY 253 (gA 3) (ai 1) z0) (nt (rA 2) (ai 1) 2)],
 [eLe z0 (ai 1), eLt (ai 1) (ZA (rA 2)), .f2 45 (ai 0) (nt (rA 2) (ai 1) 0), .f2 45 (ZA (rA 2)) (usI 256 (gA 3) z0 z0)], [], .tup [], [frC (rA 2) (usG 293 (gA 3) (ai 1) z0)], []⟩
theorem ZNh {T : Sig GG} (hT : CsSig T) (ρ : Go.Eng.Env GG) (w0 : World) (c g i bb bc : SX) : (Ch.cel c 2 (clQ g i bb bc)).den T ρ w0 =
  frD [(c.den T ρ).tI, (bb.den T ρ).tI, (bc.den T ρ).tI] { (Zn (g.den T ρ)).at' (i.den T ρ).tI with dirty := false } := by
 unfold clQ
 rw [Zei]
 simp only [usI, usY, usB, z0, ZP, SX.den, hT.u252, hT.u253, hT.u254, hT.u255, Zi, Zu, Zv, U.tIi, U.tQi, U.tBi, Za1]
 rfl
theorem ZPo (S : Sig GG) (hS : CsSig S) : Z7 S ZIG := by
 refine Zw S fun T w0 ρ h hu hp hd hr hpre => ⟨ρ, Ext.refl _ _, ?_, (fun x hx => nomatch hx)⟩
 have hT := hS.of hu hp hd
 have e1 : hpDen T ρ w0 ZIG.pre = Zb (T.prd 71 w0 ((Zj (Yy (ai 1)) (rA 2)).den T ρ) ((gA 3).den T ρ)) (Zb ((Ch.cel (ai 0) 2 (clQ (gA 3) (ai 1) (nt (rA 2) (ai 1) 1) (nt (rA 2) (ai 1) 2))).den T ρ w0) (Zb (ZM T .bytes ((nt (rA 2) (ai 1) 1).den T ρ) ((usY 253 (gA 3) (ai 1) z0).den T ρ) ((nt (rA 2) (ai 1) 2).den T ρ)) emp)) := rfl
 have e2 : hpDen T ρ w0 ZIG.post = Zb (T.prd 70 w0 ((rA 2).den T ρ) ((usG 293 (gA 3) (ai 1) z0).den T ρ)) emp := rfl
 have r0 := hr (eLe z0 (ai 1)) (by simp [ZIG])
 have r1 := hr (eLt (ai 1) (ZA (rA 2))) (by simp [ZIG])
 have r2 := hr (.f2 45 (ai 0) (nt (rA 2) (ai 1) 0)) (by simp [ZIG])
 have r3 := hr (.f2 45 (ZA (rA 2)) (usI 256 (gA 3) z0 z0)) (by simp [ZIG])
 simp only [ZA, usI, SX.den, hT.u256, p45, Y8, U.tIi, Zi] at r3
 have r3 : ((ρ 2).tR.length : Int) = ((Zn ((gA 3).den T ρ)).fr.length : Nat) := r3
 rw [Zg] at r0
 rw [Yc] at r1
 have r0 : 0 <= (ρ 1).tI := r0
 have r1 : (ρ 1).tI < ((ρ 2).tR.length : Nat) := r1
 have hn : ∀ k, ((nt (rA 2) (ai 1) k).den T ρ) = .int (((ρ 2).tR.getD (ρ 1).tI.toNat []).getD k 0) := by
  intro k
  show (ap3 112 ((rA 2).den T ρ) ((ai 1).den T ρ) (U.int (k : Int))) = _
  rw [YE]; rfl
 have r2 : (ρ 0).tI = g0 ((ρ 2).tR.getD (ρ 1).tI.toNat []) := by
  simp only [SX.den, hn, p45, U.tIi, ai, Zi] at r2; exact r2
 have hb : ((usY 253 (gA 3) (ai 1) z0).den T ρ) = .bytes ((Zn ((gA 3).den T ρ)).at' (ρ 1).tI).b := by
  simp only [usY, SX.den, hT.u253, Zu, Zi, U.tIi, U.tBi, ai]
 have k2 : ((Zj (Yy (ai 1)) (rA 2)).den T ρ).tR = [(ρ 1).tI] :: (ρ 2).tR := rfl
 rw [e1, Za, ZNh hT, hn, hn, hb, hT.p71, k2, Zhm] at hpre
 have hcl : Zn ((usG 293 (gA 3) (ai 1) z0).den T ρ) = (Zn ((gA 3).den T ρ)).clean (ρ 1).tI := by
  simp only [usG, SX.den, hT.u293, Zbf, Zq, Zi, U.tIi, ai]
 rw [e2, Za, hT.p70, hcl]
 have k1 : ((rA 2).den T ρ).tR = (ρ 2).tR := rfl
 have k3 : ((ai 1).den T ρ).tI = (ρ 1).tI := rfl
 rw [k1]
 rw [k3] at hpre
 generalize Zn ((gA 3).den T ρ) = s at *
 have hlen : (ρ 2).tR.length = s.fr.length := by
  omega
 have hi : (ρ 1).tI.toNat < s.fr.length := by omega
 have hcf : (s.clean (ρ 1).tI).fr = s.fr.take (ρ 1).tI.toNat ++ { s.at' (ρ 1).tI with dirty := false } :: s.fr.drop ((ρ 1).tI.toNat + 1) := rfl
 have hlc : (s.clean (ρ 1).tI).fr.length = s.fr.length := by
  rw [hcf]; simp only [ZUo, ZUl, ZUD, ZUx]; omega
 rw [ZfU (m := (s.clean (ρ 1).tI).fr) (by omega) (show (ρ 1).tI.toNat < _ by omega)]
 have t1 : (s.clean (ρ 1).tI).fr.take (ρ 1).tI.toNat = s.fr.take (ρ 1).tI.toNat := by
  rw [hcf, List.take_append_of_le_length (by rw [ZUl]; omega), List.take_take, Nat.min_self]
 have t2 : (s.clean (ρ 1).tI).fr.drop ((ρ 1).tI.toNat + 1) = s.fr.drop ((ρ 1).tI.toNat + 1) := by
  rw [hcf, List.append_cons, List.drop_append_of_le_length (by simp only [ZUo, ZUl, List.length_singleton]; omega), List.drop_of_length_le (by simp only [ZUo, ZUl, List.length_singleton]; omega), List.nil_append]
 have t3 : (s.clean (ρ 1).tI).fr.getD (ρ 1).tI.toNat fr0 = { s.at' (ρ 1).tI with dirty := false } := by
  rw [hcf, ZUj, ZUC (by rw [ZUl]; omega), ZUl, Nat.min_eq_left (by omega), Nat.sub_self]; rfl
 rw [t1, t2, t3]
 have ea : frD [((ai 0).den T ρ).tI, (U.int (((ρ 2).tR.getD (ρ 1).tI.toNat []).getD 1 0) : U GG).tI, (U.int (((ρ 2).tR.getD (ρ 1).tI.toNat []).getD 2 0) : U GG).tI] { s.at' (ρ 1).tI with dirty := false } = frD ((ρ 2).tR.getD (ρ 1).tI.toNat []) { s.at' (ρ 1).tI with dirty := false } :=
  Zok (show g0 [(ρ 0).tI, _, _] = _ from r2) rfl rfl _
 rw [ea] at hpre
 exact hpre
def frPC : Ctr := ⟨[.int, .int, .int, .int, .bytes], [.one (.int .i64 (ai 0)), .one (sl1 (ai 1) (ai 2) (ai 3))], [bAr (ai 1) (bA 4) (ai 3)], [], [], .tup [],
 [bAr (ai 1) (bA 4) (ai 3), lsA (.int (-1)) YD z0, iAr (.int (-1)) (.f1 152 z0) z0, lsC z0 YD (usG 307 (ai 0) (bA 4) z0)], []⟩
def nlRC : Ctr := ⟨[.int], [.one (.ptr (ai 0) 0)], [ndC (ai 0) (ai 0) (ai 0)], [], [], .tup [], [rgC (ai 0) (.f1 152 z0)], []⟩
def emFC : Ctr := ⟨[.int], [.one (.int .i64 (ai 0))], [], [], [], .tup [], [frC YD (usG 304 (ai 0) z0 z0)], []⟩
theorem Zvn (S : Sig GG) (hS : CsSig S) : Z7 S frPC := by
 refine Zw S fun T w0 ρ h hu hp hd hr hpre => ⟨ρ, Ext.refl _ _, ?_, by intro x hx; exact nomatch hx⟩
 have hT := hS.of hu hp hd
 have e1 : hpDen T ρ w0 frPC.pre = Zb ((bAr (ai 1) (bA 4) (ai 3)).den T ρ w0) emp := rfl
 have e2 : hpDen T ρ w0 frPC.post = Zb ((bAr (ai 1) (bA 4) (ai 3)).den T ρ w0) (Zb (rAD lsT (-1) [] 0) (Zb (iAD (-1) [] 0) (Zb (T.prd 51 w0 ((Zj (Yy z0) YD).den T ρ) ((usG 307 (ai 0) (bA 4) z0).den T ρ)) emp))) := rfl
 rw [e1] at hpre
 have k1 : ((Zj (Yy z0) YD).den T ρ).tR = [[0]] := rfl
 have k2 : (Zk ((usG 307 (ai 0) (bA 4) z0).den T ρ)).w = [] := by
  simp only [usG, SX.den, hT.u307, Zbf, Zr]; rfl
 rw [e2, lsT, Zci, emp_star, ZpC, emp_star, Za, hT.dv.p51, k1, Zbb, k2]
 exact hpre
theorem ZH0 (S : Sig GG) (hS : CsSig S) : Z7 S nlRC := by
 refine Zw S fun T w0 ρ h hu hp hd hr hpre => ⟨ρ, Ext.refl _ _, ?_, by intro x hx; exact nomatch hx⟩
 have hT := hS.of hu hp hd
 have e1 : hpDen T ρ w0 nlRC.pre = Zb ((ndC (ai 0) (ai 0) (ai 0)).den T ρ w0) emp := rfl
 have e2 : hpDen T ρ w0 nlRC.post = Zb (T.prd 60 w0 ((ai 0).den T ρ) ((SX.f1 152 z0).den T ρ)) emp := rfl
 rw [e1, Za, Z4] at hpre
 rw [e2, Za, hT.rg.p60]
 show Zat _ [] h
 unfold Zat ZfL dlS dlS
 rw [Za]
 exact hpre
theorem ZHD (S : Sig GG) (hS : CsSig S) : Z7 S emFC := by
 refine Zw S fun T w0 ρ h hu hp hd hr hpre => ⟨ρ, Ext.refl _ _, ?_, by intro x hx; exact nomatch hx⟩
 have hT := hS.of hu hp hd
 have e1 : hpDen T ρ w0 emFC.pre = emp := rfl
 have e2 : hpDen T ρ w0 emFC.post = Zb (T.prd 70 w0 (YD.den T ρ) ((usG 304 (ai 0) z0 z0).den T ρ)) emp := rfl
 have k2 : (Zn ((usG 304 (ai 0) z0 z0).den T ρ)).fr = [] := by
  simp only [usG, SX.den, hT.u304, Zbf, Zq]; rfl
 rw [e1] at hpre
 rw [e2, Za, hT.p70, k2]
 exact hpre
end
end Go.Proofs.YtlcfjjjdhdfbdaaGreat
set_option maxRecDepth 20000
namespace Go.Proofs.YtlcfjjjdhdfbdaaGreat
noncomputable section
open Go.Eng
def ZGn : Ctr := ⟨[.int], [.one (.int .i64 (.int 512)), .one (.int .i64 (ai 0))], [], [eLe (.int 4) (ai 0), eLe (ai 0) (.int 65536), eLe (ai 0) (.int 131072)], [.int], .one (.ptr (ai 1) 0), [plC (ai 1) (usG 309 (ai 0) z0 z0)], [eLe z0 (ai 1)]⟩
def pnCx : Cx := { specs := [], anns := [(5, [(500003, .ghost frPC [.tmp 22, .tmp 26]), (500003, .ghost (ZeE [] [] (usG 234 (gA 1) z0 z0)) [.tmp 29])])] }
def Zut : Ctr := ⟨[.int], [.one (.int .i64 (ai 0))], [], [], [.int, .bytes, .int], .one (sl1 (ai 1) (ZP (bA 2)) (ai 3)), [bAr (ai 1) (bA 2) (ai 3)], [eqS (bA 2) (usY 308 (ai 0) z0 z0), eLe z0 (ai 1), eLe (ZP (bA 2)) (ai 3)]⟩
def fdI (b c : Nat) : Inv := ⟨[.int, .bytes], [(4, .one (.int .i64 (di 0)))], [bAr (ai b) (bA 1000001) (.int 512)], [eLe z0 (di 0), eLe (di 0) (.int 512), usB 310 (bA 1000001) (ai 0) (di 0)], .f2 41 (.int 512) (di 0)⟩
def fdCx : Cx := { specs := [], anns := [(11, [(5, .inv (fdI 1 512))])] }
def pnVc : VC := i (l (k 4) (a 0)) (i (l (a 0) (k 65536)) (i (l (a 0) (k 131072)) (.and (i (l (k 4) (a 0)) (.and (i (l (a 0) (k 65536)) (.and .tt (i (l (a 0) (k 131072)) (n (.f1 23 (.f2 42 (k 512) (a 0))) (n (l z (.f2 42 (k 512) (a 0))) (n (l (.f2 42 (k 512) (a 0)) (.f2 42 (k 512) (a 0))) (n (l (.f2 42 (.f2 42 (k 512) (a 0)) (k 1)) k1) (u 1 .int (i (l z (a 1)) (u 2 .int (i (l z (a 2)) (u 3 .int (i (l z (a 3)) (n (.f2 155 (.f1 154 z) (.f1 154 z)) (n (.f2 153 (.f1 152 z) (o 209 (w 234 (f 307 (k 512) (.f2 126 (.f2 42 (k 512) (a 0)) z))))) (n (c 214 (.f1 155 z) (w 234 (f 307 (k 512) (.f2 126 (.f2 42 (k 512) (a 0)) z)))) (n (p 215 (w 234 (f 307 (k 512) (.f2 126 (.f2 42 (k 512) (a 0)) z)))) (n (c 216 (w 234 (f 307 (k 512) (.f2 126 (.f2 42 (k 512) (a 0)) z))) (f 307 (k 512) (.f2 126 (.f2 42 (k 512) (a 0)) z))) (n (.f2 155 (j 208 (w 234 (f 307 (k 512) (.f2 126 (.f2 42 (k 512) (a 0)) z)))) (.f2 126 (.f2 42 (k 512) (a 0)) z)) (n (e (v 207 (w 234 (f 307 (k 512) (.f2 126 (.f2 42 (k 512) (a 0)) z)))) z) (n (e (v 206 (w 234 (f 307 (k 512) (.f2 126 (.f2 42 (k 512) (a 0)) z)))) z) (n (e (v 205 (w 234 (f 307 (k 512) (.f2 126 (.f2 42 (k 512) (a 0)) z)))) z) (n (e (v 204 (w 234 (f 307 (k 512) (.f2 126 (.f2 42 (k 512) (a 0)) z)))) z) (n (e (v 203 (w 234 (f 307 (k 512) (.f2 126 (.f2 42 (k 512) (a 0)) z)))) z) (n (e (v 202 (w 234 (f 307 (k 512) (.f2 126 (.f2 42 (k 512) (a 0)) z)))) (k (- (0 + 1)))) (n (.f2 155 (p 201 (w 234 (f 307 (k 512) (.f2 126 (.f2 42 (k 512) (a 0)) z)))) (.bool .false)) (n (e (.f1 31 (j 208 (w 234 (f 307 (k 512) (.f2 126 (.f2 42 (k 512) (a 0)) z))))) (.f2 42 (k 512) (a 0))) (n (e (v 200 (w 234 (f 307 (k 512) (.f2 126 (.f2 42 (k 512) (a 0)) z)))) (k 512)) (n (.f2 155 (w 309 (a 0)) (w 234 (f 307 (k 512) (.f2 126 (.f2 42 (k 512) (a 0)) z)))) .tt))))))))))))))))))))))))))))) .tt)) .tt)))
theorem pn_vc : Yk Tryz.prog pnCx 12 5 ZGn = pnVc := by kernel_rfl
def fdVc : VC := .and (i (t (a 0) z) (u 1 .int (i (l z (a 1)) (n (.f2 155 (.byt ((UInt8.ofNat 1) :: ((UInt8.ofNat 2) :: ((UInt8.ofNat 3) :: [])))) (j 308 (a 0))) .tt)))) (i (l z (a 0)) (u 1 .int (i (l z (a 1)) (n (c 310 (.byt ((UInt8.ofNat 0) :: ((UInt8.ofNat 0) :: ((UInt8.ofNat 0) :: ((UInt8.ofNat 0) :: ((UInt8.ofNat 0) :: ((UInt8.ofNat 0) :: ((UInt8.ofNat 0) :: ((UInt8.ofNat 0) :: ((UInt8.ofNat 0) :: ((UInt8.ofNat 0) :: ((UInt8.ofNat 0) :: ((UInt8.ofNat 0) :: ((UInt8.ofNat 0) :: ((UInt8.ofNat 0) :: ((UInt8.ofNat 0) :: ((UInt8.ofNat 0) :: ((UInt8.ofNat 0) :: ((UInt8.ofNat 0) :: ((UInt8.ofNat 0) :: ((UInt8.ofNat 0) :: ((UInt8.ofNat 0) :: ((UInt8.ofNat 0) :: ((UInt8.ofNat 0) :: ((UInt8.ofNat 0) :: ((UInt8.ofNat 0) :: ((UInt8.ofNat 0) :: ((UInt8.ofNat 0) :: ((UInt8.ofNat 0) :: ((UInt8.ofNat 0) :: ((UInt8.ofNat 0) :: ((UInt8.ofNat 0) :: ((UInt8.ofNat 0) :: ((UInt8.ofNat 0) :: ((UInt8.ofNat 0) :: ((UInt8.ofNat 0) :: ((UInt8.ofNat 0) :: ((UInt8.ofNat 0) :: ((UInt8.ofNat 0) :: ((UInt8.ofNat 0) :: ((UInt8.ofNat 0) :: ((UInt8.ofNat 0) :: ((UInt8.ofNat 0) :: ((UInt8.ofNat 0) :: ((UInt8.ofNat 0) :: ((UInt8.ofNat 0) :: ((UInt8.ofNat 0) :: ((UInt8.ofNat 0) :: ((UInt8.ofNat 0) :: ((UInt8.ofNat 0) :: ((UInt8.ofNat 0) :: ((UInt8.ofNat 0) :: ((UInt8.ofNat 0) :: ((UInt8.ofNat 0) :: ((UInt8.ofNat 0) :: ((UInt8.ofNat 0) :: ((UInt8.ofNat 0) :: ((UInt8.ofNat 0) :: ((UInt8.ofNat 0) :: ((UInt8.ofNat 0) :: ((UInt8.ofNat 0) :: ((UInt8.ofNat 0) :: ((UInt8.ofNat 0) :: ((UInt8.ofNat 0) :: ((UInt8.ofNat 0) :: ((UInt8.ofNat 0) :: ((UInt8.ofNat 0) :: ((UInt8.ofNat 0) :: ((UInt8.ofNat 0) :: ((UInt8.ofNat 0) :: ((UInt8.ofNat 0) :: ((UInt8.ofNat 0) :: ((UInt8.ofNat 0) :: ((UInt8.ofNat 0) :: ((UInt8.ofNat 0) :: ((UInt8.ofNat 0) :: ((UInt8.ofNat 0) :: ((UInt8.ofNat 0) :: ((UInt8.ofNat 0) :: ((UInt8.ofNat 0) :: ((UInt8.ofNat 0) :: ((UInt8.ofNat 0) :: ((UInt8.ofNat 0) :: ((UInt8.ofNat 0) :: ((UInt8.ofNat 0) :: ((UInt8.ofNat 0) :: ((UInt8.ofNat 0) :: ((UInt8.ofNat 0) :: ((UInt8.ofNat 0) :: ((UInt8.ofNat 0) :: ((UInt8.ofNat 0) :: ((UInt8.ofNat 0) :: ((UInt8.ofNat 0) :: ((UInt8.ofNat 0) :: ((UInt8.ofNat 0) :: ((UInt8.ofNat 0) :: ((UInt8.ofNat 0) :: ((UInt8.ofNat 0) :: ((UInt8.ofNat 0) :: ((UInt8.ofNat 0) :: ((UInt8.ofNat 0) :: ((UInt8.ofNat 0) :: ((UInt8.ofNat 0) :: ((UInt8.ofNat 0) :: ((UInt8.ofNat 0) :: ((UInt8.ofNat 0) :: ((UInt8.ofNat 0) :: ((UInt8.ofNat 0) :: ((UInt8.ofNat 0) :: ((UInt8.ofNat 0) :: ((UInt8.ofNat 0) :: ((UInt8.ofNat 0) :: ((UInt8.ofNat 0) :: ((UInt8.ofNat 0) :: ((UInt8.ofNat 0) :: ((UInt8.ofNat 0) :: ((UInt8.ofNat 0) :: ((UInt8.ofNat 0) :: ((UInt8.ofNat 0) :: ((UInt8.ofNat 0) :: ((UInt8.ofNat 0) :: ((UInt8.ofNat 0) :: ((UInt8.ofNat 0) :: ((UInt8.ofNat 0) :: ((UInt8.ofNat 0) :: ((UInt8.ofNat 0) :: ((UInt8.ofNat 0) :: ((UInt8.ofNat 0) :: ((UInt8.ofNat 0) :: ((UInt8.ofNat 0) :: ((UInt8.ofNat 0) :: ((UInt8.ofNat 0) :: ((UInt8.ofNat 0) :: ((UInt8.ofNat 0) :: ((UInt8.ofNat 0) :: ((UInt8.ofNat 0) :: ((UInt8.ofNat 0) :: ((UInt8.ofNat 0) :: ((UInt8.ofNat 0) :: ((UInt8.ofNat 0) :: ((UInt8.ofNat 0) :: ((UInt8.ofNat 0) :: ((UInt8.ofNat 0) :: ((UInt8.ofNat 0) :: ((UInt8.ofNat 0) :: ((UInt8.ofNat 0) :: ((UInt8.ofNat 0) :: ((UInt8.ofNat 0) :: ((UInt8.ofNat 0) :: ((UInt8.ofNat 0) :: ((UInt8.ofNat 0) :: ((UInt8.ofNat 0) :: ((UInt8.ofNat 0) :: ((UInt8.ofNat 0) :: ((UInt8.ofNat 0) :: ((UInt8.ofNat 0) :: ((UInt8.ofNat 0) :: ((UInt8.ofNat 0) :: ((UInt8.ofNat 0) :: ((UInt8.ofNat 0) :: ((UInt8.ofNat 0) :: ((UInt8.ofNat 0) :: ((UInt8.ofNat 0) :: ((UInt8.ofNat 0) :: ((UInt8.ofNat 0) :: ((UInt8.ofNat 0) :: ((UInt8.ofNat 0) :: ((UInt8.ofNat 0) :: ((UInt8.ofNat 0) :: ((UInt8.ofNat 0) :: ((UInt8.ofNat 0) :: ((UInt8.ofNat 0) :: ((UInt8.ofNat 0) :: ((UInt8.ofNat 0) :: ((UInt8.ofNat 0) :: ((UInt8.ofNat 0) :: ((UInt8.ofNat 0) :: ((UInt8.ofNat 0) :: ((UInt8.ofNat 0) :: ((UInt8.ofNat 0) :: ((UInt8.ofNat 0) :: ((UInt8.ofNat 0) :: ((UInt8.ofNat 0) :: ((UInt8.ofNat 0) :: ((UInt8.ofNat 0) :: ((UInt8.ofNat 0) :: ((UInt8.ofNat 0) :: ((UInt8.ofNat 0) :: ((UInt8.ofNat 0) :: ((UInt8.ofNat 0) :: ((UInt8.ofNat 0) :: ((UInt8.ofNat 0) :: ((UInt8.ofNat 0) :: ((UInt8.ofNat 0) :: ((UInt8.ofNat 0) :: ((UInt8.ofNat 0) :: ((UInt8.ofNat 0) :: ((UInt8.ofNat 0) :: ((UInt8.ofNat 0) :: ((UInt8.ofNat 0) :: ((UInt8.ofNat 0) :: ((UInt8.ofNat 0) :: ((UInt8.ofNat 0) :: ((UInt8.ofNat 0) :: ((UInt8.ofNat 0) :: ((UInt8.ofNat 0) :: ((UInt8.ofNat 0) :: ((UInt8.ofNat 0) :: ((UInt8.ofNat 0) :: ((UInt8.ofNat 0) :: ((UInt8.ofNat 0) :: ((UInt8.ofNat 0) :: ((UInt8.ofNat 0) :: ((UInt8.ofNat 0) :: ((UInt8.ofNat 0) :: ((UInt8.ofNat 0) :: ((UInt8.ofNat 0) :: ((UInt8.ofNat 0) :: ((UInt8.ofNat 0) :: ((UInt8.ofNat 0) :: ((UInt8.ofNat 0) :: ((UInt8.ofNat 0) :: ((UInt8.ofNat 0) :: ((UInt8.ofNat 0) :: ((UInt8.ofNat 0) :: ((UInt8.ofNat 0) :: ((UInt8.ofNat 0) :: ((UInt8.ofNat 0) :: ((UInt8.ofNat 0) :: ((UInt8.ofNat 0) :: ((UInt8.ofNat 0) :: ((UInt8.ofNat 0) :: ((UInt8.ofNat 0) :: ((UInt8.ofNat 0) :: ((UInt8.ofNat 0) :: ((UInt8.ofNat 0) :: ((UInt8.ofNat 0) :: ((UInt8.ofNat 0) :: ((UInt8.ofNat 0) :: ((UInt8.ofNat 0) :: ((UInt8.ofNat 0) :: ((UInt8.ofNat 0) :: ((UInt8.ofNat 0) :: ((UInt8.ofNat 0) :: ((UInt8.ofNat 0) :: ((UInt8.ofNat 0) :: ((UInt8.ofNat 0) :: ((UInt8.ofNat 0) :: ((UInt8.ofNat 0) :: ((UInt8.ofNat 0) :: ((UInt8.ofNat 0) :: ((UInt8.ofNat 0) :: ((UInt8.ofNat 0) :: ((UInt8.ofNat 0) :: ((UInt8.ofNat 0) :: ((UInt8.ofNat 0) :: ((UInt8.ofNat 0) :: ((UInt8.ofNat 0) :: ((UInt8.ofNat 0) :: ((UInt8.ofNat 0) :: ((UInt8.ofNat 0) :: ((UInt8.ofNat 0) :: ((UInt8.ofNat 0) :: ((UInt8.ofNat 0) :: ((UInt8.ofNat 0) :: ((UInt8.ofNat 0) :: ((UInt8.ofNat 0) :: ((UInt8.ofNat 0) :: ((UInt8.ofNat 0) :: ((UInt8.ofNat 0) :: ((UInt8.ofNat 0) :: ((UInt8.ofNat 0) :: ((UInt8.ofNat 0) :: ((UInt8.ofNat 0) :: ((UInt8.ofNat 0) :: ((UInt8.ofNat 0) :: ((UInt8.ofNat 0) :: ((UInt8.ofNat 0) :: ((UInt8.ofNat 0) :: ((UInt8.ofNat 0) :: ((UInt8.ofNat 0) :: ((UInt8.ofNat 0) :: ((UInt8.ofNat 0) :: ((UInt8.ofNat 0) :: ((UInt8.ofNat 0) :: ((UInt8.ofNat 0) :: ((UInt8.ofNat 0) :: ((UInt8.ofNat 0) :: ((UInt8.ofNat 0) :: ((UInt8.ofNat 0) ::
 ((UInt8.ofNat 0) :: ((UInt8.ofNat 0) :: ((UInt8.ofNat 0) :: ((UInt8.ofNat 0) :: ((UInt8.ofNat 0) :: ((UInt8.ofNat 0) :: ((UInt8.ofNat 0) :: ((UInt8.ofNat 0) :: ((UInt8.ofNat 0) :: ((UInt8.ofNat 0) :: ((UInt8.ofNat 0) :: ((UInt8.ofNat 0) :: ((UInt8.ofNat 0) :: ((UInt8.ofNat 0) :: ((UInt8.ofNat 0) :: ((UInt8.ofNat 0) :: ((UInt8.ofNat 0) :: ((UInt8.ofNat 0) :: ((UInt8.ofNat 0) :: ((UInt8.ofNat 0) :: ((UInt8.ofNat 0) :: ((UInt8.ofNat 0) :: ((UInt8.ofNat 0) :: ((UInt8.ofNat 0) :: ((UInt8.ofNat 0) :: ((UInt8.ofNat 0) :: ((UInt8.ofNat 0) :: ((UInt8.ofNat 0) :: ((UInt8.ofNat 0) :: ((UInt8.ofNat 0) :: ((UInt8.ofNat 0) :: ((UInt8.ofNat 0) :: ((UInt8.ofNat 0) :: ((UInt8.ofNat 0) :: ((UInt8.ofNat 0) :: ((UInt8.ofNat 0) :: ((UInt8.ofNat 0) :: ((UInt8.ofNat 0) :: ((UInt8.ofNat 0) :: ((UInt8.ofNat 0) :: ((UInt8.ofNat 0) :: ((UInt8.ofNat 0) :: ((UInt8.ofNat 0) :: ((UInt8.ofNat 0) :: ((UInt8.ofNat 0) :: ((UInt8.ofNat 0) :: ((UInt8.ofNat 0) :: ((UInt8.ofNat 0) :: ((UInt8.ofNat 0) :: ((UInt8.ofNat 0) :: ((UInt8.ofNat 0) :: ((UInt8.ofNat 0) :: ((UInt8.ofNat 0) :: ((UInt8.ofNat 0) :: ((UInt8.ofNat 0) :: ((UInt8.ofNat 0) :: ((UInt8.ofNat 0) :: ((UInt8.ofNat 0) :: ((UInt8.ofNat 0) :: ((UInt8.ofNat 0) :: ((UInt8.ofNat 0) :: ((UInt8.ofNat 0) :: ((UInt8.ofNat 0) :: ((UInt8.ofNat 0) :: ((UInt8.ofNat 0) :: ((UInt8.ofNat 0) :: ((UInt8.ofNat 0) :: ((UInt8.ofNat 0) :: ((UInt8.ofNat 0) :: ((UInt8.ofNat 0) :: ((UInt8.ofNat 0) :: ((UInt8.ofNat 0) :: ((UInt8.ofNat 0) :: ((UInt8.ofNat 0) :: ((UInt8.ofNat 0) :: ((UInt8.ofNat 0) :: ((UInt8.ofNat 0) :: ((UInt8.ofNat 0) :: ((UInt8.ofNat 0) :: ((UInt8.ofNat 0) :: ((UInt8.ofNat 0) :: ((UInt8.ofNat 0) :: ((UInt8.ofNat 0) :: ((UInt8.ofNat 0) :: ((UInt8.ofNat 0) :: ((UInt8.ofNat 0) :: ((UInt8.ofNat 0) :: ((UInt8.ofNat 0) :: ((UInt8.ofNat 0) :: ((UInt8.ofNat 0) :: ((UInt8.ofNat 0) :: ((UInt8.ofNat 0) :: ((UInt8.ofNat 0) :: ((UInt8.ofNat 0) :: ((UInt8.ofNat 0) :: ((UInt8.ofNat 0) :: ((UInt8.ofNat 0) :: ((UInt8.ofNat 0) :: ((UInt8.ofNat 0) :: ((UInt8.ofNat 0) :: ((UInt8.ofNat 0) :: ((UInt8.ofNat 0) :: ((UInt8.ofNat 0) :: ((UInt8.ofNat 0) :: ((UInt8.ofNat 0) :: ((UInt8.ofNat 0) :: ((UInt8.ofNat 0) :: ((UInt8.ofNat 0) :: ((UInt8.ofNat 0) :: ((UInt8.ofNat 0) :: ((UInt8.ofNat 0) :: ((UInt8.ofNat 0) :: ((UInt8.ofNat 0) :: ((UInt8.ofNat 0) :: ((UInt8.ofNat 0) :: ((UInt8.ofNat 0) :: ((UInt8.ofNat 0) :: ((UInt8.ofNat 0) :: ((UInt8.ofNat 0) :: ((UInt8.ofNat 0) :: ((UInt8.ofNat 0) :: ((UInt8.ofNat 0) :: ((UInt8.ofNat 0) :: ((UInt8.ofNat 0) :: ((UInt8.ofNat 0) :: ((UInt8.ofNat 0) :: ((UInt8.ofNat 0) :: ((UInt8.ofNat 0) :: ((UInt8.ofNat 0) :: ((UInt8.ofNat 0) :: ((UInt8.ofNat 0) :: ((UInt8.ofNat 0) :: ((UInt8.ofNat 0) :: ((UInt8.ofNat 0) :: ((UInt8.ofNat 0) :: ((UInt8.ofNat 0) :: ((UInt8.ofNat 0) :: ((UInt8.ofNat 0) :: ((UInt8.ofNat 0) :: ((UInt8.ofNat 0) :: ((UInt8.ofNat 0) :: ((UInt8.ofNat 0) :: ((UInt8.ofNat 0) :: ((UInt8.ofNat 0) :: ((UInt8.ofNat 0) :: ((UInt8.ofNat 0) :: ((UInt8.ofNat 0) :: ((UInt8.ofNat 0) :: ((UInt8.ofNat 0) :: ((UInt8.ofNat 0) :: ((UInt8.ofNat 0) :: ((UInt8.ofNat 0) :: ((UInt8.ofNat 0) :: ((UInt8.ofNat 0) :: ((UInt8.ofNat 0) :: ((UInt8.ofNat 0) :: ((UInt8.ofNat 0) :: ((UInt8.ofNat 0) :: ((UInt8.ofNat 0) :: ((UInt8.ofNat 0) :: ((UInt8.ofNat 0) :: ((UInt8.ofNat 0) :: ((UInt8.ofNat 0) :: ((UInt8.ofNat 0) :: ((UInt8.ofNat 0) :: ((UInt8.ofNat 0) :: ((UInt8.ofNat 0) :: ((UInt8.ofNat 0) :: ((UInt8.ofNat 0) :: ((UInt8.ofNat 0) :: ((UInt8.ofNat 0) :: ((UInt8.ofNat 0) :: ((UInt8.ofNat 0) :: ((UInt8.ofNat 0) :: ((UInt8.ofNat 0) :: ((UInt8.ofNat 0) :: ((UInt8.ofNat 0) :: ((UInt8.ofNat 0) :: ((UInt8.ofNat 0) :: ((UInt8.ofNat 0) :: ((UInt8.ofNat 0) :: ((UInt8.ofNat 0) :: ((UInt8.ofNat 0) :: ((UInt8.ofNat 0) :: ((UInt8.ofNat 0) :: ((UInt8.ofNat 0) :: ((UInt8.ofNat 0) :: ((UInt8.ofNat 0) :: ((UInt8.ofNat 0) :: ((UInt8.ofNat 0) :: ((UInt8.ofNat 0) :: ((UInt8.ofNat 0) :: ((UInt8.ofNat 0) :: ((UInt8.ofNat 0) :: ((UInt8.ofNat 0) :: ((UInt8.ofNat 0) :: ((UInt8.ofNat 0) :: ((UInt8.ofNat 0) :: ((UInt8.ofNat 0) :: ((UInt8.ofNat 0) :: ((UInt8.ofNat 0) :: ((UInt8.ofNat 0) :: ((UInt8.ofNat 0) :: ((UInt8.ofNat 0) :: ((UInt8.ofNat 0) :: ((UInt8.ofNat 0) :: ((UInt8.ofNat 0) :: ((UInt8.ofNat 0) :: ((UInt8.ofNat 0) :: ((UInt8.ofNat 0) :: ((UInt8.ofNat 0) :: ((UInt8.ofNat 0) :: ((UInt8.ofNat 0) :: ((UInt8.ofNat 0) :: ((UInt8.ofNat 0) :: ((UInt8.ofNat 0) :: ((UInt8.ofNat 0) :: ((UInt8.ofNat 0) :: ((UInt8.ofNat 0) :: ((UInt8.ofNat 0) :: ((UInt8.ofNat 0) :: ((UInt8.ofNat 0) :: ((UInt8.ofNat 0) :: []))))))))))))))))))))))))))))))))))))))))))))))))))))))))))))))))))))))))))))))))))))))))))))))))))))))))))))))))))))))))))))))))))))))))))))))))))))))))))))))))))))))))))))))))))))))))))))))))))))))))))))))))))))))))))))))))))))))))))))))))))))))))))))))))))))))))))))))))))))))))))))))))))))))))))))))))))))))))))))))))))))))))))))))))))))))))))))))))))))))))))))))))))))))))))))))))))))))))))))))))))))))))))))))))))))))))))))))))))))))))))))))))))))))))))))))))))))))))))))))))))))))))))))))))))))))))))))))))) (a 0)) (u 2 .int (u 3 .bytes (i (l z (a 2)) (i (l (a 2) (k 512)) (i (y 310 (b 3) (a 0) (a 2)) (.and (i (t (a 2) (k 512)) (n (t (a 2) (.f1 31 (b 3))) (n (.f1 23 (.f2 40 (a 2) (k 1))) (n (l z (.f2 41 (k 512) (.f2 40 (a 2) (k 1)))) (n (t (.f2 41 (k 512) (.f2 40 (a 2) (k 1))) (.f2 41 (k 512) (a 2))) (n (l z (.f2 40 (a 2) (k 1))) (n (l (.f2 40 (a 2) (k 1)) (k 512)) (n (y 310 (.f3 131 (b 3) (a 2) (.f1 14 (a 0))) (a 0) (.f2 40 (a 2) (k 1))) .tt)))))))) (i (l (k 512) (a 2)) (n (.f2 155 (b 3) (j 308 (a 0))) (n (l (.f1 31 (b 3)) (k 512)) (n (e (.f1 31 (b 3)) (k 512)) .tt))))))))))))))
theorem fd_vc : Yk Tryz.prog fdCx 12 11 Zut = fdVc := by kernel_rfl
theorem Zin {n : Int} (h1 : 4 <= n) (h2 : n <= 65536) : GoodD (Yx n) :=
 ⟨rfl, ⟨n.toNat, by omega, by omega, by
  show (List.replicate (512 * n.toNat) 0).length = n.toNat * 512 /\ (List.replicate (512 * n.toNat) 0).length <= 67108864
  rw [ZUA]; omega⟩, fun p hp => (nomatch hp), ⟨ZUu (-1), show (-1 : Int) <= 9223372036854775807 by decide⟩, ⟨ZUu 0, ZUu 0, ZUu 0⟩⟩
theorem ZRf (S : Sig GG) (hS : CsSig S) : Zs S Tryz.prog 5 ZGn := by
 refine Zd S (C := pnCx) (fuel := 12) (Zx trivial ⟨⟨⟨by decide, Zvn S hS⟩, ⟨by decide, Y9 S hS.dv _ _ _⟩, trivial⟩, trivial⟩ trivial) fun ρ => ?_
 rw [pn_vc]
 simp only [pnVc, Zcs, Zeb, Zbf, Zr, Zq, VC.den, SX.den, ZN, Env.upd, ZS, Zao, Z3, Z2, ZB, ZI, ZJ, ZH, beq_iff_eq, Bool.not_eq_true', beq_eq_false_iff_ne, ne_eq, Bool.not_not, U.tMi, Int.toNat_zero, Nat.reduceEqDiff, reduceIte, Zf, ZK, ZG, U.int.injEq, scs hS, sdv hS.dv, srg hS.rg, sB]
 generalize (ρ 0).tI = n
 intro h1 h2 h3
 have e : dvOn 512 (List.replicate (512 * n).toNat (UInt8.ofNat 0)) = Yx n := by
  unfold Yx
  rw [show (512 * n).toNat = 512 * n.toNat by omega]; rfl
 have hs : (Yx n).safe = List.replicate (512 * n).toNat (UInt8.ofNat 0) := by rw [<- e]; rfl
 simp only [e]
 refine ⟨fun _ => ⟨fun _ => ⟨trivial, fun _ => ⟨by omega, by omega, by omega, by omega, fun b b0 c c0 d d0 => ⟨trivial, rfl, ⟨fun _ => rfl, fun p hp => nomatch hp⟩, Zin h1 h2, trivial, hs, rfl, rfl, rfl, rfl, rfl, rfl, rfl, by rw [hs, ZUA]; omega, rfl, by first | trivial | rfl, trivial⟩⟩⟩, trivial⟩, trivial⟩
theorem ZAa {y : List UInt8} {x i : Int} (h : ZHk y x i) (h0 : 0 <= i) (h1 : i < 512) : ZHk (y.set i.toNat (UInt8.ofNat (x % 256).toNat)) x (i + 1) := by
 obtain ⟨a, b⟩ := h
 refine ⟨by rw [List.length_set]; exact a, ?_⟩
 rw [show (i + 1).toNat = i.toNat + 1 by omega, List.take_add_one, List.take_set_of_le (Nat.le_refl _), b, List.getElem?_set_self (by omega), List.replicate_succ']; rfl
theorem ZxS (S : Sig GG) (hS : CsSig S) : Zs S Tryz.prog 11 Zut := by
 refine Zd S (C := fdCx) (fuel := 12) (Zx trivial ⟨⟨trivial, trivial⟩, trivial⟩ trivial) fun ρ => ?_
 rw [fd_vc]
 simp only [fdVc, Zbf, Zr, Zq, VC.den, SX.den, ZN, Env.upd, ZS, Zao, Z3, Z2, ZB, ZI, ZJ, ZH, beq_iff_eq, Bool.not_eq_true', beq_eq_false_iff_ne, ne_eq, Bool.not_not, U.tMi, Int.toNat_zero, Nat.reduceEqDiff, reduceIte, Zf, ZK, ZG, U.int.injEq, scs hS, sdv hS.dv, srg hS.rg, sB]
 generalize (ρ 0).tI = n
 refine ⟨fun hn b hb => ⟨(if_pos hn).symm, trivial⟩, fun hn b hb => ⟨⟨rfl, rfl⟩, fun i Y i0 i1 hY => ⟨fun hl => ?_, fun hl => ?_⟩⟩⟩
 ·have h := ZAa hY i0 hl
  have e : (ap3 131 (U.bytes Y) (U.int i) (ap1 14 (U.int n : U GG))).tB = Y.set i.toNat (UInt8.ofNat (n % 256).toNat) := rfl
  rw [e]
  have hl2 := hY.1
  exact ⟨by omega, by omega, by omega, by omega, by omega, by omega, h, trivial⟩
 ·have hi : i = 512 := by omega
  obtain ⟨a, b⟩ := hY
  subst hi
  refine ⟨?_, by omega, by omega, trivial⟩
  unfold ZL
  rw [if_neg (by omega)]
  rw [show ((512 : Int)).toNat = 512 from rfl, ZUv (by omega)] at b
  exact b
end
end Go.Proofs.YtlcfjjjdhdfbdaaGreat
namespace Go.Proofs.YtlcfjjjdhdfbdaaGreat
noncomputable section
open Go.Eng
def ZHN : List (Nat × List Ctr) := [(45, [ZiQ 77]), (47, [Zee])]
def flK : SX := usN 297 (gA 2) z0 z0
def ZE5 : Ctr := ⟨[.int, .int, .g, .g], [.one (.ptr (ai 0) 0)], [csC (ai 0) (ai 1) (gA 2), plC (ai 1) (gA 3)], [eLe (usI 206 (gA 3) z0 z0) (.int 2305843009213693952), eLe (usI 211 (gA 3) z0 z0) (.int 549755813888), eLe (.f1 30 (usN 209 (gA 3) z0 z0)) (.int 140737488355328), usB 305 (gA 2) z0 z0], [],
 .one (.int .i64 (usI 296 (gA 2) (gA 3) flK)), [csC (ai 0) (ai 1) (usG 294 (gA 2) (gA 3) flK), plC (ai 1) (usG 295 (gA 2) (gA 3) flK)], []⟩
def flT : SX := tkI flK (di 0)
def flI (R : Nat) : Inv := ⟨[.int], [(14, .one (.int .i64 (di 0)))], [frC (rA R) (usG 294 (gA 2) (gA 3) flT), plC (ai 1) (usG 295 (gA 2) (gA 3) flT)], [eLe z0 (di 0), eLe (di 0) (Zb7 flK), .f2 45 (usI 296 (gA 2) (gA 3) flT) z0], .f2 41 (Zb7 flK) (di 0)⟩
def flCx : Cx := { specs := ZHN, anns := [(14, [(0, .ghost ZM2 []), (1, .ghost Zdo [.tmp 0]), (1, .ghost ZOH [.tmp 0]), (1, .ghost Zol []), (2, .inv (flI 6)), (5, .ghost Zln [.tmp 5]), (500005, .ghost ZkV [.tmp 5]), (6, .ghost Zln [.tmp 5]), (500006, .ghost ZkV [.tmp 5]), (9, .ghost Zln [.tmp 5]), (500009, .ghost ZIG [.tmp 5]), (999999, .ghost Znv [.tmp 0])])] }
def ZTs : SX := o 242 (r 6)
def ZIn : SX := o 297 (g 2)
def flX2 : SX := .f2 113 ZIn z
def ZOF : SX := .us .g 267 (g 2) (v 258 (g 2)) (v 259 (g 2)) (v 260 (g 2))
def ZQo : SX := .f1 30 ZIn
def flX5 : SX := .f2 113 ZIn (a 12)
def flX6 : SX := .f2 110 (s 10) (a 12)
def flX7 : SX := .f3 140 (k (- (0 + 1))) (m 7) flX6
def ZFA : SX := d 250 (r 6) flX7
def ZGm : SX := h 294 (g 2) (g 3) flX5
def ZKU : SX := wB 253 ZGm ZFA
def Zn6 : SX := .f1 31 ZKU
def ZFk : SX := l Zn6 (.f3 112 (r 6) ZFA (k 2))
def ZGs : SX := .f2 50 (l z (.f3 112 (r 6) ZFA (k 1))) (e Zn6 z)
def ZKf : SX := .f1 2 (c 254 ZGm ZFA)
def Ztc : SX := .f2 40 (a 12) (k 1)
def ZLP : SX := .f1 23 Ztc
def ZOs : SX := .f2 41 ZQo Ztc
def ZMe : SX := l z ZOs
def ZKx : SX := t ZOs (.f2 41 ZQo (a 12))
def ZMF : SX := l z Ztc
def ZMy : SX := l Ztc ZQo
def ZGx : SX := .f2 113 ZIn Ztc
def ZKm : SX := e (x 296 (g 2) (g 3) ZGx) z
def ZMb : SX := h 295 (g 2) (g 3) ZGx
def ZlB : SX := h 295 (g 2) (g 3) flX5
def ZN8 : SX := h 294 (g 2) (g 3) ZGx
def ZKv : SX := .f2 114 ZKU Zn6
def ZNQ : SX := x 222 ZlB flX6 ZKv
def ZJZ : SX := e ZNQ z
def ZNB : SX := .f2 155 ZTs ZTs
def ZLY : SX := y 251 (m 7) (r 6) ZGm
def ZLx : SX := .us .g 267 ZGm (v 258 ZOF) (v 259 ZOF) (v 260 ZOF)
def ZJP : SX := p 268 ZLx
def ZMc : SX := e (v 257 ZGm) (v 257 ZOF)
def ZL5 : SX := h 295 (g 2) (g 3) ZIn
def ZJw : SX := h 221 ZlB flX6 ZKv
def ZLA : SX := .f2 155 (h 294 (g 2) (g 3) ZIn) ZLx
def ZMH : SX := x 296 (g 2) (g 3) ZIn
def flVc : VC := i (l (v 206 (g 3)) k3) (i (l (v 211 (g 3)) k4) (i (l (.f1 30 (o 209 (g 3))) k1) (i (p 305 (g 2)) (u 4 .int (u 5 .int (u 6 .rows (u 7 .amap (i (y 251 (m 7) (r 6) (g 2)) (i (p 268 (g 2)) (i (e (.f1 32 (r 6)) (v 256 (g 2))) (i (l z (a 4)) (i (c 246 (a 5) ZTs) (i (c 249 (a 5) ZTs) (u 8 .int (i (l z (a 8)) (n (p 306 (m 7)) (n (l (.f1 33 (m 7)) (k 65536)) (u 9 .int (u 10 .ints (u 11 .int (i (.f2 155 (s 10) (o 298 (m 7))) (i (l (.f1 30 (s 10)) (a 11)) (n (e (x 296 (g 2) (g 3) flX2) z) (n (.f2 155 (h 295 (g 2) (g 3) flX2) (w 234 (g 3))) (n (.f2 155 (h 294 (g 2) (g 3) flX2) ZOF) (u 12 .int (i (l z (a 12)) (i (l (a 12) ZQo) (i (e (x 296 (g 2) (g 3) flX5) z) (.and (i (t (a 12) (.f1 30 (s 10))) (n (t ZFA (.f1 32 (r 6))) (i ZFk (i ZGs (n (l z ZFA) (n (e flX7 (.f3 112 (r 6) ZFA z)) (n (e (.f1 32 (r 6)) (v 256 ZGm)) (.and (i ZKf (n ZLP (n ZMe (n ZKx (n ZMF (n ZMy (n ZKm (n (.f2 155 ZMb ZlB) (n (.f2 155 ZN8 ZGm) .tt))))))))) (i (.f1 2 ZKf) (i ZFk (i ZGs (n (l Zn6 Zn6) (n (l Zn6 k0) (n (l (v 206 ZlB) k2) (n (l (v 211 ZlB) k0) (n (l (.f1 30 (o 209 ZlB)) k1) (.and (i (.f1 2 ZJZ) (n ZNB (n ZLY (n ZJP (n ZMc (n (.f2 155 ZL5 ZJw) (n ZLA (n (e ZMH ZNQ) .tt)))))))) (i ZJZ (i ZFk (i ZGs (n ZLP (n ZMe (n ZKx (n ZMF (n ZMy (n ZKm (n (.f2 155 ZMb ZJw) (n (.f2 155 ZN8 (f 293 ZGm ZFA)) .tt)))))))))))))))))))))))))))) (i (l (.f1 30 (s 10)) (a 12)) (n ZNB (n ZLY (n ZJP (n ZMc (n (.f2 155 ZL5 ZlB) (n ZLA (n (e ZMH z) .tt))))))))))))))))))))))))))))))))))))))
theorem fl_vc : Yk Tryz.prog flCx 12 14 ZE5 = flVc := by kernel_rfl
theorem ZaR (n : Int) (l : List Int) (c : Cs) (d : Dv) : flS (n :: l) c d = bif (c.at' (c.idx n : Nat)).dirty then (if d.wrE n (c.at' (c.idx n : Nat)).b = 0 then flS l (c.clean (c.idx n : Nat)) (d.wrD n (c.at' (c.idx n : Nat)).b) else (c, d.wrD n (c.at' (c.idx n : Nat)).b, d.wrE n (c.at' (c.idx n : Nat)).b)) else flS l c d := rfl
theorem Zgl : ∀ (l r : List Int) (c : Cs) (d : Dv), flS (l ++ r) c d = if (flS l c d).2.2 = 0 then flS r (flS l c d).1 (flS l c d).2.1 else flS l c d
 | [], r, c, d => (if_pos rfl).symm
 | n :: l, r, c, d => by
  rw [List.cons_append, ZaR n (l ++ r), ZaR n l]
  cases hd : (c.at' (c.idx n : Nat)).dirty
  ·simp only [cond_false]; exact Zgl l r c d
  ·simp only [cond_true]
   by_cases hw : d.wrE n (c.at' (c.idx n : Nat)).b = 0
   ·rw [if_pos hw, if_pos hw]; exact Zgl l r _ _
   ·rw [if_neg hw, if_neg hw]
    simp only
    rw [if_neg hw]
theorem Zj3 {c : Cs} {n : Int} (h : (c.at' (c.idx n : Nat)).dirty = true) : c.idx n < c.fr.length := by
 rcases Nat.lt_or_ge (c.idx n) c.fr.length with h1 | h1
 ·exact h1
 ·have : c.at' (c.idx n : Nat) = fr0 := by
   show c.fr.getD _ fr0 = _
   rw [ZUq, ZUj, List.getElem?_eq_none h1]; rfl
  rw [this] at h; cases h
theorem ZoI {c : Cs} {i : Nat} (hi : i < c.fr.length) {f : Fr} (hn : f.n = (c.at' (i : Nat)).n) : (c.put (i : Nat) f).fr.map (·.n) = c.fr.map (·.n) := by
 have hF := ZO (d := fr0) hi
 show (c.fr.take i ++ f :: c.fr.drop (i + 1)).map (·.n) = _
 conv => rhs; rw [hF]
 have hn : f.n = (c.fr.getD i fr0).n := hn
 simp [hn]
structure KeepC (c e : Cs) : Prop where
 n : e.fr.map (·.n) = c.fr.map (·.n)
 frames : e.frames = c.frames
 hits : e.hits = c.hits
 misses : e.misses = c.misses
 evic : e.evic = c.evic
 good : GoodC c -> GoodC e
theorem KeepC.refl (c : Cs) : KeepC c c := ⟨rfl, rfl, rfl, rfl, rfl, id⟩
theorem KeepC.trans {a b c : Cs} (h : KeepC a b) (k : KeepC b c) : KeepC a c := ⟨k.n.trans h.n, k.frames.trans h.frames, k.hits.trans h.hits, k.misses.trans h.misses, k.evic.trans h.evic, fun g => k.good (h.good g)⟩
theorem KeepC.clean {c : Cs} {i : Nat} (hi : i < c.fr.length) : KeepC c (c.clean (i : Nat)) :=
 ⟨ZoI hi rfl, rfl, rfl, rfl, rfl, fun g => g.put hi rfl (show 0 <= (c.at' (i : Nat)).pins from g.pins _ (Y2 hi)) (show (c.at' (i : Nat)).b.length <= 65536 from g.b _ (Y2 hi))⟩
theorem Zkf : ∀ (l : List Int) (c : Cs) (d : Dv), KeepC c (flS l c d).1
 | [], c, d => KeepC.refl c
 | n :: l, c, d => by
  unfold flS
  cases hd : (c.at' (c.idx n : Nat)).dirty
  ·exact Zkf l c d
  ·simp only [cond_true]
   by_cases hw : d.wrE n (c.at' (c.idx n : Nat)).b = 0
   ·rw [if_pos hw]; exact (KeepC.clean (Zj3 hd)).trans (Zkf l _ _)
   ·rw [if_neg hw]; exact KeepC.refl c
structure MoreD (k : Nat) (d e : Dv) : Prop where
 wr : e.wr <= d.wr + k
 w : e.w.length <= d.w.length + k
 keep : e.keep = d.keep
theorem ZrK (d : Dv) (n : Int) (x : List UInt8) : MoreD 1 d (d.wrD n x) := by
 unfold Dv.wrD
 split
 ·exact ⟨by omega, by omega, rfl⟩
 ·split
  ·exact ⟨by omega, by omega, rfl⟩
  ·unfold Dv.writ
   simp only
   split
   ·exact ⟨ZUu _, Nat.zero_le _, rfl⟩
   ·refine ⟨ZUu _, ?_, rfl⟩
    show (d.w ++ [(n, x)]).length <= _
    rw [ZUo]; exact Nat.le_refl _
theorem ZiO : ∀ (l : List Int) (c : Cs) (d : Dv), MoreD l.length d (flS l c d).2.1
 | [], c, d => ⟨by show d.wr <= d.wr + 0; omega, Nat.le_refl _, rfl⟩
 | n :: l, c, d => by
  unfold flS
  cases hd : (c.at' (c.idx n : Nat)).dirty
  ·have h := ZiO l c d
   exact ⟨by have := h.wr; show _ <= d.wr + ((l.length + 1 : Nat) : Int); simp only [cond_false]; omega, by have := h.w; show _ <= d.w.length + (l.length + 1); simp only [cond_false]; omega, h.keep⟩
  ·simp only [cond_true]
   have h1 := ZrK d n (c.at' (c.idx n : Nat)).b
   by_cases hw : d.wrE n (c.at' (c.idx n : Nat)).b = 0
   ·rw [if_pos hw]
    have h := ZiO l (c.clean (c.idx n : Nat)) (d.wrD n (c.at' (c.idx n : Nat)).b)
    have a1 := h.wr; have a2 := h1.wr; have a3 := h.w; have a4 := h1.w
    exact ⟨by show _ <= d.wr + ((l.length + 1 : Nat) : Int); omega, by show _ <= d.w.length + (l.length + 1); omega, h.keep.trans h1.keep⟩
   ·rw [if_neg hw]
    have a2 := h1.wr; have a4 := h1.w
    exact ⟨by show _ <= d.wr + ((l.length + 1 : Nat) : Int); simp only; omega, by show _ <= d.w.length + (l.length + 1); simp only; omega, h1.keep⟩
theorem ZSQ : ∀ {a b : List Fr} (R : List (List Int)), a.map (·.n) = b.map (·.n) -> prs a R = prs b R
 | [], [], R, _ => rfl
 | f :: a, g :: b, [], _ => rfl
 | f :: a, g :: b, r :: R, h => by
  rw [ZUs, ZUs] at h
  injection h with h1 h2
  show (f.n, g0 r) :: prs a R = (g.n, g0 r) :: prs b R
  rw [h1, ZSQ R h2]
theorem ZQw {a b : List Fr} (h : a.map (·.n) = b.map (·.n)) : a.length = b.length := by have := congrArg List.length h; rwa [ZUt, ZUt] at this
theorem ZX.ofn {m : List (Int × Int)} {R : List (List Int)} {a b : List Fr} (h : ZX m R a) (e : b.map (·.n) = a.map (·.n)) : ZX m R b :=
 ⟨h.1.trans (ZQw e).symm, by rw [e]; exact h.2.1, by rw [ZSQ R e]; exact h.2.2⟩
theorem ZX.perm {m : List (Int × Int)} {R : List (List Int)} {fr : List Fr} (h : ZX m R fr) : (m.map (·.1)).Perm (fr.map (·.n)) := by
 have := h.2.2.map (·.1); rwa [ZgR h.1] at this
theorem Zts {a b : List Int} (h : a.Perm b) : sortK a = sortK b := Go.mergeSort_of_perm_i h
theorem Zgv {a : List Int} {x : Int} : x ∈ sortK a ↔ x ∈ a := (List.mergeSort_perm a _).mem_iff
theorem ZBJ (a : List Int) : (sortK a).length = a.length := (List.mergeSort_perm a _).length_eq
theorem ZoL {c : Cs} {n : Int} (h : n ∈ c.fr.map (·.n)) : c.idx n < c.fr.length := by
 rcases Nat.lt_or_ge (c.idx n) c.fr.length with h1 | h1
 ·exact h1
 ·obtain ⟨f, hf, e⟩ := List.mem_map.1 h
  have := Zqp (c := c) (n := n) (fun q => absurd (show c.idx n < c.fr.length from q) (by omega)) f hf
  rw [e] at this; simp at this
theorem ZEW {S : Sig GG} (hS : CsSig S) (hk : ZfZ Tryz.prog 45 77) : YK S Tryz.prog ZHN := ⟨Zc (by decide) (sk_of S hS hk), Zc (by decide) (Zeo S hS.dv), trivial⟩
theorem ZRF (S : Sig GG) (hS : CsSig S) (hk : ZfZ Tryz.prog 45 77) : Zs S Tryz.prog 14 ZE5 := by
 refine Zd S (C := flCx) (fuel := 12) (Zx (ZEW hS hk) ⟨⟨⟨by decide, ZsC S hS⟩, ⟨by decide, Zba S hS⟩, ⟨by decide, ZBv S hS⟩, ⟨by decide, Zca S hS.rg⟩, trivial, ⟨by decide, ZbE S hS⟩, ⟨by decide, Zcp S hS⟩, ⟨by decide, ZbE S hS⟩, ⟨by decide, Zcp S hS⟩, ⟨by decide, ZbE S hS⟩, ⟨by decide, ZPo S hS⟩, ⟨by decide, Zb9 S hS⟩, trivial⟩, trivial⟩ trivial) fun ρ => ?_
 rw [fl_vc]
 simp only [flVc, ZTs, ZIn, flX2, ZOF, ZQo, flX5, flX6, flX7, ZFA, ZGm, ZKU, Zn6, ZFk, ZGs, ZKf, Ztc, ZLP, ZOs, ZMe, ZKx, ZMF, ZMy, ZGx, ZKm, ZMb, ZlB, ZN8, ZKv, ZNQ, ZJZ, ZNB, ZLY, ZLx, ZJP, ZMc, ZL5, ZJw, ZLA, ZMH, Zeb, Zbf, Zr, Zq, VC.den, SX.den, ZN, Env.upd, ZS, Zao, Z3, Z2, ZB, ZI, ZJ, ZH, beq_iff_eq, Bool.not_eq_true', beq_eq_false_iff_ne, ne_eq, Bool.not_not, U.tMi, Int.toNat_zero, Nat.reduceEqDiff, reduceIte, Zf, ZK, ZG, U.int.injEq, scs hS, sdv hS.dv, srg hS.rg, sB]
 generalize Zn (U.co S .g (ρ 2)) = c
 generalize Zk (U.co S .g (ρ 3)) = d
 intro q1 q2 q3 q4 hm H R m hh hg hlen hpos hnd hp _ _
 have hlen' := hh.1
 have hml := hh.len
 have hfr := hg.frames
 have hgl := hg.len
 have hperm := hh.perm
 have hK : sortK (m.map (·.1)) = c.keys := Zts hperm
 have hKl : c.keys.length = c.fr.length := by rw [<- ZUt (f := fun f : Fr => f.n)]; exact ZBJ _
 refine ⟨fun p hpm => ?_, by omega, fun b X cp x1 x2 => ?_⟩
 ·obtain ⟨f, hf, e⟩ := List.mem_map.1 (hperm.mem_iff.1 (List.mem_map.2 ⟨p, hpm, rfl⟩))
  have := q4 f hf
  rw [<- e]; exact this
 rw [hK] at x1
 subst x1
 refine ⟨rfl, by first | trivial | rfl, by first | trivial | rfl, fun i i0 i1 hE => ?_⟩
 have hkeep := Zkf (c.keys.take i.toNat) c d
 have hmore := ZiO (c.keys.take i.toNat) c d
 have htl : (c.keys.take i.toNat).length <= 4096 := by rw [ZUl]; omega
 have hall := Zgl (c.keys.take i.toNat) (c.keys.drop i.toNat) c d
 rw [List.take_append_drop, if_pos hE] at hall
 have hnx : i.toNat < c.keys.length -> flS (c.keys.take (i + 1).toNat) c d = flS [c.keys.getD i.toNat 0] (flS (c.keys.take i.toNat) c d).1 (flS (c.keys.take i.toNat) c d).2.1 := by
  intro h
  have e : c.keys.take (i + 1).toNat = c.keys.take i.toNat ++ [c.keys.getD i.toNat 0] := by
   rw [show (i + 1).toNat = i.toNat + 1 by omega, List.take_add_one, ZUm h, ZUj, ZUm h]; rfl
  rw [e, Zgl, if_pos hE]
 have hw1 := hmore.wr
 have hw2 := hmore.w
 have hw3 := hmore.keep
 generalize flS (c.keys.take i.toNat) c d = st at *
 obtain ⟨ci, di, ei⟩ := st
 simp only at hkeep hmore hall hnx hE hw1 hw2 hw3 ⊢
 have hh' : ZX m R ci.fr := hh.ofn hkeep.n
 have hgi := hkeep.good hg
 have heq : ({ fr := ci.fr, frames := ci.frames, hits := c.hits, misses := c.misses, evic := c.evic } : Cs) = ci := by rw [<- hkeep.hits, <- hkeep.misses, <- hkeep.evic]
 have hli := ZQw hkeep.n
 simp only [heq]
 refine ⟨fun hlt => ?_, fun hge => ?_⟩
 ·have hlt' : i.toNat < c.keys.length := by omega
  have hnx := hnx hlt'
  have hkm : c.keys.getD i.toNat 0 ∈ c.fr.map (·.n) := by
   rw [<- Zgv, ZUj, ZUm hlt']
   exact ZUG _
  have hdrop : c.keys.drop i.toNat = c.keys.getD i.toNat 0 :: c.keys.drop (i.toNat + 1) := by
   rw [List.drop_eq_getElem_cons hlt', ZUj, ZUm hlt']; rfl
  rw [hdrop, ZaR] at hall
  rw [ZaR] at hnx
  generalize c.keys.getD i.toNat 0 = k at *
  have hj : ci.idx k < ci.fr.length := ZoL (by rw [hkeep.n]; exact hkm)
  have hl : Y5 (-(0 + 1)) m k = g0 (R.getD (ci.idx k) []) := by have := hh'.get (d := -(0 + 1)) hj; rwa [Cs.idx_n hj] at this
  have hr : Zcc (Y5 (-(0 + 1)) m k) R = ci.idx k := by
   rw [hl, Zah, <- Zac R _ (by omega)]; exact Zab (List.nodup_cons.1 hnd).2 (by rw [ZUt]; omega)
  have hat := Y2 hj
  have hb := hgi.b _ hat
  simp only [hr, ZUq, List.take_length]
  refine ⟨by omega, fun _ _ => ⟨by omega, hl, by omega, fun hdt => ?_, fun hdt _ _ => ⟨ZUu _, by omega, by omega, by omega, by rw [hw3]; omega, fun hE2 => ?_, fun hE2 _ _ => ?_⟩⟩⟩
  ·rw [hdt] at hnx
   simp only [cond_false] at hnx
   rw [hnx]
   exact ⟨by omega, by omega, by omega, by omega, by omega, rfl, by first | trivial | rfl, by first | trivial | rfl, trivial⟩
  ·rw [hdt, cond_true, if_neg hE2] at hall
   rw [hall]
   exact ⟨trivial, hh', hgi, hkeep.frames, by first | trivial | rfl, by first | trivial | rfl, rfl, trivial⟩
  ·rw [hdt, cond_true, if_pos hE2] at hnx
   rw [hnx]
   exact ⟨by omega, by omega, by omega, by omega, by omega, rfl, by first | trivial | rfl, by first | trivial | rfl, trivial⟩
 ·have hd : c.keys.drop i.toNat = [] := List.drop_eq_nil_of_le (by omega)
  rw [hd] at hall
  rw [hall]
  exact ⟨trivial, hh', hgi, hkeep.frames, by first | trivial | rfl, by first | trivial | rfl, rfl, trivial⟩
end
end Go.Proofs.YtlcfjjjdhdfbdaaGreat
namespace Go.Proofs
open Go.Shelf
def Tryz.keysK_ren : Go.Shelf.Ren := ⟨fun | 7 => 46 | 10 => 77 | n => n, fun | 23 => 69 | 26 => 3 | 3 => 70 | 28 => 96 | 0 => 0 | 27 => 95 | 33 => 57 | 4 => 4 | n => n, fun | n => n⟩
theorem Tryz.keysK : Go.Proofs.SlLaysZI.n7 Tryz.prog Tryz.keysK_ren := {
 mixed := by kernel_rfl
 f7 := ⟨Tryz.f46.name, by decide, Tryz.func46.trans (congrArg some (by kernel_rfl))⟩
 f10 := ⟨Tryz.f77.name, by decide, Tryz.func77.trans (congrArg some (by kernel_rfl))⟩
 t0 := Tryz.underlying0
 a0 := Tryz.isAgg0
 z0 := Tryz.sizeOf0
 v0 := Tryz.zeroValue0
 t4 := Tryz.underlying4
 a4 := Tryz.isAgg4
 z4 := Tryz.sizeOf4
 v4 := Tryz.zeroValue4
 t23 := Tryz.underlying69
 a23 := Tryz.isAgg69
 z23 := Tryz.sizeOf69
 v23 := Tryz.zeroValue69
 t26 := Tryz.underlying3
 a26 := Tryz.isAgg3
 z26 := Tryz.sizeOf3
 v26 := Tryz.zeroValue3
 t27 := Tryz.underlying95
 a27 := Tryz.isAgg95
 z27 := Tryz.sizeOf95
 v27 := Tryz.zeroValue95
 t28 := Tryz.underlying96
 a28 := Tryz.isAgg96
 z28 := Tryz.sizeOf96
 v28 := Tryz.zeroValue96
 t33 := Tryz.underlying57
 a33 := Tryz.isAgg57
 z33 := Tryz.sizeOf57
 v33 := Tryz.zeroValue57 }
def Tryz.sortedK_ren : Go.Shelf.Ren := ⟨fun | 6 => 45 | 8 => 75 | 9 => 76 | 11 => 87 | 13 => 89 | 12 => 88 | 23 => 101 | 24 => 102 | 14 => 92 | 15 => 93 | 16 => 94 | 17 => 95 | 18 => 96 | 19 => 97 | 20 => 98 | 21 => 99 | 22 => 100 | 25 => 104 | 26 => 105 | 27 => 106 | 28 => 107 | 29 => 108 | 30 => 109 | 31 => 110 | n => n, fun | 26 => 3 | 28 => 96 | 24 => 41 | 0 => 0 | 3 => 3 | 37 => 118 | 48 => 128 | 50 => 130 | 4 => 4 | 40 => 122 | 39 => 121 | 45 => 98 | 5 => 5 | 9 => 9 | 51 => 132 | 55 => 136 | 57 => 138 | 58 => 139 | 33 => 57 | n => n, fun | n => n⟩
theorem Tryz.sortedK : Go.Proofs.SlLaysZI.n6 Tryz.prog Tryz.sortedK_ren := {
 mixed := by kernel_rfl
 f6 := ⟨Tryz.f45.name, by decide, Tryz.func45.trans (congrArg some (by kernel_rfl))⟩
 f8 := ⟨Tryz.f75.name, by decide, Tryz.func75.trans (congrArg some (by kernel_rfl))⟩
 f11 := ⟨Tryz.f87.name, by decide, Tryz.func87.trans (congrArg some (by kernel_rfl))⟩
 t0 := Tryz.underlying0
 a0 := Tryz.isAgg0
 z0 := Tryz.sizeOf0
 v0 := Tryz.zeroValue0
 t24 := Tryz.underlying41
 a24 := Tryz.isAgg41
 z24 := Tryz.sizeOf41
 v24 := Tryz.zeroValue41
 t26 := Tryz.underlying3
 a26 := Tryz.isAgg3
 z26 := Tryz.sizeOf3
 v26 := Tryz.zeroValue3
 t28 := Tryz.underlying96
 a28 := Tryz.isAgg96
 z28 := Tryz.sizeOf96
 v28 := Tryz.zeroValue96
 i26 := by kernel_rfl }
def Tryz.sortK_ren : Go.Shelf.Ren := ⟨fun | 5 => 76 | 8 => 89 | 7 => 88 | 19 => 101 | 20 => 102 | 10 => 92 | 11 => 93 | 12 => 94 | 13 => 95 | 14 => 96 | 15 => 97 | 16 => 98 | 17 => 99 | 18 => 100 | 30 => 104 | 31 => 105 | 32 => 106 | 33 => 107 | 34 => 108 | 35 => 109 | 40 => 110 | n => n, fun | 23 => 41 | 25 => 3 | 3 => 3 | 32 => 118 | 22 => 41 | 0 => 0 | 44 => 128 | 46 => 130 | 4 => 4 | 36 => 122 | 35 => 121 | 41 => 98 | 5 => 5 | 9 => 9 | 53 => 132 | 57 => 136 | 63 => 138 | 64 => 139 | n => n, fun | n => n⟩
theorem Tryz.sortK : Go.Proofs.SlLaysM.n5 Tryz.prog Tryz.sortK_ren := {
 mixed := by kernel_rfl
 f5 := ⟨Tryz.f76.name, by decide, Tryz.func76.trans (congrArg some (by kernel_rfl))⟩
 f7 := ⟨Tryz.f88.name, by decide, Tryz.func88.trans (congrArg some (by kernel_rfl))⟩
 f8 := Tryz.func89.trans (congrArg some (by kernel_rfl))
 f10 := ⟨Tryz.f92.name, by decide, Tryz.func92.trans (congrArg some (by kernel_rfl))⟩
 f11 := ⟨Tryz.f93.name, by decide, Tryz.func93.trans (congrArg some (by kernel_rfl))⟩
 f12 := ⟨Tryz.f94.name, by decide, Tryz.func94.trans (congrArg some (by kernel_rfl))⟩
 f13 := ⟨Tryz.f95.name, by decide, Tryz.func95.trans (congrArg some (by kernel_rfl))⟩
 f14 := ⟨Tryz.f96.name, by decide, Tryz.func96.trans (congrArg some (by kernel_rfl))⟩
 f15 := ⟨Tryz.f97.name, by decide, Tryz.func97.trans (congrArg some (by kernel_rfl))⟩
 f16 := ⟨Tryz.f98.name, by decide, Tryz.func98.trans (congrArg some (by kernel_rfl))⟩
 f17 := ⟨Tryz.f99.name, by decide, Tryz.func99.trans (congrArg some (by kernel_rfl))⟩
 f18 := ⟨Tryz.f100.name, by decide, Tryz.func100.trans (congrArg some (by kernel_rfl))⟩
 f19 := Tryz.func101.trans (congrArg some (by kernel_rfl))
 f20 := Tryz.func102.trans (congrArg some (by kernel_rfl))
 f30 := ⟨Tryz.f104.name, by decide, Tryz.func104.trans (congrArg some (by kernel_rfl))⟩
 f31 := Tryz.func105.trans (congrArg some (by kernel_rfl))
 f32 := Tryz.func106.trans (congrArg some (by kernel_rfl))
 f33 := ⟨Tryz.f107.name, by decide, Tryz.func107.trans (congrArg some (by kernel_rfl))⟩
 f34 := ⟨Tryz.f108.name, by decide, Tryz.func108.trans (congrArg some (by kernel_rfl))⟩
 f35 := ⟨Tryz.f109.name, by decide, Tryz.func109.trans (congrArg some (by kernel_rfl))⟩
 f40 := ⟨Tryz.f110.name, by decide, Tryz.func110.trans (congrArg some (by kernel_rfl))⟩
 t0 := Tryz.underlying0
 a0 := Tryz.isAgg0
 z0 := Tryz.sizeOf0
 v0 := Tryz.zeroValue0
 t3 := Tryz.underlying3
 a3 := Tryz.isAgg3
 z3 := Tryz.sizeOf3
 v3 := Tryz.zeroValue3
 t4 := Tryz.underlying4
 a4 := Tryz.isAgg4
 z4 := Tryz.sizeOf4
 v4 := Tryz.zeroValue4
 t5 := Tryz.underlying5
 a5 := Tryz.isAgg5
 z5 := Tryz.sizeOf5
 v5 := Tryz.zeroValue5
 t9 := Tryz.underlying9
 a9 := Tryz.isAgg9
 z9 := Tryz.sizeOf9
 v9 := Tryz.zeroValue9
 t22 := Tryz.underlying41
 a22 := Tryz.isAgg41
 z22 := Tryz.sizeOf41
 v22 := Tryz.zeroValue41
 t23 := Tryz.underlying41
 a23 := Tryz.isAgg41
 z23 := Tryz.sizeOf41
 v23 := Tryz.zeroValue41
 t25 := Tryz.underlying3
 a25 := Tryz.isAgg3
 z25 := Tryz.sizeOf3
 v25 := Tryz.zeroValue3
 t32 := Tryz.underlying118
 a32 := Tryz.isAgg118
 z32 := Tryz.sizeOf118
 v32 := Tryz.zeroValue118
 t35 := Tryz.underlying121
 a35 := Tryz.isAgg121
 z35 := Tryz.sizeOf121
 v35 := Tryz.zeroValue121
 t36 := Tryz.underlying122
 a36 := Tryz.isAgg122
 z36 := Tryz.sizeOf122
 v36 := Tryz.zeroValue122
 t41 := Tryz.underlying98
 a41 := Tryz.isAgg98
 z41 := Tryz.sizeOf98
 v41 := Tryz.zeroValue98
 t44 := Tryz.underlying128
 a44 := Tryz.isAgg128
 z44 := Tryz.sizeOf128
 v44 := Tryz.zeroValue128
 t46 := Tryz.underlying130
 a46 := Tryz.isAgg130
 z46 := Tryz.sizeOf130
 v46 := Tryz.zeroValue130
 t53 := Tryz.underlying132
 a53 := Tryz.isAgg132
 z53 := Tryz.sizeOf132
 v53 := Tryz.zeroValue132
 t57 := Tryz.underlying136
 a57 := Tryz.isAgg136
 z57 := Tryz.sizeOf136
 v57 := Tryz.zeroValue136
 t63 := Tryz.underlying138
 a63 := Tryz.isAgg138
 z63 := Tryz.sizeOf138
 v63 := Tryz.zeroValue138
 t64 := Tryz.underlying139
 a64 := Tryz.isAgg139
 z64 := Tryz.sizeOf139
 v64 := Tryz.zeroValue139 }
end Go.Proofs
namespace Go.Proofs
open Go.RowKit Go.Maps Go.Sort Go.Shelf
theorem Tryz.sortsK (m : Nat) : AnyZI.SortsIn Tryz.prog Tryz.sortedK_ren Fence.wide m :=
 ⟨fun blk off cap ss W hH hblk hsz => callsIn_wide.2 (AnyM.slices_Sort_int Tryz.sortK blk off cap ss W hH hblk hsz),
  fun p cap W => callsIn_wide.2 (AnyM.slices_Sort_int_none Tryz.sortK p cap W)⟩
theorem Tryz.sortedKeys {H : Type} (b0 b nn : Nat) (D0 : DataW H) (R : Value -> Option (DataW H × List MemPlace)) (w : World) (h0 : b0 < w.heap.size) (hc : w.cell? ⟨b0, 0, none⟩ = some (.map (some b)))
  (hown : w.ownsMap Tryz.prog 3 R b nn D0) (hmax : Maps.size D0 <= maxLen) (hbytes : Maps.size D0 * 8 <= 140737488355328) :
  Calls Tryz.prog 45 #[.func (.func 77) #[] #[.pointer (some ⟨b0, 0, none⟩)]] w fun e w' => ∃ (v : Value) (ss : List Int), e = .returned v /\ ss.Perm (intKeys D0) ∧
   w'.ownsRow w.heap.size 3 1 v ss.length ((ss.mergeSort (fun x y => decide (x <= y))).map encZ) /\ (v = .slice none 0 0 ↔ ss = []) /\ Below w.heap.size w w' := by
 refine (callsIn_wide (n := 5)).1 ?_
 have hseq : SeqGives Fence.wide 2 Tryz.prog 77 #[.pointer (some ⟨b0, 0, none⟩)] encZ (fun ss => ss.Perm (intKeys D0)) (Maps.size D0) w :=
  AnyZI.keys_gives (ρ := Tryz.keysK_ren) { Tryz.keysK with } Fence.wide _ trivial rfl (by omega) b0 b nn D0 w h0 hc hown
 have cS := AnyZI.sorted_in Tryz.sortedK Fence.wide 5 trivial trivial trivial trivial rfl (by omega) (Tryz.sortsK _) (enters_of Tryz.func76 (by kernel_rfl) rfl) 77 #[.pointer (some ⟨b0, 0, none⟩)] trivial (enters_of Tryz.func77 (by kernel_rfl) rfl) _ _ hmax hbytes _ hseq
 exact cS
end Go.Proofs
namespace Go.Proofs.YtlcfjjjdhdfbdaaGreat
noncomputable section
open Go.Eng
open Go.RowKit (Below)
open Go.WideElems (Fit rd rg)
abbrev skR : Value -> Option (DataW Unit × List MemPlace) := fun _ => some (.nil, [])
theorem Zmc : ZfZ Tryz.prog 45 77 := by
 refine ⟨3, fun b0 b1 es clock m w hm hk hl h0 hc hb => ?_⟩
 obtain ⟨m1, m2, m3, m4⟩ := hm
 have hu : Tryz.prog.underlying 3 = some (.int .i64) := Tryz.underlying3
 have hkey : es.toList.map (·.key) = m.map (fun p => Value.int .i64 p.1) := by
  have := congrArg (List.map Prod.fst) m1
  rw [List.map_map, List.map_map] at this; exact this
 have hsz : es.size = m.length := by have := congrArg List.length hkey; rw [ZUt, ZUt] at this; exact this
 have hnd : (es.toList.map (·.key)).Nodup := by
  rw [hkey]
  have e : m.map (fun p => Value.int .i64 p.1) = (m.map (·.1)).map (Value.int .i64) := by rw [List.map_map]; rfl
  rw [e]
  exact List.pairwise_map.2 (List.Pairwise.imp (fun {a b} h e => h (by injection e)) m2)
 have hrd : ∀ x ∈ es.toList, ∃ n : Int, x.key = .int .i64 n /\ rd (H := Unit) Tryz.prog 3 skR x = some (.int .i64 n, .nil) := by
  intro x hx
  have hmem : x.key ∈ m.map (fun p => Value.int .i64 p.1) := by rw [<- hkey]; exact List.mem_map.2 ⟨x, hx, rfl⟩
  obtain ⟨p, hp, e⟩ := List.mem_map.1 hmem
  have hp2 := hk p hp
  refine ⟨p.1, e.symm, ?_⟩
  unfold rd
  rw [<- e, Go.Maps.keyOf_int_mk hu (by
   show (decide (IntKind.min .i64 <= p.1) && decide (p.1 <= IntKind.max .i64)) = true
   rw [Bool.and_eq_true, decide_eq_true_eq, decide_eq_true_eq]
   exact ⟨Int.le_trans (by decide) hp2.1, Int.le_trans (Int.le_of_lt hp2.2) (by decide)⟩)]
  rfl
 have hfit : Fit Tryz.prog 3 skR es clock := ⟨by unfold maxLen; omega, ⟨m4, m3, hnd⟩, fun x hx => by obtain ⟨n, _, h⟩ := hrd x hx; exact ⟨_, h⟩⟩
 have hown : w.ownsMap Tryz.prog 3 skR b1 es.size (.map ((es.toList.map (rg Tryz.prog 3 skR)).foldr DataW.insert [])) := ⟨es, clock, hb, hfit, Nat.le_refl _, rfl⟩
 have hsize : Go.Maps.size (.map ((es.toList.map (rg (H := Unit) Tryz.prog 3 skR)).foldr DataW.insert []) : DataW Unit) = m.length := by
  rw [Go.Maps.size_eq, (Go.WideShapes.sorted_perm _).length_eq, ZUt, Array.length_toList, hsz]
 have hint : (intKeys (.map ((es.toList.map (rg (H := Unit) Tryz.prog 3 skR)).foldr DataW.insert []) : DataW Unit)).Perm (m.map (·.1)) := by
  show (((es.toList.map (rg (H := Unit) Tryz.prog 3 skR)).foldr DataW.insert []).map fun p => Go.intOf p.1).Perm _
  refine ((Go.WideShapes.sorted_perm _).map _).trans ?_
  rw [List.map_map]
  have e : es.toList.map ((fun p => Go.intOf p.1) ∘ rg (H := Unit) Tryz.prog 3 skR) = m.map (·.1) := by
   have e2 : es.toList.map (fun x => match x.key with | .int _ n => n | _ => 0) = m.map (·.1) := by
    have := congrArg (List.map (fun v => match v with | Value.int _ n => n | _ => (0 : Int))) hkey
    rw [List.map_map, List.map_map] at this
    exact this
   rw [<- e2]
   refine List.map_congr_left fun x hx => ?_
   obtain ⟨n, h1, h2⟩ := hrd x hx
   have hrg : rg (H := Unit) Tryz.prog 3 skR x = (.int .i64 n, .nil) := by unfold rg; rw [h2]; exact Option.getD_some
   rw [Function.comp_apply, hrg, h1]; rfl
  rw [e]
 refine (Tryz.sortedKeys b0 b1 es.size _ skR w h0 hc hown (by rw [hsize]; unfold maxLen; omega) (by rw [hsize]; omega)).mono ?_
 rintro e w' ⟨v, ss, rfl, hp, hrow, _, hbel⟩
 have hpm := hp.trans hint
 have hlen : ss.length = m.length := by rw [hpm.length_eq, ZUt]
 refine ⟨v, rfl, ?_, hbel⟩
 rw [<- hlen]
 have e : sortK (m.map (·.1)) = ss.mergeSort (fun x y => decide (x <= y)) := (Go.mergeSort_of_perm_i hpm).symm
 rw [e]
 exact hrow
end
end Go.Proofs.YtlcfjjjdhdfbdaaGreat
set_option maxRecDepth 20000
namespace Go.Proofs.YtlcfjjjdhdfbdaaGreat
noncomputable section
open Go.Eng
def ZTK : List (Nat × List Ctr) := [(5, [ZGn]), (11, [Zut]), (12, [Zrj]), (13, [Zm8]), (14, [ZE5]), (15, [Zj5]), (16, [ZFJ])]
def newA : List (Nat × List (Nat × Ann)) := [(7, [(500003, .ghost emFC [.tmp 1]), (500003, .ghost Znv [.tmp 21])]), (19, [(500002, .ghost ZRB [.tmp 1]), (500002, .ghost nlRC [.tmp 1])])]
def Zo3 : Ctr := ⟨[], [], [], [], [], .one (.bool (.bool true)), [], []⟩
def ZHS : Cx := { specs := ZTK, anns := newA }
def Zsh : SX := l z (a 0)
def Zzx : SX := l z (a 3)
def ZqM : SX := w 304 (k 2)
def Zij : SX := w 267 ZqM
def ZvB : SX := l z (a 4)
def ZgM : SX := w 309 (k 4)
def ZqX : SX := .f2 114 (b 5) (.f1 31 (b 5))
def Zfk : SX := .us .g 300 Zij ZgM (k 1) ZqX
def Zgi : SX := .us .g 299 Zij ZgM (k 1) ZqX
def ZC9 : SX := e (x 285 Zgi Zfk (k 1)) z
def ZpV : SX := .f1 2 ZC9
def ZjX : SX := h 283 Zgi Zfk (k 1)
def ZdQ : SX := h 284 Zgi Zfk (k 1)
def ZeV : SX := w 273 ZjX
def Zja : SX := o 297 ZeV
def Zi3 : SX := h 295 ZeV ZdQ Zja
def ZnP : SX := wB 223 Zi3 (k 1)
def Zoh : SX := e (.us .int 301 Zij ZgM (k 1) ZqX) z
def ZpR : SX := e (x 296 ZeV ZdQ Zja) z
def Zow : SX := e (a 15) z
def Zp1 : SX := e (a 8) (k 512)
def ZpS : SX := e (.f2 111 (b 10) z) (k 7)
def Zpg : SX := e (a 12) (k 512)
def Zpr : SX := e (.f2 111 (b 14) z) (k 7)
def Zjk : SX := h 294 ZeV ZdQ Zja
def ZoX : SX := e (v 258 Zjk) (k 1)
def Zp0 : SX := e (v 256 Zjk) (k 1)
def ZaY : SX := .f2 155 (.bool .true) (.bool .false)
def ZIm : VC := u 0 .int (i Zsh (.and (i Zsh (u 1 .int (i (l z (a 1)) (u 2 .int (i (l z (a 2)) (u 3 .int (i Zzx (n (.f2 155 (.f1 152 z) (o 242 (.f1 154 z))) (n (y 251 (.f1 155 z) (.f1 154 z) ZqM) (n (p 268 Zij) (n (e (v 257 ZqM) (k 2)) (.and (i Zsh (.and .tt (i Zzx (u 4 .int (u 5 .bytes (u 6 .int (i (.f2 155 (b 5) (j 308 (k 7))) (i ZvB (i (l (.f1 31 (b 5)) (a 6)) (n (l (v 206 ZgM) k2) (n (l (v 211 ZgM) k0) (n (l (.f1 30 (o 209 ZgM)) k1) (n (l (v 260 Zij) k2) (n (l (.f1 31 (b 5)) (.f1 31 (b 5))) (n (.f2 50 ZvB (e (.f1 31 (b 5)) z)) (n (l (v 206 Zfk) k2) (n (l (v 211 Zfk) k0) (n (l (.f1 30 (o 209 Zfk)) k1) (n (l (v 205 Zfk) k2) (n (l (v 258 Zgi) k2) (n (l (v 259 Zgi) k2) (n (l (v 260 Zgi) k2) (u 7 .int (u 8 .int (u 9 .int (u 10 .bytes (i (.f2 50 ZpV (.f2 155 (.f2 114 (b 10) (a 8)) (wB 253 ZjX (.f2 40 (v 256 ZjX) (k (- (0 + 1))))))) (i (.f2 50 (l z (a 7)) (e (a 8) z)) (i (l z (a 8)) (i (l (a 8) (.f1 31 (b 10))) (i (l (a 8) (a 9)) (n (l (v 206 ZdQ) k3) (n (l (v 211 ZdQ) k4) (n (l (.f1 30 (o 209 ZdQ)) k1) (n (p 305 ZeV) (n (l (v 205 Zi3) k2) (u 11 .int (u 12 .int (u 13 .int (u 14 .bytes (u 15 .int (i (.f2 155 (.f2 114 (b 14) (a 12)) ZnP) (i (e (a 12) (.f1 31 ZnP)) (i (l (a 12) (.f1 31 (b 14))) (i (l (a 12) (a 13)) (i (e (a 15) (d 213 Zi3 (k 1))) (i (.f2 50 (l z (a 11)) (e (a 12) z)) (u 16 .int (i (l z (a 16)) (.and (i Zoh (.and (i ZC9 (.and (i ZpR (.and (i Zow (.and (i Zp1 (n (t z (a 8)) (n (t z (.f1 31 (b 10))) (.and (i ZpS (n (l z (a 12)) (.and (i Zpg (n (t z (a 12)) (n (t z (.f1 31 (b 14))) (.and (i Zpr (.and (i ZoX (.and (i Zp0 (n (.f2 155 (.bool .true) (e (v 257 Zjk) (k 2))) .tt)) (i (.f1 2 Zp0) (n ZaY .tt)))) (i (.f1 2 ZoX) (n ZaY .tt)))) (i (.f1 2 Zpr) (n ZaY .tt)))))) (i (.f1 2 Zpg) (n ZaY .tt))))) (i (.f1 2 ZpS) (n ZaY .tt)))))) (i (.f1 2 Zp1) (n ZaY .tt)))) (i (.f1 2 Zow) (n ZaY .tt)))) (i (.f1 2 ZpR) (n ZaY .tt)))) (i ZpV (n ZaY .tt)))) (i (.f1 2 Zoh) (n ZaY .tt)))))))))))))))))))))))))))))))))))))))))))))))))))) .tt)))))))))))) .tt))
theorem ZNR : Yk Tryz.prog ZHS 12 4 Zo3 = ZIm := by kernel_rfl
theorem Zb2 {p : Int} (h : 0 <= p) : (Yx p).pages = p := by
 show ((List.replicate (512 * p.toNat) (0 : UInt8)).length : Int).tdiv 512 = p
 rw [ZUA, show ((512 * p.toNat : Nat) : Int) = p * 512 by omega, Int.mul_tdiv_cancel _ (by decide)]
theorem ZAk {p n : Int} (h0 : 0 <= n) (h1 : n < p) : (Yx p).ref n = 0 := ZhD rfl h0 (by rw [Zb2 (by omega)]; exact h1)
theorem ZcS {x : Int} (h : 0 <= x) : (ZL x).length = 512 := by unfold ZL; rw [if_neg (by omega), ZUA]
theorem ZAz {x : Int} {i : Nat} (h : 0 <= x) (h2 : x < 256) (hi : i < 512) : ((ZL x).getD i 0).toNat = x.toNat := by
 unfold ZL
 rw [if_neg (by omega), ZUj, List.getElem?_replicate, if_pos hi, Option.getD_some, UInt8.toNat_ofNat']
 rw [Int.emod_eq_of_lt h h2, Nat.mod_eq_of_lt (by omega)]
def ZHx : Cs := ⟨[⟨1, ZL 7, true, 0⟩], 2, 0, 0, 0⟩
def ZNg : Cs := ⟨[⟨1, ZL 7, true, 0⟩], 2, 1, 0, 0⟩
def lvC3 : Cs := ⟨[⟨1, ZL 7, false, 0⟩], 2, 1, 0, 0⟩
def lvD : Dv := { Yx 4 with wr := 1, w := [(1, ZL 7)] }
theorem ZIA : ¬ Cs.bad (Yx 4) 1 (ZL 7) := by
 have hl := ZcS (x := 7) (by decide)
 have hp := Zb2 (p := 4) (by decide)
 rintro (h | h | h)
 ·omega
 ·omega
 ·exact h (by rw [hl]; rfl)
theorem ZIS : (Zbt 2).roomE (Yx 4) = 0 /\ (Zbt 2).roomC (Yx 4) = Zbt 2 /\ (Zbt 2).roomD (Yx 4) = Yx 4 := by
 have h : (((Zbt 2).fr.length : Nat) : Int) < (Zbt 2).frames := by decide
 exact ⟨if_pos h, if_pos (.inl h), if_pos (.inl h)⟩
theorem ZpQ : ¬ (Zbt 2).hit 1 := by unfold Cs.hit; decide
theorem ZTS : (Zbt 2).putE (Yx 4) 1 (ZL 7) = 0 /\ (Zbt 2).putC (Yx 4) 1 (ZL 7) = ZHx /\ (Zbt 2).putD (Yx 4) 1 (ZL 7) = Yx 4 := by
 obtain ⟨r1, r2, r3⟩ := ZIS
 have hl := ZcS (x := 7) (by decide)
 have hp := Zb2 (p := 4) (by decide)
 refine ⟨?_, ?_, ?_⟩
 ·unfold Cs.putE
  rw [if_neg (by omega), if_neg (fun h => h (by rw [hl]; rfl)), if_neg ZpQ, r1]
 ·unfold Cs.putC
  rw [if_neg ZIA, if_neg ZpQ, if_neg (fun h => h r1), r2]; rfl
 ·unfold Cs.putD
  rw [if_neg (by rintro (h | h); exact ZIA h; exact ZpQ h), r3]
theorem Zof : ZHx.hit 1 := by unfold Cs.hit; exact (by decide : 0 < 1)
theorem ZMk : ZHx.holdE (Yx 4) 1 = 0 /\ ZHx.holdC (Yx 4) 1 = ZNg /\ ZHx.holdD (Yx 4) 1 = Yx 4 :=
 ⟨if_pos Zof, (if_pos Zof).trans rfl, if_pos (.inl Zof)⟩
theorem ZNx : ZNg.keys = [1] := by
 show List.mergeSort [1] _ = [1]
 exact List.mergeSort_singleton ..
theorem ZQK : (Yx 4).wrE 1 (ZL 7) = 0 /\ (Yx 4).wrD 1 (ZL 7) = lvD := by
 have hl := ZcS (x := 7) (by decide)
 have hr := ZAk (p := 4) (n := 1) (by decide) (by decide)
 have hlp : (((ZL 7).length : Nat) : Int) = (Yx 4).page := by rw [hl]; rfl
 refine ⟨?_, ?_⟩
 ·unfold Dv.wrE
  rw [if_neg (fun h => h hr), if_neg (fun h => h hlp)]; rfl
 ·unfold Dv.wrD
  rw [if_neg (fun h => h hr), if_neg (fun h => h hlp)]; rfl
theorem lv_fl : flS [1] ZNg (Yx 4) = (lvC3, lvD, 0) := by
 rw [ZaR]
 have e1 : ZNg.at' (ZNg.idx 1 : Nat) = ⟨1, ZL 7, true, 0⟩ := rfl
 rw [e1]
 simp only [cond_true]
 rw [if_pos ZQK.1, ZQK.2]; rfl
theorem ZeM {f : Int} (h1 : 1 <= f) (h2 : f <= 4096) : GoodC (Zbt f) := ⟨⟨h1, h2⟩, show ((0 : Nat) : Int) <= f by omega, List.nodup_nil, fun f hf => (nomatch hf), ⟨ZUu _, ZUu _, ZUu _⟩, fun f hf => (nomatch hf)⟩
theorem Zs8 (f : Int) : ZX [] [] (Zbt f).fr := ⟨rfl, List.nodup_nil, List.Perm.refl _⟩
theorem ZHs : lvD.ref 1 = 0 := ZhD rfl (by decide) (by show 1 < (Yx 4).pages; rw [Zb2 (by decide)]; decide)
theorem ZLi : lvD.rdB 1 = ZL 7 := by
 unfold Dv.rdB
 rw [if_neg (fun h => h ZHs)]; rfl
theorem Zs1 {S : Sig GG} (hS : CsSig S) : YK S Tryz.prog ZTK := ⟨Zc (by decide) (ZRf S hS), Zc (by decide) (ZxS S hS), Zc (by decide) (put_ok S hS), Zc (by decide) (get_ok S hS), Zc (by decide) (ZRF S hS Zmc), Zc (by decide) (ZwL S hS.dv), Zc (by decide) (ZP6 S hS), trivial⟩
theorem ZJ3 (S : Sig GG) (hS : CsSig S) : Zs S Tryz.prog 4 Zo3 := by
 refine Zd S (C := ZHS) (fuel := 12) (Zx (Zs1 hS) ⟨⟨⟨by decide, ZHD S hS⟩, ⟨by decide, Zb9 S hS⟩, trivial⟩, ⟨⟨by decide, ZCk S⟩, ⟨by decide, ZH0 S hS⟩, trivial⟩, trivial⟩ trivial) fun ρ => ?_
 rw [ZNR]
 simp only [ZIm, Zsh, Zzx, ZqM, Zij, ZvB, ZgM, ZqX, Zfk, Zgi, ZC9, ZpV, ZjX, ZdQ, ZeV, Zja, Zi3, ZnP, Zoh, ZpR, Zow, Zp1, ZpS, Zpg, Zpr, Zjk, ZoX, Zp0, ZaY, Zcs, Zeb, Zbf, Zr, Zq, VC.den, SX.den, ZN, Env.upd, ZS, Zao, Z3, Z2, ZB, ZI, ZJ, ZH, beq_iff_eq, Bool.not_eq_true', beq_eq_false_iff_ne, ne_eq, Bool.not_not, U.tMi, Int.toNat_zero, Nat.reduceEqDiff, reduceIte, Zf, ZK, ZG, U.int.injEq, scs hS, sdv hS.dv, srg hS.rg, sB]
 have k0 : ({ fr := (Zbt 2).fr, frames := (Zbt 2).frames, hits := 0, misses := 0, evic := 0 } : Cs) = Zbt 2 := rfl
 simp only [k0]
 intro b b0
 refine ⟨fun _ m m0 c c0 h h0 => ⟨rfl, Zs8 2, ZeM (by decide) (by decide), rfl, fun _ => ⟨trivial, fun _ p B cap hB p0 hcap => ?_⟩, trivial⟩, trivial⟩
 subst hB
 have hl := ZcS (x := 7) (by decide)
 have ht : (ZL 7).take (((ZL 7).length : Nat) : Int).toNat = ZL 7 := by rw [ZUq, List.take_length]
 obtain ⟨p1, p2, p3⟩ := ZTS
 obtain ⟨h1, h2, h3⟩ := ZMk
 have hf := lv_fl
 simp only [ht, p1, p2, p3, h1, h2, h3, ZNx, hf, ZHs, ZLi]
 have z1 : (Yx 4).wr = 0 := rfl
 have z2 : (Yx 4).w = [] := rfl
 have z3 : (Yx 4).keep = [] := rfl
 have z4 : (Yx 4).rd = 0 := rfl
 have z5 : lvD.rd = 0 := rfl
 have z6 : ZHx.hits = 0 /\ ZHx.misses = 0 /\ ZHx.evic = 0 := ⟨rfl, rfl, rfl⟩
 simp only [z1, z2, z3, z4, z5, z6.1, z6.2.1, z6.2.2, List.length_nil]
 have key : ∀ {X : List UInt8} {l : Int}, X.take l.toNat = ZL 7 -> (((X.getD 0 0).toNat : Nat) : Int) = 7 := by
  intro X l h
  have : (X.take l.toNat).getD 0 0 = X.getD 0 0 := by
   have h0 : 0 < l.toNat := by
    rcases Nat.eq_zero_or_pos l.toNat with e | e
    ·rw [e, List.take_zero] at h; rw [<- h] at hl; cases hl
    ·exact e
   rw [ZUj, ZUj, List.getElem?_take_of_lt h0]
  rw [<- this, h, ZAz (x := 7) (by decide) (by decide) (by decide)]; rfl
 refine ⟨by decide, by decide, by decide, by decide, ZUu _, .inl p0, by decide, by decide, by decide, by decide, by decide, by decide, by decide, fun gb gl gc GB ho go1 go2 go3 go4 => ⟨by decide, by decide, by decide, ?_, by decide, fun rb rl rc RB re f1 f2 f3 f4 f5 f6 sb sb0 => ?_⟩⟩
 ·intro f hf
  have hf : f ∈ [(⟨1, ZL 7, true, 0⟩ : Fr)] := hf
  rw [List.mem_singleton.1 hf]; exact ⟨by decide, by decide⟩
 ·have hG : GB.take gl.toNat = ZL 7 := by
   have h := ho.resolve_left (fun h => h trivial)
   have h : (ap2 155 (U.bytes (GB.take gl.toNat)) (U.bytes (ZNg.at' ((ZNg.fr.length : Nat) + -(0 + 1))).b) : U GG).tP := h
   rw [ZfH] at h
   injection h
  have hgl : gl = 512 := by
   have := congrArg List.length hG
   rw [ZUl, hl] at this; omega
  have hrl : rl = 512 := by rw [f2, hl]; rfl
  have kG := key hG
  have kR := key f1
  simp only [hgl, hrl, kG, kR, f5]
  have y1 : lvC3.hits = 1 := rfl
  have y2 : ((lvC3.fr.length : Nat) : Int) = 1 := rfl
  have y3 : (lvC3.frames == 2) = true := rfl
  have y4 : (0 : Int) < 512 := by decide
  have y5 : (0 : Int) <= 512 := by decide
  have y6 : 0 < ((GB.length : Nat) : Int) := by omega
  have y7 : 0 < ((RB.length : Nat) : Int) := by omega
  simp only [y1, y2, y3, y4, y5, y6, y7, not_true_eq_false, false_implies, and_true, true_implies]
end
end Go.Proofs.YtlcfjjjdhdfbdaaGreat
namespace Go.Proofs.YtlcfjjjdhdfbdaaGreat
noncomputable section
open Go.Eng
def ZJC (l : List Int) (n : Int) : Int := l.getD n.toNat 0
def dN (c : Cs) : Nat := (c.fr.filter fun f => f.dirty).length
structure DvOk (d : Dv) : Prop where
 gd : GoodD d
 down : d.down = false
 acts : d.acts = -1
 page : d.page = 512
 pages : d.pages = 8
 keep : d.keep = []
structure Tell (c : Cs) (d : Dv) (is pins : List Int) : Prop where
 good : GoodC c
 dv : DvOk d
 isl : is.length = 8
 pinl : pins.length = 8
 isr : ∀ n, 0 <= n -> n < 8 -> 0 <= ZJC is n /\ ZJC is n < 256
 rng : ∀ f ∈ c.fr, 0 <= f.n /\ f.n < 8
 fb : ∀ f ∈ c.fr, f.b = ZL (ZJC is f.n)
 dev : ∀ n, 0 <= n -> n < 8 -> (∀ f ∈ c.fr, f.n = n -> f.dirty = false) -> d.read n = ZL (ZJC is n)
 pin : ∀ f ∈ c.fr, ZJC pins f.n = f.pins
 unp : ∀ n, 0 <= n -> n < 8 -> (∀ f ∈ c.fr, f.n ≠ n) -> ZJC pins n = 0
structure Cnt (c : Cs) (d : Dv) (i e : Int) : Prop where
 h : c.hits <= i
 m : c.misses <= i
 e : c.evic <= e
 r : d.rd <= i
 w : d.wr + dN c <= i
 l : (d.w.length : Int) + dN c <= i
 p : ∀ f ∈ c.fr, f.pins <= i
theorem Cnt.mono {c : Cs} {d : Dv} {i e j f : Int} (h : Cnt c d i e) (h1 : i <= j) (h2 : e <= f) : Cnt c d j f := by
 obtain ⟨a1, a2, a3, a4, a5, a6, a7⟩ := h
 exact ⟨by omega, by omega, by omega, by omega, by omega, by omega, fun g hg => by have := a7 g hg; omega⟩
theorem ZkJ {c : Cs} {i : Nat} (hi : i < c.fr.length) : c.fr = c.fr.take i ++ (c.at' (i : Nat) :: c.fr.drop (i + 1)) := ZO (d := fr0) hi
theorem ZHf {c : Cs} (hg : (c.fr.map (·.n)).Nodup) {i : Nat} (hi : i < c.fr.length) {f : Fr} : f ∈ (c.gone (i : Nat)).fr ↔ f ∈ c.fr /\ f.n ≠ (c.at' (i : Nat)).n := by
 have hs := ZkJ hi
 have e : (c.gone (i : Nat)).fr = c.fr.take i ++ c.fr.drop (i + 1) := rfl
 rw [e]
 generalize c.at' (i : Nat) = x at *
 generalize c.fr.take i = A at *
 generalize c.fr.drop (i + 1) = B at *
 rw [hs] at hg ⊢
 rw [ZUz, ZUs] at hg
 obtain ⟨_, h2, h3⟩ := List.nodup_append.1 hg
 rw [List.nodup_cons] at h2
 constructor
 ·intro hf
  rcases List.mem_append.1 hf with q | q
  ·exact ⟨List.mem_append_left _ q, fun e => h3 f.n (List.mem_map.2 ⟨f, q, rfl⟩) _ ZUr e⟩
  ·exact ⟨List.mem_append_right _ (ZUp _ q), fun e => h2.1 (List.mem_map.2 ⟨f, q, e⟩)⟩
 ·rintro ⟨hf, hn⟩
  rcases List.mem_append.1 hf with q | q
  ·exact List.mem_append_left _ q
  ·rcases List.mem_cons.1 q with q | q
   ·exact absurd (by rw [q]) hn
   ·exact List.mem_append_right _ q
theorem Zny {c : Cs} {i : Nat} {f g : Fr} : f ∈ (c.put (i : Nat) g).fr ↔ f = g \/ f ∈ (c.gone (i : Nat)).fr := by
 show f ∈ c.fr.take i ++ g :: c.fr.drop (i + 1) ↔ f = g \/ f ∈ c.fr.take i ++ c.fr.drop (i + 1)
 rw [List.mem_append, List.mem_cons, List.mem_append]
 constructor
 ·rintro (h | h | h)
  ·exact .inr (.inl h)
  ·exact .inl h
  ·exact .inr (.inr h)
 ·rintro (h | h | h)
  ·exact .inr (.inl h)
  ·exact .inl h
  ·exact .inr (.inr h)
theorem Zds {c : Cs} {f g : Fr} : f ∈ (c.add g).fr ↔ f = g \/ f ∈ c.fr := by
 show f ∈ c.fr ++ [g] ↔ _
 rw [List.mem_append, List.mem_singleton]; exact Or.comm
section
variable {c : Cs} {d : Dv} {is pins : List Int} (h : Tell c d is pins)
include h
theorem Tell.drop {i : Nat} (hi : i < c.fr.length) {c' : Cs} (hg : GoodC c') (hm : ∀ f, f ∈ c'.fr ↔ f ∈ (c.gone (i : Nat)).fr) {d' : Dv} (hd : DvOk d') (hr : ∀ m, 0 <= m -> m < 8 -> m ≠ (c.at' (i : Nat)).n -> d'.read m = d.read m)
  (hx : d'.read (c.at' (i : Nat)).n = ZL (ZJC is (c.at' (i : Nat)).n)) (hp : (c.at' (i : Nat)).pins = 0) : Tell c' d' is pins := by
 have hgm : ∀ {f}, f ∈ (c.gone (i : Nat)).fr ↔ f ∈ c.fr /\ f.n ≠ (c.at' (i : Nat)).n := by intro f; exact ZHf h.good.nod hi
 have hat := Y2 hi
 refine ⟨hg, hd, h.isl, h.pinl, h.isr, fun f hf => h.rng f (hgm.1 ((hm f).1 hf)).1, fun f hf => h.fb f (hgm.1 ((hm f).1 hf)).1, fun m m0 m1 hc => ?_, fun f hf => h.pin f (hgm.1 ((hm f).1 hf)).1, fun m m0 m1 hc => ?_⟩
 ·by_cases e : m = (c.at' (i : Nat)).n
  ·rw [e]; exact hx
  ·rw [hr m m0 m1 e]
   exact h.dev m m0 m1 fun f hf hfn => hc f ((hm f).2 (hgm.2 ⟨hf, by rw [hfn]; exact e⟩)) hfn
 ·by_cases e : m = (c.at' (i : Nat)).n
  ·rw [e, h.pin _ hat]; exact hp
  ·refine h.unp m m0 m1 fun f hf hfn => ?_
   exact hc f ((hm f).2 (hgm.2 ⟨hf, by rw [hfn]; exact e⟩)) hfn
end
end
end Go.Proofs.YtlcfjjjdhdfbdaaGreat
