/- CachePlays answers true, and what was handed in stays as it is, where it is of bulk at most 1048576. No other condition. -/
import Derived.Test.YtlcfjjjdhdfbdaaGreatPs7
import Derived.Test.YtlcfjjjdhdfbdaaGreatPs6
import Derived.Test.YtlcfjjjdhdfbdaaGreatPs4
import Derived.Deep.Slices
import Derived.Test.YtlcfjjjdhdfbdaaGreatRows
import Derived.WalkKit
import Derived.ProofKit
import Derived.OpenShut
import Derived.JoinedCond
import Derived.Carry
set_option linter.unusedSimpArgs false
set_option linter.unusedVariables false
set_option maxRecDepth 20000
namespace Go.Proofs.YtlcfjjjdhdfbdaaGreat
noncomputable section
open Go.Eng
def stT : En := .rows [.str]
def Zmm (r : List Int) : List UInt8 := ZLq (r.getD 0 0).toNat
def kpP (K N : Int) : HProp := fun h => ∃ (bl cl bw cw : Int) (yl yw : List (List Int)), (0 <= N /\ yl.length = yw.length /\ (yl.length : Int) <= N /\ ∀ r ∈ yl, g1 r <= 4294967296) ∧
 Zb (fun h => (0 <= K \/ False) /\ row K.toNat 0 [.int .i64 N, slV bl yl.length cl, slV bw yw.length cw] true h) (Zb (rAD slT bl yl cl) (Zb (rAD stT bw yw cw) (blH yl (yw.map Zmm)))) h
def kqP (K N : Int) : HProp := fun h => ∃ (bl cl bw cw : Int) (yl yw : List (List Int)), (0 <= N /\ (yl.length : Int) <= N /\ (yw.length : Int) <= N) ∧
 Zb (fun h => (0 <= K \/ False) /\ row K.toNat 0 [.int .i64 N, slV bl yl.length cl, slV bw yw.length cw] true h) (Zb (rAD slT bl yl cl) (rAD stT bw yw cw)) h
def kp92 (k W : List (List Int)) : HProp := blH ((k.drop 1).drop (g0 (k.getD 0 [])).toNat) ((W.map Zmm).drop (g0 (k.getD 0 [])).toNat)
theorem Zoe (i : Int) (R W : List (List Int)) : kp92 ([i] :: R) W = blH (R.drop i.toNat) ((W.map Zmm).drop i.toNat) := rfl
structure LwSig (S : Sig GG) : Prop where
 rc : RcSig S
 bk : BkSig S
 p90 : ∀ w0 k x, S.prd 90 w0 k x = kpP (g0 k.tN) x.tI
 p95 : ∀ w0 k x, S.prd 95 w0 k x = kqP (g0 k.tN) x.tI
 p91 : ∀ w0 k x, S.prd 91 w0 k x = blH k.tR (x.tR.map Zmm)
 p92 : ∀ w0 k x, S.prd 92 w0 k x = kp92 k.tR x.tR
 u450 : ∀ a b c d, S.usr 450 a b c d = .bool (Zz (∀ r ∈ a.tR, g1 r <= 4294967296))
theorem BkSig.of {S T : Sig GG} (h : BkSig S) (hu : T.usr = S.usr) (hp : T.prd = S.prd) : BkSig T := by
 constructor
 all_goals first | (rw [hp]; first | exact h.p40 | exact h.p42 | exact h.p43 | exact h.p46 | exact h.p47 | exact h.p48) | (rw [hu]; exact h.u107)
theorem LwSig.of {S T : Sig GG} (h : LwSig S) (hu : T.usr = S.usr) (hp : T.prd = S.prd) (hd : T.dg = S.dg) : LwSig T := by
 constructor
 ·exact h.rc.of hu hp hd
 ·exact h.bk.of hu hp
 all_goals first | (rw [hp]; first | exact h.p90 | exact h.p95 | exact h.p91 | exact h.p92) | (rw [hu]; first | exact h.u450)
def kpC (K n : SX) : Ch := .prd 90 (Yy K) n
def kqC (K n : SX) : Ch := .prd 95 (Yy K) n
def klC (R W : SX) : Ch := .prd 91 R W
def klD (i R W : SX) : Ch := .prd 92 (Zj (Yy i) R) W
def stA (b y c : SX) : Ch := .arr stT b y c
def ZOQ : Ctr := ⟨[.int, .int], [.one (.ptr (ai 0) 0)], [kpC (ai 0) (ai 1)], [], [.int, .int, .int, .int, .rows, .rows], .tup [],
 [.cel (ai 0) 0 [.int .i64 (ai 1), sl1 (ai 2) (ZA (rA 6)) (ai 3), slC (ai 4) (ZA (rA 7)) (ai 5) 1], slA (ai 2) (rA 6) (ai 3), stA (ai 4) (rA 7) (ai 5), klC (rA 6) (rA 7)],
 [.f2 45 (ZA (rA 6)) (ZA (rA 7)), eLe (ZA (rA 6)) (ai 1), eLe z0 (ai 1), usB 450 (rA 6) z0 z0, eLe (ZA (rA 6)) (ai 3), eLe (ZA (rA 7)) (ai 5)]⟩
def Zwc : Ctr := ⟨[.int, .int, .int, .int, .int, .int, .rows, .rows, .int, .int], [.one (.ptr (ai 0) 0)],
 [.cel (ai 0) 0 [.int .i64 (ai 1), sl1 (ai 2) (ai 8) (ai 3), slC (ai 4) (ai 9) (ai 5) 1], slA (ai 2) (rA 6) (ai 3), stA (ai 4) (rA 7) (ai 5), klC (rA 6) (rA 7)],
 [.f2 45 (ai 8) (ZA (rA 6)), .f2 45 (ai 9) (ZA (rA 7)), .f2 45 (ZA (rA 6)) (ZA (rA 7)), eLe (ZA (rA 6)) (ai 1), eLe z0 (ai 1), usB 450 (rA 6) z0 z0], [], .tup [], [kpC (ai 0) (ai 1)], []⟩
def ZHz : Ctr := ⟨[.int, .int, .int, .bytes, .int, .rows, .int, .int, .rows, .int, .rows, .rows, .int, .int], [.one (sl1 (ai 0) (ai 1) (ai 2)), .one (sl1 (ai 4) (ai 12) (ai 6)), .one (slC (ai 7) (ai 13) (ai 9) 1)],
 [bAr (ai 0) (bA 3) (ai 2), slA (ai 4) (rA 5) (ai 6), stA (ai 7) (rA 8) (ai 9), klC (rA 10) (rA 11)],
 [eLe z0 (ai 1), eLe (ai 1) (ZP (bA 3)), eqS (rA 5) (.f2 121 (rA 10) (.f2 124 (Yf (ai 0) (ai 1) (ai 2)) YD)), eqS (rA 8) (.f2 121 (rA 11) (.f2 124 (.f2 122 (.f1 35 (tkB (bA 3) (ai 1))) Zbv) YD))], [], .tup [],
 [slA (ai 4) (rA 5) (ai 6), stA (ai 7) (rA 8) (ai 9), klC (rA 5) (rA 8)], []⟩
def lsEC : Ctr := ⟨[.rows, .rows], [], [klC (rA 0) (rA 1)], [], [], .tup [], [klD z0 (rA 0) (rA 1)], []⟩
def ZFi : Ctr := ⟨[.int, .rows, .rows], [.one (.int .i64 (ai 0))], [klD (ai 0) (rA 1) (rA 2)], [eLe z0 (ai 0), eLt (ai 0) (ZA (rA 1)), .f2 45 (ZA (rA 1)) (ZA (rA 2))], [], .tup [],
 [klD (Zgf (ai 0)) (rA 1) (rA 2), bAr (nt (rA 1) (ai 0) 0) (.f1 36 (nt (rA 2) (ai 0) 0)) (nt (rA 1) (ai 0) 2)], [.f2 45 (nt (rA 1) (ai 0) 1) (ZP (.f1 36 (nt (rA 2) (ai 0) 0))), eLe (ZP (.f1 36 (nt (rA 2) (ai 0) 0))) (nt (rA 1) (ai 0) 2)]⟩
def ZB9 : Ctr := ⟨[.int, .int], [.one (.ptr (ai 0) 0)], [kqC (ai 0) (ai 1)], [], [.int, .int, .int, .int, .rows, .rows], .tup [],
 [.cel (ai 0) 0 [.int .i64 (ai 1), sl1 (ai 2) (ZA (rA 6)) (ai 3), slC (ai 4) (ZA (rA 7)) (ai 5) 1], slA (ai 2) (rA 6) (ai 3), stA (ai 4) (rA 7) (ai 5)],
 [eLe (ZA (rA 6)) (ai 1), eLe (ZA (rA 7)) (ai 1), eLe z0 (ai 1), eLe (ZA (rA 6)) (ai 3), eLe (ZA (rA 7)) (ai 5)]⟩
def ZfJ : Ctr := ⟨[.int, .int, .int, .int, .int, .int, .rows, .rows, .int, .int], [.one (.ptr (ai 0) 0)],
 [.cel (ai 0) 0 [.int .i64 (ai 1), sl1 (ai 2) (ai 8) (ai 3), slC (ai 4) (ai 9) (ai 5) 1], slA (ai 2) (rA 6) (ai 3), stA (ai 4) (rA 7) (ai 5)],
 [.f2 45 (ai 8) (ZA (rA 6)), .f2 45 (ai 9) (ZA (rA 7)), eLe (ZA (rA 6)) (ai 1), eLe (ZA (rA 7)) (ai 1), eLe z0 (ai 1)], [], .tup [], [kqC (ai 0) (ai 1)], []⟩
def Zoy : Ctr := ⟨[.int, .int, .int, .int, .int, .bytes], [.one (.ptr (ai 0) 0), .one (sl1 (ai 2) (ai 3) (ai 4))], [kqC (ai 0) (ai 1), bAr (ai 2) (bA 5) (ai 4)],
 [eLe (ai 1) (.int 536870912), eLe z0 (ai 3), eLe (ai 3) (ZP (bA 5)), eLe (ai 3) (ai 4), eLe (ai 3) (.int 4294967296)], [], .tup [], [kqC (ai 0) (Zgf (ai 1))], []⟩
def ZHQ : Cx := { specs := [(53, [ZrG])], anns := [(22, [(0, .ghost ZB9 [.tmp 0]), (500002, .ghost ZfJ [.tmp 0]), (500004, .ghost ZfJ [.tmp 0])])] }
def neEC : Ctr := ⟨[.int], [.one (.ptr (ai 0) 0)], [.cel (ai 0) 0 [.int .i64 z0, .slice (.int (-1)) z0 z0 z0 z0 z0 1, .slice (.int (-1)) z0 z0 z0 z0 z0 1]], [], [], .tup [], [kpC (ai 0) z0], []⟩
def Zz4 : Ctr := ⟨[.int, .int, .int, .int, .int, .bytes], [.one (.ptr (ai 0) 0), .one (sl1 (ai 2) (ai 3) (ai 4))], [kpC (ai 0) (ai 1), bAr (ai 2) (bA 5) (ai 4)],
 [eLe (ai 1) (.int 536870912), eLe z0 (ai 3), eLe (ai 3) (ZP (bA 5)), eLe (ai 3) (ai 4), eLe (ai 3) (.int 4294967296)], [], .tup [], [kpC (ai 0) (Zgf (ai 1))], []⟩
def ZS7 : Cx := { specs := [(53, [ZrG])], anns := [(22, [(0, .ghost ZOQ [.tmp 0]), (500002, .ghost Zwc [.tmp 0]), (500004, .ghost ZHz [.tmp 1, .tmp 27, .tmp 38]), (500004, .ghost Zwc [.tmp 0])])] }
def ZMK : Ctr := ⟨[.int, .int], [.one (.ptr (ai 0) 0)], [kpC (ai 0) (ai 1)], [eLe (ai 1) (.int 536870912)], [.bool], .one (.bool (qA 2)), [kqC (ai 0) (ai 1)], [qA 2]⟩
def ZCm : Ctr := ZMK
def stdI : Inv := ⟨[.int], [(4, .one (.int .i64 (di 0)))], [bkC (ai 8) (di 0), klD (di 0) (rA 6) (rA 7)], [eLe z0 (di 0), eLe (di 0) (ZA (rA 6))], .f2 41 (ZA (rA 6)) (di 0)⟩
def ZPY : Cx := { specs := [(35, [Zyy]), (36, [ZBT])], anns := [(10, [(0, .ghost ZOQ [.tmp 0]), (2, .ghost ZG5 [.tmp 3]), (2, .ghost lsEC []), (3, .inv stdI), (5, .ghost ZFi [.tmp 4]), (6, .ghost ZfJ [.tmp 0]), (500008, .ghost ZfJ [.tmp 0])])] }
def ZsR : SX := .f2 40 (a 1) (k 1)
def ZIM : SX := e (.f2 44 ZsR (k 2)) (k 1)
def ZNc : SX := l z ZsR
def Znm : SX := .f2 40 (.f1 32 (r 10)) (k 1)
def Zo9 : SX := .f2 40 (.f1 32 (r 11)) (k 1)
def ZFK : SX := .f2 121 (r 10) (.f2 124 (.f2 122 (a 2) (.f2 122 (a 3) (.f2 122 (a 4) (.f1 152 z)))) (.f1 154 z))
def ZMz : SX := .f2 121 (r 11) (.f2 124 (.f2 122 (.f1 35 (.f2 114 (b 5) (a 3))) (.f1 152 z)) (.f1 154 z))
def ZT3 : VC := i (l (a 1) k9) (i (l z (a 3)) (i (l (a 3) (.f1 31 (b 5))) (i (l (a 3) (a 4)) (i (l (a 3) k7) (u 6 .int (u 7 .int (u 8 .int (u 9 .int (u 10 .rows (u 11 .rows (i (e (.f1 32 (r 10)) (.f1 32 (r 11))) (i (l (.f1 32 (r 10)) (a 1)) (i (l z (a 1)) (i (p 450 (r 10)) (i (l (.f1 32 (r 10)) (a 7)) (i (l (.f1 32 (r 11)) (a 9)) (n (.f1 23 ZsR) (.and (i ZIM (n (l (a 3) k0) (n (e (.f1 32 (r 10)) (.f1 32 (r 10))) (n (e (.f1 32 (r 11)) (.f1 32 (r 11))) (n (l (.f1 32 (r 10)) ZsR) (n ZNc .tt)))))) (i (.f1 2 ZIM) (u 12 .int (i (l z (a 12)) (n (l (.f1 32 (r 10)) (.f1 32 (r 10))) (n (l (.f2 42 Znm (k 24)) k1) (u 13 .int (u 14 .int (i (l Znm (a 14)) (i (.f2 50 (l z (a 13)) (e Znm z)) (u 15 .int (i (l z (a 15)) (n (l (.f1 32 (r 11)) (.f1 32 (r 11))) (n (l (.f2 42 Zo9 (k 16)) k1) (u 16 .int (u 17 .int (i (l Zo9 (a 17)) (i (.f2 50 (l z (a 16)) (e Zo9 z)) (n (.f2 155 ZFK ZFK) (n (.f2 155 ZMz ZMz) (n (e Znm Znm) (n (e Zo9 Zo9) (n (e Znm Zo9) (n (l Znm ZsR) (n ZNc (n (p 450 ZFK) .tt)))))))))))))))))))))))))))))))))))))))))))
theorem ZR5 : Yk Tryz.prog ZS7 12 22 Zz4 = ZT3 := by kernel_rfl
def Zpb : SX := .f3 112 (r 6) (a 9) (k 1)
def ZFt : SX := .f1 36 (.f3 112 (r 7) (a 9) z)
def ZGq : SX := .f1 31 ZFt
def ZMS : SX := .f3 112 (r 6) (a 9) (k 2)
def ZN3 : SX := .f1 2 (.f2 150 (.f2 114 ZFt Zpb) ZFt)
def ZOr : SX := e (.f1 32 (r 6)) (.f1 32 (r 6))
def ZN7 : SX := e (.f1 32 (r 7)) (.f1 32 (r 7))
def ZLG : SX := l (.f1 32 (r 7)) (a 1)
def ZMv : SX := l (a 9) k6
def ZDu : SX := .f2 40 (a 9) (k 1)
def ZvH : SX := .f2 41 (.f1 32 (r 6)) ZDu
def ZTE : VC := i (l (a 1) k9) (u 2 .int (u 3 .int (u 4 .int (u 5 .int (u 6 .rows (u 7 .rows (i (e (.f1 32 (r 6)) (.f1 32 (r 7))) (i (l (.f1 32 (r 6)) (a 1)) (i (l z (a 1)) (i (p 450 (r 6)) (i (l (.f1 32 (r 6)) (a 3)) (i (l (.f1 32 (r 7)) (a 5)) (u 8 .int (i (l z (a 8)) (u 9 .int (i (l z (a 9)) (i (l (a 9) (.f1 32 (r 6))) (.and (i (t (a 9) (.f1 32 (r 6))) (i (e Zpb ZGq) (i (l ZGq ZMS) (n (l z Zpb) (n (l Zpb ZGq) (n (l Zpb ZMS) (n (t (a 9) (.f1 32 (r 7))) (.and (i ZN3 (n ZOr (n ZN7 (n ZLG (n (.bool false) .tt))))) (i (.f1 2 ZN3) (n ZMv (n (l Zpb k7) (n (.f1 23 ZDu) (n (l z ZvH) (n (t ZvH (.f2 41 (.f1 32 (r 6)) (a 9))) (n (l z ZDu) (n (l ZDu (.f1 32 (r 6))) .tt)))))))))))))))) (i (l (.f1 32 (r 6)) (a 9)) (n ZMv (n ZOr (n ZN7 (n ZLG .tt)))))))))))))))))))))))
theorem ZPj : Yk Tryz.prog ZPY 12 10 ZCm = ZTE := by kernel_rfl
def Zfw : SX := .f2 40 (a 1) (k 1)
def Zu5 : SX := e (.f2 44 Zfw (k 2)) (k 1)
def Zt8 : SX := l z Zfw
def ZgL : SX := .f2 40 (.f1 32 (r 10)) (k 1)
def Zgn : SX := .f2 40 (.f1 32 (r 11)) (k 1)
def ZHO : VC := i (l (a 1) k9) (i (l z (a 3)) (i (l (a 3) (.f1 31 (b 5))) (i (l (a 3) (a 4)) (i (l (a 3) k7) (u 6 .int (u 7 .int (u 8 .int (u 9 .int (u 10 .rows (u 11 .rows (i (l (.f1 32 (r 10)) (a 1)) (i (l (.f1 32 (r 11)) (a 1)) (i (l z (a 1)) (i (l (.f1 32 (r 10)) (a 7)) (i (l (.f1 32 (r 11)) (a 9)) (n (.f1 23 Zfw) (.and (i Zu5 (n (l (a 3) k0) (n (e (.f1 32 (r 10)) (.f1 32 (r 10))) (n (e (.f1 32 (r 11)) (.f1 32 (r 11))) (n (l (.f1 32 (r 10)) Zfw) (n (l (.f1 32 (r 11)) Zfw) (n Zt8 .tt))))))) (i (.f1 2 Zu5) (u 12 .int (i (l z (a 12)) (n (l (.f1 32 (r 10)) (.f1 32 (r 10))) (n (l (.f2 42 ZgL (k 24)) k1) (u 13 .int (u 14 .int (i (l ZgL (a 14)) (i (.f2 50 (l z (a 13)) (e ZgL z)) (u 15 .int (i (l z (a 15)) (n (l (.f1 32 (r 11)) (.f1 32 (r 11))) (n (l (.f2 42 Zgn (k 16)) k1) (u 16 .int (u 17 .int (i (l Zgn (a 17)) (i (.f2 50 (l z (a 16)) (e Zgn z)) (n (e ZgL ZgL) (n (e Zgn Zgn) (n (l ZgL Zfw) (n (l Zgn Zfw) (n Zt8 .tt)))))))))))))))))))))))))))))))))))))))
theorem ZLZ : Yk Tryz.prog ZHQ 12 22 Zoy = ZHO := by kernel_rfl
theorem ZIy (S : Sig GG) (hS : LwSig S) : Z7 S ZOQ := by
 refine Zw S fun T w0 ρ h hu hp hd hr hpre => ?_
 have hT := hS.of hu hp hd
 have e1 : hpDen T ρ w0 ZOQ.pre = Zb (T.prd 90 w0 ((Yy (ai 0)).den T ρ) ((ai 1).den T ρ)) emp := rfl
 have k0 : g0 ((Yy (ai 0)).den T ρ).tN = (ρ 0).tI := rfl
 have k1 : ((ai 1).den T ρ).tI = (ρ 1).tI := rfl
 rw [e1, Za, hT.p90, k0, k1] at hpre
 obtain ⟨bl, cl, bw, cw, yl, yw, ⟨f1, f2, f3, f4⟩, hst⟩ := hpre
 let ρ' : Go.Eng.Env GG := (((((ρ.upd 2 (.int bl)).upd 3 (.int cl)).upd 4 (.int bw)).upd 5 (.int cw)).upd 6 (.rows yl)).upd 7 (.rows yw)
 refine ⟨ρ', ?_, ?_, ?_⟩
 ·intro i hi
  have hi : i < 2 := hi
  show ((((((ρ.upd 2 (.int bl)).upd 3 (.int cl)).upd 4 (.int bw)).upd 5 (.int cw)).upd 6 (.rows yl)).upd 7 (.rows yw)) i = ρ i
  simp only [Env.upd]
  repeat rw [if_neg (by omega)]
 ·have e2 : hpDen T ρ' w0 ZOQ.post = Zb ((Ch.cel (ai 0) 0 [.int .i64 (ai 1), sl1 (ai 2) (ZA (rA 6)) (ai 3), slC (ai 4) (ZA (rA 7)) (ai 5) 1]).den T ρ' w0) (Zb (rAD slT bl yl cl) (Zb (rAD stT bw yw cw) (Zb (T.prd 91 w0 ((rA 6).den T ρ') ((rA 7).den T ρ')) emp))) := rfl
  have k2 : ((rA 6).den T ρ').tR = yl := rfl
  have k3 : ((rA 7).den T ρ').tR = yw := rfl
  have e3 : (Ch.cel (ai 0) 0 [.int .i64 (ai 1), sl1 (ai 2) (ZA (rA 6)) (ai 3), slC (ai 4) (ZA (rA 7)) (ai 5) 1]).den T ρ' w0 = fun h => (0 <= (ρ 0).tI \/ False) /\ row (ρ 0).tI.toNat 0 [.int .i64 (ρ 1).tI, slV bl yl.length cl, slV bw yw.length cw] true h := by
   simp only [Ch.den, ZUs, List.map_nil, sl1, ZaA, SC.den, reduceCtorEq]
   rfl
  rw [e2, Za, hT.p91, k2, k3, e3]
  exact hst
 ·obtain ⟨_, _, _, hq⟩ := Zo hst
  obtain ⟨_, _, h1, hq⟩ := Zo hq
  obtain ⟨_, _, h2, _⟩ := Zo hq
  have l1 := Zfr (fs := [.slice 1]) (by decide) h1
  have l2 := Zfr (fs := [.str]) (by decide) h2
  intro q hq
  simp only [ZOQ, List.mem_cons, List.not_mem_nil, or_false] at hq
  rcases hq with rfl | rfl | rfl | rfl | rfl | rfl
  ·rw [SX.den, p45]; show (yl.length : Int) = (yw.length : Int); omega
  ·rw [Zg]; exact f3
  ·rw [Zg]; exact f1
  ·have : ((usB 450 (rA 6) z0 z0).den T ρ').tP ↔ ∀ r ∈ yl, g1 r <= 4294967296 := by
    simp only [usB, SX.den, hT.u450, Zv, U.tPi, U.tQi, Zf]
    exact Iff.rfl
   exact this.2 f4
  ·rw [Zg]; exact l1
  ·rw [Zg]; exact l2
theorem ZHw (S : Sig GG) (hS : LwSig S) : Z7 S Zwc := by
 refine Zw S fun T w0 ρ h hu hp hd hr hpre => ⟨ρ, Ext.refl _ _, ?_, by intro x hx; exact nomatch hx⟩
 have hT := hS.of hu hp hd
 have e1 : hpDen T ρ w0 Zwc.pre = Zb ((Ch.cel (ai 0) 0 [.int .i64 (ai 1), sl1 (ai 2) (ai 8) (ai 3), slC (ai 4) (ai 9) (ai 5) 1]).den T ρ w0) (Zb (rAD slT (ρ 2).tI (ρ 6).tR (ρ 3).tI) (Zb (rAD stT (ρ 4).tI (ρ 7).tR (ρ 5).tI) (Zb (T.prd 91 w0 ((rA 6).den T ρ) ((rA 7).den T ρ)) emp))) := rfl
 have e2 : hpDen T ρ w0 Zwc.post = Zb (T.prd 90 w0 ((Yy (ai 0)).den T ρ) ((ai 1).den T ρ)) emp := rfl
 have e3 : (Ch.cel (ai 0) 0 [.int .i64 (ai 1), sl1 (ai 2) (ai 8) (ai 3), slC (ai 4) (ai 9) (ai 5) 1]).den T ρ w0 = fun h => (0 <= (ρ 0).tI \/ False) /\ row (ρ 0).tI.toNat 0 [.int .i64 (ρ 1).tI, slV (ρ 2).tI (ρ 8).tI (ρ 3).tI, slV (ρ 4).tI (ρ 9).tI (ρ 5).tI] true h := by
  simp only [Ch.den, ZUs, List.map_nil, sl1, ZaA, SC.den, reduceCtorEq]
  rfl
 have k0 : g0 ((Yy (ai 0)).den T ρ).tN = (ρ 0).tI := rfl
 have k1 : ((ai 1).den T ρ).tI = (ρ 1).tI := rfl
 have k2 : ((rA 6).den T ρ).tR = (ρ 6).tR := rfl
 have k3 : ((rA 7).den T ρ).tR = (ρ 7).tR := rfl
 have r1 := hr (.f2 45 (ai 8) (ZA (rA 6))) (by simp [Zwc])
 have r2 := hr (.f2 45 (ai 9) (ZA (rA 7))) (by simp [Zwc])
 have r3 := hr (.f2 45 (ZA (rA 6)) (ZA (rA 7))) (by simp [Zwc])
 have r4 := hr (eLe (ZA (rA 6)) (ai 1)) (by simp [Zwc])
 have r5 := hr (eLe z0 (ai 1)) (by simp [Zwc])
 have r6 := hr (usB 450 (rA 6) z0 z0) (by simp [Zwc])
 rw [SX.den, p45] at r1 r2 r3
 rw [Zg] at r4 r5
 simp only [usB, SX.den, hT.u450, Zv, U.tPi, U.tQi, Zf] at r6
 have r1 : (ρ 8).tI = ((ρ 6).tR.length : Nat) := r1
 have r2 : (ρ 9).tI = ((ρ 7).tR.length : Nat) := r2
 have r3 : ((ρ 6).tR.length : Int) = ((ρ 7).tR.length : Nat) := r3
 rw [e1, Za, hT.p91, k2, k3, e3, r1, r2] at hpre
 rw [e2, Za, hT.p90, k0, k1]
 exact ⟨(ρ 2).tI, (ρ 3).tI, (ρ 4).tI, (ρ 5).tI, (ρ 6).tR, (ρ 7).tR, ⟨r5, by omega, r4, r6⟩, hpre⟩
theorem ZMX (S : Sig GG) (hS : LwSig S) : Z7 S ZB9 := by
 refine Zw S fun T w0 ρ h hu hp hd hr hpre => ?_
 have hT := hS.of hu hp hd
 have e1 : hpDen T ρ w0 ZB9.pre = Zb (T.prd 95 w0 ((Yy (ai 0)).den T ρ) ((ai 1).den T ρ)) emp := rfl
 have k0 : g0 ((Yy (ai 0)).den T ρ).tN = (ρ 0).tI := rfl
 have k1 : ((ai 1).den T ρ).tI = (ρ 1).tI := rfl
 rw [e1, Za, hT.p95, k0, k1] at hpre
 obtain ⟨bl, cl, bw, cw, yl, yw, ⟨f1, f2, f3⟩, hst⟩ := hpre
 let ρ' : Go.Eng.Env GG := (((((ρ.upd 2 (.int bl)).upd 3 (.int cl)).upd 4 (.int bw)).upd 5 (.int cw)).upd 6 (.rows yl)).upd 7 (.rows yw)
 refine ⟨ρ', ?_, ?_, ?_⟩
 ·intro i hi
  have hi : i < 2 := hi
  show ((((((ρ.upd 2 (.int bl)).upd 3 (.int cl)).upd 4 (.int bw)).upd 5 (.int cw)).upd 6 (.rows yl)).upd 7 (.rows yw)) i = ρ i
  simp only [Env.upd]
  repeat rw [if_neg (by omega)]
 ·have e2 : hpDen T ρ' w0 ZB9.post = Zb ((Ch.cel (ai 0) 0 [.int .i64 (ai 1), sl1 (ai 2) (ZA (rA 6)) (ai 3), slC (ai 4) (ZA (rA 7)) (ai 5) 1]).den T ρ' w0) (Zb (rAD slT bl yl cl) (Zb (rAD stT bw yw cw) emp)) := rfl
  have e3 : (Ch.cel (ai 0) 0 [.int .i64 (ai 1), sl1 (ai 2) (ZA (rA 6)) (ai 3), slC (ai 4) (ZA (rA 7)) (ai 5) 1]).den T ρ' w0 = fun h => (0 <= (ρ 0).tI \/ False) /\ row (ρ 0).tI.toNat 0 [.int .i64 (ρ 1).tI, slV bl yl.length cl, slV bw yw.length cw] true h := by
   simp only [Ch.den, ZUs, List.map_nil, sl1, ZaA, SC.den, reduceCtorEq]
   rfl
  rw [e2, Za, e3]
  exact hst
 ·obtain ⟨_, _, _, hq⟩ := Zo hst
  obtain ⟨_, _, h1, h2⟩ := Zo hq
  have l1 := Zfr (fs := [.slice 1]) (by decide) h1
  have l2 := Zfr (fs := [.str]) (by decide) h2
  intro q hq
  simp only [ZB9, List.mem_cons, List.not_mem_nil, or_false] at hq
  rcases hq with rfl | rfl | rfl | rfl | rfl
  ·rw [Zg]; exact f2
  ·rw [Zg]; exact f3
  ·rw [Zg]; exact f1
  ·rw [Zg]; exact l1
  ·rw [Zg]; exact l2
theorem Zi2 (S : Sig GG) (hS : LwSig S) : Z7 S ZfJ := by
 refine Zw S fun T w0 ρ h hu hp hd hr hpre => ⟨ρ, Ext.refl _ _, ?_, by intro x hx; exact nomatch hx⟩
 have hT := hS.of hu hp hd
 have e1 : hpDen T ρ w0 ZfJ.pre = Zb ((Ch.cel (ai 0) 0 [.int .i64 (ai 1), sl1 (ai 2) (ai 8) (ai 3), slC (ai 4) (ai 9) (ai 5) 1]).den T ρ w0) (Zb (rAD slT (ρ 2).tI (ρ 6).tR (ρ 3).tI) (Zb (rAD stT (ρ 4).tI (ρ 7).tR (ρ 5).tI) emp)) := rfl
 have e2 : hpDen T ρ w0 ZfJ.post = Zb (T.prd 95 w0 ((Yy (ai 0)).den T ρ) ((ai 1).den T ρ)) emp := rfl
 have e3 : (Ch.cel (ai 0) 0 [.int .i64 (ai 1), sl1 (ai 2) (ai 8) (ai 3), slC (ai 4) (ai 9) (ai 5) 1]).den T ρ w0 = fun h => (0 <= (ρ 0).tI \/ False) /\ row (ρ 0).tI.toNat 0 [.int .i64 (ρ 1).tI, slV (ρ 2).tI (ρ 8).tI (ρ 3).tI, slV (ρ 4).tI (ρ 9).tI (ρ 5).tI] true h := by
  simp only [Ch.den, ZUs, List.map_nil, sl1, ZaA, SC.den, reduceCtorEq]
  rfl
 have k0 : g0 ((Yy (ai 0)).den T ρ).tN = (ρ 0).tI := rfl
 have k1 : ((ai 1).den T ρ).tI = (ρ 1).tI := rfl
 have r1 := hr (.f2 45 (ai 8) (ZA (rA 6))) (by simp [ZfJ])
 have r2 := hr (.f2 45 (ai 9) (ZA (rA 7))) (by simp [ZfJ])
 have r4 := hr (eLe (ZA (rA 6)) (ai 1)) (by simp [ZfJ])
 have r3 := hr (eLe (ZA (rA 7)) (ai 1)) (by simp [ZfJ])
 have r5 := hr (eLe z0 (ai 1)) (by simp [ZfJ])
 rw [SX.den, p45] at r1 r2
 rw [Zg] at r3 r4 r5
 have r1 : (ρ 8).tI = ((ρ 6).tR.length : Nat) := r1
 have r2 : (ρ 9).tI = ((ρ 7).tR.length : Nat) := r2
 rw [e1, Za, e3, r1, r2] at hpre
 rw [e2, Za, hT.p95, k0, k1]
 exact ⟨(ρ 2).tI, (ρ 3).tI, (ρ 4).tI, (ρ 5).tI, (ρ 6).tR, (ρ 7).tR, ⟨r5, r4, r3⟩, hpre⟩
theorem ZQs (S : Sig GG) (hS : LwSig S) : Z7 S neEC := by
 refine Zw S fun T w0 ρ h hu hp hd hr hpre => ⟨ρ, Ext.refl _ _, ?_, by intro x hx; exact nomatch hx⟩
 have hT := hS.of hu hp hd
 have e1 : hpDen T ρ w0 neEC.pre = Zb ((Ch.cel (ai 0) 0 [.int .i64 z0, .slice (.int (-1)) z0 z0 z0 z0 z0 1, .slice (.int (-1)) z0 z0 z0 z0 z0 1]).den T ρ w0) emp := rfl
 have e2 : hpDen T ρ w0 neEC.post = Zb (T.prd 90 w0 ((Yy (ai 0)).den T ρ) (z0.den T ρ)) emp := rfl
 have k0 : g0 ((Yy (ai 0)).den T ρ).tN = (ρ 0).tI := rfl
 have k1 : (z0.den T ρ).tI = 0 := rfl
 have e3 : (Ch.cel (ai 0) 0 [.int .i64 z0, .slice (.int (-1)) z0 z0 z0 z0 z0 1, .slice (.int (-1)) z0 z0 z0 z0 z0 1]).den T ρ w0 = fun h => (0 <= (ρ 0).tI \/ False) /\ row (ρ 0).tI.toNat 0 [.int .i64 0, slV (-1) 0 0, slV (-1) 0 0] true h := by
  simp only [Ch.den, ZUs, List.map_nil, SC.den, reduceCtorEq]
  rfl
 rw [e1, Za, e3] at hpre
 rw [e2, Za, hT.p90, k0, k1]
 refine ⟨-1, 0, -1, 0, [], [], ⟨ZUu _, rfl, ZUu _, fun r hr => (nomatch hr)⟩, ?_⟩
 have n1 : rAD slT (-1) [] 0 = emp := Zci [.slice 1]
 have n2 : rAD stT (-1) [] 0 = emp := Zci [.str]
 have n3 : blH [] ([].map Zmm) = emp := rfl
 rw [n1, n2, n3, Za, Za, Za]
 exact hpre
theorem ZSR (S : Sig GG) (hS : LwSig S) : Z7 S ZHz := by
 refine Zw S fun T w0 ρ h hu hp hd hr hpre => ⟨ρ, Ext.refl _ _, ?_, by intro x hx; exact nomatch hx⟩
 have hT := hS.of hu hp hd
 have e1 : hpDen T ρ w0 ZHz.pre = Zb (bAD (ρ 0).tI (ρ 3).tB (ρ 2).tI) (Zb (rAD slT (ρ 4).tI (ρ 5).tR (ρ 6).tI) (Zb (rAD stT (ρ 7).tI (ρ 8).tR (ρ 9).tI) (Zb (T.prd 91 w0 ((rA 10).den T ρ) ((rA 11).den T ρ)) emp))) := rfl
 have e2 : hpDen T ρ w0 ZHz.post = Zb (rAD slT (ρ 4).tI (ρ 5).tR (ρ 6).tI) (Zb (rAD stT (ρ 7).tI (ρ 8).tR (ρ 9).tI) (Zb (T.prd 91 w0 ((rA 5).den T ρ) ((rA 8).den T ρ)) emp)) := rfl
 have k2 : ((rA 10).den T ρ).tR = (ρ 10).tR := rfl
 have k3 : ((rA 11).den T ρ).tR = (ρ 11).tR := rfl
 have k4 : ((rA 5).den T ρ).tR = (ρ 5).tR := rfl
 have k5 : ((rA 8).den T ρ).tR = (ρ 8).tR := rfl
 have r1 := hr (eLe z0 (ai 1)) (by simp [ZHz])
 have r2 := hr (eLe (ai 1) (ZP (bA 3))) (by simp [ZHz])
 have r3 := hr (eqS (rA 5) (.f2 121 (rA 10) (.f2 124 (Yf (ai 0) (ai 1) (ai 2)) YD))) (by simp [ZHz])
 have r4 := hr (eqS (rA 8) (.f2 121 (rA 11) (.f2 124 (.f2 122 (.f1 35 (tkB (bA 3) (ai 1))) Zbv) YD))) (by simp [ZHz])
 rw [Zg] at r1 r2
 have r1 : 0 <= (ρ 1).tI := r1
 have r2 : (ρ 1).tI <= ((ρ 3).tB.length : Nat) := r2
 unfold eqS at r3 r4
 rw [SX.den, ZfH] at r3 r4
 have r3 : (ρ 5).tR = (ρ 10).tR ++ [[(ρ 0).tI, (ρ 1).tI, (ρ 2).tI]] := congrArg U.tR r3
 have r4 : (ρ 8).tR = (ρ 11).tR ++ [[((Zo1 ((ρ 3).tB.take (ρ 1).tI.toNat) : Nat) : Int)]] := congrArg U.tR r4
 rw [e1, Za, hT.p91, k2, k3] at hpre
 rw [e2, Za, hT.p91, k4, k5]
 have hl : (ρ 10).tR.length = ((ρ 11).tR.map Zmm).length := by
  obtain ⟨_, _, _, hq⟩ := Zo hpre
  obtain ⟨_, _, _, hq⟩ := Zo hq
  obtain ⟨_, _, _, hq⟩ := Zo hq
  exact ZdR hq
 have hx : (ρ 8).tR.map Zmm = (ρ 11).tR.map Zmm ++ [(ρ 3).tB.take (ρ 1).tI.toNat] := by
  rw [r4, ZUz]
  show _ ++ [ZLq ((Zo1 ((ρ 3).tB.take (ρ 1).tI.toNat) : Nat) : Int).toNat] = _
  rw [ZUq, Zkv]
 rw [hx]
 have hg : ∀ A B : HProp, Zb A (Zb B (blH (ρ 5).tR ((ρ 11).tR.map Zmm ++ [(ρ 3).tB.take (ρ 1).tI.toNat]))) = Zb (blI [(ρ 0).tI, (ρ 1).tI, (ρ 2).tI] ((ρ 3).tB.take (ρ 1).tI.toNat)) (Zb A (Zb B (blH (ρ 10).tR ((ρ 11).tR.map Zmm)))) := by
  intro A B
  rw [r3, ZdL _ _ hl, Zi0, <- star_assoc B, <- star_assoc A, Zp]
 rw [hg]
 refine Zy (fun _ y => ⟨?_, ZfV _ y⟩) (fun _ y => y) _ hpre
 show (ρ 1).tI = (((ρ 3).tB.take (ρ 1).tI.toNat).length : Nat)
 rw [ZUl]; omega
theorem ZRd (S : Sig GG) (hS : LwSig S) : Z7 S lsEC := by
 refine Zw S fun T w0 ρ h hu hp hd hr hpre => ⟨ρ, Ext.refl _ _, ?_, by intro x hx; exact nomatch hx⟩
 have hT := hS.of hu hp hd
 have e1 : hpDen T ρ w0 lsEC.pre = Zb (T.prd 91 w0 ((rA 0).den T ρ) ((rA 1).den T ρ)) emp := rfl
 have e2 : hpDen T ρ w0 lsEC.post = Zb (T.prd 92 w0 ((Zj (Yy z0) (rA 0)).den T ρ) ((rA 1).den T ρ)) emp := rfl
 have k1 : ((Zj (Yy z0) (rA 0)).den T ρ).tR = [0] :: (ρ 0).tR := rfl
 have k2 : ((rA 0).den T ρ).tR = (ρ 0).tR := rfl
 rw [e1, Za, hT.p91, k2] at hpre
 rw [e2, Za, hT.p92, k1, Zoe]
 exact hpre
theorem ZQc (S : Sig GG) (hS : LwSig S) : Z7 S ZFi := by
 refine Zw S fun T w0 ρ h hu hp hd hr hpre => ⟨ρ, Ext.refl _ _, ?_⟩
 have hT := hS.of hu hp hd
 have e1 : hpDen T ρ w0 ZFi.pre = Zb (T.prd 92 w0 ((Zj (Yy (ai 0)) (rA 1)).den T ρ) ((rA 2).den T ρ)) emp := rfl
 have e2 : hpDen T ρ w0 ZFi.post = Zb (T.prd 92 w0 ((Zj (Yy (Zgf (ai 0))) (rA 1)).den T ρ) ((rA 2).den T ρ)) (Zb (bAD ((nt (rA 1) (ai 0) 0).den T ρ).tI ((Go.Eng.SX.f1 36 (nt (rA 2) (ai 0) 0)).den T ρ).tB ((nt (rA 1) (ai 0) 2).den T ρ).tI) emp) := rfl
 have k1 : ((Zj (Yy (ai 0)) (rA 1)).den T ρ).tR = [(ρ 0).tI] :: (ρ 1).tR := rfl
 have k40 : ((Zgf (ai 0)).den T ρ).tI = (ρ 0).tI + 1 := by unfold Zgf; rw [SX.mk2_den]; rfl
 have k2 : ((Zj (Yy (Zgf (ai 0))) (rA 1)).den T ρ).tR = [((Zgf (ai 0)).den T ρ).tI] :: (ρ 1).tR := rfl
 have k3 : ((rA 2).den T ρ).tR = (ρ 2).tR := rfl
 have kn : ∀ k : Nat, ((nt (rA 1) (ai 0) k).den T ρ).tI = (((ρ 1).tR.getD (ρ 0).tI.toNat []).getD k 0) := fun k => rfl
 have ky : ((Go.Eng.SX.f1 36 (nt (rA 2) (ai 0) 0)).den T ρ).tB = Zmm ((ρ 2).tR.getD (ρ 0).tI.toNat []) := rfl
 have kl : ((ZP (.f1 36 (nt (rA 2) (ai 0) 0))).den T ρ).tI = ((Zmm ((ρ 2).tR.getD (ρ 0).tI.toNat [])).length : Nat) := rfl
 have r0 := hr (eLe z0 (ai 0)) (by simp [ZFi])
 have r1 := hr (eLt (ai 0) (ZA (rA 1))) (by simp [ZFi])
 have r2 := hr (.f2 45 (ZA (rA 1)) (ZA (rA 2))) (by simp [ZFi])
 rw [Zg] at r0
 rw [Yc] at r1
 rw [SX.den, p45] at r2
 have r0 : 0 <= (ρ 0).tI := r0
 have r1 : (ρ 0).tI < ((ρ 1).tR.length : Nat) := r1
 have r2 : ((ρ 1).tR.length : Int) = ((ρ 2).tR.length : Nat) := r2
 have hf : ∀ x ∈ ZFi.facts, x = .f2 45 (nt (rA 1) (ai 0) 1) (ZP (.f1 36 (nt (rA 2) (ai 0) 0))) \/ x = eLe (ZP (.f1 36 (nt (rA 2) (ai 0) 0))) (nt (rA 1) (ai 0) 2) := by
  intro x hx; simpa [ZFi] using hx
 rw [e1, Za, hT.p92, k1, k3, Zoe] at hpre
 rw [e2, Za, hT.p92, k2, k3, k40, Zoe, kn, kn, ky]
 generalize (ρ 1).tR = R at *
 generalize (ρ 2).tR = W at *
 generalize (ρ 0).tI = n at *
 have hR : R.drop n.toNat = R.getD n.toNat [] :: R.drop (n + 1).toNat := by
  rw [List.drop_eq_getElem_cons (show n.toNat < R.length by omega), ZUj, ZUm (show n.toNat < R.length by omega), show (n + 1).toNat = n.toNat + 1 by omega]; rfl
 have hW : (W.map Zmm).drop n.toNat = Zmm (W.getD n.toNat []) :: (W.map Zmm).drop (n + 1).toNat := by
  rw [List.drop_eq_getElem_cons (show n.toNat < (W.map Zmm).length by rw [ZUt]; omega), List.getElem_map, ZUj, ZUm (show n.toNat < W.length by omega), show (n + 1).toNat = n.toNat + 1 by omega]; rfl
 rw [hR, hW] at hpre
 obtain ⟨a, b, dd, rfl, ⟨q, ha⟩, hb⟩ := hpre
 refine ⟨?_, fun x hx => ?_⟩
 ·rw [Zp]; exact ⟨a, b, dd, rfl, ha, hb⟩
 ·rcases hf x hx with rfl | rfl
  ·rw [SX.den, p45, kl, kn]; exact q
  ·rw [Zg, kl, kn]; exact Zgy ha
theorem ZTN (S : Sig GG) (hS : LwSig S) : Zs S Tryz.prog 22 Zz4 := by
 refine Zd S (C := ZS7) (fuel := 12) (Zx ⟨Zc (by decide) (ZIg S hS.rc), trivial⟩ ⟨⟨⟨by decide, ZIy S hS⟩, ⟨by decide, ZHw S hS⟩, ⟨by decide, ZSR S hS⟩, ⟨by decide, ZHw S hS⟩, trivial⟩, trivial⟩ trivial) fun ρ => ?_
 rw [ZR5]
 simp only [ZT3, ZsR, ZIM, ZNc, Znm, Zo9, ZFK, ZMz, hS.u450, Zr, Zq, VC.den, SX.den, Env.upd, Yg, Yq, YU, Y3, Ya, beq_iff_eq, Bool.not_eq_true', beq_eq_false_iff_ne, ne_eq, Bool.not_not, Int.toNat_zero, Nat.reduceEqDiff, reduceIte, sB, sC]
 generalize (ρ 1).tI = N
 generalize (ρ 5).tB = X
 generalize (ρ 3).tI = l
 generalize (ρ 4).tI = c
 intro h1 h2 h3 h4 h5 _ bc _ wc R W h6 h7 h8 h9 h10 h11
 refine ⟨by omega, fun _ => ⟨by omega, trivial, trivial, by omega, by omega, trivial⟩, fun _ _ _ => ⟨by omega, by omega, fun _ _ _ _ _ _ => ⟨by omega, by omega, fun _ _ _ _ => ⟨trivial, trivial, trivial, trivial, by omega, by omega, by omega, fun r hr => ?_, trivial⟩⟩⟩⟩
 rcases List.mem_append.1 hr with hr | hr
 ·exact h9 r hr
 ·rw [List.mem_singleton.1 hr]; exact h5
theorem ZTq (S : Sig GG) (hS : LwSig S) : Zs S Tryz.prog 10 ZCm := by
 refine Zd S (C := ZPY) (fuel := 12) (Zx ⟨Zc (by decide) (ZUg S hS.bk), ⟨Zc (by decide) (ZRa S hS.bk), trivial⟩⟩ ⟨⟨⟨by decide, ZIy S hS⟩, ⟨by decide, ZND S hS.bk⟩, ⟨by decide, ZRd S hS⟩, trivial, ⟨by decide, ZQc S hS⟩, ⟨by decide, Zi2 S hS⟩, ⟨by decide, Zi2 S hS⟩, trivial⟩, trivial⟩ trivial) fun ρ => ?_
 rw [ZPj]
 simp only [ZTE, Zpb, ZFt, ZGq, ZMS, ZN3, ZOr, ZN7, ZLG, ZMv, ZDu, ZvH, hS.u450, Zr, Zq, VC.den, SX.den, Env.upd, Yg, Yq, YU, Y3, Ya, beq_iff_eq, Bool.not_eq_true', beq_eq_false_iff_ne, ne_eq, Bool.not_not, Int.toNat_zero, Nat.reduceEqDiff, reduceIte, sB, sC]
 generalize (ρ 1).tI = N
 intro h1 _ bc _ wc R W h6 h7 h8 h9 h10 h11 _ _ n n0 n1
 refine ⟨fun hn q1 q2 => ?_, fun _ => ⟨by omega, trivial, trivial, by omega, trivial⟩⟩
 have e1 : (R.getD n.toNat []).getD (Int.toNat 1) 0 = ((ZLq ((W.getD n.toNat []).getD 0 0).toNat).length : Nat) := q1
 have hm : R.getD n.toNat [] ∈ R := by
  rw [ZUj, ZUm (show n.toNat < R.length by omega)]; exact ZUG _
 have e2 := h9 _ hm
 rw [e1]
 rw [show g1 (R.getD n.toNat []) = (R.getD n.toNat []).getD (Int.toNat 1) 0 from rfl, e1] at e2
 rw [ZUq, List.take_length]
 exact ⟨by omega, by omega, by omega, by omega, fun hh => absurd rfl hh, fun _ => ⟨by omega, by omega, by omega, by omega, by omega, by omega, by omega, trivial⟩⟩
theorem ZMl (S : Sig GG) (hS : LwSig S) : Zs S Tryz.prog 22 Zoy := by
 refine Zd S (C := ZHQ) (fuel := 12) (Zx ⟨Zc (by decide) (ZIg S hS.rc), trivial⟩ ⟨⟨⟨by decide, ZMX S hS⟩, ⟨by decide, Zi2 S hS⟩, ⟨by decide, Zi2 S hS⟩, trivial⟩, trivial⟩ trivial) fun ρ => ?_
 rw [ZLZ]
 simp only [ZHO, Zfw, Zu5, Zt8, ZgL, Zgn, Zr, Zq, VC.den, SX.den, Env.upd, Yg, Yq, YU, Y3, Ya, beq_iff_eq, Bool.not_eq_true', beq_eq_false_iff_ne, ne_eq, Bool.not_not, Int.toNat_zero, Nat.reduceEqDiff, reduceIte, sB, sC]
 generalize (ρ 1).tI = N
 generalize (ρ 5).tB = X
 generalize (ρ 3).tI = l
 generalize (ρ 4).tI = c
 intro h1 h2 h3 h4 h5 _ bc _ wc R W h6 h7 h8 h9 h10
 exact ⟨by omega, fun _ => ⟨by omega, trivial, trivial, by omega, by omega, by omega, trivial⟩, fun _ _ _ => ⟨by omega, by omega, fun _ _ _ _ _ _ => ⟨by omega, by omega, fun _ _ _ _ => ⟨trivial, trivial, by omega, by omega, by omega, trivial⟩⟩⟩⟩
def Ro (w : World) (b o : Int) (vals : List Value) : Prop := (0 <= b \/ vals = []) /\ ∀ i v, vals[i]? = some v -> b.toNat < w.heap.size /\ w.cell? ⟨b.toNat, o.toNat + i, none⟩ = some v
structure CallOk (w : World) (r : List Int) : Prop where
 pg : -9223372036854775808 <= r.getD 1 0 /\ r.getD 1 0 <= 9223372036854775807
 sp : r.getD 5 0 < 0 \/ r.getD 6 0 = 0
 ln : 0 <= r.getD 6 0 /\ r.getD 6 0 <= (r.drop 10).length /\ r.getD 6 0 <= r.getD 7 0 /\ r.getD 6 0 <= 1099511627776
 nl : 0 <= r.getD 3 0 \/ r.getD 6 0 = 0
 ro : Ro w (r.getD 3 0) (r.getD 4 0) ((r.drop 10).map (Value.int .i64))
structure PySig (S : Sig GG) : Prop where
 lw : LwSig S
 p93 : ∀ w0 k x, S.prd 93 w0 k x = HProp.pure (∀ r ∈ k.tR, CallOk w0 r)
 u451 : ∀ a b c d, S.usr 451 a b c d = .bool (Zz (BndC (Zn a) b.tI))
 u452 : ∀ a b c d, S.usr 452 a b c d = .bool (Zz (BndD (Zk a) b.tI))
 u453 : ∀ a b c d, S.usr 453 a b c d = .bool (Zz (∀ n, 0 <= n -> BndD (Zk a) n -> BndD (Zk b) (n + 1)))
 u454 : ∀ a b c d, S.usr 454 a b c d = .bool (Zz (∀ n, 0 <= n -> BndC (Zn a) n -> BndD (Zk b) n -> BndC (Zn c) (n + 1) /\ BndD (Zk d) (n + 1)))
 u455 : ∀ a b c d, S.usr 455 a b c d = .bool (Zz (∃ n, 0 <= n /\ n <= 16777216 /\ BndC (Zn a) n /\ BndD (Zk b) n))
 u456 : ∀ a b c d, S.usr 456 a b c d = .bool (Zz (∃ n, 0 <= n /\ n <= 16777216 /\ BndD (Zk a) n))
 u460 : ∀ a b c d, S.usr 460 a b c d = .ints ((a.tR.getD b.tI.toNat []).drop 10)
abbrev spy {S : Sig GG} (h : PySig S) := (And.intro h.u451 (And.intro h.u452 (And.intro h.u453 (And.intro h.u454 (And.intro h.u455 (And.intro h.u456 h.u460))))))
theorem PySig.of {S T : Sig GG} (h : PySig S) (hu : T.usr = S.usr) (hp : T.prd = S.prd) (hd : T.dg = S.dg) : PySig T := by
 constructor
 ·exact h.lw.of hu hp hd
 all_goals first | (rw [hp]; exact h.p93) | (rw [hu]; first | exact h.u451 | exact h.u452 | exact h.u453 | exact h.u454 | exact h.u455 | exact h.u456 | exact h.u460)
def Zwa (R : SX) : Ch := .prd 93 R z0
def opL (R I : SX) (s : SC) : List SC := [.int .i64 (nt R I 0), .int .i64 (nt R I 1), .int .i64 (nt R I 2), s, .int .i64 (nt R I 8), .int .i64 (nt R I 9)]
def opQ (R I : SX) : List SC := opL R I (.opq R I 3)
def kpX (R I : SX) : SX := usN 460 R I z0
def ZHP : Ctr := ⟨[.int, .rows, .int], [.one (.ptr (ai 0) 0)], [.cel (ai 0) 0 (opQ (rA 1) (ai 2)), Zwa (rA 1)], [eLe z0 (ai 2), eLt (ai 2) (ZA (rA 1)), eLt (nt (rA 1) (ai 2) 5) z0], [], .tup [],
 [.cel (ai 0) 0 (opL (rA 1) (ai 2) (.slice (nt (rA 1) (ai 2) 3) (nt (rA 1) (ai 2) 4) z0 z0 (nt (rA 1) (ai 2) 6) (nt (rA 1) (ai 2) 7) 1)), Zwa (rA 1), .ro iE (nt (rA 1) (ai 2) 3) (nt (rA 1) (ai 2) 4) (kpX (rA 1) (ai 2))],
 [.f1 23 (nt (rA 1) (ai 2) 1), eLe z0 (nt (rA 1) (ai 2) 6), eLe (nt (rA 1) (ai 2) 6) (Zb7 (kpX (rA 1) (ai 2))), eLe (nt (rA 1) (ai 2) 6) (nt (rA 1) (ai 2) 7), eLe (nt (rA 1) (ai 2) 6) (.int 1099511627776), .f2 50 (eLe z0 (nt (rA 1) (ai 2) 3)) (.f2 45 (nt (rA 1) (ai 2) 6) z0)]⟩
def Zpk : Ctr := ⟨[.rows, .int, .int], [.one (.ptr (ai 2) 0)], [.cel (ai 2) 0 (opQ (rA 0) (ai 1)), Zwa (rA 0)], [eLe z0 (ai 1), eLt (ai 1) (ZA (rA 0)), eLe z0 (nt (rA 0) (ai 1) 5)], [], .tup [], [.cel (ai 2) 0 (opQ (rA 0) (ai 1)), Zwa (rA 0)], [.f1 23 (nt (rA 0) (ai 1) 1), .f2 45 (nt (rA 0) (ai 1) 6) z0]⟩
def ZP1 : Ctr := ⟨[.int, .int, .g], [], [csC (ai 0) (ai 1) (gA 2)], [], [], .tup [], [csC (ai 0) (ai 1) (usG 429 (gA 2) z0 z0)], []⟩
def ZCr : Ctr := { Zm8 with facts := .f2 50 (.f2 45 Zdk z0) (.f2 45 (ai 6) z0) :: eLe (ai 6) (.int 65536) :: Zm8.facts }
def ZSV : Cx := ZJp
def prL : List SC := [.ptr (ai 1) 0, .ptr (ai 2) 0, .ptr (ai 3) 0, .ptr (ai 4) 0, .ptr (ai 5) 0]
def dvR (g : SX) : List SX := [usB 456 g z0 z0]
def dvS : List (Nat × List Ctr) := [(62, [ZuC]), (63, [Zyb]), (64, [ZDg]), (11, [Zut]), (47, [Zee]), (59, [ZrT]),
 (66, [Zy0]), (67, [ZAt]), (68, [Zv7]), (69, [ZvX]), (21, [Zsl]), (70, [ZAf])]
def ZxX : Ctr := ⟨[.int, .int, .int, .int, .int, .int, .g, .rows, .int], [.one (.ptr (ai 0) 0), .agg (opQ (rA 7) (ai 8))], [.cel (ai 0) 0 prL, plC (ai 1) (gA 6), rpC (ai 2) (gA 6), Zwa (rA 7)], dvR (gA 6) ++ [eLe z0 (ai 8), eLt (ai 8) (ZA (rA 7)), eLt (nt (rA 7) (ai 8) 5) z0], [.g, .bool],
 .one (.bool (qA 10)), [.cel (ai 0) 0 prL, plC (ai 1) (gA 9), rpC (ai 2) (gA 9), Zwa (rA 7)], [usB 453 (gA 6) (gA 9) z0, qA 10]⟩
def dvA : List (Nat × List (Nat × Ann)) := [(65, [(0, .ghost Znt [.tmp 0]), (999999, .ghost (ZcU [] [] (usG 218 (gA 1) z0 z0)) [.tmp 0])]), (71, [(1, .ghost Znt [.tmp 0]), (999999, .ghost (ZcU [] [] (gA 1)) [.tmp 0])])]
def ZQr : Cx := { specs := dvS, anns := (34, [(1, .ghost ZES []), (3, .ghost ZHP [.tmp 3])]) :: dvA }
def ZzX : Ctr := ⟨[.rows, .int], [.one (.opq (rA 0) (ai 1) 3)], [], [.f2 45 (nt (rA 0) (ai 1) 6) z0], [.int, .ints, .int], .one (sl1 (ai 2) z0 (ai 4)), [iAr (ai 2) (iA 3) (ai 4)], [.f2 45 (Zb7 (iA 3)) z0, eLe z0 (ai 4)]⟩
def ZT9 : Cx := { specs := [], anns := [(85, [(999999, .ghost ZNX [])])] }
def arwT : List Srt := [.int, .g, .int, .rows, .int, .int, .int]
def arwA : List SV := [.one (.ptr (ai 0) 0), .one (.int .i64 (ai 2)), .agg [.opq (rA 3) (ai 4) 3, .int .i64 (ai 5), .int .i64 (ai 6)]]
def arwR : List SX := [.f1 23 (ai 2), .f2 45 (nt (rA 3) (ai 4) 6) z0]
def arwG : SX := .us .g 219 (gA 1) (ai 2) Zbv (ZT (ai 5) (ai 6))
def Zvd : Ctr := ⟨arwT, arwA, [plC (ai 0) (gA 1)], arwR, [], .tup [], [plC (ai 0) arwG], []⟩
def ZSI : Cx := { specs := [(85, [ZzX])], anns := [(62, [(1, .ghost Zob [.tmp 0]), (999999, .ghost (ZeE [.int, .rows, .int, .int, .int] [.one (.int .i64 (ai 15)), .agg [.opq (rA 16) (ai 17) 3, .int .i64 (ai 18), .int .i64 (ai 19)]] (.us .g 219 (gA 1) (ai 15) Zbv (ZT (ai 18) (ai 19)))) [.tmp 0, .tmp 1, .tmp 2])])] }
def ZtV : Ctr := ⟨arwT, arwA, [rpC (ai 0) (gA 1)], arwR, [], .tup [], [rpC (ai 0) arwG], []⟩
def ZPZ : Cx := { specs := [], anns := [(63, [(1, .ghost Znt [.tmp 0]), (5, .ghost ZNX []), (999999, .ghost (ZcU [.int, .rows, .int, .int, .int] [.one (.int .i64 (ai 16)), .agg [.opq (rA 17) (ai 18) 3, .int .i64 (ai 19), .int .i64 (ai 20)]] (.us .g 219 (gA 1) (ai 16) Zbv (ZT (ai 19) (ai 20)))) [.tmp 0, .tmp 1, .tmp 2])])] }
def dwS : List (Nat × List Ctr) := (62, [Zvd]) :: (63, [ZtV]) :: dvS.drop 2
def Zwq : Ctr := ⟨[.int, .int, .int, .int, .int, .int, .g, .rows, .int], [.one (.ptr (ai 0) 0), .agg (opQ (rA 7) (ai 8))], [.cel (ai 0) 0 prL, plC (ai 1) (gA 6), rpC (ai 2) (gA 6), Zwa (rA 7)], dvR (gA 6) ++ [eLe z0 (ai 8), eLt (ai 8) (ZA (rA 7)), eLe z0 (nt (rA 7) (ai 8) 5)], [.g, .bool],
 .one (.bool (qA 10)), [.cel (ai 0) 0 prL, plC (ai 1) (gA 9), rpC (ai 2) (gA 9), Zwa (rA 7)], [usB 453 (gA 6) (gA 9) z0, qA 10]⟩
def ZTo : Cx := { specs := dwS, anns := (34, [(1, .ghost ZES []), (3, .ghost Zpk [.tmp 3])]) :: dvA }
def opZ (k p : SX) : List SC := [.int .i64 k, .int .i64 p, .int .i64 z0, .slice (.int (-1)) z0 z0 z0 z0 z0 1, .int .i64 z0, .int .i64 z0]
def ZuJ : Ctr := ⟨[.int, .int, .int, .int, .int, .int, .g], [.one (.ptr (ai 0) 0), .agg (opZ (.int 12) z0)], [.cel (ai 0) 0 prL, plC (ai 1) (gA 6), rpC (ai 2) (gA 6)], dvR (gA 6), [.bool],
 .one (.bool (qA 7)), [.cel (ai 0) 0 prL, plC (ai 1) (gA 6), rpC (ai 2) (gA 6)], [qA 7]⟩
def ZSj : Cx := { specs := dvS, anns := (34, [(1, .ghost ZES [])]) :: dvA }
def ZGS : SX := p 215 (g 6)
def Zs9 : SX := .f3 112 (r 7) (a 8) z
def ZMn : SX := e Zs9 (k 8)
def ZGY : SX := .f3 112 (r 7) (a 8) (k 1)
def Zpf : SX := .f3 112 (r 7) (a 8) (k 6)
def ZL3 : SX := wN 460 (r 7) (a 8)
def ZJA : SX := e Zs9 (k 9)
def ZGw : SX := v 210 (g 6)
def Zxd : SX := v 211 (g 6)
def ZK5 : SX := l z (a 17)
def ZAN : SX := .f2 113 (s 21) (a 17)
def Zqt : SX := o 209 (g 6)
def Zsi : SX := l z (a 10)
def Zya : SX := .f2 115 (r 20) (a 13)
def ZaH : SX := w 218 (g 6)
def ZD1 : SX := v 210 ZaH
def ZtW : SX := v 207 (g 6)
def ZEL : SX := v 206 (g 6)
def ZuY : SX := e Zs9 (k 10)
def ZAe : SX := l (.f1 31 (b 11)) (a 12)
def Zt6 : SX := l (.f1 31 (b 11)) (.f1 31 (b 11))
def ZEg : SX := l (.f1 31 (b 11)) k0
def Zw8 : SX := l (.f1 30 Zqt) k1
def Zvm : SX := .f2 114 (b 11) (.f1 31 (b 11))
def ZAM : SX := e Zs9 (k 11)
def Zyz : SX := l Zxd k2
def Zwe : SX := e Zs9 (k 12)
def ZDl : SX := j 229 (g 6)
def ZxD : SX := .f2 115 (r 28) (a 21)
def ZrQ : SX := c 453 (g 6) (g 6)
def ZSF : VC := i (p 456 (g 6)) (i (l z (a 8)) (i (t (a 8) (.f1 32 (r 7))) (i (t (.f3 112 (r 7) (a 8) (k 5)) z) (u 9 .int (i (l z (a 9)) (i ZGS (.and (i ZMn (i (.f1 23 ZGY) (i (l z Zpf) (i (l Zpf (.f1 30 ZL3)) (i (l Zpf (.f3 112 (r 7) (a 8) (k 7))) (i (l Zpf k0) (i (.f2 50 (l z (.f3 112 (r 7) (a 8) (k 3))) (e Zpf z)) (n (c 453 (g 6) (.us .g 219 (g 6) ZGY (.f2 113 ZL3 Zpf) (.f2 122 (.f3 112 (r 7) (a 8) (k 8)) (.f2 122 (.f3 112 (r 7) (a 8) (k 9)) (.f1 152 z))))) .tt)))))))) (i (.f1 2 ZMn) (.and (i ZJA (u 10 .int (u 11 .int (u 12 .int (u 13 .int (u 14 .int (u 15 .int (u 16 .int (u 17 .int (u 18 .int (u 19 .rows (u 20 .rows (u 21 .ints (i (e (.f1 32 (r 19)) ZGw) (i (l z (a 13)) (i (l (a 13) (.f1 32 (r 20))) (i (e (a 13) Zxd) (i (l (a 13) (a 14)) (i ZK5 (i (l (a 17) (.f1 30 (s 21))) (i (.f2 153 ZAN Zqt) (i (c 402 (g 6) (a 15)) (i ZGS (i Zsi (i (l (.f1 32 (r 19)) (a 11)) (i (c 413 (r 20) (g 6)) (n (.f2 155 Zya Zya) (n (.f2 153 ZAN (o 209 ZaH)) (n (c 402 ZaH (a 15)) (n (p 215 ZaH) (n (c 403 ZaH (g 6)) (n (c 216 ZaH (g 6)) (n (e (.f1 32 (r 19)) ZD1) (n (e (v 207 ZaH) ZtW) (n (e (v 206 ZaH) ZEL) (n (e (v 205 ZaH) (v 205 (g 6))) (n (e (v 204 ZaH) (v 204 (g 6))) (n (e (v 203 ZaH) (v 203 (g 6))) (n (.f2 155 (p 401 ZaH) (p 401 (g 6))) (n (.f2 155 (p 201 ZaH) (.bool false)) (n (e ZD1 ZGw) (n (e (v 200 ZaH) (v 200 (g 6))) (n (c 453 (g 6) ZaH) .tt))))))))))))))))))))))))))))))))))))))))))) (i (.f1 2 ZJA) (.and (i ZuY (u 10 .int (u 11 .bytes (u 12 .int (i (.f2 155 (b 11) (j 308 (.f3 112 (r 7) (a 8) (k 2)))) (i Zsi (i ZAe (n Zt6 (n ZEg (n (.f2 50 Zsi (e (.f1 31 (b 11)) z)) (n (l ZEL k2) (n (l Zxd k0) (n Zw8 (n (c 453 (g 6) (h 221 (g 6) ZGY Zvm)) .tt)))))))))))))) (i (.f1 2 ZuY) (.and (i ZAM (n (l ZtW k2) (n Zyz (n Zw8 (n (c 453 (g 6) (w 227 (g 6))) .tt))))) (i (.f1 2 ZAM) (.and (i Zwe (u 10 .int (u 11 .bytes (u 12 .int (i (.f2 155 (b 11) ZDl) (i ZAe (n Zyz (u 13 .int (u 14 .bytes (u 15 .int (i (.f2 155 (b 14) ZDl) (i (l (.f1 31 (b 14)) (a 15)) (n Zt6 (n ZEg (n (l (.f1 31 (b 14)) (.f1 31 (b 14))) (n (l (.f1 31 (b 14)) k0) (u 16 .bool (i (.f2 48 (q 16) (.f2 155 Zvm (.f2 114 (b 14) (.f1 31 (b 14))))) (.and (i (q 16) (u 17 .int (i ZK5 (u 18 .int (u 19 .int (u 20 .int (u 21 .int (u 22 .int (u 23 .int (u 24 .int (u 25 .int (u 26 .int (u 27 .rows (u 28 .rows (u 29 .ints (i (e (.f1 32 (r 27)) ZGw) (i (l z (a 21)) (i (l (a 21) (.f1 32 (r 28))) (i (e (a 21) Zxd) (i (l (a 21) (a 22)) (i (l z (a 25)) (i (l (a 25) (.f1 30 (s 29))) (i (.f2 153 (.f2 113 (s 29) (a 25)) Zqt) (i (c 402 (g 6) (a 23)) (i ZGS (i (l z (a 18)) (i (l (.f1 32 (r 27)) (a 19)) (i (c 413 (r 28) (g 6)) (n (.f2 155 ZxD ZxD) (n (c 403 (g 6) (g 6)) (n (c 216 (g 6) (g 6)) (n ZrQ .tt)))))))))))))))))))))))))))))))) (i (.f1 2 (q 16)) (n ZrQ (n (.bool false) .tt)))))))))))))))))))))) (i (.f1 2 Zwe) (n ZrQ .tt)))))))))))))))))
theorem ZRq : Yk Tryz.prog ZQr 12 34 ZxX = ZSF := by kernel_rfl
def ZJj : SX := p 215 (g 6)
def ZK2 : SX := j 229 (g 6)
def ZOe : SX := v 211 (g 6)
def ZJS : SX := .f2 115 (r 26) (a 19)
def ZRk : VC := i (p 456 (g 6)) (u 7 .int (i (l z (a 7)) (i ZJj (u 8 .int (u 9 .bytes (u 10 .int (i (.f2 155 (b 9) ZK2) (i (l (.f1 31 (b 9)) (a 10)) (n (l ZOe k2) (u 11 .int (u 12 .bytes (u 13 .int (i (.f2 155 (b 12) ZK2) (i (l (.f1 31 (b 12)) (a 13)) (n (l (.f1 31 (b 9)) (.f1 31 (b 9))) (n (l (.f1 31 (b 9)) k0) (n (l (.f1 31 (b 12)) (.f1 31 (b 12))) (n (l (.f1 31 (b 12)) k0) (u 14 .bool (i (.f2 48 (q 14) (.f2 155 (.f2 114 (b 9) (.f1 31 (b 9))) (.f2 114 (b 12) (.f1 31 (b 12))))) (.and (i (q 14) (u 15 .int (i (l z (a 15)) (u 16 .int (u 17 .int (u 18 .int (u 19 .int (u 20 .int (u 21 .int (u 22 .int (u 23 .int (u 24 .int (u 25 .rows (u 26 .rows (u 27 .ints (i (e (.f1 32 (r 25)) (v 210 (g 6))) (i (l z (a 19)) (i (l (a 19) (.f1 32 (r 26))) (i (e (a 19) ZOe) (i (l (a 19) (a 20)) (i (l z (a 23)) (i (l (a 23) (.f1 30 (s 27))) (i (.f2 153 (.f2 113 (s 27) (a 23)) (o 209 (g 6))) (i (c 402 (g 6) (a 21)) (i ZJj (i (l z (a 16)) (i (l (.f1 32 (r 25)) (a 17)) (i (c 413 (r 26) (g 6)) (n (.f2 155 ZJS ZJS) (n (c 403 (g 6) (g 6)) (n (c 216 (g 6) (g 6)) .tt))))))))))))))))))))))))))))))) (i (.f1 2 (q 14)) (n (.bool false) .tt)))))))))))))))))))))))
theorem ZRm : Yk Tryz.prog ZSj 12 34 ZuJ = ZRk := by kernel_rfl
def ZgA : SX := h 283 (g 2) (g 3) (a 4)
def ZFF : SX := o 242 (r 7)
def ZDh : SX := e (x 285 (g 2) (g 3) (a 4)) z
def ZBV : SX := .f1 2 ZDh
def ZLl : SX := .f2 155 ZFF ZFF
def ZLy : SX := .us .g 267 ZgA (v 258 ZgA) (v 259 ZgA) (v 260 ZgA)
def ZKc : SX := p 268 ZLy
def ZOp : SX := v 256 ZgA
def ZN2 : SX := wB 253 ZgA (.f2 40 ZOp (k (-1)))
def ZKF : SX := .f2 155 (w 273 ZgA) ZLy
def Zg5 : SX := d 250 (r 7) (a 9)
def ZCG : SX := wB 253 ZgA Zg5
def Zb6 : SX := .f1 31 ZCG
def Zsr : SX := e Zb6 z
def ZDs : SX := .f2 114 (b 11) Zb6
def ZQZ : VC := i (l (v 206 (g 3)) k2) (i (l (v 211 (g 3)) k0) (i (l (.f1 30 (o 209 (g 3))) k1) (i (l (v 205 (g 3)) k2) (i (l (v 258 (g 2)) k2) (i (l (v 259 (g 2)) k2) (i (l (v 260 (g 2)) k2) (u 5 .int (u 6 .int (u 7 .rows (u 8 .amap (u 9 .int (i (y 251 (m 8) (r 7) ZgA) (i (p 268 ZgA) (i (c 246 (a 6) ZFF) (i (.f2 50 ZBV (e (a 9) (.f3 112 (r 7) (.f2 40 (.f1 32 (r 7)) (k (-1))) z))) (.and (i ZBV (n ZLl (n ZKc (n (.f2 50 ZDh (.bool true)) (n (.f2 50 ZBV (.f2 155 (.f1 153 z) ZN2)) (n ZKF .tt)))))) (i ZDh (n (t Zg5 (.f1 32 (r 7))) (i (l Zb6 (.f3 112 (r 7) Zg5 (k 2))) (i (.f2 50 (l z (.f3 112 (r 7) Zg5 (k 1))) Zsr) (n (l Zb6 Zb6) (n (l Zb6 k0) (u 10 .int (u 11 .bytes (u 12 .int (i (.f2 155 ZDs (.f2 114 ZCG Zb6)) (i (e (.f1 31 (b 11)) Zb6) (i (l Zb6 (a 12)) (i (.f2 50 (l z (a 10)) Zsr) (n (l z Zg5) (n (e (a 9) (.f3 112 (r 7) Zg5 z)) (n (e (.f1 32 (r 7)) ZOp) (n ZLl (n ZKc (n (.f2 50 ZDh Zsr) (n (l Zb6 (k 65536)) (n (.f2 50 ZBV (.f2 155 ZDs ZN2)) (n (l Zb6 (.f1 31 (b 11))) (n ZKF .tt)))))))))))))))))))))))))))))))))))))))
theorem ZQL : Yk Tryz.prog ZSV 12 13 ZCr = ZQZ := by kernel_rfl
theorem ZPO (S : Sig GG) (hS : PySig S) : Z7 S ZHP := by
 refine Zw S fun T w0 ρ h hu hp hd hr hpre => ⟨ρ, Ext.refl _ _, ?_⟩
 have hT := hS.of hu hp hd
 have r0 := hr (eLe z0 (ai 2)) (by simp [ZHP])
 have r1 := hr (eLt (ai 2) (ZA (rA 1))) (by simp [ZHP])
 have r2 := hr (eLt (nt (rA 1) (ai 2) 5) z0) (by simp [ZHP])
 rw [Zg] at r0
 rw [Yc] at r1 r2
 have r0 : 0 <= (ρ 2).tI := r0
 have r1 : (ρ 2).tI < ((ρ 1).tR.length : Nat) := r1
 have e1 : hpDen T ρ w0 ZHP.pre = Zb ((Ch.cel (ai 0) 0 (opQ (rA 1) (ai 2))).den T ρ w0) (Zb (T.prd 93 w0 ((rA 1).den T ρ) (z0.den T ρ)) emp) := rfl
 have e2 : hpDen T ρ w0 ZHP.post = Zb ((Ch.cel (ai 0) 0 (opL (rA 1) (ai 2) (.slice (nt (rA 1) (ai 2) 3) (nt (rA 1) (ai 2) 4) z0 z0 (nt (rA 1) (ai 2) 6) (nt (rA 1) (ai 2) 7) 1))).den T ρ w0) (Zb (T.prd 93 w0 ((rA 1).den T ρ) (z0.den T ρ)) (Zb (roDen T w0 iE ((nt (rA 1) (ai 2) 3).den T ρ) ((nt (rA 1) (ai 2) 4).den T ρ) ((kpX (rA 1) (ai 2)).den T ρ)) emp)) := rfl
 have k0 : ((rA 1).den T ρ).tR = (ρ 1).tR := rfl
 have kn : ∀ k : Nat, ((nt (rA 1) (ai 2) k).den T ρ).tI = (((ρ 1).tR.getD (ρ 2).tI.toNat []).getD k 0) := fun k => rfl
 have kx : ((kpX (rA 1) (ai 2)).den T ρ).tN = ((ρ 1).tR.getD (ρ 2).tI.toNat []).drop 10 := by
  simp only [kpX, usN, SX.den, hT.u460]
  rfl
 rw [e1, hT.p93, Za, Zp, star_pure, k0] at hpre
 obtain ⟨hall, hc⟩ := hpre
 have hmem : (ρ 1).tR.getD (ρ 2).tI.toNat [] ∈ (ρ 1).tR := by
  rw [ZUj, ZUm (show (ρ 2).tI.toNat < (ρ 1).tR.length by omega)]; exact ZUG _
 have hk := hall _ hmem
 have r2 : ((ρ 1).tR.getD (ρ 2).tI.toNat []).getD 5 0 < 0 := r2
 generalize hr' : (ρ 1).tR.getD (ρ 2).tI.toNat [] = r at *
 refine ⟨?_, ?_⟩
 ·rw [e2, hT.p93, k0, Zp, star_assoc, star_pure, Za, roDen, star_pure, kn, kn]
  refine ⟨hall, ?_, ?_⟩
  ·have e : (iE.vals ((kpX (rA 1) (ai 2)).den T ρ)) = (((kpX (rA 1) (ai 2)).den T ρ).tN.map (Value.int .i64)) := rfl
   rw [e, kx]
   exact hk.ro
  ·refine ⟨hc.1.imp id (fun x => nomatch x), ?_⟩
   have hrow := hc.2
   have e3 : (opQ (rA 1) (ai 2)).map (SC.den T ρ) = (opL (rA 1) (ai 2) (.slice (nt (rA 1) (ai 2) 3) (nt (rA 1) (ai 2) 4) z0 z0 (nt (rA 1) (ai 2) 6) (nt (rA 1) (ai 2) 7) 1)).map (SC.den T ρ) := by
    unfold opQ opL
    simp only [ZUs, List.map_nil]
    have e4 : SC.den T ρ (.opq (rA 1) (ai 2) 3) = SC.den T ρ (.slice (nt (rA 1) (ai 2) 3) (nt (rA 1) (ai 2) 4) z0 z0 (nt (rA 1) (ai 2) 6) (nt (rA 1) (ai 2) 7) 1) := by
     have q1 : SC.den T ρ (.opq (rA 1) (ai 2) 3) = ZNN (((ρ 1).tR.getD (ρ 2).tI.toNat []).drop 3) := rfl
     have q2 : SC.den T ρ (.slice (nt (rA 1) (ai 2) 3) (nt (rA 1) (ai 2) 4) z0 z0 (nt (rA 1) (ai 2) 6) (nt (rA 1) (ai 2) 7) 1) = .slice (if ((ρ 1).tR.getD (ρ 2).tI.toNat []).getD 3 0 < 0 then none else some ⟨(((ρ 1).tR.getD (ρ 2).tI.toNat []).getD 3 0).toNat, (((ρ 1).tR.getD (ρ 2).tI.toNat []).getD 4 0).toNat + (if ((ρ 1).tR.getD (ρ 2).tI.toNat []).getD 7 0 = 0 then (0 : Int) else 0).toNat * 1, none⟩) (((ρ 1).tR.getD (ρ 2).tI.toNat []).getD 6 0).toNat (((ρ 1).tR.getD (ρ 2).tI.toNat []).getD 7 0).toNat := rfl
     rw [q1, q2, hr', ite_self]
     have hd : ∀ k, (r.drop 3).getD k 0 = r.getD (3 + k) 0 := fun k => by rw [ZUj, ZUI, ZUj]
     unfold ZNN
     rw [hd 0, hd 1, hd 2, hd 3, hd 4, if_pos r2]
     rfl
    rw [e4]
   rw [<- e3]; exact hrow
 ·intro q hq
  simp only [ZHP, List.mem_cons, List.not_mem_nil, or_false] at hq
  have kl : ((Zb7 (kpX (rA 1) (ai 2))).den T ρ).tI = ((r.drop 10).length : Nat) := by
   rw [<- kx]; rfl
  rcases hq with rfl | rfl | rfl | rfl | rfl | rfl
  ·rw [SX.den, p23, kn]; exact hk.pg
  ·rw [Zg, kn]; exact hk.ln.1
  ·rw [Zg, kl, kn]; exact hk.ln.2.1
  ·rw [Zg, kn, kn]; exact hk.ln.2.2.1
  ·rw [Zg, kn]; exact hk.ln.2.2.2
  ·have : ((SX.f2 50 (eLe z0 (nt (rA 1) (ai 2) 3)) (.f2 45 (nt (rA 1) (ai 2) 6) z0)).den T ρ).tP ↔ (0 <= r.getD 3 0 \/ r.getD 6 0 = 0) := by
    rw [SX.den, p50]
    show ((eLe z0 (nt (rA 1) (ai 2) 3)).den T ρ).tP \/ ((SX.f2 45 (nt (rA 1) (ai 2) 6) z0).den T ρ).tP ↔ _
    rw [Zg, SX.den, p45, kn, kn]
    exact Iff.rfl
   exact this.2 hk.nl
theorem ZMJ (S : Sig GG) (hS : PySig S) : Z7 S Zpk := by
 refine Zw S fun T w0 ρ h hu hp hd hr hpre => ⟨ρ, Ext.refl _ _, hpre, ?_⟩
 have hT := hS.of hu hp hd
 have r0 := hr (eLe z0 (ai 1)) (by simp [Zpk])
 have r1 := hr (eLt (ai 1) (ZA (rA 0))) (by simp [Zpk])
 have r2 := hr (eLe z0 (nt (rA 0) (ai 1) 5)) (by simp [Zpk])
 rw [Zg] at r0 r2
 rw [Yc] at r1
 have r0 : 0 <= (ρ 1).tI := r0
 have r1 : (ρ 1).tI < ((ρ 0).tR.length : Nat) := r1
 have r2 : 0 <= ((ρ 0).tR.getD (ρ 1).tI.toNat []).getD 5 0 := r2
 have e1 : hpDen T ρ w0 Zpk.pre = Zb ((Ch.cel (ai 2) 0 (opQ (rA 0) (ai 1))).den T ρ w0) (Zb (T.prd 93 w0 ((rA 0).den T ρ) (z0.den T ρ)) emp) := rfl
 have k0 : ((rA 0).den T ρ).tR = (ρ 0).tR := rfl
 have kn : ∀ k : Nat, ((nt (rA 0) (ai 1) k).den T ρ).tI = (((ρ 0).tR.getD (ρ 1).tI.toNat []).getD k 0) := fun k => rfl
 rw [e1, hT.p93, Za, Zp, star_pure, k0] at hpre
 have hmem : (ρ 0).tR.getD (ρ 1).tI.toNat [] ∈ (ρ 0).tR := by
  rw [ZUj, ZUm (show (ρ 1).tI.toNat < (ρ 0).tR.length by omega)]; exact ZUG _
 have hk := hpre.1 _ hmem
 have hz : ((ρ 0).tR.getD (ρ 1).tI.toNat []).getD 6 0 = 0 := hk.sp.resolve_left (by omega)
 intro q hq
 simp only [Zpk, List.mem_cons, List.not_mem_nil, or_false] at hq
 rcases hq with rfl | rfl
 ·rw [SX.den, p23, kn]; exact hk.pg
 ·rw [SX.den, p45, kn]; exact hz
theorem ZIf (S : Sig GG) (hS : PySig S) : Z7 S ZP1 := by
 refine Zw S fun T w0 ρ h hu hp hd hr hpre => ⟨ρ, Ext.refl _ _, ?_, by intro x hx; exact nomatch hx⟩
 have hT := hS.of hu hp hd
 have e1 : hpDen T ρ w0 ZP1.pre = Zb (T.prd 72 w0 ((Zj (ZT (ai 0) (ai 1)) YD).den T ρ) ((gA 2).den T ρ)) emp := rfl
 have e2 : hpDen T ρ w0 ZP1.post = Zb (T.prd 72 w0 ((Zj (ZT (ai 0) (ai 1)) YD).den T ρ) ((usG 429 (gA 2) z0 z0).den T ρ)) emp := rfl
 have e : Zn ((usG 429 (gA 2) z0 z0).den T ρ) = Zn ((gA 2).den T ρ) := by
  simp only [usG, SX.den, hT.lw.rc.u429, Zbf, Zq]
 rw [e1, Za, hT.lw.rc.rp.cs.p72] at hpre
 rw [e2, Za, hT.lw.rc.rp.cs.p72, e]
 exact hpre
theorem ZkO {b : Bool} {x y : List UInt8} : (ap2 48 (U.bool b : U GG) (ap2 155 (U.bytes x) (U.bytes y))).tP -> (b = true ↔ x = y) := by
 intro h
 rw [ZDj, U.bytes.injEq] at h
 exact h
theorem ZgW (x : Int) : (ZL x).length <= 512 := by
 unfold ZL
 split
 ·decide
 ·rw [ZUA]; exact Nat.le_refl _
theorem Zj8 {d : Dv} (g : GoodD d) : (d.image.length : Int) <= 67108864 := by
 rw [Zax g]
 have := g.pages.2.2.2
 omega
theorem ZRU (S : Sig GG) (hS : CsSig S) : Zs S Tryz.prog 13 ZCr := by
 refine Zd S (C := ZSV) (fuel := 12) (Zx (Zlf hS) ⟨⟨⟨by decide, ZbE S hS⟩, ⟨by decide, Zcp S hS⟩, ⟨by decide, Zb9 S hS⟩, ⟨by decide, Zcx S⟩, trivial⟩, trivial⟩ trivial) fun ρ => ?_
 rw [ZQL]
 simp only [ZQZ, ZgA, ZFF, ZDh, ZBV, ZLl, ZLy, ZKc, ZOp, ZN2, ZKF, Zg5, ZCG, Zb6, Zsr, ZDs, Zr, Zq, VC.den, SX.den, Env.upd, Yg, Yq, YU, Y3, Ya, beq_iff_eq, Bool.not_eq_true', beq_eq_false_iff_ne, ne_eq, Bool.not_not, Int.toNat_zero, Nat.reduceEqDiff, reduceIte, sdv hS.dv, srg hS.rg, scs hS, sB, sC]
 generalize Zn (U.co S .g (ρ 2)) = c
 generalize Zk (U.co S .g (ρ 3)) = d
 generalize (ρ 4).tI = n
 intro q1 q2 q3 q4 q5 q6 q7 hm H R m l hh hg hnd hor
 refine ⟨fun he => ⟨?_, hg, .inr ?_, .inl he, ?_, trivial⟩, fun he => ?_⟩
 ·first | trivial | rfl
 ·first | trivial | rfl
 ·first | trivial | rfl
 ·have h0 : 0 < R.length := by rw [hh.1]; exact Zet he
  obtain ⟨k1, k2⟩ := Zew hnd h0 (hor.resolve_left (fun h => h he))
  have hlen := hh.1
  have hb := hg.b ((c.holdC d n).at' ((R.length - 1 : Nat) : Int)) (by
   show (c.holdC d n).fr.getD (R.length - 1) fr0 ∈ _
   rw [ZUj, ZUm (by omega)]; exact ZUG _)
  have hix : (((c.holdC d n).fr.length : Nat) : Int) + -1 = ((R.length - 1 : Nat) : Int) := by omega
  simp only [k1, hix]
  refine ⟨by omega, fun f1 f2 => ⟨by omega, by omega, fun b B cp g1 g2 g3 g4 => ⟨by omega, k2, by omega, ?_, hg, .inl he, by omega, .inr ?_, by omega, ?_, trivial⟩⟩⟩
  ·first | trivial | rfl
  ·have e : (-(0 + 1) : Int) = -1 := rfl
   have hix' : ((((c.holdC d n).fr.length : Nat) : Int) + -(0 + 1)) = ((R.length - 1 : Nat) : Int) := hix
   rw [g1, ZUq, List.take_length]
   show (ap2 155 _ _).tP
   rw [ZfH]
  ·first | trivial | rfl
theorem ZTT (S : Sig GG) (hS : PySig S) : Zs S Tryz.prog 34 ZxX := by
 refine Zd S (C := ZQr) (fuel := 12) (Zx ⟨Zc (by decide) (ZHL S hS.lw.rc.rp), ⟨Zc (by decide) (ZH9 S hS.lw.rc.rp), ⟨Zc (by decide) (ZzL S hS.lw.rc.rp.cs.dv), ⟨Zc (by decide) (ZxS S hS.lw.rc.rp.cs), ⟨Zc (by decide) (Zeo S hS.lw.rc.rp.cs.dv), ⟨Zc (by decide) (Zrn S hS.lw.rc.rp), ⟨Zc (by decide) (ZC5 S hS.lw.rc.rp.cs.dv), ⟨Zc (by decide) (ZCc S hS.lw.rc.rp), ⟨Zc (by decide) (ZAF S hS.lw.rc.rp.cs.dv), ⟨Zc (by decide) (Zyp S hS.lw.rc.rp), ⟨Zc (by decide) (ZsG S hS.lw.rc), ⟨Zc (by decide) (ZDC S hS.lw.rc.rp.cs.dv), trivial⟩⟩⟩⟩⟩⟩⟩⟩⟩⟩⟩⟩ ⟨⟨⟨by decide, ZgC S hS.lw.rc.rp⟩, ⟨by decide, ZPO S hS⟩, trivial⟩, ⟨⟨by decide, ZaK S hS.lw.rc.rp⟩, ⟨by decide, Yw S hS.lw.rc.rp _ _ _⟩, trivial⟩, ⟨⟨by decide, ZaK S hS.lw.rc.rp⟩, ⟨by decide, Yw S hS.lw.rc.rp _ _ _⟩, trivial⟩, trivial⟩ trivial) fun ρ => ?_
 rw [ZRq]
 simp only [ZSF, ZGS, Zs9, ZMn, ZGY, Zpf, ZL3, ZJA, ZGw, Zxd, ZK5, ZAN, Zqt, Zsi, Zya, ZaH, ZD1, ZtW, ZEL, ZuY, ZAe, Zt6, ZEg, Zw8, Zvm, ZAM, Zyz, Zwe, ZDl, ZxD, ZrQ, Zr, Zq, VC.den, SX.den, Env.upd, Yg, Yq, YU, Y3, Ya, beq_iff_eq, Bool.not_eq_true', beq_eq_false_iff_ne, ne_eq, Bool.not_not, Int.toNat_zero, Nat.reduceEqDiff, reduceIte, sdv hS.lw.rc.rp.cs.dv, scs hS.lw.rc.rp.cs, srp hS.lw.rc.rp, spy hS, sB, sC]
 generalize Zk (U.co S .g (ρ 6)) = d
 rintro ⟨N, N0, N1, hb⟩ i0 i1 _ x x0 hg
 have b1 := hb.r
 have b2 := hb.s
 have b3 := hb.w
 have b4 := hb.l
 have b5 := hb.k
 refine ⟨fun h8 p q1 q2 q3 q4 q5 => ⟨fun n n0 k => ZvV k _ _ _ _ ?_, trivial⟩, fun _ => ⟨?_, fun _ => ⟨?_, fun _ => ⟨fun _ => ⟨by omega, by omega, by omega, fun n n0 k => Zp3 k, trivial⟩, fun _ => ⟨?_, fun _ => ⟨fun n n0 k => Zaf k, trivial⟩⟩⟩⟩⟩⟩
 ·rw [ZUl]; omega
 ·intro h9 y1 y2 y3 y4 y5 y6 y7 y8 y9 R Y Z h1 h2 h3 h4 h5 h6 h7 h8 h9 hg' h10 h11 h12
  exact ⟨trivial, h8, h9, ⟨hg.size, hg.pgs, hg.w, hg.acts, hg.cnt⟩, ⟨rfl, rfl⟩, rfl, h1, rfl, rfl, rfl, rfl, rfl, rfl, rfl, rfl, rfl, fun n _ k => ZkB k, trivial⟩
 ·intro h10 y1 B y2 hB y3 y4
  have := ZgW (((ρ 7).tR.getD (ρ 8).tI.toNat []).getD (Int.toNat 2) 0)
  rw [<- hB] at this
  exact ⟨by omega, by omega, .inl y3, by omega, by omega, by omega, fun n n0 k => ZHY k _ _, trivial⟩
 ·intro h12 y1 B y2 hB y3
  have hi := Zj8 hg
  refine ⟨by omega, fun y4 X y5 hX y6 => ⟨by omega, by rw [hB]; omega, by omega, by rw [hX]; omega, fun b hbb => ⟨fun bt => ?_, fun bf => ?_⟩⟩⟩
  ·intro _ _ _ _ _ _ _ _ _ _ _ R Y Z h1 h2 h3 h4 h5 h6 h7 h8 h9 hg' h10 h11 h12
   exact ⟨trivial, ⟨trivial, trivial⟩, trivial, fun n _ k => Zaf k, trivial⟩
  ·have := ZkO hbb
   rw [hB, hX] at this
   exact absurd (this.2 rfl) (by rw [bf]; decide)
theorem ZQf (S : Sig GG) (hS : PySig S) : Zs S Tryz.prog 34 ZuJ := by
 refine Zd S (C := ZSj) (fuel := 12) (Zx ⟨Zc (by decide) (ZHL S hS.lw.rc.rp), ⟨Zc (by decide) (ZH9 S hS.lw.rc.rp), ⟨Zc (by decide) (ZzL S hS.lw.rc.rp.cs.dv), ⟨Zc (by decide) (ZxS S hS.lw.rc.rp.cs), ⟨Zc (by decide) (Zeo S hS.lw.rc.rp.cs.dv), ⟨Zc (by decide) (Zrn S hS.lw.rc.rp), ⟨Zc (by decide) (ZC5 S hS.lw.rc.rp.cs.dv), ⟨Zc (by decide) (ZCc S hS.lw.rc.rp), ⟨Zc (by decide) (ZAF S hS.lw.rc.rp.cs.dv), ⟨Zc (by decide) (Zyp S hS.lw.rc.rp), ⟨Zc (by decide) (ZsG S hS.lw.rc), ⟨Zc (by decide) (ZDC S hS.lw.rc.rp.cs.dv), trivial⟩⟩⟩⟩⟩⟩⟩⟩⟩⟩⟩⟩ ⟨⟨⟨by decide, ZgC S hS.lw.rc.rp⟩, trivial⟩, ⟨⟨by decide, ZaK S hS.lw.rc.rp⟩, ⟨by decide, Yw S hS.lw.rc.rp _ _ _⟩, trivial⟩, ⟨⟨by decide, ZaK S hS.lw.rc.rp⟩, ⟨by decide, Yw S hS.lw.rc.rp _ _ _⟩, trivial⟩, trivial⟩ trivial) fun ρ => ?_
 rw [ZRm]
 simp only [ZRk, ZJj, ZK2, ZOe, ZJS, Zr, Zq, VC.den, SX.den, Env.upd, Yg, Yq, YU, Y3, Ya, beq_iff_eq, Bool.not_eq_true', beq_eq_false_iff_ne, ne_eq, Bool.not_not, Int.toNat_zero, Nat.reduceEqDiff, reduceIte, sdv hS.lw.rc.rp.cs.dv, srp hS.lw.rc.rp, spy hS, sB, sC]
 generalize Zk (U.co S .g (ρ 6)) = d
 rintro ⟨N, N0, N1, hb⟩ x x0 hg y1 B y2 hB y3
 have b4 := hb.l
 have hi := Zj8 hg
 refine ⟨by omega, fun y4 X y5 hX y6 => ⟨by omega, by rw [hB]; omega, by omega, by rw [hX]; omega, fun b hbb => ⟨fun bt => ?_, fun bf => ?_⟩⟩⟩
 ·intro _ _ _ _ _ _ _ _ _ _ _ R Y Z h1 h2 h3 h4 h5 h6 h7 h8 h9 hg' h10 h11 h12
  exact ⟨trivial, ⟨trivial, trivial⟩, trivial, trivial⟩
 ·have := ZkO hbb
  rw [hB, hX] at this
  exact absurd (this.2 rfl) (by rw [bf]; decide)
def ZM5 : SX := .f3 112 (r 0) (a 1) (k 3)
def ZQ2 : VC := i (e (.f3 112 (r 0) (a 1) (k 6)) z) (.and (i (t ZM5 z) .tt) (i (l z ZM5) (u 2 .int (i (l z (a 2)) .tt))))
theorem ZQx : Yk Tryz.prog ZT9 12 85 ZzX = ZQ2 := by kernel_rfl
def ZKO : SX := .f2 113 (s 19) (a 15)
def ZM0 : SX := j 208 (g 1)
def ZKA : SX := .f1 31 ZM0
def ZG2 : SX := p 201 (g 1)
def ZKZ : SX := .f2 115 (r 17) (a 11)
def ZJI : SX := .f2 155 ZKZ ZKZ
def Zef : SX := .us .g 219 (g 1) (a 2) (.f1 152 z) (.f2 122 (a 5) (.f2 122 (a 6) (.f1 152 z)))
def ZLe : SX := o 209 Zef
def ZMM : SX := c 214 (m 18) Zef
def ZNv : SX := p 215 Zef
def ZyF : SX := c 216 Zef (g 1)
def Zwt : SX := j 208 Zef
def ZwJ : SX := .f2 155 Zwt ZM0
def ZED : SX := e (v 207 Zef) (v 207 (g 1))
def ZCj : SX := e (v 206 Zef) (v 206 (g 1))
def Zvh : SX := e (v 205 Zef) (v 205 (g 1))
def ZxV : SX := v 204 Zef
def ZzU : SX := v 203 Zef
def ZAy : SX := v 202 Zef
def Zyv : SX := .f2 155 (p 201 Zef) ZG2
def ZEq : SX := e (.f1 31 Zwt) ZKA
def Zug : SX := e (v 200 Zef) (v 200 (g 1))
def ZQW : VC := i (.f1 23 (a 2)) (i (e (.f3 112 (r 3) (a 4) (k 6)) z) (u 7 .int (i (l z (a 7)) (u 8 .int (u 9 .int (u 10 .int (u 11 .int (u 12 .int (u 13 .int (u 14 .int (u 15 .int (u 16 .int (u 17 .rows (u 18 .amap (u 19 .ints (i (l z (a 11)) (i (l (a 11) (.f1 32 (r 17))) (i (e (a 11) (v 211 (g 1))) (i (l (a 11) (a 12)) (i (l z (a 15)) (i (l (a 15) (.f1 30 (s 19))) (i (.f2 153 ZKO (o 209 (g 1))) (i (c 214 (m 18) (g 1)) (i (p 215 (g 1)) (i (l ZKA (a 9)) (i (l z (a 8)) (i (p 237 (m 18)) (.and (i ZG2 (n ZJI (n (.f2 153 ZKO ZLe) (n ZMM (n ZNv (n ZyF (n ZwJ (n ZED (n ZCj (n Zvh (n (e ZxV (v 204 (g 1))) (n (e ZzU (v 203 (g 1))) (n (e ZAy (v 202 (g 1))) (n Zyv (n ZEq (n Zug .tt)))))))))))))))) (i (.f1 2 ZG2) (u 20 .int (u 21 .ints (u 22 .int (i (e (.f1 30 (s 21)) z) (i (l z (a 22)) (n ZJI (n (.f2 153 (.f2 113 (s 21) z) ZLe) (n ZMM (n ZNv (n ZyF (n ZwJ (n ZED (n ZCj (n Zvh (n (e ZxV (a 6)) (n (e ZzU (a 5)) (n (e ZAy (.f2 52 (a 2) (k (-1)))) (n Zyv (n ZEq (n Zug .tt)))))))))))))))))))))))))))))))))))))))))))))))))
theorem ZR8 : Yk Tryz.prog ZSI 12 62 Zvd = ZQW := by kernel_rfl
def ZIK : SX := v 210 (g 1)
def ZKe : SX := .f2 113 (s 19) (a 15)
def ZFq : SX := p 201 (g 1)
def ZMp : SX := .f2 115 (r 18) (a 11)
def ZKV : SX := .f2 155 ZMp ZMp
def Zc8 : SX := .us .g 219 (g 1) (a 2) (.f1 152 z) (.f2 122 (a 5) (.f2 122 (a 6) (.f1 152 z)))
def ZMY : SX := o 209 Zc8
def ZJ4 : SX := p 215 Zc8
def ZIR : SX := c 403 Zc8 (g 1)
def ZJE : SX := c 216 Zc8 (g 1)
def Zx4 : SX := v 210 Zc8
def Zzl : SX := e (.f1 32 (r 17)) Zx4
def Zx0 : SX := e (v 207 Zc8) (v 207 (g 1))
def Zzh : SX := e (v 206 Zc8) (v 206 (g 1))
def Zu9 : SX := e (v 205 Zc8) (v 205 (g 1))
def ZD3 : SX := v 204 Zc8
def ZzQ : SX := v 203 Zc8
def Zu4 : SX := p 401 Zc8
def ZBx : SX := .f2 155 (p 201 Zc8) ZFq
def ZzJ : SX := e Zx4 ZIK
def ZuI : SX := e (v 200 Zc8) (v 200 (g 1))
def ZP3 : VC := i (.f1 23 (a 2)) (i (e (.f3 112 (r 3) (a 4) (k 6)) z) (u 7 .int (i (l z (a 7)) (u 8 .int (u 9 .int (u 10 .int (u 11 .int (u 12 .int (u 13 .int (u 14 .int (u 15 .int (u 16 .int (u 17 .rows (u 18 .rows (u 19 .ints (i (e (.f1 32 (r 17)) ZIK) (i (l z (a 11)) (i (l (a 11) (.f1 32 (r 18))) (i (e (a 11) (v 211 (g 1))) (i (l (a 11) (a 12)) (i (l z (a 15)) (i (l (a 15) (.f1 30 (s 19))) (i (.f2 153 ZKe (o 209 (g 1))) (i (c 402 (g 1) (a 13)) (i (p 215 (g 1)) (i (l z (a 8)) (i (l (.f1 32 (r 17)) (a 9)) (i (c 413 (r 18) (g 1)) (.and (i ZFq (n ZKV (n (.f2 153 ZKe ZMY) (n (c 402 Zc8 (a 13)) (n ZJ4 (n ZIR (n ZJE (n Zzl (n Zx0 (n Zzh (n Zu9 (n (e ZD3 (v 204 (g 1))) (n (e ZzQ (v 203 (g 1))) (n (.f2 155 Zu4 (p 401 (g 1))) (n ZBx (n ZzJ (n ZuI .tt))))))))))))))))) (i (.f1 2 ZFq) (n ZKV (n (.f2 153 (.f1 152 z) ZMY) (n (c 402 Zc8 (a 2)) (n ZJ4 (n ZIR (n ZJE (n Zzl (n Zx0 (n Zzh (n Zu9 (n (e ZD3 (a 6)) (n (e ZzQ (a 5)) (n (.f2 155 Zu4 (l z (a 2))) (n ZBx (n ZzJ (n ZuI .tt))))))))))))))))))))))))))))))))))))))))))))))
theorem ZRn : Yk Tryz.prog ZPZ 12 63 ZtV = ZP3 := by kernel_rfl
def ZHc : SX := p 215 (g 6)
def ZsO : SX := .f3 112 (r 7) (a 8) z
def ZL6 : SX := e ZsO (k 8)
def ZFd : SX := .f3 112 (r 7) (a 8) (k 1)
def ZLz : SX := e ZsO (k 9)
def ZFO : SX := v 210 (g 6)
def Zvk : SX := v 211 (g 6)
def ZKH : SX := l z (a 17)
def ZMT : SX := .f2 113 (s 21) (a 17)
def ZFu : SX := o 209 (g 6)
def ZqD : SX := l z (a 10)
def ZxE : SX := .f2 115 (r 20) (a 13)
def ZaJ : SX := w 218 (g 6)
def ZwA : SX := v 210 ZaJ
def ZwW : SX := v 207 (g 6)
def Zzt : SX := v 206 (g 6)
def Zym : SX := e ZsO (k 10)
def Zz1 : SX := l (.f1 31 (b 11)) (a 12)
def ZzF : SX := l (.f1 31 (b 11)) (.f1 31 (b 11))
def Zvv : SX := l (.f1 31 (b 11)) k0
def ZAr : SX := l (.f1 30 ZFu) k1
def ZvQ : SX := .f2 114 (b 11) (.f1 31 (b 11))
def Zvp : SX := e ZsO (k 11)
def Zxv : SX := l Zvk k2
def Zu7 : SX := e ZsO (k 12)
def Zw7 : SX := j 229 (g 6)
def ZAx : SX := .f2 115 (r 28) (a 21)
def Zsy : SX := c 453 (g 6) (g 6)
def ZTF : VC := i (p 456 (g 6)) (i (l z (a 8)) (i (t (a 8) (.f1 32 (r 7))) (i (l z (.f3 112 (r 7) (a 8) (k 5))) (u 9 .int (i (l z (a 9)) (i ZHc (.and (i ZL6 (i (.f1 23 ZFd) (i (e (.f3 112 (r 7) (a 8) (k 6)) z) (n (c 453 (g 6) (.us .g 219 (g 6) ZFd (.f1 152 z) (.f2 122 (.f3 112 (r 7) (a 8) (k 8)) (.f2 122 (.f3 112 (r 7) (a 8) (k 9)) (.f1 152 z))))) .tt)))) (i (.f1 2 ZL6) (.and (i ZLz (u 10 .int (u 11 .int (u 12 .int (u 13 .int (u 14 .int (u 15 .int (u 16 .int (u 17 .int (u 18 .int (u 19 .rows (u 20 .rows (u 21 .ints (i (e (.f1 32 (r 19)) ZFO) (i (l z (a 13)) (i (l (a 13) (.f1 32 (r 20))) (i (e (a 13) Zvk) (i (l (a 13) (a 14)) (i ZKH (i (l (a 17) (.f1 30 (s 21))) (i (.f2 153 ZMT ZFu) (i (c 402 (g 6) (a 15)) (i ZHc (i ZqD (i (l (.f1 32 (r 19)) (a 11)) (i (c 413 (r 20) (g 6)) (n (.f2 155 ZxE ZxE) (n (.f2 153 ZMT (o 209 ZaJ)) (n (c 402 ZaJ (a 15)) (n (p 215 ZaJ) (n (c 403 ZaJ (g 6)) (n (c 216 ZaJ (g 6)) (n (e (.f1 32 (r 19)) ZwA) (n (e (v 207 ZaJ) ZwW) (n (e (v 206 ZaJ) Zzt) (n (e (v 205 ZaJ) (v 205 (g 6))) (n (e (v 204 ZaJ) (v 204 (g 6))) (n (e (v 203 ZaJ) (v 203 (g 6))) (n (.f2 155 (p 401 ZaJ) (p 401 (g 6))) (n (.f2 155 (p 201 ZaJ) (.bool false)) (n (e ZwA ZFO) (n (e (v 200 ZaJ) (v 200 (g 6))) (n (c 453 (g 6) ZaJ) .tt))))))))))))))))))))))))))))))))))))))))))) (i (.f1 2 ZLz) (.and (i Zym (u 10 .int (u 11 .bytes (u 12 .int (i (.f2 155 (b 11) (j 308 (.f3 112 (r 7) (a 8) (k 2)))) (i ZqD (i Zz1 (n ZzF (n Zvv (n (.f2 50 ZqD (e (.f1 31 (b 11)) z)) (n (l Zzt k2) (n (l Zvk k0) (n ZAr (n (c 453 (g 6) (h 221 (g 6) ZFd ZvQ)) .tt)))))))))))))) (i (.f1 2 Zym) (.and (i Zvp (n (l ZwW k2) (n Zxv (n ZAr (n (c 453 (g 6) (w 227 (g 6))) .tt))))) (i (.f1 2 Zvp) (.and (i Zu7 (u 10 .int (u 11 .bytes (u 12 .int (i (.f2 155 (b 11) Zw7) (i Zz1 (n Zxv (u 13 .int (u 14 .bytes (u 15 .int (i (.f2 155 (b 14) Zw7) (i (l (.f1 31 (b 14)) (a 15)) (n ZzF (n Zvv (n (l (.f1 31 (b 14)) (.f1 31 (b 14))) (n (l (.f1 31 (b 14)) k0) (u 16 .bool (i (.f2 48 (q 16) (.f2 155 ZvQ (.f2 114 (b 14) (.f1 31 (b 14))))) (.and (i (q 16) (u 17 .int (i ZKH (u 18 .int (u 19 .int (u 20 .int (u 21 .int (u 22 .int (u 23 .int (u 24 .int (u 25 .int (u 26 .int (u 27 .rows (u 28 .rows (u 29 .ints (i (e (.f1 32 (r 27)) ZFO) (i (l z (a 21)) (i (l (a 21) (.f1 32 (r 28))) (i (e (a 21) Zvk) (i (l (a 21) (a 22)) (i (l z (a 25)) (i (l (a 25) (.f1 30 (s 29))) (i (.f2 153 (.f2 113 (s 29) (a 25)) ZFu) (i (c 402 (g 6) (a 23)) (i ZHc (i (l z (a 18)) (i (l (.f1 32 (r 27)) (a 19)) (i (c 413 (r 28) (g 6)) (n (.f2 155 ZAx ZAx) (n (c 403 (g 6) (g 6)) (n (c 216 (g 6) (g 6)) (n Zsy .tt)))))))))))))))))))))))))))))))) (i (.f1 2 (q 16)) (n Zsy (n (.bool false) .tt)))))))))))))))))))))) (i (.f1 2 Zu7) (n Zsy .tt)))))))))))))))))
theorem ZQR : Yk Tryz.prog ZTo 12 34 Zwq = ZTF := by kernel_rfl
theorem ZPL (S : Sig GG) (hS : PySig S) : Zs S Tryz.prog 85 ZzX := by
 refine Zd S (C := ZT9) (fuel := 12) (Zx trivial ⟨⟨⟨by decide, Zri S⟩, trivial⟩, trivial⟩ trivial) fun ρ => ?_
 rw [ZQx]
 simp only [ZQ2, ZM5, Zr, Zq, VC.den, SX.den, Env.upd, Yg, Yq, YU, Y3, Ya, beq_iff_eq, Bool.not_eq_true', beq_eq_false_iff_ne, ne_eq, Bool.not_not, Int.toNat_zero, Nat.reduceEqDiff, reduceIte, sB, sC]
 intro h
 exact ⟨fun _ => trivial, fun _ _ _ => trivial⟩
theorem ZQe (S : Sig GG) (hS : PySig S) : Zs S Tryz.prog 62 Zvd := by
 refine Zd S (C := ZSI) (fuel := 12) (Zx ⟨Zc (by decide) (ZPL S hS), trivial⟩ ⟨⟨⟨by decide, ZcI S hS.lw.rc.rp.cs.dv⟩, ⟨by decide, Y9 S hS.lw.rc.rp.cs.dv _ _ _⟩, trivial⟩, trivial⟩ trivial) fun ρ => ?_
 rw [ZR8]
 simp only [ZQW, ZKO, ZM0, ZKA, ZG2, ZKZ, ZJI, Zef, ZLe, ZMM, ZNv, ZyF, Zwt, ZwJ, ZED, ZCj, Zvh, ZxV, ZzU, ZAy, Zyv, ZEq, Zug, Zr, Zq, VC.den, SX.den, Env.upd, Yg, Yq, YU, Y3, Ya, beq_iff_eq, Bool.not_eq_true', beq_eq_false_iff_ne, ne_eq, Bool.not_not, Int.toNat_zero, Nat.reduceEqDiff, reduceIte, sdv hS.lw.rc.rp.cs.dv, sB, sC]
 generalize Zk (U.co S .g (ρ 1)) = d
 generalize (ρ 2).tI = n
 generalize (ρ 5).tI = tn
 generalize (ρ 6).tI = aw
 intro hn hz _ _ i8 i9 i10 i11 i12 i13 i14 i15 i16 R M Z h1 h2 h3 h4 h5 h6 h7 h8 hg h9 h10 h11
 have t0 : ([tn, aw] : List Int).getD 0 0 = tn := rfl
 have t1 : ([tn, aw] : List Int).getD 1 0 = aw := rfl
 simp only [t0, t1]
 refine ⟨fun hd => ?_, fun hd => ?_⟩
 ·simp only [ZfR hd]
  repeat' (first | exact trivial | rfl | assumption | apply And.intro)
 ·simp only [ZrM hd]
  have hga := Zf2 hg (n := n) (t := tn) (a := aw) (k := []) (by omega)
  intro b Y c s1 s2
  repeat' (first | exact trivial | rfl | assumption | apply And.intro)
theorem ZRZ (S : Sig GG) (hS : PySig S) : Zs S Tryz.prog 63 ZtV := by
 refine Zd S (C := ZPZ) (fuel := 12) (Zx trivial ⟨⟨⟨by decide, ZaK S hS.lw.rc.rp⟩, ⟨by decide, Zri S⟩, ⟨by decide, Yw S hS.lw.rc.rp _ _ _⟩, trivial⟩, trivial⟩ trivial) fun ρ => ?_
 rw [ZRn]
 simp only [ZP3, ZIK, ZKe, ZFq, ZMp, ZKV, Zc8, ZMY, ZJ4, ZIR, ZJE, Zx4, Zzl, Zx0, Zzh, Zu9, ZD3, ZzQ, Zu4, ZBx, ZzJ, ZuI, Zr, Zq, VC.den, SX.den, Env.upd, Yg, Yq, YU, Y3, Ya, beq_iff_eq, Bool.not_eq_true', beq_eq_false_iff_ne, ne_eq, Bool.not_not, Int.toNat_zero, Nat.reduceEqDiff, reduceIte, sdv hS.lw.rc.rp.cs.dv, srp hS.lw.rc.rp, sB, sC]
 generalize Zk (U.co S .g (ρ 1)) = d
 generalize (ρ 2).tI = n
 generalize (ρ 5).tI = tn
 generalize (ρ 6).tI = aw
 intro hn hz _ _ i8 i9 i10 i11 i12 i13 i14 i15 i16 R Y Z hR h1 h2 h3 h4 h5 h6 h7 h8 hg h9 h10 hY
 have t0 : ([tn, aw] : List Int).getD 0 0 = tn := rfl
 have t1 : ([tn, aw] : List Int).getD 1 0 = aw := rfl
 simp only [t0, t1]
 refine ⟨fun hd => ?_, fun hd => ?_⟩
 ·simp only [ZfR hd]
  repeat' (first | exact trivial | rfl | assumption | apply And.intro)
 ·simp only [ZrM hd]
  have hga := Zf2 hg (n := n) (t := tn) (a := aw) (k := []) (by omega)
  have harm : U.bool (ZhV { d with acts := Zbd n (-1), keep := [], torn := tn, at' := aw }) = (ap2 47 (U.int 0) (U.int n) : U GG) := by
   have e : (ap2 47 (U.int 0) (U.int n) : U GG) = U.bool (decide ((0 : Int) <= n)) := rfl
   rw [e]
   unfold ZhV
   by_cases h : 0 <= n
   ·rw [decide_eq_true h]; exact congrArg U.bool (decide_eq_true (show 0 <= Zbd n (-1) by unfold Zbd; split <;> omega))
   ·rw [decide_eq_false h]; exact congrArg U.bool (decide_eq_false (show ¬ 0 <= Zbd n (-1) by unfold Zbd; split <;> omega))
  have hac : 0 <= ({ d with acts := Zbd n (-1), keep := [], torn := tn, at' := aw } : Dv).acts -> n = ({ d with acts := Zbd n (-1), keep := [], torn := tn, at' := aw } : Dv).acts := by
   show 0 <= Zbd n (-1) -> n = Zbd n (-1)
   unfold Zbd; split <;> omega
  repeat' (first | exact trivial | rfl | assumption | apply And.intro)
theorem ZQj (S : Sig GG) (hS : PySig S) : Zs S Tryz.prog 34 Zwq := by
 refine Zd S (C := ZTo) (fuel := 12) (Zx ⟨Zc (by decide) (ZQe S hS), ⟨Zc (by decide) (ZRZ S hS), ⟨Zc (by decide) (ZzL S hS.lw.rc.rp.cs.dv), ⟨Zc (by decide) (ZxS S hS.lw.rc.rp.cs), ⟨Zc (by decide) (Zeo S hS.lw.rc.rp.cs.dv), ⟨Zc (by decide) (Zrn S hS.lw.rc.rp), ⟨Zc (by decide) (ZC5 S hS.lw.rc.rp.cs.dv), ⟨Zc (by decide) (ZCc S hS.lw.rc.rp), ⟨Zc (by decide) (ZAF S hS.lw.rc.rp.cs.dv), ⟨Zc (by decide) (Zyp S hS.lw.rc.rp), ⟨Zc (by decide) (ZsG S hS.lw.rc), ⟨Zc (by decide) (ZDC S hS.lw.rc.rp.cs.dv), trivial⟩⟩⟩⟩⟩⟩⟩⟩⟩⟩⟩⟩ ⟨⟨⟨by decide, ZgC S hS.lw.rc.rp⟩, ⟨by decide, ZMJ S hS⟩, trivial⟩, ⟨⟨by decide, ZaK S hS.lw.rc.rp⟩, ⟨by decide, Yw S hS.lw.rc.rp _ _ _⟩, trivial⟩, ⟨⟨by decide, ZaK S hS.lw.rc.rp⟩, ⟨by decide, Yw S hS.lw.rc.rp _ _ _⟩, trivial⟩, trivial⟩ trivial) fun ρ => ?_
 rw [ZQR]
 simp only [ZTF, ZHc, ZsO, ZL6, ZFd, ZLz, ZFO, Zvk, ZKH, ZMT, ZFu, ZqD, ZxE, ZaJ, ZwA, ZwW, Zzt, Zym, Zz1, ZzF, Zvv, ZAr, ZvQ, Zvp, Zxv, Zu7, Zw7, ZAx, Zsy, Zr, Zq, VC.den, SX.den, Env.upd, Yg, Yq, YU, Y3, Ya, beq_iff_eq, Bool.not_eq_true', beq_eq_false_iff_ne, ne_eq, Bool.not_not, Int.toNat_zero, Nat.reduceEqDiff, reduceIte, sdv hS.lw.rc.rp.cs.dv, scs hS.lw.rc.rp.cs, srp hS.lw.rc.rp, spy hS, sB, sC]
 generalize Zk (U.co S .g (ρ 6)) = d
 rintro ⟨N, N0, N1, hb⟩ i0 i1 _ x x0 hg
 have b1 := hb.r
 have b2 := hb.s
 have b3 := hb.w
 have b4 := hb.l
 have b5 := hb.k
 refine ⟨fun h8 p q1 => ⟨fun n n0 k => ZvV k _ _ _ _ (by show ((0 : Nat) : Int) <= _; decide), trivial⟩, fun _ => ⟨?_, fun _ => ⟨?_, fun _ => ⟨fun _ => ⟨by omega, by omega, by omega, fun n n0 k => Zp3 k, trivial⟩, fun _ => ⟨?_, fun _ => ⟨fun n n0 k => Zaf k, trivial⟩⟩⟩⟩⟩⟩
 ·intro h9 y1 y2 y3 y4 y5 y6 y7 y8 y9 R Y Z h1 h2 h3 h4 h5 h6 h7 h8 h9 hg' h10 h11 h12
  exact ⟨trivial, h8, h9, ⟨hg.size, hg.pgs, hg.w, hg.acts, hg.cnt⟩, ⟨rfl, rfl⟩, rfl, h1, rfl, rfl, rfl, rfl, rfl, rfl, rfl, rfl, rfl, fun n _ k => ZkB k, trivial⟩
 ·intro h10 y1 B y2 hB y3 y4
  have := ZgW (((ρ 7).tR.getD (ρ 8).tI.toNat []).getD (Int.toNat 2) 0)
  rw [<- hB] at this
  exact ⟨by omega, by omega, .inl y3, by omega, by omega, by omega, fun n n0 k => ZHY k _ _, trivial⟩
 ·intro h12 y1 B y2 hB y3
  have hi := Zj8 hg
  refine ⟨by omega, fun y4 X y5 hX y6 => ⟨by omega, by rw [hB]; omega, by omega, by rw [hX]; omega, fun b hbb => ⟨fun bt => ?_, fun bf => ?_⟩⟩⟩
  ·intro _ _ _ _ _ _ _ _ _ _ _ R Y Z h1 h2 h3 h4 h5 h6 h7 h8 h9 hg' h10 h11 h12
   exact ⟨trivial, ⟨trivial, trivial⟩, trivial, fun n _ k => Zaf k, trivial⟩
  ·have := ZkO hbb
   rw [hB, hX] at this
   exact absurd (this.2 rfl) (by rw [bf]; decide)
def stS : List (Nat × List Ctr) := [(34, [ZxX, Zwq, ZuJ]), (13, [ZCr]), (20, [ZuE]), (21, [Zsl]), (22, [Zz4, Zoy]), (11, [Zut]), (23, [ZA9]),
 (12, [Zrj]), (24, [Zxe]), (25, [Zze]), (26, [ZxF]), (27, [ZEE]), (28, [ZC4]), (29, [Zy8]),
 (14, [ZE5]), (30, [Zyd]), (31, [Zos]), (32, [Zxb]), (16, [ZFJ]), (33, [ZuR])]
def prH (g d n : SX) : List Ch := [.cel (ai 0) 0 prL, plC (ai 1) d, rpC (ai 2) d, csC (ai 3) (ai 1) g, rcC (ai 4) (ai 2) g, kpC (ai 5) n]
def prQ (g d n : SX) : List Ch := [.cel (ai 0) 0 prL, plC (ai 1) d, rpC (ai 2) d, csC (ai 3) (ai 1) g, rcC (ai 4) (ai 2) g, kqC (ai 5) n]
def prR : List SX := [usB 455 (gA 6) (gA 7) z0, eLe (ai 8) (.int 536870912)]
def spT : List Srt := [.int, .int, .int, .int, .int, .int, .g, .g, .int]
def ZBB : Ctr := ⟨spT ++ [.rows, .int], [.one (.ptr (ai 0) 0), .agg (opQ (rA 9) (ai 10))], prH (gA 6) (gA 7) (ai 8) ++ [Zwa (rA 9)], prR ++ [eLe z0 (ai 10), eLt (ai 10) (ZA (rA 9))], [.g, .g, .int, .bool],
 .one (.bool (qA 14)), prH (gA 11) (gA 12) (ai 13) ++ [Zwa (rA 9)], [.us .bool 454 (gA 6) (gA 7) (gA 11) (gA 12), eLe (ai 8) (ai 13), eLe (ai 13) (Zgf (ai 8)), qA 14]⟩
def ZQy : Cx := { specs := stS, anns := [(9, [(1, .ghost ZUe []), (1, .ghost ZES []), (24, .ghost ZP1 []), (25, .split (eLt (nt (rA 9) (ai 10) 5) z0))])] }
def Zu1 : Ctr := ⟨spT, [.one (.ptr (ai 0) 0), .agg (opZ (.int 7) z0)], prH (gA 6) (gA 7) (ai 8), prR, [.bool],
 .one (.bool (qA 9)), prH (usG 429 (gA 6) z0 z0) (gA 7) (ai 8), [qA 9]⟩
def ZPe : Cx := { specs := stS, anns := [(9, [(24, .ghost ZP1 [])])] }
def ZBY : Ctr := ⟨spT, [.one (.ptr (ai 0) 0), .agg (opZ (.int 12) z0)], prH (gA 6) (gA 7) (ai 8), prR, [.bool],
 .one (.bool (qA 9)), prH (gA 6) (gA 7) (ai 8), [qA 9]⟩
def ZTY : Cx := { specs := stS, anns := [] }
def ZzE : Ctr := ⟨spT ++ [.int], [.one (.ptr (ai 0) 0), .agg (opZ (.int 1) (ai 9))], prQ (gA 6) (gA 7) (ai 8), prR, [.g, .g, .bool],
 .one (.bool (qA 12)), prQ (gA 10) (gA 11) (Zgf (ai 8)), [.us .bool 454 (gA 6) (gA 7) (gA 10) (gA 11), qA 12]⟩
def ZRg : Cx := { specs := stS, anns := [(9, [(1, .ghost ZES [])])] }
def ZlK : SX := .f3 112 (r 9) (a 10) z
def ZMd : SX := e ZlK (k 1)
def ZLD : SX := v 206 (g 7)
def ZFV : SX := l ZLD k2
def ZLS : SX := v 211 (g 7)
def ZGc : SX := l ZLS k0
def Zxn : SX := l (.f1 30 (o 209 (g 7))) k1
def ZLp : SX := l (v 205 (g 7)) k2
def ZJB : SX := v 258 (g 6)
def ZNA : SX := l ZJB k2
def ZyV : SX := v 259 (g 6)
def ZD5 : SX := l ZyV k2
def Zwd : SX := v 260 (g 6)
def Zq3 : SX := l Zwd k2
def Zbz : SX := .f3 112 (r 9) (a 10) (k 1)
def Zq2 : SX := e (x 285 (g 6) (g 7) Zbz) z
def ZuM : SX := e (a 13) z
def ZB5 : SX := .f1 2 Zq2
def ZDi : SX := .f2 114 (b 15) (a 13)
def Zqo : SX := h 283 (g 6) (g 7) Zbz
def ZAC : SX := wB 253 Zqo (.f2 40 (v 256 Zqo) (k (-1)))
def ZqS : SX := l z (a 12)
def Zz7 : SX := .f2 114 (b 19) (a 17)
def ZyS : SX := e (a 17) z
def ZB6 : SX := h 284 (g 6) (g 7) Zbz
def ZuN : SX := .us .bool 454 (g 6) (g 7) (w 273 Zqo) ZB6
def Zqa : SX := .f2 40 (a 8) (k 1)
def Zb8 : SX := l (a 8) Zqa
def Zvs : SX := l Zqa Zqa
def ZyB : SX := e ZlK (k 2)
def Zzn : SX := l z (a 15)
def ZkN : SX := .f2 114 (b 13) (.f1 31 (b 13))
def ZDv : SX := e (.f1 31 (b 13)) z
def Zst : SX := .f2 114 (b 16) (.f1 31 (b 13))
def Zxo : SX := e (.us .int 301 (g 6) (g 7) Zbz Zst) (.us .int 301 (g 6) (g 7) Zbz ZkN)
def Zu2 : SX := .us .g 299 (g 6) (g 7) Zbz Zst
def Zvb : SX := .us .g 300 (g 6) (g 7) Zbz Zst
def ZxC : SX := .us .bool 454 (g 6) (g 7) Zu2 Zvb
def Zdj : SX := l (a 8) (a 8)
def ZDZ : SX := .f2 155 Zu2 (.us .g 299 (g 6) (g 7) Zbz ZkN)
def ZvE : SX := .f2 155 Zvb (.us .g 300 (g 6) (g 7) Zbz ZkN)
def Zy3 : SX := e ZlK (k 3)
def ZCw : SX := p 288 (g 6)
def ZEo : SX := e ZlK (k 4)
def ZuA : SX := e ZlK (k 5)
def ZEk : SX := o 297 (g 6)
def ZC3 : SX := e ZlK (k 6)
def Zzf : SX := e ZlK (k 7)
def Zd1 : SX := w 429 (g 6)
def Zxk : SX := .f3 112 (r 9) (a 10) (k 5)
def ZxQ : SX := p 456 (g 7)
def ZuL : SX := c 453 (g 7) (g 12)
def ZAg : SX := .us .bool 454 (g 6) (g 7) (g 6) (g 12)
def ZTe : VC := i (c 455 (g 6) (g 7)) (i (l (a 8) k9) (i (l z (a 10)) (i (t (a 10) (.f1 32 (r 9))) (u 11 .int (i (l z (a 11)) (i (p 268 (g 6)) (i (p 215 (g 7)) (.and (i ZMd (n ZFV (n ZGc (n Zxn (n ZLp (n ZNA (n ZD5 (n Zq3 (u 12 .int (u 13 .int (u 14 .int (u 15 .bytes (i (.f2 50 Zq2 ZuM) (i (l (a 13) (k 65536)) (i (.f2 50 ZB5 (.f2 155 ZDi ZAC)) (i (.f2 50 ZqS ZuM) (i (l z (a 13)) (i (l (a 13) (.f1 31 (b 15))) (i (l (a 13) (a 14)) (u 16 .int (u 17 .int (u 18 .int (u 19 .bytes (i (.f2 50 ZB5 (.f2 155 Zz7 ZAC)) (i (.f2 50 Zq2 ZyS) (i (.f2 50 (l z (a 16)) ZyS) (i (l z (a 17)) (i (l (a 17) (.f1 31 (b 19))) (i (l (a 17) (a 18)) (n (l (a 13) k0) (n (l (a 17) k0) (u 20 .bool (i (.f2 48 (q 20) (.f2 155 ZDi Zz7)) (n (l (a 13) k7) (.and (i (q 20) (n ZuN (n Zb8 (n Zvs .tt)))) (i (.f1 2 (q 20)) (n ZuN (n Zb8 (n Zvs (n (.bool false) .tt)))))))))))))))))))))))))))))))))))))))) (i (.f1 2 ZMd) (.and (i ZyB (u 12 .int (u 13 .bytes (u 14 .int (i (.f2 155 (b 13) (j 308 (.f3 112 (r 9) (a 10) (k 2)))) (i ZqS (i (l (.f1 31 (b 13)) (a 14)) (n (l (.f1 31 (b 13)) (.f1 31 (b 13))) (n (l (.f1 31 (b 13)) k0) (u 15 .int (u 16 .bytes (u 17 .int (i (e (a 17) (.f2 40 (.f1 31 (b 13)) (k 3))) (i Zzn (i (.f2 155 (b 16) (.f2 120 ZkN (.f2 123 (k 71) (.f2 123 (k 72) (.f2 123 (k 73) (.f1 153 z)))))) (n ZFV (n ZGc (n Zxn (n Zq3 (n (l (.f1 31 (b 13)) (.f1 31 (b 16))) (n (l (.f1 31 (b 13)) (a 17)) (n (.f2 50 Zzn ZDv) (n (.f2 50 ZqS ZDv) (n (e (.f1 31 (b 13)) (.f1 31 (b 13))) (u 18 .bool (i (q 18) (.and (i Zxo (n ZxC (n Zdj (n Zb8 (n ZDZ (n ZvE .tt)))))) (i (.f1 2 Zxo) (n ZxC (n Zdj (n Zb8 (n (.bool false) (n ZDZ (n ZvE .tt)))))))))))))))))))))))))))))))))) (i (.f1 2 ZyB) (.and (i Zy3 (n ZFV (n ZGc (n Zxn (n ZLp (n ZNA (n ZD5 (n Zq3 (n ZCw (n (.us .bool 454 (g 6) (g 7) (h 287 (g 6) (g 7) Zbz) ZB6) (n Zdj (n Zb8 .tt)))))))))))) (i (.f1 2 Zy3) (.and (i ZEo (n ZCw (n (.us .bool 454 (g 6) (g 7) (f 289 (g 6) Zbz) (g 7)) (n Zdj (n Zb8 .tt))))) (i (.f1 2 ZEo) (.and (i ZuA (n (l ZLD k3) (n (l ZLS k4) (n Zxn (n (p 305 (g 6)) (n (.us .bool 454 (g 6) (g 7) (h 294 (g 6) (g 7) ZEk) (h 295 (g 6) (g 7) ZEk)) (n Zdj (n Zb8 .tt)))))))) (i (.f1 2 ZuA) (.and (i ZC3 (n (.us .bool 454 (g 6) (g 7) (f 302 (g 6) Zbz) (g 7)) (n Zdj (n Zb8 .tt)))) (i (.f1 2 ZC3) (.and (i Zzf (n (.us .bool 454 (g 6) (g 7) Zd1 (g 7)) (n Zdj (n Zb8 (n (.f2 49 (e (v 257 Zd1) (v 257 (g 6))) (.f2 49 (e (v 256 Zd1) (v 256 (g 6))) (.f2 49 (e (d 291 Zd1 (.f1 155 z)) (d 291 (g 6) (.f1 155 z))) (.f2 49 (e (d 292 Zd1 (.f1 155 z)) (d 292 (g 6) (.f1 155 z))) (.f2 49 (e (v 258 Zd1) ZJB) (.f2 49 (e (v 259 Zd1) ZyV) (e (v 260 Zd1) Zwd))))))) .tt))))) (i (.f1 2 Zzf) (.and (i (t Zxk z) (n ZxQ (u 12 .g (u 13 .bool (i ZuL (i (q 13) (n ZAg (n Zdj (n Zb8 .tt))))))))) (i (l z Zxk) (n ZxQ (u 12 .g (u 13 .bool (i ZuL (i (q 13) (n ZAg (n Zdj (n Zb8 .tt)))))))))))))))))))))))))))))))
theorem ZTH : Yk Tryz.prog ZQy 12 9 ZBB = ZTe := by kernel_rfl
theorem ZIo {p : Prop} {x y : List UInt8} (h : ¬ p \/ (ap2 155 (U.bytes x : U GG) (U.bytes y)).toBool = true) (hp : p) : x = y := by
 have h := h.resolve_left (fun q => q hp)
 have h : (ap2 155 (U.bytes x : U GG) (U.bytes y)).tP := h
 rw [ZfH, U.bytes.injEq] at h
 exact h
theorem ZqP {E l m : Int} {X Y B : List UInt8} (a1 : E = 0 \/ l = 0) (a2 : ¬ E = 0 \/ (ap2 155 (U.bytes (X.take l.toNat) : U GG) (U.bytes B)).toBool = true) (a3 : 0 <= l) (a4 : l <= X.length) (b1 : E = 0 \/ m = 0)
  (b2 : ¬ E = 0 \/ (ap2 155 (U.bytes (Y.take m.toNat) : U GG) (U.bytes B)).toBool = true) (b3 : 0 <= m) (b4 : m <= Y.length) : l = m /\ X.take l.toNat = Y.take m.toNat := by
 by_cases h : E = 0
 ·have e1 := ZIo a2 h
  have e2 := ZIo b2 h
  have l1 : (X.take l.toNat).length = l.toNat := by rw [ZUl]; omega
  have l2 : (Y.take m.toNat).length = m.toNat := by rw [ZUl]; omega
  rw [e1] at l1
  rw [e2] at l2
  exact ⟨by omega, e1.trans e2.symm⟩
 ·have h1 := a1.resolve_left h
  have h2 := b1.resolve_left h
  rw [h1, h2]
  exact ⟨rfl, rfl⟩
theorem Zcv {G : Type} {S : Sig G} {P : Program} {f : Nat} {sp : Ctr} {l : List Ctr} (hw : sp.wf = true) (h : Zs S P f sp) (hl : ∀ q ∈ l, q.wf = true /\ Zs S P f q) : ∀ q ∈ sp :: l, q.wf = true /\ Zs S P f q := by
 intro q hq
 rcases List.mem_cons.1 hq with rfl | hq
 ·exact ⟨hw, h⟩
 ·exact hl q hq
theorem ZeB {G : Type} {S : Sig G} {P : Program} {f : Nat} {sp sq : Ctr} (hw : sp.wf = true) (h : Zs S P f sp) (hw2 : sq.wf = true) (h2 : Zs S P f sq) : ∀ q ∈ [sp, sq], q.wf = true /\ Zs S P f q := by
 intro q hq
 rcases List.mem_cons.1 hq with rfl | hq
 ·exact ⟨hw, h⟩
 ·rw [List.mem_singleton] at hq; subst hq; exact ⟨hw2, h2⟩
theorem ZfP {S : Sig GG} (hS : PySig S) : YK S Tryz.prog stS := by
 exact ⟨Zcv (by decide) (ZTT S hS) (ZeB (by decide) (ZQj S hS) (by decide) (ZQf S hS)), ⟨Zc (by decide) (ZRU S hS.lw.rc.rp.cs), ⟨Zc (by decide) (ZRs S hS.lw.rc), ⟨Zc (by decide) (ZsG S hS.lw.rc), ⟨ZeB (by decide) (ZTN S hS.lw) (by decide) (ZMl S hS.lw), ⟨Zc (by decide) (ZxS S hS.lw.rc.rp.cs), ⟨Zc (by decide) (ZSm S hS.lw.rc), ⟨Zc (by decide) (put_ok S hS.lw.rc.rp.cs), ⟨Zc (by decide) (ZSq S hS.lw.rc), ⟨Zc (by decide) (ZPK S hS.lw.rc), ⟨Zc (by decide) (ZTd S hS.lw.rc.rp.cs), ⟨Zc (by decide) (ZQG S hS.lw.rc), ⟨Zc (by decide) (ZRe S hS.lw.rc.rp.cs), ⟨Zc (by decide) (ZPs S hS.lw.rc), ⟨Zc (by decide) (ZRF S hS.lw.rc.rp.cs Zmc), ⟨Zc (by decide) (ZTP S hS.lw.rc), ⟨Zc (by decide) (ZLK S hS.lw.rc.rp.cs), ⟨Zc (by decide) (ZQQ S hS.lw.rc), ⟨Zc (by decide) (ZP6 S hS.lw.rc.rp.cs), ⟨Zc (by decide) (ZSy S hS.lw.rc), trivial⟩⟩⟩⟩⟩⟩⟩⟩⟩⟩⟩⟩⟩⟩⟩⟩⟩⟩⟩⟩
theorem ZP2 (S : Sig GG) (hS : PySig S) : Zs S Tryz.prog 9 ZBB := by
 refine Zd S (C := ZQy) (fuel := 12) (Zx (ZfP hS) ⟨⟨⟨by decide, ZHM S hS.lw.rc⟩, ⟨by decide, ZgC S hS.lw.rc.rp⟩, ⟨by decide, ZIf S hS⟩, trivial, trivial⟩, trivial⟩ trivial) fun ρ => ?_
 rw [ZTH]
 simp only [ZTe, ZlK, ZMd, ZLD, ZFV, ZLS, ZGc, Zxn, ZLp, ZJB, ZNA, ZyV, ZD5, Zwd, Zq3, Zbz, Zq2, ZuM, ZB5, ZDi, Zqo, ZAC, ZqS, Zz7, ZyS, ZB6, ZuN, Zqa, Zb8, Zvs, ZyB, Zzn, ZkN, ZDv, Zst, Zxo, Zu2, Zvb, ZxC, Zdj, ZDZ, ZvE, Zy3, ZCw, ZEo, ZuA, ZEk, ZC3, Zzf, Zd1, Zxk, ZxQ, ZuL, ZAg, Zr, Zq, VC.den, SX.den, Env.upd, Yg, Yq, YU, Y3, Ya, beq_iff_eq, Bool.not_eq_true', beq_eq_false_iff_ne, ne_eq, Bool.not_not, Int.toNat_zero, Nat.reduceEqDiff, reduceIte, sdv hS.lw.rc.rp.cs.dv, scs hS.lw.rc.rp.cs, src hS.lw.rc, spy hS, sB, sC]
 generalize Zn (U.co S .g (ρ 6)) = c
 generalize Zk (U.co S .g (ρ 7)) = d
 generalize (ρ 8).tI = K
 generalize (ρ 10).tI = I
 generalize (ρ 9).tR.getD I.toNat [] = r
 rintro ⟨N, N0, N1, kc, kd⟩ hK i0 i1 _ _ hc hd
 have b1 := kd.r
 have b2 := kd.s
 have b3 := kd.w
 have b4 := kd.l
 have b5 := kd.k
 have c1 := kc.h
 have c2 := kc.m
 have c3 := kc.e
 have c4 : ∀ f ∈ c.fr, f.pins <= 4611686018427387904 := fun f hf => by have := kc.p f hf; omega
 refine ⟨fun _ => ⟨by omega, by omega, by omega, by omega, by omega, by omega, by omega, fun b l cp X e1 e2 e3 e4 e5 e6 e7 b' m cp' Y f1 f2 f3 f4 f5 f6 => ?_⟩, fun _ => ⟨?_, fun _ => ⟨fun _ => ⟨by omega, by omega, by omega, by omega, by omega, by omega, by omega, c4, fun n n0 k l => ⟨ZKs hd n0 k _, (Zjt hd n0 k l _).2⟩, by omega, by omega, trivial⟩,
  fun _ => ⟨fun _ => ⟨c4, fun n n0 k l => ⟨ZJx n0 k _, Zaf l⟩, by omega, by omega, trivial⟩, fun _ => ⟨fun _ => ⟨by omega, by omega, by omega, kc.g, fun n n0 k l => ZSi hc n0 k l, by omega, by omega, trivial⟩, fun _ => ⟨fun _ => ⟨fun n n0 k l => ⟨ZFa n0 k _, Zaf l⟩, by omega, by omega, trivial⟩,
  fun _ => ⟨fun _ => ⟨fun n n0 k l => ⟨Zed n0 k, Zaf l⟩, by omega, by omega, ?_, trivial⟩, fun _ => ⟨fun _ => ⟨⟨N, N0, N1, kd⟩, fun g bb hg _ => ⟨fun n n0 k l => ⟨Zed n0 k, hg n n0 l⟩, by omega, by omega, trivial⟩⟩, fun _ => ⟨⟨N, N0, N1, kd⟩, fun g bb hg _ => ⟨fun n n0 k l => ⟨Zed n0 k, hg n n0 l⟩, by omega, by omega, trivial⟩⟩⟩⟩⟩⟩⟩⟩⟩⟩
 ·obtain ⟨g1, g2⟩ := ZqP e1 e3 e5 e6 f2 f1 f4 f5
  refine ⟨by omega, by omega, fun q hq => ⟨by omega, fun qt => ⟨fun n n0 k l => Zjt hd n0 k l _, by omega, by omega, trivial⟩, fun qf => ?_⟩⟩
  exact absurd ((ZkO hq).2 g2) (by rw [qf]; decide)
 ·intro _ b B cp hB h0 h1
  have hl := ZgW (r.getD (Int.toNat 2) 0)
  rw [<- hB] at hl
  refine ⟨by omega, by omega, fun b' X cp' g1 g2 g3 => ?_⟩
  have e : X.take ((B.length : Nat) : Int).toNat = B.take ((B.length : Nat) : Int).toNat := by
   rw [g3, ZUq, List.take_length, List.take_left]
  have hX : B.length <= X.length := by rw [g3, ZUo, ZUq, List.take_length]; omega
  rw [e]
  refine ⟨by omega, by omega, by omega, by omega, by omega, by omega, .inl g2, .inl h0, trivial, fun q _ => ⟨fun _ => ⟨fun n n0 k l => ZKR hd n0 k l _ _, by omega, by omega, rfl, rfl, trivial⟩, fun hh => absurd rfl hh⟩⟩
 ·simp [ap2, U.tP, U.toBool]
def Zk7 : SX := w 429 (g 6)
def ZSS : VC := i (c 455 (g 6) (g 7)) (i (l (a 8) k9) (u 9 .int (i (l z (a 9)) (n (.f2 49 (e (v 257 Zk7) (v 257 (g 6))) (.f2 49 (e (v 256 Zk7) (v 256 (g 6))) (.f2 49 (e (d 291 Zk7 (.f1 155 z)) (d 291 (g 6) (.f1 155 z))) (.f2 49 (e (d 292 Zk7 (.f1 155 z)) (d 292 (g 6) (.f1 155 z))) (.f2 49 (e (v 258 Zk7) (v 258 (g 6))) (.f2 49 (e (v 259 Zk7) (v 259 (g 6))) (e (v 260 Zk7) (v 260 (g 6))))))))) .tt))))
theorem ZTX : Yk Tryz.prog ZPe 12 9 Zu1 = ZSS := by kernel_rfl
def ZS6 : VC := i (c 455 (g 6) (g 7)) (i (l (a 8) k9) (u 9 .int (i (l z (a 9)) (n (p 456 (g 7)) (u 10 .bool (i (q 10) .tt))))))
theorem ZUi : Yk Tryz.prog ZTY 12 9 ZBY = ZS6 := by kernel_rfl
def ZGu : SX := e (x 285 (g 6) (g 7) (a 9)) z
def ZJs : SX := e (a 12) z
def ZNo : SX := .f1 2 ZGu
def ZK9 : SX := .f2 114 (b 14) (a 12)
def ZGR : SX := h 283 (g 6) (g 7) (a 9)
def ZM3 : SX := wB 253 ZGR (.f2 40 (v 256 ZGR) (k (-1)))
def ZLf : SX := .f2 114 (b 18) (a 16)
def ZLT : SX := e (a 16) z
def ZL0 : SX := .us .bool 454 (g 6) (g 7) (w 273 ZGR) (h 284 (g 6) (g 7) (a 9))
def ZRh : VC := i (c 455 (g 6) (g 7)) (i (l (a 8) k9) (u 10 .int (i (l z (a 10)) (i (p 215 (g 7)) (n (l (v 206 (g 7)) k2) (n (l (v 211 (g 7)) k0) (n (l (.f1 30 (o 209 (g 7))) k1) (n (l (v 205 (g 7)) k2) (n (l (v 258 (g 6)) k2) (n (l (v 259 (g 6)) k2) (n (l (v 260 (g 6)) k2) (u 11 .int (u 12 .int (u 13 .int (u 14 .bytes (i (.f2 50 ZGu ZJs) (i (l (a 12) (k 65536)) (i (.f2 50 ZNo (.f2 155 ZK9 ZM3)) (i (.f2 50 (l z (a 11)) ZJs) (i (l z (a 12)) (i (l (a 12) (.f1 31 (b 14))) (i (l (a 12) (a 13)) (u 15 .int (u 16 .int (u 17 .int (u 18 .bytes (i (.f2 50 ZNo (.f2 155 ZLf ZM3)) (i (.f2 50 ZGu ZLT) (i (.f2 50 (l z (a 15)) ZLT) (i (l z (a 16)) (i (l (a 16) (.f1 31 (b 18))) (i (l (a 16) (a 17)) (n (l (a 12) k0) (n (l (a 16) k0) (u 19 .bool (i (.f2 48 (q 19) (.f2 155 ZK9 ZLf)) (n (l (a 12) k7) (.and (i (q 19) (n ZL0 .tt)) (i (.f1 2 (q 19)) (n ZL0 (n (.bool false) .tt)))))))))))))))))))))))))))))))))))))))))
theorem ZSg : Yk Tryz.prog ZRg 12 9 ZzE = ZRh := by kernel_rfl
theorem ZRy (S : Sig GG) (hS : PySig S) : Zs S Tryz.prog 9 Zu1 := by
 refine Zd S (C := ZPe) (fuel := 12) (Zx (ZfP hS) ⟨⟨⟨by decide, ZIf S hS⟩, trivial⟩, trivial⟩ trivial) fun ρ => ?_
 rw [ZTX]
 simp only [ZSS, Zk7, Zr, Zq, VC.den, SX.den, Env.upd, Yg, Yq, YU, Y3, Ya, beq_iff_eq, Bool.not_eq_true', beq_eq_false_iff_ne, ne_eq, Bool.not_not, Int.toNat_zero, Nat.reduceEqDiff, reduceIte, scs hS.lw.rc.rp.cs, src hS.lw.rc, spy hS, sB, sC]
 rintro ⟨N, N0, N1, kc, kd⟩ hK _ _
 refine ⟨?_, trivial⟩
 simp [ap2, U.tP, U.toBool]
theorem ZRT (S : Sig GG) (hS : PySig S) : Zs S Tryz.prog 9 ZzE := by
 refine Zd S (C := ZRg) (fuel := 12) (Zx (ZfP hS) ⟨⟨⟨by decide, ZgC S hS.lw.rc.rp⟩, trivial⟩, trivial⟩ trivial) fun ρ => ?_
 rw [ZSg]
 simp only [ZRh, ZGu, ZJs, ZNo, ZK9, ZGR, ZM3, ZLf, ZLT, ZL0, Zr, Zq, VC.den, SX.den, Env.upd, Yg, Yq, YU, Y3, Ya, beq_iff_eq, Bool.not_eq_true', beq_eq_false_iff_ne, ne_eq, Bool.not_not, Int.toNat_zero, Nat.reduceEqDiff, reduceIte, sdv hS.lw.rc.rp.cs.dv, scs hS.lw.rc.rp.cs, spy hS, sB, sC]
 generalize Zn (U.co S .g (ρ 6)) = c
 generalize Zk (U.co S .g (ρ 7)) = d
 generalize (ρ 8).tI = K
 generalize (ρ 9).tI = p
 rintro ⟨N, N0, N1, kc, kd⟩ hK _ _ hd
 have b1 := kd.r
 have b3 := kd.w
 have b4 := kd.l
 have b5 := kd.k
 have c1 := kc.h
 have c2 := kc.m
 have c3 := kc.e
 refine ⟨by omega, by omega, by omega, by omega, by omega, by omega, by omega, fun b l cp X e1 e2 e3 e4 e5 e6 e7 b' m cp' Y f1 f2 f3 f4 f5 f6 => ?_⟩
 obtain ⟨g1, g2⟩ := ZqP e1 e3 e5 e6 f2 f1 f4 f5
 refine ⟨by omega, by omega, fun q hq => ⟨by omega, fun qt => ⟨fun n n0 k l => Zjt hd n0 k l _, trivial⟩, fun qf => ?_⟩⟩
 exact absurd ((ZkO hq).2 g2) (by rw [qf]; decide)
theorem ZTW (S : Sig GG) (hS : PySig S) : Zs S Tryz.prog 9 ZBY := by
 refine Zd S (C := ZTY) (fuel := 12) (Zx (ZfP hS) trivial trivial) fun ρ => ?_
 rw [ZUi]
 simp only [ZS6, Zr, Zq, VC.den, SX.den, Env.upd, Yg, Yq, YU, Y3, Ya, beq_iff_eq, Bool.not_eq_true', beq_eq_false_iff_ne, ne_eq, Bool.not_not, Int.toNat_zero, Nat.reduceEqDiff, reduceIte, spy hS, sB, sC]
 rintro ⟨N, N0, N1, kc, kd⟩ hK _ _
 exact ⟨⟨N, N0, N1, kd⟩, fun _ _ => trivial⟩
def opE : En := .rows [.int .i64, .int .i64, .int .i64, .slo 1, .int .i64, .int .i64]
def nilS : SC := .slice (.int (-1)) z0 z0 z0 z0 z0 1
def ZOJ : Ctr := ⟨[.int, .int, .int], [.one (.ptr (ai 0) 0)], [.cel (ai 0) 0 [pC (ai 1), nilS, .int .i64 (ai 2), .int .i64 z0, .int .i64 z0, .int .i64 z0, .int .i64 z0, .int .i64 z0, .int .i64 z0]], [eLe (.int 1) (ai 2), eLe (ai 2) (.int 4096)], [], .tup [], [rcC (ai 0) (ai 1) (usG 304 (ai 2) z0 z0)], []⟩
def pyS : List (Nat × List Ctr) := [(4, [Zo3]), (5, [ZGn, ZrU, Zsv]), (6, [ZAH, Zx3, ZAq]), (9, [ZBB, Zu1, ZBY, ZzE]), (10, [ZCm])]
def pyP (P X C D : Nat) (g d : SX) : List Ch := [plC (ai P) d, rpC (ai X) d, csC (ai C) (ai P) g, rcC (ai D) (ai X) g]
def pyB (g d i : SX) : List SX := [usB 451 g i z0, usB 452 d i z0]
def pyR : List SX := [eLe z0 (ai 5), .f2 45 (ai 5) (ZA (rA 7)), eLe (ai 5) (.int 1048576)]
def Ztr : Ctr := ⟨[.int, .int, .int, .int, .int, .int, .int, .rows], [.one (.int .i64 (ai 0)), .one (.int .i64 (ai 1)), .one (.int .i64 (ai 2)), .one (.slice (ai 3) (ai 4) z0 z0 (ai 5) (ai 6) 6)], [.ro opE (ai 3) (ai 4) (rA 7), Zwa (rA 7)], pyR ++ [eLe (ai 5) (ai 6)], [.bool], .one (.bool (qA 8)), [], [qA 8]⟩
def pyI : Inv := ⟨[.int, .g, .g, .g, .g, .int], [(21, .one (.int .i64 (di 0)))], pyP 8 9 14 15 (gA 1000001) (gA 1000002) ++ pyP 10 11 18 19 (gA 1000003) (gA 1000004) ++ [kpC (ai 20) (di 5)],
 [.bool true, eLe z0 (di 0), eLe (di 0) (ai 5), eLe (di 5) (di 0)] ++ pyB (gA 1000001) (gA 1000002) (di 0) ++ pyB (gA 1000003) (gA 1000004) (di 0), .f2 41 (ai 5) (di 0)⟩
def pyA : List (Nat × List (Nat × Ann)) := newA ++ [(8, [(500003, .ghost ZOJ [.tmp 19])])]
def pyCx : Cx := { specs := pyS, anns := pyA ++ [(3, [(2, .split (eLt (ai 2) (.int 4))), (2, .split (eLt (.int 65536) (ai 2))), (500016, .ghost neEC [.tmp 18]), (20, .inv pyI)])] }
def pyX0 : SX := t (k 65536) (a 2)
def ZET : SX := l z (a 8)
def ZtM : SX := l z (a 9)
def pyX3 : SX := l (a 2) (k 65536)
def ZOT : SX := l z (a 10)
def ZtR : SX := l z (a 11)
def pyX6 : SX := .f1 2 (.f2 48 (t (a 8) z) (t (a 9) z))
def pyX7 : SX := l (k 1) (a 0)
def pyX8 : SX := t (k 4096) (a 0)
def ZEU : SX := l (k 1) (a 1)
def Zou : SX := t (k 4096) (a 1)
def Znx : SX := l (a 1) (k 4096)
def ZFD : SX := l z (a 12)
def ZFl : SX := l z (a 13)
def ZnM : SX := l z (a 14)
def ZGk : SX := .f2 155 (.f1 152 z) (o 242 (.f1 154 z))
def ZwE : SX := w 304 (a 1)
def ZGV : SX := y 251 (.f1 155 z) (.f1 154 z) ZwE
def ZHn : SX := w 267 ZwE
def ZG1 : SX := p 268 ZHn
def ZHl : SX := e (v 257 ZwE) (a 1)
def Zn4 : SX := l z (a 15)
def ZsZ : SX := .f2 48 (t (a 14) z) (t (a 15) z)
def ZnF : SX := t (a 1) (k 1)
def ZLd : SX := l (a 0) (k 4096)
def ZyC : SX := w 304 (a 0)
def ZGi : SX := w 267 ZyC
def ZKp : SX := .f1 2 ZsZ
def ZJh : SX := l z (a 18)
def ZNu : SX := l z (a 19)
def ZJq : SX := e (.f2 44 (a 23) (k 4)) (k 3)
def ZMA : SX := t (a 23) (.f1 32 (r 7))
def ZNF : SX := c 455 (g 26) (g 27)
def ZGr : SX := l (a 28) k9
def ZOi : SX := l (a 28) (a 31)
def ZN6 : SX := .f2 40 (a 28) (k 1)
def ZJl : SX := l (a 31) ZN6
def ZM1 : SX := .f1 2 (.f1 2 (q 32))
def ZfK : SX := .f2 40 (a 23) (k 1)
def ZIY : SX := .f1 23 ZfK
def ZJK : SX := .f2 41 (a 5) ZfK
def ZKw : SX := l z ZJK
def ZJd : SX := t ZJK (.f2 41 (a 5) (a 23))
def ZJV : SX := l z ZfK
def ZLC : SX := l ZfK (a 5)
def ZJk : SX := l (a 31) ZfK
def ZLR : SX := c 451 (g 29) ZfK
def ZJ5 : SX := c 452 (g 30) ZfK
def ZLV : SX := c 455 (g 24) (g 25)
def ZJy : SX := w 429 (g 24)
def ZMg : SX := w 429 (g 26)
def ZMh : SX := t (a 0) (k 1)
def pyVc : VC := i (l z (a 5)) (i (e (a 5) (.f1 32 (r 7))) (i (l (a 5) (k 1048576)) (i (l (a 5) (a 6)) (.and (i (t (a 2) (k 4)) (.and (i pyX0 (u 8 .int (i ZET (u 9 .int (i ZtM (.and (i ZET (.and .tt (i ZtM .tt))) .tt)))))) (i pyX3 (u 8 .int (i ZET (u 9 .int (i ZtM (.and (i ZET (.and .tt (i ZtM .tt))) .tt)))))))) (i (l (k 4) (a 2)) (.and (i pyX0 (u 8 .int (i ZET (u 9 .int (i ZtM (.and (i ZET (.and .tt (i ZtM .tt))) .tt)))))) (i pyX3 (n (l (a 2) (k 131072)) (u 8 .int (i ZET (n (l (.f2 42 (a 2) (k 512)) k5) (u 9 .int (i ZtM (u 10 .int (i ZOT (u 11 .int (i ZtR (.and (i (.f1 2 pyX6) (.and (i ZOT (.and .tt (i ZtR (.and (i ZET (.and (i ZtM (.and (i (t (k 4096) (a 2)) .tt) (i (l (a 2) (k 4096)) (.and (i ZET (.and (i pyX7 (.and (i pyX8 (.and (i ZtM (.and (i pyX7 (.and (i pyX8 (.and (i ZOT (.and (i ZEU (.and (i Zou (.and (i ZtR (.and (i ZEU (.and (i Zou .tt) .tt)) .tt)) .tt)) (i Znx (u 12 .int (i ZFD (u 13 .int (i ZFl (u 14 .int (i ZnM (n ZGk (n ZGV (n ZG1 (n ZHl (.and (i ZtR (.and (i ZEU (.and .tt (i Znx (u 15 .int (i Zn4 (n ZsZ .tt)))))) .tt)) .tt)))))))))))))) (i ZnF (.and (i ZtR (.and .tt (i ZnF .tt))) .tt)))) .tt)) .tt)) .tt)) .tt)) (i ZLd (u 12 .int (i ZFD (u 13 .int (i ZFl (u 14 .int (i ZnM (n ZGk (n (y 251 (.f1 155 z) (.f1 154 z) ZyC) (n (p 268 ZGi) (n (e (v 257 ZyC) (a 0)) (.and (i ZtM (.and (i pyX7 (.and .tt (i ZLd (u 15 .int (i Zn4 (.and (i ZOT (.and (i ZEU (.and (i Zou (.and (i ZtR (.and (i ZEU (.and (i Zou (.and (i ZnM (.and (i Zn4 (.and (i ZsZ .tt) (i ZKp (n (.bool false) .tt)))) .tt)) .tt)) .tt)) .tt)) .tt)) (i Znx (u 16 .int (i (l z (a 16)) (u 17 .int (i (l z (a 17)) (u 18 .int (i ZJh (n ZGV (n ZG1 (n ZHl (.and (i ZtR (.and (i ZEU (.and .tt (i Znx (u 19 .int (i ZNu (.and (i ZnM (.and (i Zn4 (.and (i ZJh (.and .tt (i ZNu (u 20 .int (i (l z (a 20)) (u 21 .int (i (l z (a 21)) (u 22 .int (i (l z (a 22)) (n (p 451 ZGi) (n (p 452 (w 309 (a 2))) (n (p 451 ZHn) (n (p 452 (w 309 (k 5))) (n (.f2 155 ZHn ZwE) (n (.f2 155 ZGi ZyC) (u 23 .int (u 24 .g (u 25 .g (u 26 .g (u 27 .g (u 28 .int (i (.bool true) (i (l z (a 23)) (i (l (a 23) (a 5)) (i (l (a 28) (a 23)) (i (c 451 (g 24) (a 23)) (i (c 452 (g 25) (a 23)) (i (c 451 (g 26) (a 23)) (i (c 452 (g 27) (a 23)) (.and (i (t (a 23) (a 5)) (.and (i ZJq (n ZMA (n ZNF (n ZGr (u 29 .g (u 30 .g (u 31 .int (u 32 .bool (i (.us .bool 454 (g 26) (g 27) (g 29) (g 30)) (i ZOi (i ZJl (i (q 32) (.and (i (.f1 2 (q 32)) (n (.bool false) .tt)) (i ZM1 (n ZIY (n ZKw (n ZJd (n ZJV (n ZLC (n ZJk (n (c 451 (g 24) ZfK) (n (c 452 (g 25) ZfK) (n ZLR (n ZJ5 .tt)))))))))))))))))))))))) (i (.f1 2 ZJq) (n ZMA (n ZLV (n ZGr (u 29 .g (u 30 .g (u 31 .int (u 32 .bool (i (.us .bool 454 (g 24) (g 25) (g 29) (g 30)) (i ZOi (i ZJl (i (q 32) (.and (i (.f1 2 (q 32)) (n (.bool false) .tt)) (i ZM1 (n ZIY (n ZKw (n ZJd (n ZJV (n ZLC (n ZJk (n ZLR (n ZJ5 (n (c 451 (g 26) ZfK) (n (c 452 (g 27) ZfK) .tt)))))))))))))))))))))))))) (i (l (a 5) (a 23)) (n ZLV (n ZGr (u 29 .bool (i (q 29) (n (c 455 ZJy (g 25)) (u 30 .bool (i (q 30) (n ZNF (u 31 .bool (i (q 31) (n (c 455 ZMg (g 27)) (u 32 .bool (i (q 32) (u 33 .bool (i (q 33) (u 34 .g (u 35 .g (u 36 .bool (i (.us .bool 454 ZJy (g 25) (g 34) (g 35)) (i (q 36) (n (l ZN6 k9) (u 37 .g (u 38 .g (u 39 .bool (i (.us .bool 454 ZMg (g 27) (g 37) (g 38)) (i (q 39) (.and (i (q 36) (.and (i (q 39) (n (c 455 (g 34) (g 35)) (n (l (.f2 40 (a 28) (k 2)) k9) (u 40 .g (u 41 .g (u 42 .bool (i (.us .bool 454 (g 34) (g 35) (g 40) (g 41)) (i (q 42) (n (c 455 (g 37) (g 38)) (n (l (.f2 40 (a 28) (k 3)) k9) (u 43 .g (u 44 .g (u 45 .bool (i (.us .bool 454 (g 37) (g 38) (g 43) (g 44)) (i (q 45) (.and (i (q 42) (.and (i (q 45) (n (c 455 (g 40) (g 41)) (n (l (.f2 40 (a 28) (k 4)) k9) (u 46 .g (u 47 .g (u 48 .bool (i (.us .bool 454 (g 40) (g 41) (g 46) (g 47)) (i (q 48) (n (c 455 (g 43) (g 44)) (n (l (.f2 40 (a 28) (k 5)) k9) (u 49 .g (u 50 .g (u 51 .bool (i (.us .bool 454 (g 43) (g 44) (g 49) (g 50)) (i (q 51) (.and (i (q 48) (.and (i (q 51) (n (c 455 (g 46) (g 47)) (n (l (.f2 40 (a 28) (k 6)) k9) (u 52 .g (u 53 .g (u 54 .bool (i (.us .bool 454 (g 46) (g 47) (g 52) (g 53)) (i (q 54) (n (c 455 (g 49) (g 50)) (n (l (.f2 40 (a 28) (k 7)) k9) (u 55 .g (u 56 .g (u 57 .bool (i (.us .bool 454 (g 49) (g 50) (g 55) (g 56)) (i (q 57) (.and (i (q 54) (.and (i (q 57) (n (c 455 (g 52) (g 53)) (n (l (.f2 40 (a 28) (k 8)) k9) (u 58 .g (u 59 .g (u 60 .bool (i (.us .bool 454 (g 52) (g 53) (g 58) (g 59)) (i (q 60) (n (c 455 (g 55) (g 56)) (n (l (.f2 40 (a 28) (k 9)) k9) (u 61 .g (u 62 .g (u 63 .bool (i (.us .bool 454 (g 55) (g 56) (g 61) (g 62)) (i (q 63) (.and (i (q 60) (.and (i (q 29) (.and (i (q 30) (.and (i (q 31) (.and (i (q 32) (.and (i (q 33) .tt) .tt)) .tt)) .tt)) .tt)) .tt)) .tt)))))))))))))))) .tt)) .tt)))))))))))))))) .tt)) .tt)))))))))))))))) .tt)) .tt)))))))))))))))) .tt)) .tt)))))))))))))))))))))))))))))))))))))))))))))))))))))))))) .tt)) .tt)) .tt)))))) .tt)) .tt))))))))))))) (i ZnF (.and (i ZtR (.and .tt (i ZnF (.and (i ZnM (.and (i Zn4 (.and (i ZsZ .tt) (i ZKp (n (.bool false) .tt)))) .tt)) .tt)))) .tt)))) .tt)))))) .tt)) .tt)))))))))))))) (i ZMh (.and (i ZtM (.and .tt (i ZMh (.and (i ZOT (.and (i ZEU (.and (i Zou (.and (i ZtR (.and (i ZEU (.and (i Zou .tt) .tt)) .tt)) .tt)) (i Znx (u 12 .int (i ZFD (u 13 .int (i ZFl (u 14 .int (i ZnM (n ZGk (n ZGV (n ZG1 (n ZHl (.and (i ZtR (.and (i ZEU (.and .tt (i Znx (u 15 .int (i Zn4 (n ZsZ .tt)))))) .tt)) .tt)))))))))))))) (i ZnF (.and (i ZtR (.and .tt (i ZnF .tt))) .tt)))) .tt)))) .tt)))) .tt)))) .tt)) .tt)))) .tt)) (i pyX6 (n (.bool false) .tt))))))))))))))))))))
theorem py_vc : Yk Tryz.prog pyCx 12 3 Ztr = pyVc := by kernel_rfl
theorem ZPf (S : Sig GG) (hS : PySig S) : Z7 S ZOJ := by
 refine Zw S fun T w0 ρ h hu hp hd hr hpre => ⟨ρ, Ext.refl _ _, ?_, by intro x hx; exact nomatch hx⟩
 have hT := hS.of hu hp hd
 have r0 := hr (eLe (.int 1) (ai 2)) (by simp [ZOJ])
 have r1 := hr (eLe (ai 2) (.int 4096)) (by simp [ZOJ])
 rw [Zg] at r0 r1
 have r0 : 1 <= (ρ 2).tI := r0
 have r1 : (ρ 2).tI <= 4096 := r1
 have e1 : hpDen T ρ w0 ZOJ.pre = Zb ((Ch.cel (ai 0) 0 [pC (ai 1), nilS, .int .i64 (ai 2), .int .i64 z0, .int .i64 z0, .int .i64 z0, .int .i64 z0, .int .i64 z0, .int .i64 z0]).den T ρ w0) emp := rfl
 have e2 : hpDen T ρ w0 ZOJ.post = Zb (T.prd 87 w0 ((Zj (ZT (ai 0) (ai 1)) YD).den T ρ) ((usG 304 (ai 2) z0 z0).den T ρ)) emp := rfl
 have k0 : Zaz ((Zj (ZT (ai 0) (ai 1)) YD).den T ρ).tR 0 = (ρ 0).tI := rfl
 have k1 : Zaz ((Zj (ZT (ai 0) (ai 1)) YD).den T ρ).tR 1 = (ρ 1).tI := rfl
 have k2 : Zn ((usG 304 (ai 2) z0 z0).den T ρ) = Zbt (ρ 2).tI := by
  simp only [usG, SX.den, hT.lw.rc.rp.cs.u304, Zbf, Zq]
  rfl
 have e3 : (Ch.cel (ai 0) 0 [pC (ai 1), nilS, .int .i64 (ai 2), .int .i64 z0, .int .i64 z0, .int .i64 z0, .int .i64 z0, .int .i64 z0, .int .i64 z0]).den T ρ w0 = ZQt (ρ 0).tI (ρ 1).tI (-1) 0 (Zbt (ρ 2).tI) := by
  simp only [Ch.den, ZUs, List.map_nil, SC.den, nilS, pC, reduceCtorEq]
  rfl
 rw [e1, Za, e3] at hpre
 rw [e2, Za, hT.lw.rc.p87, k0, k1, k2]
 refine ⟨ZeM r0 r1, -1, 0, [], rfl, ?_⟩
 have n1 : rAD rfT (-1) [] 0 = emp := Zci _
 have n2 : frB [] (Zbt (ρ 2).tI).fr = emp := rfl
 rw [n1, n2, Za, Za]
 exact hpre
theorem ZHa {S : Sig GG} (hS : PySig S) : YK S Tryz.prog pyS :=
 ⟨Zc (by decide) (ZJ3 S hS.lw.rc.rp.cs), Zcv (by decide) (ZRf S hS.lw.rc.rp.cs) (ZeB (by decide) (ZTG S hS.lw.rc.rp) (by decide) (ZP0 S hS.lw.rc.rp)), Zcv (by decide) (ZQk S hS.lw.rc.rp) (ZeB (by decide) (ZSp S hS.lw.rc.rp) (by decide) (ZPJ S hS.lw.rc.rp)),
  Zcv (by decide) (ZP2 S hS) (Zcv (by decide) (ZRy S hS) (ZeB (by decide) (ZTW S hS) (by decide) (ZRT S hS))), Zc (by decide) (ZTq S hS.lw), trivial⟩
theorem ZTv {c e : Cs} {d k : Dv} {n : Int} (h1 : BndC c n) (h2 : BndD d n) (n0 : 0 <= n) (h : ∀ n : Int, 0 <= n -> BndC c n -> BndD d n -> BndC e (n + 1) /\ BndD k (n + 1)) : BndC e (n + 1) /\ BndD k (n + 1) := h n n0 h1 h2
theorem ZPQ {c : Cs} {d : Dv} {n : Int} (h1 : BndC c n) (h2 : BndD d n) (n0 : 0 <= n) (n1 : n <= 16777216) : ∃ n : Int, 0 <= n /\ n <= 16777216 /\ BndC c n /\ BndD d n := ⟨n, n0, n1, h1, h2⟩
theorem nnT {a b : Int} (ha : 0 <= a) (hb : 0 <= b) : (ap2 48 (ap2 46 (U.int a) (U.int 0)) (ap2 46 (U.int b) (U.int 0)) : U GG).toBool = true := by
 have h1 : (ap2 46 (U.int a) (U.int 0) : U GG) = U.bool false := by
  show U.bool (decide (a < 0)) = U.bool false
  rw [decide_eq_false (by omega)]
 have h2 : (ap2 46 (U.int b) (U.int 0) : U GG) = U.bool false := by
  show U.bool (decide (b < 0)) = U.bool false
  rw [decide_eq_false (by omega)]
 rw [h1, h2]; rfl
theorem nnF {a b : Int} (h : (ap2 48 (ap2 46 (U.int a) (U.int 0)) (ap2 46 (U.int b) (U.int 0)) : U GG).toBool = false) (ha : 0 <= a) (hb : 0 <= b) : false = true := h.symm.trans (nnT ha hb)
theorem nnP {a b : Int} (ha : 0 <= a) (hb : 0 <= b) : (ap2 48 (ap2 46 (U.int a) (U.int 0)) (ap2 46 (U.int b) (U.int 0)) : U GG).tP := nnT ha hb
theorem bF {b : Bool} (h : b = false) (h2 : b = true) : false = true := h.symm.trans h2
theorem py_ok (S : Sig GG) (hS : PySig S) : Zs S Tryz.prog 3 Ztr := by
 refine Zd S (C := pyCx) (fuel := 12) (Zx (ZHa hS) ⟨⟨⟨by decide, ZHD S hS.lw.rc.rp.cs⟩, ⟨by decide, Zb9 S hS.lw.rc.rp.cs⟩, trivial⟩, ⟨⟨by decide, ZCk S⟩, ⟨by decide, ZH0 S hS.lw.rc.rp.cs⟩, trivial⟩, ⟨⟨by decide, ZPf S hS⟩, trivial⟩, ⟨trivial, trivial, ⟨by decide, ZQs S hS.lw⟩, trivial, trivial⟩, trivial⟩ trivial) fun ρ => ?_
 rw [py_vc]
 simp only [pyVc, pyX0, ZET, ZtM, pyX3, ZOT, ZtR, pyX6, pyX7, pyX8, ZEU, Zou, Znx, ZFD, ZFl, ZnM, ZGk, ZwE, ZGV, ZHn, ZG1, ZHl, Zn4, ZsZ, ZnF, ZLd, ZyC, ZGi, ZKp, ZJh, ZNu, ZJq, ZMA, ZNF, ZGr, ZOi, ZN6, ZJl, ZM1, ZfK, ZIY, ZJK, ZKw, ZJd, ZJV, ZLC, ZJk, ZLR, ZJ5, ZLV, ZJy, ZMg, ZMh, Zr, Zq, VC.den, SX.den, Env.upd, Yg, Yq, YU, Y3, Ya, beq_iff_eq, Bool.not_eq_true', beq_eq_false_iff_ne, ne_eq, Bool.not_not, Int.toNat_zero, Nat.reduceEqDiff, reduceIte, srg hS.lw.rc.rp.cs.rg, scs hS.lw.rc.rp.cs, src hS.lw.rc, spy hS, sB, sC]
 generalize (ρ 0).tI = f
 generalize (ρ 1).tI = g
 generalize (ρ 2).tI = p
 generalize (ρ 5).tI = l
 generalize (ρ 6).tI = cp
 generalize (ρ 7).tR = R
 repeat' (first
  | exact trivial
  | with_reducible assumption
  | (with_reducible intro (h : ∀ n : Int, 0 <= n -> BndC _ n -> BndD _ n -> _ /\ _); obtain ⟨_, _⟩ := ZTv (by with_reducible assumption) (by with_reducible assumption) (by omega) h; clear h)
  | intro _
  | apply And.intro
  | exact ZPQ (by with_reducible assumption) (by with_reducible assumption) (by omega) (by omega)
  | exact ZKY
  | exact ZFe _
  | exact ZeM (by assumption) (by assumption)
  | exact Zed (by with_reducible assumption) (by with_reducible assumption)
  | exact Zaf (by with_reducible assumption)
  | exact nnF (by with_reducible assumption) (by with_reducible assumption) (by with_reducible assumption)
  | exact nnP (by with_reducible assumption) (by with_reducible assumption)
  | exact bF (by with_reducible assumption) (by with_reducible assumption)
  | rfl
  | omega
  | exact List.nodup_nil
  | exact .nil)
end
end Go.Proofs.YtlcfjjjdhdfbdaaGreat
namespace Go.Eng
open Go.ChangeShapes Go.WideShapes Go.Deep
theorem Zqh {cs : List Value} {i : Nat} {v : Value} (h : (cs.drop i).take 1 = [v]) : cs[i]? = some v := by
 have h2 : ((cs.drop i).take 1)[0]? = some v := by rw [h]; rfl
 rw [List.getElem?_take_of_lt (by omega), ZUI] at h2
 simpa using h2
theorem Zve {cs : List Value} {i j : Nat} {v : Value} (hj : j < 3) (h : (((cs.drop i).take 3).drop j).take 1 = [v]) : cs[i + j]? = some v := by
 have h2 := Zqh h
 rw [List.getElem?_take_of_lt hj, ZUI] at h2
 exact h2
abbrev ZsU : List Fd := [.int .i64, .int .i64, .int .i64, .slo 1, .int .i64, .int .i64]
def ZJF {H : Type} (w : World) (v : Value) (d : DataW H) (b o l c : Int) (n : Nat) (vals : List Value) : Prop :=
 v = .slice (if b < 0 then none else some ⟨b.toNat, o.toNat, none⟩) l.toNat c.toNat /\ 0 <= l /\ l <= n /\ l <= c /\ l <= 9223372036854775807 ∧
  ((0 <= b \/ vals = []) /\ ∀ i u, vals[i]? = some u -> b.toNat < w.heap.size /\ w.cell? ⟨b.toNat, o.toNat + i, none⟩ = some u) /\ (d = .nil /\ l = 0 \/ ∃ ds sp, d = .slice ds sp /\ (ds.length : Int) = l)
theorem ZtE {P : Program} {W : World} {base : Nat} {t e : TypeId} {a : Addr} {len cap : Nat} (ht : P.underlying t = some (.slice e)) (hv : Value.okWide P W .any base t (.slice (some a) len cap)) : a.spot = none := by
 unfold Value.okWide at hv
 rw [ht] at hv
 unfold Cell.okWide at hv
 rw [ht] at hv
 simp only [Cell.ok] at hv
 rw [ht] at hv
 exact hv.2.2.2.1
structure RowR (w : World) (r : List Int) : Prop where
 pg : -9223372036854775808 <= r.getD 1 0 /\ r.getD 1 0 <= 9223372036854775807
 sp : r.getD 5 0 < 0 \/ r.getD 6 0 = 0
 ln : 0 <= r.getD 6 0 /\ r.getD 6 0 <= (r.drop 10).length /\ r.getD 6 0 <= r.getD 7 0
 nl : 0 <= r.getD 3 0 \/ r.getD 6 0 = 0
 ro : (0 <= r.getD 3 0 \/ (r.drop 10).map (Value.int .i64) = []) /\ ∀ i v, ((r.drop 10).map (Value.int .i64))[i]? = some v -> (r.getD 3 0).toNat < w.heap.size /\ w.cell? ⟨(r.getD 3 0).toNat, (r.getD 4 0).toNat + i, none⟩ = some v
def ZFT {H : Type} (d : DataW H) (n : Int) : Prop := ∃ (parts kparts : List (DataW H)) (kd : DataW H), d = .agg parts /\ .agg kparts ∈ parts /\ kd ∈ kparts /\ (n = 0 \/ ∃ ds sp, kd = .slice ds sp /\ n = (ds.length : Int))
theorem Zxf (w : World) (b off s : Nat) : w.cell? ((⟨b, off, some s⟩ : Addr).add 0) = none := by
 have e : ((⟨b, off, some s⟩ : Addr).add 0).spot.isSome = true := by unfold Addr.add; split <;> simp_all
 unfold World.cell?
 split
 ·exact if_pos e
 ·rfl
theorem ZRY {n : Int} (h : (Lit.int .i64 n).wf = true) : -9223372036854775808 <= n /\ n <= 9223372036854775807 := by
 have e : IntKind.i64.min = -9223372036854775808 := by decide
 simp [Lit.wf] at h
 rw [e] at h
 exact h
theorem ZGI {H : Type} {enc : TypeId × Value -> H} {P : Program} {w : World} {base : Nat} {spare : Nat -> Bool} {Znu : Bool} {t u : TypeId} {fuel : Nat} {cs : List Value} {x : DataW H × List MemPlace}
  (ht : P.underlying t = some (.slice u)) (hu : P.underlying u = some (.int .i64)) (cu : P.cellsOf u = 1) (h : DataW.trod enc P w base spare Znu fuel t cs = some x) :
  ∃ (x0 x1 x2 x3 x4 : Int) (X : List Int), (∀ r, cs = [ZNN (x0 :: x1 :: x2 :: x3 :: x4 :: r)]) /\ (x2 < 0 \/ x3 = 0) /\ 0 <= x3 /\ x3 <= X.length /\ x3 <= x4 /\ (0 <= x0 \/ x3 = 0) ∧
   ((0 <= x0 \/ X.map (Value.int .i64) = []) /\ ∀ i v, (X.map (Value.int .i64))[i]? = some v -> x0.toNat < w.heap.size /\ w.cell? ⟨x0.toNat, x1.toNat + i, none⟩ = some v) ∧
   (x3 = 0 \/ ∃ ds sp, x.1 = .slice ds sp /\ x3 = (ds.length : Int)) := by
 rcases open_slice1 ht cu h with ⟨q, hx⟩ | ⟨a', l', c', m', n', V, D', Pl', q, hb', hl', hm', hmm', hxx', hx'⟩
 ·exact ⟨-1, 0, -1, 0, 0, [], fun r => q, .inl (by decide), ZUu _, ZUu _, ZUu _, .inr rfl, ⟨.inr rfl, fun i v hv => by simp at hv⟩, .inl rfl⟩
 have hlm : l' <= m' := by rw [hmm']; split <;> omega
 have hlen : ∃ ds sp, x.1 = .slice ds sp /\ ds.length = l' := by rw [hxx']; exact ⟨_, _, rfl, by rw [ZUt, ZUF]⟩
 obtain ⟨ds, sp, hds, hdl⟩ := hlen
 obtain ⟨b, off, spot⟩ := a'
 cases spot with
 | some s =>
  have hm0 : m' = 0 := by
   rcases Nat.eq_zero_or_pos m' with h0 | h0
   ·exact h0
   ·have := (hx' 0 h0).1
    have e : w.cell? ((⟨b, off, some s⟩ : Addr).add 0) = none := Zxf w b off s
    rw [e] at this; cases this
  obtain rfl : l' = 0 := by omega
  refine ⟨b, off, s, 0, c', [], fun r => ?_, .inr rfl, ZUu _, ZUu _, by omega, .inr rfl, ⟨.inr rfl, fun i v hv => by simp at hv⟩, .inl rfl⟩
  rw [q]
  show _ = [Value.slice (if (b : Int) < 0 then none else some ⟨(b : Int).toNat, (off : Int).toNat, if (s : Int) < 0 then none else some (s : Int).toNat⟩) _ _]
  rw [if_neg (by omega), if_neg (by omega)]; rfl
 | none =>
  have each : ∀ j, j < m' -> ∃ z : Int, w.cell? ((⟨b, off, none⟩ : Addr).add j) = some (.int .i64 z) := by
   intro j hj
   obtain ⟨h1, h2⟩ := hx' j hj
   obtain ⟨n, e, _, _⟩ := DataW.trod_int hu h2
   refine ⟨n, ?_⟩
   rw [h1]; exact congrArg some (List.cons.inj e).1
  obtain ⟨z, hz⟩ := choose_lt each
  refine ⟨b, off, -1, l', c', (List.range m').map z, fun r => ?_, .inl (by decide), by omega, by rw [ZUt, ZUF]; omega, by omega, .inl (by omega), ⟨.inl (by omega), fun i v hv => ?_⟩, .inr ⟨ds, sp, hds, by omega⟩⟩
  ·rw [q]
   show _ = [Value.slice (if (b : Int) < 0 then none else some ⟨(b : Int).toNat, (off : Int).toNat, if (-1 : Int) < 0 then none else some _⟩) _ _]
   rw [if_neg (by omega), if_pos (by decide)]; rfl
  ·rw [List.map_map, List.getElem?_map, Option.map_eq_some_iff] at hv
   obtain ⟨j, hj, rfl⟩ := hv
   have hi : i < m' := by
    have := (List.getElem?_eq_some_iff.1 hj).1
    rwa [ZUF] at this
   rw [List.getElem?_range hi] at hj
   cases hj
   have hc := hz i hi
   rw [add_plain] at hc
   exact ⟨by simpa using (World.block_lt_of_cell? w ⟨b, off + i, none⟩ hc), by simpa using hc⟩
theorem Zq1 {H : Type} {enc : TypeId × Value -> H} {P : Program} {W : World} {base : Nat} {t e u : TypeId} {g0 g1 g2 g3 k0 k1 k2 : Field} {v : Value} {d : DataW H} {ps : List MemPlace}
  (ht : P.underlying t = some (.slice e)) (he : P.underlying e = some (.struct #[g0, g1, g2, g3])) (ce : P.cellsOf e = 6) (o0 : g0.offset = 0) (o1 : g1.offset = 1) (o2 : g2.offset = 2) (o3 : g3.offset = 3)
  (c0 : P.cellsOf g0.type = 1) (c1 : P.cellsOf g1.type = 1) (c2 : P.cellsOf g2.type = 1) (c3 : P.cellsOf g3.type = 3) (t0 : P.underlying g0.type = some (.int .i64)) (t1 : P.underlying g1.type = some (.int .i64)) (t2 : P.underlying g2.type = some (.int .i64))
  (hu : P.underlying g3.type = some (.struct #[k0, k1, k2])) (p0 : k0.offset = 0) (p1 : k1.offset = 1) (p2 : k2.offset = 2) (d0 : P.cellsOf k0.type = 1) (d1 : P.cellsOf k1.type = 1) (d2 : P.cellsOf k2.type = 1)
  (s0 : P.underlying k0.type = some (.slice u)) (s1 : P.underlying k1.type = some (.int .i64)) (s2 : P.underlying k2.type = some (.int .i64)) (su : P.underlying u = some (.int .i64)) (cu : P.cellsOf u = 1)
  (hv : Value.okWide P W .any base t v) (h : DataW.Trod enc P W 0 (fun _ => true) true t v d ps) :
  ∃ (b o l c : Int) (L : List (List Int)), ZJF W v d b o l c L.length (L.flatMap (Yu ZsU)) /\ (L.length : Int) = l /\ ∀ r ∈ L, RowR W r /\ ∃ ds sp, d = .slice ds sp /\ ∃ y ∈ ds, ZFT y (r.getD 6 0) := by
 obtain ⟨fuel, hf⟩ := h
 obtain ⟨a0, len0, cap0, rfl⟩ := okWide_slice ht hv
 rcases open_slice ht hf with ⟨hcs, hx⟩ | ⟨a, len, cap, m, n, D, Pl, hcs, hb, hl, hm, hmm, hxx, hx⟩
 ·simp [Value.cells] at hcs
  obtain ⟨rfl, rfl, rfl⟩ := hcs
  simp only [Prod.mk.injEq] at hx
  exact ⟨-1, 0, 0, 0, [], ⟨rfl, by decide, by decide, by decide, by decide, ⟨.inr rfl, fun i u hu => by simp at hu⟩, .inl ⟨hx.1, rfl⟩⟩, rfl, fun r hr => nomatch hr⟩
 simp [Value.cells] at hcs
 obtain ⟨rfl, rfl, rfl⟩ := hcs
 have hlm : len0 <= m := by rw [hmm]; split <;> omega
 have each : ∀ i, i < len0 -> ∃ q : List Int, (∀ j, j < 6 -> ∃ v, (Yu ZsU q)[j]? = some v /\ W.cell? (a.add (i * 6 + j)) = some v) /\ RowR W q /\ ZFT (D i) (q.getD 6 0) := by
  intro i hi
  obtain ⟨cs', h1, h2⟩ := hx i (by omega)
  rw [ce] at h1
  obtain ⟨_, hlen, hcell⟩ := World.cells?_some h1
  obtain ⟨xs, k, hk, hDi, _, hxl, hf⟩ := DataW.trod_struct he h2
  have f0 := hf 0 g0 rfl
  have f1 := hf 1 g1 rfl
  have f2 := hf 2 g2 rfl
  have f3 := hf 3 g3 rfl
  have x3 : 3 < xs.length := by rw [hxl]; show 3 < 4; omega
  rw [o0, c0, ZUm (by omega)] at f0
  rw [o1, c1, ZUm (by omega)] at f1
  rw [o2, c2, ZUm (by omega)] at f2
  rw [o3, c3, ZUm x3] at f3
  obtain ⟨n0, e0, _, _⟩ := DataW.trod_int t0 f0
  obtain ⟨n1, e1, _, w1⟩ := DataW.trod_int t1 f1
  obtain ⟨n2, e2, _, _⟩ := DataW.trod_int t2 f2
  obtain ⟨ys, k', hk', hDk, _, hyl, hg⟩ := DataW.trod_struct hu f3
  have g0' := hg 0 k0 rfl
  have g1' := hg 1 k1 rfl
  have g2' := hg 2 k2 rfl
  have y0 : 0 < ys.length := by rw [hyl]; show 0 < 3; omega
  rw [p0, d0, ZUm y0] at g0'
  rw [p1, d1, ZUm (by rw [hyl]; show _ < 3; omega)] at g1'
  rw [p2, d2, ZUm (by rw [hyl]; show _ < 3; omega)] at g2'
  obtain ⟨n4, e4, _, _⟩ := DataW.trod_int s1 g1'
  obtain ⟨n5, e5, _, _⟩ := DataW.trod_int s2 g2'
  obtain ⟨x0, x1, x2, x3', x4, X, hq, q1, q2, q3, q4, q5, q6, q7⟩ := ZGI s0 su cu g0'
  have e0 := Zqh e0
  have e1 := Zqh e1
  have e2 := Zqh e2
  have e3 := Zve (by decide) (hq (n4 :: n5 :: X))
  have e4 := Zve (by decide) e4
  have e5 := Zve (by decide) e5
  refine ⟨[n0, n1, n2, x0, x1, x2, x3', x4, n4, n5] ++ X, fun j hj => ?_, ⟨ZRY w1, q1, ⟨q2, q3, q4⟩, q5, q6⟩, ?_⟩
  ·have hc := hcell j (by omega)
   rw [add_add] at hc
   match j, hj with
   | 0, _ => exact ⟨_, rfl, by rw [hc, e0]; rfl⟩
   | 1, _ => exact ⟨_, rfl, by rw [hc, e1]; rfl⟩
   | 2, _ => exact ⟨_, rfl, by rw [hc, e2]; rfl⟩
   | 3, _ => exact ⟨_, rfl, by rw [hc, e3]; rfl⟩
   | 4, _ => exact ⟨_, rfl, by rw [hc, e4]; rfl⟩
   | 5, _ => exact ⟨_, rfl, by rw [hc, e5]; rfl⟩
  ·have hDi := congrArg Prod.fst hDi
   have hDk : xs[3].1 = .agg (ys.map Prod.fst) := congrArg Prod.fst hDk
   refine ⟨_, _, ys[0].1, hDi, ?_, List.mem_map.2 ⟨ys[0], ZUG _, rfl⟩, q7⟩
   rw [<- hDk]
   exact List.mem_map.2 ⟨xs[3], ZUG _, rfl⟩
 obtain ⟨q, hq⟩ := choose_lt each
 have hspot := ZtE ht hv
 obtain ⟨b, off, spot⟩ := a
 simp only at hspot
 subst hspot
 have hmax : maxLen = 9223372036854775807 := by decide
 have hd := congrArg Prod.fst hxx
 have hLl : ((List.range len0).map q).length = len0 := by rw [ZUt, ZUF]
 refine ⟨b, off, len0, cap0, (List.range len0).map q, ⟨by rw [if_neg (by omega)]; simp, by omega, by omega, by omega, by omega, ⟨.inl (by omega), fun j v hj => ?_⟩, .inr ⟨_, _, hd, by rw [ZUt, ZUF]⟩⟩, by rw [hLl], fun r hr => ?_⟩
 ·have hlen6 : ∀ r : List Int, (Yu ZsU r).length = 6 := fun r => Yh _ r
  have hjlt : j < len0 * 6 := by
   rcases Nat.lt_or_ge j (len0 * 6) with h' | h'
   ·exact h'
   ·rw [List.getElem?_eq_none (by rw [Zbp _ 6 hlen6, hLl]; exact h')] at hj; cases hj
  have hdm : j = j / 6 * 6 + j % 6 := by omega
  rw [hdm, ZdP _ 6 hlen6 _ _ _ (Nat.mod_lt _ (by decide)), List.getElem?_map, List.getElem?_range (by omega)] at hj
  obtain ⟨v', h1, h2⟩ := (hq (j / 6) (by omega)).1 (j % 6) (Nat.mod_lt _ (by decide))
  have hj' : (Yu ZsU (q (j / 6)))[j % 6]? = some v := hj
  rw [h1] at hj'
  cases hj'
  rw [<- hdm, add_plain] at h2
  exact ⟨by simpa using (World.block_lt_of_cell? W ⟨b, off + j, none⟩ h2), by simpa using h2⟩
 ·obtain ⟨i, hi, rfl⟩ := List.mem_map.1 hr
  have hi := List.mem_range.1 hi
  exact ⟨(hq i hi).2.1, _, _, hd, D i, List.mem_map.2 ⟨i, List.mem_range.2 hi, rfl⟩, (hq i hi).2.2⟩
end Go.Eng
namespace Go.Proofs.YtlcfjjjdhdfbdaaGreat.cachePlays
open Go.ChangeShapes Go.WideShapes Go.ChangeAt Go.RowKit
open Go.Eng (ZiG Sig Zs Z7 emp Zb Zrt Sat Env U Ctr SX eLe Yu ZJF Zq1 ZsU HProp RowR ZFT)
theorem own : ownKnob Tryz.prog.godebug = none := by kernel_rfl
noncomputable def usr (n : Nat) (a b c d : U GG) : U GG :=
 match n with
 | 200 => .int (Zk a).page
 | 201 => .bool (Zk a).down
 | 202 => .int (Zk a).acts
 | 203 => .int (Zk a).torn
 | 204 => .int (Zk a).at'
 | 205 => .int (Zk a).rd
 | 206 => .int (Zk a).wr
 | 207 => .int (Zk a).sy
 | 208 => .bytes (Zk a).safe
 | 209 => .ints (Zk a).keep
 | 210 => .int (Zk a).pages
 | 211 => .int ((Zk a).w.length : Nat)
 | 212 => .bytes ((Zk a).dat b.tI)
 | 213 => .int ((Zk a).ref b.tI)
 | 214 => .bool (Zz (Zdi a.tM (Zk b).w /\ ZEJ a.tM))
 | 215 => .bool (Zz (GoodD (Zk a)))
 | 216 => .bool (Zz ((Zk a).w = (Zk b).w))
 | 217 => .int ((Zk a).pg b.tI)
 | 218 => .g (.dv (Zk a).start)
 | 219 => .g (.dv ((Zk a).arm b.tI c.tN (d.tN.getD 0 0) (d.tN.getD 1 0)))
 | 220 => .g (.dv ((Zk a).rdD b.tI))
 | 221 => .g (.dv ((Zk a).wrD b.tI c.tB))
 | 222 => .int ((Zk a).wrE b.tI c.tB)
 | 223 => .bytes ((Zk a).rdB b.tI)
 | 224 => .g (.dv { Zk a with wr := (Zk a).wr + 1, w := (Zk a).w ++ [(b.tI, c.tB)] })
 | 225 => .g (.dv (Zk a).fall)
 | 226 => .bytes (Zcd (Zk a) 0 ((Zk a).w.take b.tI.toNat) (Zk a).safe)
 | 227 => .g (.dv (Zk a).sync)
 | 228 => .int (Zk a).syE
 | 229 => .bytes (Zk a).image
 | 230 => .g (.dv { Zk a with sy := (Zk a).sy + 1 })
 | 231 => .bool ((a.tN.take b.tI.toNat).contains c.tI)
 | 232 => .bytes ((Zk a).place b.tI)
 | 233 => .g (.dv { Zk a with acts := Zbx (Zk a).acts })
 | 234 => .g (.dv (Zk a))
 | 235 => .bool (Zz (ZtH (Zk c) a.tB b.tM))
 | 236 => .bool (Zz (ZOA a.tM b.tM))
 | 237 => .bool (Zz (a.tM.map (·.1)).Nodup)
 | 240 => .ints (a.tN.erase b.tI)
 | 241 => .bool (Zz (b.tI ∈ a.tN))
 | 242 => .ints (a.tR.map g0)
 | 243 => .ints (a.tN ++ [b.tI])
 | 244 => .int (((a.tI :: b.tN).idxOf c.tI : Nat))
 | 245 => .int ((b.tN ++ [a.tI]).idxOf c.tI : Nat)
 | 246 => .bool (Zz ((a.tI :: b.tN).Nodup))
 | 247 => .int ((b.tN ++ [a.tI]).getD ((a.tI :: b.tN).idxOf c.tI) 0)
 | 248 => .bool (Zz (c.tI ∈ a.tI :: b.tN))
 | 249 => .bool (Zz (∀ y ∈ a.tI :: b.tN, 0 <= y))
 | 250 => .int (Zcc b.tI a.tR : Nat)
 | 251 => .bool (Zz (ZX a.tM b.tR (Zn c).fr))
 | 252 => .int ((Zn a).at' b.tI).n
 | 253 => .bytes ((Zn a).at' b.tI).b
 | 254 => .bool ((Zn a).at' b.tI).dirty
 | 255 => .int ((Zn a).at' b.tI).pins
 | 256 => .int ((Zn a).fr.length : Nat)
 | 257 => .int (Zn a).frames
 | 258 => .int (Zn a).hits
 | 259 => .int (Zn a).misses
 | 260 => .int (Zn a).evic
 | 261 => .int ((Zn a).old : Nat)
 | 262 => .int ((Zn a).idx b.tI : Nat)
 | 263 => .g (.cs ((Zn a).touch b.tI))
 | 264 => .g (.cs ((Zn a).gone b.tI))
 | 265 => .g (.cs ((Zn a).addF b.tI c.tB))
 | 266 => .g (.cs ((Zn a).putF b.tI c.tB d.tN))
 | 267 => .g (.cs { Zn a with hits := b.tI, misses := c.tI, evic := d.tI })
 | 268 => .bool (Zz (GoodC (Zn a)))
 | 269 => .rows (ZIE a.tR b.tI c.tN)
 | 270 => .rows (Zty a.tR b.tI)
 | 271 => .rows (ZjM a.tR b.tI)
 | 272 => .int (ZtP a.tR (Zn b))
 | 273 => .g (.cs (Zn a))
 | 274 => .bool (Zz ((Zn a).fr = (Zn b).fr))
 | 280 => .g (.cs ((Zn a).roomC (Zk b)))
 | 281 => .g (.dv ((Zn a).roomD (Zk b)))
 | 282 => .int ((Zn a).roomE (Zk b))
 | 283 => .g (.cs ((Zn a).holdC (Zk b) c.tI))
 | 284 => .g (.dv ((Zn a).holdD (Zk b) c.tI))
 | 285 => .int ((Zn a).holdE (Zk b) c.tI)
 | 287 => .g (.cs ((Zn a).pinC (Zk b) c.tI))
 | 288 => .bool (Zz (∀ f ∈ (Zn a).fr, f.pins <= 4611686018427387904))
 | 289 => .g (.cs ((Zn a).unpC b.tI))
 | 290 => .int ((Zn a).unpE b.tI)
 | 291 => .int ((Zn a).dirN b.tM : Nat)
 | 292 => .int ((Zn a).pinN b.tM : Nat)
 | 293 => .g (.cs ((Zn a).clean b.tI))
 | 294 => .g (.cs (flS c.tN (Zn a) (Zk b)).1)
 | 295 => .g (.dv (flS c.tN (Zn a) (Zk b)).2.1)
 | 296 => .int (flS c.tN (Zn a) (Zk b)).2.2
 | 297 => .ints ((Zn a).keys)
 | 298 => .ints (sortK (a.tM.map (·.1)))
 | 299 => .g (.cs ((Zn a).putC (Zk b) c.tI d.tB))
 | 300 => .g (.dv ((Zn a).putD (Zk b) c.tI d.tB))
 | 301 => .int ((Zn a).putE (Zk b) c.tI d.tB)
 | 302 => .g (.cs ((Zn a).dropC b.tI))
 | 303 => .int ((Zn a).dropE b.tI)
 | 304 => .g (.cs (Zbt a.tI))
 | 305 => .bool (Zz (∀ f ∈ (Zn a).fr, 0 <= f.n /\ f.n < 65536))
 | 306 => .bool (Zz (∀ p ∈ a.tM, 0 <= p.1 /\ p.1 < 65536))
 | 307 => .g (.dv (dvOn a.tI b.tB))
 | 308 => .bytes (ZL a.tI)
 | 309 => .g (.dv (Yx a.tI))
 | 310 => .bool (Zz (ZHk a.tB b.tI c.tI))
 | 400 => .g (.dv ((Zk a).putPg b.tI c.tB))
 | 401 => .bool (ZhV (Zk a))
 | 402 => .bool (Zz (0 <= (Zk a).acts -> b.tI = (Zk a).acts))
 | 403 => .bool (Zz ((Zk a).page = (Zk b).page /\ (Zk a).safe = (Zk b).safe))
 | 404 => .bytes (ZF5 (Zk a) b.tI c.tI)
 | 406 => .g (.dv (Zcg (Zk a) b.tI))
 | 407 => .bytes (Zjn a.tB b.tB c.tI)
 | 408 => .g (.dv (ZhO (Zk a) b.tI))
 | 409 => .bytes ((Zk a).safe.take (b.tI * (Zk a).page).toNat)
 | 410 => .int (ZeW (Zk a) b.tI)
 | 411 => .bytes ((Zk a).read b.tI)
 | 413 => .bool (Zz (ZOB a.tR (Zk b)))
 | 412 => .int (ZhT (Zk a) b.tI c.tI)
 | 420 => .bool (Zz (ZU a.tR (Zn b).fr))
 | 421 => .int ((Zn a).fnd b.tI)
 | 422 => .bool (Zz (Zn a).stuck)
 | 423 => .int ((Zn a).least b.tI.toNat)
 | 424 => .int (((Zn a).dirK b.tI.toNat : Nat))
 | 425 => .bool (Zz (Zc5 a.tR (Zn b).fr c.tR (Zn d).fr))
 | 426 => .bool (Zz (flS (Zn a).keys (Zn a) (Zk b) = flS (Zn c).keys (Zn c) (Zk d)))
 | 427 => .int (((Zn a).pinK b.tI.toNat : Nat))
 | 428 => .g (.cs ((Zn a).pinAt b.tI c.tI))
 | 429 => .g (.cs (Zn a))
 | 433 => .rows (wto a.tR b.tI c.tI)
 | 434 => .bool (Zz (ZJ7 a.tR b.tR c.tN))
 | 435 => .bool (Zz (ZFx (Zn a).fr (Zn b).fr c.tB d.tI))
 | 436 => .bool (Zz (flLe (Zn a) (Zk b) (Zn c) (Zk d)))
 | 437 => .g (.cs ((Zn a).add ⟨b.tI, c.tB, true, 0⟩))
 | 430 => .bool (Zz (a.tR.map ZcX = b.tR.map ZcX ++ [c.tN]))
 | 431 => .bool (Zz ((Zn a).fr.map (·.b) = (Zn b).fr.map (·.b) ++ [c.tB]))
 | 107 => .bytes (mkL a.tI b.tI.toNat)
 | 450 => .bool (Zz (∀ r ∈ a.tR, g1 r <= 4294967296))
 | 451 => .bool (Zz (BndC (Zn a) b.tI))
 | 452 => .bool (Zz (BndD (Zk a) b.tI))
 | 453 => .bool (Zz (∀ n, 0 <= n -> BndD (Zk a) n -> BndD (Zk b) (n + 1)))
 | 454 => .bool (Zz (∀ n, 0 <= n -> BndC (Zn a) n -> BndD (Zk b) n -> BndC (Zn c) (n + 1) /\ BndD (Zk d) (n + 1)))
 | 455 => .bool (Zz (∃ n, 0 <= n /\ n <= 16777216 /\ BndC (Zn a) n /\ BndD (Zk b) n))
 | 456 => .bool (Zz (∃ n, 0 <= n /\ n <= 16777216 /\ BndD (Zk a) n))
 | 460 => .ints ((a.tR.getD b.tI.toNat []).drop 10)
 | _ => .int 0
noncomputable def prd (n : Nat) (w0 : World) (k x : U GG) : Go.Eng.HProp :=
 match n with
 | 50 => plP k.tI (Zk x)
 | 51 => kp51 k.tR (Zk x)
 | 52 => kp52 k.tR (Zk x)
 | 60 => Zat k.tI x.tN
 | 61 => rsO (Zaz k.tR 0) (Zaz k.tR 1) (Zaz k.tR 2) (Zaz k.tR 3) (Zaz k.tR 4) (Zaz k.tR 5) x.tN
 | 62 => rsL (Zaz k.tR 0) (Zaz k.tR 1) (Zaz k.tR 2) (Zaz k.tR 3) x.tN
 | 63 => rsN (Zaz k.tR 0) (Zaz k.tR 1) (Zaz k.tR 2) (Zaz k.tR 3) (Zaz k.tR 4) x.tN
 | 64 => rs2 (Zaz k.tR 0) (Zaz k.tR 1) (Zaz k.tR 2) (Zaz k.tR 3) (Zaz k.tR 4) (Zaz k.tR 5) x.tN
 | 70 => frH k.tR (Zn x).fr
 | 71 => kp71 k.tR (Zn x)
 | 72 => csP (Zaz k.tR 0) (Zaz k.tR 1) (Zn x)
 | 80 => blH k.tR (Zk x).pgs
 | 81 => kp81 k.tR (Zk x)
 | 82 => blH k.tR (List.replicate x.tI.toNat (List.replicate 512 0))
 | 84 => rpP k.tI (Zk x)
 | 85 => frB k.tR (Zn x).fr
 | 86 => kp86 k.tR (Zn x)
 | 87 => rcP (Zaz k.tR 0) (Zaz k.tR 1) (Zn x)
 | 40 => ZT2 (g0 k.tN) x.tI
 | 42 => kp42 k.tR
 | 43 => kp43 k.tR
 | 46 => kp46 k.tR x.tR
 | 47 => kp47 k.tR x.tR
 | 48 => kp48 k.tR x.tR
 | 90 => kpP (g0 k.tN) x.tI
 | 95 => kqP (g0 k.tN) x.tI
 | 91 => blH k.tR (x.tR.map Zmm)
 | 92 => kp92 k.tR x.tR
 | 93 => HProp.pure (∀ r ∈ k.tR, CallOk w0 r)
 | _ => emp
noncomputable def sig : Sig GG := { dg := gg0, ch := fun _ => true, usr := usr, prd := prd }
theorem hD : DvSig sig := by constructor <;> intros <;> rfl
theorem hR : RgSig sig := by constructor <;> intros <;> rfl
theorem hC : CsSig sig where
 dv := hD
 rg := hR
 p70 := fun _ _ _ => rfl
 p71 := fun _ _ _ => rfl
 p72 := fun _ _ _ => rfl
 u250 := fun _ _ _ _ => rfl
 u251 := fun _ _ _ _ => rfl
 u252 := fun _ _ _ _ => rfl
 u253 := fun _ _ _ _ => rfl
 u254 := fun _ _ _ _ => rfl
 u255 := fun _ _ _ _ => rfl
 u256 := fun _ _ _ _ => rfl
 u257 := fun _ _ _ _ => rfl
 u258 := fun _ _ _ _ => rfl
 u259 := fun _ _ _ _ => rfl
 u260 := fun _ _ _ _ => rfl
 u261 := fun _ _ _ _ => rfl
 u262 := fun _ _ _ _ => rfl
 u263 := fun _ _ _ _ => rfl
 u264 := fun _ _ _ _ => rfl
 u265 := fun _ _ _ _ => rfl
 u266 := fun _ _ _ _ => rfl
 u267 := fun _ _ _ _ => rfl
 u268 := fun _ _ _ _ => rfl
 u269 := fun _ _ _ _ => rfl
 u270 := fun _ _ _ _ => rfl
 u271 := fun _ _ _ _ => rfl
 u272 := fun _ _ _ _ => rfl
 u273 := fun _ _ _ _ => rfl
 u274 := fun _ _ _ _ => rfl
 u280 := fun _ _ _ _ => rfl
 u281 := fun _ _ _ _ => rfl
 u282 := fun _ _ _ _ => rfl
 u283 := fun _ _ _ _ => rfl
 u284 := fun _ _ _ _ => rfl
 u285 := fun _ _ _ _ => rfl
 u287 := fun _ _ _ _ => rfl
 u288 := fun _ _ _ _ => rfl
 u289 := fun _ _ _ _ => rfl
 u290 := fun _ _ _ _ => rfl
 u291 := fun _ _ _ _ => rfl
 u292 := fun _ _ _ _ => rfl
 u293 := fun _ _ _ _ => rfl
 u294 := fun _ _ _ _ => rfl
 u295 := fun _ _ _ _ => rfl
 u296 := fun _ _ _ _ => rfl
 u297 := fun _ _ _ _ => rfl
 u298 := fun _ _ _ _ => rfl
 u299 := fun _ _ _ _ => rfl
 u300 := fun _ _ _ _ => rfl
 u301 := fun _ _ _ _ => rfl
 u302 := fun _ _ _ _ => rfl
 u303 := fun _ _ _ _ => rfl
 u304 := fun _ _ _ _ => rfl
 u305 := fun _ _ _ _ => rfl
 u306 := fun _ _ _ _ => rfl
 u307 := fun _ _ _ _ => rfl
 u308 := fun _ _ _ _ => rfl
 u309 := fun _ _ _ _ => rfl
 u310 := fun _ _ _ _ => rfl
theorem hP : RpSig sig where
 cs := hC
 p80 := fun _ _ _ => rfl
 p81 := fun _ _ _ => rfl
 p82 := fun _ _ _ => rfl
 p84 := fun _ _ _ => rfl
 u400 := fun _ _ _ _ => rfl
 u401 := fun _ _ _ _ => rfl
 u402 := fun _ _ _ _ => rfl
 u403 := fun _ _ _ _ => rfl
 u404 := fun _ _ _ _ => rfl
 u406 := fun _ _ _ _ => rfl
 u407 := fun _ _ _ _ => rfl
 u408 := fun _ _ _ _ => rfl
 u409 := fun _ _ _ _ => rfl
 u410 := fun _ _ _ _ => rfl
 u411 := fun _ _ _ _ => rfl
 u413 := fun _ _ _ _ => rfl
 u412 := fun _ _ _ _ => rfl
theorem hQ : RcSig sig where
 rp := hP
 p85 := fun _ _ _ => rfl
 p86 := fun _ _ _ => rfl
 p87 := fun _ _ _ => rfl
 u420 := fun _ _ _ _ => rfl
 u421 := fun _ _ _ _ => rfl
 u422 := fun _ _ _ _ => rfl
 u423 := fun _ _ _ _ => rfl
 u424 := fun _ _ _ _ => rfl
 u425 := fun _ _ _ _ => rfl
 u426 := fun _ _ _ _ => rfl
 u427 := fun _ _ _ _ => rfl
 u428 := fun _ _ _ _ => rfl
 u429 := fun _ _ _ _ => rfl
 u433 := fun _ _ _ _ => rfl
 u434 := fun _ _ _ _ => rfl
 u435 := fun _ _ _ _ => rfl
 u436 := fun _ _ _ _ => rfl
 u437 := fun _ _ _ _ => rfl
 u430 := fun _ _ _ _ => rfl
 u431 := fun _ _ _ _ => rfl
theorem hB : BkSig sig where
 p40 := fun _ _ _ => rfl
 p42 := fun _ _ _ => rfl
 p43 := fun _ _ _ => rfl
 p46 := fun _ _ _ => rfl
 p47 := fun _ _ _ => rfl
 p48 := fun _ _ _ => rfl
 u107 := fun _ _ _ _ => rfl
theorem hL : LwSig sig where
 rc := hQ
 bk := hB
 p90 := fun _ _ _ => rfl
 p95 := fun _ _ _ => rfl
 p91 := fun _ _ _ => rfl
 p92 := fun _ _ _ => rfl
 u450 := fun _ _ _ _ => rfl
theorem hY : PySig sig where
 lw := hL
 p93 := fun _ _ _ => rfl
 u451 := fun _ _ _ _ => rfl
 u452 := fun _ _ _ _ => rfl
 u453 := fun _ _ _ _ => rfl
 u454 := fun _ _ _ _ => rfl
 u455 := fun _ _ _ _ => rfl
 u456 := fun _ _ _ _ => rfl
 u460 := fun _ _ _ _ => rfl
noncomputable def env (f g p b o l c : Int) (L : List (List Int)) : Env GG := fun i => match i with
 | 0 => .int f
 | 1 => .int g
 | 2 => .int p
 | 3 => .int b
 | 4 => .int o
 | 5 => .int l
 | 6 => .int c
 | 7 => .rows L
 | _ => .int 0
abbrev V6 (L : List (List Int)) : List Value := L.flatMap (Yu ZsU)
def slV4 (b o l c : Int) : Value := .slice (if b < 0 then none else some ⟨b.toNat, o.toNat, none⟩) l.toNat c.toNat
theorem walk (f g p b o l c : Int) (L : List (List Int)) (w : World) (h0 : 0 <= l /\ l = L.length /\ l <= c /\ l <= 1048576) (hr : Ro w b o (V6 L)) (hc : ∀ r ∈ L, CallOk w r) :
  Calls Tryz.prog 3 #[.int .i64 f, .int .i64 g, .int .i64 p, slV4 b o l c] w fun e w' => e = .returned (.bool true) /\ Below w.heap.size w w' := by
 have q : ∀ e ∈ Ztr.reqs, (e.den sig (env f g p b o l c L)).tP := by
  intro e he
  simp only [Ztr, pyR, List.cons_append, List.nil_append, List.mem_cons, List.not_mem_nil, or_false] at he
  rcases he with rfl | rfl | rfl | rfl
  all_goals simp [eLe, Go.Eng.SX.mk2, Go.Eng.SX.den, Go.Eng.ap1, Go.Eng.ap2, ai, rA, ZA, z0, env, U.co]
  all_goals omega
 have := (py_ok sig hY) (fun _ => true) w emp (env f g p b o l c L) w [.int .i64 f, .int .i64 g, .int .i64 p, slV4 b o l c] (by
  show Go.Eng.argsR _ _ [.one (.int .i64 (ai 0)), .one (.int .i64 (ai 1)), .one (.int .i64 (ai 2)), .one (.slice (ai 3) (ai 4) z0 z0 (ai 5) (ai 6) 6)] _
  refine ⟨.inr ?_, .inr ?_, .inr ?_, .inr ?_, trivial⟩
  all_goals simp [slV4, Go.Eng.SV.den, Go.Eng.SC.den, Go.Eng.SX.den, ai, z0, env, U.co]) q (by
  obtain ⟨x, hx, hi⟩ := Zrt w
  rw [Go.Eng.emp_star] at hx
  refine ⟨x, ?_, hi⟩
  have e : Go.Eng.hpDen (sig.wc fun _ => true) (env f g p b o l c L) w Ztr.pre = Zb (Go.Eng.roDen sig w opE (.int b) (.int o) (.rows L)) (Zb (HProp.pure (∀ r ∈ L, CallOk w r)) emp) := rfl
  rw [e, Go.Eng.star_assoc, Go.Eng.roDen, Go.Eng.star_pure, Go.Eng.star_assoc, Go.Eng.star_pure, Go.Eng.emp_star]
  exact ⟨hr, hc, hx⟩)
 refine this.mono ?_
 rintro e w' ⟨ρ', v, hx, rfl, hv, hs, hfa⟩
 have hv : v = (Go.Eng.SC.bool (qA 8)).den sig ρ' := Go.Eng.R_one sig ρ' hv
 have hb : ((qA 8).den sig ρ').toBool = true := hfa (qA 8) (by simp [Ztr])
 have e1 : (Go.Eng.SC.bool (qA 8)).den sig ρ' = .bool ((qA 8).den sig ρ').toBool := rfl
 rw [e1, hb] at hv
 subst hv
 exact ⟨rfl, hs.below⟩
theorem Zj9 {H : Type} : ∀ l : List (DataW H), l.length <= Rows.uptoBulkAll l
 | [] => by simp [Rows.uptoBulkAll]
 | d :: r => by
  have h1 : 1 <= Rows.uptoBulk d := by
   cases d with
   | lit l => cases l <;> simp [Rows.uptoBulk]
   | _ => simp [Rows.uptoBulk]
  have := Zj9 r
  simp only [Rows.uptoBulkAll, List.length_cons]; omega
theorem ZEZ {H : Type} {w : World} {v : Value} {d : DataW H} {b o l c : Int} {n : Nat} {vals : List Value} (h : ZJF w v d b o l c n vals) : l <= Rows.uptoBulk d := by
 rcases h.2.2.2.2.2.2 with ⟨rfl, h⟩ | ⟨ds, sp, rfl, h⟩
 ·simp [Rows.uptoBulk]; omega
 ·have := Zj9 ds
  simp only [Rows.uptoBulk]; omega
theorem ZfX {H : Type} : ∀ {l : List (DataW H)} {d : DataW H}, d ∈ l -> Rows.uptoBulk d <= Rows.uptoBulkAll l
 | x :: r, d, h => by
  rcases List.mem_cons.1 h with rfl | h
  ·simp only [Rows.uptoBulkAll]; omega
  ·have := ZfX h
   simp only [Rows.uptoBulkAll]; omega
theorem Zvg {H : Type} {d : DataW H} {n : Int} (h : ZFT d n) : n <= Rows.uptoBulk d := by
 obtain ⟨parts, kparts, kd, rfl, h1, h2, h3⟩ := h
 have b1 := ZfX h1
 have b2 := ZfX h2
 simp only [Rows.uptoBulk] at b1 ⊢
 rcases h3 with rfl | ⟨ds, sp, rfl, rfl⟩
 ·omega
 ·have := Zj9 ds
  simp only [Rows.uptoBulk] at b2
  omega
theorem ZdV : laidOutB Tryz.prog = true := by kernel_rfl
set_option maxRecDepth 100000 in
theorem Zbm (H : Type) (enc : TypeId × Value -> H) (W : World) (base : Nat) (args : Array Value) (ds gs : List (DataW H)) (before : List MemPlace)
  (hval : ∀ (j : Nat) t v, Tryz.f3.params[j]? = some t -> args[j]? = some v -> Value.okWide Tryz.prog W .any base t v)
  (hW : DataW.Whole enc Tryz.prog Tryz.f3.params.toList Rows.cachePlaysSpec.vars false W args.toList ds gs before) (hk : Rows.uptoSmall H (ds ++ gs) = true) :
  Calls Tryz.prog 3 args W fun e W' => ∃ v, e = .returned v /\ Rows.cachePlaysSpec.post enc Tryz.prog Tryz.f3 false true false false W args v W' := by
 have hW' := hW
 obtain ⟨p, q, hA0, hV, rfl, hfz, hnd⟩ := hW
 have hA : DataW.TrodAll enc Tryz.prog W 0 (fun _ => true) true Tryz.f3.params.toList args.toList ds p := hA0
 rw [Tryz.params3] at hA hval
 obtain ⟨v0, vs0, d0, ds0, p0, q0, hargs, rfl, rfl, h0, r0⟩ := trodAll_cons hA
 obtain ⟨v1, vs1, d1, ds1, p1, q1, rfl, rfl, rfl, h1, r1⟩ := trodAll_cons r0
 obtain ⟨v2, vs2, d2, ds2, p2, q2, rfl, rfl, rfl, h2, r2⟩ := trodAll_cons r1
 obtain ⟨v3, vs3, d3, ds3, p3, q3, rfl, rfl, rfl, h3, r3⟩ := trodAll_cons r2
 obtain ⟨rfl, rfl, rfl⟩ := trodAll_nil r3
 obtain rfl : args = #[v0, v1, v2, v3] := by cases args; simp_all
 obtain ⟨rfl, rfl⟩ := trodVars_none hV
 have hlt : ∀ x ∈ p0 ++ (p1 ++ (p2 ++ (p3 ++ []))), x.block < W.heap.size := fun x hx => hW'.lt x (List.mem_append_left _ hx)
 have fin : ∀ (e : Ending) (W' : World), (e = .returned (.bool true) /\ Below W.heap.size W W') -> ∃ v, e = .returned v /\ Rows.cachePlaysSpec.post enc Tryz.prog Tryz.f3 false true false false W #[v0, v1, v2, v3] v W' := by
  rintro e W' ⟨rfl, hb⟩
  clear hA0
  refine ⟨_, rfl, ZiG (pa := p0 ++ (p1 ++ (p2 ++ (p3 ++ [])))) (pv := []) hW' (fun _ _ _ => (trodAll_cons_mk (shut_bool Tryz.underlying4 _) trodAll_mk0)) ?_ (fun _ _ => rfl) rfl hb
   (ok_one (by kernel_rfl) rfl (okWide_bool_mk Tryz.underlying4 _))⟩
  intro sp hsp
  refine trodAll_cons_mk ?_ (trodAll_cons_mk ?_ (trodAll_cons_mk ?_ (trodAll_cons_mk ?_ trodAll_mk0)))
  ·exact WideElems.Trod_stays ZdV (by kernel_rfl) (of_decide_eq_true (by kernel_rfl)) h0 (fun x hx => hb.same (hlt x (by simp [hx]))) (fun x hx => hsp x (by simp [hx]))
  ·exact WideElems.Trod_stays ZdV (by kernel_rfl) (of_decide_eq_true (by kernel_rfl)) h1 (fun x hx => hb.same (hlt x (by simp [hx]))) (fun x hx => hsp x (by simp [hx]))
  ·exact WideElems.Trod_stays ZdV (by kernel_rfl) (of_decide_eq_true (by kernel_rfl)) h2 (fun x hx => hb.same (hlt x (by simp [hx]))) (fun x hx => hsp x (by simp [hx]))
  ·exact WideElems.Trod_stays ZdV (by kernel_rfl) (of_decide_eq_true (by kernel_rfl)) h3 (fun x hx => hb.same (hlt x (by simp [hx]))) (fun x hx => hsp x (by simp [hx]))
 obtain ⟨f, e0⟩ := okWide_int Tryz.underlying3 (hval 0 3 v0 rfl rfl)
 obtain ⟨g, e1⟩ := okWide_int Tryz.underlying3 (hval 1 3 v1 rfl rfl)
 obtain ⟨p, e2⟩ := okWide_int Tryz.underlying3 (hval 2 3 v2 rfl rfl)
 obtain ⟨b, o, l, c, L, g1, g2, g3⟩ := Zq1 (enc := enc) (W := W) (base := base) (v := v3) (d := d3) (ps := p3) Tryz.underlying22 Tryz.underlying45 (by kernel_rfl) rfl rfl rfl rfl (by kernel_rfl) (by kernel_rfl) (by kernel_rfl) (by kernel_rfl) Tryz.underlying3 Tryz.underlying3 Tryz.underlying3
  Tryz.underlying43 rfl rfl rfl (by kernel_rfl) (by kernel_rfl) (by kernel_rfl) Tryz.underlying41 Tryz.underlying3 Tryz.underlying3 Tryz.underlying3 (by kernel_rfl) (hval 3 22 v3 rfl rfl) h3
 have hb : Rows.uptoBulkAll ([d0, d1, d2, d3] ++ [] : List (DataW H)) <= 1048576 := of_decide_eq_true hk
 simp only [List.append_nil, Rows.uptoBulkAll] at hb
 have k1 := ZEZ g1
 have hcall : ∀ r ∈ L, CallOk W r := by
  intro r hr
  obtain ⟨m1, ds, sp, rfl, y, hy, hk2⟩ := g3 r hr
  have b1 := Zvg hk2
  have b2 := ZfX hy
  have b3 : Rows.uptoBulkAll ds <= Rows.uptoBulk (DataW.slice ds sp) := by simp only [Rows.uptoBulk]; omega
  exact ⟨m1.pg, m1.sp, ⟨m1.ln.1, m1.ln.2.1, m1.ln.2.2, by omega⟩, m1.nl, m1.ro⟩
 refine Calls.mono ?_ fin
 have := walk f g p b o l c L W ⟨g1.2.1, g2.symm, g1.2.2.2.1, by omega⟩ g1.2.2.2.2.2.1 hcall
 have e3 : v3 = slV4 b o l c := g1.1
 rw [e0, e1, e2, e3]
 exact this
set_option maxRecDepth 100000 in
theorem ZPA (os : Os) (started : os.Started) (H : Type) (enc : TypeId × Value -> H) (F : Stop.Interp) :
  ReturnsInHanded {} Tryz.checked os 3 .any ((Rows.OpenSpec.upto Rows.cachePlaysSpec).pre6 enc Tryz.prog Tryz.f3 Rows.cachePlaysUptoRow.domain false) (((Rows.OpenSpec.upto Rows.cachePlaysSpec).at F).post enc Tryz.prog Tryz.f3 false true false false) := by
 refine returnsInHanded_of_cond (C := Tryz.checked) (s := Rows.OpenSpec.upto Rows.cachePlaysSpec) (k := Rows.uptoSmall) rfl own started (by kernel_rfl) Tryz.func3
  (OpenSpec.witness (enc := enc) (C := Tryz.checked) (s := Rows.OpenSpec.upto Rows.cachePlaysSpec) (k := Rows.uptoSmall) rfl false ⟨#[], #[.int .i64 0, .int .i64 0, .int .i64 0, .slice none 0 0], []⟩ 8 (by kernel_rfl) (by kernel_rfl) (by kernel_rfl)
   (x := ([.lit (.int .i64 0), .lit (.int .i64 0), .lit (.int .i64 0), .nil], [], [])) (by kernel_rfl) rfl (by kernel_rfl)) ?_
 intro W base args ds gs before hval hW _ hk _
 exact Zbm H enc W base args ds gs before hval hW hk
theorem over : Rows.cachePlaysUptoRow.holds Tryz.pinned (Rows.OpenSpec.upto Rows.cachePlaysSpec) :=
 OpenClaim.holds_of_cond 3 Tryz.f3 rfl rfl rfl rfl rfl rfl rfl ⟨rfl, rfl, rfl, rfl, rfl⟩ rfl rfl rfl rfl rfl (by kernel_rfl) Tryz.func3 (by kernel_rfl)
  (of_decide_eq_true (by kernel_rfl)) (by unfold Func.isWrapper; first | (rw [if_pos (by decide +kernel)]; kernel_rfl) | (rw [if_neg (by decide +kernel)]; exact ⟨rfl, rfl⟩))
  (fun os started H enc _ F => ZPA os started H enc F)
theorem proved : Rows.CachePlaysUptoSaid :=
 over
#print axioms proved
end Go.Proofs.YtlcfjjjdhdfbdaaGreat.cachePlays
