/- Part of a proof. -/
import Derived.Test.YtidlngnhjffepaaPh4
set_option linter.unusedSimpArgs false
set_option linter.unusedVariables false
set_option maxRecDepth 20000
namespace Go.Proofs.Ytidlngnhjffepaa
noncomputable section
open Go.Eng
def ZJE : SX := ixB (rA 5) (ai 4)
def ZxL : Ctr := ⟨[.int, .int, .int, .rows, .int, .rows, .g], [.one (slC (ai 0) (ai 1) (ai 2) 1), .one (.ptr (ai 4) 0)], [pAr (ai 0) (rA 3) (ai 2), txO ZJE (rA 5) (gA 6)] ++ txP (ai 4) (rA 5) (gA 6) ZJE,
 [.f2 45 (ai 1) (Zg (rA 3)), eLe (ai 1) (ai 2), eLe (ai 1) mil, usB 560 (rA 3) (rA 5) z0, usB 565 (rA 5) (ai 4) z0, usB 558 (rA 5) (gA 6) z0, .f2 45 (Zg (rA 5)) (usI 552 (gA 6) z0 z0), eLt ZJE (usI 552 (gA 6) z0 z0), .f2 45 (ai 4) (nt (rA 5) ZJE 0)], [.bool], .one (.bool (qA 7)),
 [pAr (ai 0) (rA 3) (ai 2), txO ZJE (rA 5) (gA 6)] ++ txP (ai 4) (rA 5) (gA 6) ZJE, [.f2 48 (qA 7) (usB 562 (rA 3) (ai 4) z0)]⟩
def cn2I : Inv := cntI
def cn2E : SX := .f2 45 (ai 4) (nt (rA 3) (ai 7) 0)
def ZLB : Cx := { specs := [], anns := [(36, [(0, .ghost ZlI [.tmp 1]), (999999, .ghost Zt2 [.tmp 1])]),
 (50, [(2, .inv cn2I), (4, .split cn2E), (4, .iff (ZcT cn2E)), (4, .ghost ZDR [.tmp 0, .tmp 5, .tmp 1]), (500004, .iff (ZcT cn2E)), (500004, .ghost ZDq [.tmp 1])])] }
def Zod : Ctr := ⟨hA, [.one (hS 0)], [hC 0 0], [eLe z0 (ai 2), eLe (ai 2) (Zg (rA 4)), eLe (ai 2) (ai 3), eLe (ai 2) (.int 9223372036854775807)], [.int, .int], .tup [(false, [.ptr (ai 6) 0]), (false, [.int .i64 (ai 7)])], [hC 0 0, bkC (ai 6) xX],
 [.f2 45 (ai 7) (usI 523 xX z0 z0), .f2 48 (eLe z0 (ai 6)) (.f2 45 (ai 7) z0)]⟩
def wG (i : SX) : SX := usG 561 xX i z0
def wK (i R : SX) : SX := usR 548 xX i R
def wO (i : SX) : SX := usR 549 xX i z0
def wM (R g : SX) : SX := .us .amap 547 R g z0 z0
def wrtI (m b : Nat) : Inv := ⟨[.int, .rows, .int, .int, .int, .int, .int, .int, .rows], [(22, .one (.int .i64 (di 0))), (5, .one (slC (di 6) (Zg (rA 1000008)) (di 7) 1))],
 [.cel (ai b) 0 (bkQ (ai m) (di 2) (Zg (wK (di 0) (rA 1000001))) (di 3) (di 4) (Zg (wO (di 0))) (di 5) (.int (-1)) z0), imC (ai m) (wM (rA 1000001) (wG (di 0))), pAr (di 2) (wK (di 0) (rA 1000001)) (di 3), rAr (di 4) (wO (di 0)) (di 5), pAr (di 6) (rA 1000008) (di 7), txC (rA 1000001) (wG (di 0))],
 [eLe z0 (di 0), eLe (di 0) (ai 2), eLe (Zg (wK (di 0) (rA 1000001))) (di 3), .f2 50 (eLe z0 (di 2)) (.f2 45 (Zg (wK (di 0) (rA 1000001))) z0), eLe (Zg (wO (di 0))) (di 5), .f2 50 (eLe z0 (di 4)) (.f2 45 (Zg (wO (di 0))) z0),
  eLe (Zg (rA 1000008)) (di 7), .f2 50 (eLe z0 (di 6)) (.f2 45 (Zg (rA 1000008)) z0), .us .bool 559 xX (di 0) (rA 1000001) (rA 1000008), .f2 45 (usI 550 xX (di 0) z0) (.int (-1)), .f2 45 (usI 551 xX (di 0) z0) z0], .f2 41 (ai 2) (di 0)⟩
def wrcI (m g R it : Nat) : Inv := ⟨[.amap, .ints, .rows, .int, .int, .rows], [(5, .one (slC (di 3) (Zg (rA 1000005)) (di 4) 1))],
 [.itr (.int .i64) (.one .ptr) (ai m) (wM (rA R) (wG (ai g))) (ai it) (mA 1000000) (iA 1000001), pAr (di 3) (rA 1000005) (di 4), txC (rA 1000002) (.us .g 568 (wG (ai g)) (mA 1000000) z0 z0)],
 [eLe (Zg (rA 1000005)) (di 4), .f2 50 (eLe z0 (di 3)) (.f2 45 (Zg (rA 1000005)) z0), usB 569 (rA 1000002) (rA R) z0, .us .bool 570 (wG (ai g)) (mA 1000000) (rA R) (rA 1000005), usB 571 (mA 1000000) (wM (rA R) (wG (ai g))) z0], .f1 33 (mA 1000000)⟩
def wT (n : Nat) : SX := .f3 140 (.int (-1)) (wM (rA (n + 1)) (wG (ai n))) (nt (rA 4) (ai n) 1)
def ZKC : Cx := { specs := [(31, [Zwf]), (35, [ZBM]), (36, [ZxL, Zyc])], anns := [(17, [(6, .ghost ZFc []), (6, .ghost ZFc []), (6, .ghost ZJY []), (6, .ghost emTC []), (8, .inv (wrtI 7 8)), (9, .ghost ZLx []), (11, .split (eLe z0 (wT 9))), (11, .iff (eLe z0 (wT 9))), (11, .ghost ZC8 [.tmp 8, .tmp 32]), (500011, .iff (eLe z0 (wT 9))), (500011, .ghost ZlI [.tmp 8]),
  (500016, .ghost adTC [.tmp 62]), (500017, .ghost ZFc []), (500019, .ghost ZFc []), (20, .ghost ZC8 [.tmp 8, .tmp 32]), (500020, .ghost Zpp [.tmp 8]), (29, .ghost ZC8 [.tmp 8, .tmp 32]), (500029, .ghost Zpp [.tmp 8]), (33, .ghost ZC8 [.tmp 8, .tmp 32]), (500033, .ghost Zpp [.tmp 8]),
  (35, .iff (eLe z0 (wT 9))), (35, .ghost Zt2 [.tmp 8]), (500035, .iff (eLe z0 (wT 9))), (500035, .ghost ZlI [.tmp 8]), (39, .ghost ZC8 [.tmp 8, .tmp 32]), (500039, .ghost Zpp [.tmp 8]), (500042, .ghost ZFc []), (44, .inv (wrcI 7 9 10 19)), (46, .ghost Zt2 [.tmp 11]), (500046, .ghost ZlI [.tmp 11]), (47, .ghost Zt2 [.tmp 11]), (500047, .ghost Zpp [.tmp 11]), (999999, .iff (eLt (.int 400) (ai 2))), (999999, .ghost ZJU [.tmp 0, .tmp 2]), (999999, .iff (qA 6)), (999999, .ghost ZJU [.tmp 0, .tmp 2]), (999999, .iff (ZcT (qA 6))), (999999, .ghost Zu4 [.tmp 0, .tmp 2])])] }
def ZGy : SX := v 552 (g 6)
def ZCQ : SX := e (.f1 32 (r 5)) ZGy
def Zie : SX := d 566 (r 5) (a 4)
def ZD5 : SX := t Zie ZGy
def ZHa : SX := .f3 112 (r 5) Zie z
def ZC1 : SX := e (a 4) ZHa
def ZGw : SX := l z (a 7)
def ZIX : SX := .f3 112 (r 3) (a 7) z
def ZFD : SX := e (a 4) ZIX
def ZHT : SX := t (a 7) (.f1 32 (r 3))
def Zx2 : SX := .f1 32 (wR 545 (g 6) Zie)
def ZAO : SX := l Zx2 (.f3 112 (r 5) Zie (k 3))
def ZAq : SX := .f1 30 (wN 546 (g 6) Zie)
def ZBo : SX := l ZAq (.f3 112 (r 5) Zie (k 5))
def ZAF : SX := .f2 50 (l z (.f3 112 (r 5) Zie (k 2))) (e Zx2 z)
def Zvp : SX := .f2 50 (l z (.f3 112 (r 5) Zie (k 4))) (e ZAq z)
def ZAU : SX := l z (.f3 112 (r 5) Zie (k 1))
def ZAb : SX := l z ZHa
def ZAt : SX := c 562 (r 3) (a 4)
def ZjN : SX := .f2 40 (a 7) (k 1)
def Zyl : SX := .f2 41 (a 1) ZjN
def ZK0 : VC := i (e (a 1) (.f1 32 (r 3))) (i (l (a 1) (a 2)) (i (l (a 1) (k 1000000)) (i (c 560 (r 3) (r 5)) (i (c 565 (r 5) (a 4)) (i (c 558 (r 5) (g 6)) (i ZCQ (i ZD5 (i ZC1 (n (l z Zie) (n (l z (a 1)) (n (.f1 2 (c 562 (.f2 115 (r 3) z) (a 4))) (u 7 .int (i ZGw (i (l (a 7) (a 1)) (i (.f1 2 (c 562 (.f2 115 (r 3) (a 7)) (a 4))) (.and (i (t (a 7) (a 1)) (.and (i ZFD (n ZHT (n (l z (a 4)) (i ZC1 (i ZD5 (i ZAO (i ZBo (i ZAF (i Zvp (i ZAU (i ZAb (i ZCQ (n (.f2 48 ZGw ZAt) .tt))))))))))))) (i (.f1 2 ZFD) (n (c 565 (r 5) ZIX) (n ZHT (n (.f1 23 ZjN) (n (l z Zyl) (n (t Zyl (.f2 41 (a 1) (a 7))) (n (l z ZjN) (n (l ZjN (a 1)) (n (.f1 2 (c 562 (.f2 115 (r 3) ZjN) (a 4))) .tt))))))))))) (i (l (a 1) (a 7)) (i ZC1 (i ZD5 (i ZAO (i ZBo (i ZAF (i Zvp (i ZAU (i ZAb (i ZCQ (n (.f2 48 (.bool false) ZAt) .tt)))))))))))))))))))))))))))
theorem ZLT : Zcl Try.prog ZLB 12 36 ZxL = ZK0 := by kernel_rfl
def Yy : SX := .f2 115 (r 4) (a 2)
def ZD2 : SX := v 523 Yy
def ZGz : SX := l z (a 8)
def ZGd : SX := hR0 548 Yy z (.f1 154 z)
def ZF1 : SX := .f1 32 ZGd
def ZJu : SX := e ZF1 z
def ZF9 : SX := vR 549 Yy
def ZHU : SX := .f1 32 ZF9
def ZIE : SX := e ZHU z
def ZIc : SX := w 561 Yy
def ZeM : SX := hR0 548 Yy (a 9) (r 10)
def Zcd : SX := .f1 32 ZeM
def Zh8 : SX := l z (a 11)
def Zmj : SX := wR 549 Yy (a 9)
def ZeT : SX := .f1 32 Zmj
def ZBb : SX := l z (a 13)
def Z5 : SX := f 561 Yy (a 9)
def ZaY : SX := wM0 547 (r 10) Z5
def Zhl : SX := .f3 112 (r 4) (a 9) (k 1)
def Zc9 : SX := .f3 140 (k (-1)) ZaY Zhl
def Zmc : SX := l z Zc9
def Ym : SX := d 553 Z5 Zhl
def Zsu : SX := v 552 Z5
def ZwQ : SX := .f3 112 (r 10) Ym z
def Zjn : SX := wR 545 Z5 Ym
def Zi5 : SX := .f1 32 Zjn
def ZxW : SX := .f3 112 (r 10) Ym (k 3)
def Zf7 : SX := l Zi5 ZxW
def ZjP : SX := wN 546 Z5 Ym
def Zjb : SX := .f1 30 ZjP
def ZxT : SX := .f3 112 (r 10) Ym (k 5)
def Zf1 : SX := l Zjb ZxT
def Zxz : SX := .f3 112 (r 10) Ym (k 2)
def ZfR : SX := .f2 50 (l z Zxz) (e Zi5 z)
def ZCB : SX := .f3 112 (r 10) Ym (k 4)
def ZfW : SX := .f2 50 (l z ZCB) (e Zjb z)
def Zsv : SX := .f3 112 (r 10) Ym (k 1)
def ZfP : SX := l z Zsv
def ZfU : SX := l z ZwQ
def ZeB : SX := e (.f1 32 (r 10)) Zsu
def ZeV : SX := .f3 112 (r 4) (a 9) z
def ZsM : SX := e ZeV (k 1)
def Zjh : SX := .f1 32 Yy
def ZaI : SX := .f2 155 Z5 (f 561 Yy Zjh)
def Zat : SX := .f2 155 ZaY ZaY
def ZaB : SX := .f2 155 ZeM (hR0 548 Yy Zjh (r 10))
def ZaH : SX := .f2 155 Zmj (wR 549 Yy Zjh)
def Zaz : SX := e Zcd Zcd
def Zaw : SX := e ZeT ZeT
def ZAT : SX := d 550 Yy Zjh
def ZaW : SX := e (a 9) ZAT
def Zs2 : SX := d 551 Yy Zjh
def Zbv : SX := e (k 1) Zs2
def ZaA : SX := e z ZD2
def Zav : SX := .f2 48 ZGz (.bool true)
def ZzV : SX := .f1 2 ZsM
def ZtV : SX := e ZeV (k 2)
def Ztb : SX := e Zhl z
def ZfZ : SX := l z (a 19)
def ZzN : SX := l ZeT ZeT
def Zmd : SX := .f2 40 ZeT (k 1)
def ZAE : SX := l (.f2 42 Zmd (k 72)) k1
def ZAK : SX := l Zmd (a 21)
def Zh5 : SX := l z (a 20)
def Zvr : SX := .f2 50 Zh5 (e Zmd z)
def YO : SX := .f2 40 (a 9) (k 1)
def ZbI : SX := .f1 23 YO
def ZxP : SX := .f2 41 (a 2) YO
def ZbK : SX := l z ZxP
def ZbH : SX := t ZxP (.f2 41 (a 2) (a 9))
def Zbz : SX := l z YO
def ZbM : SX := l YO (a 2)
def ZxQ : SX := hR0 548 Yy YO (r 10)
def Zr7 : SX := .f1 32 ZxQ
def Znt : SX := l Zr7 (a 12)
def ZmO : SX := .f2 50 Zh8 (e Zr7 z)
def ZrM : SX := wR 549 Yy YO
def Zjo : SX := .f1 32 ZrM
def Zv7 : SX := l Zjo (a 21)
def Zxi : SX := e Zjo z
def ZvD : SX := .f2 50 Zh5 Zxi
def ZwS : SX := .us .bool 559 Yy YO (r 10) (.f1 154 z)
def ZbL : SX := e (d 550 Yy YO) (k (-1))
def Zbx : SX := e (d 551 Yy YO) z
def Zb0 : SX := f 561 Yy YO
def Zl5 : SX := .f2 155 Zb0 Z5
def Zyt : SX := .f1 35 (.f1 36 (.f3 112 (r 4) (a 9) (k 2)))
def Zz1 : SX := .f1 35 (.f1 36 (.f3 112 (r 4) (a 9) (k 3)))
def ZBs : SX := .f3 112 (r 4) (a 9) (k 5)
def Zsb : SX := .f2 122 ZeV (.f2 122 Zhl (.f2 122 Zyt (.f2 122 Zz1 (.f2 122 (.f1 3 (.f1 2 (e (.f3 112 (r 4) (a 9) (k 4)) z))) (.f2 122 ZBs (.f1 152 z))))))
def Zw7 : SX := .f2 155 ZrM (.f2 121 Zmj (.f2 124 (.f2 122 (a 9) Zsb) (.f1 154 z)))
def Zl2 : SX := .f2 155 ZxQ ZeM
def ZlO : SX := .f2 155 (wM0 547 (r 10) Zb0) ZaY
def Zy9 : SX := e Zjo Zmd
def Zoi : SX := e Zr7 Zcd
def ZxI : SX := .f1 2 Ztb
def ZAM : SX := c 543 Z5 Ym
def Zib : SX := .f1 2 ZAM
def ZjH : SX := .f1 2 Zib
def ZiC : SX := wM0 544 Z5 Ym
def Zp9 : SX := .us .rows 563 ZiC Zsb Zjn (a 9)
def ZhF : SX := .f1 32 Zp9
def ZpN : SX := .us .ints 564 ZiC Zsb ZjP (a 9)
def Zhy : SX := .f1 30 ZpN
def Zkd : SX := l z (a 21)
def ZpP : SX := d 540 Z5 Ym
def Zd6 : SX := e ZpP ZpP
def Zqj : SX := d 541 Z5 Ym
def Zec : SX := e Zqj Zqj
def Zls : SX := hR0 554 (r 10) Ym (.f2 122 Zc9 (.f2 122 Zsv (.f2 122 (a 19) (.f2 122 (a 20) (.f2 122 (a 21) (.f2 122 (a 22) (.f1 152 z)))))))
def Zo0 : SX := hR0 548 Yy YO Zls
def Zky : SX := .f1 32 Zo0
def ZaQ : SX := l Zjo (a 14)
def ZaL : SX := .f2 50 ZBb Zxi
def Zpw : SX := d 542 Z5 Ym
def Zq6 : SX := .f2 122 Zpw (.f2 122 (.f1 3 ZAM) (.f1 152 z))
def ZaM : SX := .f2 155 ZrM Zmj
def ZaP : SX := e Zjo ZeT
def ZqO : SX := .f1 2 ZtV
def Zfb : SX := e ZeV (k 3)
def Zfa : SX := e Zi5 Zi5
def Zfw : SX := e Zjb Zjb
def ZkC : SX := hR0 554 (r 10) Ym (.f2 122 Zc9 (.f2 122 Zsv (.f2 122 Zxz (.f2 122 ZxW (.f2 122 ZCB (.f2 122 ZxT (.f1 152 z)))))))
def ZkL : SX := hR0 548 Yy YO ZkC
def ZdZ : SX := .f1 32 ZkL
def Zkf : SX := l ZdZ (a 12)
def Zj3 : SX := e ZdZ z
def Zll : SX := .f2 50 Zh8 Zj3
def Zft : SX := .us .bool 559 Yy YO ZkC (r 17)
def Zix : SX := e ZeV (k 4)
def Zo5 : SX := .f2 155 Zb0 (.us .g 556 (.us .g 555 Z5 Ym (.f3 142 ZiC Zyt (.f2 40 (.f2 42 Zz1 (k 2)) (.f1 3 Zix))) Zq6) Ym Zjn ZjP)
def ZkS : SX := .f2 155 ZkL ZeM
def ZfE : SX := .f2 155 (wM0 547 ZkC Zb0) ZaY
def ZlD : SX := e ZdZ Zcd
def ZqI : SX := .f1 2 Zfb
def Zqp : SX := .f1 2 Zix
def Zki : SX := e ZeV (k 6)
def ZgQ : SX := .f2 122 z (.f1 152 z)
def ZpZ : SX := .f1 2 Zki
def Zj7 : SX := e ZeV (k 5)
def ZpH : SX := c 565 (r 10) Zc9
def ZaO : SX := d 566 (r 10) Zc9
def Zru : SX := .f3 112 (r 10) ZaO z
def Zq9 : SX := .f1 32 (wR 545 Z5 ZaO)
def ZqH : SX := .f1 30 (wN 546 Z5 ZaO)
def ZrD : SX := e (.f1 32 (r 17)) (.f1 32 (r 17))
def Zo6 : SX := l (.f1 32 (r 17)) (k 1000000)
def Zp5 : SX := c 560 (r 17) (r 10)
def Zrq : SX := .f2 48 (q 19) (c 562 (r 17) Zc9)
def Zp2 : SX := .f1 2 (.f1 2 (q 19))
def Zlf : SX := l z ZaO
def ZoZ : SX := d 542 Z5 ZaO
def ZpM : SX := l z ZoZ
def Zqk : SX := t ZoZ z
def ZcZ : SX := .f2 40 Zcd (k 1)
def Zqn : SX := .f1 23 ZcZ
def Zle : SX := e ZBs ZcZ
def Zq2 : SX := .f1 2 Zle
def Zqa : SX := e (k 2) Zs2
def ZqW : SX := l Zcd Zcd
def Zrs : SX := l (.f2 42 ZcZ (k 8)) k1
def ZpC : SX := e ZcZ z
def ZoB : SX := .f2 155 Zb0 (.us .g 556 (.us .g 555 Z5 Ym ZiC (.f2 122 (a 9) ZgQ)) Ym Zjn ZjP)
def Zpu : SX := .f2 155 ZkL (.f2 121 ZeM (.f2 124 (.f2 122 Zc9 (.f1 152 z)) (.f1 154 z)))
def Zqc : SX := e ZdZ ZcZ
def ZoG : SX := .f1 2 Zj7
def ZkN : SX := e ZeV (k 7)
def ZrC : SX := c 569 (r 10) (r 10)
def ZqE : SX := .us .bool 570 Z5 ZaY (r 10) (.f1 154 z)
def Zqf : SX := c 571 ZaY ZaY
def ZoR : SX := .f2 155 (f 568 Z5 ZaY) Z5
def ZqJ : SX := l (.f1 32 (r 25)) (a 24)
def Zqd : SX := .f2 50 (l z (a 23)) (e (.f1 32 (r 25)) z)
def Zp6 : SX := c 569 (r 22) (r 10)
def Zo3 : SX := .us .bool 570 Z5 (m 20) (r 10) (r 25)
def ZoH : SX := c 571 (m 20) ZaY
def ZoQ : SX := e (.f1 33 (m 20)) z
def ZpY : SX := hR0 548 Yy YO (r 22)
def Zlo : SX := .f1 32 ZpY
def Zp3 : SX := l Zlo (a 12)
def ZoN : SX := .f2 50 Zh8 (e Zlo z)
def ZpW : SX := .us .bool 559 Yy YO (r 22) (r 25)
def ZaV : SX := f 568 Z5 (m 20)
def ZoI : SX := .f2 155 Zb0 ZaV
def Zov : SX := .f2 155 ZpY ZeM
def ZqT : SX := .f2 155 (wM0 547 (r 22) Zb0) ZaY
def Zrw : SX := e Zlo Zcd
def ZoP : SX := .f2 141 (m 20) (a 26)
def Zfl : SX := .f3 140 z ZaY (a 26)
def Zq5 : SX := c 565 (r 22) Zfl
def Yo : SX := d 566 (r 22) Zfl
def Zqo : SX := .f3 112 (r 22) Yo z
def Zg5 : SX := e Zfl Zqo
def Zrm : SX := v 552 ZaV
def ZgK : SX := t Yo Zrm
def ZoW : SX := wR 545 ZaV Yo
def Zig : SX := .f1 32 ZoW
def Zrt : SX := .f3 112 (r 22) Yo (k 3)
def ZgU : SX := l Zig Zrt
def Zoz : SX := wN 546 ZaV Yo
def ZiE : SX := .f1 30 Zoz
def Zpq : SX := .f3 112 (r 22) Yo (k 5)
def Zg8 : SX := l ZiE Zpq
def Zqi : SX := .f3 112 (r 22) Yo (k 2)
def ZgG : SX := .f2 50 (l z Zqi) (e Zig z)
def Zqs : SX := .f3 112 (r 22) Yo (k 4)
def Zg7 : SX := .f2 50 (l z Zqs) (e ZiE z)
def Zqe : SX := .f3 112 (r 22) Yo (k 1)
def Zh3 : SX := l z Zqe
def Zh7 : SX := l z Zqo
def ZhG : SX := e (.f1 32 (r 22)) Zrm
def ZqN : SX := l z Yo
def Zk9 : SX := c 543 ZaV Yo
def ZqV : SX := d 540 ZaV Yo
def Zqq : SX := e ZqV ZqV
def ZpK : SX := d 541 ZaV Yo
def ZoE : SX := e ZpK ZpK
def Zrl : SX := e Zig Zig
def Zpv : SX := e ZiE ZiE
def Zpn : SX := l z (a 27)
def ZoA : SX := l (.f1 32 (r 25)) (.f1 32 (r 25))
def Zly : SX := .f2 40 (.f1 32 (r 25)) (k 1)
def ZqF : SX := l (.f2 42 Zly (k 8)) k1
def Zpd : SX := l Zly (a 29)
def Zro : SX := .f2 50 (l z (a 28)) (e Zly z)
def Ze7 : SX := .f2 143 (m 20) (a 26)
def ZhV : SX := t (.f1 33 Ze7) (.f1 33 (m 20))
def Zpo : SX := c 569 (hR0 554 (r 22) Yo (.f2 122 Zfl (.f2 122 Zqe (.f2 122 Zqi (.f2 122 Zrt (.f2 122 Zqs (.f2 122 Zpq (.f1 152 z)))))))) (r 10)
def Zqr : SX := .us .bool 570 Z5 Ze7 (r 10) (.f2 121 (r 25) (.f2 124 (.f2 122 Zfl (.f1 152 z)) (.f1 154 z)))
def ZiG : SX := c 571 Ze7 ZaY
def ZoU : SX := f 568 Z5 Ze7
def ZpV : SX := .f2 155 ZoU (.us .g 556 (.us .g 555 ZaV Yo (wM0 544 ZaV Yo) (.f2 122 (d 542 ZaV Yo) ZgQ)) Yo ZoW Zoz)
def ZqB : SX := .f1 2 Zk9
def Zrz : SX := .us .bool 570 Z5 Ze7 (r 10) (r 25)
def Zpj : SX := .f2 155 ZoU ZaV
def Zpt : SX := .f1 2 ZkN
def Zq3 : SX := .us .bool 559 Yy YO (r 10) (r 17)
def Zim : SX := t Zc9 z
def Zk6 : SX := .f2 121 (r 10) (.f2 124 (.f2 122 (a 20) (.f2 122 (a 19) (.f2 122 (k (-1)) (.f2 122 z (.f2 122 (k (-1)) ZgQ))))) (.f1 154 z))
def Zqv : SX := hR0 548 Yy YO Zk6
def ZkQ : SX := .f1 32 Zqv
def ZK8 : VC := i (l z (a 2)) (i (l (a 2) (.f1 32 (r 4))) (i (l (a 2) (a 3)) (i (l (a 2) (k 9223372036854775807)) (.and (i (t (k 400) (a 2)) (n (e (k 2) ZD2) .tt)) (i (l (a 2) (k 400)) (u 6 .bool (i (.f2 48 (q 6) (.f1 2 (c 511 (r 4) (a 2)))) (.and (i (q 6) (n (e (k 280) ZD2) .tt)) (i (.f1 2 (q 6)) (u 7 .int (i (l z (a 7)) (u 8 .int (i ZGz (n (l ZF1 z) (n (.f2 50 (.bool false) ZJu) (n (l ZHU z) (n (.f2 50 (.bool false) ZIE) (n (.us .bool 559 Yy z (.f1 154 z) (.f1 154 z)) (n (e (v 550 Yy) (k (-1))) (n (e (v 551 Yy) z) (n (.f2 155 ZIc (w 561 (.f1 154 z))) (n (.f2 155 ZF9 (.f1 154 z)) (n (.f2 155 ZGd (.f1 154 z)) (n (.f2 155 (wM0 547 (.f1 154 z) ZIc) (.f1 155 z)) (n ZIE (n ZJu (u 9 .int (u 10 .rows (u 11 .int (u 12 .int (u 13 .int (u 14 .int (u 15 .int (u 16 .int (u 17 .rows (i (l z (a 9)) (i (l (a 9) (a 2)) (i (l Zcd (a 12)) (i (.f2 50 Zh8 (e Zcd z)) (i (l ZeT (a 14)) (i (.f2 50 ZBb (e ZeT z)) (i (l (.f1 32 (r 17)) (a 16)) (i (.f2 50 (l z (a 15)) (e (.f1 32 (r 17)) z)) (i (.us .bool 559 Yy (a 9) (r 10) (r 17)) (i (e (d 550 Yy (a 9)) (k (-1))) (i (e (d 551 Yy (a 9)) z) (.and (i (t (a 9) (a 2)) (i (c 558 (r 10) Z5) (n (t (a 9) (.f1 32 (r 4))) (u 18 .int (i (l z (a 18)) (.and (i Zmc (n (t Ym Zsu) (n (e Zc9 ZwQ) (i Zf7 (i Zf1 (i ZfR (i ZfW (i ZfP (i ZfU (i ZeB (.and (i Zmc (n (l z Ym) (.and (i ZsM (.and (i Zmc (n ZaI (n Zat (n ZaB (n ZaH (n Zaz (n Zaw (n ZaW (n Zbv (n ZaA (n Zav .tt))))))))))) .tt)) (i ZzV (.and (i ZtV (.and (i Ztb (u 19 .int (i ZfZ (n ZzN (n ZAE (u 20 .int (u 21 .int (i ZAK (i Zvr (n ZbI (n ZbK (n ZbH (n Zbz (n ZbM (n Znt (n ZmO (n Zv7 (n ZvD (n ZwS (n ZbL (n Zbx (n Zl5 (n Zw7 (n Zl2 (n ZlO (n Zy9 (n Zoi .tt))))))))))))))))))))))))))) (i ZxI (.and (i Zib (n ZaI (n Zat (n ZaB (n ZaH (n Zaz (n Zaw (n ZaW (n Zbv (n ZaA (n Zav .tt))))))))))) (i ZjH (i Zf7 (i Zf1 (i ZfR (i ZfW (i ZfP (i ZfU (i ZeB (n (l Zi5 (k 1000000)) (n (l Zjb (k 1000000)) (u 19 .int (u 20 .int (u 21 .int (u 22 .int (i (l ZhF (a 20)) (i (l Zhy (a 22)) (i (.f2 50 ZfZ (e ZhF z)) (i (.f2 50 Zkd (e Zhy z)) (n Zd6 (n Zec (n (e ZhF ZhF) (n (e Zhy Zhy) (n ZbI (n ZbK (n ZbH (n Zbz (n ZbM (n (l Zky (a 12)) (n (.f2 50 Zh8 (e Zky z)) (n ZaQ (n ZaL (n (.us .bool 559 Yy YO Zls (.f1 154 z)) (n ZbL (n Zbx (n (.f2 155 Zb0 (.us .g 556 (.us .g 555 Z5 Ym ZiC Zq6) Ym Zp9 ZpN)) (n ZaM (n (.f2 155 Zo0 ZeM) (n (.f2 155 (wM0 547 Zls Zb0) ZaY) (n ZaP (n (e Zky Zcd) .tt)))))))))))))))))))))))))))))))))))))))))))) (i ZqO (.and (i Zfb (.and (i Zfb (.and (i Zib (n ZaI (n Zat (n ZaB (n ZaH (n Zaz (n Zaw (n ZaW (n Zbv (n ZaA (n Zav .tt))))))))))) (i ZjH (i Zf7 (i Zf1 (i ZfR (i ZfW (i ZfP (i ZfU (i ZeB (n Zd6 (n Zec (n Zfa (n Zfw (n ZbI (n ZbK (n ZbH (n Zbz (n ZbM (n Zkf (n Zll (n ZaQ (n ZaL (n Zft (n ZbL (n Zbx (n Zo5 (n ZaM (n ZkS (n ZfE (n ZaP (n ZlD .tt)))))))))))))))))))))))))))))))) .tt)) (i ZqI (.and (i Zix (.and (i Zib (n ZaI (n Zat (n ZaB (n ZaH (n Zaz (n Zaw (n ZaW (n Zbv (n ZaA (n Zav .tt))))))))))) (i ZjH (i Zf7 (i Zf1 (i ZfR (i ZfW (i ZfP (i ZfU (i ZeB (n Zd6 (n Zec (n Zfa (n Zfw (n ZbI (n ZbK (n ZbH (n Zbz (n ZbM (n Zkf (n Zll (n ZaQ (n ZaL (n Zft (n ZbL (n Zbx (n Zo5 (n ZaM (n ZkS (n ZfE (n ZaP (n ZlD .tt)))))))))))))))))))))))))))))))) (i Zqp (.and (i Zki (.and (i Zib (n ZaI (n Zat (n ZaB (n ZaH (n Zaz (n Zaw (n ZaW (n Zbv (n ZaA (n Zav .tt))))))))))) (i ZjH (i Zf7 (i Zf1 (i ZfR (i ZfW (i ZfP (i ZfU (i ZeB (n Zd6 (n Zec (n Zfa (n Zfw (n ZbI (n ZbK (n ZbH (n Zbz (n ZbM (n Zkf (n Zll (n ZaQ (n ZaL (n Zft (n ZbL (n Zbx (n (.f2 155 Zb0 (.us .g 556 (.us .g 555 Z5 Ym ZiC (.f2 122 Zpw ZgQ)) Ym Zjn ZjP)) (n ZaM (n ZkS (n ZfE (n ZaP (n ZlD .tt)))))))))))))))))))))))))))))))) (i ZpZ (.and (i Zj7 (n ZpH (i (e Zc9 Zru) (i (t ZaO Zsu) (i (l Zq9 (.f3 112 (r 10) ZaO (k 3))) (i (l ZqH (.f3 112 (r 10) ZaO (k 5))) (i (.f2 50 (l z (.f3 112 (r 10) ZaO (k 2))) (e Zq9 z)) (i (.f2 50 (l z (.f3 112 (r 10) ZaO (k 4))) (e ZqH z)) (i (l z (.f3 112 (r 10) ZaO (k 1))) (i (l z Zru) (i ZeB (.and (i Zib (n ZrD (n Zo6 (n Zp5 (u 19 .bool (i Zrq (.and (i Zp2 (n Zlf (.and (i ZpM (n ZaI (n Zat (n ZaB (n ZaH (n Zaz (n Zaw (n ZaW (n Zbv (n ZaA (n Zav .tt))))))))))) (i Zqk (n Zqn (.and (i Zq2 (n ZaI (n Zat (n ZaB (n ZaH (n Zaz (n Zaw (n ZaW (n Zqa (n ZaA (n Zav .tt))))))))))) (i Zle (i Zf7 (i Zf1 (i ZfR (i ZfW (i ZfP (i ZfU (i ZeB (n Zd6 (n Zec (n Zfa (n Zfw (u 20 .int (i Zh5 (n ZqW (n Zrs (u 21 .int (u 22 .int (i (l ZcZ (a 22)) (i (.f2 50 Zkd ZpC) (n ZbI (n ZbK (n ZbH (n Zbz (n ZbM (n (l ZdZ (a 22)) (n (.f2 50 Zkd Zj3) (n ZaQ (n ZaL (n Zft (n ZbL (n Zbx (n ZoB (n ZaM (n Zpu (n ZfE (n ZaP (n Zqc .tt)))))))))))))))))))))))))))))))))))))))))))) (i (.f1 2 (q 19)) (n Zlf (n ZaI (n Zat (n ZaB (n ZaH (n Zaz (n Zaw (n ZaW (n Zbv (n ZaA (n Zav .tt))))))))))))))))))) (i ZjH (n Zlf (.and (i ZpM (n ZaI (n Zat (n ZaB (n ZaH (n Zaz
 (n Zaw (n ZaW (n Zbv (n ZaA (n Zav .tt))))))))))) (i Zqk (n Zqn (.and (i Zq2 (n ZaI (n Zat (n ZaB (n ZaH (n Zaz (n Zaw (n ZaW (n Zqa (n ZaA (n Zav .tt))))))))))) (i Zle (i Zf7 (i Zf1 (i ZfR (i ZfW (i ZfP (i ZfU (i ZeB (n Zd6 (n Zec (n Zfa (n Zfw (u 19 .int (i ZfZ (n ZqW (n Zrs (u 20 .int (u 21 .int (i (l ZcZ (a 21)) (i (.f2 50 Zh5 ZpC) (n ZbI (n ZbK (n ZbH (n Zbz (n ZbM (n (l ZdZ (a 21)) (n (.f2 50 Zh5 Zj3) (n ZaQ (n ZaL (n Zft (n ZbL (n Zbx (n ZoB (n ZaM (n Zpu (n ZfE (n ZaP (n Zqc .tt)))))))))))))))))))))))))))))))))))))))))))))))))))))))) (i ZoG (.and (i ZkN (u 19 .int (i ZfZ (n ZrC (n ZqE (n Zqf (n ZoR (u 20 .amap (u 21 .ints (u 22 .rows (u 23 .int (u 24 .int (u 25 .rows (i ZqJ (i Zqd (i Zp6 (i Zo3 (i ZoH (.and (i ZoQ (n ZbI (n ZbK (n ZbH (n Zbz (n ZbM (n Zp3 (n ZoN (n ZaQ (n ZaL (n ZpW (n ZbL (n Zbx (n ZoI (n ZaM (n Zov (n ZqT (n ZaP (n Zrw .tt))))))))))))))))))) (u 26 .int (i ZoP (n Zq5 (i Zg5 (i ZgK (i ZgU (i Zg8 (i ZgG (i Zg7 (i Zh3 (i Zh7 (i ZhG (n ZqN (.and (i Zk9 (i Zg5 (i ZgK (i ZgU (i Zg8 (i ZgG (i Zg7 (i Zh3 (i Zh7 (i ZhG (n Zqq (n ZoE (n Zrl (n Zpv (u 27 .int (i Zpn (n ZoA (n ZqF (u 28 .int (u 29 .int (i Zpd (i Zro (n ZhV (n Zpo (n Zqr (n ZiG (n ZpV .tt))))))))))))))))))))))))))) (i ZqB (n ZhV (n Zrz (n ZiG (n Zpj .tt)))))))))))))))))))))))))))))))))))))) (i Zpt (n ZbI (n ZbK (n ZbH (n Zbz (n ZbM (n Znt (n ZmO (n ZaQ (n ZaL (n Zq3 (n ZbL (n Zbx (n Zl5 (n ZaM (n Zl2 (n ZlO (n ZaP (n Zoi .tt)))))))))))))))))))))))))))))))))) .tt))))))))))) (i Zim (.and .tt (i Zim (.and (i ZsM (.and .tt (i Zim (u 19 .int (i ZfZ (u 20 .int (i Zh5 (n ZbI (n ZbK (n ZbH (n Zbz (n ZbM (n (l ZkQ (a 12)) (n (.f2 50 Zh8 (e ZkQ z)) (n ZaQ (n ZaL (n (.us .bool 559 Yy YO Zk6 (.f1 154 z)) (n ZbL (n Zbx (n (.f2 155 Zb0 (h 557 Z5 Zhl (a 9))) (n ZaM (n (.f2 155 Zqv ZeM) (n (.f2 155 (wM0 547 Zk6 Zb0) (.f3 142 ZaY Zhl (a 20))) (n ZaP (n (e ZkQ Zcd) .tt))))))))))))))))))))))))) (i ZzV (.and (i ZtV (.and (i Ztb (u 19 .int (i ZfZ (n ZzN (n ZAE (u 20 .int (u 21 .int (i ZAK (i Zvr (n ZbI (n ZbK (n ZbH (n Zbz (n ZbM (n Znt (n ZmO (n Zv7 (n ZvD (n ZwS (n ZbL (n Zbx (n Zl5 (n Zw7 (n Zl2 (n ZlO (n Zy9 (n Zoi .tt))))))))))))))))))))))))))) (i ZxI (n ZaI (n Zat (n ZaB (n ZaH (n Zaz (n Zaw (n ZaW (n Zbv (n ZaA (n Zav .tt))))))))))))) (i ZqO (.and (i Zfb (.and (i Zfb (n ZaI (n Zat (n ZaB (n ZaH (n Zaz (n Zaw (n ZaW (n Zbv (n ZaA (n Zav .tt))))))))))) .tt)) (i ZqI (.and (i Zix (n ZaI (n Zat (n ZaB (n ZaH (n Zaz (n Zaw (n ZaW (n Zbv (n ZaA (n Zav .tt))))))))))) (i Zqp (.and (i Zki (n ZaI (n Zat (n ZaB (n ZaH (n Zaz (n Zaw (n ZaW (n Zbv (n ZaA (n Zav .tt))))))))))) (i ZpZ (.and (i Zj7 (n ZrD (n Zo6 (n Zp5 (n (.f2 50 Zim ZpH) (u 19 .bool (i Zrq (.and (i Zp2 (n Zmc (.ff 31))) (i (.f1 2 (q 19)) (n ZaI (n Zat (n ZaB (n ZaH (n Zaz (n Zaw (n ZaW (n Zbv (n ZaA (n Zav .tt))))))))))))))))))) (i ZoG (.and (i ZkN (u 19 .int (i ZfZ (n ZrC (n ZqE (n Zqf (n ZoR (u 20 .amap (u 21 .ints (u 22 .rows (u 23 .int (u 24 .int (u 25 .rows (i ZqJ (i Zqd (i Zp6 (i Zo3 (i ZoH (.and (i ZoQ (n ZbI (n ZbK (n ZbH (n Zbz (n ZbM (n Zp3 (n ZoN (n ZaQ (n ZaL (n ZpW (n ZbL (n Zbx (n ZoI (n ZaM (n Zov (n ZqT (n ZaP (n Zrw .tt))))))))))))))))))) (u 26 .int (i ZoP (n Zq5 (i Zg5 (i ZgK (i ZgU (i Zg8 (i ZgG (i Zg7 (i Zh3 (i Zh7 (i ZhG (n ZqN (.and (i Zk9 (i Zg5 (i ZgK (i ZgU (i Zg8 (i ZgG (i Zg7 (i Zh3 (i Zh7 (i ZhG (n Zqq (n ZoE (n Zrl (n Zpv (u 27 .int (i Zpn (n ZoA (n ZqF (u 28 .int (u 29 .int (i Zpd (i Zro (n ZhV (n Zpo (n Zqr (n ZiG (n ZpV .tt))))))))))))))))))))))))))) (i ZqB (n ZhV (n Zrz (n ZiG (n Zpj .tt)))))))))))))))))))))))))))))))))))))) (i Zpt (n ZbI (n ZbK (n ZbH (n Zbz (n ZbM (n Znt (n ZmO (n ZaQ (n ZaL (n Zq3 (n ZbL (n Zbx (n Zl5 (n ZaM (n Zl2 (n ZlO (n ZaP (n Zoi .tt))))))))))))))))))))))))))))))))))))))))) (i (l (a 2) (a 9)) (n ZaI (n Zat (n ZaB (n ZaH (n Zaz (n Zaw (n (e (k (-1)) ZAT) (n (e z Zs2) (n ZaA (n Zav .tt))))))))))))))))))))))))))))))))))))))))))))))))))))))))))
theorem ZM5 : Zcl Try.prog ZKC 12 17 Zod = ZK8 := by kernel_rfl
theorem ZM7 (S : Sig GG) (hS : JtSig S) : ZR S Try.prog 36 ZxL := by
 refine Zo S (C := ZLB) (fuel := 12) (YV trivial ⟨⟨⟨by decide, Zdd S hS⟩, ⟨by decide, Zdq S hS⟩, trivial⟩, ⟨trivial, trivial, trivial, ⟨by decide, ZBk S hS⟩, trivial, ⟨by decide, ZtF S hS⟩, trivial⟩, trivial⟩ trivial) fun ρ => ?_
 rw [ZLT]
 simp only [ZK0, ZGy, ZCQ, Zie, ZD5, ZHa, ZC1, ZGw, ZIX, ZFD, ZHT, Zx2, ZAO, ZAq, ZBo, ZAF, Zvp, ZAU, ZAb, ZAt, ZjN, Zyl, hS.u545, hS.u546, hS.u552, hS.u558, hS.u560, hS.u562, hS.u565, hS.u566, ZY, ZN0, VC.den, SX.den, Env.upd, ZaN, Yr, beq_iff_eq, ZNS, beq_eq_false_iff_ne, ne_eq, ZNR, ZNQ, Int.reduceToNat, Nat.reduceEqDiff, reduceIte, sB, sC]
 generalize (ρ 3).tR = F
 generalize (ρ 5).tR = R
 generalize (ρ 4).tI = v
 generalize (ρ 1).tI = l
 generalize ZW _ = L
 intro h1 h2 h3 h4 h5 h6 h7 h8 h9
 refine ⟨by omega, by omega, ZH (by rw [List.take_zero]; exact List.not_mem_nil), fun x hx0 hx1 hx2 => ?_⟩
 obtain ⟨n, rfl⟩ := ZNL hx0
 have e1 : ((n : Int) + 1).toNat = n + 1 := by omega
 simp only [e1, ZN0] at hx2 ⊢
 have hx2 : ¬ [v] ∈ F.take n := fun h => by rw [ZF h] at hx2; cases hx2
 have hv0 : 0 <= v := by
  obtain ⟨k, hk, rfl⟩ := h5
  refine h6.2.2 _ ?_
  rw [ZNT, ZNW hk, ZNO]; exact ZOg hk
 refine ⟨fun hlt => ?_, fun hge _ _ _ _ _ _ _ _ _ => ⟨?_, trivial⟩⟩
 ·have hn : n < F.length := by omega
  have hgt : F.getD n [] = F[n] := by rw [ZNT, ZNW hn, ZNO]
  have hm : F.getD n [] ∈ F := by rw [hgt]; exact ZOg hn
  obtain ⟨b, hb, hbl⟩ := h4 _ hm
  have e2 : F.take (n + 1) = F.take n ++ [F.getD n []] := by rw [hgt]; exact (List.take_append_getElem hn).symm
  rw [e2, hb]
  have hb0 : ([b] : List Int).getD 0 0 = b := rfl
  rw [hb0]
  have no : ¬ v = b -> Zp ([v] ∈ F.take n ++ [[b]]) = false := fun hne => ZH fun h => by
   rcases List.mem_append.1 h with h | h
   ·exact hx2 h
   ·rw [ZNM] at h; injection h with h; exact hne h
  refine ⟨fun he => ⟨by omega, by omega, fun _ _ _ _ _ _ _ _ _ => ⟨?_, trivial⟩⟩, fun he => ⟨hbl, by omega, by omega, by omega, by omega, by omega, by omega, no he, trivial⟩⟩
  rw [ZF (by rw [he, <- hb]; exact hm), Za.2 (by omega)]
 ·rw [ZN5 (by omega)] at hx2
  rw [ZH hx2]
set_option maxRecDepth 100000 in
set_option maxHeartbeats 4000000 in
theorem ZAz (S : Sig GG) (hS : JtSig S) : ZR S Try.prog 17 Zod := by
 refine Zo S (C := ZKC) (fuel := 12) (YV ⟨Zm (by decide) (ZKR S hS.jb), Zm (by decide) (ZJ4 S hS), ZDV (by decide) (ZM7 S hS) (by decide) (ZJ5 S hS), trivial⟩ ⟨⟨⟨by decide, ZmS S⟩, ⟨by decide, ZmS S⟩, ⟨by decide, ZE8 S⟩, ⟨by decide, ZKX S hS⟩, trivial, ⟨by decide, ZEL S hS⟩, trivial, trivial, ⟨by decide, Zoj S hS⟩, trivial, ⟨by decide, Zdd S hS⟩, ⟨by decide, ZJ3 S hS⟩, ⟨by decide, ZmS S⟩, ⟨by decide, ZmS S⟩, ⟨by decide, Zoj S hS⟩, ⟨by decide, ZlP S hS⟩, ⟨by decide, Zoj S hS⟩, ⟨by decide, ZlP S hS⟩, ⟨by decide, Zoj S hS⟩, ⟨by decide, ZlP S hS⟩, trivial, ⟨by decide, Zdq S hS⟩, trivial, ⟨by decide, Zdd S hS⟩, ⟨by decide, Zoj S hS⟩, ⟨by decide, ZlP S hS⟩, ⟨by decide, ZmS S⟩, trivial, ⟨by decide, Zdq S hS⟩, ⟨by decide, Zdd S hS⟩, ⟨by decide, Zdq S hS⟩, ⟨by decide, ZlP S hS⟩, trivial, ⟨by decide, ZFe S hS⟩, trivial, ⟨by decide, ZFe S hS⟩, trivial, ⟨by decide, ZKH S hS⟩, trivial⟩, trivial⟩ trivial) fun ρ => ?_
 rw [ZM5]
 simp only [ZK8, Yy, ZD2, ZGz, ZGd, ZF1, ZJu, ZF9, ZHU, ZIE, ZIc, ZeM, Zcd, Zh8, Zmj, ZeT, ZBb, Z5, ZaY, Zhl, Zc9, Zmc, Ym, Zsu, ZwQ, Zjn, Zi5, ZxW, Zf7, ZjP, Zjb, ZxT, Zf1, Zxz, ZfR, ZCB, ZfW, Zsv, ZfP, ZfU, ZeB, ZeV, ZsM, Zjh, ZaI, Zat, ZaB, ZaH, Zaz, Zaw, ZAT, ZaW, Zs2, Zbv, ZaA, Zav, ZzV, ZtV, Ztb, ZfZ, ZzN, Zmd, ZAE, ZAK, Zh5, Zvr, YO, ZbI, ZxP, ZbK, ZbH, Zbz, ZbM, ZxQ, Zr7, Znt, ZmO, ZrM, Zjo, Zv7, Zxi, ZvD, ZwS, ZbL, Zbx, Zb0, Zl5, Zyt, Zz1, ZBs, Zsb, Zw7, Zl2, ZlO, Zy9, Zoi, ZxI, ZAM, Zib, ZjH, ZiC, Zp9, ZhF, ZpN, Zhy, Zkd, ZpP, Zd6, Zqj, Zec, Zls, Zo0, Zky, ZaQ, ZaL, Zpw, Zq6, ZaM, ZaP, ZqO, Zfb, Zfa, Zfw, ZkC, ZkL, ZdZ, Zkf, Zj3, Zll, Zft, Zix, Zo5, ZkS, ZfE, ZlD, ZqI, Zqp, Zki, ZgQ, ZpZ, Zj7, ZpH, ZaO, Zru, Zq9, ZqH, ZrD, Zo6, Zp5, Zrq, Zp2, Zlf, ZoZ, ZpM, Zqk, ZcZ, Zqn, Zle, Zq2, Zqa, ZqW, Zrs, ZpC, ZoB, Zpu, Zqc, ZoG, ZkN, ZrC, ZqE, Zqf, ZoR, ZqJ, Zqd, Zp6, Zo3, ZoH, ZoQ, ZpY, Zlo, Zp3, ZoN, ZpW, ZaV, ZoI, Zov, ZqT, Zrw, ZoP, Zfl, Zq5, Yo, Zqo, Zg5, Zrm, ZgK, ZoW, Zig, Zrt, ZgU, Zoz, ZiE, Zpq, Zg8, Zqi, ZgG, Zqs, Zg7, Zqe, Zh3, Zh7, ZhG, ZqN, Zk9, ZqV, Zqq, ZpK, ZoE, Zrl, Zpv, Zpn, ZoA, Zly, ZqF, Zpd, Zro, Ze7, ZhV, Zpo, Zqr, ZiG, ZoU, ZpV, ZqB, Zrz, Zpj, Zpt, Zq3, Zim, Zk6, Zqv, ZkQ, hS.jb.rf.u511, hS.jb.rf.u523, hS.u540, hS.u541, hS.u542, hS.u543, hS.u544, hS.u545, hS.u546, hS.u547, hS.u548, hS.u549, hS.u550, hS.u551, hS.u552, hS.u553, hS.u554, hS.u555, hS.u556, hS.u557, hS.u558, hS.u559, hS.u560, hS.u561, hS.u562, hS.u563, hS.u564, hS.u565, hS.u566, hS.u568, hS.u569, hS.u570, hS.u571, ZY, ZN0, VC.den, SX.den, Env.upd, ZaN, Yr, beq_iff_eq, ZNS, beq_eq_false_iff_ne, ne_eq, ZNR, ZNQ, Int.reduceToNat, Nat.reduceEqDiff, reduceIte, sB, sC]
 generalize hX : (ρ 4).tR.take (ρ 2).tI.toNat = X
 intro h1
 intro h2
 intro h3
 intro h4
 have hlX : X.length = (ρ 2).tI.toNat := by rw [<- hX, ZNV]; omega
 refine ⟨?_, ?_⟩
 ·skip
  intro h6
  refine ⟨?_, ?_⟩
  ·unfold ZcU; rw [if_pos (by omega)]
  trivial
 ·skip
  intro h10
  intro v11
  intro h12
  refine ⟨?_, ?_⟩
  ·skip
   intro h14
   refine ⟨?_, ?_⟩
   ·have hq : ZkJ X X.length = false := by
     rw [<- hX, Zt7 (by omega)]; rw [h14] at h12; cases hc : ZkJ (ρ 4).tR (ρ 2).tI.toNat
     ·rfl
     ·rw [hc] at h12; cases h12
    unfold ZcU; rw [if_neg (by omega), hq]; rfl
   trivial
  ·skip
   intro h18
   have hck : ZcU X = 0 := by
    have hq : ZkJ X X.length = true := by
     rw [<- hX, Zt7 (by omega)]; rw [h18] at h12; cases hc : ZkJ (ρ 4).tR (ρ 2).tI.toNat
     ·rw [hc] at h12; cases h12
     ·rfl
    unfold ZcU; rw [if_neg (by omega), hq]; rfl
   intro v19
   intro h20
   intro v21
   intro h22
   refine ⟨?_, ?_⟩
   ·show ((0 : Nat) : Int) <= 0; omega
   refine ⟨?_, ?_⟩
   ·exact .inr rfl
   refine ⟨?_, ?_⟩
   ·show ((0 : Nat) : Int) <= 0; omega
   refine ⟨?_, ?_⟩
   ·exact .inr rfl
   refine ⟨?_, ?_⟩
   ·exact List.Perm.nil
   refine ⟨?_, ?_⟩
   ·first | omega | trivial | (with_reducible assumption)
   refine ⟨?_, ?_⟩
   ·first | omega | trivial | (with_reducible assumption)
   refine ⟨?_, ?_⟩
   ·first | omega | trivial | (with_reducible assumption)
   refine ⟨?_, ?_⟩
   ·first | omega | trivial | (with_reducible assumption)
   refine ⟨?_, ?_⟩
   ·first | omega | trivial | (with_reducible assumption)
   refine ⟨?_, ?_⟩
   ·first | omega | trivial | (with_reducible assumption)
   refine ⟨?_, ?_⟩
   ·first | omega | trivial | (with_reducible assumption)
   refine ⟨?_, ?_⟩
   ·first | omega | trivial | (with_reducible assumption)
   intro v36
   intro v37
   intro v38
   intro v39
   intro v40
   intro v41
   intro v42
   intro v43
   intro v44
   intro h45
   intro h46
   intro h47
   intro h48
   intro h49
   intro h50
   intro h51
   intro h52
   intro h53
   intro h54
   intro h55
   obtain ⟨n, rfl⟩ := ZNL h45
   have e1 : ((n : Int) + 1).toNat = n + 1 := by omega
   simp only [e1, ZN0] at h47 h48 h49 h50 h53 h54 h55 ⊢
   obtain ⟨B, hB⟩ : ∃ B, Yj X n = B := ⟨_, rfl⟩
   have hw := ZhN X n
   simp only [hB] at h47 h48 h49 h50 h53 h54 h55 hw ⊢
   refine ⟨?_, ?_⟩
   ·skip
    intro h57
    intro h58
    have hnX : n < X.length := by omega
    have he : (ρ 4).tR.getD n [] = xa X n := by rw [<- hX]; exact (Zdt (by omega)).symm
    have hsu := ZnO (x := X) (n := n) (by rw [hB]; exact h54)
    rw [hB] at hsu
    have htold := fun w => ZH1 (w := w) hB h54 hnX
    obtain ⟨x, hx⟩ : ∃ x, xa X n = x := ⟨_, rfl⟩
    simp only [he, hx] at hsu htold ⊢
    obtain ⟨J, hJ⟩ : ∃ J, ixL (x.getD 1 0) B.txs = J := ⟨_, rfl⟩
    have hj : ixL (xw x) B.txs = J := hJ
    have hA := Zcq (w := x.getD 1 0) h58.1 (-1)
    simp only [hJ, Zdf] at hA ⊢
    have hol := hw.ol
    have hkl := hw.kl
    have hlt := hw.lt
    have hfl := hw.fl
    have hlr : ∀ (R : List (List Int)) ks, (ZbR R ks).length = ks.length := fun R ks => by unfold ZbR; rw [ZN3]
    have hFl : v44.length = B.fal.length := by have := h53.length_eq; rw [hlr] at this; exact this
    simp only [hlr] at h47 h48 ⊢
    have hfi : ∀ k ∈ B.fal, k < v37.length := fun k hk => by have := hw.fi k hk; have := h58.1; omega
    have h560 : ∀ r ∈ v44, ∃ b', r = [b'] /\ Zq0 v37 b' := fun r hr => ZnC hfi r (h53.mem_iff.1 hr)
    refine ⟨?_, ?_⟩
    ·first | omega | trivial | (with_reducible assumption)
    intro v60
    intro h61
    refine ⟨?_, ?_⟩
    ·skip
     intro h63
     have hJl : J < B.txs.length := by
      rcases ZNN J B.txs.length with q | q
      ·exact q
      ·rw [hA.1, if_neg (by omega)] at h63; omega
     have hT := hA.1
     rw [if_pos hJl] at hT
     have hJR : J < v37.length := by have := h58.1; omega
     have hrI := Zbg h58.2.1 hJR
     simp only [hT, hrI, Zdf, ZN0] at h63 ⊢
     refine ⟨?_, ?_⟩
     ·first | omega | trivial | (with_reducible assumption)
     refine ⟨?_, ?_⟩
     ·first | omega | trivial | (with_reducible assumption)
     intro h66
     intro h67
     intro h68
     intro h69
     intro h70
     intro h71
     intro h72
     refine ⟨?_, ?_⟩
     ·skip
      intro h74
      refine ⟨?_, ?_⟩
      ·first | omega | trivial | (with_reducible assumption)
      refine ⟨?_, ?_⟩
      ·skip
       intro h77
       refine ⟨?_, ?_⟩
       ·skip
        intro h79
        have hF := htold 1 (st1a hj h77 hJl)
        refine ⟨?_, ?_⟩
        ·first | (with_reducible rfl) | (with_reducible exact hck.symm) | (rw [hF]; done) | (rw [hF]; with_reducible exact h54.symm) | (rw [hF]; with_reducible exact h55.symm) | (rw [hF]; rfl) | (rw [Za.2 h22]; rfl) | trivial
        refine ⟨?_, ?_⟩
        ·first | (with_reducible rfl) | (with_reducible exact hck.symm) | (rw [hF]; done) | (rw [hF]; with_reducible exact h54.symm) | (rw [hF]; with_reducible exact h55.symm) | (rw [hF]; rfl) | (rw [Za.2 h22]; rfl) | trivial
        refine ⟨?_, ?_⟩
        ·first | (with_reducible rfl) | (with_reducible exact hck.symm) | (rw [hF]; done) | (rw [hF]; with_reducible exact h54.symm) | (rw [hF]; with_reducible exact h55.symm) | (rw [hF]; rfl) | (rw [Za.2 h22]; rfl) | trivial
        refine ⟨?_, ?_⟩
        ·first | (with_reducible rfl) | (with_reducible exact hck.symm) | (rw [hF]; done) | (rw [hF]; with_reducible exact h54.symm) | (rw [hF]; with_reducible exact h55.symm) | (rw [hF]; rfl) | (rw [Za.2 h22]; rfl) | trivial
        refine ⟨?_, ?_⟩
        ·first | (with_reducible rfl) | (with_reducible exact hck.symm) | (rw [hF]; done) | (rw [hF]; with_reducible exact h54.symm) | (rw [hF]; with_reducible exact h55.symm) | (rw [hF]; rfl) | (rw [Za.2 h22]; rfl) | trivial
        refine ⟨?_, ?_⟩
        ·first | (with_reducible rfl) | (with_reducible exact hck.symm) | (rw [hF]; done) | (rw [hF]; with_reducible exact h54.symm) | (rw [hF]; with_reducible exact h55.symm) | (rw [hF]; rfl) | (rw [Za.2 h22]; rfl) | trivial
        refine ⟨?_, ?_⟩
        ·first | (with_reducible rfl) | (with_reducible exact hck.symm) | (rw [hF]; done) | (rw [hF]; with_reducible exact h54.symm) | (rw [hF]; with_reducible exact h55.symm) | (rw [hF]; rfl) | (rw [Za.2 h22]; rfl) | trivial
        refine ⟨?_, ?_⟩
        ·first | (with_reducible rfl) | (with_reducible exact hck.symm) | (rw [hF]; done) | (rw [hF]; with_reducible exact h54.symm) | (rw [hF]; with_reducible exact h55.symm) | (rw [hF]; rfl) | (rw [Za.2 h22]; rfl) | trivial
        refine ⟨?_, ?_⟩
        ·first | (with_reducible rfl) | (with_reducible exact hck.symm) | (rw [hF]; done) | (rw [hF]; with_reducible exact h54.symm) | (rw [hF]; with_reducible exact h55.symm) | (rw [hF]; rfl) | (rw [Za.2 h22]; rfl) | trivial
        refine ⟨?_, ?_⟩
        ·first | (with_reducible rfl) | (with_reducible exact hck.symm) | (rw [hF]; done) | (rw [hF]; with_reducible exact h54.symm) | (rw [hF]; with_reducible exact h55.symm) | (rw [hF]; rfl) | (rw [Za.2 h22]; rfl) | trivial
        trivial
       ·skip
        trivial
      ·skip
       intro h94
       refine ⟨?_, ?_⟩
       ·skip
        intro h96
        refine ⟨?_, ?_⟩
        ·skip
         intro h98
         have hst := hsu.trans (st2a hj h96 h98)
         intro v99
         intro h100
         refine ⟨?_, ?_⟩
         ·first | omega | trivial | (with_reducible assumption)
         refine ⟨?_, ?_⟩
         ·first | omega | trivial | (with_reducible assumption)
         intro v103
         intro v104
         intro h105
         intro h106
         refine ⟨?_, ?_⟩
         ·omega
         refine ⟨?_, ?_⟩
         ·omega
         refine ⟨?_, ?_⟩
         ·omega
         refine ⟨?_, ?_⟩
         ·omega
         refine ⟨?_, ?_⟩
         ·omega
         refine ⟨?_, ?_⟩
         ·first | (simp only [hst, hlr, ZNY, ZNH]; first | omega | assumption | done) | (simp only [hst, hlr, ZNY, ZNH]; done)
         refine ⟨?_, ?_⟩
         ·first | (simp only [hst, hlr, ZNY, ZNH]; first | omega | assumption | done) | (simp only [hst, hlr, ZNY, ZNH]; done)
         refine ⟨?_, ?_⟩
         ·first | (simp only [hst, hlr, ZNY, ZNH]; first | omega | assumption | done) | (simp only [hst, hlr, ZNY, ZNH]; done)
         refine ⟨?_, ?_⟩
         ·first | (simp only [hst, hlr, ZNY, ZNH]; first | omega | assumption | done) | (simp only [hst, hlr, ZNY, ZNH]; done)
         refine ⟨?_, ?_⟩
         ·first | (rw [hst]; exact List.Perm.nil)
         refine ⟨?_, ?_⟩
         ·first | (rw [hst]; exact h54)
         refine ⟨?_, ?_⟩
         ·first | (rw [hst]; exact h55)
         refine ⟨?_, ?_⟩
         ·first | (rw [hst]; done) | (rw [hst]; rfl)
         refine ⟨?_, ?_⟩
         ·first | (rw [hst]; done) | (rw [hst]; rfl)
         refine ⟨?_, ?_⟩
         ·first | (rw [hst]; done) | (rw [hst]; rfl)
         refine ⟨?_, ?_⟩
         ·first | (rw [hst, Zas hJR hJl hwho]; done) | (rw [hst]; done)
         refine ⟨?_, ?_⟩
         ·first | (simp only [hst, hlr, ZNY, ZNH]; first | omega | assumption | done) | (simp only [hst, hlr, ZNY, ZNH]; done)
         refine ⟨?_, ?_⟩
         ·first | (simp only [hst, hlr, ZNY, ZNH]; first | omega | assumption | done) | (simp only [hst, hlr, ZNY, ZNH]; done)
         trivial
        ·skip
         intro h127
         refine ⟨?_, ?_⟩
         ·skip
          intro h129
          have hF := htold 1 (st2c hj h96 h127 (fun _ => h129))
          refine ⟨?_, ?_⟩
          ·first | (with_reducible rfl) | (with_reducible exact hck.symm) | (rw [hF]; done) | (rw [hF]; with_reducible exact h54.symm) | (rw [hF]; with_reducible exact h55.symm) | (rw [hF]; rfl) | (rw [Za.2 h22]; rfl) | trivial
          refine ⟨?_, ?_⟩
          ·first | (with_reducible rfl) | (with_reducible exact hck.symm) | (rw [hF]; done) | (rw [hF]; with_reducible exact h54.symm) | (rw [hF]; with_reducible exact h55.symm) | (rw [hF]; rfl) | (rw [Za.2 h22]; rfl) | trivial
          refine ⟨?_, ?_⟩
          ·first | (with_reducible rfl) | (with_reducible exact hck.symm) | (rw [hF]; done) | (rw [hF]; with_reducible exact h54.symm) | (rw [hF]; with_reducible exact h55.symm) | (rw [hF]; rfl) | (rw [Za.2 h22]; rfl) | trivial
          refine ⟨?_, ?_⟩
          ·first | (with_reducible rfl) | (with_reducible exact hck.symm) | (rw [hF]; done) | (rw [hF]; with_reducible exact h54.symm) | (rw [hF]; with_reducible exact h55.symm) | (rw [hF]; rfl) | (rw [Za.2 h22]; rfl) | trivial
          refine ⟨?_, ?_⟩
          ·first | (with_reducible rfl) | (with_reducible exact hck.symm) | (rw [hF]; done) | (rw [hF]; with_reducible exact h54.symm) | (rw [hF]; with_reducible exact h55.symm) | (rw [hF]; rfl) | (rw [Za.2 h22]; rfl) | trivial
          refine ⟨?_, ?_⟩
          ·first | (with_reducible rfl) | (with_reducible exact hck.symm) | (rw [hF]; done) | (rw [hF]; with_reducible exact h54.symm) | (rw [hF]; with_reducible exact h55.symm) | (rw [hF]; rfl) | (rw [Za.2 h22]; rfl) | trivial
          refine ⟨?_, ?_⟩
          ·first | (with_reducible rfl) | (with_reducible exact hck.symm) | (rw [hF]; done) | (rw [hF]; with_reducible exact h54.symm) | (rw [hF]; with_reducible exact h55.symm) | (rw [hF]; rfl) | (rw [Za.2 h22]; rfl) | trivial
          refine ⟨?_, ?_⟩
          ·first | (with_reducible rfl) | (with_reducible exact hck.symm) | (rw [hF]; done) | (rw [hF]; with_reducible exact h54.symm) | (rw [hF]; with_reducible exact h55.symm) | (rw [hF]; rfl) | (rw [Za.2 h22]; rfl) | trivial
          refine ⟨?_, ?_⟩
          ·first | (with_reducible rfl) | (with_reducible exact hck.symm) | (rw [hF]; done) | (rw [hF]; with_reducible exact h54.symm) | (rw [hF]; with_reducible exact h55.symm) | (rw [hF]; rfl) | (rw [Za.2 h22]; rfl) | trivial
          refine ⟨?_, ?_⟩
          ·first | (with_reducible rfl) | (with_reducible exact hck.symm) | (rw [hF]; done) | (rw [hF]; with_reducible exact h54.symm) | (rw [hF]; with_reducible exact h55.symm) | (rw [hF]; rfl) | (rw [Za.2 h22]; rfl) | trivial
          trivial
         ·skip
          intro h142
          have hst := hsu.trans (st2b hj h96 h127 hJl h142)
          have hwho := (ZBU (B.txs.getD J tx0) n x).2.2
          intro h143
          intro h144
          intro h145
          intro h146
          intro h147
          intro h148
          intro h149
          refine ⟨?_, ?_⟩
          ·have := hw.at hJl; omega
          refine ⟨?_, ?_⟩
          ·have := hw.at hJl; omega
          intro v152
          intro v153
          intro v154
          intro v155
          intro h156
          intro h157
          intro h158
          intro h159
          refine ⟨?_, ?_⟩
          ·first | omega | trivial | (with_reducible assumption)
          refine ⟨?_, ?_⟩
          ·first | omega | trivial | (with_reducible assumption)
          refine ⟨?_, ?_⟩
          ·first | omega | trivial | (with_reducible assumption)
          refine ⟨?_, ?_⟩
          ·first | omega | trivial | (with_reducible assumption)
          refine ⟨?_, ?_⟩
          ·omega
          refine ⟨?_, ?_⟩
          ·omega
          refine ⟨?_, ?_⟩
          ·omega
          refine ⟨?_, ?_⟩
          ·omega
          refine ⟨?_, ?_⟩
          ·omega
          refine ⟨?_, ?_⟩
          ·first | (simp only [hst, Zk hJR, hlr, ZNY, ZNH]; first | omega | assumption | done) | (simp only [hst, Zk hJR, hlr, ZNY, ZNH]; done)
          refine ⟨?_, ?_⟩
          ·first | (simp only [hst, Zk hJR, hlr, ZNY, ZNH]; first | omega | assumption | done) | (simp only [hst, Zk hJR, hlr, ZNY, ZNH]; done)
          refine ⟨?_, ?_⟩
          ·first | (simp only [hst, hlr, ZNY, ZNH]; first | omega | assumption | done) | (simp only [hst, hlr, ZNY, ZNH]; done)
          refine ⟨?_, ?_⟩
          ·first | (simp only [hst, hlr, ZNY, ZNH]; first | omega | assumption | done) | (simp only [hst, hlr, ZNY, ZNH]; done)
          refine ⟨?_, ?_⟩
          ·first | (rw [hst]; exact List.Perm.nil)
          refine ⟨?_, ?_⟩
          ·first | (rw [hst]; exact h54)
          refine ⟨?_, ?_⟩
          ·first | (rw [hst]; exact h55)
          refine ⟨?_, ?_⟩
          ·rw [hst, Zgc hJl]; exact congrArg (fun q => U.g (GG.tx (B.txs.set J q))) (rd_eq (B.txs.getD J tx0) n x).symm
          refine ⟨?_, ?_⟩
          ·first | (rw [hst]; done) | (rw [hst]; rfl)
          refine ⟨?_, ?_⟩
          ·first | (rw [hst, Zk hJR]; done) | (rw [hst, Zk hJR]; rfl)
          refine ⟨?_, ?_⟩
          ·first | (rw [hst, Zas hJR hJl hwho]; done) | (rw [hst]; done)
          refine ⟨?_, ?_⟩
          ·first | (simp only [hst, hlr, ZNY, ZNH]; first | omega | assumption | done) | (simp only [hst, hlr, ZNY, ZNH]; done)
          refine ⟨?_, ?_⟩
          ·first | (simp only [hst, Zk hJR, hlr, ZNY, ZNH]; first | omega | assumption | done) | (simp only [hst, Zk hJR, hlr, ZNY, ZNH]; done)
          trivial
       ·skip
        intro h184
        refine ⟨?_, ?_⟩
        ·skip
         intro h186
         refine ⟨?_, ?_⟩
         ·skip
          intro h188
          refine ⟨?_, ?_⟩
          ·skip
           intro h190
           have hF := htold 1 (ZMI hj (.inl h186) (fun _ => h190))
           refine ⟨?_, ?_⟩
           ·first | (with_reducible rfl) | (with_reducible exact hck.symm) | (rw [hF]; done) | (rw [hF]; with_reducible exact h54.symm) | (rw [hF]; with_reducible exact h55.symm) | (rw [hF]; rfl) | (rw [Za.2 h22]; rfl) | trivial
           refine ⟨?_, ?_⟩
           ·first | (with_reducible rfl) | (with_reducible exact hck.symm) | (rw [hF]; done) | (rw [hF]; with_reducible exact h54.symm) | (rw [hF]; with_reducible exact h55.symm) | (rw [hF]; rfl) | (rw [Za.2 h22]; rfl) | trivial
           refine ⟨?_, ?_⟩
           ·first | (with_reducible rfl) | (with_reducible exact hck.symm) | (rw [hF]; done) | (rw [hF]; with_reducible exact h54.symm) | (rw [hF]; with_reducible exact h55.symm) | (rw [hF]; rfl) | (rw [Za.2 h22]; rfl) | trivial
           refine ⟨?_, ?_⟩
           ·first | (with_reducible rfl) | (with_reducible exact hck.symm) | (rw [hF]; done) | (rw [hF]; with_reducible exact h54.symm) | (rw [hF]; with_reducible exact h55.symm) | (rw [hF]; rfl) | (rw [Za.2 h22]; rfl) | trivial
           refine ⟨?_, ?_⟩
           ·first | (with_reducible rfl) | (with_reducible exact hck.symm) | (rw [hF]; done) | (rw [hF]; with_reducible exact h54.symm) | (rw [hF]; with_reducible exact h55.symm) | (rw [hF]; rfl) | (rw [Za.2 h22]; rfl) | trivial
           refine ⟨?_, ?_⟩
           ·first | (with_reducible rfl) | (with_reducible exact hck.symm) | (rw [hF]; done) | (rw [hF]; with_reducible exact h54.symm) | (rw [hF]; with_reducible exact h55.symm) | (rw [hF]; rfl) | (rw [Za.2 h22]; rfl) | trivial
           refine ⟨?_, ?_⟩
           ·first | (with_reducible rfl) | (with_reducible exact hck.symm) | (rw [hF]; done) | (rw [hF]; with_reducible exact h54.symm) | (rw [hF]; with_reducible exact h55.symm) | (rw [hF]; rfl) | (rw [Za.2 h22]; rfl) | trivial
           refine ⟨?_, ?_⟩
           ·first | (with_reducible rfl) | (with_reducible exact hck.symm) | (rw [hF]; done) | (rw [hF]; with_reducible exact h54.symm) | (rw [hF]; with_reducible exact h55.symm) | (rw [hF]; rfl) | (rw [Za.2 h22]; rfl) | trivial
           refine ⟨?_, ?_⟩
           ·first | (with_reducible rfl) | (with_reducible exact hck.symm) | (rw [hF]; done) | (rw [hF]; with_reducible exact h54.symm) | (rw [hF]; with_reducible exact h55.symm) | (rw [hF]; rfl) | (rw [Za.2 h22]; rfl) | trivial
           refine ⟨?_, ?_⟩
           ·first | (with_reducible rfl) | (with_reducible exact hck.symm) | (rw [hF]; done) | (rw [hF]; with_reducible exact h54.symm) | (rw [hF]; with_reducible exact h55.symm) | (rw [hF]; rfl) | (rw [Za.2 h22]; rfl) | trivial
           trivial
          ·skip
           intro h203
           have hst := hsu.trans (st3a hj (.inl h186) hJl h203)
           have hwho : ({ B.txs.getD J tx0 with ch := YL (B.txs.getD J tx0).ch (kc x) ((Zj (YX x) : Nat) * 2 + b01 (xk x == 4)) } : Tx).who = (B.txs.getD J tx0).who := rfl
           have hxx := h203
           intro h204
           intro h205
           intro h206
           intro h207
           intro h208
           intro h209
           intro h210
           refine ⟨?_, ?_⟩
           ·first | omega | trivial | (with_reducible assumption)
           refine ⟨?_, ?_⟩
           ·first | omega | trivial | (with_reducible assumption)
           refine ⟨?_, ?_⟩
           ·first | omega | trivial | (with_reducible assumption)
           refine ⟨?_, ?_⟩
           ·first | omega | trivial | (with_reducible assumption)
           refine ⟨?_, ?_⟩
           ·omega
           refine ⟨?_, ?_⟩
           ·omega
           refine ⟨?_, ?_⟩
           ·omega
           refine ⟨?_, ?_⟩
           ·omega
           refine ⟨?_, ?_⟩
           ·omega
           refine ⟨?_, ?_⟩
           ·first | (simp only [hst, Zk hJR, hlr, ZNY, ZNH]; first | omega | assumption | done) | (simp only [hst, Zk hJR, hlr, ZNY, ZNH]; done)
           refine ⟨?_, ?_⟩
           ·first | (simp only [hst, Zk hJR, hlr, ZNY, ZNH]; first | omega | assumption | done) | (simp only [hst, Zk hJR, hlr, ZNY, ZNH]; done)
           refine ⟨?_, ?_⟩
           ·first | (simp only [hst, hlr, ZNY, ZNH]; first | omega | assumption | done) | (simp only [hst, hlr, ZNY, ZNH]; done)
           refine ⟨?_, ?_⟩
           ·first | (simp only [hst, hlr, ZNY, ZNH]; first | omega | assumption | done) | (simp only [hst, hlr, ZNY, ZNH]; done)
           refine ⟨?_, ?_⟩
           ·first | (rw [hst, Zk hJR]; exact h53)
           refine ⟨?_, ?_⟩
           ·first | (rw [hst]; exact h54)
           refine ⟨?_, ?_⟩
           ·first | (rw [hst]; exact h55)
           refine ⟨?_, ?_⟩
           ·rw [hst, Zgc hJl]; exact congrArg (fun q => U.g (GG.tx (B.txs.set J q))) (ZKp (B.txs.getD J tx0) _).symm
           refine ⟨?_, ?_⟩
           ·first | (rw [hst]; done) | (rw [hst]; rfl)
           refine ⟨?_, ?_⟩
           ·first | (rw [hst, Zk hJR]; done) | (rw [hst, Zk hJR]; rfl)
           refine ⟨?_, ?_⟩
           ·first | (rw [hst, Zas hJR hJl hwho]; done) | (rw [hst]; done)
           refine ⟨?_, ?_⟩
           ·first | (simp only [hst, hlr, ZNY, ZNH]; first | omega | assumption | done) | (simp only [hst, hlr, ZNY, ZNH]; done)
           refine ⟨?_, ?_⟩
           ·first | (simp only [hst, Zk hJR, hlr, ZNY, ZNH]; first | omega | assumption | done) | (simp only [hst, Zk hJR, hlr, ZNY, ZNH]; done)
           trivial
         ·skip
          trivial
        ·skip
         intro h237
         refine ⟨?_, ?_⟩
         ·skip
          intro h239
          refine ⟨?_, ?_⟩
          ·skip
           intro h241
           have hF := htold 1 (ZMI hj (.inr h239) (fun _ => h241))
           refine ⟨?_, ?_⟩
           ·first | (with_reducible rfl) | (with_reducible exact hck.symm) | (rw [hF]; done) | (rw [hF]; with_reducible exact h54.symm) | (rw [hF]; with_reducible exact h55.symm) | (rw [hF]; rfl) | (rw [Za.2 h22]; rfl) | trivial
           refine ⟨?_, ?_⟩
           ·first | (with_reducible rfl) | (with_reducible exact hck.symm) | (rw [hF]; done) | (rw [hF]; with_reducible exact h54.symm) | (rw [hF]; with_reducible exact h55.symm) | (rw [hF]; rfl) | (rw [Za.2 h22]; rfl) | trivial
           refine ⟨?_, ?_⟩
           ·first | (with_reducible rfl) | (with_reducible exact hck.symm) | (rw [hF]; done) | (rw [hF]; with_reducible exact h54.symm) | (rw [hF]; with_reducible exact h55.symm) | (rw [hF]; rfl) | (rw [Za.2 h22]; rfl) | trivial
           refine ⟨?_, ?_⟩
           ·first | (with_reducible rfl) | (with_reducible exact hck.symm) | (rw [hF]; done) | (rw [hF]; with_reducible exact h54.symm) | (rw [hF]; with_reducible exact h55.symm) | (rw [hF]; rfl) | (rw [Za.2 h22]; rfl) | trivial
           refine ⟨?_, ?_⟩
           ·first | (with_reducible rfl) | (with_reducible exact hck.symm) | (rw [hF]; done) | (rw [hF]; with_reducible exact h54.symm) | (rw [hF]; with_reducible exact h55.symm) | (rw [hF]; rfl) | (rw [Za.2 h22]; rfl) | trivial
           refine ⟨?_, ?_⟩
           ·first | (with_reducible rfl) | (with_reducible exact hck.symm) | (rw [hF]; done) | (rw [hF]; with_reducible exact h54.symm) | (rw [hF]; with_reducible exact h55.symm) | (rw [hF]; rfl) | (rw [Za.2 h22]; rfl) | trivial
           refine ⟨?_, ?_⟩
           ·first | (with_reducible rfl) | (with_reducible exact hck.symm) | (rw [hF]; done) | (rw [hF]; with_reducible exact h54.symm) | (rw [hF]; with_reducible exact h55.symm) | (rw [hF]; rfl) | (rw [Za.2 h22]; rfl) | trivial
           refine ⟨?_, ?_⟩
           ·first | (with_reducible rfl) | (with_reducible exact hck.symm) | (rw [hF]; done) | (rw [hF]; with_reducible exact h54.symm) | (rw [hF]; with_reducible exact h55.symm) | (rw [hF]; rfl) | (rw [Za.2 h22]; rfl) | trivial
           refine ⟨?_, ?_⟩
           ·first | (with_reducible rfl) | (with_reducible exact hck.symm) | (rw [hF]; done) | (rw [hF]; with_reducible exact h54.symm) | (rw [hF]; with_reducible exact h55.symm) | (rw [hF]; rfl) | (rw [Za.2 h22]; rfl) | trivial
           refine ⟨?_, ?_⟩
           ·first | (with_reducible rfl) | (with_reducible exact hck.symm) | (rw [hF]; done) | (rw [hF]; with_reducible exact h54.symm) | (rw [hF]; with_reducible exact h55.symm) | (rw [hF]; rfl) | (rw [Za.2 h22]; rfl) | trivial
           trivial
          ·skip
           intro h254
           have hst := hsu.trans (st3a hj (.inr h239) hJl h254)
           have hwho : ({ B.txs.getD J tx0 with ch := YL (B.txs.getD J tx0).ch (kc x) ((Zj (YX x) : Nat) * 2 + b01 (xk x == 4)) } : Tx).who = (B.txs.getD J tx0).who := rfl
           have hxx := h254
           intro h255
           intro h256
           intro h257
           intro h258
           intro h259
           intro h260
           intro h261
           refine ⟨?_, ?_⟩
           ·first | omega | trivial | (with_reducible assumption)
           refine ⟨?_, ?_⟩
           ·first | omega | trivial | (with_reducible assumption)
           refine ⟨?_, ?_⟩
           ·first | omega | trivial | (with_reducible assumption)
           refine ⟨?_, ?_⟩
           ·first | omega | trivial | (with_reducible assumption)
           refine ⟨?_, ?_⟩
           ·omega
           refine ⟨?_, ?_⟩
           ·omega
           refine ⟨?_, ?_⟩
           ·omega
           refine ⟨?_, ?_⟩
           ·omega
           refine ⟨?_, ?_⟩
           ·omega
           refine ⟨?_, ?_⟩
           ·first | (simp only [hst, Zk hJR, hlr, ZNY, ZNH]; first | omega | assumption | done) | (simp only [hst, Zk hJR, hlr, ZNY, ZNH]; done)
           refine ⟨?_, ?_⟩
           ·first | (simp only [hst, Zk hJR, hlr, ZNY, ZNH]; first | omega | assumption | done) | (simp only [hst, Zk hJR, hlr, ZNY, ZNH]; done)
           refine ⟨?_, ?_⟩
           ·first | (simp only [hst, hlr, ZNY, ZNH]; first | omega | assumption | done) | (simp only [hst, hlr, ZNY, ZNH]; done)
           refine ⟨?_, ?_⟩
           ·first | (simp only [hst, hlr, ZNY, ZNH]; first | omega | assumption | done) | (simp only [hst, hlr, ZNY, ZNH]; done)
           refine ⟨?_, ?_⟩
           ·first | (rw [hst, Zk hJR]; exact h53)
           refine ⟨?_, ?_⟩
           ·first | (rw [hst]; exact h54)
           refine ⟨?_, ?_⟩
           ·first | (rw [hst]; exact h55)
           refine ⟨?_, ?_⟩
           ·rw [hst, Zgc hJl]; exact congrArg (fun q => U.g (GG.tx (B.txs.set J q))) (ZKp (B.txs.getD J tx0) _).symm
           refine ⟨?_, ?_⟩
           ·first | (rw [hst]; done) | (rw [hst]; rfl)
           refine ⟨?_, ?_⟩
           ·first | (rw [hst, Zk hJR]; done) | (rw [hst, Zk hJR]; rfl)
           refine ⟨?_, ?_⟩
           ·first | (rw [hst, Zas hJR hJl hwho]; done) | (rw [hst]; done)
           refine ⟨?_, ?_⟩
           ·first | (simp only [hst, hlr, ZNY, ZNH]; first | omega | assumption | done) | (simp only [hst, hlr, ZNY, ZNH]; done)
           refine ⟨?_, ?_⟩
           ·first | (simp only [hst, Zk hJR, hlr, ZNY, ZNH]; first | omega | assumption | done) | (simp only [hst, Zk hJR, hlr, ZNY, ZNH]; done)
           trivial
         ·skip
          intro h286
          refine ⟨?_, ?_⟩
          ·skip
           intro h288
           refine ⟨?_, ?_⟩
           ·skip
            intro h290
            have hF := htold 1 (st6b hj h288 (fun _ => h290))
            refine ⟨?_, ?_⟩
            ·first | (with_reducible rfl) | (with_reducible exact hck.symm) | (rw [hF]; done) | (rw [hF]; with_reducible exact h54.symm) | (rw [hF]; with_reducible exact h55.symm) | (rw [hF]; rfl) | (rw [Za.2 h22]; rfl) | trivial
            refine ⟨?_, ?_⟩
            ·first | (with_reducible rfl) | (with_reducible exact hck.symm) | (rw [hF]; done) | (rw [hF]; with_reducible exact h54.symm) | (rw [hF]; with_reducible exact h55.symm) | (rw [hF]; rfl) | (rw [Za.2 h22]; rfl) | trivial
            refine ⟨?_, ?_⟩
            ·first | (with_reducible rfl) | (with_reducible exact hck.symm) | (rw [hF]; done) | (rw [hF]; with_reducible exact h54.symm) | (rw [hF]; with_reducible exact h55.symm) | (rw [hF]; rfl) | (rw [Za.2 h22]; rfl) | trivial
            refine ⟨?_, ?_⟩
            ·first | (with_reducible rfl) | (with_reducible exact hck.symm) | (rw [hF]; done) | (rw [hF]; with_reducible exact h54.symm) | (rw [hF]; with_reducible exact h55.symm) | (rw [hF]; rfl) | (rw [Za.2 h22]; rfl) | trivial
            refine ⟨?_, ?_⟩
            ·first | (with_reducible rfl) | (with_reducible exact hck.symm) | (rw [hF]; done) | (rw [hF]; with_reducible exact h54.symm) | (rw [hF]; with_reducible exact h55.symm) | (rw [hF]; rfl) | (rw [Za.2 h22]; rfl) | trivial
            refine ⟨?_, ?_⟩
            ·first | (with_reducible rfl) | (with_reducible exact hck.symm) | (rw [hF]; done) | (rw [hF]; with_reducible exact h54.symm) | (rw [hF]; with_reducible exact h55.symm) | (rw [hF]; rfl) | (rw [Za.2 h22]; rfl) | trivial
            refine ⟨?_, ?_⟩
            ·first | (with_reducible rfl) | (with_reducible exact hck.symm) | (rw [hF]; done) | (rw [hF]; with_reducible exact h54.symm) | (rw [hF]; with_reducible exact h55.symm) | (rw [hF]; rfl) | (rw [Za.2 h22]; rfl) | trivial
            refine ⟨?_, ?_⟩
            ·first | (with_reducible rfl) | (with_reducible exact hck.symm) | (rw [hF]; done) | (rw [hF]; with_reducible exact h54.symm) | (rw [hF]; with_reducible exact h55.symm) | (rw [hF]; rfl) | (rw [Za.2 h22]; rfl) | trivial
            refine ⟨?_, ?_⟩
            ·first | (with_reducible rfl) | (with_reducible exact hck.symm) | (rw [hF]; done) | (rw [hF]; with_reducible exact h54.symm) | (rw [hF]; with_reducible exact h55.symm) | (rw [hF]; rfl) | (rw [Za.2 h22]; rfl) | trivial
            refine ⟨?_, ?_⟩
            ·first | (with_reducible rfl) | (with_reducible exact hck.symm) | (rw [hF]; done) | (rw [hF]; with_reducible exact h54.symm) | (rw [hF]; with_reducible exact h55.symm) | (rw [hF]; rfl) | (rw [Za.2 h22]; rfl) | trivial
            trivial
           ·skip
            intro h303
            have hst := hsu.trans (st6a hj h288 hJl h303)
            have hwho : ({ B.txs.getD J tx0 with opn := false } : Tx).who = (B.txs.getD J tx0).who := rfl
            have hxx := h303
            intro h304
            intro h305
            intro h306
            intro h307
            intro h308
            intro h309
            intro h310
            refine ⟨?_, ?_⟩
            ·first | omega | trivial | (with_reducible assumption)
            refine ⟨?_, ?_⟩
            ·first | omega | trivial | (with_reducible assumption)
            refine ⟨?_, ?_⟩
            ·first | omega | trivial | (with_reducible assumption)
            refine ⟨?_, ?_⟩
            ·first | omega | trivial | (with_reducible assumption)
            refine ⟨?_, ?_⟩
            ·omega
            refine ⟨?_, ?_⟩
            ·omega
            refine ⟨?_, ?_⟩
            ·omega
            refine ⟨?_, ?_⟩
            ·omega
            refine ⟨?_, ?_⟩
            ·omega
            refine ⟨?_, ?_⟩
            ·first | (simp only [hst, Zk hJR, hlr, ZNY, ZNH]; first | omega | assumption | done) | (simp only [hst, Zk hJR, hlr, ZNY, ZNH]; done)
            refine ⟨?_, ?_⟩
            ·first | (simp only [hst, Zk hJR, hlr, ZNY, ZNH]; first | omega | assumption | done) | (simp only [hst, Zk hJR, hlr, ZNY, ZNH]; done)
            refine ⟨?_, ?_⟩
            ·first | (simp only [hst, hlr, ZNY, ZNH]; first | omega | assumption | done) | (simp only [hst, hlr, ZNY, ZNH]; done)
            refine ⟨?_, ?_⟩
            ·first | (simp only [hst, hlr, ZNY, ZNH]; first | omega | assumption | done) | (simp only [hst, hlr, ZNY, ZNH]; done)
            refine ⟨?_, ?_⟩
            ·first | (rw [hst, Zk hJR]; exact h53)
            refine ⟨?_, ?_⟩
            ·first | (rw [hst]; exact h54)
            refine ⟨?_, ?_⟩
            ·first | (rw [hst]; exact h55)
            refine ⟨?_, ?_⟩
            ·rw [hst, Zgc hJl]; rfl
            refine ⟨?_, ?_⟩
            ·first | (rw [hst]; done) | (rw [hst]; rfl)
            refine ⟨?_, ?_⟩
            ·first | (rw [hst, Zk hJR]; done) | (rw [hst, Zk hJR]; rfl)
            refine ⟨?_, ?_⟩
            ·first | (rw [hst, Zas hJR hJl hwho]; done) | (rw [hst]; done)
            refine ⟨?_, ?_⟩
            ·first | (simp only [hst, hlr, ZNY, ZNH]; first | omega | assumption | done) | (simp only [hst, hlr, ZNY, ZNH]; done)
            refine ⟨?_, ?_⟩
            ·first | (simp only [hst, Zk hJR, hlr, ZNY, ZNH]; first | omega | assumption | done) | (simp only [hst, Zk hJR, hlr, ZNY, ZNH]; done)
            trivial
          ·skip
           intro h335
           refine ⟨?_, ?_⟩
           ·skip
            intro h337
            refine ⟨?_, ?_⟩
            ·exact ⟨J, hJR, rfl⟩
            intro h339
            intro h340
            intro h341
            intro h342
            intro h343
            intro h344
            intro h345
            intro h346
            intro h347
            refine ⟨?_, ?_⟩
            ·skip
             intro h349
             refine ⟨?_, ?_⟩
             ·first | omega | trivial | (with_reducible assumption)
             refine ⟨?_, ?_⟩
             ·first | omega | trivial | (with_reducible assumption)
             refine ⟨?_, ?_⟩
             ·exact h560
             intro v353
             intro h354
             refine ⟨?_, ?_⟩
             ·skip
              intro h356
              have hfal : J ∈ B.fal := by
               rw [h356] at h354
               exact (Zs3 h58.2.1 hfi hJR).1 (h53.mem_iff.1 ((Zi (p := _ ∈ v44)).mp h354.symm))
              refine ⟨?_, ?_⟩
              ·first | omega | trivial | (with_reducible assumption)
              refine ⟨?_, ?_⟩
              ·skip
               intro h359
               have hF := htold 1 (ZKm hj h337 (.inr h359))
               refine ⟨?_, ?_⟩
               ·first | (with_reducible rfl) | (with_reducible exact hck.symm) | (rw [hF]; done) | (rw [hF]; with_reducible exact h54.symm) | (rw [hF]; with_reducible exact h55.symm) | (rw [hF]; rfl) | (rw [Za.2 h22]; rfl) | trivial
               refine ⟨?_, ?_⟩
               ·first | (with_reducible rfl) | (with_reducible exact hck.symm) | (rw [hF]; done) | (rw [hF]; with_reducible exact h54.symm) | (rw [hF]; with_reducible exact h55.symm) | (rw [hF]; rfl) | (rw [Za.2 h22]; rfl) | trivial
               refine ⟨?_, ?_⟩
               ·first | (with_reducible rfl) | (with_reducible exact hck.symm) | (rw [hF]; done) | (rw [hF]; with_reducible exact h54.symm) | (rw [hF]; with_reducible exact h55.symm) | (rw [hF]; rfl) | (rw [Za.2 h22]; rfl) | trivial
               refine ⟨?_, ?_⟩
               ·first | (with_reducible rfl) | (with_reducible exact hck.symm) | (rw [hF]; done) | (rw [hF]; with_reducible exact h54.symm) | (rw [hF]; with_reducible exact h55.symm) | (rw [hF]; rfl) | (rw [Za.2 h22]; rfl) | trivial
               refine ⟨?_, ?_⟩
               ·first | (with_reducible rfl) | (with_reducible exact hck.symm) | (rw [hF]; done) | (rw [hF]; with_reducible exact h54.symm) | (rw [hF]; with_reducible exact h55.symm) | (rw [hF]; rfl) | (rw [Za.2 h22]; rfl) | trivial
               refine ⟨?_, ?_⟩
               ·first | (with_reducible rfl) | (with_reducible exact hck.symm) | (rw [hF]; done) | (rw [hF]; with_reducible exact h54.symm) | (rw [hF]; with_reducible exact h55.symm) | (rw [hF]; rfl) | (rw [Za.2 h22]; rfl) | trivial
               refine ⟨?_, ?_⟩
               ·first | (with_reducible rfl) | (with_reducible exact hck.symm) | (rw [hF]; done) | (rw [hF]; with_reducible exact h54.symm) | (rw [hF]; with_reducible exact h55.symm) | (rw [hF]; rfl) | (rw [Za.2 h22]; rfl) | trivial
               refine ⟨?_, ?_⟩
               ·first | (with_reducible rfl) | (with_reducible exact hck.symm) | (rw [hF]; done) | (rw [hF]; with_reducible exact h54.symm) | (rw [hF]; with_reducible exact h55.symm) | (rw [hF]; rfl) | (rw [Za.2 h22]; rfl) | trivial
               refine ⟨?_, ?_⟩
               ·first | (with_reducible rfl) | (with_reducible exact hck.symm) | (rw [hF]; done) | (rw [hF]; with_reducible exact h54.symm) | (rw [hF]; with_reducible exact h55.symm) | (rw [hF]; rfl) | (rw [Za.2 h22]; rfl) | trivial
               refine ⟨?_, ?_⟩
               ·first | (with_reducible rfl) | (with_reducible exact hck.symm) | (rw [hF]; done) | (rw [hF]; with_reducible exact h54.symm) | (rw [hF]; with_reducible exact h55.symm) | (rw [hF]; rfl) | (rw [Za.2 h22]; rfl) | trivial
               trivial
              ·skip
               intro h372
               refine ⟨?_, ?_⟩
               ·first | omega | trivial | (with_reducible assumption)
               refine ⟨?_, ?_⟩
               ·skip
                intro h375
                have hF := htold 2 (st5b hj h337 (.inr hfal) h372 h375)
                refine ⟨?_, ?_⟩
                ·first | (with_reducible rfl) | (with_reducible exact hck.symm) | (rw [hF]; done) | (rw [hF]; with_reducible exact h54.symm) | (rw [hF]; with_reducible exact h55.symm) | (rw [hF]; rfl) | (rw [Za.2 h22]; rfl) | trivial
                refine ⟨?_, ?_⟩
                ·first | (with_reducible rfl) | (with_reducible exact hck.symm) | (rw [hF]; done) | (rw [hF]; with_reducible exact h54.symm) | (rw [hF]; with_reducible exact h55.symm) | (rw [hF]; rfl) | (rw [Za.2 h22]; rfl) | trivial
                refine ⟨?_, ?_⟩
                ·first | (with_reducible rfl) | (with_reducible exact hck.symm) | (rw [hF]; done) | (rw [hF]; with_reducible exact h54.symm) | (rw [hF]; with_reducible exact h55.symm) | (rw [hF]; rfl) | (rw [Za.2 h22]; rfl) | trivial
                refine ⟨?_, ?_⟩
                ·first | (with_reducible rfl) | (with_reducible exact hck.symm) | (rw [hF]; done) | (rw [hF]; with_reducible exact h54.symm) | (rw [hF]; with_reducible exact h55.symm) | (rw [hF]; rfl) | (rw [Za.2 h22]; rfl) | trivial
                refine ⟨?_, ?_⟩
                ·first | (with_reducible rfl) | (with_reducible exact hck.symm) | (rw [hF]; done) | (rw [hF]; with_reducible exact h54.symm) | (rw [hF]; with_reducible exact h55.symm) | (rw [hF]; rfl) | (rw [Za.2 h22]; rfl) | trivial
                refine ⟨?_, ?_⟩
                ·first | (with_reducible rfl) | (with_reducible exact hck.symm) | (rw [hF]; done) | (rw [hF]; with_reducible exact h54.symm) | (rw [hF]; with_reducible exact h55.symm) | (rw [hF]; rfl) | (rw [Za.2 h22]; rfl) | trivial
                refine ⟨?_, ?_⟩
                ·first | (with_reducible rfl) | (with_reducible exact hck.symm) | (rw [hF]; done) | (rw [hF]; with_reducible exact h54.symm) | (rw [hF]; with_reducible exact h55.symm) | (rw [hF]; rfl) | (rw [Za.2 h22]; rfl) | trivial
                refine ⟨?_, ?_⟩
                ·first | (with_reducible rfl) | (with_reducible exact hck.symm) | (rw [hF]; done) | (rw [hF]; with_reducible exact h54.symm) | (rw [hF]; with_reducible exact h55.symm) | (rw [hF]; rfl) | (rw [Za.2 h22]; rfl) | trivial
                refine ⟨?_, ?_⟩
                ·first | (with_reducible rfl) | (with_reducible exact hck.symm) | (rw [hF]; done) | (rw [hF]; with_reducible exact h54.symm) | (rw [hF]; with_reducible exact h55.symm) | (rw [hF]; rfl) | (rw [Za.2 h22]; rfl) | trivial
                refine ⟨?_, ?_⟩
                ·first | (with_reducible rfl) | (with_reducible exact hck.symm) | (rw [hF]; done) | (rw [hF]; with_reducible exact h54.symm) | (rw [hF]; with_reducible exact h55.symm) | (rw [hF]; rfl) | (rw [Za.2 h22]; rfl) | trivial
                trivial
               ·skip
                intro h388
                have hst := hsu.trans (st5c hj h337 (.inr hfal) h372 h388)
                have hwho : ({ B.txs.getD J tx0 with opn := false, com := (n : Int) } : Tx).who = (B.txs.getD J tx0).who := rfl
                intro h389
                intro h390
                intro h391
                intro h392
                intro h393
                intro h394
                intro h395
                refine ⟨?_, ?_⟩
                ·first | omega | trivial | (with_reducible assumption)
                refine ⟨?_, ?_⟩
                ·first | omega | trivial | (with_reducible assumption)
                refine ⟨?_, ?_⟩
                ·first | omega | trivial | (with_reducible assumption)
                refine ⟨?_, ?_⟩
                ·first | omega | trivial | (with_reducible assumption)
                intro v400
                intro h401
                refine ⟨?_, ?_⟩
                ·first | omega | trivial | (with_reducible assumption)
                refine ⟨?_, ?_⟩
                ·first | omega | trivial | (with_reducible assumption)
                intro v404
                intro v405
                intro h406
                intro h407
                refine ⟨?_, ?_⟩
                ·omega
                refine ⟨?_, ?_⟩
                ·omega
                refine ⟨?_, ?_⟩
                ·omega
                refine ⟨?_, ?_⟩
                ·omega
                refine ⟨?_, ?_⟩
                ·omega
                refine ⟨?_, ?_⟩
                ·simp only [hst, Zk hJR, hlr, ZNY, ZNH]; omega
                refine ⟨?_, ?_⟩
                ·simp only [hst, Zk hJR, hlr, ZNY, ZNH]; omega
                refine ⟨?_, ?_⟩
                ·first | (simp only [hst, hlr, ZNY, ZNH]; first | omega | assumption | done) | (simp only [hst, hlr, ZNY, ZNH]; done)
                refine ⟨?_, ?_⟩
                ·first | (simp only [hst, hlr, ZNY, ZNH]; first | omega | assumption | done) | (simp only [hst, hlr, ZNY, ZNH]; done)
                refine ⟨?_, ?_⟩
                ·rw [hst, Zk hJR]; exact h53
                refine ⟨?_, ?_⟩
                ·first | (rw [hst]; exact h54)
                refine ⟨?_, ?_⟩
                ·first | (rw [hst]; exact h55)
                refine ⟨?_, ?_⟩
                ·rw [hst, Zgc hJl]; rfl
                refine ⟨?_, ?_⟩
                ·first | (rw [hst]; done) | (rw [hst]; rfl)
                refine ⟨?_, ?_⟩
                ·rw [hst, Zk hJR, ZeU]
                refine ⟨?_, ?_⟩
                ·first | (rw [hst, Zas hJR hJl hwho]; done) | (rw [hst]; done)
                refine ⟨?_, ?_⟩
                ·first | (simp only [hst, hlr, ZNY, ZNH]; first | omega | assumption | done) | (simp only [hst, hlr, ZNY, ZNH]; done)
                refine ⟨?_, ?_⟩
                ·simp only [hst, Zk hJR, hlr, ZNY, ZNH]; omega
                trivial
             ·skip
              intro h428
              have hnf : ¬ J ∈ B.fal := fun hm => by
               rw [h428] at h354
               have hq : [g0 (v37.getD J [])] ∈ v44 := h53.mem_iff.2 ((Zs3 h58.2.1 hfi hJR).2 hm)
               rw [ZF hq] at h354; cases h354
              have hF := htold 1 (ZKm hj h337 (.inl ⟨fun _ => h349, hnf⟩))
              refine ⟨?_, ?_⟩
              ·first | omega | trivial | (with_reducible assumption)
              refine ⟨?_, ?_⟩
              ·first | (with_reducible rfl) | (with_reducible exact hck.symm) | (rw [hF]; done) | (rw [hF]; with_reducible exact h54.symm) | (rw [hF]; with_reducible exact h55.symm) | (rw [hF]; rfl) | (rw [Za.2 h22]; rfl) | trivial
              refine ⟨?_, ?_⟩
              ·first | (with_reducible rfl) | (with_reducible exact hck.symm) | (rw [hF]; done) | (rw [hF]; with_reducible exact h54.symm) | (rw [hF]; with_reducible exact h55.symm) | (rw [hF]; rfl) | (rw [Za.2 h22]; rfl) | trivial
              refine ⟨?_, ?_⟩
              ·first | (with_reducible rfl) | (with_reducible exact hck.symm) | (rw [hF]; done) | (rw [hF]; with_reducible exact h54.symm) | (rw [hF]; with_reducible exact h55.symm) | (rw [hF]; rfl) | (rw [Za.2 h22]; rfl) | trivial
              refine ⟨?_, ?_⟩
              ·first | (with_reducible rfl) | (with_reducible exact hck.symm) | (rw [hF]; done) | (rw [hF]; with_reducible exact h54.symm) | (rw [hF]; with_reducible exact h55.symm) | (rw [hF]; rfl) | (rw [Za.2 h22]; rfl) | trivial
              refine ⟨?_, ?_⟩
              ·first | (with_reducible rfl) | (with_reducible exact hck.symm) | (rw [hF]; done) | (rw [hF]; with_reducible exact h54.symm) | (rw [hF]; with_reducible exact h55.symm) | (rw [hF]; rfl) | (rw [Za.2 h22]; rfl) | trivial
              refine ⟨?_, ?_⟩
              ·first | (with_reducible rfl) | (with_reducible exact hck.symm) | (rw [hF]; done) | (rw [hF]; with_reducible exact h54.symm) | (rw [hF]; with_reducible exact h55.symm) | (rw [hF]; rfl) | (rw [Za.2 h22]; rfl) | trivial
              refine ⟨?_, ?_⟩
              ·first | (with_reducible rfl) | (with_reducible exact hck.symm) | (rw [hF]; done) | (rw [hF]; with_reducible exact h54.symm) | (rw [hF]; with_reducible exact h55.symm) | (rw [hF]; rfl) | (rw [Za.2 h22]; rfl) | trivial
              refine ⟨?_, ?_⟩
              ·first | (with_reducible rfl) | (with_reducible exact hck.symm) | (rw [hF]; done) | (rw [hF]; with_reducible exact h54.symm) | (rw [hF]; with_reducible exact h55.symm) | (rw [hF]; rfl) | (rw [Za.2 h22]; rfl) | trivial
              refine ⟨?_, ?_⟩
              ·first | (with_reducible rfl) | (with_reducible exact hck.symm) | (rw [hF]; done) | (rw [hF]; with_reducible exact h54.symm) | (rw [hF]; with_reducible exact h55.symm) | (rw [hF]; rfl) | (rw [Za.2 h22]; rfl) | trivial
              refine ⟨?_, ?_⟩
              ·first | (with_reducible rfl) | (with_reducible exact hck.symm) | (rw [hF]; done) | (rw [hF]; with_reducible exact h54.symm) | (rw [hF]; with_reducible exact h55.symm) | (rw [hF]; rfl) | (rw [Za.2 h22]; rfl) | trivial
              trivial
            ·skip
             intro h442
             refine ⟨?_, ?_⟩
             ·first | omega | trivial | (with_reducible assumption)
             refine ⟨?_, ?_⟩
             ·skip
              intro h445
              have hF := htold 1 (ZKm hj h337 (.inr h445))
              refine ⟨?_, ?_⟩
              ·first | (with_reducible rfl) | (with_reducible exact hck.symm) | (rw [hF]; done) | (rw [hF]; with_reducible exact h54.symm) | (rw [hF]; with_reducible exact h55.symm) | (rw [hF]; rfl) | (rw [Za.2 h22]; rfl) | trivial
              refine ⟨?_, ?_⟩
              ·first | (with_reducible rfl) | (with_reducible exact hck.symm) | (rw [hF]; done) | (rw [hF]; with_reducible exact h54.symm) | (rw [hF]; with_reducible exact h55.symm) | (rw [hF]; rfl) | (rw [Za.2 h22]; rfl) | trivial
              refine ⟨?_, ?_⟩
              ·first | (with_reducible rfl) | (with_reducible exact hck.symm) | (rw [hF]; done) | (rw [hF]; with_reducible exact h54.symm) | (rw [hF]; with_reducible exact h55.symm) | (rw [hF]; rfl) | (rw [Za.2 h22]; rfl) | trivial
              refine ⟨?_, ?_⟩
              ·first | (with_reducible rfl) | (with_reducible exact hck.symm) | (rw [hF]; done) | (rw [hF]; with_reducible exact h54.symm) | (rw [hF]; with_reducible exact h55.symm) | (rw [hF]; rfl) | (rw [Za.2 h22]; rfl) | trivial
              refine ⟨?_, ?_⟩
              ·first | (with_reducible rfl) | (with_reducible exact hck.symm) | (rw [hF]; done) | (rw [hF]; with_reducible exact h54.symm) | (rw [hF]; with_reducible exact h55.symm) | (rw [hF]; rfl) | (rw [Za.2 h22]; rfl) | trivial
              refine ⟨?_, ?_⟩
              ·first | (with_reducible rfl) | (with_reducible exact hck.symm) | (rw [hF]; done) | (rw [hF]; with_reducible exact h54.symm) | (rw [hF]; with_reducible exact h55.symm) | (rw [hF]; rfl) | (rw [Za.2 h22]; rfl) | trivial
              refine ⟨?_, ?_⟩
              ·first | (with_reducible rfl) | (with_reducible exact hck.symm) | (rw [hF]; done) | (rw [hF]; with_reducible exact h54.symm) | (rw [hF]; with_reducible exact h55.symm) | (rw [hF]; rfl) | (rw [Za.2 h22]; rfl) | trivial
              refine ⟨?_, ?_⟩
              ·first | (with_reducible rfl) | (with_reducible exact hck.symm) | (rw [hF]; done) | (rw [hF]; with_reducible exact h54.symm) | (rw [hF]; with_reducible exact h55.symm) | (rw [hF]; rfl) | (rw [Za.2 h22]; rfl) | trivial
              refine ⟨?_, ?_⟩
              ·first | (with_reducible rfl) | (with_reducible exact hck.symm) | (rw [hF]; done) | (rw [hF]; with_reducible exact h54.symm) | (rw [hF]; with_reducible exact h55.symm) | (rw [hF]; rfl) | (rw [Za.2 h22]; rfl) | trivial
              refine ⟨?_, ?_⟩
              ·first | (with_reducible rfl) | (with_reducible exact hck.symm) | (rw [hF]; done) | (rw [hF]; with_reducible exact h54.symm) | (rw [hF]; with_reducible exact h55.symm) | (rw [hF]; rfl) | (rw [Za.2 h22]; rfl) | trivial
              trivial
             ·skip
              intro h458
              refine ⟨?_, ?_⟩
              ·first | omega | trivial | (with_reducible assumption)
              refine ⟨?_, ?_⟩
              ·skip
               intro h461
               have hF := htold 2 (st5b hj h337 (.inl ⟨hJl, h442⟩) h458 h461)
               refine ⟨?_, ?_⟩
               ·first | (with_reducible rfl) | (with_reducible exact hck.symm) | (rw [hF]; done) | (rw [hF]; with_reducible exact h54.symm) | (rw [hF]; with_reducible exact h55.symm) | (rw [hF]; rfl) | (rw [Za.2 h22]; rfl) | trivial
               refine ⟨?_, ?_⟩
               ·first | (with_reducible rfl) | (with_reducible exact hck.symm) | (rw [hF]; done) | (rw [hF]; with_reducible exact h54.symm) | (rw [hF]; with_reducible exact h55.symm) | (rw [hF]; rfl) | (rw [Za.2 h22]; rfl) | trivial
               refine ⟨?_, ?_⟩
               ·first | (with_reducible rfl) | (with_reducible exact hck.symm) | (rw [hF]; done) | (rw [hF]; with_reducible exact h54.symm) | (rw [hF]; with_reducible exact h55.symm) | (rw [hF]; rfl) | (rw [Za.2 h22]; rfl) | trivial
               refine ⟨?_, ?_⟩
               ·first | (with_reducible rfl) | (with_reducible exact hck.symm) | (rw [hF]; done) | (rw [hF]; with_reducible exact h54.symm) | (rw [hF]; with_reducible exact h55.symm) | (rw [hF]; rfl) | (rw [Za.2 h22]; rfl) | trivial
               refine ⟨?_, ?_⟩
               ·first | (with_reducible rfl) | (with_reducible exact hck.symm) | (rw [hF]; done) | (rw [hF]; with_reducible exact h54.symm) | (rw [hF]; with_reducible exact h55.symm) | (rw [hF]; rfl) | (rw [Za.2 h22]; rfl) | trivial
               refine ⟨?_, ?_⟩
               ·first | (with_reducible rfl) | (with_reducible exact hck.symm) | (rw [hF]; done) | (rw [hF]; with_reducible exact h54.symm) | (rw [hF]; with_reducible exact h55.symm) | (rw [hF]; rfl) | (rw [Za.2 h22]; rfl) | trivial
               refine ⟨?_, ?_⟩
               ·first | (with_reducible rfl) | (with_reducible exact hck.symm) | (rw [hF]; done) | (rw [hF]; with_reducible exact h54.symm) | (rw [hF]; with_reducible exact h55.symm) | (rw [hF]; rfl) | (rw [Za.2 h22]; rfl) | trivial
               refine ⟨?_, ?_⟩
               ·first | (with_reducible rfl) | (with_reducible exact hck.symm) | (rw [hF]; done) | (rw [hF]; with_reducible exact h54.symm) | (rw [hF]; with_reducible exact h55.symm) | (rw [hF]; rfl) | (rw [Za.2 h22]; rfl) | trivial
               refine ⟨?_, ?_⟩
               ·first | (with_reducible rfl) | (with_reducible exact hck.symm) | (rw [hF]; done) | (rw [hF]; with_reducible exact h54.symm) | (rw [hF]; with_reducible exact h55.symm) | (rw [hF]; rfl) | (rw [Za.2 h22]; rfl) | trivial
               refine ⟨?_, ?_⟩
               ·first | (with_reducible rfl) | (with_reducible exact hck.symm) | (rw [hF]; done) | (rw [hF]; with_reducible exact h54.symm) | (rw [hF]; with_reducible exact h55.symm) | (rw [hF]; rfl) | (rw [Za.2 h22]; rfl) | trivial
               trivial
              ·skip
               intro h474
               have hst := hsu.trans (st5c hj h337 (.inl ⟨hJl, h442⟩) h458 h474)
               have hwho : ({ B.txs.getD J tx0 with opn := false, com := (n : Int) } : Tx).who = (B.txs.getD J tx0).who := rfl
               intro h475
               intro h476
               intro h477
               intro h478
               intro h479
               intro h480
               intro h481
               refine ⟨?_, ?_⟩
               ·first | omega | trivial | (with_reducible assumption)
               refine ⟨?_, ?_⟩
               ·first | omega | trivial | (with_reducible assumption)
               refine ⟨?_, ?_⟩
               ·first | omega | trivial | (with_reducible assumption)
               refine ⟨?_, ?_⟩
               ·first | omega | trivial | (with_reducible assumption)
               intro v486
               intro h487
               refine ⟨?_, ?_⟩
               ·first | omega | trivial | (with_reducible assumption)
               refine ⟨?_, ?_⟩
               ·first | omega | trivial | (with_reducible assumption)
               intro v490
               intro v491
               intro h492
               intro h493
               refine ⟨?_, ?_⟩
               ·omega
               refine ⟨?_, ?_⟩
               ·omega
               refine ⟨?_, ?_⟩
               ·omega
               refine ⟨?_, ?_⟩
               ·omega
               refine ⟨?_, ?_⟩
               ·omega
               refine ⟨?_, ?_⟩
               ·simp only [hst, Zk hJR, hlr, ZNY, ZNH]; omega
               refine ⟨?_, ?_⟩
               ·simp only [hst, Zk hJR, hlr, ZNY, ZNH]; omega
               refine ⟨?_, ?_⟩
               ·first | (simp only [hst, hlr, ZNY, ZNH]; first | omega | assumption | done) | (simp only [hst, hlr, ZNY, ZNH]; done)
               refine ⟨?_, ?_⟩
               ·first | (simp only [hst, hlr, ZNY, ZNH]; first | omega | assumption | done) | (simp only [hst, hlr, ZNY, ZNH]; done)
               refine ⟨?_, ?_⟩
               ·rw [hst, Zk hJR]; exact h53
               refine ⟨?_, ?_⟩
               ·first | (rw [hst]; exact h54)
               refine ⟨?_, ?_⟩
               ·first | (rw [hst]; exact h55)
               refine ⟨?_, ?_⟩
               ·rw [hst, Zgc hJl]; rfl
               refine ⟨?_, ?_⟩
               ·first | (rw [hst]; done) | (rw [hst]; rfl)
               refine ⟨?_, ?_⟩
               ·rw [hst, Zk hJR, ZeU]
               refine ⟨?_, ?_⟩
               ·first | (rw [hst, Zas hJR hJl hwho]; done) | (rw [hst]; done)
               refine ⟨?_, ?_⟩
               ·first | (simp only [hst, hlr, ZNY, ZNH]; first | omega | assumption | done) | (simp only [hst, hlr, ZNY, ZNH]; done)
               refine ⟨?_, ?_⟩
               ·simp only [hst, Zk hJR, hlr, ZNY, ZNH]; omega
               trivial
           ·skip
            intro h514
            refine ⟨?_, ?_⟩
            ·skip
             intro h516
             intro v517
             intro h518
             refine ⟨?_, ?_⟩
             ·first | omega | trivial | (with_reducible assumption)
             refine ⟨?_, ?_⟩
             ·rw [ZlJ (Zex h58.1)]; exact List.Perm.nil
             refine ⟨?_, ?_⟩
             ·exact ⟨by rw [ZhX h58.1]; exact hw.nd, fun _ q => q⟩
             refine ⟨?_, ?_⟩
             ·exact congrArg (fun q => U.g (GG.tx q)) (Znb (Zex h58.1))
             intro v523
             intro v524
             intro v525
             intro v526
             intro v527
             intro v528
             intro h529
             intro h530
             intro h531
             intro h532
             intro h533
             have hFl2 : v528.length <= B.txs.length := by have q := h532.length_eq; rw [hlr] at q; have := Zhg v523 B.txs 0; omega
             refine ⟨?_, ?_⟩
             ·skip
              intro h535
              have hM : v523 = [] := ZN8 (by omega)
              have hst := hsu.trans (st7 hj h516)
              refine ⟨?_, ?_⟩
              ·omega
              refine ⟨?_, ?_⟩
              ·omega
              refine ⟨?_, ?_⟩
              ·omega
              refine ⟨?_, ?_⟩
              ·omega
              refine ⟨?_, ?_⟩
              ·omega
              refine ⟨?_, ?_⟩
              ·first | (simp only [hst, hlr]; first | omega | assumption | done) | (simp only [hst, hlr]; done)
              refine ⟨?_, ?_⟩
              ·first | (simp only [hst, hlr]; first | omega | assumption | done) | (simp only [hst, hlr]; done)
              refine ⟨?_, ?_⟩
              ·first | (simp only [hst, hlr]; first | omega | assumption | done) | (simp only [hst, hlr]; done)
              refine ⟨?_, ?_⟩
              ·first | (simp only [hst, hlr]; first | omega | assumption | done) | (simp only [hst, hlr]; done)
              refine ⟨?_, ?_⟩
              ·rw [hst, Zhi h531]; rw [hM, Zem] at h532; exact h532
              refine ⟨?_, ?_⟩
              ·rw [hst]; exact h54
              refine ⟨?_, ?_⟩
              ·rw [hst]; exact h55
              refine ⟨?_, ?_⟩
              ·rw [hst, hM]; rfl
              refine ⟨?_, ?_⟩
              ·rw [hst]
              refine ⟨?_, ?_⟩
              ·rw [hst, Zhi h531]
              refine ⟨?_, ?_⟩
              ·rw [hst]; exact congrArg U.amap (Zps h531 (by rw [List.map_map]; rfl))
              refine ⟨?_, ?_⟩
              ·first | (simp only [hst, hlr]; first | omega | assumption | done) | (simp only [hst, hlr]; done)
              refine ⟨?_, ?_⟩
              ·first | (simp only [hst, hlr]; first | omega | assumption | done) | (simp only [hst, hlr]; done)
              trivial
             ·skip
              intro v556
              intro h557
              have hjk0 := h533.2 _ h557
              have hAk := Zcq (w := v556) h58.1 0
              obtain ⟨j, hjd⟩ : ∃ j, ixL v556 B.txs = j := ⟨_, rfl⟩
              rw [hjd] at hAk
              have hjl : j < B.txs.length := by rw [hAk.2] at hjk0; simpa using hjk0
              have hR22 : v525.length = v37.length := by have := congrArg List.length h531; simpa using this
              have hjR : j < v525.length := by have := h58.1; omega
              have hg0 : g0 (v525.getD j []) = g0 (v37.getD j []) := by rw [<- ZdB g0 v525, <- ZdB g0 v37, h531]
              have hmk : YQ 0 (ZfF v37 B.txs) v556 = g0 (v525.getD j []) := by rw [hAk.1, if_pos hjl, hg0]
              have hrj := Zbg (R := v525) (by rw [h531]; exact h58.2.1) hjR
              have hwj : (B.txs.getD j tx0).who = v556 := by have := Zbe (w := v556) (L := B.txs) (by omega); rw [hjd] at this; exact this
              have hgj : (ZcX B.txs v523).getD j tx0 = B.txs.getD j tx0 := by rw [ZeL _ _ hjl, hwj, if_pos h557]
              have hsl := ZeR B.txs v523
              simp only [hmk, hrj, ZN0, Zdf]
              refine ⟨?_, ?_⟩
              ·exact ⟨j, hjR, rfl⟩
              intro h559
              intro h560
              intro h561
              intro h562
              intro h563
              intro h564
              intro h565
              intro h566
              intro h567
              refine ⟨?_, ?_⟩
              ·first | omega | trivial | (with_reducible assumption)
              refine ⟨?_, ?_⟩
              ·skip
               intro h570
               rw [hgj] at h570
               intro h571
               intro h572
               intro h573
               intro h574
               intro h575
               intro h576
               intro h577
               intro h578
               intro h579
               refine ⟨?_, ?_⟩
               ·first | omega | trivial | (with_reducible assumption)
               refine ⟨?_, ?_⟩
               ·first | omega | trivial | (with_reducible assumption)
               refine ⟨?_, ?_⟩
               ·first | omega | trivial | (with_reducible assumption)
               refine ⟨?_, ?_⟩
               ·first | omega | trivial | (with_reducible assumption)
               intro v584
               intro h585
               refine ⟨?_, ?_⟩
               ·first | omega | trivial | (with_reducible assumption)
               refine ⟨?_, ?_⟩
               ·first | omega | trivial | (with_reducible assumption)
               intro v588
               intro v589
               intro h590
               intro h591
               refine ⟨?_, ?_⟩
               ·have := ZdY h557; omega
               refine ⟨?_, ?_⟩
               ·rw [Zgw hjR]; exact (YP (f := g0) (d := []) (x := g0 (v525.getD j []) :: _) rfl hjR).trans h531
               refine ⟨?_, ?_⟩
               ·refine (h532.append_right _).trans ?_
                rw [hg0, <- ZeU]
                exact ZeX (Znu h533.1 hw.nd hjd hjl h557 h570)
               refine ⟨?_, ?_⟩
               ·exact ⟨Zb5 h533.1 _, fun q hq => h533.2 q (by rw [Za3 h533.1] at hq; simp only [Bool.and_eq_true] at hq; exact hq.2)⟩
               refine ⟨?_, ?_⟩
               ·rw [Zgc (by rw [hsl]; exact hjl), Zh2 h533.1 hw.nd hjd hjl h557, hgj]; rfl
               trivial
              ·skip
               intro h599
               rw [hgj] at h599
               refine ⟨?_, ?_⟩
               ·have := ZdY h557; omega
               refine ⟨?_, ?_⟩
               ·exact h532.trans (ZeX (Zjc h533.1 hw.nd hjd hjl h599))
               refine ⟨?_, ?_⟩
               ·exact ⟨Zb5 h533.1 _, fun q hq => h533.2 q (by rw [Za3 h533.1] at hq; simp only [Bool.and_eq_true] at hq; exact hq.2)⟩
               refine ⟨?_, ?_⟩
               ·exact congrArg (fun q => U.g (GG.tx q)) (Zji h533.1 hw.nd hjd hjl h557 (by rw [hgj]; exact h599))
               trivial
            ·skip
             intro h606
             have hst := hsu.trans (st0 hj ⟨h94, h184, h237, h286, h514, h335, h606⟩)
             refine ⟨?_, ?_⟩
             ·omega
             refine ⟨?_, ?_⟩
             ·omega
             refine ⟨?_, ?_⟩
             ·omega
             refine ⟨?_, ?_⟩
             ·omega
             refine ⟨?_, ?_⟩
             ·omega
             refine ⟨?_, ?_⟩
             ·first | (simp only [hst, hlr, ZNY, ZNH]; first | omega | assumption | done) | (simp only [hst, hlr, ZNY, ZNH]; done)
             refine ⟨?_, ?_⟩
             ·first | (simp only [hst, hlr, ZNY, ZNH]; first | omega | assumption | done) | (simp only [hst, hlr, ZNY, ZNH]; done)
             refine ⟨?_, ?_⟩
             ·first | (simp only [hst, hlr, ZNY, ZNH]; first | omega | assumption | done) | (simp only [hst, hlr, ZNY, ZNH]; done)
             refine ⟨?_, ?_⟩
             ·first | (simp only [hst, hlr, ZNY, ZNH]; first | omega | assumption | done) | (simp only [hst, hlr, ZNY, ZNH]; done)
             refine ⟨?_, ?_⟩
             ·first | (rw [hst]; exact h53)
             refine ⟨?_, ?_⟩
             ·first | (rw [hst]; exact h54)
             refine ⟨?_, ?_⟩
             ·first | (rw [hst]; exact h55)
             refine ⟨?_, ?_⟩
             ·first | (rw [hst]; done) | (rw [hst]; rfl)
             refine ⟨?_, ?_⟩
             ·first | (rw [hst]; done) | (rw [hst]; rfl)
             refine ⟨?_, ?_⟩
             ·first | (rw [hst]; done) | (rw [hst]; rfl)
             refine ⟨?_, ?_⟩
             ·first | (rw [hst, Zas hJR hJl hwho]; done) | (rw [hst]; done)
             refine ⟨?_, ?_⟩
             ·first | (simp only [hst, hlr, ZNY, ZNH]; first | omega | assumption | done) | (simp only [hst, hlr, ZNY, ZNH]; done)
             refine ⟨?_, ?_⟩
             ·first | (simp only [hst, hlr, ZNY, ZNH]; first | omega | assumption | done) | (simp only [hst, hlr, ZNY, ZNH]; done)
             trivial
     ·skip
      trivial
    ·skip
     intro h629
     have hJn : ¬ J < B.txs.length := fun q => by
      rw [hA.1, if_pos q] at h629
      have := h58.2.2 _ (ZwD (R := v37) (J := J) (by have := h58.1; omega)); omega
     have hnop : J < B.txs.length -> (B.txs.getD J tx0).opn = false := fun q => absurd q hJn
     refine ⟨?_, ?_⟩
     ·skip
      trivial
     ·skip
      intro h633
      refine ⟨?_, ?_⟩
      ·skip
       intro h635
       refine ⟨?_, ?_⟩
       ·skip
        trivial
       ·skip
        intro h639
        have hst := hsu.trans (st1b hj h635 hJn)
        have hkR : ∀ k ∈ B.kept, k < v37.length := fun k hk => by have := hw.ki k hk; have := h58.1; omega
        intro v640
        intro h641
        intro v642
        intro h643
        refine ⟨?_, ?_⟩
        ·omega
        refine ⟨?_, ?_⟩
        ·omega
        refine ⟨?_, ?_⟩
        ·omega
        refine ⟨?_, ?_⟩
        ·omega
        refine ⟨?_, ?_⟩
        ·omega
        refine ⟨?_, ?_⟩
        ·first | (simp only [hst, hlr]; first | omega | assumption | done) | (simp only [hst, hlr]; done)
        refine ⟨?_, ?_⟩
        ·first | (simp only [hst, hlr]; first | omega | assumption | done) | (simp only [hst, hlr]; done)
        refine ⟨?_, ?_⟩
        ·first | (simp only [hst, hlr, ZNY, ZNH]; first | omega | assumption | done) | (simp only [hst, hlr, ZNY, ZNH]; done)
        refine ⟨?_, ?_⟩
        ·first | (simp only [hst, hlr, ZNY, ZNH]; first | omega | assumption | done) | (simp only [hst, hlr, ZNY, ZNH]; done)
        refine ⟨?_, ?_⟩
        ·first | (rw [hst]; exact List.Perm.nil)
        refine ⟨?_, ?_⟩
        ·first | (rw [hst]; exact h54)
        refine ⟨?_, ?_⟩
        ·first | (rw [hst]; exact h55)
        refine ⟨?_, ?_⟩
        ·first | (rw [hst]; done) | (rw [hst]; rfl)
        refine ⟨?_, ?_⟩
        ·first | (rw [hst]; done) | (rw [hst]; rfl)
        refine ⟨?_, ?_⟩
        ·rw [hst]; exact ZD3 hkR _
        refine ⟨?_, ?_⟩
        ·rw [hst]; exact congrArg U.amap (ZDY h58.1 _ _ (by show ¬ ixL (x.getD 1 0) B.txs < _; rw [hJ]; exact hJn))
        refine ⟨?_, ?_⟩
        ·first | (simp only [hst, hlr, ZNY, ZNH]; first | omega | assumption | done) | (simp only [hst, hlr, ZNY, ZNH]; done)
        refine ⟨?_, ?_⟩
        ·first | (simp only [hst, hlr]; first | omega | assumption | done) | (simp only [hst, hlr]; done)
        trivial
      ·skip
       intro h664
       refine ⟨?_, ?_⟩
       ·skip
        intro h666
        refine ⟨?_, ?_⟩
        ·skip
         intro h668
         have hst := hsu.trans (st2a hj h666 h668)
         intro v669
         intro h670
         refine ⟨?_, ?_⟩
         ·first | omega | trivial | (with_reducible assumption)
         refine ⟨?_, ?_⟩
         ·first | omega | trivial | (with_reducible assumption)
         intro v673
         intro v674
         intro h675
         intro h676
         refine ⟨?_, ?_⟩
         ·omega
         refine ⟨?_, ?_⟩
         ·omega
         refine ⟨?_, ?_⟩
         ·omega
         refine ⟨?_, ?_⟩
         ·omega
         refine ⟨?_, ?_⟩
         ·omega
         refine ⟨?_, ?_⟩
         ·first | (simp only [hst, hlr, ZNY, ZNH]; first | omega | assumption | done) | (simp only [hst, hlr, ZNY, ZNH]; done)
         refine ⟨?_, ?_⟩
         ·first | (simp only [hst, hlr, ZNY, ZNH]; first | omega | assumption | done) | (simp only [hst, hlr, ZNY, ZNH]; done)
         refine ⟨?_, ?_⟩
         ·first | (simp only [hst, hlr, ZNY, ZNH]; first | omega | assumption | done) | (simp only [hst, hlr, ZNY, ZNH]; done)
         refine ⟨?_, ?_⟩
         ·first | (simp only [hst, hlr, ZNY, ZNH]; first | omega | assumption | done) | (simp only [hst, hlr, ZNY, ZNH]; done)
         refine ⟨?_, ?_⟩
         ·first | (rw [hst]; exact List.Perm.nil)
         refine ⟨?_, ?_⟩
         ·first | (rw [hst]; exact h54)
         refine ⟨?_, ?_⟩
         ·first | (rw [hst]; exact h55)
         refine ⟨?_, ?_⟩
         ·first | (rw [hst]; done) | (rw [hst]; rfl)
         refine ⟨?_, ?_⟩
         ·first | (rw [hst]; done) | (rw [hst]; rfl)
         refine ⟨?_, ?_⟩
         ·first | (rw [hst]; done) | (rw [hst]; rfl)
         refine ⟨?_, ?_⟩
         ·first | (rw [hst, Zas hJR hJl hwho]; done) | (rw [hst]; done)
         refine ⟨?_, ?_⟩
         ·first | (simp only [hst, hlr, ZNY, ZNH]; first | omega | assumption | done) | (simp only [hst, hlr, ZNY, ZNH]; done)
         refine ⟨?_, ?_⟩
         ·first | (simp only [hst, hlr, ZNY, ZNH]; first | omega | assumption | done) | (simp only [hst, hlr, ZNY, ZNH]; done)
         trivial
        ·skip
         intro h697
         have hF := htold 1 (st2c hj h666 h697 hnop)
         refine ⟨?_, ?_⟩
         ·first | (with_reducible rfl) | (with_reducible exact hck.symm) | (rw [hF]; done) | (rw [hF]; with_reducible exact h54.symm) | (rw [hF]; with_reducible exact h55.symm) | (rw [hF]; rfl) | (rw [Za.2 h22]; rfl) | trivial
         refine ⟨?_, ?_⟩
         ·first | (with_reducible rfl) | (with_reducible exact hck.symm) | (rw [hF]; done) | (rw [hF]; with_reducible exact h54.symm) | (rw [hF]; with_reducible exact h55.symm) | (rw [hF]; rfl) | (rw [Za.2 h22]; rfl) | trivial
         refine ⟨?_, ?_⟩
         ·first | (with_reducible rfl) | (with_reducible exact hck.symm) | (rw [hF]; done) | (rw [hF]; with_reducible exact h54.symm) | (rw [hF]; with_reducible exact h55.symm) | (rw [hF]; rfl) | (rw [Za.2 h22]; rfl) | trivial
         refine ⟨?_, ?_⟩
         ·first | (with_reducible rfl) | (with_reducible exact hck.symm) | (rw [hF]; done) | (rw [hF]; with_reducible exact h54.symm) | (rw [hF]; with_reducible exact h55.symm) | (rw [hF]; rfl) | (rw [Za.2 h22]; rfl) | trivial
         refine ⟨?_, ?_⟩
         ·first | (with_reducible rfl) | (with_reducible exact hck.symm) | (rw [hF]; done) | (rw [hF]; with_reducible exact h54.symm) | (rw [hF]; with_reducible exact h55.symm) | (rw [hF]; rfl) | (rw [Za.2 h22]; rfl) | trivial
         refine ⟨?_, ?_⟩
         ·first | (with_reducible rfl) | (with_reducible exact hck.symm) | (rw [hF]; done) | (rw [hF]; with_reducible exact h54.symm) | (rw [hF]; with_reducible exact h55.symm) | (rw [hF]; rfl) | (rw [Za.2 h22]; rfl) | trivial
         refine ⟨?_, ?_⟩
         ·first | (with_reducible rfl) | (with_reducible exact hck.symm) | (rw [hF]; done) | (rw [hF]; with_reducible exact h54.symm) | (rw [hF]; with_reducible exact h55.symm) | (rw [hF]; rfl) | (rw [Za.2 h22]; rfl) | trivial
         refine ⟨?_, ?_⟩
         ·first | (with_reducible rfl) | (with_reducible exact hck.symm) | (rw [hF]; done) | (rw [hF]; with_reducible exact h54.symm) | (rw [hF]; with_reducible exact h55.symm) | (rw [hF]; rfl) | (rw [Za.2 h22]; rfl) | trivial
         refine ⟨?_, ?_⟩
         ·first | (with_reducible rfl) | (with_reducible exact hck.symm) | (rw [hF]; done) | (rw [hF]; with_reducible exact h54.symm) | (rw [hF]; with_reducible exact h55.symm) | (rw [hF]; rfl) | (rw [Za.2 h22]; rfl) | trivial
         refine ⟨?_, ?_⟩
         ·first | (with_reducible rfl) | (with_reducible exact hck.symm) | (rw [hF]; done) | (rw [hF]; with_reducible exact h54.symm) | (rw [hF]; with_reducible exact h55.symm) | (rw [hF]; rfl) | (rw [Za.2 h22]; rfl) | trivial
         trivial
       ·skip
        intro h710
        refine ⟨?_, ?_⟩
        ·skip
         intro h712
         refine ⟨?_, ?_⟩
         ·skip
          intro h714
          have hF := htold 1 (ZMI hj (.inl h712) hnop)
          refine ⟨?_, ?_⟩
          ·first | (with_reducible rfl) | (with_reducible exact hck.symm) | (rw [hF]; done) | (rw [hF]; with_reducible exact h54.symm) | (rw [hF]; with_reducible exact h55.symm) | (rw [hF]; rfl) | (rw [Za.2 h22]; rfl) | trivial
          refine ⟨?_, ?_⟩
          ·first | (with_reducible rfl) | (with_reducible exact hck.symm) | (rw [hF]; done) | (rw [hF]; with_reducible exact h54.symm) | (rw [hF]; with_reducible exact h55.symm) | (rw [hF]; rfl) | (rw [Za.2 h22]; rfl) | trivial
          refine ⟨?_, ?_⟩
          ·first | (with_reducible rfl) | (with_reducible exact hck.symm) | (rw [hF]; done) | (rw [hF]; with_reducible exact h54.symm) | (rw [hF]; with_reducible exact h55.symm) | (rw [hF]; rfl) | (rw [Za.2 h22]; rfl) | trivial
          refine ⟨?_, ?_⟩
          ·first | (with_reducible rfl) | (with_reducible exact hck.symm) | (rw [hF]; done) | (rw [hF]; with_reducible exact h54.symm) | (rw [hF]; with_reducible exact h55.symm) | (rw [hF]; rfl) | (rw [Za.2 h22]; rfl) | trivial
          refine ⟨?_, ?_⟩
          ·first | (with_reducible rfl) | (with_reducible exact hck.symm) | (rw [hF]; done) | (rw [hF]; with_reducible exact h54.symm) | (rw [hF]; with_reducible exact h55.symm) | (rw [hF]; rfl) | (rw [Za.2 h22]; rfl) | trivial
          refine ⟨?_, ?_⟩
          ·first | (with_reducible rfl) | (with_reducible exact hck.symm) | (rw [hF]; done) | (rw [hF]; with_reducible exact h54.symm) | (rw [hF]; with_reducible exact h55.symm) | (rw [hF]; rfl) | (rw [Za.2 h22]; rfl) | trivial
          refine ⟨?_, ?_⟩
          ·first | (with_reducible rfl) | (with_reducible exact hck.symm) | (rw [hF]; done) | (rw [hF]; with_reducible exact h54.symm) | (rw [hF]; with_reducible exact h55.symm) | (rw [hF]; rfl) | (rw [Za.2 h22]; rfl) | trivial
          refine ⟨?_, ?_⟩
          ·first | (with_reducible rfl) | (with_reducible exact hck.symm) | (rw [hF]; done) | (rw [hF]; with_reducible exact h54.symm) | (rw [hF]; with_reducible exact h55.symm) | (rw [hF]; rfl) | (rw [Za.2 h22]; rfl) | trivial
          refine ⟨?_, ?_⟩
          ·first | (with_reducible rfl) | (with_reducible exact hck.symm) | (rw [hF]; done) | (rw [hF]; with_reducible exact h54.symm) | (rw [hF]; with_reducible exact h55.symm) | (rw [hF]; rfl) | (rw [Za.2 h22]; rfl) | trivial
          refine ⟨?_, ?_⟩
          ·first | (with_reducible rfl) | (with_reducible exact hck.symm) | (rw [hF]; done) | (rw [hF]; with_reducible exact h54.symm) | (rw [hF]; with_reducible exact h55.symm) | (rw [hF]; rfl) | (rw [Za.2 h22]; rfl) | trivial
          trivial
         ·skip
          trivial
        ·skip
         intro h729
         refine ⟨?_, ?_⟩
         ·skip
          intro h731
          have hF := htold 1 (ZMI hj (.inr h731) hnop)
          refine ⟨?_, ?_⟩
          ·first | (with_reducible rfl) | (with_reducible exact hck.symm) | (rw [hF]; done) | (rw [hF]; with_reducible exact h54.symm) | (rw [hF]; with_reducible exact h55.symm) | (rw [hF]; rfl) | (rw [Za.2 h22]; rfl) | trivial
          refine ⟨?_, ?_⟩
          ·first | (with_reducible rfl) | (with_reducible exact hck.symm) | (rw [hF]; done) | (rw [hF]; with_reducible exact h54.symm) | (rw [hF]; with_reducible exact h55.symm) | (rw [hF]; rfl) | (rw [Za.2 h22]; rfl) | trivial
          refine ⟨?_, ?_⟩
          ·first | (with_reducible rfl) | (with_reducible exact hck.symm) | (rw [hF]; done) | (rw [hF]; with_reducible exact h54.symm) | (rw [hF]; with_reducible exact h55.symm) | (rw [hF]; rfl) | (rw [Za.2 h22]; rfl) | trivial
          refine ⟨?_, ?_⟩
          ·first | (with_reducible rfl) | (with_reducible exact hck.symm) | (rw [hF]; done) | (rw [hF]; with_reducible exact h54.symm) | (rw [hF]; with_reducible exact h55.symm) | (rw [hF]; rfl) | (rw [Za.2 h22]; rfl) | trivial
          refine ⟨?_, ?_⟩
          ·first | (with_reducible rfl) | (with_reducible exact hck.symm) | (rw [hF]; done) | (rw [hF]; with_reducible exact h54.symm) | (rw [hF]; with_reducible exact h55.symm) | (rw [hF]; rfl) | (rw [Za.2 h22]; rfl) | trivial
          refine ⟨?_, ?_⟩
          ·first | (with_reducible rfl) | (with_reducible exact hck.symm) | (rw [hF]; done) | (rw [hF]; with_reducible exact h54.symm) | (rw [hF]; with_reducible exact h55.symm) | (rw [hF]; rfl) | (rw [Za.2 h22]; rfl) | trivial
          refine ⟨?_, ?_⟩
          ·first | (with_reducible rfl) | (with_reducible exact hck.symm) | (rw [hF]; done) | (rw [hF]; with_reducible exact h54.symm) | (rw [hF]; with_reducible exact h55.symm) | (rw [hF]; rfl) | (rw [Za.2 h22]; rfl) | trivial
          refine ⟨?_, ?_⟩
          ·first | (with_reducible rfl) | (with_reducible exact hck.symm) | (rw [hF]; done) | (rw [hF]; with_reducible exact h54.symm) | (rw [hF]; with_reducible exact h55.symm) | (rw [hF]; rfl) | (rw [Za.2 h22]; rfl) | trivial
          refine ⟨?_, ?_⟩
          ·first | (with_reducible rfl) | (with_reducible exact hck.symm) | (rw [hF]; done) | (rw [hF]; with_reducible exact h54.symm) | (rw [hF]; with_reducible exact h55.symm) | (rw [hF]; rfl) | (rw [Za.2 h22]; rfl) | trivial
          refine ⟨?_, ?_⟩
          ·first | (with_reducible rfl) | (with_reducible exact hck.symm) | (rw [hF]; done) | (rw [hF]; with_reducible exact h54.symm) | (rw [hF]; with_reducible exact h55.symm) | (rw [hF]; rfl) | (rw [Za.2 h22]; rfl) | trivial
          trivial
         ·skip
          intro h744
          refine ⟨?_, ?_⟩
          ·skip
           intro h746
           have hF := htold 1 (st6b hj h746 hnop)
           refine ⟨?_, ?_⟩
           ·first | (with_reducible rfl) | (with_reducible exact hck.symm) | (rw [hF]; done) | (rw [hF]; with_reducible exact h54.symm) | (rw [hF]; with_reducible exact h55.symm) | (rw [hF]; rfl) | (rw [Za.2 h22]; rfl) | trivial
           refine ⟨?_, ?_⟩
           ·first | (with_reducible rfl) | (with_reducible exact hck.symm) | (rw [hF]; done) | (rw [hF]; with_reducible exact h54.symm) | (rw [hF]; with_reducible exact h55.symm) | (rw [hF]; rfl) | (rw [Za.2 h22]; rfl) | trivial
           refine ⟨?_, ?_⟩
           ·first | (with_reducible rfl) | (with_reducible exact hck.symm) | (rw [hF]; done) | (rw [hF]; with_reducible exact h54.symm) | (rw [hF]; with_reducible exact h55.symm) | (rw [hF]; rfl) | (rw [Za.2 h22]; rfl) | trivial
           refine ⟨?_, ?_⟩
           ·first | (with_reducible rfl) | (with_reducible exact hck.symm) | (rw [hF]; done) | (rw [hF]; with_reducible exact h54.symm) | (rw [hF]; with_reducible exact h55.symm) | (rw [hF]; rfl) | (rw [Za.2 h22]; rfl) | trivial
           refine ⟨?_, ?_⟩
           ·first | (with_reducible rfl) | (with_reducible exact hck.symm) | (rw [hF]; done) | (rw [hF]; with_reducible exact h54.symm) | (rw [hF]; with_reducible exact h55.symm) | (rw [hF]; rfl) | (rw [Za.2 h22]; rfl) | trivial
           refine ⟨?_, ?_⟩
           ·first | (with_reducible rfl) | (with_reducible exact hck.symm) | (rw [hF]; done) | (rw [hF]; with_reducible exact h54.symm) | (rw [hF]; with_reducible exact h55.symm) | (rw [hF]; rfl) | (rw [Za.2 h22]; rfl) | trivial
           refine ⟨?_, ?_⟩
           ·first | (with_reducible rfl) | (with_reducible exact hck.symm) | (rw [hF]; done) | (rw [hF]; with_reducible exact h54.symm) | (rw [hF]; with_reducible exact h55.symm) | (rw [hF]; rfl) | (rw [Za.2 h22]; rfl) | trivial
           refine ⟨?_, ?_⟩
           ·first | (with_reducible rfl) | (with_reducible exact hck.symm) | (rw [hF]; done) | (rw [hF]; with_reducible exact h54.symm) | (rw [hF]; with_reducible exact h55.symm) | (rw [hF]; rfl) | (rw [Za.2 h22]; rfl) | trivial
           refine ⟨?_, ?_⟩
           ·first | (with_reducible rfl) | (with_reducible exact hck.symm) | (rw [hF]; done) | (rw [hF]; with_reducible exact h54.symm) | (rw [hF]; with_reducible exact h55.symm) | (rw [hF]; rfl) | (rw [Za.2 h22]; rfl) | trivial
           refine ⟨?_, ?_⟩
           ·first | (with_reducible rfl) | (with_reducible exact hck.symm) | (rw [hF]; done) | (rw [hF]; with_reducible exact h54.symm) | (rw [hF]; with_reducible exact h55.symm) | (rw [hF]; rfl) | (rw [Za.2 h22]; rfl) | trivial
           trivial
          ·skip
           intro h759
           refine ⟨?_, ?_⟩
           ·skip
            intro h761
            refine ⟨?_, ?_⟩
            ·first | omega | trivial | (with_reducible assumption)
            refine ⟨?_, ?_⟩
            ·first | omega | trivial | (with_reducible assumption)
            refine ⟨?_, ?_⟩
            ·exact h560
            refine ⟨?_, ?_⟩
            ·exact .inl h629
            intro v766
            intro h767
            refine ⟨?_, ?_⟩
            ·skip
             intro h769
             have hbad : False := by
              rw [h769] at h767
              obtain ⟨b', hb1, hb2⟩ := h560 _ ((Zi (p := _ ∈ v44)).mp h767.symm)
              injection hb1 with hb1
              obtain ⟨k, hk, rfl⟩ := hb2
              have := h58.2.2 _ (ZwD hk)
              omega
             refine ⟨?_, ?_⟩
             ·exact hbad.elim
             exact hbad.elim
            ·skip
             intro h773
             have hnf : ¬ J ∈ B.fal := fun hm => hJn (hw.fi J hm)
             have hF := htold 1 (ZKm hj h761 (.inl ⟨hnop, hnf⟩))
             refine ⟨?_, ?_⟩
             ·first | (with_reducible rfl) | (with_reducible exact hck.symm) | (rw [hF]; done) | (rw [hF]; with_reducible exact h54.symm) | (rw [hF]; with_reducible exact h55.symm) | (rw [hF]; rfl) | (rw [Za.2 h22]; rfl) | trivial
             refine ⟨?_, ?_⟩
             ·first | (with_reducible rfl) | (with_reducible exact hck.symm) | (rw [hF]; done) | (rw [hF]; with_reducible exact h54.symm) | (rw [hF]; with_reducible exact h55.symm) | (rw [hF]; rfl) | (rw [Za.2 h22]; rfl) | trivial
             refine ⟨?_, ?_⟩
             ·first | (with_reducible rfl) | (with_reducible exact hck.symm) | (rw [hF]; done) | (rw [hF]; with_reducible exact h54.symm) | (rw [hF]; with_reducible exact h55.symm) | (rw [hF]; rfl) | (rw [Za.2 h22]; rfl) | trivial
             refine ⟨?_, ?_⟩
             ·first | (with_reducible rfl) | (with_reducible exact hck.symm) | (rw [hF]; done) | (rw [hF]; with_reducible exact h54.symm) | (rw [hF]; with_reducible exact h55.symm) | (rw [hF]; rfl) | (rw [Za.2 h22]; rfl) | trivial
             refine ⟨?_, ?_⟩
             ·first | (with_reducible rfl) | (with_reducible exact hck.symm) | (rw [hF]; done) | (rw [hF]; with_reducible exact h54.symm) | (rw [hF]; with_reducible exact h55.symm) | (rw [hF]; rfl) | (rw [Za.2 h22]; rfl) | trivial
             refine ⟨?_, ?_⟩
             ·first | (with_reducible rfl) | (with_reducible exact hck.symm) | (rw [hF]; done) | (rw [hF]; with_reducible exact h54.symm) | (rw [hF]; with_reducible exact h55.symm) | (rw [hF]; rfl) | (rw [Za.2 h22]; rfl) | trivial
             refine ⟨?_, ?_⟩
             ·first | (with_reducible rfl) | (with_reducible exact hck.symm) | (rw [hF]; done) | (rw [hF]; with_reducible exact h54.symm) | (rw [hF]; with_reducible exact h55.symm) | (rw [hF]; rfl) | (rw [Za.2 h22]; rfl) | trivial
             refine ⟨?_, ?_⟩
             ·first | (with_reducible rfl) | (with_reducible exact hck.symm) | (rw [hF]; done) | (rw [hF]; with_reducible exact h54.symm) | (rw [hF]; with_reducible exact h55.symm) | (rw [hF]; rfl) | (rw [Za.2 h22]; rfl) | trivial
             refine ⟨?_, ?_⟩
             ·first | (with_reducible rfl) | (with_reducible exact hck.symm) | (rw [hF]; done) | (rw [hF]; with_reducible exact h54.symm) | (rw [hF]; with_reducible exact h55.symm) | (rw [hF]; rfl) | (rw [Za.2 h22]; rfl) | trivial
             refine ⟨?_, ?_⟩
             ·first | (with_reducible rfl) | (with_reducible exact hck.symm) | (rw [hF]; done) | (rw [hF]; with_reducible exact h54.symm) | (rw [hF]; with_reducible exact h55.symm) | (rw [hF]; rfl) | (rw [Za.2 h22]; rfl) | trivial
             trivial
           ·skip
            intro h786
            refine ⟨?_, ?_⟩
            ·skip
             intro h788
             intro v789
             intro h790
             refine ⟨?_, ?_⟩
             ·first | omega | trivial | (with_reducible assumption)
             refine ⟨?_, ?_⟩
             ·rw [ZlJ (Zex h58.1)]; exact List.Perm.nil
             refine ⟨?_, ?_⟩
             ·exact ⟨by rw [ZhX h58.1]; exact hw.nd, fun _ q => q⟩
             refine ⟨?_, ?_⟩
             ·exact congrArg (fun q => U.g (GG.tx q)) (Znb (Zex h58.1))
             intro v795
             intro v796
             intro v797
             intro v798
             intro v799
             intro v800
             intro h801
             intro h802
             intro h803
             intro h804
             intro h805
             have hFl2 : v800.length <= B.txs.length := by have q := h804.length_eq; rw [hlr] at q; have := Zhg v795 B.txs 0; omega
             refine ⟨?_, ?_⟩
             ·skip
              intro h807
              have hM : v795 = [] := ZN8 (by omega)
              have hst := hsu.trans (st7 hj h788)
              refine ⟨?_, ?_⟩
              ·omega
              refine ⟨?_, ?_⟩
              ·omega
              refine ⟨?_, ?_⟩
              ·omega
              refine ⟨?_, ?_⟩
              ·omega
              refine ⟨?_, ?_⟩
              ·omega
              refine ⟨?_, ?_⟩
              ·first | (simp only [hst, hlr]; first | omega | assumption | done) | (simp only [hst, hlr]; done)
              refine ⟨?_, ?_⟩
              ·first | (simp only [hst, hlr]; first | omega | assumption | done) | (simp only [hst, hlr]; done)
              refine ⟨?_, ?_⟩
              ·first | (simp only [hst, hlr]; first | omega | assumption | done) | (simp only [hst, hlr]; done)
              refine ⟨?_, ?_⟩
              ·first | (simp only [hst, hlr]; first | omega | assumption | done) | (simp only [hst, hlr]; done)
              refine ⟨?_, ?_⟩
              ·rw [hst, Zhi h803]; rw [hM, Zem] at h804; exact h804
              refine ⟨?_, ?_⟩
              ·rw [hst]; exact h54
              refine ⟨?_, ?_⟩
              ·rw [hst]; exact h55
              refine ⟨?_, ?_⟩
              ·rw [hst, hM]; rfl
              refine ⟨?_, ?_⟩
              ·rw [hst]
              refine ⟨?_, ?_⟩
              ·rw [hst, Zhi h803]
              refine ⟨?_, ?_⟩
              ·rw [hst]; exact congrArg U.amap (Zps h803 (by rw [List.map_map]; rfl))
              refine ⟨?_, ?_⟩
              ·first | (simp only [hst, hlr]; first | omega | assumption | done) | (simp only [hst, hlr]; done)
              refine ⟨?_, ?_⟩
              ·first | (simp only [hst, hlr]; first | omega | assumption | done) | (simp only [hst, hlr]; done)
              trivial
             ·skip
              intro v828
              intro h829
              have hjk0 := h805.2 _ h829
              have hAk := Zcq (w := v828) h58.1 0
              obtain ⟨j, hjd⟩ : ∃ j, ixL v828 B.txs = j := ⟨_, rfl⟩
              rw [hjd] at hAk
              have hjl : j < B.txs.length := by rw [hAk.2] at hjk0; simpa using hjk0
              have hR22 : v797.length = v37.length := by have := congrArg List.length h803; simpa using this
              have hjR : j < v797.length := by have := h58.1; omega
              have hg0 : g0 (v797.getD j []) = g0 (v37.getD j []) := by rw [<- ZdB g0 v797, <- ZdB g0 v37, h803]
              have hmk : YQ 0 (ZfF v37 B.txs) v828 = g0 (v797.getD j []) := by rw [hAk.1, if_pos hjl, hg0]
              have hrj := Zbg (R := v797) (by rw [h803]; exact h58.2.1) hjR
              have hwj : (B.txs.getD j tx0).who = v828 := by have := Zbe (w := v828) (L := B.txs) (by omega); rw [hjd] at this; exact this
              have hgj : (ZcX B.txs v795).getD j tx0 = B.txs.getD j tx0 := by rw [ZeL _ _ hjl, hwj, if_pos h829]
              have hsl := ZeR B.txs v795
              simp only [hmk, hrj, ZN0, Zdf]
              refine ⟨?_, ?_⟩
              ·exact ⟨j, hjR, rfl⟩
              intro h831
              intro h832
              intro h833
              intro h834
              intro h835
              intro h836
              intro h837
              intro h838
              intro h839
              refine ⟨?_, ?_⟩
              ·first | omega | trivial | (with_reducible assumption)
              refine ⟨?_, ?_⟩
              ·skip
               intro h842
               rw [hgj] at h842
               intro h843
               intro h844
               intro h845
               intro h846
               intro h847
               intro h848
               intro h849
               intro h850
               intro h851
               refine ⟨?_, ?_⟩
               ·first | omega | trivial | (with_reducible assumption)
               refine ⟨?_, ?_⟩
               ·first | omega | trivial | (with_reducible assumption)
               refine ⟨?_, ?_⟩
               ·first | omega | trivial | (with_reducible assumption)
               refine ⟨?_, ?_⟩
               ·first | omega | trivial | (with_reducible assumption)
               intro v856
               intro h857
               refine ⟨?_, ?_⟩
               ·first | omega | trivial | (with_reducible assumption)
               refine ⟨?_, ?_⟩
               ·first | omega | trivial | (with_reducible assumption)
               intro v860
               intro v861
               intro h862
               intro h863
               refine ⟨?_, ?_⟩
               ·have := ZdY h829; omega
               refine ⟨?_, ?_⟩
               ·rw [Zgw hjR]; exact (YP (f := g0) (d := []) (x := g0 (v797.getD j []) :: _) rfl hjR).trans h803
               refine ⟨?_, ?_⟩
               ·refine (h804.append_right _).trans ?_
                rw [hg0, <- ZeU]
                exact ZeX (Znu h805.1 hw.nd hjd hjl h829 h842)
               refine ⟨?_, ?_⟩
               ·exact ⟨Zb5 h805.1 _, fun q hq => h805.2 q (by rw [Za3 h805.1] at hq; simp only [Bool.and_eq_true] at hq; exact hq.2)⟩
               refine ⟨?_, ?_⟩
               ·rw [Zgc (by rw [hsl]; exact hjl), Zh2 h805.1 hw.nd hjd hjl h829, hgj]; rfl
               trivial
              ·skip
               intro h871
               rw [hgj] at h871
               refine ⟨?_, ?_⟩
               ·have := ZdY h829; omega
               refine ⟨?_, ?_⟩
               ·exact h804.trans (ZeX (Zjc h805.1 hw.nd hjd hjl h871))
               refine ⟨?_, ?_⟩
               ·exact ⟨Zb5 h805.1 _, fun q hq => h805.2 q (by rw [Za3 h805.1] at hq; simp only [Bool.and_eq_true] at hq; exact hq.2)⟩
               refine ⟨?_, ?_⟩
               ·exact congrArg (fun q => U.g (GG.tx q)) (Zji h805.1 hw.nd hjd hjl h829 (by rw [hgj]; exact h871))
               trivial
            ·skip
             intro h878
             have hst := hsu.trans (st0 hj ⟨h664, h710, h729, h744, h786, h759, h878⟩)
             refine ⟨?_, ?_⟩
             ·omega
             refine ⟨?_, ?_⟩
             ·omega
             refine ⟨?_, ?_⟩
             ·omega
             refine ⟨?_, ?_⟩
             ·omega
             refine ⟨?_, ?_⟩
             ·omega
             refine ⟨?_, ?_⟩
             ·first | (simp only [hst, hlr, ZNY, ZNH]; first | omega | assumption | done) | (simp only [hst, hlr, ZNY, ZNH]; done)
             refine ⟨?_, ?_⟩
             ·first | (simp only [hst, hlr, ZNY, ZNH]; first | omega | assumption | done) | (simp only [hst, hlr, ZNY, ZNH]; done)
             refine ⟨?_, ?_⟩
             ·first | (simp only [hst, hlr, ZNY, ZNH]; first | omega | assumption | done) | (simp only [hst, hlr, ZNY, ZNH]; done)
             refine ⟨?_, ?_⟩
             ·first | (simp only [hst, hlr, ZNY, ZNH]; first | omega | assumption | done) | (simp only [hst, hlr, ZNY, ZNH]; done)
             refine ⟨?_, ?_⟩
             ·first | (rw [hst]; exact h53)
             refine ⟨?_, ?_⟩
             ·first | (rw [hst]; exact h54)
             refine ⟨?_, ?_⟩
             ·first | (rw [hst]; exact h55)
             refine ⟨?_, ?_⟩
             ·first | (rw [hst]; done) | (rw [hst]; rfl)
             refine ⟨?_, ?_⟩
             ·first | (rw [hst]; done) | (rw [hst]; rfl)
             refine ⟨?_, ?_⟩
             ·first | (rw [hst]; done) | (rw [hst]; rfl)
             refine ⟨?_, ?_⟩
             ·first | (rw [hst, Zas hJR hJl hwho]; done) | (rw [hst]; done)
             refine ⟨?_, ?_⟩
             ·first | (simp only [hst, hlr, ZNY, ZNH]; first | omega | assumption | done) | (simp only [hst, hlr, ZNY, ZNH]; done)
             refine ⟨?_, ?_⟩
             ·first | (simp only [hst, hlr, ZNY, ZNH]; first | omega | assumption | done) | (simp only [hst, hlr, ZNY, ZNH]; done)
             trivial
   ·skip
    intro h899
    have hF : Yj X X.length = B := by rw [show X.length = n by omega]; exact hB
    refine ⟨?_, ?_⟩
    ·first | (with_reducible rfl) | (with_reducible exact hck.symm) | (rw [hF]; done) | (rw [hF]; with_reducible exact h54.symm) | (rw [hF]; with_reducible exact h55.symm) | (rw [hF]; rfl) | (rw [Za.2 h22]; rfl) | trivial
    refine ⟨?_, ?_⟩
    ·first | (with_reducible rfl) | (with_reducible exact hck.symm) | (rw [hF]; done) | (rw [hF]; with_reducible exact h54.symm) | (rw [hF]; with_reducible exact h55.symm) | (rw [hF]; rfl) | (rw [Za.2 h22]; rfl) | trivial
    refine ⟨?_, ?_⟩
    ·first | (with_reducible rfl) | (with_reducible exact hck.symm) | (rw [hF]; done) | (rw [hF]; with_reducible exact h54.symm) | (rw [hF]; with_reducible exact h55.symm) | (rw [hF]; rfl) | (rw [Za.2 h22]; rfl) | trivial
    refine ⟨?_, ?_⟩
    ·first | (with_reducible rfl) | (with_reducible exact hck.symm) | (rw [hF]; done) | (rw [hF]; with_reducible exact h54.symm) | (rw [hF]; with_reducible exact h55.symm) | (rw [hF]; rfl) | (rw [Za.2 h22]; rfl) | trivial
    refine ⟨?_, ?_⟩
    ·first | (with_reducible rfl) | (with_reducible exact hck.symm) | (rw [hF]; done) | (rw [hF]; with_reducible exact h54.symm) | (rw [hF]; with_reducible exact h55.symm) | (rw [hF]; rfl) | (rw [Za.2 h22]; rfl) | trivial
    refine ⟨?_, ?_⟩
    ·first | (with_reducible rfl) | (with_reducible exact hck.symm) | (rw [hF]; done) | (rw [hF]; with_reducible exact h54.symm) | (rw [hF]; with_reducible exact h55.symm) | (rw [hF]; rfl) | (rw [Za.2 h22]; rfl) | trivial
    refine ⟨?_, ?_⟩
    ·first | (with_reducible rfl) | (with_reducible exact hck.symm) | (rw [hF]; done) | (rw [hF]; with_reducible exact h54.symm) | (rw [hF]; with_reducible exact h55.symm) | (rw [hF]; rfl) | (rw [Za.2 h22]; rfl) | trivial
    refine ⟨?_, ?_⟩
    ·first | (with_reducible rfl) | (with_reducible exact hck.symm) | (rw [hF]; done) | (rw [hF]; with_reducible exact h54.symm) | (rw [hF]; with_reducible exact h55.symm) | (rw [hF]; rfl) | (rw [Za.2 h22]; rfl) | trivial
    refine ⟨?_, ?_⟩
    ·first | (with_reducible rfl) | (with_reducible exact hck.symm) | (rw [hF]; done) | (rw [hF]; with_reducible exact h54.symm) | (rw [hF]; with_reducible exact h55.symm) | (rw [hF]; rfl) | (rw [Za.2 h22]; rfl) | trivial
    refine ⟨?_, ?_⟩
    ·first | (with_reducible rfl) | (with_reducible exact hck.symm) | (rw [hF]; done) | (rw [hF]; with_reducible exact h54.symm) | (rw [hF]; with_reducible exact h55.symm) | (rw [hF]; rfl) | (rw [Za.2 h22]; rfl) | trivial
    trivial
/-! ### Plain words -/
def ZeN (s : Int × Int) (i r : Int) : Int × Int := if i < s.1 then (i, r) else s
def Zn7 (l : List Int) : Int × Int := (l.getD 0 0, l.getD 1 0)
def ZF8 (s : Int × Int) (l : List Int) : Nat -> Int × Int
 | 0 => s
 | j + 1 => ZeN (ZF8 s l j) (l.getD j 0) 3
def YR (F : Int -> Int -> Prop) (n : Int) (s : Int × Int) : Prop := (s = (n, 0) /\ ∀ i r, ¬ F i r) \/ (s.2 ≠ 0 /\ F s.1 s.2 /\ ∀ i r, F i r -> s.1 <= i)
def ZCE (B : Bk) (left : List (Int × Int)) (i r : Int) : Prop := r = 3 /\ ∃ t ∈ B.txs, Zv left t.who = false /\ i ∈ t.bad
def Zo9 (B : Bk) (left : List (Int × Int)) : List Ent := B.out ++ (B.txs.filter fun t => !Zv left t.who && decide (t.com < 0)).flatMap (·.rds)
def SrtP (x y : List (List Int)) : Prop := y.Perm x /\ y.Pairwise fun a b => g0 a <= g0 b
def stF (B : Bk) : Nat -> Int -> Bool × (List UInt8 × Bool)
 | 0, _ => (false, vw 0)
 | k + 1, q => if Zv (B.txs.getD (B.kept.getD k 0) tx0).ch q = true then (true, vw (YQ 0 (B.txs.getD (B.kept.getD k 0) tx0).ch q)) else stF B k q
def Ziv (m : List (Int × Int)) (f : Int -> Bool × (List UInt8 × Bool)) : Prop := ∀ q, Zv m q = (f q).1 /\ vw (YQ 0 m q) = (f q).2
def Yb (f : Int -> Bool × (List UInt8 × Bool)) (r : Ent) : Bool := (Zbc r == ((f (kc r)).1 && (f (kc r)).2.2)) && (!Zbc r || YX r == (f (kc r)).2.1)
def Zvf (f : Ent -> Bool) (L : List (List Int)) (place : Int) : Nat -> Nat -> Int × Int -> Nat × (Int × Int)
 | 0, p, s => (p, s)
 | n + 1, p, s => if p < L.length /\ g0 (L.getD p []) < place then Zvf f L place n (p + 1) (if f ((L.getD p []).drop 1) = true then s else ZeN s (g0 (L.getD p [])) 4) else (p, s)
def Zgg (f : Ent -> Bool) (L : List (List Int)) (place : Int) (p : Nat) (s : Int × Int) : Nat × (Int × Int) := Zvf f L place (L.length - p) p s
def Zk5 (f : Ent -> Bool) (s : Int × Int) (l : List (List Int)) : Nat -> Int × Int
 | 0 => s
 | j + 1 => if f ((l.getD j []).drop 1) = true then Zk5 f s l j else ZeN (Zk5 f s l j) (g0 (l.getD j [])) 4
def Zad (B : Bk) (L : List (List Int)) (s : Int × Int) : Nat -> Nat × (Int × Int)
 | 0 => (0, s)
 | k + 1 =>
  let e := Zgg (Yb (stF B k)) L (B.txs.getD (B.kept.getD k 0) tx0).com (Zad B L s k).1 (Zad B L s k).2
  (e.1, Zk5 (Yb (stF B k)) e.2 (B.txs.getD (B.kept.getD k 0) tx0).rds (B.txs.getD (B.kept.getD k 0) tx0).rds.length)
theorem Zo1 {m : List (Int × Int)} {f : Int -> Bool × (List UInt8 × Bool)} (h : Ziv m f) (r : Ent) : Yc m r = Yb f r := by
 obtain ⟨h1, h2⟩ := h (kc r)
 have a := congrArg Prod.fst h2
 have b := congrArg Prod.snd h2
 have a : Yp ((YQ 0 m (kc r)).tdiv 2).toNat = (f (kc r)).2.1 := a
 have b : decide ((YQ 0 m (kc r)).tmod 2 = 0) = (f (kc r)).2.2 := b
 unfold Yc Yb
 rw [h1, a, b]
theorem ZA0 {f : Ent -> Bool} {L : List (List Int)} {place : Int} {p : Nat} (s : Int × Int) (h : p < L.length) (h2 : g0 (L.getD p []) < place) :
  Zgg f L place p s = Zgg f L place (p + 1) (if f ((L.getD p []).drop 1) = true then s else ZeN s (g0 (L.getD p [])) 4) := by
 unfold Zgg
 rw [show L.length - p = (L.length - (p + 1)) + 1 by omega]
 show (if _ then _ else _) = _
 rw [if_pos ⟨h, h2⟩]
theorem ZBd {f : Ent -> Bool} {L : List (List Int)} {place : Int} {p : Nat} (s : Int × Int) (h : ¬ (p < L.length /\ g0 (L.getD p []) < place)) : Zgg f L place p s = (p, s) := by
 unfold Zgg
 cases L.length - p with
 | zero => rfl
 | succ n => show (if _ then _ else _) = _; rw [if_neg h]
theorem ZsC {B : Bk} {k : Nat} {m c m' : List (Int × Int)} (h : Ziv m (stF B k)) (hc : c = (B.txs.getD (B.kept.getD k 0) tx0).ch) (hl : ZxR m c m') : Ziv m' (stF B (k + 1)) := by
 intro q
 obtain ⟨a, b⟩ := hl q
 obtain ⟨c1, c2⟩ := h q
 subst hc
 show _ = (if _ then _ else _ : Bool × (List UInt8 × Bool)).1 /\ _ = (if _ then _ else _ : Bool × (List UInt8 × Bool)).2
 rw [a, b]
 by_cases hq : Zv (B.txs.getD (B.kept.getD k 0) tx0).ch q = true
 ·rw [if_pos hq, if_pos hq, hq]; exact ⟨by simp, rfl⟩
 ·rw [if_neg hq, if_neg hq, c1, c2, show Zv (B.txs.getD (B.kept.getD k 0) tx0).ch q = false by simpa using hq]; exact ⟨by simp, rfl⟩
def ZlG (x : List Ent) : Bk := Yj x x.length
def ZI9 (a : List (List Int)) (m : List (Int × Int)) (l : List Int) : Nat × (Int × Int) := Zgg (Yc m) a (l.getD 3 0) (l.getD 0 0).toNat (l.getD 1 0, l.getD 2 0)
theorem ZwH (L : List (List Int)) (m : List (Int × Int)) (k a w pl : Int) : ZI9 L m [k, a, w, pl] = Zgg (Yc m) L pl k.toNat (a, w) := rfl
theorem Zk3 (r : List Int) : [r.getD 1 0, r.getD 2 0, ((Zj (Yp (r.getD 3 0).toNat) : Nat) : Int), ((Zj (Yp (r.getD 4 0).toNat) : Nat) : Int), b01 (!r.getD 5 0 == 0), r.getD 6 0] = nr (r.drop 1) := by cases r <;> rfl
structure JsSig (S : Sig GG) : Prop where
 jt : JtSig S
 u580 : ∀ a b c d, S.usr 580 a b c d = .bool (Zp (SrtP a.tR b.tR))
 u582 : ∀ a b c d, S.usr 582 a b c d = .int (ZeN (a.tI, b.tI) c.tI d.tI).1
 u583 : ∀ a b c d, S.usr 583 a b c d = .int (ZeN (a.tI, b.tI) c.tI d.tI).2
 u584 : ∀ a b c d, S.usr 584 a b c d = .int (ZF8 (Zn7 a.tN) b.tN c.tI.toNat).1
 u585 : ∀ a b c d, S.usr 585 a b c d = .int (ZF8 (Zn7 a.tN) b.tN c.tI.toNat).2
 u586 : ∀ a b c d, S.usr 586 a b c d = .bool (Zp (YR (ZCE (ZlG a.tR) b.tM) d.tI (Zn7 c.tN)))
 u587 : ∀ a b c d, S.usr 587 a b c d = .bool (Zp (c.tR.Perm (Zo9 (ZlG a.tR) b.tM)))
 u590 : ∀ a b c d, S.usr 590 a b c d = .int ((ZI9 a.tR b.tM c.tN).1 : Nat)
 u591 : ∀ a b c d, S.usr 591 a b c d = .int (ZI9 a.tR b.tM c.tN).2.1
 u592 : ∀ a b c d, S.usr 592 a b c d = .int (ZI9 a.tR b.tM c.tN).2.2
 u593 : ∀ a b c d, S.usr 593 a b c d = .int ((Zad (ZlG a.tR) b.tR (Zn7 c.tN) d.tI.toNat).1 : Nat)
 u594 : ∀ a b c d, S.usr 594 a b c d = .int (Zad (ZlG a.tR) b.tR (Zn7 c.tN) d.tI.toNat).2.1
 u595 : ∀ a b c d, S.usr 595 a b c d = .int (Zad (ZlG a.tR) b.tR (Zn7 c.tN) d.tI.toNat).2.2
 u596 : ∀ a b c d, S.usr 596 a b c d = .bool (Zp (Ziv c.tM (stF (ZlG a.tR) b.tI.toNat)))
 u597 : ∀ a b c d, S.usr 597 a b c d = .int (Zk5 (Yc d.tM) (Zn7 a.tN) b.tR c.tI.toNat).1
 u598 : ∀ a b c d, S.usr 598 a b c d = .int (Zk5 (Yc d.tM) (Zn7 a.tN) b.tR c.tI.toNat).2
theorem JsSig.of {S T : Sig GG} (h : JsSig S) (hu : T.usr = S.usr) (hp : T.prd = S.prd) : JsSig T := by
 constructor
 ·exact h.jt.of hu hp
 all_goals (rw [hu]; first | exact h.u580 | exact h.u582 | exact h.u583 | exact h.u584 | exact h.u585 | exact h.u586 | exact h.u587 | exact h.u590 | exact h.u591 | exact h.u592 | exact h.u593 | exact h.u594 | exact h.u595 | exact h.u596 | exact h.u597 | exact h.u598)
/-! ### Contracts -/
def srtX (x y : SX) : SX := usB 580 x y z0
def Zdj : Ctr := ⟨[.int, .rows, .int, .int, .int], [.one (.slice (ai 0) z0 z0 z0 (ai 2) (ai 3) 7), .one (.fn 21)], [rAr (ai 0) (rA 1) (ai 4)],
 [eLe z0 (ai 2), .f2 45 (ai 2) (Zg (rA 1)), eLe (ai 2) (ai 3), eLe (ai 2) (.int 140737488355328)], [.rows], .tup [], [rAr (ai 0) (rA 5) (ai 4)], [.f2 45 (Zg (rA 5)) (Zg (rA 1)), srtX (rA 1) (rA 5)]⟩
def ZxG : Ctr := ⟨[.int, .int, .int, .rows, .int], [.one (slC (ai 0) (ai 1) (ai 2) 7)], [rAr (ai 0) (rA 3) (ai 4)], [.f2 45 (ai 1) (Zg (rA 3)), eLe (ai 1) (ai 2), eLe (ai 1) mil, .f2 50 (eLe z0 (ai 0)) (.f2 45 (ai 1) z0)], [.int, .int], .one (slC (ai 5) (ai 1) (ai 6) 7),
 [rAr (ai 0) (rA 3) (ai 4), rAr (ai 5) (rA 3) (ai 6)], [eLe (ai 1) (ai 6), .f2 50 (eLe z0 (ai 5)) (.f2 45 (ai 1) z0)]⟩
def ZKc : Cx := { specs := [], anns := [(19, [(999999, .ghost ZJY [])])] }
def Zz4 : Ctr := ⟨[.int, .int, .int, .int, .int, .int], [.one (.int .i64 (ai 0)), .one (.int .i64 (ai 1)), .one (.ptr (ai 2) 0), .one (.ptr (ai 3) 0)], [.cel (ai 2) 0 [.int .i64 (ai 4)], .cel (ai 3) 0 [.int .i64 (ai 5)]], [], [], .tup [],
 [.cel (ai 2) 0 [.int .i64 (.us .int 582 (ai 4) (ai 5) (ai 0) (ai 1))], .cel (ai 3) 0 [.int .i64 (.us .int 583 (ai 4) (ai 5) (ai 0) (ai 1))]], []⟩
def ZNF : Cx := { specs := [], anns := [] }
def notS : List (Nat × List Ctr) := [(18, [Zz4])]
def clN (a b : SX) : SC := .cap (.cap (.fn 18) (.ptr a 0)) (.ptr b 0)
def endI : Inv := ⟨[.int, .int, .int, .int, .int, .int], [], [.cel (ai 1) 0 [.slice (ai 6) z0 (di 0) (di 1) (di 2) (di 3) 7], .cel (ai 4) 0 [.int .i64 (di 4)], .cel (ai 5) 0 [.int .i64 (di 5)]],
 [eLe z0 (di 0), eLe z0 (di 2), .f2 45 (.f2 40 (di 0) (di 2)) (Zg (rA 11)), eLe (di 2) (di 3)] ++
 [590, 591, 592].map fun k => .f2 45 (usI k (rA 11) (mA 14) (Zmo (di 0) (di 4) (di 5) (ai 0))) (usI k (rA 11) (mA 14) (Zmo (ai 7) (ai 15) (ai 16) (ai 0))), di 2⟩
def Zvx : Ctr := ⟨[.int, .int, .int, .int, .int, .int, .int, .int, .int, .int, .int, .rows, .int, .int, .amap, .int, .int], [.one (.int .i64 (ai 0)), .one (.ptr (ai 1) 0), .one (.ptr (ai 2) 0), .one (.ptr (ai 3) 0)],
 [.cel (ai 1) 0 [.slice (ai 6) z0 (ai 7) (ai 8) (ai 9) (ai 10) 7], rAr (ai 6) (rA 11) (ai 12), .cel (ai 2) 0 [.map (ai 13)], scC (ai 13) (mA 14), .cel (ai 3) 0 [clN (ai 4) (ai 5)], .cel (ai 4) 0 [.int .i64 (ai 15)], .cel (ai 5) 0 [.int .i64 (ai 16)]],
 [eLe z0 (ai 7), eLe z0 (ai 9), .f2 45 (.f2 40 (ai 7) (ai 9)) (Zg (rA 11)), eLe (ai 9) (ai 10), eLe (Zg (rA 11)) mil, eLe z0 (ai 13), .f2 50 (eLe z0 (ai 6)) (.f2 45 (ai 9) z0)], [.int, .int, .int], .tup [],
 [.cel (ai 1) 0 [.slice (ai 6) z0 (usI 590 (rA 11) (mA 14) (Zmo (ai 7) (ai 15) (ai 16) (ai 0))) (ai 17) (ai 18) (ai 19) 7], rAr (ai 6) (rA 11) (ai 12), .cel (ai 2) 0 [.map (ai 13)], scC (ai 13) (mA 14), .cel (ai 3) 0 [clN (ai 4) (ai 5)],
  .cel (ai 4) 0 [.int .i64 (usI 591 (rA 11) (mA 14) (Zmo (ai 7) (ai 15) (ai 16) (ai 0)))], .cel (ai 5) 0 [.int .i64 (usI 592 (rA 11) (mA 14) (Zmo (ai 7) (ai 15) (ai 16) (ai 0)))]],
 [eLe z0 (ai 18), eLe (ai 18) (ai 19), .f2 45 (.f2 40 (usI 590 (rA 11) (mA 14) (Zmo (ai 7) (ai 15) (ai 16) (ai 0))) (ai 18)) (Zg (rA 11))]⟩
def ZJ2 : Cx := { specs := notS ++ [(24, [ZjO])], anns := [(23, [(0, .inv endI)])] }
def ZH2 : SX := l z (a 0)
def ZAA : SX := e (a 1) z
def ZLe : VC := i (e (a 1) (.f1 32 (r 3))) (i (l (a 1) (a 2)) (i (l (a 1) (k 1000000)) (i (.f2 50 ZH2 ZAA) (.and (i (t (a 0) z) (n (l (a 1) z) (n (.f2 50 (.bool false) ZAA) (n (.f2 155 (r 3) (.f1 154 z)) (n ZAA .tt))))) (i ZH2 (u 5 .int (i (l z (a 5)) (n (l (.f2 42 (a 1) (k 72)) k1) (n (l z (a 1)) (n (l (a 1) (.f1 32 (r 3))) (u 6 .int (u 7 .int (i (l (a 1) (a 7)) (i (.f2 50 (l z (a 6)) ZAA) (n (.f2 155 (r 3) (.f2 115 (r 3) (a 1))) .tt)))))))))))))))
theorem ZKy : Zcl Try.prog ZKc 12 19 ZxG = ZLe := by kernel_rfl
def ZFU : SX := .us .int 583 (a 4) (a 5) (a 0) (a 1)
def ZGY : SX := .us .int 582 (a 4) (a 5) (a 0) (a 1)
def ZLa : VC := .and (i (t (a 0) (a 4)) (n (e ZFU (a 1)) (n (e ZGY (a 0)) .tt))) (i (l (a 4) (a 0)) (n (e ZFU (a 5)) (n (e ZGY (a 4)) .tt)))
theorem ZMD : Zcl Try.prog ZNF 12 18 Zz4 = ZLa := by kernel_rfl
def ZEa : SX := .f2 122 (a 0) (.f1 152 z)
def ZDa : SX := .f2 122 (a 7) (.f2 122 (a 15) (.f2 122 (a 16) ZEa))
def Zl6 : SX := x 590 (r 11) (m 14) ZDa
def Zqm : SX := x 591 (r 11) (m 14) ZDa
def Zq1 : SX := x 592 (r 11) (m 14) ZDa
def ZHY : SX := .f2 122 (a 21) (.f2 122 (a 22) ZEa)
def ZDs : SX := .f2 122 (a 17) ZHY
def ZAw : SX := .f3 112 (r 11) (a 17) z
def ZHI : SX := l z (a 20)
def ZJw : SX := l (k 1) (a 19)
def ZlM : SX := .f2 40 (a 19) (k (-1))
def ZyU : SX := t ZlM (a 19)
def Zs1 : SX := .f2 40 (a 17) (k 1)
def ZvC : SX := l z Zs1
def Zwh : SX := l z ZlM
def ZA3 : SX := e (.f2 40 (.f2 40 (a 17) ZlM) (k 1)) (.f1 32 (r 11))
def ZzU : SX := l ZlM (.f2 40 (a 20) (k (-1)))
def ZtE : SX := .f2 122 Zs1 (.f2 122 (.us .int 582 (a 21) (a 22) ZAw (k 4)) (.f2 122 (.us .int 583 (a 21) (a 22) ZAw (k 4)) ZEa))
def ZrS : SX := .f2 122 Zs1 ZHY
def Zwy : SX := e (.f2 40 Zl6 (a 19)) (.f1 32 (r 11))
def ZBL : SX := e Zq1 (a 22)
def ZAy : SX := e Zqm (a 21)
def Zy0 : SX := e Zl6 (a 17)
def ZMJ : VC := i (l z (a 7)) (i (l z (a 9)) (i (e (.f2 40 (a 7) (a 9)) (.f1 32 (r 11))) (i (l (a 9) (a 10)) (i (l (.f1 32 (r 11)) (k 1000000)) (i (l z (a 13)) (i (.f2 50 (l z (a 6)) (e (a 9) z)) (n (e Zl6 Zl6) (n (e Zqm Zqm) (n (e Zq1 Zq1) (u 17 .int (u 18 .int (u 19 .int (u 20 .int (u 21 .int (u 22 .int (i (l z (a 17)) (i (l z (a 19)) (i (e (.f2 40 (a 17) (a 19)) (.f1 32 (r 11))) (i (l (a 19) (a 20)) (i (e (x 590 (r 11) (m 14) ZDs) Zl6) (i (e (x 591 (r 11) (m 14) ZDs) Zqm) (i (e (x 592 (r 11) (m 14) ZDs) Zq1) (.and (i (t z (a 19)) (n (t (a 17) (.f1 32 (r 11))) (n (t z (a 20)) (.and (i (t ZAw (a 0)) (u 23 .bool (i (.f2 48 (q 23) (c 530 (m 14) (.f2 122 (.f3 112 (r 11) (a 17) (k 1)) (.f2 122 (.f3 112 (r 11) (a 17) (k 2)) (.f2 122 (.f1 35 (.f1 36 (.f3 112 (r 11) (a 17) (k 3)))) (.f2 122 (.f1 35 (.f1 36 (.f3 112 (r 11) (a 17) (k 4)))) (.f2 122 (.f1 3 (.f1 2 (e (.f3 112 (r 11) (a 17) (k 5)) z))) (.f2 122 (.f3 112 (r 11) (a 17) (k 6)) (.f1 152 z))))))))) (.and (i (.f1 2 (q 23)) (n ZHI (n ZJw (n ZyU (n ZvC (n Zwh (n ZA3 (n ZzU (n (e (x 590 (r 11) (m 14) ZtE) Zl6) (n (e (x 591 (r 11) (m 14) ZtE) Zqm) (n (e (x 592 (r 11) (m 14) ZtE) Zq1) .tt))))))))))) (i (.f1 2 (.f1 2 (q 23))) (n ZHI (n ZJw (n ZyU (n ZvC (n Zwh (n ZA3 (n ZzU (n (e (x 590 (r 11) (m 14) ZrS) Zl6) (n (e (x 591 (r 11) (m 14) ZrS) Zqm) (n (e (x 592 (r 11) (m 14) ZrS) Zq1) .tt))))))))))))))) (i (l (a 0) ZAw) (n Zwy (n ZBL (n ZAy (n Zy0 .tt))))))))) (i (l (a 19) z) (n Zwy (n ZBL (n ZAy (n Zy0 .tt))))))))))))))))))))))))))))
theorem ZMv : Zcl Try.prog ZJ2 12 23 Zvx = ZMJ := by kernel_rfl
theorem ZJ8 (S : Sig GG) (hS : JsSig S) : ZR S Try.prog 19 ZxG := by
 refine Zo S (C := ZKc) (fuel := 12) (YV trivial ⟨⟨⟨by decide, ZE8 S⟩, trivial⟩, trivial⟩ trivial) fun ρ => ?_
 rw [ZKy]
 simp only [ZLe, ZH2, ZAA, ZY, ZN0, VC.den, SX.den, Env.upd, ZaN, Yr, beq_iff_eq, ZNS, beq_eq_false_iff_ne, ne_eq, ZNR, ZNQ, Int.reduceToNat, Nat.reduceEqDiff, reduceIte, sB, sC]
 generalize (ρ 3).tR = R
 intro h1 h2 h3 h4
 refine ⟨fun h => ⟨by omega, .inr (by omega), ?_, by omega, trivial⟩, fun h i5 h5 => ⟨by omega, by omega, by omega, fun i6 i7 h6 h7 => ⟨?_, trivial⟩⟩⟩
 ·exact ZN8 (by omega)
 ·rw [h1]; simp
theorem ZFp (S : Sig GG) (hS : JsSig S) : ZR S Try.prog 18 Zz4 := by
 refine Zo S (C := ZNF) (fuel := 12) (YV trivial trivial trivial) fun ρ => ?_
 rw [ZMD]
 simp only [ZLa, ZFU, ZGY, hS.u582, hS.u583, ZY, ZN0, VC.den, SX.den, Env.upd, ZaN, Yr, beq_iff_eq, ZNS, beq_eq_false_iff_ne, ne_eq, ZNR, ZNQ, Int.reduceToNat, Nat.reduceEqDiff, reduceIte, sB, sC]
 refine ⟨fun h => ?_, fun h => ?_⟩
 ·rw [show ZeN ((ρ 4).tI, (ρ 5).tI) (ρ 0).tI (ρ 1).tI = ((ρ 0).tI, (ρ 1).tI) from if_pos h]; exact ⟨rfl, rfl, trivial⟩
 ·rw [show ZeN ((ρ 4).tI, (ρ 5).tI) (ρ 0).tI (ρ 1).tI = ((ρ 4).tI, (ρ 5).tI) from if_neg (by show ¬ (ρ 0).tI < (ρ 4).tI; omega)]; exact ⟨rfl, rfl, trivial⟩
theorem ZLd (S : Sig GG) (hS : JsSig S) : ZR S Try.prog 23 Zvx := by
 refine Zo S (C := ZJ2) (fuel := 12) (YV ⟨Zm (by decide) (ZFp S hS), Zm (by decide) (Zsp S hS.jt.jb), trivial⟩ ⟨⟨trivial, trivial⟩, trivial⟩ trivial) fun ρ => ?_
 rw [ZMv]
 simp only [ZMJ, ZEa, ZDa, Zl6, Zqm, Zq1, ZHY, ZDs, ZAw, ZHI, ZJw, ZlM, ZyU, Zs1, ZvC, Zwh, ZA3, ZzU, ZtE, ZrS, Zwy, ZBL, ZAy, Zy0, hS.jt.jb.u530, hS.u582, hS.u583, hS.u590, hS.u591, hS.u592, ZY, ZN0, VC.den, SX.den, Env.upd, ZaN, Yr, beq_iff_eq, ZNS, beq_eq_false_iff_ne, ne_eq, ZNR, ZNQ, Int.reduceToNat, Nat.reduceEqDiff, reduceIte, sB, sC]
 simp only [ZwH, Zk3, ZgF]
 generalize (ρ 11).tR = L
 generalize (ρ 14).tM = m
 generalize (ρ 0).tI = pl
 generalize hs : Zgg (Yc m) L pl (ρ 7).tI.toNat ((ρ 15).tI, (ρ 16).tI) = E0
 intro q1 q2 q3 q4 q5 q6 q7
 refine ⟨trivial, trivial, trivial, fun k z l c a w j1 j2 j3 j4 j5 j6 j7 => ?_⟩
 have stop : ¬ (k.toNat < L.length /\ g0 (L.getD k.toNat []) < pl) -> (E0.1 : Int) = k /\ E0.2.1 = a /\ E0.2.2 = w := fun h => by
  rw [ZBd _ h] at j5 j6 j7
  refine ⟨?_, j6.symm, j7.symm⟩
  rw [<- j5]; show ((k.toNat : Nat) : Int) = k; omega
 refine ⟨fun hl => ⟨by omega, by omega, fun hp b hb => ?_, fun hp => ?_⟩, fun hl => ?_⟩
 ·have st := ZA0 (f := Yc m) (a, w) (show k.toNat < L.length by omega) hp
  have e1 : (k + 1).toNat = k.toNat + 1 := by omega
  rw [st] at j5 j6 j7
  rw [e1]
  rw [hb]
  refine ⟨fun hn => ?_, fun hn => ?_⟩
  ·have hn : ¬ Yc m ((L.getD k.toNat []).drop 1) = true := by simpa using hn
   rw [if_neg hn] at j5 j6 j7
   exact ⟨by omega, by omega, by omega, by omega, by omega, by omega, by omega, j5, j6, j7, trivial⟩
  ·have hn : Yc m ((L.getD k.toNat []).drop 1) = true := by simpa using hn
   rw [if_pos hn] at j5 j6 j7
   exact ⟨by omega, by omega, by omega, by omega, by omega, by omega, by omega, j5, j6, j7, trivial⟩
 ·obtain ⟨a1, a2, a3⟩ := stop fun h => absurd h.2 (by show ¬ (L.getD k.toNat []).getD 0 0 < pl; omega)
  exact ⟨by omega, a3, a2, a1, trivial⟩
 ·obtain ⟨a1, a2, a3⟩ := stop fun h => absurd h.1 (by omega)
  exact ⟨by omega, a3, a2, a1, trivial⟩
def ZiP (w : Int) (s : Tx) (i : Int) (r : Ent) : Tx :=
 if xk r = 7 then { s with opn := false }
 else if xw r = w then (if xk r = 1 then ⟨w, i, -1, true, [], [], []⟩ else if xk r = 2 then rdT s i r else if xk r = 3 \/ xk r = 4 then { s with ch := YL s.ch (kc r) ((Zj (YX r) : Nat) * 2 + b01 (xk r == 4)) }
  else if xk r = 6 then { s with opn := false } else if xk r = 5 then { s with opn := false, com := i } else s)
 else s
def txN (x : List Ent) (w : Int) : Nat -> Tx
 | 0 => { tx0 with who := w, com := -1 }
 | n + 1 => ZiP w (txN x w n) n (xa x n)
theorem ZbP (x : List Ent) (w : Int) (n : Nat) : txN x w (n + 1) = ZiP w (txN x w n) n (xa x n) := rfl
theorem ZfL (t : Tx) (i : Int) (x : Ent) : (rdT t i x).opn = t.opn /\ (rdT t i x).com = t.com /\ (rdT t i x).ch = t.ch /\ (rdT t i x).who = t.who /\ (rdT t i x).beg = t.beg := by
 unfold rdT
 split
 ·split
  ·exact ⟨rfl, rfl, rfl, rfl, rfl⟩
  ·exact ⟨rfl, rfl, rfl, rfl, rfl⟩
 ·exact ⟨rfl, rfl, rfl, rfl, rfl⟩
theorem ZEP (x : List Ent) (w : Int) : ∀ n, (txN x w n).who = w
 | 0 => rfl
 | n + 1 => by
  have ih := ZEP x w n
  rw [ZbP]
  unfold ZiP
  repeat' split
  all_goals first | exact ih | rfl | (rw [(ZfL _ _ _).2.2.2.1]; exact ih)
theorem Zxb (x : List Ent) (w : Int) : ∀ n, (txN x w n).opn = (YD x w n).1
 | 0 => rfl
 | n + 1 => by
  have ih := Zxb x w n
  rw [ZbP, ZbE]
  unfold ZiP
  by_cases h7 : xk (xa x n) = 7
  ·rw [if_pos h7, if_neg (by omega), if_neg (by omega)]
   by_cases ho : (YD x w n).1 = true
   ·rw [if_pos ⟨h7, ho⟩]
   ·rw [if_neg (fun h => ho h.2)]; simpa using ho
  ·rw [if_neg h7, if_neg (fun h : xk (xa x n) = 7 /\ _ => h7 h.1)]
   by_cases hw : xw (xa x n) = w
   ·rw [if_pos hw]
    by_cases h1 : xk (xa x n) = 1
    ·rw [if_pos h1, if_pos ⟨h1, hw⟩]
    ·rw [if_neg h1, if_neg (fun h : xk (xa x n) = 1 /\ _ => h1 h.1)]
     by_cases h2 : xk (xa x n) = 2
     ·rw [if_pos h2, (ZfL _ _ _).1, if_neg (by omega)]; exact ih
     ·rw [if_neg h2]
      by_cases h3 : xk (xa x n) = 3 \/ xk (xa x n) = 4
      ·rw [if_pos h3, if_neg (by omega)]; exact ih
      ·rw [if_neg h3]
       by_cases h6 : xk (xa x n) = 6
       ·rw [if_pos h6, if_pos ⟨.inr h6, hw⟩]
       ·rw [if_neg h6]
        by_cases h5 : xk (xa x n) = 5
        ·rw [if_pos h5, if_pos ⟨.inl h5, hw⟩]
        ·rw [if_neg h5, if_neg (by omega)]; exact ih
   ·rw [if_neg hw, if_neg (fun h : xk (xa x n) = 1 /\ _ => hw h.2), if_neg (fun h : _ /\ xw (xa x n) = w => hw h.2)]; exact ih
theorem Zzc {x : List Ent} {w : Int} : ∀ {n : Nat}, ¬ 0 <= ZI x 1 w n -> YD x w n = (false, -1)
 | 0, _ => rfl
 | n + 1, h => by
  rw [Yh] at h
  by_cases h0 : 0 <= ZI x 1 w n
  ·rw [if_pos h0] at h; exact absurd h0 h
  ·rw [if_neg h0] at h
   have ih := Zzc h0
   by_cases h1 : xk (xa x n) = 1 /\ xw (xa x n) = w
   ·rw [if_pos h1] at h; exact absurd (show (0 : Int) <= n by omega) h
   ·rw [ZbE, if_neg h1, ih]
    split
    ·rfl
    ·rw [if_neg (fun h => by cases h.2)]
def NF (x : List Ent) (n : Nat) : Prop := ¬ 0 <= (Zcm x n).1 /\ ∀ i < n, Za2 (xa x i) = true
theorem NF.pred {x : List Ent} {n : Nat} (h : NF x (n + 1)) : NF x n /\ Zje x n = false /\ ZiQ x n = false /\ Za2 (xa x n) = true := by
 obtain ⟨h1, h2⟩ := h
 rw [Za8] at h1
 split at h1
 ·rename_i q; exact absurd q h1
 ·rename_i q
  split at h1
  ·exact absurd (show (0 : Int) <= n by omega) h1
  ·rename_i a
   split at h1
   ·exact absurd (show (0 : Int) <= n by omega) h1
   ·rename_i b
    exact ⟨⟨q, fun i hi => h2 i (by omega)⟩, by simpa using a, by simpa using b, h2 n (by omega)⟩
theorem NF.le {x : List Ent} {n : Nat} (h : NF x n) : ∀ {m : Nat}, m <= n -> NF x m := by
 induction n with
 | zero => intro m hm; rw [show m = 0 by omega]; exact h
 | succ n ih =>
  intro m hm
  rcases ZNN m (n + 1) with q | q
  ·exact ih h.pred.1 (by omega)
  ·rw [show m = n + 1 by omega]; exact h
theorem Zil {x : List Ent} {w : Int} (hw : 0 < w) : ∀ {n : Nat}, NF x n -> ¬ 0 <= ZI x 1 w n -> ZI x 5 w n = -1 /\ (∀ k, YE x w k n = -1) /\ ∀ i < n, xw (xa x i) = w -> xk (xa x i) ≠ 2
 | 0, _, _ => ⟨rfl, fun _ => rfl, fun i hi => absurd hi (Nat.not_lt_zero i)⟩
 | n + 1, h, hb => by
  obtain ⟨hn, ho, _, _⟩ := h.pred
  rw [Yh] at hb
  by_cases h0 : 0 <= ZI x 1 w n
  ·rw [if_pos h0] at hb; exact absurd h0 hb
  ·rw [if_neg h0] at hb
   have h1 : ¬ (xk (xa x n) = 1 /\ xw (xa x n) = w) := fun q => by rw [if_pos q] at hb; exact hb (by omega)
   obtain ⟨i1, i2, i3⟩ := Zil hw hn h0
   have hop := Zzc h0
   rw [Zc8] at ho
   have key : xw (xa x n) = w -> xk (xa x n) ≠ 2 /\ ¬ (xk (xa x n) = 3 \/ xk (xa x n) = 4) /\ xk (xa x n) ≠ 5 := fun hx => by
    rw [hx, hop] at ho
    refine ⟨fun h2 => ?_, fun h3 => ?_, fun h5 => ?_⟩
    ·rw [if_neg (by omega), if_pos h2] at ho; simp at ho; omega
    ·rw [if_neg (by omega), if_neg (by omega), if_pos (by omega)] at ho; simp at ho
    ·rw [if_neg (by omega), if_neg (by omega), if_neg (by omega), if_pos h5] at ho
     have : ZdI x (-1) n = false := by rw [ZnS]; rfl
     simp [this] at ho
   refine ⟨?_, fun k => ?_, fun i hi hx => ?_⟩
   ·rw [Yh, if_neg (by rw [i1]; omega), if_neg (fun q => (key q.2).2.2 q.1)]
   ·rw [Zcn, if_neg (fun q => (key q.2.1).2.1 q.1)]; exact i2 k
   ·rcases ZNN i n with q | q
    ·exact i3 i q hx
    ·rw [show i = n by omega] at hx ⊢
     exact (key hx).1
theorem Zha {x : List Ent} {w : Int} (hw : 0 < w) : ∀ {n : Nat}, NF x n -> (txN x w n).com = ZI x 5 w n
 | 0, _ => rfl
 | n + 1, h => by
  obtain ⟨hn, ho, _, _⟩ := h.pred
  have ih := Zha hw hn
  rw [ZbP, Yh]
  unfold ZiP
  rw [Zc8] at ho
  by_cases hx : xw (xa x n) = w
  ·by_cases h7 : xk (xa x n) = 7
   ·rw [if_pos h7, if_neg (by omega : ¬ (xk (xa x n) = 5 /\ _))]
    show (txN x w n).com = _
    rw [ih]; split
    ·rfl
    ·have := (Zcc x 5 w n).1; omega
   ·rw [if_neg h7, if_pos hx]
    by_cases h1 : xk (xa x n) = 1
    ·rw [if_pos h1] at ho ⊢
     rw [hx] at ho
     have hb : ¬ 0 <= ZI x 1 w n := by simpa using ho
     rw [(Zil hw hn hb).1, if_neg (by omega), if_neg (by omega)]
    ·rw [if_neg h1]
     by_cases h5 : xk (xa x n) = 5
     ·rw [if_neg (by omega), if_neg (by omega), if_neg (by omega), if_pos h5]
      rw [if_neg h1, if_neg (by omega), if_neg (by omega), if_pos h5, hx] at ho
      have hb : ¬ 0 <= ZI x 5 w n := fun q => by simp [q] at ho
      rw [if_neg hb, if_pos ⟨h5, hx⟩]
     ·have e : (if 0 <= ZI x 5 w n then ZI x 5 w n else if xk (xa x n) = 5 /\ xw (xa x n) = w then (n : Int) else -1) = ZI x 5 w n := by
       split
       ·rfl
       ·rw [if_neg (fun q => h5 q.1)]; have := (Zcc x 5 w n).1; omega
      rw [e]
      repeat' split
      all_goals first | exact ih | (rw [(ZfL _ _ _).2.1]; exact ih) | omega
  ·have e : (if 0 <= ZI x 5 w n then ZI x 5 w n else if xk (xa x n) = 5 /\ xw (xa x n) = w then (n : Int) else -1) = ZI x 5 w n := by
    split
    ·rfl
    ·rw [if_neg (fun q => hx q.2)]; have := (Zcc x 5 w n).1; omega
   rw [e]
   by_cases h7 : xk (xa x n) = 7
   ·rw [if_pos h7]; exact ih
   ·rw [if_neg h7, if_neg hx]; exact ih
def chIs (x : List Ent) (w : Int) (m : List (Int × Int)) (n : Nat) : Prop :=
 ∀ k : List UInt8, Zv m (Zj k : Nat) = decide (0 <= YE x w k n) /\ (0 <= YE x w k n -> vw (YQ 0 m (Zj k : Nat)) = (YX (xa x (YE x w k n).toNat), decide (xk (xa x (YE x w k n).toNat) = 3)))
theorem encB_inj' {a b : List UInt8} (h : ((Zj a : Nat) : Int) = (Zj b : Nat)) : a = b := by
 have : Zj a = Zj b := by omega
 rw [<- Zl a, this, Zl]
theorem Zw9 {x : List Ent} {w : Int} (hw : 0 < w) : ∀ {n : Nat}, NF x n -> chIs x w (txN x w n).ch n
 | 0, _ => fun k => ⟨rfl, fun h => absurd h (by show ¬ (0 : Int) <= -1; omega)⟩
 | n + 1, h => by
  obtain ⟨hn, ho, _, _⟩ := h.pred
  have ih := Zw9 hw hn
  have same : ∀ {m : List (Int × Int)}, m = (txN x w n).ch -> ¬ ((xk (xa x n) = 3 \/ xk (xa x n) = 4) /\ xw (xa x n) = w) -> chIs x w m (n + 1) := fun hm hno k => by
   rw [hm, Zcn, if_neg (fun q => hno ⟨q.1, q.2.1⟩)]; exact ih k
  rw [ZbP]
  unfold ZiP
  by_cases h7 : xk (xa x n) = 7
  ·rw [if_pos h7]; exact same rfl (by omega)
  ·rw [if_neg h7]
   by_cases hx : xw (xa x n) = w
   ·rw [if_pos hx]
    by_cases h1 : xk (xa x n) = 1
    ·rw [if_pos h1]
     rw [Zc8, if_pos h1, hx] at ho
     have hb : ¬ 0 <= ZI x 1 w n := by simpa using ho
     intro k
     rw [Zcn, if_neg (by omega), (Zil hw hn hb).2.1 k]
     exact ⟨rfl, fun h => absurd h (by omega)⟩
    ·rw [if_neg h1]
     by_cases h2 : xk (xa x n) = 2
     ·rw [if_pos h2]; exact same (ZfL _ _ _).2.2.1 (by omega)
     ·rw [if_neg h2]
      by_cases h3 : xk (xa x n) = 3 \/ xk (xa x n) = 4
      ·rw [if_pos h3]
       intro k
       show Zv (YL (txN x w n).ch (kc (xa x n)) _) _ = _ /\ (_ -> vw (YQ 0 (YL (txN x w n).ch (kc (xa x n)) _) _) = _)
       rw [Zcn, Zsq, Ztj]
       by_cases hk : ZL (xa x n) = k
       ·rw [if_pos ⟨h3, hx, hk⟩, if_pos (show kc (xa x n) = (Zj k : Nat) by unfold kc; rw [hk]), ZKS, ZN0]
        refine ⟨by simp [show kc (xa x n) = (Zj k : Nat) by unfold kc; rw [hk]], fun _ => ?_⟩
        rcases h3 with h | h <;> rw [h] <;> rfl
       ·have hne : ¬ kc (xa x n) = (Zj k : Nat) := fun q => hk (encB_inj' q)
        rw [if_neg (fun q => hk q.2.2), if_neg hne]
        simp only [hne, decide_false, Bool.false_or]
        exact ih k
      ·rw [if_neg h3]
       split
       ·exact same rfl (fun q => h3 q.1)
       ·split
        ·exact same rfl (fun q => h3 q.1)
        ·exact same rfl (fun q => h3 q.1)
   ·rw [if_neg hx]; exact same rfl (fun q => hx q.2)
theorem ZpU {r : Ent} (h : Za2 r = true) (hk : xk r = 2 \/ xk r = 4) (hn : Zbc r = false) : YX r = [] := by
 unfold Za2 at h
 rcases hk with hk | hk
 ·simp [hk, hn] at h; exact h.1.2
 ·simp [hk, hn] at h; exact h.1.2
theorem Zt4 (x : List Ent) (w : Int) (k : List UInt8) : ∀ n : Nat, YE x w k n < n /\ -1 <= YE x w k n /\ (0 <= YE x w k n -> xk (xa x (YE x w k n).toNat) = 3 \/ xk (xa x (YE x w k n).toNat) = 4)
 | 0 => ⟨by show (-1 : Int) < 0; omega, ZN4 _, fun h => absurd h (by show ¬ (0 : Int) <= -1; omega)⟩
 | n + 1 => by
  have ih := Zt4 x w k n
  rw [Zcn]
  split
  ·rename_i q
   exact ⟨by omega, by omega, fun _ => by rw [ZN0]; exact q.1⟩
  ·exact ⟨by omega, ih.2.1, ih.2.2⟩
theorem Zrd {r : Ent} (h : Za2 r = true) (hk : xk r = 4) : YX r = [] := by
 unfold Za2 at h
 simp [hk] at h
 exact h.1.1.2
def ZFX (x : List Ent) (n : Nat) : Bool := (Zbc (xa x n) == decide (xk (xa x (YE x (xw (xa x n)) (ZL (xa x n)) n).toNat) = 3)) && (YX (xa x n) == YX (xa x (YE x (xw (xa x n)) (ZL (xa x n)) n).toNat))
theorem ZC3 {x : List Ent} {n : Nat} {m : List (Int × Int)} (hm : ∀ i ≤ n, Za2 (xa x i) = true) (hk : xk (xa x n) = 2) (hc : chIs x (xw (xa x n)) m n) (hl : 0 <= YE x (xw (xa x n)) (ZL (xa x n)) n) : Yc m (xa x n) = ZFX x n := by
 obtain ⟨c1, c2⟩ := hc (ZL (xa x n))
 have c2 := c2 hl
 have a := congrArg Prod.fst c2
 have b := congrArg Prod.snd c2
 have a : Yp ((YQ 0 m (kc (xa x n))).tdiv 2).toNat = YX (xa x (YE x (xw (xa x n)) (ZL (xa x n)) n).toNat) := a
 have b : decide ((YQ 0 m (kc (xa x n))).tmod 2 = 0) = decide (xk (xa x (YE x (xw (xa x n)) (ZL (xa x n)) n).toNat) = 3) := b
 have c1 : Zv m (kc (xa x n)) = true := by show Zv m (Zj (ZL (xa x n)) : Nat) = true; rw [c1]; simp [hl]
 obtain ⟨l1, _, l3⟩ := Zt4 x (xw (xa x n)) (ZL (xa x n)) n
 have l3 := l3 hl
 have hmj := hm (YE x (xw (xa x n)) (ZL (xa x n)) n).toNat (by omega)
 unfold Yc ZFX
 rw [c1, a, b]
 generalize (YE x (xw (xa x n)) (ZL (xa x n)) n).toNat = j at *
 cases hh : Zbc (xa x n)
 ·rcases l3 with h | h
  ·rw [h]; simp
  ·rw [h, ZpU (hm n (ZNJ n)) (.inl hk) hh, Zrd hmj h]; simp
 ·simp
theorem ZDP {i n : Nat} (hi : i < n + 1) (h : i ≠ n) : i < n := by omega
theorem ZeO {x : List Ent} {w : Int} (hw : 0 < w) : ∀ {n : Nat}, NF x n →
  (∀ r, r ∈ (txN x w n).rds ↔ ∃ i < n, xk (xa x i) = 2 /\ xw (xa x i) = w /\ YE x w (ZL (xa x i)) i < 0 /\ r = (i : Int) :: nr (xa x i)) ∧
  (∀ b, b ∈ (txN x w n).bad ↔ ∃ i < n, xk (xa x i) = 2 /\ xw (xa x i) = w /\ 0 <= YE x w (ZL (xa x i)) i /\ ZFX x i = false /\ b = (i : Int))
 | 0, _ => ⟨fun r => ⟨fun h => (nomatch h), fun ⟨i, hi, _⟩ => absurd hi (Nat.not_lt_zero i)⟩, fun r => ⟨fun h => (nomatch h), fun ⟨i, hi, _⟩ => absurd hi (Nat.not_lt_zero i)⟩⟩
 | n + 1, h => by
  obtain ⟨hn, ho, _, hmn⟩ := h.pred
  obtain ⟨ih1, ih2⟩ := ZeO hw hn
  have same : ∀ {t : Tx}, t.rds = (txN x w n).rds -> t.bad = (txN x w n).bad -> ¬ (xk (xa x n) = 2 /\ xw (xa x n) = w) →
    (∀ r, r ∈ t.rds ↔ ∃ i < n + 1, xk (xa x i) = 2 /\ xw (xa x i) = w /\ YE x w (ZL (xa x i)) i < 0 /\ r = (i : Int) :: nr (xa x i)) ∧
    (∀ b, b ∈ t.bad ↔ ∃ i < n + 1, xk (xa x i) = 2 /\ xw (xa x i) = w /\ 0 <= YE x w (ZL (xa x i)) i /\ ZFX x i = false /\ b = (i : Int)) := fun e1 e2 hno => by
   rw [e1, e2]
   refine ⟨fun r => (ih1 r).trans ⟨fun ⟨i, hi, q⟩ => ⟨i, by omega, q⟩, fun ⟨i, hi, q⟩ => ⟨i, ?_, q⟩⟩, fun r => (ih2 r).trans ⟨fun ⟨i, hi, q⟩ => ⟨i, by omega, q⟩, fun ⟨i, hi, q⟩ => ⟨i, ?_, q⟩⟩⟩
   all_goals (
    rcases ZNN i n with p | p
    ·exact p
    ·exfalso; rw [show i = n by omega] at q; exact hno ⟨q.1, q.2.1⟩)
  rw [ZbP]
  unfold ZiP
  by_cases h7 : xk (xa x n) = 7
  ·rw [if_pos h7]; exact same rfl rfl (by omega)
  ·rw [if_neg h7]
   by_cases hx : xw (xa x n) = w
   ·rw [if_pos hx]
    by_cases h1 : xk (xa x n) = 1
    ·rw [if_pos h1]
     rw [Zc8, if_pos h1, hx] at ho
     have hb : ¬ 0 <= ZI x 1 w n := by simpa using ho
     have no := (Zil hw hn hb).2.2
     refine ⟨fun r => ⟨fun h => (nomatch h), fun ⟨i, hi, q⟩ => ?_⟩, fun r => ⟨fun h => (nomatch h), fun ⟨i, hi, q⟩ => ?_⟩⟩
     all_goals (
      rcases ZNN i n with p | p
      ·exact absurd q.1 (no i p q.2.1)
      ·rw [show i = n by omega] at q; omega)
    ·rw [if_neg h1]
     by_cases h2 : xk (xa x n) = 2
     ·rw [if_pos h2]
      have hc := Zw9 hw hn
      have hch := (hc (ZL (xa x n))).1
      have hm := h.2
      unfold rdT
      by_cases hl : 0 <= YE x w (ZL (xa x n)) n
      ·have hin : Zv (txN x w n).ch (kc (xa x n)) = true := by unfold kc; rw [hch]; simp [hl]
       rw [if_pos hin]
       have hs := ZC3 (m := (txN x w n).ch) (fun i hi => hm i (by omega)) h2 (by rw [hx]; exact hc) (by rw [hx]; exact hl)
       rw [hs]
       have r1 : ∀ r, r ∈ (txN x w n).rds ↔ ∃ i < n + 1, xk (xa x i) = 2 /\ xw (xa x i) = w /\ YE x w (ZL (xa x i)) i < 0 /\ r = (i : Int) :: nr (xa x i) := fun r =>
        (ih1 r).trans ⟨fun ⟨i, hi, q⟩ => ⟨i, by omega, q⟩, fun ⟨i, hi, q⟩ => ⟨i, ZDP hi (fun e => by rw [e] at q; omega), q⟩⟩
       by_cases ht : ZFX x n = true
       ·rw [if_pos ht]
        exact ⟨r1, fun r => (ih2 r).trans ⟨fun ⟨i, hi, q⟩ => ⟨i, by omega, q⟩, fun ⟨i, hi, q⟩ => ⟨i, ZDP hi (fun e => by rw [e, ht] at q; exact absurd q.2.2.2.1 (by simp)), q⟩⟩⟩
       ·rw [if_neg ht]
        refine ⟨r1, fun r => ?_⟩
        show r ∈ (txN x w n).bad ++ [(n : Int)] ↔ _
        rw [ZOe, ih2 r, ZNM]
        constructor
        ·rintro (⟨i, hi, q⟩ | rfl)
         ·exact ⟨i, by omega, q⟩
         ·exact ⟨n, by omega, h2, hx, hl, by simpa using ht, rfl⟩
        ·rintro ⟨i, hi, q⟩
         rcases ZNN i n with p | p
         ·exact .inl ⟨i, p, q⟩
         ·right; rw [q.2.2.2.2, show i = n by omega]
      ·have hin : ¬ Zv (txN x w n).ch (kc (xa x n)) = true := by unfold kc; rw [hch]; simp [hl]
       rw [if_neg hin]
       refine ⟨fun r => ?_, fun r => (ih2 r).trans ⟨fun ⟨i, hi, q⟩ => ⟨i, by omega, q⟩, fun ⟨i, hi, q⟩ => ⟨i, ZDP hi (fun e => by rw [e] at q; exact hl q.2.2.1), q⟩⟩⟩
       show r ∈ (txN x w n).rds ++ [(n : Int) :: nr (xa x n)] ↔ _
       rw [ZOe, ih1 r, ZNM]
       constructor
       ·rintro (⟨i, hi, q⟩ | rfl)
        ·exact ⟨i, by omega, q⟩
        ·exact ⟨n, by omega, h2, hx, by omega, rfl⟩
       ·rintro ⟨i, hi, q⟩
        rcases ZNN i n with p | p
        ·exact .inl ⟨i, p, q⟩
        ·right; rw [q.2.2.2, show i = n by omega]
     ·rw [if_neg h2]
      repeat' split
      all_goals exact same rfl rfl (fun q => h2 q.1)
   ·rw [if_neg hx]; exact same rfl rfl (fun q => hx q.2)
structure RI (x : List Ent) (n : Nat) (B : Bk) : Prop where
 ft : B.fault = -1
 wt : B.what = 0
 tx : ∀ j < B.txs.length, B.txs.getD j tx0 = txN x (B.txs.getD j tx0).who n
 pos : ∀ j < B.txs.length, 0 < (B.txs.getD j tx0).who
 beg : ∀ w, ixL w B.txs < B.txs.length ↔ 0 <= ZI x 1 w n
 fal : ∀ j < B.txs.length, (j ∈ B.fal ↔ ZdI x (YD x (B.txs.getD j tx0).who n).2 n = true)
 kep : B.kept.map (fun k => (B.txs.getD k tx0).who) = Zw x n
 len : ZiW x n = B.kept.length
 com : ∀ k < B.kept.length, 0 <= ZI x 5 ((Zw x n).getD k 0) n /\ (Zw x (ZI x 5 ((Zw x n).getD k 0) n).toNat).length = k
 out : ∀ r, r ∈ B.out ↔ ∃ i < n, xk (xa x i) = 2 /\ xw (xa x i) = 0 /\ r = (i : Int) :: nr (xa x i)
structure Adv (x : List Ent) (n : Nat) (L L' : List Tx) : Prop where
 len : L'.length = L.length
 get : ∀ j < L.length, L'.getD j tx0 = ZiP (L.getD j tx0).who (L.getD j tx0) n (xa x n)
theorem ZDx (w : Int) (s : Tx) (h : s.who = w) (i : Int) (r : Ent) : (ZiP w s i r).who = w := by
 unfold ZiP
 repeat' split
 all_goals first | exact h | rfl | (rw [(ZfL _ _ _).2.2.2.1]; exact h)
theorem Adv.who {x : List Ent} {n : Nat} {L L' : List Tx} (h : Adv x n L L') {j : Nat} (hj : j < L.length) : (L'.getD j tx0).who = (L.getD j tx0).who := by
 rw [h.get j hj]; exact ZDx _ _ rfl _ _
theorem YK {L : List Tx} {j : Nat} (hj : j < L.length) : L.getD j tx0 = L[j] := by rw [ZNT, ZNW hj, ZNO]
theorem Adv.map {x : List Ent} {n : Nat} {L L' : List Tx} (h : Adv x n L L') : L'.map (·.who) = L.map (·.who) := by
 apply List.ext_getElem
 ·simp [h.len]
 ·intro j h1 h2
  rw [ZN3] at h1 h2
  rw [List.getElem_map, List.getElem_map, <- YK h1, <- YK h2]
  exact h.who h2
theorem ZyQ {w : Int} : ∀ {L L' : List Tx}, L'.map (·.who) = L.map (·.who) -> ixL w L' = ixL w L
 | [], [], _ => rfl
 | t :: L, s :: L', h => by
  rw [ZN2, ZN2, List.cons.injEq] at h
  unfold ixL
  rw [h.1, ZyQ h.2]
 | [], _ :: _, h => by simp at h
 | _ :: _, [], h => by simp at h
theorem Zhd {x : List Ent} {k w : Int} {n : Nat} (h : ¬ (xk (xa x n) = k /\ xw (xa x n) = w)) : ZI x k w (n + 1) = ZI x k w n := by
 rw [Yh, if_neg h]
 split
 ·rfl
 ·have := (Zcc x k w n).1; omega
theorem Znm {x : List Ent} {n : Nat} (h : ¬ xk (xa x n) = 5) : ZiW x (n + 1) = ZiW x n /\ Zw x (n + 1) = Zw x n := ⟨by show (if _ then _ else _) = _; rw [if_neg h], by rw [ZbC, if_neg h]⟩
theorem ZkR {x : List Ent} {k w : Int} {n : Nat} (h : 0 <= ZI x k w n) : ZI x k w (n + 1) = ZI x k w n := by rw [Yh, if_pos h]
theorem RI.adv {x : List Ent} {n : Nat} {B B' : Bk} (h : RI x n B) (hf : B'.fault = -1) (hw : B'.what = 0) (ha : Adv x n B.txs B'.txs) (hk : ¬ xk (xa x n) = 1) (hk5 : ¬ xk (xa x n) = 5) (hkept : B'.kept = B.kept)
  (hfal : ∀ j < B.txs.length, (j ∈ B'.fal ↔ ZdI x (YD x (B.txs.getD j tx0).who (n + 1)).2 (n + 1) = true))
  (hout : ∀ r, r ∈ B'.out ↔ ∃ i < n + 1, xk (xa x i) = 2 /\ xw (xa x i) = 0 /\ r = (i : Int) :: nr (xa x i)) (hki : ∀ k ∈ B.kept, k < B.txs.length) : RI x (n + 1) B' := by
 have hwho := fun {j : Nat} (hj : j < B.txs.length) => ha.who hj
 obtain ⟨l1, l2⟩ := Znm hk5
 refine ⟨hf, hw, fun j hj => ?_, fun j hj => ?_, fun w => ?_, fun j hj => ?_, ?_, ?_, fun k hk => ?_, hout⟩
 ·rw [ha.len] at hj
  rw [hwho hj, ZbP, <- h.tx j hj]; exact ha.get j hj
 ·rw [ha.len] at hj
  rw [hwho hj]; exact h.pos j hj
 ·rw [ZyQ ha.map, ha.len, Zhd (fun q => hk q.1)]; exact h.beg w
 ·rw [ha.len] at hj
  rw [hwho hj]; exact hfal j hj
 ·rw [hkept, l2, <- h.kep]
  apply List.map_congr_left
  intro k hk
  exact hwho (hki k hk)
 ·rw [hkept, l1]; exact h.len
 ·rw [hkept] at hk
  obtain ⟨c1, c2⟩ := h.com k hk
  rw [l2, ZkR c1]; exact ⟨c1, c2⟩
theorem Zti {x : List Ent} {f : Int} {n : Nat} (hf : f < n) (hk : xk (xa x n) = 1 \/ xk (xa x n) = 2 \/ xk (xa x n) = 7) : ¬ ZdI x f (n + 1 : Nat) = true := by
 unfold ZdI
 rw [Zi]
 rintro ⟨_, h⟩
 obtain ⟨a, b, c⟩ := h n hf (by omega)
 omega
theorem ZC6 {x : List Ent} {f : Int} {n : Nat} (hk : xk (xa x n) ≠ 1 /\ xk (xa x n) ≠ 2 /\ xk (xa x n) ≠ 7) : ZdI x f (n + 1 : Nat) = true ↔ ZdI x f n = true := by
 unfold ZdI
 rw [Zi, Zi]
 constructor
 ·rintro ⟨a, b⟩
  exact ⟨a, fun i h1 h2 => b i h1 (by omega)⟩
 ·rintro ⟨a, b⟩
  refine ⟨a, fun i h1 h2 => ?_⟩
  rcases ZNN i n with p | p
  ·exact b i h1 (by omega)
  ·rw [show i = n by omega]; exact hk
theorem Zkb {x : List Ent} {w : Int} {n : Nat} (hk : ¬ xk (xa x n) = 7) : (YD x w (n + 1)).2 = (YD x w n).2 := by
 rw [ZbE]
 split
 ·rfl
 ·split
  ·rfl
  ·rw [if_neg (fun q => hk q.1)]
theorem ZkD {x : List Ent} {n : Nat} {L : List Tx} (hn : (L.map (·.who)).Nodup) (hk : ¬ xk (xa x n) = 7) {j : Nat} (hj : ixL (xw (xa x n)) L = j) (hjl : j < L.length) {t : Tx} (ht : t = ZiP (xw (xa x n)) (L.getD j tx0) n (xa x n)) : Adv x n L (L.set j t) := by
 refine ⟨List.length_set, fun i hi => ?_⟩
 have hwj : (L.getD j tx0).who = xw (xa x n) := by rw [<- hj] at hjl ⊢; exact Zbe hjl
 by_cases hij : j = i
 ·subst hij
  rw [ZNT, List.getElem?_set_self hjl, ZNO, hwj]; exact ht
 ·rw [ZNT, List.getElem?_set_ne hij, <- ZNT]
  unfold ZiP
  rw [if_neg hk, if_neg (fun q => hij (by rw [<- hj, q]; exact Ze1 hn hi))]
theorem ZCZ {x : List Ent} {n : Nat} {L : List Tx} (hk : ¬ xk (xa x n) = 7) (hx : ∀ j < L.length, (L.getD j tx0).who ≠ xw (xa x n)) : Adv x n L L := by
 refine ⟨rfl, fun i hi => ?_⟩
 unfold ZiP
 rw [if_neg hk, if_neg (fun q => hx i hi q.symm)]
theorem ZGI {x : List Ent} {n : Nat} {L : List Tx} (hk : xk (xa x n) = 7) : Adv x n L (L.map fun t => { t with opn := false }) := by
 refine ⟨ZN3 _, fun i hi => ?_⟩
 unfold ZiP
 rw [if_pos hk]
 have := YK (L := L.map fun t => { t with opn := false }) (j := i) (by rw [ZN3]; exact hi)
 rw [this, List.getElem_map, YK hi]
theorem Zwj {x : List Ent} {n : Nat} {B : Bk} (h : RI x n B) (hk : ¬ (xk (xa x n) = 2 /\ xw (xa x n) = 0)) : ∀ r, r ∈ B.out ↔ ∃ i < n + 1, xk (xa x i) = 2 /\ xw (xa x i) = 0 /\ r = (i : Int) :: nr (xa x i) := fun r =>
 (h.out r).trans ⟨fun ⟨i, hi, q⟩ => ⟨i, by omega, q⟩, fun ⟨i, hi, q⟩ => ⟨i, ZDP hi (fun e => by rw [e] at q; exact hk ⟨q.1, q.2.1⟩), q⟩⟩
theorem ZC4 {L : List Tx} {k : Nat} : k ∈ Zom L 0 ↔ k < L.length /\ (L.getD k tx0).opn = true := by
 rw [<- Zem, Y3]
 simp [Zv]
set_option maxHeartbeats 1000000 in
theorem ZJf {x : List Ent} {n : Nat} {B : Bk} (h : RI x n B) (hwf : WfB B n) (hn : NF x n) (hm : Za2 (xa x n) = true) :
  (Zje x n = true -> ZaC B n (xa x n) = B.flt n 1) /\ (Zje x n = false -> ZiQ x n = true -> ZaC B n (xa x n) = B.flt n 2) /\ (Zje x n = false -> ZiQ x n = false -> RI x (n + 1) (ZaC B n (xa x n))) := by
 generalize hj : ixL (xw (xa x n)) B.txs = j
 have hb := h.beg (xw (xa x n))
 rw [hj] at hb
 have hwho : j < B.txs.length -> (B.txs.getD j tx0).who = xw (xa x n) := fun hl => by rw [<- hj] at hl ⊢; exact Zbe hl
 have hop : j < B.txs.length -> (B.txs.getD j tx0).opn = (YD x (xw (xa x n)) n).1 := fun hl => by rw [h.tx j hl, Zxb, hwho hl]
 have hno : ¬ j < B.txs.length -> YD x (xw (xa x n)) n = (false, -1) := fun hl => Zzc (fun q => hl (hb.2 q))
 have hnone : ¬ j < B.txs.length -> ∀ i < B.txs.length, (B.txs.getD i tx0).who ≠ xw (xa x n) := fun hl i hi e => by
  have := Ze1 hwf.nd hi
  rw [e, hj] at this; exact hl (by omega)
 have hstay : xk (xa x n) ≠ 1 -> xk (xa x n) ≠ 2 -> xk (xa x n) ≠ 7 -> ∀ i < B.txs.length, (i ∈ B.fal ↔ ZdI x (YD x (B.txs.getD i tx0).who (n + 1)).2 ((n + 1 : Nat) : Int) = true) := fun a b c i hi => by
  rw [Zkb c, ZC6 ⟨a, b, c⟩]; exact h.fal i hi
 have hot := Zwj h
 have hout := Zc8 x n
 have hkinds : xk (xa x n) = 1 \/ xk (xa x n) = 2 \/ xk (xa x n) = 3 \/ xk (xa x n) = 4 \/ xk (xa x n) = 5 \/ xk (xa x n) = 6 \/ xk (xa x n) = 7 := by
  refine Classical.byContradiction fun q => ?_
  have hm := hm
  unfold Za2 at hm
  dsimp only at hm
  rw [if_neg (by omega), if_neg (by omega), if_neg (by omega), if_neg (by omega), if_neg (by omega), if_neg (by omega)] at hm
  cases hm
 have wro5 : ¬ xk (xa x n) = 5 -> ZiQ x n = false := fun hk => by unfold ZiQ; simp [hk]
 by_cases k1 : xk (xa x n) = 1
 ·rw [if_pos k1] at hout
  rw [hout, wro5 (by omega)]
  refine ⟨fun q => st1a hj k1 (hb.2 (by simpa using q)), fun _ q => (nomatch q), fun q _ => ?_⟩
  have hb0 : ¬ 0 <= ZI x 1 (xw (xa x n)) n := by simpa using q
  have hjl : ¬ j < B.txs.length := fun hl => hb0 (hb.1 hl)
  have hwp : 0 < xw (xa x n) := by
   have hm := hm; unfold Za2 at hm; simp [k1] at hm; exact hm.1.1.1.1
  have hjle : j = B.txs.length := by have := ZEM (xw (xa x n)) B.txs; omega
  rw [st1b hj k1 hjl]
  obtain ⟨l1, l2⟩ := Znm (x := x) (n := n) (by omega)
  have gold : ∀ i < B.txs.length, (B.txs ++ [(⟨xw (xa x n), n, -1, true, [], [], []⟩ : Tx)]).getD i tx0 = B.txs.getD i tx0 := fun i hi => by
   rw [ZNT, ZOb hi, <- ZNT]
  have gnew : (B.txs ++ [(⟨xw (xa x n), n, -1, true, [], [], []⟩ : Tx)]).getD B.txs.length tx0 = ⟨xw (xa x n), n, -1, true, [], [], []⟩ := by
   rw [ZNT, ZOc (ZNJ _), Nat.sub_self]; rfl
  refine ⟨h.ft, h.wt, fun i hi => ?_, fun i hi => ?_, fun w => ?_, fun i hi => ?_, ?_, ?_, fun k hk => ?_, hot (by omega)⟩
  ·rw [ZNY, ZNH] at hi
   rcases ZNN i B.txs.length with p | p
   ·rw [gold i p, ZbP, <- h.tx i p]
    unfold ZiP
    rw [if_neg (by omega), if_neg (fun e => hnone hjl i p e.symm)]
   ·rw [show i = B.txs.length by omega, gnew, ZbP]
    unfold ZiP
    rw [if_neg (by omega), if_pos rfl, if_pos k1]
  ·rw [ZNY, ZNH] at hi
   rcases ZNN i B.txs.length with p | p
   ·rw [gold i p]; exact h.pos i p
   ·rw [show i = B.txs.length by omega, gnew]; exact hwp
  ·rw [ZNY, ZNH]
   have app : ∀ (L : List Tx) (t : Tx), ixL w (L ++ [t]) = if ixL w L < L.length then ixL w L else if t.who = w then L.length else L.length + 1 := by
    intro L t
    induction L with
    | nil =>
     show (bif t.who == w then 0 else 0 + 1) = _
     by_cases e : t.who = w
     ·simp [e, ixL]
     ·rw [show (t.who == w) = false from beq_eq_false_iff_ne.2 e, if_neg e]; rfl
    | cons s L ih =>
     show (bif s.who == w then 0 else ixL w (L ++ [t]) + 1) = if (bif s.who == w then 0 else ixL w L + 1) < L.length + 1 then (bif s.who == w then 0 else ixL w L + 1) else if t.who = w then L.length + 1 else L.length + 1 + 1
     cases s.who == w
     ·show ixL w (L ++ [t]) + 1 = if ixL w L + 1 < L.length + 1 then ixL w L + 1 else _
      rw [ih]
      repeat' split
      all_goals omega
     ·rfl
   show ixL w (B.txs ++ [_]) < _ ↔ _
   rw [app, Yh]
   have hbw := h.beg w
   by_cases q1 : ixL w B.txs < B.txs.length
   ·rw [if_pos q1, if_pos (hbw.1 q1)]
    exact ⟨fun _ => hbw.1 q1, fun _ => by omega⟩
   ·rw [if_neg q1, if_neg (fun q => q1 (hbw.2 q))]
    by_cases q2 : xw (xa x n) = w
    ·rw [if_pos q2, if_pos ⟨k1, q2⟩]
     exact ⟨fun _ => by omega, fun _ => by omega⟩
    ·rw [if_neg (show ¬ (⟨xw (xa x n), n, -1, true, [], [], []⟩ : Tx).who = w from q2), if_neg (fun q => q2 q.2)]
     exact ⟨fun _ => by omega, fun _ => by omega⟩
  ·rw [ZNY, ZNH] at hi
   have hf : ∀ w, ¬ ZdI x (YD x w (n + 1)).2 ((n + 1 : Nat) : Int) = true := fun w => Zti (by rw [Zkb (by omega)]; exact (Zmn x w n).2) (.inl k1)
   exact ⟨fun q => (nomatch q), fun q => absurd q (hf _)⟩
  ·rw [l2, <- h.kep]
   apply List.map_congr_left
   intro k hk
   rw [gold k (hwf.ki k hk)]
  ·rw [l1]; exact h.len
  ·obtain ⟨c1, c2⟩ := h.com k hk
   rw [l2, ZkR c1]; exact ⟨c1, c2⟩
 ·by_cases k2 : xk (xa x n) = 2
  ·rw [if_neg k1, if_pos k2] at hout
   rw [hout, wro5 (by omega)]
   by_cases hw0 : xw (xa x n) = 0
   ·rw [hw0]
    refine ⟨fun q => by simp at q, fun _ q => (nomatch q), fun _ _ => ?_⟩
    rw [st2a hj k2 hw0]
    refine h.adv h.ft h.wt (ZCZ (by omega) (fun i hi e => by have := h.pos i hi; omega)) k1 (by omega) rfl (fun i hi => ⟨fun q => (nomatch q), fun q => absurd q (Zti (by rw [Zkb (by omega)]; exact (Zmn x _ n).2) (.inr (.inl k2)))⟩) (fun r => ?_) hwf.ki
    show r ∈ B.out ++ [_] ↔ _
    rw [ZOe, h.out r, ZNM]
    constructor
    ·rintro (⟨i, hi, q⟩ | rfl)
     ·exact ⟨i, by omega, q⟩
     ·exact ⟨n, by omega, k2, hw0, rfl⟩
    ·rintro ⟨i, hi, q⟩
     rcases ZNN i n with p | p
     ·exact .inl ⟨i, p, q⟩
     ·right; rw [q.2.2, show i = n by omega]
   ·have hwp : 0 < xw (xa x n) := by
     have hm := hm; unfold Za2 at hm; simp [k2] at hm; have := hm.1.1.1; omega
    have hd : decide (0 < xw (xa x n)) = true := by simpa using hwp
    rw [hd, Bool.true_and]
    refine ⟨fun q => ?_, fun _ q => (nomatch q), fun q _ => ?_⟩
    ·have q : (YD x (xw (xa x n)) n).1 = false := by simpa using q
     exact st2c hj k2 hw0 (fun hl => by rw [hop hl]; exact q)
    ·have q : (YD x (xw (xa x n)) n).1 = true := by simpa using q
     have hl : j < B.txs.length := Classical.byContradiction fun hl => by rw [hno hl] at q; cases q
     rw [st2b hj k2 hw0 hl (by rw [hop hl]; exact q)]
     refine h.adv h.ft h.wt (ZkD hwf.nd (by omega) hj hl ?_) k1 (by omega) rfl (fun i hi => ⟨fun q => (nomatch q), fun q => absurd q (Zti (by rw [Zkb (by omega)]; exact (Zmn x _ n).2) (.inr (.inl k2)))⟩) (hot (fun e => hw0 e.2)) hwf.ki
     unfold ZiP
     rw [if_neg (by omega), if_pos rfl, if_neg k1, if_pos k2]
  ·by_cases k3 : xk (xa x n) = 3 \/ xk (xa x n) = 4
   ·rw [if_neg k1, if_neg k2, if_pos (by omega)] at hout
    rw [hout, wro5 (by omega)]
    refine ⟨fun q => ?_, fun _ q => (nomatch q), fun q _ => ?_⟩
    ·have q : (YD x (xw (xa x n)) n).1 = false := by simpa using q
     exact ZMI hj k3 (fun hl => by rw [hop hl]; exact q)
    ·have q : (YD x (xw (xa x n)) n).1 = true := by simpa using q
     have hl : j < B.txs.length := Classical.byContradiction fun hl => by rw [hno hl] at q; cases q
     rw [st3a hj k3 hl (by rw [hop hl]; exact q)]
     refine h.adv h.ft h.wt (ZkD hwf.nd (by omega) hj hl ?_) k1 (by omega) rfl (hstay k1 k2 (by omega)) (hot (by omega)) hwf.ki
     unfold ZiP
     rw [if_neg (by omega), if_pos rfl, if_neg k1, if_neg k2, if_pos k3]
   ·by_cases k6 : xk (xa x n) = 6
    ·rw [if_neg k1, if_neg k2, if_pos (by omega)] at hout
     rw [hout, wro5 (by omega)]
     refine ⟨fun q => ?_, fun _ q => (nomatch q), fun q _ => ?_⟩
     ·have q : (YD x (xw (xa x n)) n).1 = false := by simpa using q
      exact st6b hj k6 (fun hl => by rw [hop hl]; exact q)
     ·have q : (YD x (xw (xa x n)) n).1 = true := by simpa using q
      have hl : j < B.txs.length := Classical.byContradiction fun hl => by rw [hno hl] at q; cases q
      rw [st6a hj k6 hl (by rw [hop hl]; exact q)]
      refine h.adv h.ft h.wt (ZkD hwf.nd (by omega) hj hl ?_) k1 (by omega) rfl (hstay k1 k2 (by omega)) (hot (by omega)) hwf.ki
      unfold ZiP
      rw [if_neg (by omega), if_pos rfl, if_neg k1, if_neg k2, if_neg k3, if_pos k6]
    ·by_cases k7 : xk (xa x n) = 7
     ·rw [if_neg k1, if_neg k2, if_neg (by omega), if_neg (by omega)] at hout
      rw [hout, wro5 (by omega)]
      refine ⟨fun q => (nomatch q), fun _ q => (nomatch q), fun _ _ => ?_⟩
      rw [st7 hj k7]
      refine h.adv h.ft h.wt (ZGI k7) k1 (by omega) rfl (fun i hi => ?_) (hot (by omega)) hwf.ki
      show i ∈ Zom B.txs 0 ↔ _
      rw [ZC4]
      have ho : (B.txs.getD i tx0).opn = (YD x (B.txs.getD i tx0).who n).1 := by rw [h.tx i hi, Zxb, ZEP]
      rw [ho, ZbE, if_neg (by omega), if_neg (by omega)]
      by_cases q : (YD x (B.txs.getD i tx0).who n).1 = true
      ·rw [if_pos ⟨k7, q⟩]
       refine ⟨fun _ => ?_, fun _ => ⟨hi, q⟩⟩
       unfold ZdI
       rw [Zi]
       exact ⟨by show (0 : Int) <= n; omega, fun a h1 h2 => by have h1 : (n : Int) < a := h1; omega⟩
      ·rw [if_neg (fun e => q e.2)]
       exact ⟨fun e => absurd e.2 q, fun e => absurd e (Zti (Zmn x _ n).2 (.inr (.inr k7)))⟩
     ·have k5 : xk (xa x n) = 5 := by omega
      rw [if_neg k1, if_neg k2, if_neg (by omega), if_pos k5] at hout
      have hwp : 0 < xw (xa x n) := by
       have hm := hm; unfold Za2 at hm; simp [k5] at hm; exact hm.1.1.1.1.1
      have hcom : j < B.txs.length -> (B.txs.getD j tx0).com = ZI x 5 (xw (xa x n)) n := fun hl => by rw [h.tx j hl, hwho hl, Zha hwp hn]
      have hfal : j < B.txs.length -> (j ∈ B.fal ↔ ZdI x (YD x (xw (xa x n)) n).2 n = true) := fun hl => by have := h.fal j hl; rw [hwho hl] at this; exact this
      have hwro : ZiQ x n = !decide (xt (xa x n) = B.kept.length + 1) := by unfold ZiQ; rw [h.len]; simp [k5]
      have good : Zje x n = false -> j < B.txs.length /\ ((j < B.txs.length /\ (B.txs.getD j tx0).opn = true) \/ j ∈ B.fal) /\ (B.txs.getD j tx0).com < 0 := fun q => by
       rw [hout, Bool.or_eq_false_iff] at q
       obtain ⟨q1, q2⟩ := q
       have q2 : ¬ 0 <= ZI x 5 (xw (xa x n)) n := by simpa using q2
       have hl : j < B.txs.length := Classical.byContradiction fun hl => by
        rw [hno hl] at q1
        have : ZdI x (-1) n = false := by rw [ZnS]; rfl
        simp [this] at q1
       refine ⟨hl, ?_, by rw [hcom hl]; omega⟩
       rw [hop hl, hfal hl]
       cases ho : (YD x (xw (xa x n)) n).1
       ·right
        rw [ho] at q1; simpa using q1
       ·exact .inl ⟨hl, rfl⟩
      refine ⟨fun q => ?_, fun q r => ?_, fun q r => ?_⟩
      ·refine ZKm hj k5 ?_
       rw [hout, Bool.or_eq_true] at q
       rcases q with q | q
       ·left
        simp only [Bool.and_eq_true, ZNS] at q
        refine ⟨fun hl => by rw [hop hl]; exact q.1, fun hm => ?_⟩
        have hl := hwf.fi j hm
        rw [(hfal hl).1 hm] at q; cases q.2
       ·have q : 0 <= ZI x 5 (xw (xa x n)) n := by simpa using q
        by_cases hl : j < B.txs.length
        ·right; rw [hcom hl]; exact q
        ·left
         exact ⟨fun e => absurd e hl, fun hm => hl (hwf.fi j hm)⟩
      ·obtain ⟨_, g2, g3⟩ := good q
       rw [hwro] at r
       exact st5b hj k5 g2 g3 (by simpa using r)
      ·obtain ⟨hl, g2, g3⟩ := good q
       rw [hwro] at r
       have r : xt (xa x n) = B.kept.length + 1 := by simpa using r
       rw [st5c hj k5 g2 g3 r]
       have ha : Adv x n B.txs (B.txs.set j { B.txs.getD j tx0 with opn := false, com := n }) := ZkD hwf.nd (by omega) hj hl (by
        unfold ZiP
        rw [if_neg (by omega), if_pos rfl, if_neg k1, if_neg k2, if_neg k3, if_neg k6, if_pos k5])
       have hlen : ZiW x (n + 1) = xt (xa x n) := by show (if _ then _ else _) = _; rw [if_pos k5]
       have hk' : Zw x (n + 1) = Zw x n ++ [xw (xa x n)] := by rw [ZbC, if_pos k5]
       have hkl : (Zw x n).length = B.kept.length := by rw [<- h.kep, ZN3]
       refine ⟨h.ft, h.wt, fun i hi => ?_, fun i hi => ?_, fun w => ?_, fun i hi => ?_, ?_, ?_, fun k hk => ?_, hot (by omega)⟩
       ·rw [ha.len] at hi
        rw [ha.who hi, ZbP, <- h.tx i hi]; exact ha.get i hi
       ·rw [ha.len] at hi
        rw [ha.who hi]; exact h.pos i hi
       ·rw [ZyQ ha.map, ha.len, Zhd (fun e => k1 e.1)]; exact h.beg w
       ·rw [ha.len] at hi
        rw [ha.who hi]; exact hstay k1 k2 k7 i hi
       ·show (B.kept ++ [j]).map _ = _
        rw [ZN9, hk', <- h.kep, List.map_singleton, ha.who hl, hwho hl]
        congr 1
        apply List.map_congr_left
        intro k hk
        exact ha.who (hwf.ki k hk)
       ·show _ = (((B.kept ++ [j]).length : Nat) : Int)
        rw [hlen, r, ZNY, ZNH]; omega
       ·have hk : k < (B.kept ++ [j]).length := hk
        rw [ZNY, ZNH] at hk
        rw [hk']
        rcases ZNN k B.kept.length with p | p
        ·have e : (Zw x n ++ [xw (xa x n)]).getD k 0 = (Zw x n).getD k 0 := by
          rw [ZNT, ZOb (by omega), <- ZNT]
         obtain ⟨c1, c2⟩ := h.com k p
         rw [e, ZkR c1]; exact ⟨c1, c2⟩
        ·have e : (Zw x n ++ [xw (xa x n)]).getD k 0 = xw (xa x n) := by
          rw [ZNT, ZOc (by omega), show k - (Zw x n).length = 0 by omega]; rfl
         rw [hcom hl] at g3
         rw [e, Yh, if_neg (by omega), if_pos ⟨k5, rfl⟩, ZN0]
         exact ⟨by omega, by omega⟩
theorem ZmD (x : List Ent) : ∀ n : Nat, (∀ i < n, Za2 (xa x i) = true) -> (NF x n -> RI x n (Yj x n)) /\ (0 <= (Zcm x n).1 -> (Yj x n).fault = (Zcm x n).1 /\ (Yj x n).what = (Zcm x n).2)
 | 0, _ => by
  refine ⟨fun _ => ⟨rfl, rfl, fun j hj => absurd hj (Nat.not_lt_zero j), fun j hj => absurd hj (Nat.not_lt_zero j), fun w => ⟨fun h => absurd h (Nat.not_lt_zero _), fun h => absurd h (by show ¬ (0 : Int) <= -1; omega)⟩, fun j hj => absurd hj (Nat.not_lt_zero j), rfl, rfl,
   fun k hk => absurd hk (Nat.not_lt_zero k), fun r => ⟨fun h => (nomatch h), fun ⟨i, hi, _⟩ => absurd hi (Nat.not_lt_zero i)⟩⟩, fun h => absurd h (by show ¬ (0 : Int) <= -1; omega)⟩
 | n + 1, hm => by
  obtain ⟨i1, i2⟩ := ZmD x n (fun i hi => hm i (by omega))
  have e : Yj x (n + 1) = if 0 <= (Yj x n).fault then Yj x n else ZaC (Yj x n) n (xa x n) := rfl
  by_cases h0 : 0 <= (Zcm x n).1
  ·have := i2 h0
   rw [e, if_pos (by rw [this.1]; exact h0), Za8, if_pos h0]
   refine ⟨fun q => absurd (show 0 <= (Zcm x (n + 1)).1 by rw [Za8, if_pos h0]; exact h0) q.1, fun _ => this⟩
  ·have hn : NF x n := ⟨h0, fun i hi => hm i (by omega)⟩
   have ri := i1 hn
   obtain ⟨s1, s2, s3⟩ := ZJf ri (ZhN x n) hn (hm n (by omega))
   rw [e, if_neg (by rw [ri.ft]; omega)]
   refine ⟨fun q => s3 q.pred.2.1 q.pred.2.2.1, ?_⟩
   rw [Za8, if_neg h0]
   by_cases ho : Zje x n = true
   ·rw [if_pos ho, s1 ho]; exact fun _ => ⟨rfl, rfl⟩
   ·rw [if_neg ho]
    have ho : Zje x n = false := by simpa using ho
    by_cases hw : ZiQ x n = true
    ·rw [if_pos hw, s2 ho hw]; exact fun _ => ⟨rfl, rfl⟩
    ·rw [if_neg hw]; exact fun q => absurd q (by show ¬ (0 : Int) <= -1; omega)
end
end Go.Proofs.Ytidlngnhjffepaa
