/- Part of a proof. -/
import Derived.Test.YtidlngnhjffepaaPq4
set_option linter.unusedSimpArgs false
set_option linter.unusedVariables false
set_option maxRecDepth 20000
namespace Go.Proofs.Ytidlngnhjffepaa
noncomputable section
open Go.Eng
def ZDn : SX := ixB (rA 5) (ai 4)
def ZsB : Ctr := ⟨[.int, .int, .int, .rows, .int, .rows, .g], [.one (slC (ai 0) (ai 1) (ai 2) 1), .one (.ptr (ai 4) 0)], [pAr (ai 0) (rA 3) (ai 2), txO ZDn (rA 5) (gA 6)] ++ txP (ai 4) (rA 5) (gA 6) ZDn,
 [.f2 45 (ai 1) (Zk (rA 3)), eLe (ai 1) (ai 2), eLe (ai 1) mil, usB 560 (rA 3) (rA 5) z0, usB 565 (rA 5) (ai 4) z0, usB 558 (rA 5) (gA 6) z0, .f2 45 (Zk (rA 5)) (usI 552 (gA 6) z0 z0), eLt ZDn (usI 552 (gA 6) z0 z0), .f2 45 (ai 4) (nt (rA 5) ZDn 0)], [.bool], .one (.bool (qA 7)),
 [pAr (ai 0) (rA 3) (ai 2), txO ZDn (rA 5) (gA 6)] ++ txP (ai 4) (rA 5) (gA 6) ZDn, [.f2 48 (qA 7) (usB 562 (rA 3) (ai 4) z0)]⟩
def cn2I : Inv := cntI
def cn2E : SX := .f2 45 (ai 4) (nt (rA 3) (ai 7) 0)
def ZEX : Cx := { specs := [], anns := [(36, [(0, .ghost Zi0 [.tmp 1]), (999999, .ghost Zpi [.tmp 1])]),
 (50, [(2, .inv cn2I), (4, .split cn2E), (4, .iff (ZcH cn2E)), (4, .ghost Zyn [.tmp 0, .tmp 5, .tmp 1]), (500004, .iff (ZcH cn2E)), (500004, .ghost ZxX [.tmp 1])])] }
def ZkR : Ctr := ⟨hA, [.one (hS 0)], [hC 0 0], [eLe z0 (ai 2), eLe (ai 2) (Zk (rA 4)), eLe (ai 2) (ai 3), eLe (ai 2) (.int 9223372036854775807)], [.int, .int], .tup [(false, [.ptr (ai 6) 0]), (false, [.int .i64 (ai 7)])], [hC 0 0, bkC (ai 6) xX],
 [.f2 45 (ai 7) (usI 523 xX z0 z0), .f2 48 (eLe z0 (ai 6)) (.f2 45 (ai 7) z0)]⟩
def wG (i : SX) : SX := usG 561 xX i z0
def wK (i R : SX) : SX := usR 548 xX i R
def wO (i : SX) : SX := usR 549 xX i z0
def wM (R g : SX) : SX := .us .amap 547 R g z0 z0
def wrtI (m b : Nat) : Inv := ⟨[.int, .rows, .int, .int, .int, .int, .int, .int, .rows], [(22, .one (.int .i64 (di 0))), (5, .one (slC (di 6) (Zk (rA 1000008)) (di 7) 1))],
 [.cel (ai b) 0 (bkQ (ai m) (di 2) (Zk (wK (di 0) (rA 1000001))) (di 3) (di 4) (Zk (wO (di 0))) (di 5) (.int (-1)) z0), imC (ai m) (wM (rA 1000001) (wG (di 0))), pAr (di 2) (wK (di 0) (rA 1000001)) (di 3), rAr (di 4) (wO (di 0)) (di 5), pAr (di 6) (rA 1000008) (di 7), txC (rA 1000001) (wG (di 0))],
 [eLe z0 (di 0), eLe (di 0) (ai 2), eLe (Zk (wK (di 0) (rA 1000001))) (di 3), .f2 50 (eLe z0 (di 2)) (.f2 45 (Zk (wK (di 0) (rA 1000001))) z0), eLe (Zk (wO (di 0))) (di 5), .f2 50 (eLe z0 (di 4)) (.f2 45 (Zk (wO (di 0))) z0),
  eLe (Zk (rA 1000008)) (di 7), .f2 50 (eLe z0 (di 6)) (.f2 45 (Zk (rA 1000008)) z0), .us .bool 559 xX (di 0) (rA 1000001) (rA 1000008), .f2 45 (usI 550 xX (di 0) z0) (.int (-1)), .f2 45 (usI 551 xX (di 0) z0) z0], .f2 41 (ai 2) (di 0)⟩
def wrcI (m g R it : Nat) : Inv := ⟨[.amap, .ints, .rows, .int, .int, .rows], [(5, .one (slC (di 3) (Zk (rA 1000005)) (di 4) 1))],
 [.itr (.int .i64) (.one .ptr) (ai m) (wM (rA R) (wG (ai g))) (ai it) (mA 1000000) (iA 1000001), pAr (di 3) (rA 1000005) (di 4), txC (rA 1000002) (.us .g 568 (wG (ai g)) (mA 1000000) z0 z0)],
 [eLe (Zk (rA 1000005)) (di 4), .f2 50 (eLe z0 (di 3)) (.f2 45 (Zk (rA 1000005)) z0), usB 569 (rA 1000002) (rA R) z0, .us .bool 570 (wG (ai g)) (mA 1000000) (rA R) (rA 1000005), usB 571 (mA 1000000) (wM (rA R) (wG (ai g))) z0], .f1 33 (mA 1000000)⟩
def wT (n : Nat) : SX := .f3 140 (.int (-1)) (wM (rA (n + 1)) (wG (ai n))) (nt (rA 4) (ai n) 1)
def ZD7 : Cx := { specs := [(31, [Zrm]), (35, [Zwi]), (36, [ZsB, ZsV])], anns := [(17, [(6, .ghost ZzA []), (6, .ghost ZzA []), (6, .ghost ZDA []), (6, .ghost emTC []), (8, .inv (wrtI 7 8)), (9, .ghost ZET []), (11, .split (eLe z0 (wT 9))), (11, .iff (eLe z0 (wT 9))), (11, .ghost ZxH [.tmp 8, .tmp 32]), (500011, .iff (eLe z0 (wT 9))), (500011, .ghost Zi0 [.tmp 8]),
  (500016, .ghost adTC [.tmp 62]), (500017, .ghost ZzA []), (500019, .ghost ZzA []), (20, .ghost ZxH [.tmp 8, .tmp 32]), (500020, .ghost ZlI [.tmp 8]), (29, .ghost ZxH [.tmp 8, .tmp 32]), (500029, .ghost ZlI [.tmp 8]), (33, .ghost ZxH [.tmp 8, .tmp 32]), (500033, .ghost ZlI [.tmp 8]),
  (35, .iff (eLe z0 (wT 9))), (35, .ghost Zpi [.tmp 8]), (500035, .iff (eLe z0 (wT 9))), (500035, .ghost Zi0 [.tmp 8]), (39, .ghost ZxH [.tmp 8, .tmp 32]), (500039, .ghost ZlI [.tmp 8]), (500042, .ghost ZzA []), (44, .inv (wrcI 7 9 10 19)), (46, .ghost Zpi [.tmp 11]), (500046, .ghost Zi0 [.tmp 11]), (47, .ghost Zpi [.tmp 11]), (500047, .ghost ZlI [.tmp 11]), (999999, .iff (eLt (.int 400) (ai 2))), (999999, .ghost ZDx [.tmp 0, .tmp 2]), (999999, .iff (qA 6)), (999999, .ghost ZDx [.tmp 0, .tmp 2]), (999999, .iff (ZcH (qA 6))), (999999, .ghost Zqi [.tmp 0, .tmp 2])])] }
def ZAJ : SX := v 552 (g 6)
def Zxo : SX := e (.f1 32 (r 5)) ZAJ
def Zgi : SX := d 566 (r 5) (a 4)
def ZyA : SX := t Zgi ZAJ
def ZBh : SX := .f3 112 (r 5) Zgi z
def Zxz : SX := e (a 4) ZBh
def ZAI : SX := l z (a 7)
def ZCI : SX := .f3 112 (r 3) (a 7) z
def ZzY : SX := e (a 4) ZCI
def ZBS : SX := t (a 7) (.f1 32 (r 3))
def ZsO : SX := .f1 32 (wR 545 (g 6) Zgi)
def Zvs : SX := l ZsO (.f3 112 (r 5) Zgi (k 3))
def Zu6 : SX := .f1 30 (wN 546 (g 6) Zgi)
def ZvX : SX := l Zu6 (.f3 112 (r 5) Zgi (k 5))
def Zvl : SX := .f2 50 (l z (.f3 112 (r 5) Zgi (k 2))) (e ZsO z)
def ZqF : SX := .f2 50 (l z (.f3 112 (r 5) Zgi (k 4))) (e Zu6 z)
def Zvx : SX := l z (.f3 112 (r 5) Zgi (k 1))
def ZuU : SX := l z ZBh
def Zu9 : SX := c 562 (r 3) (a 4)
def Zhv : SX := .f2 40 (a 7) (k 1)
def Zs4 : SX := .f2 41 (a 1) Zhv
def ZEs : VC := i (e (a 1) (.f1 32 (r 3))) (i (l (a 1) (a 2)) (i (l (a 1) (k 1000000)) (i (c 560 (r 3) (r 5)) (i (c 565 (r 5) (a 4)) (i (c 558 (r 5) (g 6)) (i Zxo (i ZyA (i Zxz (n (l z Zgi) (n (l z (a 1)) (n (.f1 2 (c 562 (.f2 115 (r 3) z) (a 4))) (u 7 .int (i ZAI (i (l (a 7) (a 1)) (i (.f1 2 (c 562 (.f2 115 (r 3) (a 7)) (a 4))) (.and (i (t (a 7) (a 1)) (.and (i ZzY (n ZBS (n (l z (a 4)) (i Zxz (i ZyA (i Zvs (i ZvX (i Zvl (i ZqF (i Zvx (i ZuU (i Zxo (n (.f2 48 ZAI Zu9) .tt))))))))))))) (i (.f1 2 ZzY) (n (c 565 (r 5) ZCI) (n ZBS (n (.f1 23 Zhv) (n (l z Zs4) (n (t Zs4 (.f2 41 (a 1) (a 7))) (n (l z Zhv) (n (l Zhv (a 1)) (n (.f1 2 (c 562 (.f2 115 (r 3) Zhv) (a 4))) .tt))))))))))) (i (l (a 1) (a 7)) (i Zxz (i ZyA (i Zvs (i ZvX (i Zvl (i ZqF (i Zvx (i ZuU (i Zxo (n (.f2 48 (.bool false) Zu9) .tt)))))))))))))))))))))))))))
theorem ZFd : Zb4 Try.prog ZEX 12 36 ZsB = ZEs := by kernel_rfl
def Z8 : SX := .f2 115 (r 4) (a 2)
def Zyx : SX := v 523 Z8
def ZAK : SX := l z (a 8)
def ZAs : SX := hR0 548 Z8 z (.f1 154 z)
def ZAj : SX := .f1 32 ZAs
def ZDb : SX := e ZAj z
def ZAq : SX := vR 549 Z8
def ZBT : SX := .f1 32 ZAq
def ZCu : SX := e ZBT z
def ZB8 : SX := w 561 Z8
def ZdC : SX := hR0 548 Z8 (a 9) (r 10)
def Zbv : SX := .f1 32 ZdC
def Zge : SX := l z (a 11)
def Zjv : SX := wR 549 Z8 (a 9)
def ZdJ : SX := .f1 32 Zjv
def ZvK : SX := l z (a 13)
def ZM : SX := f 561 Z8 (a 9)
def Zap : SX := wM0 547 (r 10) ZM
def ZfH : SX := .f3 112 (r 4) (a 9) (k 1)
def Zcc : SX := .f3 140 (k (-1)) Zap ZfH
def Zjp : SX := l z Zcc
def Z0 : SX := d 553 ZM ZfH
def ZnX : SX := v 552 ZM
def ZrT : SX := .f3 112 (r 10) Z0 z
def Zg9 : SX := wR 545 ZM Z0
def ZgV : SX := .f1 32 Zg9
def ZsL : SX := .f3 112 (r 10) Z0 (k 3)
def ZeJ : SX := l ZgV ZsL
def Zhy : SX := wN 546 ZM Z0
def Zg0 : SX := .f1 30 Zhy
def ZsJ : SX := .f3 112 (r 10) Z0 (k 5)
def ZeE : SX := l Zg0 ZsJ
def Zsp : SX := .f3 112 (r 10) Z0 (k 2)
def Zet : SX := .f2 50 (l z Zsp) (e ZgV z)
def Zw8 : SX := .f3 112 (r 10) Z0 (k 4)
def Zey : SX := .f2 50 (l z Zw8) (e Zg0 z)
def ZnZ : SX := .f3 112 (r 10) Z0 (k 1)
def Zer : SX := l z ZnZ
def Zew : SX := l z ZrT
def Zdt : SX := e (.f1 32 (r 10)) ZnX
def ZdL : SX := .f3 112 (r 4) (a 9) z
def Zn9 : SX := e ZdL (k 1)
def Zg5 : SX := .f1 32 Z8
def Zad : SX := .f2 155 ZM (f 561 Z8 Zg5)
def YW : SX := .f2 155 Zap Zap
def Y5 : SX := .f2 155 ZdC (hR0 548 Z8 Zg5 (r 10))
def Zac : SX := .f2 155 Zjv (wR 549 Z8 Zg5)
def Y2 : SX := e Zbv Zbv
def YZ : SX := e ZdJ ZdJ
def Zvw : SX := d 550 Z8 Zg5
def Zan : SX := e (a 9) Zvw
def Zou : SX := d 551 Z8 Zg5
def ZaV : SX := e (k 1) Zou
def Y4 : SX := e z Zyx
def YY : SX := .f2 48 ZAK (.bool true)
def ZuC : SX := .f1 2 Zn9
def Zo9 : SX := e ZdL (k 2)
def Zoz : SX := e ZfH z
def ZeB : SX := l z (a 19)
def Zuu : SX := l ZdJ ZdJ
def Zjq : SX := .f2 40 ZdJ (k 1)
def Zvk : SX := l (.f2 42 Zjq (k 72)) k1
def Zvo : SX := l Zjq (a 21)
def Zgb : SX := l z (a 20)
def ZqJ : SX := .f2 50 Zgb (e Zjq z)
def Yp : SX := .f2 40 (a 9) (k 1)
def Za5 : SX := .f1 23 Yp
def ZsF : SX := .f2 41 (a 2) Yp
def Za8 : SX := l z ZsF
def Za4 : SX := t ZsF (.f2 41 (a 2) (a 9))
def ZaY : SX := l z Yp
def Zba : SX := l Yp (a 2)
def ZsG : SX := hR0 548 Z8 Yp (r 10)
def Zny : SX := .f1 32 ZsG
def Zkm : SX := l Zny (a 12)
def ZjS : SX := .f2 50 Zge (e Zny z)
def Zng : SX := wR 549 Z8 Yp
def Zha : SX := .f1 32 Zng
def Zrh : SX := l Zha (a 21)
def Zsb : SX := e Zha z
def ZqW : SX := .f2 50 Zgb Zsb
def ZrV : SX := .us .bool 559 Z8 Yp (r 10) (.f1 154 z)
def Za9 : SX := e (d 550 Z8 Yp) (k (-1))
def ZaX : SX := e (d 551 Z8 Yp) z
def Zbm : SX := f 561 Z8 Yp
def Zjk : SX := .f2 155 Zbm ZM
def Ztd : SX := .f1 35 (.f1 36 (.f3 112 (r 4) (a 9) (k 2)))
def ZuI : SX := .f1 35 (.f1 36 (.f3 112 (r 4) (a 9) (k 3)))
def Zv0 : SX := .f3 112 (r 4) (a 9) (k 5)
def ZnD : SX := .f2 122 ZdL (.f2 122 ZfH (.f2 122 Ztd (.f2 122 ZuI (.f2 122 (.f1 3 (.f1 2 (e (.f3 112 (r 4) (a 9) (k 4)) z))) (.f2 122 Zv0 (.f1 152 z))))))
def Zr2 : SX := .f2 155 Zng (.f2 121 Zjv (.f2 124 (.f2 122 (a 9) ZnD) (.f1 154 z)))
def Zji : SX := .f2 155 ZsG ZdC
def Zi6 : SX := .f2 155 (wM0 547 (r 10) Zbm) Zap
def ZtW : SX := e Zha Zjq
def ZkV : SX := e Zny Zbv
def Zsy : SX := .f1 2 Zoz
def Zvq : SX := c 543 ZM Z0
def Zgg : SX := .f1 2 Zvq
def Zhp : SX := .f1 2 Zgg
def Zgz : SX := wM0 544 ZM Z0
def Zl8 : SX := .us .rows 563 Zgz ZnD Zg9 (a 9)
def ZfS : SX := .f1 32 Zl8
def ZlV : SX := .us .ints 564 Zgz ZnD Zhy (a 9)
def ZfQ : SX := .f1 30 ZlV
def ZhR : SX := l z (a 21)
def ZlW : SX := d 540 ZM Z0
def Zc3 : SX := e ZlW ZlW
def Zmi : SX := d 541 ZM Z0
def Zc9 : SX := e Zmi Zmi
def ZiL : SX := hR0 554 (r 10) Z0 (.f2 122 Zcc (.f2 122 ZnZ (.f2 122 (a 19) (.f2 122 (a 20) (.f2 122 (a 21) (.f2 122 (a 22) (.f1 152 z)))))))
def Zlr : SX := hR0 548 Z8 Yp ZiL
def Zh7 : SX := .f1 32 Zlr
def Zak : SX := l Zha (a 14)
def Zaf : SX := .f2 50 ZvK Zsb
def ZlP : SX := d 542 ZM Z0
def ZmR : SX := .f2 122 ZlP (.f2 122 (.f1 3 Zvq) (.f1 152 z))
def Zah : SX := .f2 155 Zng Zjv
def Zaj : SX := e Zha ZdJ
def ZmC : SX := .f1 2 Zo9
def Zd1 : SX := e ZdL (k 3)
def Zd0 : SX := e ZgV ZgV
def Zeb : SX := e Zg0 Zg0
def Zib : SX := hR0 554 (r 10) Z0 (.f2 122 Zcc (.f2 122 ZnZ (.f2 122 Zsp (.f2 122 ZsL (.f2 122 Zw8 (.f2 122 ZsJ (.f1 152 z)))))))
def Zij : SX := hR0 548 Z8 Yp Zib
def ZcW : SX := .f1 32 Zij
def ZhS : SX := l ZcW (a 12)
def ZhL : SX := e ZcW z
def ZiH : SX := .f2 50 Zge ZhL
def Zea : SX := .us .bool 559 Z8 Yp Zib (r 17)
def Zgv : SX := e ZdL (k 4)
def Zlv : SX := .f2 155 Zbm (.us .g 556 (.us .g 555 ZM Z0 (.f3 142 Zgz Ztd (.f2 40 (.f2 42 ZuI (k 2)) (.f1 3 Zgv))) ZmR) Z0 Zg9 Zhy)
def Ziq : SX := .f2 155 Zij ZdC
def Zeh : SX := .f2 155 (wM0 547 Zib Zbm) Zap
def ZiW : SX := e ZcW Zbv
def Zmz : SX := .f1 2 Zd1
def Zmo : SX := .f1 2 Zgv
def ZhW : SX := e ZdL (k 6)
def Zfl : SX := .f2 122 z (.f1 152 z)
def Zl1 : SX := .f1 2 ZhW
def ZhM : SX := e ZdL (k 5)
def ZlS : SX := c 565 (r 10) Zcc
def Zai : SX := d 566 (r 10) Zcc
def Zm6 : SX := .f3 112 (r 10) Zai z
def ZmT : SX := .f1 32 (wR 545 ZM Zai)
def Zmy : SX := .f1 30 (wN 546 ZM Zai)
def Znc : SX := e (.f1 32 (r 17)) (.f1 32 (r 17))
def Zlw : SX := l (.f1 32 (r 17)) (k 1000000)
def Zl5 : SX := c 560 (r 17) (r 10)
def Zm3 : SX := .f2 48 (q 19) (c 562 (r 17) Zcc)
def Zl3 : SX := .f1 2 (.f1 2 (q 19))
def ZiD : SX := l z Zai
def Zlq : SX := d 542 ZM Zai
def ZlU : SX := l z Zlq
def Zmj : SX := t Zlq z
def Zb6 : SX := .f2 40 Zbv (k 1)
def Zmm : SX := .f1 23 Zb6
def ZiC : SX := e Zv0 Zb6
def ZmO : SX := .f1 2 ZiC
def Zl9 : SX := e (k 2) Zou
def ZmI : SX := l Zbv Zbv
def Zm4 : SX := l (.f2 42 Zb6 (k 8)) k1
def ZlQ : SX := e Zb6 z
def Zk8 : SX := .f2 155 Zbm (.us .g 556 (.us .g 555 ZM Z0 Zgz (.f2 122 (a 9) Zfl)) Z0 Zg9 Zhy)
def ZlN : SX := .f2 155 Zij (.f2 121 ZdC (.f2 124 (.f2 122 Zcc (.f1 152 z)) (.f1 154 z)))
def Zmb : SX := e ZcW Zb6
def Zld : SX := .f1 2 ZhM
def Zil : SX := e ZdL (k 7)
def Znb : SX := c 569 (r 10) (r 10)
def Zmw : SX := .us .bool 570 ZM Zap (r 10) (.f1 154 z)
def Zme : SX := c 571 Zap Zap
def Zll : SX := .f2 155 (f 568 ZM Zap) ZM
def ZmA : SX := l (.f1 32 (r 25)) (a 24)
def Zmc : SX := .f2 50 (l z (a 23)) (e (.f1 32 (r 25)) z)
def Zl6 : SX := c 569 (r 22) (r 10)
def Zlu : SX := .us .bool 570 ZM (m 20) (r 10) (r 25)
def Zle : SX := c 571 (m 20) Zap
def Zlk : SX := e (.f1 33 (m 20)) z
def Zl0 : SX := hR0 548 Z8 Yp (r 22)
def ZiJ : SX := .f1 32 Zl0
def Zl4 : SX := l ZiJ (a 12)
def Zli : SX := .f2 50 Zge (e ZiJ z)
def ZlZ : SX := .us .bool 559 Z8 Yp (r 22) (r 25)
def Zam : SX := f 568 ZM (m 20)
def Zlf : SX := .f2 155 Zbm Zam
def Zk4 : SX := .f2 155 Zl0 ZdC
def ZmG : SX := .f2 155 (wM0 547 (r 22) Zbm) Zap
def Zm7 : SX := e ZiJ Zbv
def Zlj : SX := .f2 141 (m 20) (a 26)
def Zd6 : SX := .f3 140 z Zap (a 26)
def ZmQ : SX := c 565 (r 22) Zd6
def Z2 : SX := d 566 (r 22) Zd6
def Zmn : SX := .f3 112 (r 22) Z2 z
def Zfu : SX := e Zd6 Zmn
def Zm0 : SX := v 552 Zam
def Zfj : SX := t Z2 Zm0
def Zlp : SX := wR 545 Zam Z2
def Zgj : SX := .f1 32 Zlp
def Zm5 : SX := .f3 112 (r 22) Z2 (k 3)
def Zfn : SX := l Zgj Zm5
def Zk6 : SX := wN 546 Zam Z2
def ZgB : SX := .f1 30 Zk6
def ZlJ : SX := .f3 112 (r 22) Z2 (k 5)
def Zfw : SX := l ZgB ZlJ
def Zmh : SX := .f3 112 (r 22) Z2 (k 2)
def Zfh : SX := .f2 50 (l z Zmh) (e Zgj z)
def Zmr : SX := .f3 112 (r 22) Z2 (k 4)
def Zfv : SX := .f2 50 (l z Zmr) (e ZgB z)
def Zmd : SX := .f3 112 (r 22) Z2 (k 1)
def Zga : SX := l z Zmd
def Zgd : SX := l z Zmn
def ZfT : SX := e (.f1 32 (r 22)) Zm0
def ZmB : SX := l z Z2
def ZiB : SX := c 543 Zam Z2
def ZmH : SX := d 540 Zam Z2
def Zmp : SX := e ZmH ZmH
def ZlT : SX := d 541 Zam Z2
def Zlb : SX := e ZlT ZlT
def ZmZ : SX := e Zgj Zgj
def ZlO : SX := e ZgB ZgB
def ZlG : SX := l z (a 27)
def Zk7 : SX := l (.f1 32 (r 25)) (.f1 32 (r 25))
def ZiS : SX := .f2 40 (.f1 32 (r 25)) (k 1)
def Zmx : SX := l (.f2 42 ZiS (k 8)) k1
def ZlB : SX := l ZiS (a 29)
def Zm1 : SX := .f2 50 (l z (a 28)) (e ZiS z)
def ZdX : SX := .f2 143 (m 20) (a 26)
def Zf3 : SX := t (.f1 33 ZdX) (.f1 33 (m 20))
def ZlH : SX := c 569 (hR0 554 (r 22) Z2 (.f2 122 Zd6 (.f2 122 Zmd (.f2 122 Zmh (.f2 122 Zm5 (.f2 122 Zmr (.f2 122 ZlJ (.f1 152 z)))))))) (r 10)
def Zmq : SX := .us .bool 570 ZM ZdX (r 10) (.f2 121 (r 25) (.f2 124 (.f2 122 Zd6 (.f1 152 z)) (.f1 154 z)))
def ZgC : SX := c 571 ZdX Zap
def Zln : SX := f 568 ZM ZdX
def ZlY : SX := .f2 155 Zln (.us .g 556 (.us .g 555 Zam Z2 (wM0 544 Zam Z2) (.f2 122 (d 542 Zam Z2) Zfl)) Z2 Zlp Zk6)
def Zmv : SX := .f1 2 ZiB
def Zm9 : SX := .us .bool 570 ZM ZdX (r 10) (r 25)
def ZlE : SX := .f2 155 Zln Zam
def ZlM : SX := .f1 2 Zil
def ZmP : SX := .us .bool 559 Z8 Yp (r 10) (r 17)
def Zgo : SX := t Zcc z
def Ziy : SX := .f2 121 (r 10) (.f2 124 (.f2 122 (a 20) (.f2 122 (a 19) (.f2 122 (k (-1)) (.f2 122 z (.f2 122 (k (-1)) Zfl))))) (.f1 154 z))
def Zmt : SX := hR0 548 Z8 Yp Ziy
def Zio : SX := .f1 32 Zmt
def ZEx : VC := i (l z (a 2)) (i (l (a 2) (.f1 32 (r 4))) (i (l (a 2) (a 3)) (i (l (a 2) (k 9223372036854775807)) (.and (i (t (k 400) (a 2)) (n (e (k 2) Zyx) .tt)) (i (l (a 2) (k 400)) (u 6 .bool (i (.f2 48 (q 6) (.f1 2 (c 511 (r 4) (a 2)))) (.and (i (q 6) (n (e (k 280) Zyx) .tt)) (i (.f1 2 (q 6)) (u 7 .int (i (l z (a 7)) (u 8 .int (i ZAK (n (l ZAj z) (n (.f2 50 (.bool false) ZDb) (n (l ZBT z) (n (.f2 50 (.bool false) ZCu) (n (.us .bool 559 Z8 z (.f1 154 z) (.f1 154 z)) (n (e (v 550 Z8) (k (-1))) (n (e (v 551 Z8) z) (n (.f2 155 ZB8 (w 561 (.f1 154 z))) (n (.f2 155 ZAq (.f1 154 z)) (n (.f2 155 ZAs (.f1 154 z)) (n (.f2 155 (wM0 547 (.f1 154 z) ZB8) (.f1 155 z)) (n ZCu (n ZDb (u 9 .int (u 10 .rows (u 11 .int (u 12 .int (u 13 .int (u 14 .int (u 15 .int (u 16 .int (u 17 .rows (i (l z (a 9)) (i (l (a 9) (a 2)) (i (l Zbv (a 12)) (i (.f2 50 Zge (e Zbv z)) (i (l ZdJ (a 14)) (i (.f2 50 ZvK (e ZdJ z)) (i (l (.f1 32 (r 17)) (a 16)) (i (.f2 50 (l z (a 15)) (e (.f1 32 (r 17)) z)) (i (.us .bool 559 Z8 (a 9) (r 10) (r 17)) (i (e (d 550 Z8 (a 9)) (k (-1))) (i (e (d 551 Z8 (a 9)) z) (.and (i (t (a 9) (a 2)) (i (c 558 (r 10) ZM) (n (t (a 9) (.f1 32 (r 4))) (u 18 .int (i (l z (a 18)) (.and (i Zjp (n (t Z0 ZnX) (n (e Zcc ZrT) (i ZeJ (i ZeE (i Zet (i Zey (i Zer (i Zew (i Zdt (.and (i Zjp (n (l z Z0) (.and (i Zn9 (.and (i Zjp (n Zad (n YW (n Y5 (n Zac (n Y2 (n YZ (n Zan (n ZaV (n Y4 (n YY .tt))))))))))) .tt)) (i ZuC (.and (i Zo9 (.and (i Zoz (u 19 .int (i ZeB (n Zuu (n Zvk (u 20 .int (u 21 .int (i Zvo (i ZqJ (n Za5 (n Za8 (n Za4 (n ZaY (n Zba (n Zkm (n ZjS (n Zrh (n ZqW (n ZrV (n Za9 (n ZaX (n Zjk (n Zr2 (n Zji (n Zi6 (n ZtW (n ZkV .tt))))))))))))))))))))))))))) (i Zsy (.and (i Zgg (n Zad (n YW (n Y5 (n Zac (n Y2 (n YZ (n Zan (n ZaV (n Y4 (n YY .tt))))))))))) (i Zhp (i ZeJ (i ZeE (i Zet (i Zey (i Zer (i Zew (i Zdt (n (l ZgV (k 1000000)) (n (l Zg0 (k 1000000)) (u 19 .int (u 20 .int (u 21 .int (u 22 .int (i (l ZfS (a 20)) (i (l ZfQ (a 22)) (i (.f2 50 ZeB (e ZfS z)) (i (.f2 50 ZhR (e ZfQ z)) (n Zc3 (n Zc9 (n (e ZfS ZfS) (n (e ZfQ ZfQ) (n Za5 (n Za8 (n Za4 (n ZaY (n Zba (n (l Zh7 (a 12)) (n (.f2 50 Zge (e Zh7 z)) (n Zak (n Zaf (n (.us .bool 559 Z8 Yp ZiL (.f1 154 z)) (n Za9 (n ZaX (n (.f2 155 Zbm (.us .g 556 (.us .g 555 ZM Z0 Zgz ZmR) Z0 Zl8 ZlV)) (n Zah (n (.f2 155 Zlr ZdC) (n (.f2 155 (wM0 547 ZiL Zbm) Zap) (n Zaj (n (e Zh7 Zbv) .tt)))))))))))))))))))))))))))))))))))))))))))) (i ZmC (.and (i Zd1 (.and (i Zd1 (.and (i Zgg (n Zad (n YW (n Y5 (n Zac (n Y2 (n YZ (n Zan (n ZaV (n Y4 (n YY .tt))))))))))) (i Zhp (i ZeJ (i ZeE (i Zet (i Zey (i Zer (i Zew (i Zdt (n Zc3 (n Zc9 (n Zd0 (n Zeb (n Za5 (n Za8 (n Za4 (n ZaY (n Zba (n ZhS (n ZiH (n Zak (n Zaf (n Zea (n Za9 (n ZaX (n Zlv (n Zah (n Ziq (n Zeh (n Zaj (n ZiW .tt)))))))))))))))))))))))))))))))) .tt)) (i Zmz (.and (i Zgv (.and (i Zgg (n Zad (n YW (n Y5 (n Zac (n Y2 (n YZ (n Zan (n ZaV (n Y4 (n YY .tt))))))))))) (i Zhp (i ZeJ (i ZeE (i Zet (i Zey (i Zer (i Zew (i Zdt (n Zc3 (n Zc9 (n Zd0 (n Zeb (n Za5 (n Za8 (n Za4 (n ZaY (n Zba (n ZhS (n ZiH (n Zak (n Zaf (n Zea (n Za9 (n ZaX (n Zlv (n Zah (n Ziq (n Zeh (n Zaj (n ZiW .tt)))))))))))))))))))))))))))))))) (i Zmo (.and (i ZhW (.and (i Zgg (n Zad (n YW (n Y5 (n Zac (n Y2 (n YZ (n Zan (n ZaV (n Y4 (n YY .tt))))))))))) (i Zhp (i ZeJ (i ZeE (i Zet (i Zey (i Zer (i Zew (i Zdt (n Zc3 (n Zc9 (n Zd0 (n Zeb (n Za5 (n Za8 (n Za4 (n ZaY (n Zba (n ZhS (n ZiH (n Zak (n Zaf (n Zea (n Za9 (n ZaX (n (.f2 155 Zbm (.us .g 556 (.us .g 555 ZM Z0 Zgz (.f2 122 ZlP Zfl)) Z0 Zg9 Zhy)) (n Zah (n Ziq (n Zeh (n Zaj (n ZiW .tt)))))))))))))))))))))))))))))))) (i Zl1 (.and (i ZhM (n ZlS (i (e Zcc Zm6) (i (t Zai ZnX) (i (l ZmT (.f3 112 (r 10) Zai (k 3))) (i (l Zmy (.f3 112 (r 10) Zai (k 5))) (i (.f2 50 (l z (.f3 112 (r 10) Zai (k 2))) (e ZmT z)) (i (.f2 50 (l z (.f3 112 (r 10) Zai (k 4))) (e Zmy z)) (i (l z (.f3 112 (r 10) Zai (k 1))) (i (l z Zm6) (i Zdt (.and (i Zgg (n Znc (n Zlw (n Zl5 (u 19 .bool (i Zm3 (.and (i Zl3 (n ZiD (.and (i ZlU (n Zad (n YW (n Y5 (n Zac (n Y2 (n YZ (n Zan (n ZaV (n Y4 (n YY .tt))))))))))) (i Zmj (n Zmm (.and (i ZmO (n Zad (n YW (n Y5 (n Zac (n Y2 (n YZ (n Zan (n Zl9 (n Y4 (n YY .tt))))))))))) (i ZiC (i ZeJ (i ZeE (i Zet (i Zey (i Zer (i Zew (i Zdt (n Zc3 (n Zc9 (n Zd0 (n Zeb (u 20 .int (i Zgb (n ZmI (n Zm4 (u 21 .int (u 22 .int (i (l Zb6 (a 22)) (i (.f2 50 ZhR ZlQ) (n Za5 (n Za8 (n Za4 (n ZaY (n Zba (n (l ZcW (a 22)) (n (.f2 50 ZhR ZhL) (n Zak (n Zaf (n Zea (n Za9 (n ZaX (n Zk8 (n Zah (n ZlN (n Zeh (n Zaj (n Zmb .tt)))))))))))))))))))))))))))))))))))))))))))) (i (.f1 2 (q 19)) (n ZiD (n Zad (n YW (n Y5 (n Zac (n Y2 (n YZ (n Zan (n ZaV (n Y4 (n YY .tt))))))))))))))))))) (i Zhp (n ZiD (.and (i ZlU (n Zad (n YW (n Y5 (n Zac (n Y2
 (n YZ (n Zan (n ZaV (n Y4 (n YY .tt))))))))))) (i Zmj (n Zmm (.and (i ZmO (n Zad (n YW (n Y5 (n Zac (n Y2 (n YZ (n Zan (n Zl9 (n Y4 (n YY .tt))))))))))) (i ZiC (i ZeJ (i ZeE (i Zet (i Zey (i Zer (i Zew (i Zdt (n Zc3 (n Zc9 (n Zd0 (n Zeb (u 19 .int (i ZeB (n ZmI (n Zm4 (u 20 .int (u 21 .int (i (l Zb6 (a 21)) (i (.f2 50 Zgb ZlQ) (n Za5 (n Za8 (n Za4 (n ZaY (n Zba (n (l ZcW (a 21)) (n (.f2 50 Zgb ZhL) (n Zak (n Zaf (n Zea (n Za9 (n ZaX (n Zk8 (n Zah (n ZlN (n Zeh (n Zaj (n Zmb .tt)))))))))))))))))))))))))))))))))))))))))))))))))))))))) (i Zld (.and (i Zil (u 19 .int (i ZeB (n Znb (n Zmw (n Zme (n Zll (u 20 .amap (u 21 .ints (u 22 .rows (u 23 .int (u 24 .int (u 25 .rows (i ZmA (i Zmc (i Zl6 (i Zlu (i Zle (.and (i Zlk (n Za5 (n Za8 (n Za4 (n ZaY (n Zba (n Zl4 (n Zli (n Zak (n Zaf (n ZlZ (n Za9 (n ZaX (n Zlf (n Zah (n Zk4 (n ZmG (n Zaj (n Zm7 .tt))))))))))))))))))) (u 26 .int (i Zlj (n ZmQ (i Zfu (i Zfj (i Zfn (i Zfw (i Zfh (i Zfv (i Zga (i Zgd (i ZfT (n ZmB (.and (i ZiB (i Zfu (i Zfj (i Zfn (i Zfw (i Zfh (i Zfv (i Zga (i Zgd (i ZfT (n Zmp (n Zlb (n ZmZ (n ZlO (u 27 .int (i ZlG (n Zk7 (n Zmx (u 28 .int (u 29 .int (i ZlB (i Zm1 (n Zf3 (n ZlH (n Zmq (n ZgC (n ZlY .tt))))))))))))))))))))))))))) (i Zmv (n Zf3 (n Zm9 (n ZgC (n ZlE .tt)))))))))))))))))))))))))))))))))))))) (i ZlM (n Za5 (n Za8 (n Za4 (n ZaY (n Zba (n Zkm (n ZjS (n Zak (n Zaf (n ZmP (n Za9 (n ZaX (n Zjk (n Zah (n Zji (n Zi6 (n Zaj (n ZkV .tt)))))))))))))))))))))))))))))))))) .tt))))))))))) (i Zgo (.and .tt (i Zgo (.and (i Zn9 (.and .tt (i Zgo (u 19 .int (i ZeB (u 20 .int (i Zgb (n Za5 (n Za8 (n Za4 (n ZaY (n Zba (n (l Zio (a 12)) (n (.f2 50 Zge (e Zio z)) (n Zak (n Zaf (n (.us .bool 559 Z8 Yp Ziy (.f1 154 z)) (n Za9 (n ZaX (n (.f2 155 Zbm (h 557 ZM ZfH (a 9))) (n Zah (n (.f2 155 Zmt ZdC) (n (.f2 155 (wM0 547 Ziy Zbm) (.f3 142 Zap ZfH (a 20))) (n Zaj (n (e Zio Zbv) .tt))))))))))))))))))))))))) (i ZuC (.and (i Zo9 (.and (i Zoz (u 19 .int (i ZeB (n Zuu (n Zvk (u 20 .int (u 21 .int (i Zvo (i ZqJ (n Za5 (n Za8 (n Za4 (n ZaY (n Zba (n Zkm (n ZjS (n Zrh (n ZqW (n ZrV (n Za9 (n ZaX (n Zjk (n Zr2 (n Zji (n Zi6 (n ZtW (n ZkV .tt))))))))))))))))))))))))))) (i Zsy (n Zad (n YW (n Y5 (n Zac (n Y2 (n YZ (n Zan (n ZaV (n Y4 (n YY .tt))))))))))))) (i ZmC (.and (i Zd1 (.and (i Zd1 (n Zad (n YW (n Y5 (n Zac (n Y2 (n YZ (n Zan (n ZaV (n Y4 (n YY .tt))))))))))) .tt)) (i Zmz (.and (i Zgv (n Zad (n YW (n Y5 (n Zac (n Y2 (n YZ (n Zan (n ZaV (n Y4 (n YY .tt))))))))))) (i Zmo (.and (i ZhW (n Zad (n YW (n Y5 (n Zac (n Y2 (n YZ (n Zan (n ZaV (n Y4 (n YY .tt))))))))))) (i Zl1 (.and (i ZhM (n Znc (n Zlw (n Zl5 (n (.f2 50 Zgo ZlS) (u 19 .bool (i Zm3 (.and (i Zl3 (n Zjp (.ff 31))) (i (.f1 2 (q 19)) (n Zad (n YW (n Y5 (n Zac (n Y2 (n YZ (n Zan (n ZaV (n Y4 (n YY .tt))))))))))))))))))) (i Zld (.and (i Zil (u 19 .int (i ZeB (n Znb (n Zmw (n Zme (n Zll (u 20 .amap (u 21 .ints (u 22 .rows (u 23 .int (u 24 .int (u 25 .rows (i ZmA (i Zmc (i Zl6 (i Zlu (i Zle (.and (i Zlk (n Za5 (n Za8 (n Za4 (n ZaY (n Zba (n Zl4 (n Zli (n Zak (n Zaf (n ZlZ (n Za9 (n ZaX (n Zlf (n Zah (n Zk4 (n ZmG (n Zaj (n Zm7 .tt))))))))))))))))))) (u 26 .int (i Zlj (n ZmQ (i Zfu (i Zfj (i Zfn (i Zfw (i Zfh (i Zfv (i Zga (i Zgd (i ZfT (n ZmB (.and (i ZiB (i Zfu (i Zfj (i Zfn (i Zfw (i Zfh (i Zfv (i Zga (i Zgd (i ZfT (n Zmp (n Zlb (n ZmZ (n ZlO (u 27 .int (i ZlG (n Zk7 (n Zmx (u 28 .int (u 29 .int (i ZlB (i Zm1 (n Zf3 (n ZlH (n Zmq (n ZgC (n ZlY .tt))))))))))))))))))))))))))) (i Zmv (n Zf3 (n Zm9 (n ZgC (n ZlE .tt)))))))))))))))))))))))))))))))))))))) (i ZlM (n Za5 (n Za8 (n Za4 (n ZaY (n Zba (n Zkm (n ZjS (n Zak (n Zaf (n ZmP (n Za9 (n ZaX (n Zjk (n Zah (n Zji (n Zi6 (n Zaj (n ZkV .tt))))))))))))))))))))))))))))))))))))))))) (i (l (a 2) (a 9)) (n Zad (n YW (n Y5 (n Zac (n Y2 (n YZ (n (e (k (-1)) Zvw) (n (e z Zou) (n Y4 (n YY .tt))))))))))))))))))))))))))))))))))))))))))))))))))))))))))
theorem ZF2 : Zb4 Try.prog ZD7 12 17 ZkR = ZEx := by kernel_rfl
theorem ZF3 (S : Sig GG) (hS : JtSig S) : ZH S Try.prog 36 ZsB := by
 refine Zp S (C := ZEX) (fuel := 12) (Zab trivial ⟨⟨⟨by decide, Zcg S hS⟩, ⟨by decide, Zcs S hS⟩, trivial⟩, ⟨trivial, trivial, trivial, ⟨by decide, ZvT S hS⟩, trivial, ⟨by decide, ZoT S hS⟩, trivial⟩, trivial⟩ trivial) fun ρ => ?_
 rw [ZFd]
 simp only [ZEs, ZAJ, Zxo, Zgi, ZyA, ZBh, Zxz, ZAI, ZCI, ZzY, ZBS, ZsO, Zvs, Zu6, ZvX, Zvl, ZqF, Zvx, ZuU, Zu9, Zhv, Zs4, hS.u545, hS.u546, hS.u552, hS.u558, hS.u560, hS.u562, hS.u565, hS.u566, ZT, ZGO, VC.den, SX.den, Env.upd, Y3, ZY, beq_iff_eq, ZGG, beq_eq_false_iff_ne, ne_eq, ZGF, ZGE, Int.reduceToNat, Nat.reduceEqDiff, reduceIte, sB]
 generalize (ρ 3).tR = F
 generalize (ρ 5).tR = R
 generalize (ρ 4).tI = v
 generalize (ρ 1).tI = l
 generalize ZE _ = L
 intro h1 h2 h3 h4 h5 h6 h7 h8 h9
 refine ⟨by omega, by omega, Zz (by rw [List.take_zero]; exact List.not_mem_nil), fun x hx0 hx1 hx2 => ?_⟩
 obtain ⟨n, rfl⟩ := ZGz hx0
 have e1 : ((n : Int) + 1).toNat = n + 1 := by omega
 simp only [e1, ZGO] at hx2 ⊢
 have hx2 : ¬ [v] ∈ F.take n := fun h => by rw [Zy h] at hx2; cases hx2
 have hv0 : 0 <= v := by
  obtain ⟨k, hk, rfl⟩ := h5
  refine h6.2.2 _ ?_
  rw [ZGH, ZGK hk, ZGC]; exact ZG4 hk
 refine ⟨fun hlt => ?_, fun hge _ _ _ _ _ _ _ _ _ => ⟨?_, trivial⟩⟩
 ·have hn : n < F.length := by omega
  have hgt : F.getD n [] = F[n] := by rw [ZGH, ZGK hn, ZGC]
  have hm : F.getD n [] ∈ F := by rw [hgt]; exact ZG4 hn
  obtain ⟨b, hb, hbl⟩ := h4 _ hm
  have e2 : F.take (n + 1) = F.take n ++ [F.getD n []] := by rw [hgt]; exact (List.take_append_getElem hn).symm
  rw [e2, hb]
  have hb0 : ([b] : List Int).getD 0 0 = b := rfl
  rw [hb0]
  have no : ¬ v = b -> Zl ([v] ∈ F.take n ++ [[b]]) = false := fun hne => Zz fun h => by
   rcases List.mem_append.1 h with h | h
   ·exact hx2 h
   ·rw [ZGA] at h; injection h with h; exact hne h
  refine ⟨fun he => ⟨by omega, by omega, fun _ _ _ _ _ _ _ _ _ => ⟨?_, trivial⟩⟩, fun he => ⟨hbl, by omega, by omega, by omega, by omega, by omega, by omega, no he, trivial⟩⟩
  rw [Zy (by rw [he, <- hb]; exact hm), Za.2 (by omega)]
 ·rw [ZGT (by omega)] at hx2
  rw [Zz hx2]
set_option maxRecDepth 100000 in
set_option maxHeartbeats 4000000 in
theorem Zvg (S : Sig GG) (hS : JtSig S) : ZH S Try.prog 17 ZkR := by
 refine Zp S (C := ZD7) (fuel := 12) (Zab ⟨Zm (by decide) (ZEj S hS.jb), Zm (by decide) (ZDE S hS), Zyr (by decide) (ZF3 S hS) (by decide) (ZDF S hS), trivial⟩ ⟨⟨⟨by decide, ZjW S⟩, ⟨by decide, ZjW S⟩, ⟨by decide, Zzv S⟩, ⟨by decide, ZEp S hS⟩, trivial, ⟨by decide, Zzb S hS⟩, trivial, trivial, ⟨by decide, ZkW S hS⟩, trivial, ⟨by decide, Zcg S hS⟩, ⟨by decide, ZDD S hS⟩, ⟨by decide, ZjW S⟩, ⟨by decide, ZjW S⟩, ⟨by decide, ZkW S hS⟩, ⟨by decide, Zi7 S hS⟩, ⟨by decide, ZkW S hS⟩, ⟨by decide, Zi7 S hS⟩, ⟨by decide, ZkW S hS⟩, ⟨by decide, Zi7 S hS⟩, trivial, ⟨by decide, Zcs S hS⟩, trivial, ⟨by decide, Zcg S hS⟩, ⟨by decide, ZkW S hS⟩, ⟨by decide, Zi7 S hS⟩, ⟨by decide, ZjW S⟩, trivial, ⟨by decide, Zcs S hS⟩, ⟨by decide, Zcg S hS⟩, ⟨by decide, Zcs S hS⟩, ⟨by decide, Zi7 S hS⟩, trivial, ⟨by decide, ZzC S hS⟩, trivial, ⟨by decide, ZzC S hS⟩, trivial, ⟨by decide, ZEb S hS⟩, trivial⟩, trivial⟩ trivial) fun ρ => ?_
 rw [ZF2]
 simp only [ZEx, Z8, Zyx, ZAK, ZAs, ZAj, ZDb, ZAq, ZBT, ZCu, ZB8, ZdC, Zbv, Zge, Zjv, ZdJ, ZvK, ZM, Zap, ZfH, Zcc, Zjp, Z0, ZnX, ZrT, Zg9, ZgV, ZsL, ZeJ, Zhy, Zg0, ZsJ, ZeE, Zsp, Zet, Zw8, Zey, ZnZ, Zer, Zew, Zdt, ZdL, Zn9, Zg5, Zad, YW, Y5, Zac, Y2, YZ, Zvw, Zan, Zou, ZaV, Y4, YY, ZuC, Zo9, Zoz, ZeB, Zuu, Zjq, Zvk, Zvo, Zgb, ZqJ, Yp, Za5, ZsF, Za8, Za4, ZaY, Zba, ZsG, Zny, Zkm, ZjS, Zng, Zha, Zrh, Zsb, ZqW, ZrV, Za9, ZaX, Zbm, Zjk, Ztd, ZuI, Zv0, ZnD, Zr2, Zji, Zi6, ZtW, ZkV, Zsy, Zvq, Zgg, Zhp, Zgz, Zl8, ZfS, ZlV, ZfQ, ZhR, ZlW, Zc3, Zmi, Zc9, ZiL, Zlr, Zh7, Zak, Zaf, ZlP, ZmR, Zah, Zaj, ZmC, Zd1, Zd0, Zeb, Zib, Zij, ZcW, ZhS, ZhL, ZiH, Zea, Zgv, Zlv, Ziq, Zeh, ZiW, Zmz, Zmo, ZhW, Zfl, Zl1, ZhM, ZlS, Zai, Zm6, ZmT, Zmy, Znc, Zlw, Zl5, Zm3, Zl3, ZiD, Zlq, ZlU, Zmj, Zb6, Zmm, ZiC, ZmO, Zl9, ZmI, Zm4, ZlQ, Zk8, ZlN, Zmb, Zld, Zil, Znb, Zmw, Zme, Zll, ZmA, Zmc, Zl6, Zlu, Zle, Zlk, Zl0, ZiJ, Zl4, Zli, ZlZ, Zam, Zlf, Zk4, ZmG, Zm7, Zlj, Zd6, ZmQ, Z2, Zmn, Zfu, Zm0, Zfj, Zlp, Zgj, Zm5, Zfn, Zk6, ZgB, ZlJ, Zfw, Zmh, Zfh, Zmr, Zfv, Zmd, Zga, Zgd, ZfT, ZmB, ZiB, ZmH, Zmp, ZlT, Zlb, ZmZ, ZlO, ZlG, Zk7, ZiS, Zmx, ZlB, Zm1, ZdX, Zf3, ZlH, Zmq, ZgC, Zln, ZlY, Zmv, Zm9, ZlE, ZlM, ZmP, Zgo, Ziy, Zmt, Zio, hS.jb.rf.u511, hS.jb.rf.u523, hS.u540, hS.u541, hS.u542, hS.u543, hS.u544, hS.u545, hS.u546, hS.u547, hS.u548, hS.u549, hS.u550, hS.u551, hS.u552, hS.u553, hS.u554, hS.u555, hS.u556, hS.u557, hS.u558, hS.u559, hS.u560, hS.u561, hS.u562, hS.u563, hS.u564, hS.u565, hS.u566, hS.u568, hS.u569, hS.u570, hS.u571, ZT, ZGO, VC.den, SX.den, Env.upd, Y3, ZY, beq_iff_eq, ZGG, beq_eq_false_iff_ne, ne_eq, ZGF, ZGE, Int.reduceToNat, Nat.reduceEqDiff, reduceIte, sB]
 generalize hX : (ρ 4).tR.take (ρ 2).tI.toNat = X
 intro h1
 intro h2
 intro h3
 intro h4
 have hlX : X.length = (ρ 2).tI.toNat := by rw [<- hX, ZGJ]; omega
 refine ⟨?_, ?_⟩
 ·skip
  intro h6
  refine ⟨?_, ?_⟩
  ·unfold ZaA; rw [if_pos (by omega)]
  trivial
 ·skip
  intro h10
  intro v11
  intro h12
  refine ⟨?_, ?_⟩
  ·skip
   intro h14
   refine ⟨?_, ?_⟩
   ·have hq : Zih X X.length = false := by
     rw [<- hX, Zpn (by omega)]; rw [h14] at h12; cases hc : Zih (ρ 4).tR (ρ 2).tI.toNat
     ·rfl
     ·rw [hc] at h12; cases h12
    unfold ZaA; rw [if_neg (by omega), hq]; rfl
   trivial
  ·skip
   intro h18
   have hck : ZaA X = 0 := by
    have hq : Zih X X.length = true := by
     rw [<- hX, Zpn (by omega)]; rw [h18] at h12; cases hc : Zih (ρ 4).tR (ρ 2).tI.toNat
     ·rw [hc] at h12; cases h12
     ·rfl
    unfold ZaA; rw [if_neg (by omega), hq]; rfl
   intro v19
   intro h20
   intro v21
   intro h22
   refine ⟨?_, ?_⟩
   ·show ((0 : Nat) : Int) <= 0; omega
   refine ⟨?_, ?_⟩
   ·exact .inr rfl
   refine ⟨?_, ?_⟩
   ·show ((0 : Nat) : Int) <= 0; omega
   refine ⟨?_, ?_⟩
   ·exact .inr rfl
   refine ⟨?_, ?_⟩
   ·exact List.Perm.nil
   refine ⟨?_, ?_⟩
   ·first | omega | trivial | (with_reducible assumption)
   refine ⟨?_, ?_⟩
   ·first | omega | trivial | (with_reducible assumption)
   refine ⟨?_, ?_⟩
   ·first | omega | trivial | (with_reducible assumption)
   refine ⟨?_, ?_⟩
   ·first | omega | trivial | (with_reducible assumption)
   refine ⟨?_, ?_⟩
   ·first | omega | trivial | (with_reducible assumption)
   refine ⟨?_, ?_⟩
   ·first | omega | trivial | (with_reducible assumption)
   refine ⟨?_, ?_⟩
   ·first | omega | trivial | (with_reducible assumption)
   refine ⟨?_, ?_⟩
   ·first | omega | trivial | (with_reducible assumption)
   intro v36
   intro v37
   intro v38
   intro v39
   intro v40
   intro v41
   intro v42
   intro v43
   intro v44
   intro h45
   intro h46
   intro h47
   intro h48
   intro h49
   intro h50
   intro h51
   intro h52
   intro h53
   intro h54
   intro h55
   obtain ⟨n, rfl⟩ := ZGz h45
   have e1 : ((n : Int) + 1).toNat = n + 1 := by omega
   simp only [e1, ZGO] at h47 h48 h49 h50 h53 h54 h55 ⊢
   obtain ⟨B, hB⟩ : ∃ B, ZV X n = B := ⟨_, rfl⟩
   have hw := ZeD X n
   simp only [hB] at h47 h48 h49 h50 h53 h54 h55 hw ⊢
   refine ⟨?_, ?_⟩
   ·skip
    intro h57
    intro h58
    have hnX : n < X.length := by omega
    have he : (ρ 4).tR.getD n [] = xa X n := by rw [<- hX]; exact (Zdg (by omega)).symm
    have hsu := ZkD (x := X) (n := n) (by rw [hB]; exact h54)
    rw [hB] at hsu
    have htold := fun w => ZBZ (w := w) hB h54 hnX
    obtain ⟨x, hx⟩ : ∃ x, xa X n = x := ⟨_, rfl⟩
    simp only [he, hx] at hsu htold ⊢
    obtain ⟨J, hJ⟩ : ∃ J, ixL (x.getD 1 0) B.txs = J := ⟨_, rfl⟩
    have hj : ixL (xw x) B.txs = J := hJ
    have hA := ZbC (w := x.getD 1 0) h58.1 (-1)
    simp only [hJ, Zci] at hA ⊢
    have hol := hw.ol
    have hkl := hw.kl
    have hlt := hw.lt
    have hfl := hw.fl
    have hlr : ∀ (R : List (List Int)) ks, (Zbf R ks).length = ks.length := fun R ks => by unfold Zbf; rw [ZGR]
    have hFl : v44.length = B.fal.length := by have := h53.length_eq; rw [hlr] at this; exact this
    simp only [hlr] at h47 h48 ⊢
    have hfi : ∀ k ∈ B.fal, k < v37.length := fun k hk => by have := hw.fi k hk; have := h58.1; omega
    have h560 : ∀ r ∈ v44, ∃ b', r = [b'] /\ ZmL v37 b' := fun r hr => Zkt hfi r (h53.mem_iff.1 hr)
    refine ⟨?_, ?_⟩
    ·first | omega | trivial | (with_reducible assumption)
    intro v60
    intro h61
    refine ⟨?_, ?_⟩
    ·skip
     intro h63
     have hJl : J < B.txs.length := by
      rcases ZGB J B.txs.length with q | q
      ·exact q
      ·rw [hA.1, if_neg (by omega)] at h63; omega
     have hT := hA.1
     rw [if_pos hJl] at hT
     have hJR : J < v37.length := by have := h58.1; omega
     have hrI := ZaG h58.2.1 hJR
     simp only [hT, hrI, Zci, ZGO] at h63 ⊢
     refine ⟨?_, ?_⟩
     ·first | omega | trivial | (with_reducible assumption)
     refine ⟨?_, ?_⟩
     ·first | omega | trivial | (with_reducible assumption)
     intro h66
     intro h67
     intro h68
     intro h69
     intro h70
     intro h71
     intro h72
     refine ⟨?_, ?_⟩
     ·skip
      intro h74
      refine ⟨?_, ?_⟩
      ·first | omega | trivial | (with_reducible assumption)
      refine ⟨?_, ?_⟩
      ·skip
       intro h77
       refine ⟨?_, ?_⟩
       ·skip
        intro h79
        have hF := htold 1 (st1a hj h77 hJl)
        refine ⟨?_, ?_⟩
        ·first | (with_reducible rfl) | (with_reducible exact hck.symm) | (rw [hF]; done) | (rw [hF]; with_reducible exact h54.symm) | (rw [hF]; with_reducible exact h55.symm) | (rw [hF]; rfl) | (rw [Za.2 h22]; rfl) | trivial
        refine ⟨?_, ?_⟩
        ·first | (with_reducible rfl) | (with_reducible exact hck.symm) | (rw [hF]; done) | (rw [hF]; with_reducible exact h54.symm) | (rw [hF]; with_reducible exact h55.symm) | (rw [hF]; rfl) | (rw [Za.2 h22]; rfl) | trivial
        refine ⟨?_, ?_⟩
        ·first | (with_reducible rfl) | (with_reducible exact hck.symm) | (rw [hF]; done) | (rw [hF]; with_reducible exact h54.symm) | (rw [hF]; with_reducible exact h55.symm) | (rw [hF]; rfl) | (rw [Za.2 h22]; rfl) | trivial
        refine ⟨?_, ?_⟩
        ·first | (with_reducible rfl) | (with_reducible exact hck.symm) | (rw [hF]; done) | (rw [hF]; with_reducible exact h54.symm) | (rw [hF]; with_reducible exact h55.symm) | (rw [hF]; rfl) | (rw [Za.2 h22]; rfl) | trivial
        refine ⟨?_, ?_⟩
        ·first | (with_reducible rfl) | (with_reducible exact hck.symm) | (rw [hF]; done) | (rw [hF]; with_reducible exact h54.symm) | (rw [hF]; with_reducible exact h55.symm) | (rw [hF]; rfl) | (rw [Za.2 h22]; rfl) | trivial
        refine ⟨?_, ?_⟩
        ·first | (with_reducible rfl) | (with_reducible exact hck.symm) | (rw [hF]; done) | (rw [hF]; with_reducible exact h54.symm) | (rw [hF]; with_reducible exact h55.symm) | (rw [hF]; rfl) | (rw [Za.2 h22]; rfl) | trivial
        refine ⟨?_, ?_⟩
        ·first | (with_reducible rfl) | (with_reducible exact hck.symm) | (rw [hF]; done) | (rw [hF]; with_reducible exact h54.symm) | (rw [hF]; with_reducible exact h55.symm) | (rw [hF]; rfl) | (rw [Za.2 h22]; rfl) | trivial
        refine ⟨?_, ?_⟩
        ·first | (with_reducible rfl) | (with_reducible exact hck.symm) | (rw [hF]; done) | (rw [hF]; with_reducible exact h54.symm) | (rw [hF]; with_reducible exact h55.symm) | (rw [hF]; rfl) | (rw [Za.2 h22]; rfl) | trivial
        refine ⟨?_, ?_⟩
        ·first | (with_reducible rfl) | (with_reducible exact hck.symm) | (rw [hF]; done) | (rw [hF]; with_reducible exact h54.symm) | (rw [hF]; with_reducible exact h55.symm) | (rw [hF]; rfl) | (rw [Za.2 h22]; rfl) | trivial
        refine ⟨?_, ?_⟩
        ·first | (with_reducible rfl) | (with_reducible exact hck.symm) | (rw [hF]; done) | (rw [hF]; with_reducible exact h54.symm) | (rw [hF]; with_reducible exact h55.symm) | (rw [hF]; rfl) | (rw [Za.2 h22]; rfl) | trivial
        trivial
       ·skip
        trivial
      ·skip
       intro h94
       refine ⟨?_, ?_⟩
       ·skip
        intro h96
        refine ⟨?_, ?_⟩
        ·skip
         intro h98
         have hst := hsu.trans (st2a hj h96 h98)
         intro v99
         intro h100
         refine ⟨?_, ?_⟩
         ·first | omega | trivial | (with_reducible assumption)
         refine ⟨?_, ?_⟩
         ·first | omega | trivial | (with_reducible assumption)
         intro v103
         intro v104
         intro h105
         intro h106
         refine ⟨?_, ?_⟩
         ·omega
         refine ⟨?_, ?_⟩
         ·omega
         refine ⟨?_, ?_⟩
         ·omega
         refine ⟨?_, ?_⟩
         ·omega
         refine ⟨?_, ?_⟩
         ·omega
         refine ⟨?_, ?_⟩
         ·first | (simp only [hst, hlr, ZGM, ZGv]; first | omega | assumption | done) | (simp only [hst, hlr, ZGM, ZGv]; done)
         refine ⟨?_, ?_⟩
         ·first | (simp only [hst, hlr, ZGM, ZGv]; first | omega | assumption | done) | (simp only [hst, hlr, ZGM, ZGv]; done)
         refine ⟨?_, ?_⟩
         ·first | (simp only [hst, hlr, ZGM, ZGv]; first | omega | assumption | done) | (simp only [hst, hlr, ZGM, ZGv]; done)
         refine ⟨?_, ?_⟩
         ·first | (simp only [hst, hlr, ZGM, ZGv]; first | omega | assumption | done) | (simp only [hst, hlr, ZGM, ZGv]; done)
         refine ⟨?_, ?_⟩
         ·first | (rw [hst]; exact List.Perm.nil)
         refine ⟨?_, ?_⟩
         ·first | (rw [hst]; exact h54)
         refine ⟨?_, ?_⟩
         ·first | (rw [hst]; exact h55)
         refine ⟨?_, ?_⟩
         ·first | (rw [hst]; done) | (rw [hst]; rfl)
         refine ⟨?_, ?_⟩
         ·first | (rw [hst]; done) | (rw [hst]; rfl)
         refine ⟨?_, ?_⟩
         ·first | (rw [hst]; done) | (rw [hst]; rfl)
         refine ⟨?_, ?_⟩
         ·first | (rw [hst, YV hJR hJl hwho]; done) | (rw [hst]; done)
         refine ⟨?_, ?_⟩
         ·first | (simp only [hst, hlr, ZGM, ZGv]; first | omega | assumption | done) | (simp only [hst, hlr, ZGM, ZGv]; done)
         refine ⟨?_, ?_⟩
         ·first | (simp only [hst, hlr, ZGM, ZGv]; first | omega | assumption | done) | (simp only [hst, hlr, ZGM, ZGv]; done)
         trivial
        ·skip
         intro h127
         refine ⟨?_, ?_⟩
         ·skip
          intro h129
          have hF := htold 1 (st2c hj h96 h127 (fun _ => h129))
          refine ⟨?_, ?_⟩
          ·first | (with_reducible rfl) | (with_reducible exact hck.symm) | (rw [hF]; done) | (rw [hF]; with_reducible exact h54.symm) | (rw [hF]; with_reducible exact h55.symm) | (rw [hF]; rfl) | (rw [Za.2 h22]; rfl) | trivial
          refine ⟨?_, ?_⟩
          ·first | (with_reducible rfl) | (with_reducible exact hck.symm) | (rw [hF]; done) | (rw [hF]; with_reducible exact h54.symm) | (rw [hF]; with_reducible exact h55.symm) | (rw [hF]; rfl) | (rw [Za.2 h22]; rfl) | trivial
          refine ⟨?_, ?_⟩
          ·first | (with_reducible rfl) | (with_reducible exact hck.symm) | (rw [hF]; done) | (rw [hF]; with_reducible exact h54.symm) | (rw [hF]; with_reducible exact h55.symm) | (rw [hF]; rfl) | (rw [Za.2 h22]; rfl) | trivial
          refine ⟨?_, ?_⟩
          ·first | (with_reducible rfl) | (with_reducible exact hck.symm) | (rw [hF]; done) | (rw [hF]; with_reducible exact h54.symm) | (rw [hF]; with_reducible exact h55.symm) | (rw [hF]; rfl) | (rw [Za.2 h22]; rfl) | trivial
          refine ⟨?_, ?_⟩
          ·first | (with_reducible rfl) | (with_reducible exact hck.symm) | (rw [hF]; done) | (rw [hF]; with_reducible exact h54.symm) | (rw [hF]; with_reducible exact h55.symm) | (rw [hF]; rfl) | (rw [Za.2 h22]; rfl) | trivial
          refine ⟨?_, ?_⟩
          ·first | (with_reducible rfl) | (with_reducible exact hck.symm) | (rw [hF]; done) | (rw [hF]; with_reducible exact h54.symm) | (rw [hF]; with_reducible exact h55.symm) | (rw [hF]; rfl) | (rw [Za.2 h22]; rfl) | trivial
          refine ⟨?_, ?_⟩
          ·first | (with_reducible rfl) | (with_reducible exact hck.symm) | (rw [hF]; done) | (rw [hF]; with_reducible exact h54.symm) | (rw [hF]; with_reducible exact h55.symm) | (rw [hF]; rfl) | (rw [Za.2 h22]; rfl) | trivial
          refine ⟨?_, ?_⟩
          ·first | (with_reducible rfl) | (with_reducible exact hck.symm) | (rw [hF]; done) | (rw [hF]; with_reducible exact h54.symm) | (rw [hF]; with_reducible exact h55.symm) | (rw [hF]; rfl) | (rw [Za.2 h22]; rfl) | trivial
          refine ⟨?_, ?_⟩
          ·first | (with_reducible rfl) | (with_reducible exact hck.symm) | (rw [hF]; done) | (rw [hF]; with_reducible exact h54.symm) | (rw [hF]; with_reducible exact h55.symm) | (rw [hF]; rfl) | (rw [Za.2 h22]; rfl) | trivial
          refine ⟨?_, ?_⟩
          ·first | (with_reducible rfl) | (with_reducible exact hck.symm) | (rw [hF]; done) | (rw [hF]; with_reducible exact h54.symm) | (rw [hF]; with_reducible exact h55.symm) | (rw [hF]; rfl) | (rw [Za.2 h22]; rfl) | trivial
          trivial
         ·skip
          intro h142
          have hst := hsu.trans (st2b hj h96 h127 hJl h142)
          have hwho := (Zwl (B.txs.getD J tx0) n x).2.2
          intro h143
          intro h144
          intro h145
          intro h146
          intro h147
          intro h148
          intro h149
          refine ⟨?_, ?_⟩
          ·have := hw.at hJl; omega
          refine ⟨?_, ?_⟩
          ·have := hw.at hJl; omega
          intro v152
          intro v153
          intro v154
          intro v155
          intro h156
          intro h157
          intro h158
          intro h159
          refine ⟨?_, ?_⟩
          ·first | omega | trivial | (with_reducible assumption)
          refine ⟨?_, ?_⟩
          ·first | omega | trivial | (with_reducible assumption)
          refine ⟨?_, ?_⟩
          ·first | omega | trivial | (with_reducible assumption)
          refine ⟨?_, ?_⟩
          ·first | omega | trivial | (with_reducible assumption)
          refine ⟨?_, ?_⟩
          ·omega
          refine ⟨?_, ?_⟩
          ·omega
          refine ⟨?_, ?_⟩
          ·omega
          refine ⟨?_, ?_⟩
          ·omega
          refine ⟨?_, ?_⟩
          ·omega
          refine ⟨?_, ?_⟩
          ·first | (simp only [hst, Zg hJR, hlr, ZGM, ZGv]; first | omega | assumption | done) | (simp only [hst, Zg hJR, hlr, ZGM, ZGv]; done)
          refine ⟨?_, ?_⟩
          ·first | (simp only [hst, Zg hJR, hlr, ZGM, ZGv]; first | omega | assumption | done) | (simp only [hst, Zg hJR, hlr, ZGM, ZGv]; done)
          refine ⟨?_, ?_⟩
          ·first | (simp only [hst, hlr, ZGM, ZGv]; first | omega | assumption | done) | (simp only [hst, hlr, ZGM, ZGv]; done)
          refine ⟨?_, ?_⟩
          ·first | (simp only [hst, hlr, ZGM, ZGv]; first | omega | assumption | done) | (simp only [hst, hlr, ZGM, ZGv]; done)
          refine ⟨?_, ?_⟩
          ·first | (rw [hst]; exact List.Perm.nil)
          refine ⟨?_, ?_⟩
          ·first | (rw [hst]; exact h54)
          refine ⟨?_, ?_⟩
          ·first | (rw [hst]; exact h55)
          refine ⟨?_, ?_⟩
          ·rw [hst, ZeO hJl]; exact congrArg (fun q => U.g (GG.tx (B.txs.set J q))) (rd_eq (B.txs.getD J tx0) n x).symm
          refine ⟨?_, ?_⟩
          ·first | (rw [hst]; done) | (rw [hst]; rfl)
          refine ⟨?_, ?_⟩
          ·first | (rw [hst, Zg hJR]; done) | (rw [hst, Zg hJR]; rfl)
          refine ⟨?_, ?_⟩
          ·first | (rw [hst, YV hJR hJl hwho]; done) | (rw [hst]; done)
          refine ⟨?_, ?_⟩
          ·first | (simp only [hst, hlr, ZGM, ZGv]; first | omega | assumption | done) | (simp only [hst, hlr, ZGM, ZGv]; done)
          refine ⟨?_, ?_⟩
          ·first | (simp only [hst, Zg hJR, hlr, ZGM, ZGv]; first | omega | assumption | done) | (simp only [hst, Zg hJR, hlr, ZGM, ZGv]; done)
          trivial
       ·skip
        intro h184
        refine ⟨?_, ?_⟩
        ·skip
         intro h186
         refine ⟨?_, ?_⟩
         ·skip
          intro h188
          refine ⟨?_, ?_⟩
          ·skip
           intro h190
           have hF := htold 1 (ZFP hj (.inl h186) (fun _ => h190))
           refine ⟨?_, ?_⟩
           ·first | (with_reducible rfl) | (with_reducible exact hck.symm) | (rw [hF]; done) | (rw [hF]; with_reducible exact h54.symm) | (rw [hF]; with_reducible exact h55.symm) | (rw [hF]; rfl) | (rw [Za.2 h22]; rfl) | trivial
           refine ⟨?_, ?_⟩
           ·first | (with_reducible rfl) | (with_reducible exact hck.symm) | (rw [hF]; done) | (rw [hF]; with_reducible exact h54.symm) | (rw [hF]; with_reducible exact h55.symm) | (rw [hF]; rfl) | (rw [Za.2 h22]; rfl) | trivial
           refine ⟨?_, ?_⟩
           ·first | (with_reducible rfl) | (with_reducible exact hck.symm) | (rw [hF]; done) | (rw [hF]; with_reducible exact h54.symm) | (rw [hF]; with_reducible exact h55.symm) | (rw [hF]; rfl) | (rw [Za.2 h22]; rfl) | trivial
           refine ⟨?_, ?_⟩
           ·first | (with_reducible rfl) | (with_reducible exact hck.symm) | (rw [hF]; done) | (rw [hF]; with_reducible exact h54.symm) | (rw [hF]; with_reducible exact h55.symm) | (rw [hF]; rfl) | (rw [Za.2 h22]; rfl) | trivial
           refine ⟨?_, ?_⟩
           ·first | (with_reducible rfl) | (with_reducible exact hck.symm) | (rw [hF]; done) | (rw [hF]; with_reducible exact h54.symm) | (rw [hF]; with_reducible exact h55.symm) | (rw [hF]; rfl) | (rw [Za.2 h22]; rfl) | trivial
           refine ⟨?_, ?_⟩
           ·first | (with_reducible rfl) | (with_reducible exact hck.symm) | (rw [hF]; done) | (rw [hF]; with_reducible exact h54.symm) | (rw [hF]; with_reducible exact h55.symm) | (rw [hF]; rfl) | (rw [Za.2 h22]; rfl) | trivial
           refine ⟨?_, ?_⟩
           ·first | (with_reducible rfl) | (with_reducible exact hck.symm) | (rw [hF]; done) | (rw [hF]; with_reducible exact h54.symm) | (rw [hF]; with_reducible exact h55.symm) | (rw [hF]; rfl) | (rw [Za.2 h22]; rfl) | trivial
           refine ⟨?_, ?_⟩
           ·first | (with_reducible rfl) | (with_reducible exact hck.symm) | (rw [hF]; done) | (rw [hF]; with_reducible exact h54.symm) | (rw [hF]; with_reducible exact h55.symm) | (rw [hF]; rfl) | (rw [Za.2 h22]; rfl) | trivial
           refine ⟨?_, ?_⟩
           ·first | (with_reducible rfl) | (with_reducible exact hck.symm) | (rw [hF]; done) | (rw [hF]; with_reducible exact h54.symm) | (rw [hF]; with_reducible exact h55.symm) | (rw [hF]; rfl) | (rw [Za.2 h22]; rfl) | trivial
           refine ⟨?_, ?_⟩
           ·first | (with_reducible rfl) | (with_reducible exact hck.symm) | (rw [hF]; done) | (rw [hF]; with_reducible exact h54.symm) | (rw [hF]; with_reducible exact h55.symm) | (rw [hF]; rfl) | (rw [Za.2 h22]; rfl) | trivial
           trivial
          ·skip
           intro h203
           have hst := hsu.trans (st3a hj (.inl h186) hJl h203)
           have hwho : ({ B.txs.getD J tx0 with ch := Ym (B.txs.getD J tx0).ch (kc x) ((Zq (ZaU x) : Nat) * 2 + b01 (xk x == 4)) } : Tx).who = (B.txs.getD J tx0).who := rfl
           have hxx := h203
           intro h204
           intro h205
           intro h206
           intro h207
           intro h208
           intro h209
           intro h210
           refine ⟨?_, ?_⟩
           ·first | omega | trivial | (with_reducible assumption)
           refine ⟨?_, ?_⟩
           ·first | omega | trivial | (with_reducible assumption)
           refine ⟨?_, ?_⟩
           ·first | omega | trivial | (with_reducible assumption)
           refine ⟨?_, ?_⟩
           ·first | omega | trivial | (with_reducible assumption)
           refine ⟨?_, ?_⟩
           ·omega
           refine ⟨?_, ?_⟩
           ·omega
           refine ⟨?_, ?_⟩
           ·omega
           refine ⟨?_, ?_⟩
           ·omega
           refine ⟨?_, ?_⟩
           ·omega
           refine ⟨?_, ?_⟩
           ·first | (simp only [hst, Zg hJR, hlr, ZGM, ZGv]; first | omega | assumption | done) | (simp only [hst, Zg hJR, hlr, ZGM, ZGv]; done)
           refine ⟨?_, ?_⟩
           ·first | (simp only [hst, Zg hJR, hlr, ZGM, ZGv]; first | omega | assumption | done) | (simp only [hst, Zg hJR, hlr, ZGM, ZGv]; done)
           refine ⟨?_, ?_⟩
           ·first | (simp only [hst, hlr, ZGM, ZGv]; first | omega | assumption | done) | (simp only [hst, hlr, ZGM, ZGv]; done)
           refine ⟨?_, ?_⟩
           ·first | (simp only [hst, hlr, ZGM, ZGv]; first | omega | assumption | done) | (simp only [hst, hlr, ZGM, ZGv]; done)
           refine ⟨?_, ?_⟩
           ·first | (rw [hst, Zg hJR]; exact h53)
           refine ⟨?_, ?_⟩
           ·first | (rw [hst]; exact h54)
           refine ⟨?_, ?_⟩
           ·first | (rw [hst]; exact h55)
           refine ⟨?_, ?_⟩
           ·rw [hst, ZeO hJl]; exact congrArg (fun q => U.g (GG.tx (B.txs.set J q))) (ZDV (B.txs.getD J tx0) _).symm
           refine ⟨?_, ?_⟩
           ·first | (rw [hst]; done) | (rw [hst]; rfl)
           refine ⟨?_, ?_⟩
           ·first | (rw [hst, Zg hJR]; done) | (rw [hst, Zg hJR]; rfl)
           refine ⟨?_, ?_⟩
           ·first | (rw [hst, YV hJR hJl hwho]; done) | (rw [hst]; done)
           refine ⟨?_, ?_⟩
           ·first | (simp only [hst, hlr, ZGM, ZGv]; first | omega | assumption | done) | (simp only [hst, hlr, ZGM, ZGv]; done)
           refine ⟨?_, ?_⟩
           ·first | (simp only [hst, Zg hJR, hlr, ZGM, ZGv]; first | omega | assumption | done) | (simp only [hst, Zg hJR, hlr, ZGM, ZGv]; done)
           trivial
         ·skip
          trivial
        ·skip
         intro h237
         refine ⟨?_, ?_⟩
         ·skip
          intro h239
          refine ⟨?_, ?_⟩
          ·skip
           intro h241
           have hF := htold 1 (ZFP hj (.inr h239) (fun _ => h241))
           refine ⟨?_, ?_⟩
           ·first | (with_reducible rfl) | (with_reducible exact hck.symm) | (rw [hF]; done) | (rw [hF]; with_reducible exact h54.symm) | (rw [hF]; with_reducible exact h55.symm) | (rw [hF]; rfl) | (rw [Za.2 h22]; rfl) | trivial
           refine ⟨?_, ?_⟩
           ·first | (with_reducible rfl) | (with_reducible exact hck.symm) | (rw [hF]; done) | (rw [hF]; with_reducible exact h54.symm) | (rw [hF]; with_reducible exact h55.symm) | (rw [hF]; rfl) | (rw [Za.2 h22]; rfl) | trivial
           refine ⟨?_, ?_⟩
           ·first | (with_reducible rfl) | (with_reducible exact hck.symm) | (rw [hF]; done) | (rw [hF]; with_reducible exact h54.symm) | (rw [hF]; with_reducible exact h55.symm) | (rw [hF]; rfl) | (rw [Za.2 h22]; rfl) | trivial
           refine ⟨?_, ?_⟩
           ·first | (with_reducible rfl) | (with_reducible exact hck.symm) | (rw [hF]; done) | (rw [hF]; with_reducible exact h54.symm) | (rw [hF]; with_reducible exact h55.symm) | (rw [hF]; rfl) | (rw [Za.2 h22]; rfl) | trivial
           refine ⟨?_, ?_⟩
           ·first | (with_reducible rfl) | (with_reducible exact hck.symm) | (rw [hF]; done) | (rw [hF]; with_reducible exact h54.symm) | (rw [hF]; with_reducible exact h55.symm) | (rw [hF]; rfl) | (rw [Za.2 h22]; rfl) | trivial
           refine ⟨?_, ?_⟩
           ·first | (with_reducible rfl) | (with_reducible exact hck.symm) | (rw [hF]; done) | (rw [hF]; with_reducible exact h54.symm) | (rw [hF]; with_reducible exact h55.symm) | (rw [hF]; rfl) | (rw [Za.2 h22]; rfl) | trivial
           refine ⟨?_, ?_⟩
           ·first | (with_reducible rfl) | (with_reducible exact hck.symm) | (rw [hF]; done) | (rw [hF]; with_reducible exact h54.symm) | (rw [hF]; with_reducible exact h55.symm) | (rw [hF]; rfl) | (rw [Za.2 h22]; rfl) | trivial
           refine ⟨?_, ?_⟩
           ·first | (with_reducible rfl) | (with_reducible exact hck.symm) | (rw [hF]; done) | (rw [hF]; with_reducible exact h54.symm) | (rw [hF]; with_reducible exact h55.symm) | (rw [hF]; rfl) | (rw [Za.2 h22]; rfl) | trivial
           refine ⟨?_, ?_⟩
           ·first | (with_reducible rfl) | (with_reducible exact hck.symm) | (rw [hF]; done) | (rw [hF]; with_reducible exact h54.symm) | (rw [hF]; with_reducible exact h55.symm) | (rw [hF]; rfl) | (rw [Za.2 h22]; rfl) | trivial
           refine ⟨?_, ?_⟩
           ·first | (with_reducible rfl) | (with_reducible exact hck.symm) | (rw [hF]; done) | (rw [hF]; with_reducible exact h54.symm) | (rw [hF]; with_reducible exact h55.symm) | (rw [hF]; rfl) | (rw [Za.2 h22]; rfl) | trivial
           trivial
          ·skip
           intro h254
           have hst := hsu.trans (st3a hj (.inr h239) hJl h254)
           have hwho : ({ B.txs.getD J tx0 with ch := Ym (B.txs.getD J tx0).ch (kc x) ((Zq (ZaU x) : Nat) * 2 + b01 (xk x == 4)) } : Tx).who = (B.txs.getD J tx0).who := rfl
           have hxx := h254
           intro h255
           intro h256
           intro h257
           intro h258
           intro h259
           intro h260
           intro h261
           refine ⟨?_, ?_⟩
           ·first | omega | trivial | (with_reducible assumption)
           refine ⟨?_, ?_⟩
           ·first | omega | trivial | (with_reducible assumption)
           refine ⟨?_, ?_⟩
           ·first | omega | trivial | (with_reducible assumption)
           refine ⟨?_, ?_⟩
           ·first | omega | trivial | (with_reducible assumption)
           refine ⟨?_, ?_⟩
           ·omega
           refine ⟨?_, ?_⟩
           ·omega
           refine ⟨?_, ?_⟩
           ·omega
           refine ⟨?_, ?_⟩
           ·omega
           refine ⟨?_, ?_⟩
           ·omega
           refine ⟨?_, ?_⟩
           ·first | (simp only [hst, Zg hJR, hlr, ZGM, ZGv]; first | omega | assumption | done) | (simp only [hst, Zg hJR, hlr, ZGM, ZGv]; done)
           refine ⟨?_, ?_⟩
           ·first | (simp only [hst, Zg hJR, hlr, ZGM, ZGv]; first | omega | assumption | done) | (simp only [hst, Zg hJR, hlr, ZGM, ZGv]; done)
           refine ⟨?_, ?_⟩
           ·first | (simp only [hst, hlr, ZGM, ZGv]; first | omega | assumption | done) | (simp only [hst, hlr, ZGM, ZGv]; done)
           refine ⟨?_, ?_⟩
           ·first | (simp only [hst, hlr, ZGM, ZGv]; first | omega | assumption | done) | (simp only [hst, hlr, ZGM, ZGv]; done)
           refine ⟨?_, ?_⟩
           ·first | (rw [hst, Zg hJR]; exact h53)
           refine ⟨?_, ?_⟩
           ·first | (rw [hst]; exact h54)
           refine ⟨?_, ?_⟩
           ·first | (rw [hst]; exact h55)
           refine ⟨?_, ?_⟩
           ·rw [hst, ZeO hJl]; exact congrArg (fun q => U.g (GG.tx (B.txs.set J q))) (ZDV (B.txs.getD J tx0) _).symm
           refine ⟨?_, ?_⟩
           ·first | (rw [hst]; done) | (rw [hst]; rfl)
           refine ⟨?_, ?_⟩
           ·first | (rw [hst, Zg hJR]; done) | (rw [hst, Zg hJR]; rfl)
           refine ⟨?_, ?_⟩
           ·first | (rw [hst, YV hJR hJl hwho]; done) | (rw [hst]; done)
           refine ⟨?_, ?_⟩
           ·first | (simp only [hst, hlr, ZGM, ZGv]; first | omega | assumption | done) | (simp only [hst, hlr, ZGM, ZGv]; done)
           refine ⟨?_, ?_⟩
           ·first | (simp only [hst, Zg hJR, hlr, ZGM, ZGv]; first | omega | assumption | done) | (simp only [hst, Zg hJR, hlr, ZGM, ZGv]; done)
           trivial
         ·skip
          intro h286
          refine ⟨?_, ?_⟩
          ·skip
           intro h288
           refine ⟨?_, ?_⟩
           ·skip
            intro h290
            have hF := htold 1 (st6b hj h288 (fun _ => h290))
            refine ⟨?_, ?_⟩
            ·first | (with_reducible rfl) | (with_reducible exact hck.symm) | (rw [hF]; done) | (rw [hF]; with_reducible exact h54.symm) | (rw [hF]; with_reducible exact h55.symm) | (rw [hF]; rfl) | (rw [Za.2 h22]; rfl) | trivial
            refine ⟨?_, ?_⟩
            ·first | (with_reducible rfl) | (with_reducible exact hck.symm) | (rw [hF]; done) | (rw [hF]; with_reducible exact h54.symm) | (rw [hF]; with_reducible exact h55.symm) | (rw [hF]; rfl) | (rw [Za.2 h22]; rfl) | trivial
            refine ⟨?_, ?_⟩
            ·first | (with_reducible rfl) | (with_reducible exact hck.symm) | (rw [hF]; done) | (rw [hF]; with_reducible exact h54.symm) | (rw [hF]; with_reducible exact h55.symm) | (rw [hF]; rfl) | (rw [Za.2 h22]; rfl) | trivial
            refine ⟨?_, ?_⟩
            ·first | (with_reducible rfl) | (with_reducible exact hck.symm) | (rw [hF]; done) | (rw [hF]; with_reducible exact h54.symm) | (rw [hF]; with_reducible exact h55.symm) | (rw [hF]; rfl) | (rw [Za.2 h22]; rfl) | trivial
            refine ⟨?_, ?_⟩
            ·first | (with_reducible rfl) | (with_reducible exact hck.symm) | (rw [hF]; done) | (rw [hF]; with_reducible exact h54.symm) | (rw [hF]; with_reducible exact h55.symm) | (rw [hF]; rfl) | (rw [Za.2 h22]; rfl) | trivial
            refine ⟨?_, ?_⟩
            ·first | (with_reducible rfl) | (with_reducible exact hck.symm) | (rw [hF]; done) | (rw [hF]; with_reducible exact h54.symm) | (rw [hF]; with_reducible exact h55.symm) | (rw [hF]; rfl) | (rw [Za.2 h22]; rfl) | trivial
            refine ⟨?_, ?_⟩
            ·first | (with_reducible rfl) | (with_reducible exact hck.symm) | (rw [hF]; done) | (rw [hF]; with_reducible exact h54.symm) | (rw [hF]; with_reducible exact h55.symm) | (rw [hF]; rfl) | (rw [Za.2 h22]; rfl) | trivial
            refine ⟨?_, ?_⟩
            ·first | (with_reducible rfl) | (with_reducible exact hck.symm) | (rw [hF]; done) | (rw [hF]; with_reducible exact h54.symm) | (rw [hF]; with_reducible exact h55.symm) | (rw [hF]; rfl) | (rw [Za.2 h22]; rfl) | trivial
            refine ⟨?_, ?_⟩
            ·first | (with_reducible rfl) | (with_reducible exact hck.symm) | (rw [hF]; done) | (rw [hF]; with_reducible exact h54.symm) | (rw [hF]; with_reducible exact h55.symm) | (rw [hF]; rfl) | (rw [Za.2 h22]; rfl) | trivial
            refine ⟨?_, ?_⟩
            ·first | (with_reducible rfl) | (with_reducible exact hck.symm) | (rw [hF]; done) | (rw [hF]; with_reducible exact h54.symm) | (rw [hF]; with_reducible exact h55.symm) | (rw [hF]; rfl) | (rw [Za.2 h22]; rfl) | trivial
            trivial
           ·skip
            intro h303
            have hst := hsu.trans (st6a hj h288 hJl h303)
            have hwho : ({ B.txs.getD J tx0 with opn := false } : Tx).who = (B.txs.getD J tx0).who := rfl
            have hxx := h303
            intro h304
            intro h305
            intro h306
            intro h307
            intro h308
            intro h309
            intro h310
            refine ⟨?_, ?_⟩
            ·first | omega | trivial | (with_reducible assumption)
            refine ⟨?_, ?_⟩
            ·first | omega | trivial | (with_reducible assumption)
            refine ⟨?_, ?_⟩
            ·first | omega | trivial | (with_reducible assumption)
            refine ⟨?_, ?_⟩
            ·first | omega | trivial | (with_reducible assumption)
            refine ⟨?_, ?_⟩
            ·omega
            refine ⟨?_, ?_⟩
            ·omega
            refine ⟨?_, ?_⟩
            ·omega
            refine ⟨?_, ?_⟩
            ·omega
            refine ⟨?_, ?_⟩
            ·omega
            refine ⟨?_, ?_⟩
            ·first | (simp only [hst, Zg hJR, hlr, ZGM, ZGv]; first | omega | assumption | done) | (simp only [hst, Zg hJR, hlr, ZGM, ZGv]; done)
            refine ⟨?_, ?_⟩
            ·first | (simp only [hst, Zg hJR, hlr, ZGM, ZGv]; first | omega | assumption | done) | (simp only [hst, Zg hJR, hlr, ZGM, ZGv]; done)
            refine ⟨?_, ?_⟩
            ·first | (simp only [hst, hlr, ZGM, ZGv]; first | omega | assumption | done) | (simp only [hst, hlr, ZGM, ZGv]; done)
            refine ⟨?_, ?_⟩
            ·first | (simp only [hst, hlr, ZGM, ZGv]; first | omega | assumption | done) | (simp only [hst, hlr, ZGM, ZGv]; done)
            refine ⟨?_, ?_⟩
            ·first | (rw [hst, Zg hJR]; exact h53)
            refine ⟨?_, ?_⟩
            ·first | (rw [hst]; exact h54)
            refine ⟨?_, ?_⟩
            ·first | (rw [hst]; exact h55)
            refine ⟨?_, ?_⟩
            ·rw [hst, ZeO hJl]; rfl
            refine ⟨?_, ?_⟩
            ·first | (rw [hst]; done) | (rw [hst]; rfl)
            refine ⟨?_, ?_⟩
            ·first | (rw [hst, Zg hJR]; done) | (rw [hst, Zg hJR]; rfl)
            refine ⟨?_, ?_⟩
            ·first | (rw [hst, YV hJR hJl hwho]; done) | (rw [hst]; done)
            refine ⟨?_, ?_⟩
            ·first | (simp only [hst, hlr, ZGM, ZGv]; first | omega | assumption | done) | (simp only [hst, hlr, ZGM, ZGv]; done)
            refine ⟨?_, ?_⟩
            ·first | (simp only [hst, Zg hJR, hlr, ZGM, ZGv]; first | omega | assumption | done) | (simp only [hst, Zg hJR, hlr, ZGM, ZGv]; done)
            trivial
          ·skip
           intro h335
           refine ⟨?_, ?_⟩
           ·skip
            intro h337
            refine ⟨?_, ?_⟩
            ·exact ⟨J, hJR, rfl⟩
            intro h339
            intro h340
            intro h341
            intro h342
            intro h343
            intro h344
            intro h345
            intro h346
            intro h347
            refine ⟨?_, ?_⟩
            ·skip
             intro h349
             refine ⟨?_, ?_⟩
             ·first | omega | trivial | (with_reducible assumption)
             refine ⟨?_, ?_⟩
             ·first | omega | trivial | (with_reducible assumption)
             refine ⟨?_, ?_⟩
             ·exact h560
             intro v353
             intro h354
             refine ⟨?_, ?_⟩
             ·skip
              intro h356
              have hfal : J ∈ B.fal := by
               rw [h356] at h354
               exact (Zov h58.2.1 hfi hJR).1 (h53.mem_iff.1 ((Zh (p := _ ∈ v44)).mp h354.symm))
              refine ⟨?_, ?_⟩
              ·first | omega | trivial | (with_reducible assumption)
              refine ⟨?_, ?_⟩
              ·skip
               intro h359
               have hF := htold 1 (ZDT hj h337 (.inr h359))
               refine ⟨?_, ?_⟩
               ·first | (with_reducible rfl) | (with_reducible exact hck.symm) | (rw [hF]; done) | (rw [hF]; with_reducible exact h54.symm) | (rw [hF]; with_reducible exact h55.symm) | (rw [hF]; rfl) | (rw [Za.2 h22]; rfl) | trivial
               refine ⟨?_, ?_⟩
               ·first | (with_reducible rfl) | (with_reducible exact hck.symm) | (rw [hF]; done) | (rw [hF]; with_reducible exact h54.symm) | (rw [hF]; with_reducible exact h55.symm) | (rw [hF]; rfl) | (rw [Za.2 h22]; rfl) | trivial
               refine ⟨?_, ?_⟩
               ·first | (with_reducible rfl) | (with_reducible exact hck.symm) | (rw [hF]; done) | (rw [hF]; with_reducible exact h54.symm) | (rw [hF]; with_reducible exact h55.symm) | (rw [hF]; rfl) | (rw [Za.2 h22]; rfl) | trivial
               refine ⟨?_, ?_⟩
               ·first | (with_reducible rfl) | (with_reducible exact hck.symm) | (rw [hF]; done) | (rw [hF]; with_reducible exact h54.symm) | (rw [hF]; with_reducible exact h55.symm) | (rw [hF]; rfl) | (rw [Za.2 h22]; rfl) | trivial
               refine ⟨?_, ?_⟩
               ·first | (with_reducible rfl) | (with_reducible exact hck.symm) | (rw [hF]; done) | (rw [hF]; with_reducible exact h54.symm) | (rw [hF]; with_reducible exact h55.symm) | (rw [hF]; rfl) | (rw [Za.2 h22]; rfl) | trivial
               refine ⟨?_, ?_⟩
               ·first | (with_reducible rfl) | (with_reducible exact hck.symm) | (rw [hF]; done) | (rw [hF]; with_reducible exact h54.symm) | (rw [hF]; with_reducible exact h55.symm) | (rw [hF]; rfl) | (rw [Za.2 h22]; rfl) | trivial
               refine ⟨?_, ?_⟩
               ·first | (with_reducible rfl) | (with_reducible exact hck.symm) | (rw [hF]; done) | (rw [hF]; with_reducible exact h54.symm) | (rw [hF]; with_reducible exact h55.symm) | (rw [hF]; rfl) | (rw [Za.2 h22]; rfl) | trivial
               refine ⟨?_, ?_⟩
               ·first | (with_reducible rfl) | (with_reducible exact hck.symm) | (rw [hF]; done) | (rw [hF]; with_reducible exact h54.symm) | (rw [hF]; with_reducible exact h55.symm) | (rw [hF]; rfl) | (rw [Za.2 h22]; rfl) | trivial
               refine ⟨?_, ?_⟩
               ·first | (with_reducible rfl) | (with_reducible exact hck.symm) | (rw [hF]; done) | (rw [hF]; with_reducible exact h54.symm) | (rw [hF]; with_reducible exact h55.symm) | (rw [hF]; rfl) | (rw [Za.2 h22]; rfl) | trivial
               refine ⟨?_, ?_⟩
               ·first | (with_reducible rfl) | (with_reducible exact hck.symm) | (rw [hF]; done) | (rw [hF]; with_reducible exact h54.symm) | (rw [hF]; with_reducible exact h55.symm) | (rw [hF]; rfl) | (rw [Za.2 h22]; rfl) | trivial
               trivial
              ·skip
               intro h372
               refine ⟨?_, ?_⟩
               ·first | omega | trivial | (with_reducible assumption)
               refine ⟨?_, ?_⟩
               ·skip
                intro h375
                have hF := htold 2 (st5b hj h337 (.inr hfal) h372 h375)
                refine ⟨?_, ?_⟩
                ·first | (with_reducible rfl) | (with_reducible exact hck.symm) | (rw [hF]; done) | (rw [hF]; with_reducible exact h54.symm) | (rw [hF]; with_reducible exact h55.symm) | (rw [hF]; rfl) | (rw [Za.2 h22]; rfl) | trivial
                refine ⟨?_, ?_⟩
                ·first | (with_reducible rfl) | (with_reducible exact hck.symm) | (rw [hF]; done) | (rw [hF]; with_reducible exact h54.symm) | (rw [hF]; with_reducible exact h55.symm) | (rw [hF]; rfl) | (rw [Za.2 h22]; rfl) | trivial
                refine ⟨?_, ?_⟩
                ·first | (with_reducible rfl) | (with_reducible exact hck.symm) | (rw [hF]; done) | (rw [hF]; with_reducible exact h54.symm) | (rw [hF]; with_reducible exact h55.symm) | (rw [hF]; rfl) | (rw [Za.2 h22]; rfl) | trivial
                refine ⟨?_, ?_⟩
                ·first | (with_reducible rfl) | (with_reducible exact hck.symm) | (rw [hF]; done) | (rw [hF]; with_reducible exact h54.symm) | (rw [hF]; with_reducible exact h55.symm) | (rw [hF]; rfl) | (rw [Za.2 h22]; rfl) | trivial
                refine ⟨?_, ?_⟩
                ·first | (with_reducible rfl) | (with_reducible exact hck.symm) | (rw [hF]; done) | (rw [hF]; with_reducible exact h54.symm) | (rw [hF]; with_reducible exact h55.symm) | (rw [hF]; rfl) | (rw [Za.2 h22]; rfl) | trivial
                refine ⟨?_, ?_⟩
                ·first | (with_reducible rfl) | (with_reducible exact hck.symm) | (rw [hF]; done) | (rw [hF]; with_reducible exact h54.symm) | (rw [hF]; with_reducible exact h55.symm) | (rw [hF]; rfl) | (rw [Za.2 h22]; rfl) | trivial
                refine ⟨?_, ?_⟩
                ·first | (with_reducible rfl) | (with_reducible exact hck.symm) | (rw [hF]; done) | (rw [hF]; with_reducible exact h54.symm) | (rw [hF]; with_reducible exact h55.symm) | (rw [hF]; rfl) | (rw [Za.2 h22]; rfl) | trivial
                refine ⟨?_, ?_⟩
                ·first | (with_reducible rfl) | (with_reducible exact hck.symm) | (rw [hF]; done) | (rw [hF]; with_reducible exact h54.symm) | (rw [hF]; with_reducible exact h55.symm) | (rw [hF]; rfl) | (rw [Za.2 h22]; rfl) | trivial
                refine ⟨?_, ?_⟩
                ·first | (with_reducible rfl) | (with_reducible exact hck.symm) | (rw [hF]; done) | (rw [hF]; with_reducible exact h54.symm) | (rw [hF]; with_reducible exact h55.symm) | (rw [hF]; rfl) | (rw [Za.2 h22]; rfl) | trivial
                refine ⟨?_, ?_⟩
                ·first | (with_reducible rfl) | (with_reducible exact hck.symm) | (rw [hF]; done) | (rw [hF]; with_reducible exact h54.symm) | (rw [hF]; with_reducible exact h55.symm) | (rw [hF]; rfl) | (rw [Za.2 h22]; rfl) | trivial
                trivial
               ·skip
                intro h388
                have hst := hsu.trans (st5c hj h337 (.inr hfal) h372 h388)
                have hwho : ({ B.txs.getD J tx0 with opn := false, com := (n : Int) } : Tx).who = (B.txs.getD J tx0).who := rfl
                intro h389
                intro h390
                intro h391
                intro h392
                intro h393
                intro h394
                intro h395
                refine ⟨?_, ?_⟩
                ·first | omega | trivial | (with_reducible assumption)
                refine ⟨?_, ?_⟩
                ·first | omega | trivial | (with_reducible assumption)
                refine ⟨?_, ?_⟩
                ·first | omega | trivial | (with_reducible assumption)
                refine ⟨?_, ?_⟩
                ·first | omega | trivial | (with_reducible assumption)
                intro v400
                intro h401
                refine ⟨?_, ?_⟩
                ·first | omega | trivial | (with_reducible assumption)
                refine ⟨?_, ?_⟩
                ·first | omega | trivial | (with_reducible assumption)
                intro v404
                intro v405
                intro h406
                intro h407
                refine ⟨?_, ?_⟩
                ·omega
                refine ⟨?_, ?_⟩
                ·omega
                refine ⟨?_, ?_⟩
                ·omega
                refine ⟨?_, ?_⟩
                ·omega
                refine ⟨?_, ?_⟩
                ·omega
                refine ⟨?_, ?_⟩
                ·simp only [hst, Zg hJR, hlr, ZGM, ZGv]; omega
                refine ⟨?_, ?_⟩
                ·simp only [hst, Zg hJR, hlr, ZGM, ZGv]; omega
                refine ⟨?_, ?_⟩
                ·first | (simp only [hst, hlr, ZGM, ZGv]; first | omega | assumption | done) | (simp only [hst, hlr, ZGM, ZGv]; done)
                refine ⟨?_, ?_⟩
                ·first | (simp only [hst, hlr, ZGM, ZGv]; first | omega | assumption | done) | (simp only [hst, hlr, ZGM, ZGv]; done)
                refine ⟨?_, ?_⟩
                ·rw [hst, Zg hJR]; exact h53
                refine ⟨?_, ?_⟩
                ·first | (rw [hst]; exact h54)
                refine ⟨?_, ?_⟩
                ·first | (rw [hst]; exact h55)
                refine ⟨?_, ?_⟩
                ·rw [hst, ZeO hJl]; rfl
                refine ⟨?_, ?_⟩
                ·first | (rw [hst]; done) | (rw [hst]; rfl)
                refine ⟨?_, ?_⟩
                ·rw [hst, Zg hJR, ZdK]
                refine ⟨?_, ?_⟩
                ·first | (rw [hst, YV hJR hJl hwho]; done) | (rw [hst]; done)
                refine ⟨?_, ?_⟩
                ·first | (simp only [hst, hlr, ZGM, ZGv]; first | omega | assumption | done) | (simp only [hst, hlr, ZGM, ZGv]; done)
                refine ⟨?_, ?_⟩
                ·simp only [hst, Zg hJR, hlr, ZGM, ZGv]; omega
                trivial
             ·skip
              intro h428
              have hnf : ¬ J ∈ B.fal := fun hm => by
               rw [h428] at h354
               have hq : [g0 (v37.getD J [])] ∈ v44 := h53.mem_iff.2 ((Zov h58.2.1 hfi hJR).2 hm)
               rw [Zy hq] at h354; cases h354
              have hF := htold 1 (ZDT hj h337 (.inl ⟨fun _ => h349, hnf⟩))
              refine ⟨?_, ?_⟩
              ·first | omega | trivial | (with_reducible assumption)
              refine ⟨?_, ?_⟩
              ·first | (with_reducible rfl) | (with_reducible exact hck.symm) | (rw [hF]; done) | (rw [hF]; with_reducible exact h54.symm) | (rw [hF]; with_reducible exact h55.symm) | (rw [hF]; rfl) | (rw [Za.2 h22]; rfl) | trivial
              refine ⟨?_, ?_⟩
              ·first | (with_reducible rfl) | (with_reducible exact hck.symm) | (rw [hF]; done) | (rw [hF]; with_reducible exact h54.symm) | (rw [hF]; with_reducible exact h55.symm) | (rw [hF]; rfl) | (rw [Za.2 h22]; rfl) | trivial
              refine ⟨?_, ?_⟩
              ·first | (with_reducible rfl) | (with_reducible exact hck.symm) | (rw [hF]; done) | (rw [hF]; with_reducible exact h54.symm) | (rw [hF]; with_reducible exact h55.symm) | (rw [hF]; rfl) | (rw [Za.2 h22]; rfl) | trivial
              refine ⟨?_, ?_⟩
              ·first | (with_reducible rfl) | (with_reducible exact hck.symm) | (rw [hF]; done) | (rw [hF]; with_reducible exact h54.symm) | (rw [hF]; with_reducible exact h55.symm) | (rw [hF]; rfl) | (rw [Za.2 h22]; rfl) | trivial
              refine ⟨?_, ?_⟩
              ·first | (with_reducible rfl) | (with_reducible exact hck.symm) | (rw [hF]; done) | (rw [hF]; with_reducible exact h54.symm) | (rw [hF]; with_reducible exact h55.symm) | (rw [hF]; rfl) | (rw [Za.2 h22]; rfl) | trivial
              refine ⟨?_, ?_⟩
              ·first | (with_reducible rfl) | (with_reducible exact hck.symm) | (rw [hF]; done) | (rw [hF]; with_reducible exact h54.symm) | (rw [hF]; with_reducible exact h55.symm) | (rw [hF]; rfl) | (rw [Za.2 h22]; rfl) | trivial
              refine ⟨?_, ?_⟩
              ·first | (with_reducible rfl) | (with_reducible exact hck.symm) | (rw [hF]; done) | (rw [hF]; with_reducible exact h54.symm) | (rw [hF]; with_reducible exact h55.symm) | (rw [hF]; rfl) | (rw [Za.2 h22]; rfl) | trivial
              refine ⟨?_, ?_⟩
              ·first | (with_reducible rfl) | (with_reducible exact hck.symm) | (rw [hF]; done) | (rw [hF]; with_reducible exact h54.symm) | (rw [hF]; with_reducible exact h55.symm) | (rw [hF]; rfl) | (rw [Za.2 h22]; rfl) | trivial
              refine ⟨?_, ?_⟩
              ·first | (with_reducible rfl) | (with_reducible exact hck.symm) | (rw [hF]; done) | (rw [hF]; with_reducible exact h54.symm) | (rw [hF]; with_reducible exact h55.symm) | (rw [hF]; rfl) | (rw [Za.2 h22]; rfl) | trivial
              refine ⟨?_, ?_⟩
              ·first | (with_reducible rfl) | (with_reducible exact hck.symm) | (rw [hF]; done) | (rw [hF]; with_reducible exact h54.symm) | (rw [hF]; with_reducible exact h55.symm) | (rw [hF]; rfl) | (rw [Za.2 h22]; rfl) | trivial
              trivial
            ·skip
             intro h442
             refine ⟨?_, ?_⟩
             ·first | omega | trivial | (with_reducible assumption)
             refine ⟨?_, ?_⟩
             ·skip
              intro h445
              have hF := htold 1 (ZDT hj h337 (.inr h445))
              refine ⟨?_, ?_⟩
              ·first | (with_reducible rfl) | (with_reducible exact hck.symm) | (rw [hF]; done) | (rw [hF]; with_reducible exact h54.symm) | (rw [hF]; with_reducible exact h55.symm) | (rw [hF]; rfl) | (rw [Za.2 h22]; rfl) | trivial
              refine ⟨?_, ?_⟩
              ·first | (with_reducible rfl) | (with_reducible exact hck.symm) | (rw [hF]; done) | (rw [hF]; with_reducible exact h54.symm) | (rw [hF]; with_reducible exact h55.symm) | (rw [hF]; rfl) | (rw [Za.2 h22]; rfl) | trivial
              refine ⟨?_, ?_⟩
              ·first | (with_reducible rfl) | (with_reducible exact hck.symm) | (rw [hF]; done) | (rw [hF]; with_reducible exact h54.symm) | (rw [hF]; with_reducible exact h55.symm) | (rw [hF]; rfl) | (rw [Za.2 h22]; rfl) | trivial
              refine ⟨?_, ?_⟩
              ·first | (with_reducible rfl) | (with_reducible exact hck.symm) | (rw [hF]; done) | (rw [hF]; with_reducible exact h54.symm) | (rw [hF]; with_reducible exact h55.symm) | (rw [hF]; rfl) | (rw [Za.2 h22]; rfl) | trivial
              refine ⟨?_, ?_⟩
              ·first | (with_reducible rfl) | (with_reducible exact hck.symm) | (rw [hF]; done) | (rw [hF]; with_reducible exact h54.symm) | (rw [hF]; with_reducible exact h55.symm) | (rw [hF]; rfl) | (rw [Za.2 h22]; rfl) | trivial
              refine ⟨?_, ?_⟩
              ·first | (with_reducible rfl) | (with_reducible exact hck.symm) | (rw [hF]; done) | (rw [hF]; with_reducible exact h54.symm) | (rw [hF]; with_reducible exact h55.symm) | (rw [hF]; rfl) | (rw [Za.2 h22]; rfl) | trivial
              refine ⟨?_, ?_⟩
              ·first | (with_reducible rfl) | (with_reducible exact hck.symm) | (rw [hF]; done) | (rw [hF]; with_reducible exact h54.symm) | (rw [hF]; with_reducible exact h55.symm) | (rw [hF]; rfl) | (rw [Za.2 h22]; rfl) | trivial
              refine ⟨?_, ?_⟩
              ·first | (with_reducible rfl) | (with_reducible exact hck.symm) | (rw [hF]; done) | (rw [hF]; with_reducible exact h54.symm) | (rw [hF]; with_reducible exact h55.symm) | (rw [hF]; rfl) | (rw [Za.2 h22]; rfl) | trivial
              refine ⟨?_, ?_⟩
              ·first | (with_reducible rfl) | (with_reducible exact hck.symm) | (rw [hF]; done) | (rw [hF]; with_reducible exact h54.symm) | (rw [hF]; with_reducible exact h55.symm) | (rw [hF]; rfl) | (rw [Za.2 h22]; rfl) | trivial
              refine ⟨?_, ?_⟩
              ·first | (with_reducible rfl) | (with_reducible exact hck.symm) | (rw [hF]; done) | (rw [hF]; with_reducible exact h54.symm) | (rw [hF]; with_reducible exact h55.symm) | (rw [hF]; rfl) | (rw [Za.2 h22]; rfl) | trivial
              trivial
             ·skip
              intro h458
              refine ⟨?_, ?_⟩
              ·first | omega | trivial | (with_reducible assumption)
              refine ⟨?_, ?_⟩
              ·skip
               intro h461
               have hF := htold 2 (st5b hj h337 (.inl ⟨hJl, h442⟩) h458 h461)
               refine ⟨?_, ?_⟩
               ·first | (with_reducible rfl) | (with_reducible exact hck.symm) | (rw [hF]; done) | (rw [hF]; with_reducible exact h54.symm) | (rw [hF]; with_reducible exact h55.symm) | (rw [hF]; rfl) | (rw [Za.2 h22]; rfl) | trivial
               refine ⟨?_, ?_⟩
               ·first | (with_reducible rfl) | (with_reducible exact hck.symm) | (rw [hF]; done) | (rw [hF]; with_reducible exact h54.symm) | (rw [hF]; with_reducible exact h55.symm) | (rw [hF]; rfl) | (rw [Za.2 h22]; rfl) | trivial
               refine ⟨?_, ?_⟩
               ·first | (with_reducible rfl) | (with_reducible exact hck.symm) | (rw [hF]; done) | (rw [hF]; with_reducible exact h54.symm) | (rw [hF]; with_reducible exact h55.symm) | (rw [hF]; rfl) | (rw [Za.2 h22]; rfl) | trivial
               refine ⟨?_, ?_⟩
               ·first | (with_reducible rfl) | (with_reducible exact hck.symm) | (rw [hF]; done) | (rw [hF]; with_reducible exact h54.symm) | (rw [hF]; with_reducible exact h55.symm) | (rw [hF]; rfl) | (rw [Za.2 h22]; rfl) | trivial
               refine ⟨?_, ?_⟩
               ·first | (with_reducible rfl) | (with_reducible exact hck.symm) | (rw [hF]; done) | (rw [hF]; with_reducible exact h54.symm) | (rw [hF]; with_reducible exact h55.symm) | (rw [hF]; rfl) | (rw [Za.2 h22]; rfl) | trivial
               refine ⟨?_, ?_⟩
               ·first | (with_reducible rfl) | (with_reducible exact hck.symm) | (rw [hF]; done) | (rw [hF]; with_reducible exact h54.symm) | (rw [hF]; with_reducible exact h55.symm) | (rw [hF]; rfl) | (rw [Za.2 h22]; rfl) | trivial
               refine ⟨?_, ?_⟩
               ·first | (with_reducible rfl) | (with_reducible exact hck.symm) | (rw [hF]; done) | (rw [hF]; with_reducible exact h54.symm) | (rw [hF]; with_reducible exact h55.symm) | (rw [hF]; rfl) | (rw [Za.2 h22]; rfl) | trivial
               refine ⟨?_, ?_⟩
               ·first | (with_reducible rfl) | (with_reducible exact hck.symm) | (rw [hF]; done) | (rw [hF]; with_reducible exact h54.symm) | (rw [hF]; with_reducible exact h55.symm) | (rw [hF]; rfl) | (rw [Za.2 h22]; rfl) | trivial
               refine ⟨?_, ?_⟩
               ·first | (with_reducible rfl) | (with_reducible exact hck.symm) | (rw [hF]; done) | (rw [hF]; with_reducible exact h54.symm) | (rw [hF]; with_reducible exact h55.symm) | (rw [hF]; rfl) | (rw [Za.2 h22]; rfl) | trivial
               refine ⟨?_, ?_⟩
               ·first | (with_reducible rfl) | (with_reducible exact hck.symm) | (rw [hF]; done) | (rw [hF]; with_reducible exact h54.symm) | (rw [hF]; with_reducible exact h55.symm) | (rw [hF]; rfl) | (rw [Za.2 h22]; rfl) | trivial
               trivial
              ·skip
               intro h474
               have hst := hsu.trans (st5c hj h337 (.inl ⟨hJl, h442⟩) h458 h474)
               have hwho : ({ B.txs.getD J tx0 with opn := false, com := (n : Int) } : Tx).who = (B.txs.getD J tx0).who := rfl
               intro h475
               intro h476
               intro h477
               intro h478
               intro h479
               intro h480
               intro h481
               refine ⟨?_, ?_⟩
               ·first | omega | trivial | (with_reducible assumption)
               refine ⟨?_, ?_⟩
               ·first | omega | trivial | (with_reducible assumption)
               refine ⟨?_, ?_⟩
               ·first | omega | trivial | (with_reducible assumption)
               refine ⟨?_, ?_⟩
               ·first | omega | trivial | (with_reducible assumption)
               intro v486
               intro h487
               refine ⟨?_, ?_⟩
               ·first | omega | trivial | (with_reducible assumption)
               refine ⟨?_, ?_⟩
               ·first | omega | trivial | (with_reducible assumption)
               intro v490
               intro v491
               intro h492
               intro h493
               refine ⟨?_, ?_⟩
               ·omega
               refine ⟨?_, ?_⟩
               ·omega
               refine ⟨?_, ?_⟩
               ·omega
               refine ⟨?_, ?_⟩
               ·omega
               refine ⟨?_, ?_⟩
               ·omega
               refine ⟨?_, ?_⟩
               ·simp only [hst, Zg hJR, hlr, ZGM, ZGv]; omega
               refine ⟨?_, ?_⟩
               ·simp only [hst, Zg hJR, hlr, ZGM, ZGv]; omega
               refine ⟨?_, ?_⟩
               ·first | (simp only [hst, hlr, ZGM, ZGv]; first | omega | assumption | done) | (simp only [hst, hlr, ZGM, ZGv]; done)
               refine ⟨?_, ?_⟩
               ·first | (simp only [hst, hlr, ZGM, ZGv]; first | omega | assumption | done) | (simp only [hst, hlr, ZGM, ZGv]; done)
               refine ⟨?_, ?_⟩
               ·rw [hst, Zg hJR]; exact h53
               refine ⟨?_, ?_⟩
               ·first | (rw [hst]; exact h54)
               refine ⟨?_, ?_⟩
               ·first | (rw [hst]; exact h55)
               refine ⟨?_, ?_⟩
               ·rw [hst, ZeO hJl]; rfl
               refine ⟨?_, ?_⟩
               ·first | (rw [hst]; done) | (rw [hst]; rfl)
               refine ⟨?_, ?_⟩
               ·rw [hst, Zg hJR, ZdK]
               refine ⟨?_, ?_⟩
               ·first | (rw [hst, YV hJR hJl hwho]; done) | (rw [hst]; done)
               refine ⟨?_, ?_⟩
               ·first | (simp only [hst, hlr, ZGM, ZGv]; first | omega | assumption | done) | (simp only [hst, hlr, ZGM, ZGv]; done)
               refine ⟨?_, ?_⟩
               ·simp only [hst, Zg hJR, hlr, ZGM, ZGv]; omega
               trivial
           ·skip
            intro h514
            refine ⟨?_, ?_⟩
            ·skip
             intro h516
             intro v517
             intro h518
             refine ⟨?_, ?_⟩
             ·first | omega | trivial | (with_reducible assumption)
             refine ⟨?_, ?_⟩
             ·rw [Zi1 (Zdq h58.1)]; exact List.Perm.nil
             refine ⟨?_, ?_⟩
             ·exact ⟨by rw [Zf4 h58.1]; exact hw.nd, fun _ q => q⟩
             refine ⟨?_, ?_⟩
             ·exact congrArg (fun q => U.g (GG.tx q)) (Zka (Zdq h58.1))
             intro v523
             intro v524
             intro v525
             intro v526
             intro v527
             intro v528
             intro h529
             intro h530
             intro h531
             intro h532
             intro h533
             have hFl2 : v528.length <= B.txs.length := by have q := h532.length_eq; rw [hlr] at q; have := ZfD v523 B.txs 0; omega
             refine ⟨?_, ?_⟩
             ·skip
              intro h535
              have hM : v523 = [] := ZGW (by omega)
              have hst := hsu.trans (st7 hj h516)
              refine ⟨?_, ?_⟩
              ·omega
              refine ⟨?_, ?_⟩
              ·omega
              refine ⟨?_, ?_⟩
              ·omega
              refine ⟨?_, ?_⟩
              ·omega
              refine ⟨?_, ?_⟩
              ·omega
              refine ⟨?_, ?_⟩
              ·first | (simp only [hst, hlr]; first | omega | assumption | done) | (simp only [hst, hlr]; done)
              refine ⟨?_, ?_⟩
              ·first | (simp only [hst, hlr]; first | omega | assumption | done) | (simp only [hst, hlr]; done)
              refine ⟨?_, ?_⟩
              ·first | (simp only [hst, hlr]; first | omega | assumption | done) | (simp only [hst, hlr]; done)
              refine ⟨?_, ?_⟩
              ·first | (simp only [hst, hlr]; first | omega | assumption | done) | (simp only [hst, hlr]; done)
              refine ⟨?_, ?_⟩
              ·rw [hst, ZfE h531]; rw [hM, Zdl] at h532; exact h532
              refine ⟨?_, ?_⟩
              ·rw [hst]; exact h54
              refine ⟨?_, ?_⟩
              ·rw [hst]; exact h55
              refine ⟨?_, ?_⟩
              ·rw [hst, hM]; rfl
              refine ⟨?_, ?_⟩
              ·rw [hst]
              refine ⟨?_, ?_⟩
              ·rw [hst, ZfE h531]
              refine ⟨?_, ?_⟩
              ·rw [hst]; exact congrArg U.amap (ZlL h531 (by rw [List.map_map]; rfl))
              refine ⟨?_, ?_⟩
              ·first | (simp only [hst, hlr]; first | omega | assumption | done) | (simp only [hst, hlr]; done)
              refine ⟨?_, ?_⟩
              ·first | (simp only [hst, hlr]; first | omega | assumption | done) | (simp only [hst, hlr]; done)
              trivial
             ·skip
              intro v556
              intro h557
              have hjk0 := h533.2 _ h557
              have hAk := ZbC (w := v556) h58.1 0
              obtain ⟨j, hjd⟩ : ∃ j, ixL v556 B.txs = j := ⟨_, rfl⟩
              rw [hjd] at hAk
              have hjl : j < B.txs.length := by rw [hAk.2] at hjk0; simpa using hjk0
              have hR22 : v525.length = v37.length := by have := congrArg List.length h531; simpa using this
              have hjR : j < v525.length := by have := h58.1; omega
              have hg0 : g0 (v525.getD j []) = g0 (v37.getD j []) := by rw [<- ZcD g0 v525, <- ZcD g0 v37, h531]
              have hmk : Yr 0 (Zei v37 B.txs) v556 = g0 (v525.getD j []) := by rw [hAk.1, if_pos hjl, hg0]
              have hrj := ZaG (R := v525) (by rw [h531]; exact h58.2.1) hjR
              have hwj : (B.txs.getD j tx0).who = v556 := by have := ZaE (w := v556) (L := B.txs) (by omega); rw [hjd] at this; exact this
              have hgj : (Zb3 B.txs v523).getD j tx0 = B.txs.getD j tx0 := by rw [ZdB _ _ hjl, hwj, if_pos h557]
              have hsl := ZdH B.txs v523
              simp only [hmk, hrj, ZGO, Zci]
              refine ⟨?_, ?_⟩
              ·exact ⟨j, hjR, rfl⟩
              intro h559
              intro h560
              intro h561
              intro h562
              intro h563
              intro h564
              intro h565
              intro h566
              intro h567
              refine ⟨?_, ?_⟩
              ·first | omega | trivial | (with_reducible assumption)
              refine ⟨?_, ?_⟩
              ·skip
               intro h570
               rw [hgj] at h570
               intro h571
               intro h572
               intro h573
               intro h574
               intro h575
               intro h576
               intro h577
               intro h578
               intro h579
               refine ⟨?_, ?_⟩
               ·first | omega | trivial | (with_reducible assumption)
               refine ⟨?_, ?_⟩
               ·first | omega | trivial | (with_reducible assumption)
               refine ⟨?_, ?_⟩
               ·first | omega | trivial | (with_reducible assumption)
               refine ⟨?_, ?_⟩
               ·first | omega | trivial | (with_reducible assumption)
               intro v584
               intro h585
               refine ⟨?_, ?_⟩
               ·first | omega | trivial | (with_reducible assumption)
               refine ⟨?_, ?_⟩
               ·first | omega | trivial | (with_reducible assumption)
               intro v588
               intro v589
               intro h590
               intro h591
               refine ⟨?_, ?_⟩
               ·have := ZcV h557; omega
               refine ⟨?_, ?_⟩
               ·rw [Ze9 hjR]; exact (Yq (f := g0) (d := []) (x := g0 (v525.getD j []) :: _) rfl hjR).trans h531
               refine ⟨?_, ?_⟩
               ·refine (h532.append_right _).trans ?_
                rw [hg0, <- ZdK]
                exact ZdO (Zkn h533.1 hw.nd hjd hjl h557 h570)
               refine ⟨?_, ?_⟩
               ·exact ⟨Zbr h533.1 _, fun q hq => h533.2 q (by rw [Zas h533.1] at hq; simp only [Bool.and_eq_true] at hq; exact hq.2)⟩
               refine ⟨?_, ?_⟩
               ·rw [ZeO (by rw [hsl]; exact hjl), Zf9 h533.1 hw.nd hjd hjl h557, hgj]; rfl
               trivial
              ·skip
               intro h599
               rw [hgj] at h599
               refine ⟨?_, ?_⟩
               ·have := ZcV h557; omega
               refine ⟨?_, ?_⟩
               ·exact h532.trans (ZdO (Zg1 h533.1 hw.nd hjd hjl h599))
               refine ⟨?_, ?_⟩
               ·exact ⟨Zbr h533.1 _, fun q hq => h533.2 q (by rw [Zas h533.1] at hq; simp only [Bool.and_eq_true] at hq; exact hq.2)⟩
               refine ⟨?_, ?_⟩
               ·exact congrArg (fun q => U.g (GG.tx q)) (Zg6 h533.1 hw.nd hjd hjl h557 (by rw [hgj]; exact h599))
               trivial
            ·skip
             intro h606
             have hst := hsu.trans (st0 hj ⟨h94, h184, h237, h286, h514, h335, h606⟩)
             refine ⟨?_, ?_⟩
             ·omega
             refine ⟨?_, ?_⟩
             ·omega
             refine ⟨?_, ?_⟩
             ·omega
             refine ⟨?_, ?_⟩
             ·omega
             refine ⟨?_, ?_⟩
             ·omega
             refine ⟨?_, ?_⟩
             ·first | (simp only [hst, hlr, ZGM, ZGv]; first | omega | assumption | done) | (simp only [hst, hlr, ZGM, ZGv]; done)
             refine ⟨?_, ?_⟩
             ·first | (simp only [hst, hlr, ZGM, ZGv]; first | omega | assumption | done) | (simp only [hst, hlr, ZGM, ZGv]; done)
             refine ⟨?_, ?_⟩
             ·first | (simp only [hst, hlr, ZGM, ZGv]; first | omega | assumption | done) | (simp only [hst, hlr, ZGM, ZGv]; done)
             refine ⟨?_, ?_⟩
             ·first | (simp only [hst, hlr, ZGM, ZGv]; first | omega | assumption | done) | (simp only [hst, hlr, ZGM, ZGv]; done)
             refine ⟨?_, ?_⟩
             ·first | (rw [hst]; exact h53)
             refine ⟨?_, ?_⟩
             ·first | (rw [hst]; exact h54)
             refine ⟨?_, ?_⟩
             ·first | (rw [hst]; exact h55)
             refine ⟨?_, ?_⟩
             ·first | (rw [hst]; done) | (rw [hst]; rfl)
             refine ⟨?_, ?_⟩
             ·first | (rw [hst]; done) | (rw [hst]; rfl)
             refine ⟨?_, ?_⟩
             ·first | (rw [hst]; done) | (rw [hst]; rfl)
             refine ⟨?_, ?_⟩
             ·first | (rw [hst, YV hJR hJl hwho]; done) | (rw [hst]; done)
             refine ⟨?_, ?_⟩
             ·first | (simp only [hst, hlr, ZGM, ZGv]; first | omega | assumption | done) | (simp only [hst, hlr, ZGM, ZGv]; done)
             refine ⟨?_, ?_⟩
             ·first | (simp only [hst, hlr, ZGM, ZGv]; first | omega | assumption | done) | (simp only [hst, hlr, ZGM, ZGv]; done)
             trivial
     ·skip
      trivial
    ·skip
     intro h629
     have hJn : ¬ J < B.txs.length := fun q => by
      rw [hA.1, if_pos q] at h629
      have := h58.2.2 _ (ZrI (R := v37) (J := J) (by have := h58.1; omega)); omega
     have hnop : J < B.txs.length -> (B.txs.getD J tx0).opn = false := fun q => absurd q hJn
     refine ⟨?_, ?_⟩
     ·skip
      trivial
     ·skip
      intro h633
      refine ⟨?_, ?_⟩
      ·skip
       intro h635
       refine ⟨?_, ?_⟩
       ·skip
        trivial
       ·skip
        intro h639
        have hst := hsu.trans (st1b hj h635 hJn)
        have hkR : ∀ k ∈ B.kept, k < v37.length := fun k hk => by have := hw.ki k hk; have := h58.1; omega
        intro v640
        intro h641
        intro v642
        intro h643
        refine ⟨?_, ?_⟩
        ·omega
        refine ⟨?_, ?_⟩
        ·omega
        refine ⟨?_, ?_⟩
        ·omega
        refine ⟨?_, ?_⟩
        ·omega
        refine ⟨?_, ?_⟩
        ·omega
        refine ⟨?_, ?_⟩
        ·first | (simp only [hst, hlr]; first | omega | assumption | done) | (simp only [hst, hlr]; done)
        refine ⟨?_, ?_⟩
        ·first | (simp only [hst, hlr]; first | omega | assumption | done) | (simp only [hst, hlr]; done)
        refine ⟨?_, ?_⟩
        ·first | (simp only [hst, hlr, ZGM, ZGv]; first | omega | assumption | done) | (simp only [hst, hlr, ZGM, ZGv]; done)
        refine ⟨?_, ?_⟩
        ·first | (simp only [hst, hlr, ZGM, ZGv]; first | omega | assumption | done) | (simp only [hst, hlr, ZGM, ZGv]; done)
        refine ⟨?_, ?_⟩
        ·first | (rw [hst]; exact List.Perm.nil)
        refine ⟨?_, ?_⟩
        ·first | (rw [hst]; exact h54)
        refine ⟨?_, ?_⟩
        ·first | (rw [hst]; exact h55)
        refine ⟨?_, ?_⟩
        ·first | (rw [hst]; done) | (rw [hst]; rfl)
        refine ⟨?_, ?_⟩
        ·first | (rw [hst]; done) | (rw [hst]; rfl)
        refine ⟨?_, ?_⟩
        ·rw [hst]; exact Zyy hkR _
        refine ⟨?_, ?_⟩
        ·rw [hst]; exact congrArg U.amap (Zyu h58.1 _ _ (by show ¬ ixL (x.getD 1 0) B.txs < _; rw [hJ]; exact hJn))
        refine ⟨?_, ?_⟩
        ·first | (simp only [hst, hlr, ZGM, ZGv]; first | omega | assumption | done) | (simp only [hst, hlr, ZGM, ZGv]; done)
        refine ⟨?_, ?_⟩
        ·first | (simp only [hst, hlr]; first | omega | assumption | done) | (simp only [hst, hlr]; done)
        trivial
      ·skip
       intro h664
       refine ⟨?_, ?_⟩
       ·skip
        intro h666
        refine ⟨?_, ?_⟩
        ·skip
         intro h668
         have hst := hsu.trans (st2a hj h666 h668)
         intro v669
         intro h670
         refine ⟨?_, ?_⟩
         ·first | omega | trivial | (with_reducible assumption)
         refine ⟨?_, ?_⟩
         ·first | omega | trivial | (with_reducible assumption)
         intro v673
         intro v674
         intro h675
         intro h676
         refine ⟨?_, ?_⟩
         ·omega
         refine ⟨?_, ?_⟩
         ·omega
         refine ⟨?_, ?_⟩
         ·omega
         refine ⟨?_, ?_⟩
         ·omega
         refine ⟨?_, ?_⟩
         ·omega
         refine ⟨?_, ?_⟩
         ·first | (simp only [hst, hlr, ZGM, ZGv]; first | omega | assumption | done) | (simp only [hst, hlr, ZGM, ZGv]; done)
         refine ⟨?_, ?_⟩
         ·first | (simp only [hst, hlr, ZGM, ZGv]; first | omega | assumption | done) | (simp only [hst, hlr, ZGM, ZGv]; done)
         refine ⟨?_, ?_⟩
         ·first | (simp only [hst, hlr, ZGM, ZGv]; first | omega | assumption | done) | (simp only [hst, hlr, ZGM, ZGv]; done)
         refine ⟨?_, ?_⟩
         ·first | (simp only [hst, hlr, ZGM, ZGv]; first | omega | assumption | done) | (simp only [hst, hlr, ZGM, ZGv]; done)
         refine ⟨?_, ?_⟩
         ·first | (rw [hst]; exact List.Perm.nil)
         refine ⟨?_, ?_⟩
         ·first | (rw [hst]; exact h54)
         refine ⟨?_, ?_⟩
         ·first | (rw [hst]; exact h55)
         refine ⟨?_, ?_⟩
         ·first | (rw [hst]; done) | (rw [hst]; rfl)
         refine ⟨?_, ?_⟩
         ·first | (rw [hst]; done) | (rw [hst]; rfl)
         refine ⟨?_, ?_⟩
         ·first | (rw [hst]; done) | (rw [hst]; rfl)
         refine ⟨?_, ?_⟩
         ·first | (rw [hst, YV hJR hJl hwho]; done) | (rw [hst]; done)
         refine ⟨?_, ?_⟩
         ·first | (simp only [hst, hlr, ZGM, ZGv]; first | omega | assumption | done) | (simp only [hst, hlr, ZGM, ZGv]; done)
         refine ⟨?_, ?_⟩
         ·first | (simp only [hst, hlr, ZGM, ZGv]; first | omega | assumption | done) | (simp only [hst, hlr, ZGM, ZGv]; done)
         trivial
        ·skip
         intro h697
         have hF := htold 1 (st2c hj h666 h697 hnop)
         refine ⟨?_, ?_⟩
         ·first | (with_reducible rfl) | (with_reducible exact hck.symm) | (rw [hF]; done) | (rw [hF]; with_reducible exact h54.symm) | (rw [hF]; with_reducible exact h55.symm) | (rw [hF]; rfl) | (rw [Za.2 h22]; rfl) | trivial
         refine ⟨?_, ?_⟩
         ·first | (with_reducible rfl) | (with_reducible exact hck.symm) | (rw [hF]; done) | (rw [hF]; with_reducible exact h54.symm) | (rw [hF]; with_reducible exact h55.symm) | (rw [hF]; rfl) | (rw [Za.2 h22]; rfl) | trivial
         refine ⟨?_, ?_⟩
         ·first | (with_reducible rfl) | (with_reducible exact hck.symm) | (rw [hF]; done) | (rw [hF]; with_reducible exact h54.symm) | (rw [hF]; with_reducible exact h55.symm) | (rw [hF]; rfl) | (rw [Za.2 h22]; rfl) | trivial
         refine ⟨?_, ?_⟩
         ·first | (with_reducible rfl) | (with_reducible exact hck.symm) | (rw [hF]; done) | (rw [hF]; with_reducible exact h54.symm) | (rw [hF]; with_reducible exact h55.symm) | (rw [hF]; rfl) | (rw [Za.2 h22]; rfl) | trivial
         refine ⟨?_, ?_⟩
         ·first | (with_reducible rfl) | (with_reducible exact hck.symm) | (rw [hF]; done) | (rw [hF]; with_reducible exact h54.symm) | (rw [hF]; with_reducible exact h55.symm) | (rw [hF]; rfl) | (rw [Za.2 h22]; rfl) | trivial
         refine ⟨?_, ?_⟩
         ·first | (with_reducible rfl) | (with_reducible exact hck.symm) | (rw [hF]; done) | (rw [hF]; with_reducible exact h54.symm) | (rw [hF]; with_reducible exact h55.symm) | (rw [hF]; rfl) | (rw [Za.2 h22]; rfl) | trivial
         refine ⟨?_, ?_⟩
         ·first | (with_reducible rfl) | (with_reducible exact hck.symm) | (rw [hF]; done) | (rw [hF]; with_reducible exact h54.symm) | (rw [hF]; with_reducible exact h55.symm) | (rw [hF]; rfl) | (rw [Za.2 h22]; rfl) | trivial
         refine ⟨?_, ?_⟩
         ·first | (with_reducible rfl) | (with_reducible exact hck.symm) | (rw [hF]; done) | (rw [hF]; with_reducible exact h54.symm) | (rw [hF]; with_reducible exact h55.symm) | (rw [hF]; rfl) | (rw [Za.2 h22]; rfl) | trivial
         refine ⟨?_, ?_⟩
         ·first | (with_reducible rfl) | (with_reducible exact hck.symm) | (rw [hF]; done) | (rw [hF]; with_reducible exact h54.symm) | (rw [hF]; with_reducible exact h55.symm) | (rw [hF]; rfl) | (rw [Za.2 h22]; rfl) | trivial
         refine ⟨?_, ?_⟩
         ·first | (with_reducible rfl) | (with_reducible exact hck.symm) | (rw [hF]; done) | (rw [hF]; with_reducible exact h54.symm) | (rw [hF]; with_reducible exact h55.symm) | (rw [hF]; rfl) | (rw [Za.2 h22]; rfl) | trivial
         trivial
       ·skip
        intro h710
        refine ⟨?_, ?_⟩
        ·skip
         intro h712
         refine ⟨?_, ?_⟩
         ·skip
          intro h714
          have hF := htold 1 (ZFP hj (.inl h712) hnop)
          refine ⟨?_, ?_⟩
          ·first | (with_reducible rfl) | (with_reducible exact hck.symm) | (rw [hF]; done) | (rw [hF]; with_reducible exact h54.symm) | (rw [hF]; with_reducible exact h55.symm) | (rw [hF]; rfl) | (rw [Za.2 h22]; rfl) | trivial
          refine ⟨?_, ?_⟩
          ·first | (with_reducible rfl) | (with_reducible exact hck.symm) | (rw [hF]; done) | (rw [hF]; with_reducible exact h54.symm) | (rw [hF]; with_reducible exact h55.symm) | (rw [hF]; rfl) | (rw [Za.2 h22]; rfl) | trivial
          refine ⟨?_, ?_⟩
          ·first | (with_reducible rfl) | (with_reducible exact hck.symm) | (rw [hF]; done) | (rw [hF]; with_reducible exact h54.symm) | (rw [hF]; with_reducible exact h55.symm) | (rw [hF]; rfl) | (rw [Za.2 h22]; rfl) | trivial
          refine ⟨?_, ?_⟩
          ·first | (with_reducible rfl) | (with_reducible exact hck.symm) | (rw [hF]; done) | (rw [hF]; with_reducible exact h54.symm) | (rw [hF]; with_reducible exact h55.symm) | (rw [hF]; rfl) | (rw [Za.2 h22]; rfl) | trivial
          refine ⟨?_, ?_⟩
          ·first | (with_reducible rfl) | (with_reducible exact hck.symm) | (rw [hF]; done) | (rw [hF]; with_reducible exact h54.symm) | (rw [hF]; with_reducible exact h55.symm) | (rw [hF]; rfl) | (rw [Za.2 h22]; rfl) | trivial
          refine ⟨?_, ?_⟩
          ·first | (with_reducible rfl) | (with_reducible exact hck.symm) | (rw [hF]; done) | (rw [hF]; with_reducible exact h54.symm) | (rw [hF]; with_reducible exact h55.symm) | (rw [hF]; rfl) | (rw [Za.2 h22]; rfl) | trivial
          refine ⟨?_, ?_⟩
          ·first | (with_reducible rfl) | (with_reducible exact hck.symm) | (rw [hF]; done) | (rw [hF]; with_reducible exact h54.symm) | (rw [hF]; with_reducible exact h55.symm) | (rw [hF]; rfl) | (rw [Za.2 h22]; rfl) | trivial
          refine ⟨?_, ?_⟩
          ·first | (with_reducible rfl) | (with_reducible exact hck.symm) | (rw [hF]; done) | (rw [hF]; with_reducible exact h54.symm) | (rw [hF]; with_reducible exact h55.symm) | (rw [hF]; rfl) | (rw [Za.2 h22]; rfl) | trivial
          refine ⟨?_, ?_⟩
          ·first | (with_reducible rfl) | (with_reducible exact hck.symm) | (rw [hF]; done) | (rw [hF]; with_reducible exact h54.symm) | (rw [hF]; with_reducible exact h55.symm) | (rw [hF]; rfl) | (rw [Za.2 h22]; rfl) | trivial
          refine ⟨?_, ?_⟩
          ·first | (with_reducible rfl) | (with_reducible exact hck.symm) | (rw [hF]; done) | (rw [hF]; with_reducible exact h54.symm) | (rw [hF]; with_reducible exact h55.symm) | (rw [hF]; rfl) | (rw [Za.2 h22]; rfl) | trivial
          trivial
         ·skip
          trivial
        ·skip
         intro h729
         refine ⟨?_, ?_⟩
         ·skip
          intro h731
          have hF := htold 1 (ZFP hj (.inr h731) hnop)
          refine ⟨?_, ?_⟩
          ·first | (with_reducible rfl) | (with_reducible exact hck.symm) | (rw [hF]; done) | (rw [hF]; with_reducible exact h54.symm) | (rw [hF]; with_reducible exact h55.symm) | (rw [hF]; rfl) | (rw [Za.2 h22]; rfl) | trivial
          refine ⟨?_, ?_⟩
          ·first | (with_reducible rfl) | (with_reducible exact hck.symm) | (rw [hF]; done) | (rw [hF]; with_reducible exact h54.symm) | (rw [hF]; with_reducible exact h55.symm) | (rw [hF]; rfl) | (rw [Za.2 h22]; rfl) | trivial
          refine ⟨?_, ?_⟩
          ·first | (with_reducible rfl) | (with_reducible exact hck.symm) | (rw [hF]; done) | (rw [hF]; with_reducible exact h54.symm) | (rw [hF]; with_reducible exact h55.symm) | (rw [hF]; rfl) | (rw [Za.2 h22]; rfl) | trivial
          refine ⟨?_, ?_⟩
          ·first | (with_reducible rfl) | (with_reducible exact hck.symm) | (rw [hF]; done) | (rw [hF]; with_reducible exact h54.symm) | (rw [hF]; with_reducible exact h55.symm) | (rw [hF]; rfl) | (rw [Za.2 h22]; rfl) | trivial
          refine ⟨?_, ?_⟩
          ·first | (with_reducible rfl) | (with_reducible exact hck.symm) | (rw [hF]; done) | (rw [hF]; with_reducible exact h54.symm) | (rw [hF]; with_reducible exact h55.symm) | (rw [hF]; rfl) | (rw [Za.2 h22]; rfl) | trivial
          refine ⟨?_, ?_⟩
          ·first | (with_reducible rfl) | (with_reducible exact hck.symm) | (rw [hF]; done) | (rw [hF]; with_reducible exact h54.symm) | (rw [hF]; with_reducible exact h55.symm) | (rw [hF]; rfl) | (rw [Za.2 h22]; rfl) | trivial
          refine ⟨?_, ?_⟩
          ·first | (with_reducible rfl) | (with_reducible exact hck.symm) | (rw [hF]; done) | (rw [hF]; with_reducible exact h54.symm) | (rw [hF]; with_reducible exact h55.symm) | (rw [hF]; rfl) | (rw [Za.2 h22]; rfl) | trivial
          refine ⟨?_, ?_⟩
          ·first | (with_reducible rfl) | (with_reducible exact hck.symm) | (rw [hF]; done) | (rw [hF]; with_reducible exact h54.symm) | (rw [hF]; with_reducible exact h55.symm) | (rw [hF]; rfl) | (rw [Za.2 h22]; rfl) | trivial
          refine ⟨?_, ?_⟩
          ·first | (with_reducible rfl) | (with_reducible exact hck.symm) | (rw [hF]; done) | (rw [hF]; with_reducible exact h54.symm) | (rw [hF]; with_reducible exact h55.symm) | (rw [hF]; rfl) | (rw [Za.2 h22]; rfl) | trivial
          refine ⟨?_, ?_⟩
          ·first | (with_reducible rfl) | (with_reducible exact hck.symm) | (rw [hF]; done) | (rw [hF]; with_reducible exact h54.symm) | (rw [hF]; with_reducible exact h55.symm) | (rw [hF]; rfl) | (rw [Za.2 h22]; rfl) | trivial
          trivial
         ·skip
          intro h744
          refine ⟨?_, ?_⟩
          ·skip
           intro h746
           have hF := htold 1 (st6b hj h746 hnop)
           refine ⟨?_, ?_⟩
           ·first | (with_reducible rfl) | (with_reducible exact hck.symm) | (rw [hF]; done) | (rw [hF]; with_reducible exact h54.symm) | (rw [hF]; with_reducible exact h55.symm) | (rw [hF]; rfl) | (rw [Za.2 h22]; rfl) | trivial
           refine ⟨?_, ?_⟩
           ·first | (with_reducible rfl) | (with_reducible exact hck.symm) | (rw [hF]; done) | (rw [hF]; with_reducible exact h54.symm) | (rw [hF]; with_reducible exact h55.symm) | (rw [hF]; rfl) | (rw [Za.2 h22]; rfl) | trivial
           refine ⟨?_, ?_⟩
           ·first | (with_reducible rfl) | (with_reducible exact hck.symm) | (rw [hF]; done) | (rw [hF]; with_reducible exact h54.symm) | (rw [hF]; with_reducible exact h55.symm) | (rw [hF]; rfl) | (rw [Za.2 h22]; rfl) | trivial
           refine ⟨?_, ?_⟩
           ·first | (with_reducible rfl) | (with_reducible exact hck.symm) | (rw [hF]; done) | (rw [hF]; with_reducible exact h54.symm) | (rw [hF]; with_reducible exact h55.symm) | (rw [hF]; rfl) | (rw [Za.2 h22]; rfl) | trivial
           refine ⟨?_, ?_⟩
           ·first | (with_reducible rfl) | (with_reducible exact hck.symm) | (rw [hF]; done) | (rw [hF]; with_reducible exact h54.symm) | (rw [hF]; with_reducible exact h55.symm) | (rw [hF]; rfl) | (rw [Za.2 h22]; rfl) | trivial
           refine ⟨?_, ?_⟩
           ·first | (with_reducible rfl) | (with_reducible exact hck.symm) | (rw [hF]; done) | (rw [hF]; with_reducible exact h54.symm) | (rw [hF]; with_reducible exact h55.symm) | (rw [hF]; rfl) | (rw [Za.2 h22]; rfl) | trivial
           refine ⟨?_, ?_⟩
           ·first | (with_reducible rfl) | (with_reducible exact hck.symm) | (rw [hF]; done) | (rw [hF]; with_reducible exact h54.symm) | (rw [hF]; with_reducible exact h55.symm) | (rw [hF]; rfl) | (rw [Za.2 h22]; rfl) | trivial
           refine ⟨?_, ?_⟩
           ·first | (with_reducible rfl) | (with_reducible exact hck.symm) | (rw [hF]; done) | (rw [hF]; with_reducible exact h54.symm) | (rw [hF]; with_reducible exact h55.symm) | (rw [hF]; rfl) | (rw [Za.2 h22]; rfl) | trivial
           refine ⟨?_, ?_⟩
           ·first | (with_reducible rfl) | (with_reducible exact hck.symm) | (rw [hF]; done) | (rw [hF]; with_reducible exact h54.symm) | (rw [hF]; with_reducible exact h55.symm) | (rw [hF]; rfl) | (rw [Za.2 h22]; rfl) | trivial
           refine ⟨?_, ?_⟩
           ·first | (with_reducible rfl) | (with_reducible exact hck.symm) | (rw [hF]; done) | (rw [hF]; with_reducible exact h54.symm) | (rw [hF]; with_reducible exact h55.symm) | (rw [hF]; rfl) | (rw [Za.2 h22]; rfl) | trivial
           trivial
          ·skip
           intro h759
           refine ⟨?_, ?_⟩
           ·skip
            intro h761
            refine ⟨?_, ?_⟩
            ·first | omega | trivial | (with_reducible assumption)
            refine ⟨?_, ?_⟩
            ·first | omega | trivial | (with_reducible assumption)
            refine ⟨?_, ?_⟩
            ·exact h560
            refine ⟨?_, ?_⟩
            ·exact .inl h629
            intro v766
            intro h767
            refine ⟨?_, ?_⟩
            ·skip
             intro h769
             have hbad : False := by
              rw [h769] at h767
              obtain ⟨b', hb1, hb2⟩ := h560 _ ((Zh (p := _ ∈ v44)).mp h767.symm)
              injection hb1 with hb1
              obtain ⟨k, hk, rfl⟩ := hb2
              have := h58.2.2 _ (ZrI hk)
              omega
             refine ⟨?_, ?_⟩
             ·exact hbad.elim
             exact hbad.elim
            ·skip
             intro h773
             have hnf : ¬ J ∈ B.fal := fun hm => hJn (hw.fi J hm)
             have hF := htold 1 (ZDT hj h761 (.inl ⟨hnop, hnf⟩))
             refine ⟨?_, ?_⟩
             ·first | (with_reducible rfl) | (with_reducible exact hck.symm) | (rw [hF]; done) | (rw [hF]; with_reducible exact h54.symm) | (rw [hF]; with_reducible exact h55.symm) | (rw [hF]; rfl) | (rw [Za.2 h22]; rfl) | trivial
             refine ⟨?_, ?_⟩
             ·first | (with_reducible rfl) | (with_reducible exact hck.symm) | (rw [hF]; done) | (rw [hF]; with_reducible exact h54.symm) | (rw [hF]; with_reducible exact h55.symm) | (rw [hF]; rfl) | (rw [Za.2 h22]; rfl) | trivial
             refine ⟨?_, ?_⟩
             ·first | (with_reducible rfl) | (with_reducible exact hck.symm) | (rw [hF]; done) | (rw [hF]; with_reducible exact h54.symm) | (rw [hF]; with_reducible exact h55.symm) | (rw [hF]; rfl) | (rw [Za.2 h22]; rfl) | trivial
             refine ⟨?_, ?_⟩
             ·first | (with_reducible rfl) | (with_reducible exact hck.symm) | (rw [hF]; done) | (rw [hF]; with_reducible exact h54.symm) | (rw [hF]; with_reducible exact h55.symm) | (rw [hF]; rfl) | (rw [Za.2 h22]; rfl) | trivial
             refine ⟨?_, ?_⟩
             ·first | (with_reducible rfl) | (with_reducible exact hck.symm) | (rw [hF]; done) | (rw [hF]; with_reducible exact h54.symm) | (rw [hF]; with_reducible exact h55.symm) | (rw [hF]; rfl) | (rw [Za.2 h22]; rfl) | trivial
             refine ⟨?_, ?_⟩
             ·first | (with_reducible rfl) | (with_reducible exact hck.symm) | (rw [hF]; done) | (rw [hF]; with_reducible exact h54.symm) | (rw [hF]; with_reducible exact h55.symm) | (rw [hF]; rfl) | (rw [Za.2 h22]; rfl) | trivial
             refine ⟨?_, ?_⟩
             ·first | (with_reducible rfl) | (with_reducible exact hck.symm) | (rw [hF]; done) | (rw [hF]; with_reducible exact h54.symm) | (rw [hF]; with_reducible exact h55.symm) | (rw [hF]; rfl) | (rw [Za.2 h22]; rfl) | trivial
             refine ⟨?_, ?_⟩
             ·first | (with_reducible rfl) | (with_reducible exact hck.symm) | (rw [hF]; done) | (rw [hF]; with_reducible exact h54.symm) | (rw [hF]; with_reducible exact h55.symm) | (rw [hF]; rfl) | (rw [Za.2 h22]; rfl) | trivial
             refine ⟨?_, ?_⟩
             ·first | (with_reducible rfl) | (with_reducible exact hck.symm) | (rw [hF]; done) | (rw [hF]; with_reducible exact h54.symm) | (rw [hF]; with_reducible exact h55.symm) | (rw [hF]; rfl) | (rw [Za.2 h22]; rfl) | trivial
             refine ⟨?_, ?_⟩
             ·first | (with_reducible rfl) | (with_reducible exact hck.symm) | (rw [hF]; done) | (rw [hF]; with_reducible exact h54.symm) | (rw [hF]; with_reducible exact h55.symm) | (rw [hF]; rfl) | (rw [Za.2 h22]; rfl) | trivial
             trivial
           ·skip
            intro h786
            refine ⟨?_, ?_⟩
            ·skip
             intro h788
             intro v789
             intro h790
             refine ⟨?_, ?_⟩
             ·first | omega | trivial | (with_reducible assumption)
             refine ⟨?_, ?_⟩
             ·rw [Zi1 (Zdq h58.1)]; exact List.Perm.nil
             refine ⟨?_, ?_⟩
             ·exact ⟨by rw [Zf4 h58.1]; exact hw.nd, fun _ q => q⟩
             refine ⟨?_, ?_⟩
             ·exact congrArg (fun q => U.g (GG.tx q)) (Zka (Zdq h58.1))
             intro v795
             intro v796
             intro v797
             intro v798
             intro v799
             intro v800
             intro h801
             intro h802
             intro h803
             intro h804
             intro h805
             have hFl2 : v800.length <= B.txs.length := by have q := h804.length_eq; rw [hlr] at q; have := ZfD v795 B.txs 0; omega
             refine ⟨?_, ?_⟩
             ·skip
              intro h807
              have hM : v795 = [] := ZGW (by omega)
              have hst := hsu.trans (st7 hj h788)
              refine ⟨?_, ?_⟩
              ·omega
              refine ⟨?_, ?_⟩
              ·omega
              refine ⟨?_, ?_⟩
              ·omega
              refine ⟨?_, ?_⟩
              ·omega
              refine ⟨?_, ?_⟩
              ·omega
              refine ⟨?_, ?_⟩
              ·first | (simp only [hst, hlr]; first | omega | assumption | done) | (simp only [hst, hlr]; done)
              refine ⟨?_, ?_⟩
              ·first | (simp only [hst, hlr]; first | omega | assumption | done) | (simp only [hst, hlr]; done)
              refine ⟨?_, ?_⟩
              ·first | (simp only [hst, hlr]; first | omega | assumption | done) | (simp only [hst, hlr]; done)
              refine ⟨?_, ?_⟩
              ·first | (simp only [hst, hlr]; first | omega | assumption | done) | (simp only [hst, hlr]; done)
              refine ⟨?_, ?_⟩
              ·rw [hst, ZfE h803]; rw [hM, Zdl] at h804; exact h804
              refine ⟨?_, ?_⟩
              ·rw [hst]; exact h54
              refine ⟨?_, ?_⟩
              ·rw [hst]; exact h55
              refine ⟨?_, ?_⟩
              ·rw [hst, hM]; rfl
              refine ⟨?_, ?_⟩
              ·rw [hst]
              refine ⟨?_, ?_⟩
              ·rw [hst, ZfE h803]
              refine ⟨?_, ?_⟩
              ·rw [hst]; exact congrArg U.amap (ZlL h803 (by rw [List.map_map]; rfl))
              refine ⟨?_, ?_⟩
              ·first | (simp only [hst, hlr]; first | omega | assumption | done) | (simp only [hst, hlr]; done)
              refine ⟨?_, ?_⟩
              ·first | (simp only [hst, hlr]; first | omega | assumption | done) | (simp only [hst, hlr]; done)
              trivial
             ·skip
              intro v828
              intro h829
              have hjk0 := h805.2 _ h829
              have hAk := ZbC (w := v828) h58.1 0
              obtain ⟨j, hjd⟩ : ∃ j, ixL v828 B.txs = j := ⟨_, rfl⟩
              rw [hjd] at hAk
              have hjl : j < B.txs.length := by rw [hAk.2] at hjk0; simpa using hjk0
              have hR22 : v797.length = v37.length := by have := congrArg List.length h803; simpa using this
              have hjR : j < v797.length := by have := h58.1; omega
              have hg0 : g0 (v797.getD j []) = g0 (v37.getD j []) := by rw [<- ZcD g0 v797, <- ZcD g0 v37, h803]
              have hmk : Yr 0 (Zei v37 B.txs) v828 = g0 (v797.getD j []) := by rw [hAk.1, if_pos hjl, hg0]
              have hrj := ZaG (R := v797) (by rw [h803]; exact h58.2.1) hjR
              have hwj : (B.txs.getD j tx0).who = v828 := by have := ZaE (w := v828) (L := B.txs) (by omega); rw [hjd] at this; exact this
              have hgj : (Zb3 B.txs v795).getD j tx0 = B.txs.getD j tx0 := by rw [ZdB _ _ hjl, hwj, if_pos h829]
              have hsl := ZdH B.txs v795
              simp only [hmk, hrj, ZGO, Zci]
              refine ⟨?_, ?_⟩
              ·exact ⟨j, hjR, rfl⟩
              intro h831
              intro h832
              intro h833
              intro h834
              intro h835
              intro h836
              intro h837
              intro h838
              intro h839
              refine ⟨?_, ?_⟩
              ·first | omega | trivial | (with_reducible assumption)
              refine ⟨?_, ?_⟩
              ·skip
               intro h842
               rw [hgj] at h842
               intro h843
               intro h844
               intro h845
               intro h846
               intro h847
               intro h848
               intro h849
               intro h850
               intro h851
               refine ⟨?_, ?_⟩
               ·first | omega | trivial | (with_reducible assumption)
               refine ⟨?_, ?_⟩
               ·first | omega | trivial | (with_reducible assumption)
               refine ⟨?_, ?_⟩
               ·first | omega | trivial | (with_reducible assumption)
               refine ⟨?_, ?_⟩
               ·first | omega | trivial | (with_reducible assumption)
               intro v856
               intro h857
               refine ⟨?_, ?_⟩
               ·first | omega | trivial | (with_reducible assumption)
               refine ⟨?_, ?_⟩
               ·first | omega | trivial | (with_reducible assumption)
               intro v860
               intro v861
               intro h862
               intro h863
               refine ⟨?_, ?_⟩
               ·have := ZcV h829; omega
               refine ⟨?_, ?_⟩
               ·rw [Ze9 hjR]; exact (Yq (f := g0) (d := []) (x := g0 (v797.getD j []) :: _) rfl hjR).trans h803
               refine ⟨?_, ?_⟩
               ·refine (h804.append_right _).trans ?_
                rw [hg0, <- ZdK]
                exact ZdO (Zkn h805.1 hw.nd hjd hjl h829 h842)
               refine ⟨?_, ?_⟩
               ·exact ⟨Zbr h805.1 _, fun q hq => h805.2 q (by rw [Zas h805.1] at hq; simp only [Bool.and_eq_true] at hq; exact hq.2)⟩
               refine ⟨?_, ?_⟩
               ·rw [ZeO (by rw [hsl]; exact hjl), Zf9 h805.1 hw.nd hjd hjl h829, hgj]; rfl
               trivial
              ·skip
               intro h871
               rw [hgj] at h871
               refine ⟨?_, ?_⟩
               ·have := ZcV h829; omega
               refine ⟨?_, ?_⟩
               ·exact h804.trans (ZdO (Zg1 h805.1 hw.nd hjd hjl h871))
               refine ⟨?_, ?_⟩
               ·exact ⟨Zbr h805.1 _, fun q hq => h805.2 q (by rw [Zas h805.1] at hq; simp only [Bool.and_eq_true] at hq; exact hq.2)⟩
               refine ⟨?_, ?_⟩
               ·exact congrArg (fun q => U.g (GG.tx q)) (Zg6 h805.1 hw.nd hjd hjl h829 (by rw [hgj]; exact h871))
               trivial
            ·skip
             intro h878
             have hst := hsu.trans (st0 hj ⟨h664, h710, h729, h744, h786, h759, h878⟩)
             refine ⟨?_, ?_⟩
             ·omega
             refine ⟨?_, ?_⟩
             ·omega
             refine ⟨?_, ?_⟩
             ·omega
             refine ⟨?_, ?_⟩
             ·omega
             refine ⟨?_, ?_⟩
             ·omega
             refine ⟨?_, ?_⟩
             ·first | (simp only [hst, hlr, ZGM, ZGv]; first | omega | assumption | done) | (simp only [hst, hlr, ZGM, ZGv]; done)
             refine ⟨?_, ?_⟩
             ·first | (simp only [hst, hlr, ZGM, ZGv]; first | omega | assumption | done) | (simp only [hst, hlr, ZGM, ZGv]; done)
             refine ⟨?_, ?_⟩
             ·first | (simp only [hst, hlr, ZGM, ZGv]; first | omega | assumption | done) | (simp only [hst, hlr, ZGM, ZGv]; done)
             refine ⟨?_, ?_⟩
             ·first | (simp only [hst, hlr, ZGM, ZGv]; first | omega | assumption | done) | (simp only [hst, hlr, ZGM, ZGv]; done)
             refine ⟨?_, ?_⟩
             ·first | (rw [hst]; exact h53)
             refine ⟨?_, ?_⟩
             ·first | (rw [hst]; exact h54)
             refine ⟨?_, ?_⟩
             ·first | (rw [hst]; exact h55)
             refine ⟨?_, ?_⟩
             ·first | (rw [hst]; done) | (rw [hst]; rfl)
             refine ⟨?_, ?_⟩
             ·first | (rw [hst]; done) | (rw [hst]; rfl)
             refine ⟨?_, ?_⟩
             ·first | (rw [hst]; done) | (rw [hst]; rfl)
             refine ⟨?_, ?_⟩
             ·first | (rw [hst, YV hJR hJl hwho]; done) | (rw [hst]; done)
             refine ⟨?_, ?_⟩
             ·first | (simp only [hst, hlr, ZGM, ZGv]; first | omega | assumption | done) | (simp only [hst, hlr, ZGM, ZGv]; done)
             refine ⟨?_, ?_⟩
             ·first | (simp only [hst, hlr, ZGM, ZGv]; first | omega | assumption | done) | (simp only [hst, hlr, ZGM, ZGv]; done)
             trivial
   ·skip
    intro h899
    have hF : ZV X X.length = B := by rw [show X.length = n by omega]; exact hB
    refine ⟨?_, ?_⟩
    ·first | (with_reducible rfl) | (with_reducible exact hck.symm) | (rw [hF]; done) | (rw [hF]; with_reducible exact h54.symm) | (rw [hF]; with_reducible exact h55.symm) | (rw [hF]; rfl) | (rw [Za.2 h22]; rfl) | trivial
    refine ⟨?_, ?_⟩
    ·first | (with_reducible rfl) | (with_reducible exact hck.symm) | (rw [hF]; done) | (rw [hF]; with_reducible exact h54.symm) | (rw [hF]; with_reducible exact h55.symm) | (rw [hF]; rfl) | (rw [Za.2 h22]; rfl) | trivial
    refine ⟨?_, ?_⟩
    ·first | (with_reducible rfl) | (with_reducible exact hck.symm) | (rw [hF]; done) | (rw [hF]; with_reducible exact h54.symm) | (rw [hF]; with_reducible exact h55.symm) | (rw [hF]; rfl) | (rw [Za.2 h22]; rfl) | trivial
    refine ⟨?_, ?_⟩
    ·first | (with_reducible rfl) | (with_reducible exact hck.symm) | (rw [hF]; done) | (rw [hF]; with_reducible exact h54.symm) | (rw [hF]; with_reducible exact h55.symm) | (rw [hF]; rfl) | (rw [Za.2 h22]; rfl) | trivial
    refine ⟨?_, ?_⟩
    ·first | (with_reducible rfl) | (with_reducible exact hck.symm) | (rw [hF]; done) | (rw [hF]; with_reducible exact h54.symm) | (rw [hF]; with_reducible exact h55.symm) | (rw [hF]; rfl) | (rw [Za.2 h22]; rfl) | trivial
    refine ⟨?_, ?_⟩
    ·first | (with_reducible rfl) | (with_reducible exact hck.symm) | (rw [hF]; done) | (rw [hF]; with_reducible exact h54.symm) | (rw [hF]; with_reducible exact h55.symm) | (rw [hF]; rfl) | (rw [Za.2 h22]; rfl) | trivial
    refine ⟨?_, ?_⟩
    ·first | (with_reducible rfl) | (with_reducible exact hck.symm) | (rw [hF]; done) | (rw [hF]; with_reducible exact h54.symm) | (rw [hF]; with_reducible exact h55.symm) | (rw [hF]; rfl) | (rw [Za.2 h22]; rfl) | trivial
    refine ⟨?_, ?_⟩
    ·first | (with_reducible rfl) | (with_reducible exact hck.symm) | (rw [hF]; done) | (rw [hF]; with_reducible exact h54.symm) | (rw [hF]; with_reducible exact h55.symm) | (rw [hF]; rfl) | (rw [Za.2 h22]; rfl) | trivial
    refine ⟨?_, ?_⟩
    ·first | (with_reducible rfl) | (with_reducible exact hck.symm) | (rw [hF]; done) | (rw [hF]; with_reducible exact h54.symm) | (rw [hF]; with_reducible exact h55.symm) | (rw [hF]; rfl) | (rw [Za.2 h22]; rfl) | trivial
    refine ⟨?_, ?_⟩
    ·first | (with_reducible rfl) | (with_reducible exact hck.symm) | (rw [hF]; done) | (rw [hF]; with_reducible exact h54.symm) | (rw [hF]; with_reducible exact h55.symm) | (rw [hF]; rfl) | (rw [Za.2 h22]; rfl) | trivial
    trivial
/-! ### Plain words -/
def ZdD (s : Int × Int) (i r : Int) : Int × Int := if i < s.1 then (i, r) else s
def ZkO (l : List Int) : Int × Int := (l.getD 0 0, l.getD 1 0)
def ZAp (s : Int × Int) (l : List Int) : Nat -> Int × Int
 | 0 => s
 | j + 1 => ZdD (ZAp s l j) (l.getD j 0) 3
def Ys (F : Int -> Int -> Prop) (n : Int) (s : Int × Int) : Prop := (s = (n, 0) /\ ∀ i r, ¬ F i r) \/ (s.2 ≠ 0 /\ F s.1 s.2 /\ ∀ i r, F i r -> s.1 <= i)
def Zxd (B : Bk) (left : List (Int × Int)) (i r : Int) : Prop := r = 3 /\ ∃ t ∈ B.txs, Zt left t.who = false /\ i ∈ t.bad
def Zly (B : Bk) (left : List (Int × Int)) : List Ent := B.out ++ (B.txs.filter fun t => !Zt left t.who && decide (t.com < 0)).flatMap (·.rds)
def SrtP (x y : List (List Int)) : Prop := y.Perm x /\ y.Pairwise fun a b => g0 a <= g0 b
def stF (B : Bk) : Nat -> Int -> Bool × (List UInt8 × Bool)
 | 0, _ => (false, vw 0)
 | k + 1, q => if Zt (B.txs.getD (B.kept.getD k 0) tx0).ch q = true then (true, vw (Yr 0 (B.txs.getD (B.kept.getD k 0) tx0).ch q)) else stF B k q
def Zgt (m : List (Int × Int)) (f : Int -> Bool × (List UInt8 × Bool)) : Prop := ∀ q, Zt m q = (f q).1 /\ vw (Yr 0 m q) = (f q).2
def ZQ (f : Int -> Bool × (List UInt8 × Bool)) (r : Ent) : Bool := (Zcu r == ((f (kc r)).1 && (f (kc r)).2.2)) && (!Zcu r || ZaU r == (f (kc r)).2.1)
def Zqq (f : Ent -> Bool) (L : List (List Int)) (place : Int) : Nat -> Nat -> Int × Int -> Nat × (Int × Int)
 | 0, p, s => (p, s)
 | n + 1, p, s => if p < L.length /\ g0 (L.getD p []) < place then Zqq f L place n (p + 1) (if f ((L.getD p []).drop 1) = true then s else ZdD s (g0 (L.getD p [])) 4) else (p, s)
def ZeT (f : Ent -> Bool) (L : List (List Int)) (place : Int) (p : Nat) (s : Int × Int) : Nat × (Int × Int) := Zqq f L place (L.length - p) p s
def Zix (f : Ent -> Bool) (s : Int × Int) (l : List (List Int)) : Nat -> Int × Int
 | 0 => s
 | j + 1 => if f ((l.getD j []).drop 1) = true then Zix f s l j else ZdD (Zix f s l j) (g0 (l.getD j [])) 4
def YJ (B : Bk) (L : List (List Int)) (s : Int × Int) : Nat -> Nat × (Int × Int)
 | 0 => (0, s)
 | k + 1 =>
  let e := ZeT (ZQ (stF B k)) L (B.txs.getD (B.kept.getD k 0) tx0).com (YJ B L s k).1 (YJ B L s k).2
  (e.1, Zix (ZQ (stF B k)) e.2 (B.txs.getD (B.kept.getD k 0) tx0).rds (B.txs.getD (B.kept.getD k 0) tx0).rds.length)
theorem Zls {m : List (Int × Int)} {f : Int -> Bool × (List UInt8 × Bool)} (h : Zgt m f) (r : Ent) : ZR m r = ZQ f r := by
 obtain ⟨h1, h2⟩ := h (kc r)
 have a := congrArg Prod.fst h2
 have b := congrArg Prod.snd h2
 have a : Za6 ((Yr 0 m (kc r)).tdiv 2).toNat = (f (kc r)).2.1 := a
 have b : decide ((Yr 0 m (kc r)).tmod 2 = 0) = (f (kc r)).2.2 := b
 unfold ZR ZQ
 rw [h1, a, b]
theorem ZvC {f : Ent -> Bool} {L : List (List Int)} {place : Int} {p : Nat} (s : Int × Int) (h : p < L.length) (h2 : g0 (L.getD p []) < place) :
  ZeT f L place p s = ZeT f L place (p + 1) (if f ((L.getD p []).drop 1) = true then s else ZdD s (g0 (L.getD p [])) 4) := by
 unfold ZeT
 rw [show L.length - p = (L.length - (p + 1)) + 1 by omega]
 show (if _ then _ else _) = _
 rw [if_pos ⟨h, h2⟩]
theorem ZvM {f : Ent -> Bool} {L : List (List Int)} {place : Int} {p : Nat} (s : Int × Int) (h : ¬ (p < L.length /\ g0 (L.getD p []) < place)) : ZeT f L place p s = (p, s) := by
 unfold ZeT
 cases L.length - p with
 | zero => rfl
 | succ n => show (if _ then _ else _) = _; rw [if_neg h]
theorem Zn4 {B : Bk} {k : Nat} {m c m' : List (Int × Int)} (h : Zgt m (stF B k)) (hc : c = (B.txs.getD (B.kept.getD k 0) tx0).ch) (hl : ZsH m c m') : Zgt m' (stF B (k + 1)) := by
 intro q
 obtain ⟨a, b⟩ := hl q
 obtain ⟨c1, c2⟩ := h q
 subst hc
 show _ = (if _ then _ else _ : Bool × (List UInt8 × Bool)).1 /\ _ = (if _ then _ else _ : Bool × (List UInt8 × Bool)).2
 rw [a, b]
 by_cases hq : Zt (B.txs.getD (B.kept.getD k 0) tx0).ch q = true
 ·rw [if_pos hq, if_pos hq, hq]; exact ⟨by simp, rfl⟩
 ·rw [if_neg hq, if_neg hq, c1, c2, show Zt (B.txs.getD (B.kept.getD k 0) tx0).ch q = false by simpa using hq]; exact ⟨by simp, rfl⟩
def ZiY (x : List Ent) : Bk := ZV x x.length
def ZCR (a : List (List Int)) (m : List (Int × Int)) (l : List Int) : Nat × (Int × Int) := ZeT (ZR m) a (l.getD 3 0) (l.getD 0 0).toNat (l.getD 1 0, l.getD 2 0)
theorem ZrL (L : List (List Int)) (m : List (Int × Int)) (k a w pl : Int) : ZCR L m [k, a, w, pl] = ZeT (ZR m) L pl k.toNat (a, w) := rfl
theorem Ziv (r : List Int) : [r.getD 1 0, r.getD 2 0, ((Zq (Za6 (r.getD 3 0).toNat) : Nat) : Int), ((Zq (Za6 (r.getD 4 0).toNat) : Nat) : Int), b01 (!r.getD 5 0 == 0), r.getD 6 0] = nr (r.drop 1) := by cases r <;> rfl
structure JsSig (S : Sig GG) : Prop where
 jt : JtSig S
 u580 : ∀ a b c d, S.usr 580 a b c d = .bool (Zl (SrtP a.tR b.tR))
 u582 : ∀ a b c d, S.usr 582 a b c d = .int (ZdD (a.tI, b.tI) c.tI d.tI).1
 u583 : ∀ a b c d, S.usr 583 a b c d = .int (ZdD (a.tI, b.tI) c.tI d.tI).2
 u584 : ∀ a b c d, S.usr 584 a b c d = .int (ZAp (ZkO a.tN) b.tN c.tI.toNat).1
 u585 : ∀ a b c d, S.usr 585 a b c d = .int (ZAp (ZkO a.tN) b.tN c.tI.toNat).2
 u586 : ∀ a b c d, S.usr 586 a b c d = .bool (Zl (Ys (Zxd (ZiY a.tR) b.tM) d.tI (ZkO c.tN)))
 u587 : ∀ a b c d, S.usr 587 a b c d = .bool (Zl (c.tR.Perm (Zly (ZiY a.tR) b.tM)))
 u590 : ∀ a b c d, S.usr 590 a b c d = .int ((ZCR a.tR b.tM c.tN).1 : Nat)
 u591 : ∀ a b c d, S.usr 591 a b c d = .int (ZCR a.tR b.tM c.tN).2.1
 u592 : ∀ a b c d, S.usr 592 a b c d = .int (ZCR a.tR b.tM c.tN).2.2
 u593 : ∀ a b c d, S.usr 593 a b c d = .int ((YJ (ZiY a.tR) b.tR (ZkO c.tN) d.tI.toNat).1 : Nat)
 u594 : ∀ a b c d, S.usr 594 a b c d = .int (YJ (ZiY a.tR) b.tR (ZkO c.tN) d.tI.toNat).2.1
 u595 : ∀ a b c d, S.usr 595 a b c d = .int (YJ (ZiY a.tR) b.tR (ZkO c.tN) d.tI.toNat).2.2
 u596 : ∀ a b c d, S.usr 596 a b c d = .bool (Zl (Zgt c.tM (stF (ZiY a.tR) b.tI.toNat)))
 u597 : ∀ a b c d, S.usr 597 a b c d = .int (Zix (ZR d.tM) (ZkO a.tN) b.tR c.tI.toNat).1
 u598 : ∀ a b c d, S.usr 598 a b c d = .int (Zix (ZR d.tM) (ZkO a.tN) b.tR c.tI.toNat).2
theorem JsSig.of {S T : Sig GG} (h : JsSig S) (hu : T.usr = S.usr) (hp : T.prd = S.prd) : JsSig T := by
 constructor
 ·exact h.jt.of hu hp
 all_goals (rw [hu]; first | exact h.u580 | exact h.u582 | exact h.u583 | exact h.u584 | exact h.u585 | exact h.u586 | exact h.u587 | exact h.u590 | exact h.u591 | exact h.u592 | exact h.u593 | exact h.u594 | exact h.u595 | exact h.u596 | exact h.u597 | exact h.u598)
/-! ### Contracts -/
def srtX (x y : SX) : SX := usB 580 x y z0
def Zcm : Ctr := ⟨[.int, .rows, .int, .int, .int], [.one (.slice (ai 0) z0 z0 z0 (ai 2) (ai 3) 7), .one (.fn 21)], [rAr (ai 0) (rA 1) (ai 4)],
 [eLe z0 (ai 2), .f2 45 (ai 2) (Zk (rA 1)), eLe (ai 2) (ai 3), eLe (ai 2) (.int 140737488355328)], [.rows], .tup [], [rAr (ai 0) (rA 5) (ai 4)], [.f2 45 (Zk (rA 5)) (Zk (rA 1)), srtX (rA 1) (rA 5)]⟩
def Zsw : Ctr := ⟨[.int, .int, .int, .rows, .int], [.one (slC (ai 0) (ai 1) (ai 2) 7)], [rAr (ai 0) (rA 3) (ai 4)], [.f2 45 (ai 1) (Zk (rA 3)), eLe (ai 1) (ai 2), eLe (ai 1) mil, .f2 50 (eLe z0 (ai 0)) (.f2 45 (ai 1) z0)], [.int, .int], .one (slC (ai 5) (ai 1) (ai 6) 7),
 [rAr (ai 0) (rA 3) (ai 4), rAr (ai 5) (rA 3) (ai 6)], [eLe (ai 1) (ai 6), .f2 50 (eLe z0 (ai 5)) (.f2 45 (ai 1) z0)]⟩
def ZDL : Cx := { specs := [], anns := [(19, [(999999, .ghost ZDA [])])] }
def ZuN : Ctr := ⟨[.int, .int, .int, .int, .int, .int], [.one (.int .i64 (ai 0)), .one (.int .i64 (ai 1)), .one (.ptr (ai 2) 0), .one (.ptr (ai 3) 0)], [.cel (ai 2) 0 [.int .i64 (ai 4)], .cel (ai 3) 0 [.int .i64 (ai 5)]], [], [], .tup [],
 [.cel (ai 2) 0 [.int .i64 (.us .int 582 (ai 4) (ai 5) (ai 0) (ai 1))], .cel (ai 3) 0 [.int .i64 (.us .int 583 (ai 4) (ai 5) (ai 0) (ai 1))]], []⟩
def ZGt : Cx := { specs := [], anns := [] }
def notS : List (Nat × List Ctr) := [(18, [ZuN])]
def clN (a b : SX) : SC := .cap (.cap (.fn 18) (.ptr a 0)) (.ptr b 0)
def endI : Inv := ⟨[.int, .int, .int, .int, .int, .int], [], [.cel (ai 1) 0 [.slice (ai 6) z0 (di 0) (di 1) (di 2) (di 3) 7], .cel (ai 4) 0 [.int .i64 (di 4)], .cel (ai 5) 0 [.int .i64 (di 5)]],
 [eLe z0 (di 0), eLe z0 (di 2), .f2 45 (.f2 40 (di 0) (di 2)) (Zk (rA 11)), eLe (di 2) (di 3)] ++
 [590, 591, 592].map fun k => .f2 45 (usI k (rA 11) (mA 14) (ZjA (di 0) (di 4) (di 5) (ai 0))) (usI k (rA 11) (mA 14) (ZjA (ai 7) (ai 15) (ai 16) (ai 0))), di 2⟩
def ZqQ : Ctr := ⟨[.int, .int, .int, .int, .int, .int, .int, .int, .int, .int, .int, .rows, .int, .int, .amap, .int, .int], [.one (.int .i64 (ai 0)), .one (.ptr (ai 1) 0), .one (.ptr (ai 2) 0), .one (.ptr (ai 3) 0)],
 [.cel (ai 1) 0 [.slice (ai 6) z0 (ai 7) (ai 8) (ai 9) (ai 10) 7], rAr (ai 6) (rA 11) (ai 12), .cel (ai 2) 0 [.map (ai 13)], scC (ai 13) (mA 14), .cel (ai 3) 0 [clN (ai 4) (ai 5)], .cel (ai 4) 0 [.int .i64 (ai 15)], .cel (ai 5) 0 [.int .i64 (ai 16)]],
 [eLe z0 (ai 7), eLe z0 (ai 9), .f2 45 (.f2 40 (ai 7) (ai 9)) (Zk (rA 11)), eLe (ai 9) (ai 10), eLe (Zk (rA 11)) mil, eLe z0 (ai 13), .f2 50 (eLe z0 (ai 6)) (.f2 45 (ai 9) z0)], [.int, .int, .int], .tup [],
 [.cel (ai 1) 0 [.slice (ai 6) z0 (usI 590 (rA 11) (mA 14) (ZjA (ai 7) (ai 15) (ai 16) (ai 0))) (ai 17) (ai 18) (ai 19) 7], rAr (ai 6) (rA 11) (ai 12), .cel (ai 2) 0 [.map (ai 13)], scC (ai 13) (mA 14), .cel (ai 3) 0 [clN (ai 4) (ai 5)],
  .cel (ai 4) 0 [.int .i64 (usI 591 (rA 11) (mA 14) (ZjA (ai 7) (ai 15) (ai 16) (ai 0)))], .cel (ai 5) 0 [.int .i64 (usI 592 (rA 11) (mA 14) (ZjA (ai 7) (ai 15) (ai 16) (ai 0)))]],
 [eLe z0 (ai 18), eLe (ai 18) (ai 19), .f2 45 (.f2 40 (usI 590 (rA 11) (mA 14) (ZjA (ai 7) (ai 15) (ai 16) (ai 0))) (ai 18)) (Zk (rA 11))]⟩
def ZDC : Cx := { specs := notS ++ [(24, [Zhx])], anns := [(23, [(0, .inv endI)])] }
def ZB0 : SX := l z (a 0)
def Zvh : SX := e (a 1) z
def ZED : VC := i (e (a 1) (.f1 32 (r 3))) (i (l (a 1) (a 2)) (i (l (a 1) (k 1000000)) (i (.f2 50 ZB0 Zvh) (.and (i (t (a 0) z) (n (l (a 1) z) (n (.f2 50 (.bool false) Zvh) (n (.f2 155 (r 3) (.f1 154 z)) (n Zvh .tt))))) (i ZB0 (u 5 .int (i (l z (a 5)) (n (l (.f2 42 (a 1) (k 72)) k1) (n (l z (a 1)) (n (l (a 1) (.f1 32 (r 3))) (u 6 .int (u 7 .int (i (l (a 1) (a 7)) (i (.f2 50 (l z (a 6)) Zvh) (n (.f2 155 (r 3) (.f2 115 (r 3) (a 1))) .tt)))))))))))))))
theorem ZD3 : Zb4 Try.prog ZDL 12 19 Zsw = ZED := by kernel_rfl
def ZAc : SX := .us .int 583 (a 4) (a 5) (a 0) (a 1)
def ZA4 : SX := .us .int 582 (a 4) (a 5) (a 0) (a 1)
def ZEy : VC := .and (i (t (a 0) (a 4)) (n (e ZAc (a 1)) (n (e ZA4 (a 0)) .tt))) (i (l (a 4) (a 0)) (n (e ZAc (a 5)) (n (e ZA4 (a 4)) .tt)))
theorem ZFK : Zb4 Try.prog ZGt 12 18 ZuN = ZEy := by kernel_rfl
def ZyF : SX := .f2 122 (a 0) (.f1 152 z)
def ZxI : SX := .f2 122 (a 7) (.f2 122 (a 15) (.f2 122 (a 16) ZyF))
def Zjl : SX := x 590 (r 11) (m 14) ZxI
def Zml : SX := x 591 (r 11) (m 14) ZxI
def ZmN : SX := x 592 (r 11) (m 14) ZxI
def ZBX : SX := .f2 122 (a 21) (.f2 122 (a 22) ZyF)
def ZxZ : SX := .f2 122 (a 17) ZBX
def Zvc : SX := .f3 112 (r 11) (a 17) z
def ZBJ : SX := l z (a 20)
def ZDd : SX := l (k 1) (a 19)
def Zi4 : SX := .f2 40 (a 19) (k (-1))
def ZtI : SX := t Zi4 (a 19)
def Zot : SX := .f2 40 (a 17) (k 1)
def ZqV : SX := l z Zot
def Zrn : SX := l z Zi4
def ZvF : SX := e (.f2 40 (.f2 40 (a 17) Zi4) (k 1)) (.f1 32 (r 11))
def ZuB : SX := l Zi4 (.f2 40 (a 20) (k (-1)))
def ZoS : SX := .f2 122 Zot (.f2 122 (.us .int 582 (a 21) (a 22) Zvc (k 4)) (.f2 122 (.us .int 583 (a 21) (a 22) Zvc (k 4)) ZyF))
def Znl : SX := .f2 122 Zot ZBX
def ZrC : SX := e (.f2 40 Zjl (a 19)) (.f1 32 (r 11))
def Zwh : SX := e ZmN (a 22)
def Zve : SX := e Zml (a 21)
def ZtO : SX := e Zjl (a 17)
def ZFQ : VC := i (l z (a 7)) (i (l z (a 9)) (i (e (.f2 40 (a 7) (a 9)) (.f1 32 (r 11))) (i (l (a 9) (a 10)) (i (l (.f1 32 (r 11)) (k 1000000)) (i (l z (a 13)) (i (.f2 50 (l z (a 6)) (e (a 9) z)) (n (e Zjl Zjl) (n (e Zml Zml) (n (e ZmN ZmN) (u 17 .int (u 18 .int (u 19 .int (u 20 .int (u 21 .int (u 22 .int (i (l z (a 17)) (i (l z (a 19)) (i (e (.f2 40 (a 17) (a 19)) (.f1 32 (r 11))) (i (l (a 19) (a 20)) (i (e (x 590 (r 11) (m 14) ZxZ) Zjl) (i (e (x 591 (r 11) (m 14) ZxZ) Zml) (i (e (x 592 (r 11) (m 14) ZxZ) ZmN) (.and (i (t z (a 19)) (n (t (a 17) (.f1 32 (r 11))) (n (t z (a 20)) (.and (i (t Zvc (a 0)) (u 23 .bool (i (.f2 48 (q 23) (c 530 (m 14) (.f2 122 (.f3 112 (r 11) (a 17) (k 1)) (.f2 122 (.f3 112 (r 11) (a 17) (k 2)) (.f2 122 (.f1 35 (.f1 36 (.f3 112 (r 11) (a 17) (k 3)))) (.f2 122 (.f1 35 (.f1 36 (.f3 112 (r 11) (a 17) (k 4)))) (.f2 122 (.f1 3 (.f1 2 (e (.f3 112 (r 11) (a 17) (k 5)) z))) (.f2 122 (.f3 112 (r 11) (a 17) (k 6)) (.f1 152 z))))))))) (.and (i (.f1 2 (q 23)) (n ZBJ (n ZDd (n ZtI (n ZqV (n Zrn (n ZvF (n ZuB (n (e (x 590 (r 11) (m 14) ZoS) Zjl) (n (e (x 591 (r 11) (m 14) ZoS) Zml) (n (e (x 592 (r 11) (m 14) ZoS) ZmN) .tt))))))))))) (i (.f1 2 (.f1 2 (q 23))) (n ZBJ (n ZDd (n ZtI (n ZqV (n Zrn (n ZvF (n ZuB (n (e (x 590 (r 11) (m 14) Znl) Zjl) (n (e (x 591 (r 11) (m 14) Znl) Zml) (n (e (x 592 (r 11) (m 14) Znl) ZmN) .tt))))))))))))))) (i (l (a 0) Zvc) (n ZrC (n Zwh (n Zve (n ZtO .tt))))))))) (i (l (a 19) z) (n ZrC (n Zwh (n Zve (n ZtO .tt))))))))))))))))))))))))))))
theorem ZFF : Zb4 Try.prog ZDC 12 23 ZqQ = ZFQ := by kernel_rfl
theorem ZDG (S : Sig GG) (hS : JsSig S) : ZH S Try.prog 19 Zsw := by
 refine Zp S (C := ZDL) (fuel := 12) (Zab trivial ⟨⟨⟨by decide, Zzv S⟩, trivial⟩, trivial⟩ trivial) fun ρ => ?_
 rw [ZD3]
 simp only [ZED, ZB0, Zvh, ZT, ZGO, VC.den, SX.den, Env.upd, Y3, ZY, beq_iff_eq, ZGG, beq_eq_false_iff_ne, ne_eq, ZGF, ZGE, Int.reduceToNat, Nat.reduceEqDiff, reduceIte, sB]
 generalize (ρ 3).tR = R
 intro h1 h2 h3 h4
 refine ⟨fun h => ⟨by omega, .inr (by omega), ?_, by omega, trivial⟩, fun h i5 h5 => ⟨by omega, by omega, by omega, fun i6 i7 h6 h7 => ⟨?_, trivial⟩⟩⟩
 ·exact ZGW (by omega)
 ·rw [h1]; simp
theorem ZzL (S : Sig GG) (hS : JsSig S) : ZH S Try.prog 18 ZuN := by
 refine Zp S (C := ZGt) (fuel := 12) (Zab trivial trivial trivial) fun ρ => ?_
 rw [ZFK]
 simp only [ZEy, ZAc, ZA4, hS.u582, hS.u583, ZT, ZGO, VC.den, SX.den, Env.upd, Y3, ZY, beq_iff_eq, ZGG, beq_eq_false_iff_ne, ne_eq, ZGF, ZGE, Int.reduceToNat, Nat.reduceEqDiff, reduceIte, sB]
 refine ⟨fun h => ?_, fun h => ?_⟩
 ·rw [show ZdD ((ρ 4).tI, (ρ 5).tI) (ρ 0).tI (ρ 1).tI = ((ρ 0).tI, (ρ 1).tI) from if_pos h]; exact ⟨rfl, rfl, trivial⟩
 ·rw [show ZdD ((ρ 4).tI, (ρ 5).tI) (ρ 0).tI (ρ 1).tI = ((ρ 4).tI, (ρ 5).tI) from if_neg (by show ¬ (ρ 0).tI < (ρ 4).tI; omega)]; exact ⟨rfl, rfl, trivial⟩
theorem ZEC (S : Sig GG) (hS : JsSig S) : ZH S Try.prog 23 ZqQ := by
 refine Zp S (C := ZDC) (fuel := 12) (Zab ⟨Zm (by decide) (ZzL S hS), Zm (by decide) (ZnS S hS.jt.jb), trivial⟩ ⟨⟨trivial, trivial⟩, trivial⟩ trivial) fun ρ => ?_
 rw [ZFF]
 simp only [ZFQ, ZyF, ZxI, Zjl, Zml, ZmN, ZBX, ZxZ, Zvc, ZBJ, ZDd, Zi4, ZtI, Zot, ZqV, Zrn, ZvF, ZuB, ZoS, Znl, ZrC, Zwh, Zve, ZtO, hS.jt.jb.u530, hS.u582, hS.u583, hS.u590, hS.u591, hS.u592, ZT, ZGO, VC.den, SX.den, Env.upd, Y3, ZY, beq_iff_eq, ZGG, beq_eq_false_iff_ne, ne_eq, ZGF, ZGE, Int.reduceToNat, Nat.reduceEqDiff, reduceIte, sB]
 simp only [ZrL, Ziv, Zfg]
 generalize (ρ 11).tR = L
 generalize (ρ 14).tM = m
 generalize (ρ 0).tI = pl
 generalize hs : ZeT (ZR m) L pl (ρ 7).tI.toNat ((ρ 15).tI, (ρ 16).tI) = E0
 intro q1 q2 q3 q4 q5 q6 q7
 refine ⟨trivial, trivial, trivial, fun k z l c a w j1 j2 j3 j4 j5 j6 j7 => ?_⟩
 have stop : ¬ (k.toNat < L.length /\ g0 (L.getD k.toNat []) < pl) -> (E0.1 : Int) = k /\ E0.2.1 = a /\ E0.2.2 = w := fun h => by
  rw [ZvM _ h] at j5 j6 j7
  refine ⟨?_, j6.symm, j7.symm⟩
  rw [<- j5]; show ((k.toNat : Nat) : Int) = k; omega
 refine ⟨fun hl => ⟨by omega, by omega, fun hp b hb => ?_, fun hp => ?_⟩, fun hl => ?_⟩
 ·have st := ZvC (f := ZR m) (a, w) (show k.toNat < L.length by omega) hp
  have e1 : (k + 1).toNat = k.toNat + 1 := by omega
  rw [st] at j5 j6 j7
  rw [e1]
  rw [hb]
  refine ⟨fun hn => ?_, fun hn => ?_⟩
  ·have hn : ¬ ZR m ((L.getD k.toNat []).drop 1) = true := by simpa using hn
   rw [if_neg hn] at j5 j6 j7
   exact ⟨by omega, by omega, by omega, by omega, by omega, by omega, by omega, j5, j6, j7, trivial⟩
  ·have hn : ZR m ((L.getD k.toNat []).drop 1) = true := by simpa using hn
   rw [if_pos hn] at j5 j6 j7
   exact ⟨by omega, by omega, by omega, by omega, by omega, by omega, by omega, j5, j6, j7, trivial⟩
 ·obtain ⟨a1, a2, a3⟩ := stop fun h => absurd h.2 (by show ¬ (L.getD k.toNat []).getD 0 0 < pl; omega)
  exact ⟨by omega, a3, a2, a1, trivial⟩
 ·obtain ⟨a1, a2, a3⟩ := stop fun h => absurd h.1 (by omega)
  exact ⟨by omega, a3, a2, a1, trivial⟩
def ZgH (w : Int) (s : Tx) (i : Int) (r : Ent) : Tx :=
 if xk r = 7 then { s with opn := false }
 else if xw r = w then (if xk r = 1 then ⟨w, i, -1, true, [], [], []⟩ else if xk r = 2 then rdT s i r else if xk r = 3 \/ xk r = 4 then { s with ch := Ym s.ch (kc r) ((Zq (ZaU r) : Nat) * 2 + b01 (xk r == 4)) }
  else if xk r = 6 then { s with opn := false } else if xk r = 5 then { s with opn := false, com := i } else s)
 else s
def txN (x : List Ent) (w : Int) : Nat -> Tx
 | 0 => { tx0 with who := w, com := -1 }
 | n + 1 => ZgH w (txN x w n) n (xa x n)
theorem Zbd (x : List Ent) (w : Int) (n : Nat) : txN x w (n + 1) = ZgH w (txN x w n) n (xa x n) := rfl
theorem Zem (t : Tx) (i : Int) (x : Ent) : (rdT t i x).opn = t.opn /\ (rdT t i x).com = t.com /\ (rdT t i x).ch = t.ch /\ (rdT t i x).who = t.who /\ (rdT t i x).beg = t.beg := by
 unfold rdT
 split
 ·split
  ·exact ⟨rfl, rfl, rfl, rfl, rfl⟩
  ·exact ⟨rfl, rfl, rfl, rfl, rfl⟩
 ·exact ⟨rfl, rfl, rfl, rfl, rfl⟩
theorem Zzf (x : List Ent) (w : Int) : ∀ n, (txN x w n).who = w
 | 0 => rfl
 | n + 1 => by
  have ih := Zzf x w n
  rw [Zbd]
  unfold ZgH
  repeat' split
  all_goals first | exact ih | rfl | (rw [(Zem _ _ _).2.2.2.1]; exact ih)
theorem Zr6 (x : List Ent) (w : Int) : ∀ n, (txN x w n).opn = (Z6 x w n).1
 | 0 => rfl
 | n + 1 => by
  have ih := Zr6 x w n
  rw [Zbd, Yd]
  unfold ZgH
  by_cases h7 : xk (xa x n) = 7
  ·rw [if_pos h7, if_neg (by omega), if_neg (by omega)]
   by_cases ho : (Z6 x w n).1 = true
   ·rw [if_pos ⟨h7, ho⟩]
   ·rw [if_neg (fun h => ho h.2)]; simpa using ho
  ·rw [if_neg h7, if_neg (fun h : xk (xa x n) = 7 /\ _ => h7 h.1)]
   by_cases hw : xw (xa x n) = w
   ·rw [if_pos hw]
    by_cases h1 : xk (xa x n) = 1
    ·rw [if_pos h1, if_pos ⟨h1, hw⟩]
    ·rw [if_neg h1, if_neg (fun h : xk (xa x n) = 1 /\ _ => h1 h.1)]
     by_cases h2 : xk (xa x n) = 2
     ·rw [if_pos h2, (Zem _ _ _).1, if_neg (by omega)]; exact ih
     ·rw [if_neg h2]
      by_cases h3 : xk (xa x n) = 3 \/ xk (xa x n) = 4
      ·rw [if_pos h3, if_neg (by omega)]; exact ih
      ·rw [if_neg h3]
       by_cases h6 : xk (xa x n) = 6
       ·rw [if_pos h6, if_pos ⟨.inr h6, hw⟩]
       ·rw [if_neg h6]
        by_cases h5 : xk (xa x n) = 5
        ·rw [if_pos h5, if_pos ⟨.inl h5, hw⟩]
        ·rw [if_neg h5, if_neg (by omega)]; exact ih
   ·rw [if_neg hw, if_neg (fun h : xk (xa x n) = 1 /\ _ => hw h.2), if_neg (fun h : _ /\ xw (xa x n) = w => hw h.2)]; exact ih
theorem ZtY {x : List Ent} {w : Int} : ∀ {n : Nat}, ¬ 0 <= ZA x 1 w n -> Z6 x w n = (false, -1)
 | 0, _ => rfl
 | n + 1, h => by
  rw [ZK] at h
  by_cases h0 : 0 <= ZA x 1 w n
  ·rw [if_pos h0] at h; exact absurd h0 h
  ·rw [if_neg h0] at h
   have ih := ZtY h0
   by_cases h1 : xk (xa x n) = 1 /\ xw (xa x n) = w
   ·rw [if_pos h1] at h; exact absurd (show (0 : Int) <= n by omega) h
   ·rw [Yd, if_neg h1, ih]
    split
    ·rfl
    ·rw [if_neg (fun h => by cases h.2)]
def NF (x : List Ent) (n : Nat) : Prop := ¬ 0 <= (ZaB x n).1 /\ ∀ i < n, ZbX (xa x i) = true
theorem NF.pred {x : List Ent} {n : Nat} (h : NF x (n + 1)) : NF x n /\ ZhT x n = false /\ ZhC x n = false /\ ZbX (xa x n) = true := by
 obtain ⟨h1, h2⟩ := h
 rw [Zbc] at h1
 split at h1
 ·rename_i q; exact absurd q h1
 ·rename_i q
  split at h1
  ·exact absurd (show (0 : Int) <= n by omega) h1
  ·rename_i a
   split at h1
   ·exact absurd (show (0 : Int) <= n by omega) h1
   ·rename_i b
    exact ⟨⟨q, fun i hi => h2 i (by omega)⟩, by simpa using a, by simpa using b, h2 n (by omega)⟩
theorem NF.le {x : List Ent} {n : Nat} (h : NF x n) : ∀ {m : Nat}, m <= n -> NF x m := by
 induction n with
 | zero => intro m hm; rw [show m = 0 by omega]; exact h
 | succ n ih =>
  intro m hm
  rcases ZGB m (n + 1) with q | q
  ·exact ih h.pred.1 (by omega)
  ·rw [show m = n + 1 by omega]; exact h
theorem Zgn {x : List Ent} {w : Int} (hw : 0 < w) : ∀ {n : Nat}, NF x n -> ¬ 0 <= ZA x 1 w n -> ZA x 5 w n = -1 /\ (∀ k, Ye x w k n = -1) /\ ∀ i < n, xw (xa x i) = w -> xk (xa x i) ≠ 2
 | 0, _, _ => ⟨rfl, fun _ => rfl, fun i hi => absurd hi (Nat.not_lt_zero i)⟩
 | n + 1, h, hb => by
  obtain ⟨hn, ho, _, _⟩ := h.pred
  rw [ZK] at hb
  by_cases h0 : 0 <= ZA x 1 w n
  ·rw [if_pos h0] at hb; exact absurd h0 hb
  ·rw [if_neg h0] at hb
   have h1 : ¬ (xk (xa x n) = 1 /\ xw (xa x n) = w) := fun q => by rw [if_pos q] at hb; exact hb (by omega)
   obtain ⟨i1, i2, i3⟩ := Zgn hw hn h0
   have hop := ZtY h0
   rw [ZcN] at ho
   have key : xw (xa x n) = w -> xk (xa x n) ≠ 2 /\ ¬ (xk (xa x n) = 3 \/ xk (xa x n) = 4) /\ xk (xa x n) ≠ 5 := fun hx => by
    rw [hx, hop] at ho
    refine ⟨fun h2 => ?_, fun h3 => ?_, fun h5 => ?_⟩
    ·rw [if_neg (by omega), if_pos h2] at ho; simp at ho; omega
    ·rw [if_neg (by omega), if_neg (by omega), if_pos (by omega)] at ho; simp at ho
    ·rw [if_neg (by omega), if_neg (by omega), if_neg (by omega), if_pos h5] at ho
     have : Zen x (-1) n = false := by rw [Zgr]; rfl
     simp [this] at ho
   refine ⟨?_, fun k => ?_, fun i hi hx => ?_⟩
   ·rw [ZK, if_neg (by rw [i1]; omega), if_neg (fun q => (key q.2).2.2 q.1)]
   ·rw [Zbz, if_neg (fun q => (key q.2.1).2.1 q.1)]; exact i2 k
   ·rcases ZGB i n with q | q
    ·exact i3 i q hx
    ·rw [show i = n by omega] at hx ⊢
     exact (key hx).1
theorem Zfx {x : List Ent} {w : Int} (hw : 0 < w) : ∀ {n : Nat}, NF x n -> (txN x w n).com = ZA x 5 w n
 | 0, _ => rfl
 | n + 1, h => by
  obtain ⟨hn, ho, _, _⟩ := h.pred
  have ih := Zfx hw hn
  rw [Zbd, ZK]
  unfold ZgH
  rw [ZcN] at ho
  by_cases hx : xw (xa x n) = w
  ·by_cases h7 : xk (xa x n) = 7
   ·rw [if_pos h7, if_neg (by omega : ¬ (xk (xa x n) = 5 /\ _))]
    show (txN x w n).com = _
    rw [ih]; split
    ·rfl
    ·have := (Zbu x 5 w n).1; omega
   ·rw [if_neg h7, if_pos hx]
    by_cases h1 : xk (xa x n) = 1
    ·rw [if_pos h1] at ho ⊢
     rw [hx] at ho
     have hb : ¬ 0 <= ZA x 1 w n := by simpa using ho
     rw [(Zgn hw hn hb).1, if_neg (by omega), if_neg (by omega)]
    ·rw [if_neg h1]
     by_cases h5 : xk (xa x n) = 5
     ·rw [if_neg (by omega), if_neg (by omega), if_neg (by omega), if_pos h5]
      rw [if_neg h1, if_neg (by omega), if_neg (by omega), if_pos h5, hx] at ho
      have hb : ¬ 0 <= ZA x 5 w n := fun q => by simp [q] at ho
      rw [if_neg hb, if_pos ⟨h5, hx⟩]
     ·have e : (if 0 <= ZA x 5 w n then ZA x 5 w n else if xk (xa x n) = 5 /\ xw (xa x n) = w then (n : Int) else -1) = ZA x 5 w n := by
       split
       ·rfl
       ·rw [if_neg (fun q => h5 q.1)]; have := (Zbu x 5 w n).1; omega
      rw [e]
      repeat' split
      all_goals first | exact ih | (rw [(Zem _ _ _).2.1]; exact ih) | omega
  ·have e : (if 0 <= ZA x 5 w n then ZA x 5 w n else if xk (xa x n) = 5 /\ xw (xa x n) = w then (n : Int) else -1) = ZA x 5 w n := by
    split
    ·rfl
    ·rw [if_neg (fun q => hx q.2)]; have := (Zbu x 5 w n).1; omega
   rw [e]
   by_cases h7 : xk (xa x n) = 7
   ·rw [if_pos h7]; exact ih
   ·rw [if_neg h7, if_neg hx]; exact ih
def chIs (x : List Ent) (w : Int) (m : List (Int × Int)) (n : Nat) : Prop :=
 ∀ k : List UInt8, Zt m (Zq k : Nat) = decide (0 <= Ye x w k n) /\ (0 <= Ye x w k n -> vw (Yr 0 m (Zq k : Nat)) = (ZaU (xa x (Ye x w k n).toNat), decide (xk (xa x (Ye x w k n).toNat) = 3)))
theorem encB_inj' {a b : List UInt8} (h : ((Zq a : Nat) : Int) = (Zq b : Nat)) : a = b := by
 have : Zq a = Zq b := by omega
 rw [<- Zn a, this, Zn]
theorem Zr4 {x : List Ent} {w : Int} (hw : 0 < w) : ∀ {n : Nat}, NF x n -> chIs x w (txN x w n).ch n
 | 0, _ => fun k => ⟨rfl, fun h => absurd h (by show ¬ (0 : Int) <= -1; omega)⟩
 | n + 1, h => by
  obtain ⟨hn, ho, _, _⟩ := h.pred
  have ih := Zr4 hw hn
  have same : ∀ {m : List (Int × Int)}, m = (txN x w n).ch -> ¬ ((xk (xa x n) = 3 \/ xk (xa x n) = 4) /\ xw (xa x n) = w) -> chIs x w m (n + 1) := fun hm hno k => by
   rw [hm, Zbz, if_neg (fun q => hno ⟨q.1, q.2.1⟩)]; exact ih k
  rw [Zbd]
  unfold ZgH
  by_cases h7 : xk (xa x n) = 7
  ·rw [if_pos h7]; exact same rfl (by omega)
  ·rw [if_neg h7]
   by_cases hx : xw (xa x n) = w
   ·rw [if_pos hx]
    by_cases h1 : xk (xa x n) = 1
    ·rw [if_pos h1]
     rw [ZcN, if_pos h1, hx] at ho
     have hb : ¬ 0 <= ZA x 1 w n := by simpa using ho
     intro k
     rw [Zbz, if_neg (by omega), (Zgn hw hn hb).2.1 k]
     exact ⟨rfl, fun h => absurd h (by omega)⟩
    ·rw [if_neg h1]
     by_cases h2 : xk (xa x n) = 2
     ·rw [if_pos h2]; exact same (Zem _ _ _).2.2.1 (by omega)
     ·rw [if_neg h2]
      by_cases h3 : xk (xa x n) = 3 \/ xk (xa x n) = 4
      ·rw [if_pos h3]
       intro k
       show Zt (Ym (txN x w n).ch (kc (xa x n)) _) _ = _ /\ (_ -> vw (Yr 0 (Ym (txN x w n).ch (kc (xa x n)) _) _) = _)
       rw [Zbz, ZnT, ZoF]
       by_cases hk : ZJ (xa x n) = k
       ·rw [if_pos ⟨h3, hx, hk⟩, if_pos (show kc (xa x n) = (Zq k : Nat) by unfold kc; rw [hk]), ZEk, ZGO]
        refine ⟨by simp [show kc (xa x n) = (Zq k : Nat) by unfold kc; rw [hk]], fun _ => ?_⟩
        rcases h3 with h | h <;> rw [h] <;> rfl
       ·have hne : ¬ kc (xa x n) = (Zq k : Nat) := fun q => hk (encB_inj' q)
        rw [if_neg (fun q => hk q.2.2), if_neg hne]
        simp only [hne, decide_false, Bool.false_or]
        exact ih k
      ·rw [if_neg h3]
       split
       ·exact same rfl (fun q => h3 q.1)
       ·split
        ·exact same rfl (fun q => h3 q.1)
        ·exact same rfl (fun q => h3 q.1)
   ·rw [if_neg hx]; exact same rfl (fun q => hx q.2)
theorem ZlX {r : Ent} (h : ZbX r = true) (hk : xk r = 2 \/ xk r = 4) (hn : Zcu r = false) : ZaU r = [] := by
 unfold ZbX at h
 rcases hk with hk | hk
 ·simp [hk, hn] at h; exact h.1.2
 ·simp [hk, hn] at h; exact h.1.2
theorem Zpk (x : List Ent) (w : Int) (k : List UInt8) : ∀ n : Nat, Ye x w k n < n /\ -1 <= Ye x w k n /\ (0 <= Ye x w k n -> xk (xa x (Ye x w k n).toNat) = 3 \/ xk (xa x (Ye x w k n).toNat) = 4)
 | 0 => ⟨by show (-1 : Int) < 0; omega, ZGS _, fun h => absurd h (by show ¬ (0 : Int) <= -1; omega)⟩
 | n + 1 => by
  have ih := Zpk x w k n
  rw [Zbz]
  split
  ·rename_i q
   exact ⟨by omega, by omega, fun _ => by rw [ZGO]; exact q.1⟩
  ·exact ⟨by omega, ih.2.1, ih.2.2⟩
theorem ZmV {r : Ent} (h : ZbX r = true) (hk : xk r = 4) : ZaU r = [] := by
 unfold ZbX at h
 simp [hk] at h
 exact h.1.1.2
def ZAg (x : List Ent) (n : Nat) : Bool := (Zcu (xa x n) == decide (xk (xa x (Ye x (xw (xa x n)) (ZJ (xa x n)) n).toNat) = 3)) && (ZaU (xa x n) == ZaU (xa x (Ye x (xw (xa x n)) (ZJ (xa x n)) n).toNat))
theorem ZxB {x : List Ent} {n : Nat} {m : List (Int × Int)} (hm : ∀ i ≤ n, ZbX (xa x i) = true) (hk : xk (xa x n) = 2) (hc : chIs x (xw (xa x n)) m n) (hl : 0 <= Ye x (xw (xa x n)) (ZJ (xa x n)) n) : ZR m (xa x n) = ZAg x n := by
 obtain ⟨c1, c2⟩ := hc (ZJ (xa x n))
 have c2 := c2 hl
 have a := congrArg Prod.fst c2
 have b := congrArg Prod.snd c2
 have a : Za6 ((Yr 0 m (kc (xa x n))).tdiv 2).toNat = ZaU (xa x (Ye x (xw (xa x n)) (ZJ (xa x n)) n).toNat) := a
 have b : decide ((Yr 0 m (kc (xa x n))).tmod 2 = 0) = decide (xk (xa x (Ye x (xw (xa x n)) (ZJ (xa x n)) n).toNat) = 3) := b
 have c1 : Zt m (kc (xa x n)) = true := by show Zt m (Zq (ZJ (xa x n)) : Nat) = true; rw [c1]; simp [hl]
 obtain ⟨l1, _, l3⟩ := Zpk x (xw (xa x n)) (ZJ (xa x n)) n
 have l3 := l3 hl
 have hmj := hm (Ye x (xw (xa x n)) (ZJ (xa x n)) n).toNat (by omega)
 unfold ZR ZAg
 rw [c1, a, b]
 generalize (Ye x (xw (xa x n)) (ZJ (xa x n)) n).toNat = j at *
 cases hh : Zcu (xa x n)
 ·rcases l3 with h | h
  ·rw [h]; simp
  ·rw [h, ZlX (hm n (ZGx n)) (.inl hk) hh, ZmV hmj h]; simp
 ·simp
theorem Zyl {i n : Nat} (hi : i < n + 1) (h : i ≠ n) : i < n := by omega
theorem ZdE {x : List Ent} {w : Int} (hw : 0 < w) : ∀ {n : Nat}, NF x n →
  (∀ r, r ∈ (txN x w n).rds ↔ ∃ i < n, xk (xa x i) = 2 /\ xw (xa x i) = w /\ Ye x w (ZJ (xa x i)) i < 0 /\ r = (i : Int) :: nr (xa x i)) ∧
  (∀ b, b ∈ (txN x w n).bad ↔ ∃ i < n, xk (xa x i) = 2 /\ xw (xa x i) = w /\ 0 <= Ye x w (ZJ (xa x i)) i /\ ZAg x i = false /\ b = (i : Int))
 | 0, _ => ⟨fun r => ⟨fun h => (nomatch h), fun ⟨i, hi, _⟩ => absurd hi (Nat.not_lt_zero i)⟩, fun r => ⟨fun h => (nomatch h), fun ⟨i, hi, _⟩ => absurd hi (Nat.not_lt_zero i)⟩⟩
 | n + 1, h => by
  obtain ⟨hn, ho, _, hmn⟩ := h.pred
  obtain ⟨ih1, ih2⟩ := ZdE hw hn
  have same : ∀ {t : Tx}, t.rds = (txN x w n).rds -> t.bad = (txN x w n).bad -> ¬ (xk (xa x n) = 2 /\ xw (xa x n) = w) →
    (∀ r, r ∈ t.rds ↔ ∃ i < n + 1, xk (xa x i) = 2 /\ xw (xa x i) = w /\ Ye x w (ZJ (xa x i)) i < 0 /\ r = (i : Int) :: nr (xa x i)) ∧
    (∀ b, b ∈ t.bad ↔ ∃ i < n + 1, xk (xa x i) = 2 /\ xw (xa x i) = w /\ 0 <= Ye x w (ZJ (xa x i)) i /\ ZAg x i = false /\ b = (i : Int)) := fun e1 e2 hno => by
   rw [e1, e2]
   refine ⟨fun r => (ih1 r).trans ⟨fun ⟨i, hi, q⟩ => ⟨i, by omega, q⟩, fun ⟨i, hi, q⟩ => ⟨i, ?_, q⟩⟩, fun r => (ih2 r).trans ⟨fun ⟨i, hi, q⟩ => ⟨i, by omega, q⟩, fun ⟨i, hi, q⟩ => ⟨i, ?_, q⟩⟩⟩
   all_goals (
    rcases ZGB i n with p | p
    ·exact p
    ·exfalso; rw [show i = n by omega] at q; exact hno ⟨q.1, q.2.1⟩)
  rw [Zbd]
  unfold ZgH
  by_cases h7 : xk (xa x n) = 7
  ·rw [if_pos h7]; exact same rfl rfl (by omega)
  ·rw [if_neg h7]
   by_cases hx : xw (xa x n) = w
   ·rw [if_pos hx]
    by_cases h1 : xk (xa x n) = 1
    ·rw [if_pos h1]
     rw [ZcN, if_pos h1, hx] at ho
     have hb : ¬ 0 <= ZA x 1 w n := by simpa using ho
     have no := (Zgn hw hn hb).2.2
     refine ⟨fun r => ⟨fun h => (nomatch h), fun ⟨i, hi, q⟩ => ?_⟩, fun r => ⟨fun h => (nomatch h), fun ⟨i, hi, q⟩ => ?_⟩⟩
     all_goals (
      rcases ZGB i n with p | p
      ·exact absurd q.1 (no i p q.2.1)
      ·rw [show i = n by omega] at q; omega)
    ·rw [if_neg h1]
     by_cases h2 : xk (xa x n) = 2
     ·rw [if_pos h2]
      have hc := Zr4 hw hn
      have hch := (hc (ZJ (xa x n))).1
      have hm := h.2
      unfold rdT
      by_cases hl : 0 <= Ye x w (ZJ (xa x n)) n
      ·have hin : Zt (txN x w n).ch (kc (xa x n)) = true := by unfold kc; rw [hch]; simp [hl]
       rw [if_pos hin]
       have hs := ZxB (m := (txN x w n).ch) (fun i hi => hm i (by omega)) h2 (by rw [hx]; exact hc) (by rw [hx]; exact hl)
       rw [hs]
       have r1 : ∀ r, r ∈ (txN x w n).rds ↔ ∃ i < n + 1, xk (xa x i) = 2 /\ xw (xa x i) = w /\ Ye x w (ZJ (xa x i)) i < 0 /\ r = (i : Int) :: nr (xa x i) := fun r =>
        (ih1 r).trans ⟨fun ⟨i, hi, q⟩ => ⟨i, by omega, q⟩, fun ⟨i, hi, q⟩ => ⟨i, Zyl hi (fun e => by rw [e] at q; omega), q⟩⟩
       by_cases ht : ZAg x n = true
       ·rw [if_pos ht]
        exact ⟨r1, fun r => (ih2 r).trans ⟨fun ⟨i, hi, q⟩ => ⟨i, by omega, q⟩, fun ⟨i, hi, q⟩ => ⟨i, Zyl hi (fun e => by rw [e, ht] at q; exact absurd q.2.2.2.1 (by simp)), q⟩⟩⟩
       ·rw [if_neg ht]
        refine ⟨r1, fun r => ?_⟩
        show r ∈ (txN x w n).bad ++ [(n : Int)] ↔ _
        rw [ZG2, ih2 r, ZGA]
        constructor
        ·rintro (⟨i, hi, q⟩ | rfl)
         ·exact ⟨i, by omega, q⟩
         ·exact ⟨n, by omega, h2, hx, hl, by simpa using ht, rfl⟩
        ·rintro ⟨i, hi, q⟩
         rcases ZGB i n with p | p
         ·exact .inl ⟨i, p, q⟩
         ·right; rw [q.2.2.2.2, show i = n by omega]
      ·have hin : ¬ Zt (txN x w n).ch (kc (xa x n)) = true := by unfold kc; rw [hch]; simp [hl]
       rw [if_neg hin]
       refine ⟨fun r => ?_, fun r => (ih2 r).trans ⟨fun ⟨i, hi, q⟩ => ⟨i, by omega, q⟩, fun ⟨i, hi, q⟩ => ⟨i, Zyl hi (fun e => by rw [e] at q; exact hl q.2.2.1), q⟩⟩⟩
       show r ∈ (txN x w n).rds ++ [(n : Int) :: nr (xa x n)] ↔ _
       rw [ZG2, ih1 r, ZGA]
       constructor
       ·rintro (⟨i, hi, q⟩ | rfl)
        ·exact ⟨i, by omega, q⟩
        ·exact ⟨n, by omega, h2, hx, by omega, rfl⟩
       ·rintro ⟨i, hi, q⟩
        rcases ZGB i n with p | p
        ·exact .inl ⟨i, p, q⟩
        ·right; rw [q.2.2.2, show i = n by omega]
     ·rw [if_neg h2]
      repeat' split
      all_goals exact same rfl rfl (fun q => h2 q.1)
   ·rw [if_neg hx]; exact same rfl rfl (fun q => hx q.2)
structure RI (x : List Ent) (n : Nat) (B : Bk) : Prop where
 ft : B.fault = -1
 wt : B.what = 0
 tx : ∀ j < B.txs.length, B.txs.getD j tx0 = txN x (B.txs.getD j tx0).who n
 pos : ∀ j < B.txs.length, 0 < (B.txs.getD j tx0).who
 beg : ∀ w, ixL w B.txs < B.txs.length ↔ 0 <= ZA x 1 w n
 fal : ∀ j < B.txs.length, (j ∈ B.fal ↔ Zen x (Z6 x (B.txs.getD j tx0).who n).2 n = true)
 kep : B.kept.map (fun k => (B.txs.getD k tx0).who) = Zv x n
 len : ZjX x n = B.kept.length
 com : ∀ k < B.kept.length, 0 <= ZA x 5 ((Zv x n).getD k 0) n /\ (Zv x (ZA x 5 ((Zv x n).getD k 0) n).toNat).length = k
 out : ∀ r, r ∈ B.out ↔ ∃ i < n, xk (xa x i) = 2 /\ xw (xa x i) = 0 /\ r = (i : Int) :: nr (xa x i)
structure Adv (x : List Ent) (n : Nat) (L L' : List Tx) : Prop where
 len : L'.length = L.length
 get : ∀ j < L.length, L'.getD j tx0 = ZgH (L.getD j tx0).who (L.getD j tx0) n (xa x n)
theorem Zx4 (w : Int) (s : Tx) (h : s.who = w) (i : Int) (r : Ent) : (ZgH w s i r).who = w := by
 unfold ZgH
 repeat' split
 all_goals first | exact h | rfl | (rw [(Zem _ _ _).2.2.2.1]; exact h)
theorem Adv.who {x : List Ent} {n : Nat} {L L' : List Tx} (h : Adv x n L L') {j : Nat} (hj : j < L.length) : (L'.getD j tx0).who = (L.getD j tx0).who := by
 rw [h.get j hj]; exact Zx4 _ _ rfl _ _
theorem Yl {L : List Tx} {j : Nat} (hj : j < L.length) : L.getD j tx0 = L[j] := by rw [ZGH, ZGK hj, ZGC]
theorem Adv.map {x : List Ent} {n : Nat} {L L' : List Tx} (h : Adv x n L L') : L'.map (·.who) = L.map (·.who) := by
 apply List.ext_getElem
 ·simp [h.len]
 ·intro j h1 h2
  rw [ZGR] at h1 h2
  rw [List.getElem_map, List.getElem_map, <- Yl h1, <- Yl h2]
  exact h.who h2
theorem ZtE {w : Int} : ∀ {L L' : List Tx}, L'.map (·.who) = L.map (·.who) -> ixL w L' = ixL w L
 | [], [], _ => rfl
 | t :: L, s :: L', h => by
  rw [ZGQ, ZGQ, List.cons.injEq] at h
  unfold ixL
  rw [h.1, ZtE h.2]
 | [], _ :: _, h => by simp at h
 | _ :: _, [], h => by simp at h
theorem ZaF {x : List Ent} {k w : Int} {n : Nat} (h : ¬ (xk (xa x n) = k /\ xw (xa x n) = w)) : ZA x k w (n + 1) = ZA x k w n := by
 rw [ZK, if_neg h]
 split
 ·rfl
 ·have := (Zbu x k w n).1; omega
theorem Zkh {x : List Ent} {n : Nat} (h : ¬ xk (xa x n) = 5) : ZjX x (n + 1) = ZjX x n /\ Zv x (n + 1) = Zv x n := ⟨by show (if _ then _ else _) = _; rw [if_neg h], by rw [Yi, if_neg h]⟩
theorem Zip {x : List Ent} {k w : Int} {n : Nat} (h : 0 <= ZA x k w n) : ZA x k w (n + 1) = ZA x k w n := by rw [ZK, if_pos h]
theorem RI.adv {x : List Ent} {n : Nat} {B B' : Bk} (h : RI x n B) (hf : B'.fault = -1) (hw : B'.what = 0) (ha : Adv x n B.txs B'.txs) (hk : ¬ xk (xa x n) = 1) (hk5 : ¬ xk (xa x n) = 5) (hkept : B'.kept = B.kept)
  (hfal : ∀ j < B.txs.length, (j ∈ B'.fal ↔ Zen x (Z6 x (B.txs.getD j tx0).who (n + 1)).2 (n + 1) = true))
  (hout : ∀ r, r ∈ B'.out ↔ ∃ i < n + 1, xk (xa x i) = 2 /\ xw (xa x i) = 0 /\ r = (i : Int) :: nr (xa x i)) (hki : ∀ k ∈ B.kept, k < B.txs.length) : RI x (n + 1) B' := by
 have hwho := fun {j : Nat} (hj : j < B.txs.length) => ha.who hj
 obtain ⟨l1, l2⟩ := Zkh hk5
 refine ⟨hf, hw, fun j hj => ?_, fun j hj => ?_, fun w => ?_, fun j hj => ?_, ?_, ?_, fun k hk => ?_, hout⟩
 ·rw [ha.len] at hj
  rw [hwho hj, Zbd, <- h.tx j hj]; exact ha.get j hj
 ·rw [ha.len] at hj
  rw [hwho hj]; exact h.pos j hj
 ·rw [ZtE ha.map, ha.len, ZaF (fun q => hk q.1)]; exact h.beg w
 ·rw [ha.len] at hj
  rw [hwho hj]; exact hfal j hj
 ·rw [hkept, l2, <- h.kep]
  apply List.map_congr_left
  intro k hk
  exact hwho (hki k hk)
 ·rw [hkept, l1]; exact h.len
 ·rw [hkept] at hk
  obtain ⟨c1, c2⟩ := h.com k hk
  rw [l2, Zip c1]; exact ⟨c1, c2⟩
theorem ZoE {x : List Ent} {f : Int} {n : Nat} (hf : f < n) (hk : xk (xa x n) = 1 \/ xk (xa x n) = 2 \/ xk (xa x n) = 7) : ¬ Zen x f (n + 1 : Nat) = true := by
 unfold Zen
 rw [Zh]
 rintro ⟨_, h⟩
 obtain ⟨a, b, c⟩ := h n hf (by omega)
 omega
theorem ZxE {x : List Ent} {f : Int} {n : Nat} (hk : xk (xa x n) ≠ 1 /\ xk (xa x n) ≠ 2 /\ xk (xa x n) ≠ 7) : Zen x f (n + 1 : Nat) = true ↔ Zen x f n = true := by
 unfold Zen
 rw [Zh, Zh]
 constructor
 ·rintro ⟨a, b⟩
  exact ⟨a, fun i h1 h2 => b i h1 (by omega)⟩
 ·rintro ⟨a, b⟩
  refine ⟨a, fun i h1 h2 => ?_⟩
  rcases ZGB i n with p | p
  ·exact b i h1 (by omega)
  ·rw [show i = n by omega]; exact hk
theorem ZhP {x : List Ent} {w : Int} {n : Nat} (hk : ¬ xk (xa x n) = 7) : (Z6 x w (n + 1)).2 = (Z6 x w n).2 := by
 rw [Yd]
 split
 ·rfl
 ·split
  ·rfl
  ·rw [if_neg (fun q => hk q.1)]
theorem Zic {x : List Ent} {n : Nat} {L : List Tx} (hn : (L.map (·.who)).Nodup) (hk : ¬ xk (xa x n) = 7) {j : Nat} (hj : ixL (xw (xa x n)) L = j) (hjl : j < L.length) {t : Tx} (ht : t = ZgH (xw (xa x n)) (L.getD j tx0) n (xa x n)) : Adv x n L (L.set j t) := by
 refine ⟨List.length_set, fun i hi => ?_⟩
 have hwj : (L.getD j tx0).who = xw (xa x n) := by rw [<- hj] at hjl ⊢; exact ZaE hjl
 by_cases hij : j = i
 ·subst hij
  rw [ZGH, List.getElem?_set_self hjl, ZGC, hwj]; exact ht
 ·rw [ZGH, List.getElem?_set_ne hij, <- ZGH]
  unfold ZgH
  rw [if_neg hk, if_neg (fun q => hij (by rw [<- hj, q]; exact ZdU hn hi))]
theorem Zxx {x : List Ent} {n : Nat} {L : List Tx} (hk : ¬ xk (xa x n) = 7) (hx : ∀ j < L.length, (L.getD j tx0).who ≠ xw (xa x n)) : Adv x n L L := by
 refine ⟨rfl, fun i hi => ?_⟩
 unfold ZgH
 rw [if_neg hk, if_neg (fun q => hx i hi q.symm)]
theorem ZAS {x : List Ent} {n : Nat} {L : List Tx} (hk : xk (xa x n) = 7) : Adv x n L (L.map fun t => { t with opn := false }) := by
 refine ⟨ZGR _, fun i hi => ?_⟩
 unfold ZgH
 rw [if_pos hk]
 have := Yl (L := L.map fun t => { t with opn := false }) (j := i) (by rw [ZGR]; exact hi)
 rw [this, List.getElem_map, Yl hi]
theorem Zrq {x : List Ent} {n : Nat} {B : Bk} (h : RI x n B) (hk : ¬ (xk (xa x n) = 2 /\ xw (xa x n) = 0)) : ∀ r, r ∈ B.out ↔ ∃ i < n + 1, xk (xa x i) = 2 /\ xw (xa x i) = 0 /\ r = (i : Int) :: nr (xa x i) := fun r =>
 (h.out r).trans ⟨fun ⟨i, hi, q⟩ => ⟨i, by omega, q⟩, fun ⟨i, hi, q⟩ => ⟨i, Zyl hi (fun e => by rw [e] at q; exact hk ⟨q.1, q.2.1⟩), q⟩⟩
theorem ZxC {L : List Tx} {k : Nat} : k ∈ ZkY L 0 ↔ k < L.length /\ (L.getD k tx0).opn = true := by
 rw [<- Zdl, Yz]
 simp [Zt]
set_option maxHeartbeats 1000000 in
theorem ZCY {x : List Ent} {n : Nat} {B : Bk} (h : RI x n B) (hwf : WfB B n) (hn : NF x n) (hm : ZbX (xa x n) = true) :
  (ZhT x n = true -> Y6 B n (xa x n) = B.flt n 1) /\ (ZhT x n = false -> ZhC x n = true -> Y6 B n (xa x n) = B.flt n 2) /\ (ZhT x n = false -> ZhC x n = false -> RI x (n + 1) (Y6 B n (xa x n))) := by
 generalize hj : ixL (xw (xa x n)) B.txs = j
 have hb := h.beg (xw (xa x n))
 rw [hj] at hb
 have hwho : j < B.txs.length -> (B.txs.getD j tx0).who = xw (xa x n) := fun hl => by rw [<- hj] at hl ⊢; exact ZaE hl
 have hop : j < B.txs.length -> (B.txs.getD j tx0).opn = (Z6 x (xw (xa x n)) n).1 := fun hl => by rw [h.tx j hl, Zr6, hwho hl]
 have hno : ¬ j < B.txs.length -> Z6 x (xw (xa x n)) n = (false, -1) := fun hl => ZtY (fun q => hl (hb.2 q))
 have hnone : ¬ j < B.txs.length -> ∀ i < B.txs.length, (B.txs.getD i tx0).who ≠ xw (xa x n) := fun hl i hi e => by
  have := ZdU hwf.nd hi
  rw [e, hj] at this; exact hl (by omega)
 have hstay : xk (xa x n) ≠ 1 -> xk (xa x n) ≠ 2 -> xk (xa x n) ≠ 7 -> ∀ i < B.txs.length, (i ∈ B.fal ↔ Zen x (Z6 x (B.txs.getD i tx0).who (n + 1)).2 ((n + 1 : Nat) : Int) = true) := fun a b c i hi => by
  rw [ZhP c, ZxE ⟨a, b, c⟩]; exact h.fal i hi
 have hot := Zrq h
 have hout := ZcN x n
 have hkinds : xk (xa x n) = 1 \/ xk (xa x n) = 2 \/ xk (xa x n) = 3 \/ xk (xa x n) = 4 \/ xk (xa x n) = 5 \/ xk (xa x n) = 6 \/ xk (xa x n) = 7 := by
  refine Classical.byContradiction fun q => ?_
  have hm := hm
  unfold ZbX at hm
  dsimp only at hm
  rw [if_neg (by omega), if_neg (by omega), if_neg (by omega), if_neg (by omega), if_neg (by omega), if_neg (by omega)] at hm
  cases hm
 have wro5 : ¬ xk (xa x n) = 5 -> ZhC x n = false := fun hk => by unfold ZhC; simp [hk]
 by_cases k1 : xk (xa x n) = 1
 ·rw [if_pos k1] at hout
  rw [hout, wro5 (by omega)]
  refine ⟨fun q => st1a hj k1 (hb.2 (by simpa using q)), fun _ q => (nomatch q), fun q _ => ?_⟩
  have hb0 : ¬ 0 <= ZA x 1 (xw (xa x n)) n := by simpa using q
  have hjl : ¬ j < B.txs.length := fun hl => hb0 (hb.1 hl)
  have hwp : 0 < xw (xa x n) := by
   have hm := hm; unfold ZbX at hm; simp [k1] at hm; exact hm.1.1.1.1
  have hjle : j = B.txs.length := by have := Zzc (xw (xa x n)) B.txs; omega
  rw [st1b hj k1 hjl]
  obtain ⟨l1, l2⟩ := Zkh (x := x) (n := n) (by omega)
  have gold : ∀ i < B.txs.length, (B.txs ++ [(⟨xw (xa x n), n, -1, true, [], [], []⟩ : Tx)]).getD i tx0 = B.txs.getD i tx0 := fun i hi => by
   rw [ZGH, ZGZ hi, <- ZGH]
  have gnew : (B.txs ++ [(⟨xw (xa x n), n, -1, true, [], [], []⟩ : Tx)]).getD B.txs.length tx0 = ⟨xw (xa x n), n, -1, true, [], [], []⟩ := by
   rw [ZGH, ZG0 (ZGx _), Nat.sub_self]; rfl
  refine ⟨h.ft, h.wt, fun i hi => ?_, fun i hi => ?_, fun w => ?_, fun i hi => ?_, ?_, ?_, fun k hk => ?_, hot (by omega)⟩
  ·rw [ZGM, ZGv] at hi
   rcases ZGB i B.txs.length with p | p
   ·rw [gold i p, Zbd, <- h.tx i p]
    unfold ZgH
    rw [if_neg (by omega), if_neg (fun e => hnone hjl i p e.symm)]
   ·rw [show i = B.txs.length by omega, gnew, Zbd]
    unfold ZgH
    rw [if_neg (by omega), if_pos rfl, if_pos k1]
  ·rw [ZGM, ZGv] at hi
   rcases ZGB i B.txs.length with p | p
   ·rw [gold i p]; exact h.pos i p
   ·rw [show i = B.txs.length by omega, gnew]; exact hwp
  ·rw [ZGM, ZGv]
   have app : ∀ (L : List Tx) (t : Tx), ixL w (L ++ [t]) = if ixL w L < L.length then ixL w L else if t.who = w then L.length else L.length + 1 := by
    intro L t
    induction L with
    | nil =>
     show (bif t.who == w then 0 else 0 + 1) = _
     by_cases e : t.who = w
     ·simp [e, ixL]
     ·rw [show (t.who == w) = false from beq_eq_false_iff_ne.2 e, if_neg e]; rfl
    | cons s L ih =>
     show (bif s.who == w then 0 else ixL w (L ++ [t]) + 1) = if (bif s.who == w then 0 else ixL w L + 1) < L.length + 1 then (bif s.who == w then 0 else ixL w L + 1) else if t.who = w then L.length + 1 else L.length + 1 + 1
     cases s.who == w
     ·show ixL w (L ++ [t]) + 1 = if ixL w L + 1 < L.length + 1 then ixL w L + 1 else _
      rw [ih]
      repeat' split
      all_goals omega
     ·rfl
   show ixL w (B.txs ++ [_]) < _ ↔ _
   rw [app, ZK]
   have hbw := h.beg w
   by_cases q1 : ixL w B.txs < B.txs.length
   ·rw [if_pos q1, if_pos (hbw.1 q1)]
    exact ⟨fun _ => hbw.1 q1, fun _ => by omega⟩
   ·rw [if_neg q1, if_neg (fun q => q1 (hbw.2 q))]
    by_cases q2 : xw (xa x n) = w
    ·rw [if_pos q2, if_pos ⟨k1, q2⟩]
     exact ⟨fun _ => by omega, fun _ => by omega⟩
    ·rw [if_neg (show ¬ (⟨xw (xa x n), n, -1, true, [], [], []⟩ : Tx).who = w from q2), if_neg (fun q => q2 q.2)]
     exact ⟨fun _ => by omega, fun _ => by omega⟩
  ·rw [ZGM, ZGv] at hi
   have hf : ∀ w, ¬ Zen x (Z6 x w (n + 1)).2 ((n + 1 : Nat) : Int) = true := fun w => ZoE (by rw [ZhP (by omega)]; exact (Zjy x w n).2) (.inl k1)
   exact ⟨fun q => (nomatch q), fun q => absurd q (hf _)⟩
  ·rw [l2, <- h.kep]
   apply List.map_congr_left
   intro k hk
   rw [gold k (hwf.ki k hk)]
  ·rw [l1]; exact h.len
  ·obtain ⟨c1, c2⟩ := h.com k hk
   rw [l2, Zip c1]; exact ⟨c1, c2⟩
 ·by_cases k2 : xk (xa x n) = 2
  ·rw [if_neg k1, if_pos k2] at hout
   rw [hout, wro5 (by omega)]
   by_cases hw0 : xw (xa x n) = 0
   ·rw [hw0]
    refine ⟨fun q => by simp at q, fun _ q => (nomatch q), fun _ _ => ?_⟩
    rw [st2a hj k2 hw0]
    refine h.adv h.ft h.wt (Zxx (by omega) (fun i hi e => by have := h.pos i hi; omega)) k1 (by omega) rfl (fun i hi => ⟨fun q => (nomatch q), fun q => absurd q (ZoE (by rw [ZhP (by omega)]; exact (Zjy x _ n).2) (.inr (.inl k2)))⟩) (fun r => ?_) hwf.ki
    show r ∈ B.out ++ [_] ↔ _
    rw [ZG2, h.out r, ZGA]
    constructor
    ·rintro (⟨i, hi, q⟩ | rfl)
     ·exact ⟨i, by omega, q⟩
     ·exact ⟨n, by omega, k2, hw0, rfl⟩
    ·rintro ⟨i, hi, q⟩
     rcases ZGB i n with p | p
     ·exact .inl ⟨i, p, q⟩
     ·right; rw [q.2.2, show i = n by omega]
   ·have hwp : 0 < xw (xa x n) := by
     have hm := hm; unfold ZbX at hm; simp [k2] at hm; have := hm.1.1.1; omega
    have hd : decide (0 < xw (xa x n)) = true := by simpa using hwp
    rw [hd, Bool.true_and]
    refine ⟨fun q => ?_, fun _ q => (nomatch q), fun q _ => ?_⟩
    ·have q : (Z6 x (xw (xa x n)) n).1 = false := by simpa using q
     exact st2c hj k2 hw0 (fun hl => by rw [hop hl]; exact q)
    ·have q : (Z6 x (xw (xa x n)) n).1 = true := by simpa using q
     have hl : j < B.txs.length := Classical.byContradiction fun hl => by rw [hno hl] at q; cases q
     rw [st2b hj k2 hw0 hl (by rw [hop hl]; exact q)]
     refine h.adv h.ft h.wt (Zic hwf.nd (by omega) hj hl ?_) k1 (by omega) rfl (fun i hi => ⟨fun q => (nomatch q), fun q => absurd q (ZoE (by rw [ZhP (by omega)]; exact (Zjy x _ n).2) (.inr (.inl k2)))⟩) (hot (fun e => hw0 e.2)) hwf.ki
     unfold ZgH
     rw [if_neg (by omega), if_pos rfl, if_neg k1, if_pos k2]
  ·by_cases k3 : xk (xa x n) = 3 \/ xk (xa x n) = 4
   ·rw [if_neg k1, if_neg k2, if_pos (by omega)] at hout
    rw [hout, wro5 (by omega)]
    refine ⟨fun q => ?_, fun _ q => (nomatch q), fun q _ => ?_⟩
    ·have q : (Z6 x (xw (xa x n)) n).1 = false := by simpa using q
     exact ZFP hj k3 (fun hl => by rw [hop hl]; exact q)
    ·have q : (Z6 x (xw (xa x n)) n).1 = true := by simpa using q
     have hl : j < B.txs.length := Classical.byContradiction fun hl => by rw [hno hl] at q; cases q
     rw [st3a hj k3 hl (by rw [hop hl]; exact q)]
     refine h.adv h.ft h.wt (Zic hwf.nd (by omega) hj hl ?_) k1 (by omega) rfl (hstay k1 k2 (by omega)) (hot (by omega)) hwf.ki
     unfold ZgH
     rw [if_neg (by omega), if_pos rfl, if_neg k1, if_neg k2, if_pos k3]
   ·by_cases k6 : xk (xa x n) = 6
    ·rw [if_neg k1, if_neg k2, if_pos (by omega)] at hout
     rw [hout, wro5 (by omega)]
     refine ⟨fun q => ?_, fun _ q => (nomatch q), fun q _ => ?_⟩
     ·have q : (Z6 x (xw (xa x n)) n).1 = false := by simpa using q
      exact st6b hj k6 (fun hl => by rw [hop hl]; exact q)
     ·have q : (Z6 x (xw (xa x n)) n).1 = true := by simpa using q
      have hl : j < B.txs.length := Classical.byContradiction fun hl => by rw [hno hl] at q; cases q
      rw [st6a hj k6 hl (by rw [hop hl]; exact q)]
      refine h.adv h.ft h.wt (Zic hwf.nd (by omega) hj hl ?_) k1 (by omega) rfl (hstay k1 k2 (by omega)) (hot (by omega)) hwf.ki
      unfold ZgH
      rw [if_neg (by omega), if_pos rfl, if_neg k1, if_neg k2, if_neg k3, if_pos k6]
    ·by_cases k7 : xk (xa x n) = 7
     ·rw [if_neg k1, if_neg k2, if_neg (by omega), if_neg (by omega)] at hout
      rw [hout, wro5 (by omega)]
      refine ⟨fun q => (nomatch q), fun _ q => (nomatch q), fun _ _ => ?_⟩
      rw [st7 hj k7]
      refine h.adv h.ft h.wt (ZAS k7) k1 (by omega) rfl (fun i hi => ?_) (hot (by omega)) hwf.ki
      show i ∈ ZkY B.txs 0 ↔ _
      rw [ZxC]
      have ho : (B.txs.getD i tx0).opn = (Z6 x (B.txs.getD i tx0).who n).1 := by rw [h.tx i hi, Zr6, Zzf]
      rw [ho, Yd, if_neg (by omega), if_neg (by omega)]
      by_cases q : (Z6 x (B.txs.getD i tx0).who n).1 = true
      ·rw [if_pos ⟨k7, q⟩]
       refine ⟨fun _ => ?_, fun _ => ⟨hi, q⟩⟩
       unfold Zen
       rw [Zh]
       exact ⟨by show (0 : Int) <= n; omega, fun a h1 h2 => by have h1 : (n : Int) < a := h1; omega⟩
      ·rw [if_neg (fun e => q e.2)]
       exact ⟨fun e => absurd e.2 q, fun e => absurd e (ZoE (Zjy x _ n).2 (.inr (.inr k7)))⟩
     ·have k5 : xk (xa x n) = 5 := by omega
      rw [if_neg k1, if_neg k2, if_neg (by omega), if_pos k5] at hout
      have hwp : 0 < xw (xa x n) := by
       have hm := hm; unfold ZbX at hm; simp [k5] at hm; exact hm.1.1.1.1.1
      have hcom : j < B.txs.length -> (B.txs.getD j tx0).com = ZA x 5 (xw (xa x n)) n := fun hl => by rw [h.tx j hl, hwho hl, Zfx hwp hn]
      have hfal : j < B.txs.length -> (j ∈ B.fal ↔ Zen x (Z6 x (xw (xa x n)) n).2 n = true) := fun hl => by have := h.fal j hl; rw [hwho hl] at this; exact this
      have hwro : ZhC x n = !decide (xt (xa x n) = B.kept.length + 1) := by unfold ZhC; rw [h.len]; simp [k5]
      have good : ZhT x n = false -> j < B.txs.length /\ ((j < B.txs.length /\ (B.txs.getD j tx0).opn = true) \/ j ∈ B.fal) /\ (B.txs.getD j tx0).com < 0 := fun q => by
       rw [hout, Bool.or_eq_false_iff] at q
       obtain ⟨q1, q2⟩ := q
       have q2 : ¬ 0 <= ZA x 5 (xw (xa x n)) n := by simpa using q2
       have hl : j < B.txs.length := Classical.byContradiction fun hl => by
        rw [hno hl] at q1
        have : Zen x (-1) n = false := by rw [Zgr]; rfl
        simp [this] at q1
       refine ⟨hl, ?_, by rw [hcom hl]; omega⟩
       rw [hop hl, hfal hl]
       cases ho : (Z6 x (xw (xa x n)) n).1
       ·right
        rw [ho] at q1; simpa using q1
       ·exact .inl ⟨hl, rfl⟩
      refine ⟨fun q => ?_, fun q r => ?_, fun q r => ?_⟩
      ·refine ZDT hj k5 ?_
       rw [hout, Bool.or_eq_true] at q
       rcases q with q | q
       ·left
        simp only [Bool.and_eq_true, ZGG] at q
        refine ⟨fun hl => by rw [hop hl]; exact q.1, fun hm => ?_⟩
        have hl := hwf.fi j hm
        rw [(hfal hl).1 hm] at q; cases q.2
       ·have q : 0 <= ZA x 5 (xw (xa x n)) n := by simpa using q
        by_cases hl : j < B.txs.length
        ·right; rw [hcom hl]; exact q
        ·left
         exact ⟨fun e => absurd e hl, fun hm => hl (hwf.fi j hm)⟩
      ·obtain ⟨_, g2, g3⟩ := good q
       rw [hwro] at r
       exact st5b hj k5 g2 g3 (by simpa using r)
      ·obtain ⟨hl, g2, g3⟩ := good q
       rw [hwro] at r
       have r : xt (xa x n) = B.kept.length + 1 := by simpa using r
       rw [st5c hj k5 g2 g3 r]
       have ha : Adv x n B.txs (B.txs.set j { B.txs.getD j tx0 with opn := false, com := n }) := Zic hwf.nd (by omega) hj hl (by
        unfold ZgH
        rw [if_neg (by omega), if_pos rfl, if_neg k1, if_neg k2, if_neg k3, if_neg k6, if_pos k5])
       have hlen : ZjX x (n + 1) = xt (xa x n) := by show (if _ then _ else _) = _; rw [if_pos k5]
       have hk' : Zv x (n + 1) = Zv x n ++ [xw (xa x n)] := by rw [Yi, if_pos k5]
       have hkl : (Zv x n).length = B.kept.length := by rw [<- h.kep, ZGR]
       refine ⟨h.ft, h.wt, fun i hi => ?_, fun i hi => ?_, fun w => ?_, fun i hi => ?_, ?_, ?_, fun k hk => ?_, hot (by omega)⟩
       ·rw [ha.len] at hi
        rw [ha.who hi, Zbd, <- h.tx i hi]; exact ha.get i hi
       ·rw [ha.len] at hi
        rw [ha.who hi]; exact h.pos i hi
       ·rw [ZtE ha.map, ha.len, ZaF (fun e => k1 e.1)]; exact h.beg w
       ·rw [ha.len] at hi
        rw [ha.who hi]; exact hstay k1 k2 k7 i hi
       ·show (B.kept ++ [j]).map _ = _
        rw [ZGX, hk', <- h.kep, List.map_singleton, ha.who hl, hwho hl]
        congr 1
        apply List.map_congr_left
        intro k hk
        exact ha.who (hwf.ki k hk)
       ·show _ = (((B.kept ++ [j]).length : Nat) : Int)
        rw [hlen, r, ZGM, ZGv]; omega
       ·have hk : k < (B.kept ++ [j]).length := hk
        rw [ZGM, ZGv] at hk
        rw [hk']
        rcases ZGB k B.kept.length with p | p
        ·have e : (Zv x n ++ [xw (xa x n)]).getD k 0 = (Zv x n).getD k 0 := by
          rw [ZGH, ZGZ (by omega), <- ZGH]
         obtain ⟨c1, c2⟩ := h.com k p
         rw [e, Zip c1]; exact ⟨c1, c2⟩
        ·have e : (Zv x n ++ [xw (xa x n)]).getD k 0 = xw (xa x n) := by
          rw [ZGH, ZG0 (by omega), show k - (Zv x n).length = 0 by omega]; rfl
         rw [hcom hl] at g3
         rw [e, ZK, if_neg (by omega), if_pos ⟨k5, rfl⟩, ZGO]
         exact ⟨by omega, by omega⟩
theorem Zhg (x : List Ent) : ∀ n : Nat, (∀ i < n, ZbX (xa x i) = true) -> (NF x n -> RI x n (ZV x n)) /\ (0 <= (ZaB x n).1 -> (ZV x n).fault = (ZaB x n).1 /\ (ZV x n).what = (ZaB x n).2)
 | 0, _ => by
  refine ⟨fun _ => ⟨rfl, rfl, fun j hj => absurd hj (Nat.not_lt_zero j), fun j hj => absurd hj (Nat.not_lt_zero j), fun w => ⟨fun h => absurd h (Nat.not_lt_zero _), fun h => absurd h (by show ¬ (0 : Int) <= -1; omega)⟩, fun j hj => absurd hj (Nat.not_lt_zero j), rfl, rfl,
   fun k hk => absurd hk (Nat.not_lt_zero k), fun r => ⟨fun h => (nomatch h), fun ⟨i, hi, _⟩ => absurd hi (Nat.not_lt_zero i)⟩⟩, fun h => absurd h (by show ¬ (0 : Int) <= -1; omega)⟩
 | n + 1, hm => by
  obtain ⟨i1, i2⟩ := Zhg x n (fun i hi => hm i (by omega))
  have e : ZV x (n + 1) = if 0 <= (ZV x n).fault then ZV x n else Y6 (ZV x n) n (xa x n) := rfl
  by_cases h0 : 0 <= (ZaB x n).1
  ·have := i2 h0
   rw [e, if_pos (by rw [this.1]; exact h0), Zbc, if_pos h0]
   refine ⟨fun q => absurd (show 0 <= (ZaB x (n + 1)).1 by rw [Zbc, if_pos h0]; exact h0) q.1, fun _ => this⟩
  ·have hn : NF x n := ⟨h0, fun i hi => hm i (by omega)⟩
   have ri := i1 hn
   obtain ⟨s1, s2, s3⟩ := ZCY ri (ZeD x n) hn (hm n (by omega))
   rw [e, if_neg (by rw [ri.ft]; omega)]
   refine ⟨fun q => s3 q.pred.2.1 q.pred.2.2.1, ?_⟩
   rw [Zbc, if_neg h0]
   by_cases ho : ZhT x n = true
   ·rw [if_pos ho, s1 ho]; exact fun _ => ⟨rfl, rfl⟩
   ·rw [if_neg ho]
    have ho : ZhT x n = false := by simpa using ho
    by_cases hw : ZhC x n = true
    ·rw [if_pos hw, s2 ho hw]; exact fun _ => ⟨rfl, rfl⟩
    ·rw [if_neg hw]; exact fun q => absurd q (by show ¬ (0 : Int) <= -1; omega)
end
end Go.Proofs.Ytidlngnhjffepaa
