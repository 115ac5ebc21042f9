/- JudgeSerials answers true, and what was handed in stays as it is, where it is of bulk at most 1048576. No other condition. -/
import Derived.Test.YtidlngnhjffepaaGreatPs7
import Derived.Laws.Externs
import Derived.Lib.Bytealg
import Derived.ChangeSame
import Derived.Test.YtidlngnhjffepaaGreatProg
import Derived.KernelRfl
import Derived.Test.YtidlngnhjffepaaGreatPs6
import Derived.Test.YtidlngnhjffepaaGreatPs4
import Derived.Deep.Slices
import Derived.Test.YtidlngnhjffepaaGreatRows
import Derived.WalkKit
import Derived.ProofKit
import Derived.OpenShut
import Derived.JoinedCond
import Derived.Carry
set_option linter.unusedSimpArgs false
set_option linter.unusedVariables false
set_option maxRecDepth 20000
namespace Go.Cx
open Go.RowKit (Below)
section
variable {P : Program} {w0 : World} {σ : Sg} {hp : H} {n : Nat} {w : World} {fr : F} {ev : Operand -> Value} {k : KS} {φ : Out -> Prop} {ctrs : List (Nat × Option Cn)} {bd rd : Nat -> Cn}
theorem ZDW (hR : Rel w0 σ hp n w) (hL : ∀ x, VR σ (lk fr x) (ev x)) {c : Call} {b : Builtin} {ty : Nat} {consts : Array Bool} (h : Zz (ZvE P fr hp n b c.args.toList c.argTypes.toList k) φ) :
  LR P w0 σ n w (builtin b c.argTypes ty consts (c.args.map ev)) k φ := by
 unfold ZvE at h
 split at h
 ·rename_i d s t t2 ha ht
  have h0 : c.argTypes[0]? = some t := by rw [<- ZIP, ht]; rfl
  have h1 : c.argTypes[1]? = some t2 := by rw [<- ZIP, ht]; rfl
  rw [ZcC ha]
  exact ZAq hR (hL d) (hL s) h0 h1 h
 ·rename_i d s t ts ha ht
  have h0 : c.argTypes[0]? = some t := by rw [<- ZIP, ht]; rfl
  rw [ZcC ha]
  exact ZGx hR (hL d) (hL s) h0 h
 ·rename_i x t ts ha ht
  have h0 : c.argTypes[0]? = some t := by rw [<- ZIP, ht]; rfl
  rw [ZcC ha]
  exact ZD7 hR (hL x) h0 h
 ·rename_i m x t ts ha ht
  have h0 : c.argTypes[0]? = some t := by rw [<- ZIP, ht]; rfl
  rw [ZcC ha]
  exact Zzj hR hL h0 h
 ·obtain ⟨cv, v, g1, g2, g3⟩ := Zt6 (k := fun v => k v hp n) (ty := ty) hR hL h (consts := consts)
  exact ⟨w, cv, hp, n, σ, .inl ⟨v, g1, g2⟩, hR, Ex.refl _ _, Nle.refl _, g3⟩
theorem ZnL (hC : CsOk P w0 ctrs bd rd) (hR : Rel w0 σ hp n w) {g : CV} {vg : Value} (hg : VR σ g vg) {args : List CV} {xs : List Value} (hx : VRs σ args xs) (h : Zz (ZDI P ctrs bd rd g args hp n k) φ) :
  ∃ d, (Deferred.ofValue vg xs.toArray).run P w = .ok d w /\ Yz P w0 σ n k φ w ((invoke d.target d.args).run P w) := by
 unfold ZDI at h
 split at h
 ·rename_i f first caps
  simp only [VR] at hg; obtain ⟨us, vs, h1, h2, rfl⟩ := hg
  refine ⟨_, rfl, ?_⟩
  have := Zd0 hC hR ((h1.app hx).app h2) h
  have e : (us ++ xs ++ vs).toArray = us.toArray ++ xs.toArray ++ vs.toArray := by apply Array.ext'; simp
  rw [e] at this; exact this
 ·rename_i l
  simp only [VR] at hg; obtain ⟨p, t, hs, rfl⟩ := hg
  refine ⟨_, rfl, ?_⟩
  obtain ⟨os, hl, hgo⟩ := Zb5 h
  obtain ⟨f, tm, asg, bo, h1, h2⟩ := hC.rd l args hp n σ w xs os p t hR hx hs hl
  refine .inr (.inr (.inr ⟨p, f, tm, asg, bo, ?_, RoundIn.mono h2 fun e w' he => ?_⟩))
  ·have e : (#[] ++ xs.toArray : Array Value) = xs.toArray := by apply Array.ext'; simp
   show (Instr.yield p (#[] ++ xs.toArray)).run P w = _
   rw [e]; exact h1
  ·obtain ⟨v, rfl, hr⟩ := he
   exact ⟨v, rfl, hgo _ _ hr⟩
 ·rename_i name t v
  simp only [VR] at hg; obtain ⟨x, ⟨y, hy, rfl⟩, rfl⟩ := hg
  refine ⟨_, rfl, ?_⟩
  split at h
  ·rename_i f hf
   have := Zd0 hC hR (xs := y :: xs) (by simp only [VRs]; exact ⟨y, xs, rfl, hy, hx⟩) h
   have hm := fun w => ZfG hf y w
   have e0 : (#[Value.iface t y] ++ xs.toArray)[0]? = some (Value.iface t y) := by simp
   have e1 : (#[Value.iface t y] ++ xs.toArray).extract 1 (#[Value.iface t y] ++ xs.toArray).size = xs.toArray := by apply Array.ext'; simp
   have e2 : (#[y] ++ xs.toArray : Array Value) = (y :: xs).toArray := by apply Array.ext'; simp
   simp only [invoke, e0, callMethod, Sem.run_bind, run_program, hm, Result.andThen_ok, e1, e2]
   exact this
  ·exact h.no.elim
 ·exact h.no.elim
theorem ZHN (hC : CsOk P w0 ctrs bd rd) (hR : Rel w0 σ hp n w) (hL : ∀ x, VR σ (lk fr x) (ev x)) {c : Call} {o : Oper} (ho : o.op = .call c) (h : Zz (ZCA P ctrs bd rd c fr hp n k) φ) :
  Yz P w0 σ n k φ w ((execOp ev o).run P w) := by
 have hex : (execOp ev o).run P w = (do let d <- resolve ev c o.type; invoke d.target d.args : Sem Next).run P w := by unfold execOp; rw [ho]
 rw [hex]
 unfold ZCA at h
 split at h
 ·rename_i f hf
  obtain ⟨d, h1, h2⟩ := ZnL hC hR (hL f) (ZrU hL c.args.toList) h
  have ea : c.args.map ev = (c.args.toList.map ev).toArray := amap _
  simp only [resolve, hf, Sem.run_bind, ea, h1, Result.andThen_ok]
  exact h2
 ·rename_i b hb
  have := ZDW (ty := o.type) (consts := c.args.map fun | .const _ => true | _ => false) hR hL h
  simp only [resolve, hb, Sem.run_bind, Sem.run_pure, Result.andThen_ok]
  exact Yz.of_LR this
 ·rename_i r name hr
  have hx := hL r
  split at h
  ·rename_i t v e
   rw [e] at hx; simp only [VR] at hx; obtain ⟨y, hy, hv⟩ := hx
   split at h
   ·rename_i f hf
    have := Zd0 hC hR (xs := y :: c.args.toList.map ev) (by simp only [VRs]; exact ⟨y, _, rfl, hy, ZrU hL _⟩) h
    have hm := fun w => ZfG hf y w
    have ea : c.args.map ev = (c.args.toList.map ev).toArray := amap _
    generalize hxs : c.args.toList.map ev = xs at this ea
    have e0 : (#[Value.iface t y] ++ xs.toArray)[0]? = some (Value.iface t y) := by simp
    have e1 : (#[Value.iface t y] ++ xs.toArray).extract 1 (#[Value.iface t y] ++ xs.toArray).size = xs.toArray := by apply Array.ext'; simp
    have e2 : (#[y] ++ xs.toArray : Array Value) = (y :: xs).toArray := by apply Array.ext'; simp
    simp only [resolve, hr, hv, ea, Sem.run_bind, Sem.run_pure, Result.andThen_ok, invoke, e0, callMethod, run_program, hm, e1, e2]
    exact this
   ·exact h.no.elim
  ·exact h.no.elim
theorem Zea (hC : CsOk P w0 ctrs bd rd) (hR : Rel w0 σ hp n w) (hL : ∀ x, VR σ (lk fr x) (ev x)) {o : Oper} (h : Zz (lev P ctrs bd rd o.op fr hp n k) φ) :
  Yz P w0 σ n k φ w ((execOp ev o).run P w) := by
 cases hop : o.op with
 | call c => rw [hop] at h; exact ZHN hC hR hL hop h
 | alloc t => rw [hop] at h; have := ZEK (P := P) hR h; unfold execOp; rw [hop]; exact Yz.of_LR this
 | box t x => rw [hop] at h; have := l_box (P := P) (t := t) hR hL h; unfold execOp; rw [hop]; exact Yz.of_LR this
 | store t a v => rw [hop] at h; have := ZEU (P := P) hR hL h; unfold execOp; rw [hop]; exact Yz.of_LR this
 | makeSlice t l c => rw [hop] at h; have := ZEf (P := P) hR hL h; unfold execOp; rw [hop]; exact Yz.of_LR this
 | makeMap t r => rw [hop] at h; have := ZB3 (P := P) hR hL h; unfold execOp; rw [hop]; exact Yz.of_LR this
 | buildSlice t len parts => rw [hop] at h; have := ZzR (P := P) hR hL h; unfold execOp; rw [hop]; exact Yz.of_LR this
 | mapUpdate t m x v => rw [hop] at h; have := ZwF (P := P) hR hL h; unfold execOp; rw [hop]; exact Yz.of_LR this
 | insert t m x v => rw [hop] at h; have := ZwF (P := P) hR hL h; unfold execOp; rw [hop]; exact Yz.of_LR this
 | mapEntry t m x => rw [hop] at h; have := ZrP (P := P) hR hL h; unfold execOp; rw [hop]; exact Yz.of_LR this
 | entryStore t m s v => rw [hop] at h; have := ZkZ (P := P) (t := t) hR hL h; unfold execOp; rw [hop]; exact Yz.of_LR this
 | range t x => rw [hop] at h; have := ZB7 (P := P) hR hL h; unfold execOp; rw [hop]; exact Yz.of_LR this
 | next x str => rw [hop] at h; have := ZHo (P := P) (ty := o.type) hR hL h; unfold execOp; rw [hop]; exact Yz.of_LR this
 | entry x => rw [hop] at h; have := ZCX (P := P) hR hL h; unfold execOp; rw [hop]; exact Yz.of_LR this
 | convert s d x => rw [hop] at h; have := ZGE (P := P) hR hL h; unfold execOp; rw [hop]; exact Yz.of_LR this
 | _ =>
  have h' : Zz (qev P fr hp o.op (fun v => k v hp n)) φ := by rw [hop] at h ⊢; exact h
  obtain ⟨c, v, g1, g2, g3⟩ := Zbg (k := fun v => k v hp n) hR hL h'
  exact .inl ⟨v, w, g1, c, hp, n, σ, g2, hR, Ex.refl _ _, Nle.refl _, g3⟩
end
end Go.Cx
namespace Go.Cx
open Go.RowKit (Below)
section
variable {P : Program} {w0 : World} {σ : Sg} {hp : H} {n : Nat} {w : World} {fr : F} {a : Act} {φ : Out -> Prop} {ctrs : List (Nat × Option Cn)} {bd rd : Nat -> Cn}
theorem fg_R (h : FrR σ fr a) (t : Nat) : VR σ (fg fr t) (a.tmps.getD t undef) := by
 rw [ZHI]
 cases hb : Nat.blt t fr.n
 ·simp only [cond_false, VR]
 ·simp only [cond_true]
  have hlt : t < fr.n := by simpa [Nat.blt_eq] using hb
  rw [h.sz] at hlt
  refine h.val t _ ?_
  rw [Array.getD_eq_getD_getElem?, Array.getElem?_eq_getElem hlt]; rfl
theorem Zu0 (h : FrR σ fr a) {t : Nat} (hj : fg fr t ≠ .junk) : ∃ v, a.tmps[t]? = some v /\ VR σ (fg fr t) v := by
 rw [ZHI] at hj ⊢
 cases hb : Nat.blt t fr.n
 ·rw [hb] at hj; exact absurd rfl hj
 ·simp only [cond_true]
  have hlt : t < fr.n := by simpa [Nat.blt_eq] using hb
  rw [h.sz] at hlt
  exact ⟨a.tmps[t], Array.getElem?_eq_getElem hlt, h.val t _ (Array.getElem?_eq_getElem hlt)⟩
theorem ZqK (h : FrR σ fr a) (x : Operand) : VR σ (lk fr x) (a.eval x) := by
 cases x with
 | tmp t => exact fg_R h t
 | const v => exact Zw3 v
 | global g => simp only [lk, VR]
 | func f => simp only [lk, VR, VRs]; exact ⟨[], [], rfl, rfl, rfl⟩
theorem Zms {i j : Nat} {c : CV} (hn : fr.n <= 511) (hj : j < 512) : Zf3 (Zw2 fr i c) j = if j = i /\ i < fr.n then c else Zf3 fr j := by
 rw [Zut]
 cases hb : Nat.blt i fr.n
 ·have : ¬ i < fr.n := by intro e; have := Nat.blt_eq.symm ▸ e; rw [this] at hb; cases hb
  rw [if_neg (fun e => this e.2)]; rfl
 ·have hlt : i < fr.n := by simpa [Nat.blt_eq] using hb
  simp only [cond_true]
  rw [Za2 _ _ _ _ (by omega) hj]
  by_cases e : j = i
  ·rw [if_pos e, if_pos ⟨e, hlt⟩]
  ·rw [if_neg e, if_neg (fun h => e h.1)]
theorem ZHz (i : Nat) (c : CV) : (Zw2 fr i c).n = fr.n := by
 rw [Zut]; cases Nat.blt i fr.n
 ·rfl
 ·exact ZqD _ _ _
theorem Zj0 {i : Nat} {c : CV} (hn : fr.n <= 511) : Zf3 (Zw2 fr i c) Yu = Zf3 fr Yu := by
 rw [Zms hn (by decide)]
 rw [if_neg (fun h => by have h1 := h.1; have h2 := h.2; unfold Yu at h1; omega)]
theorem FrR.set (h : FrR σ fr a) {i : Nat} {c : CV} {v : Value} (hv : VR σ c v) : FrR σ (Zw2 fr i c) { a with tmps := a.tmps.setIfInBounds i v } := by
 have hs := h.sz
 have hm := h.small
 refine ⟨by rw [ZHz, hs]; simp, by simpa using hm, fun j u hj => ?_, ?_⟩
 ·simp only [Array.getElem?_setIfInBounds] at hj
  have hj' : j < 512 := by
   have : j < a.tmps.size := by
    by_cases e : i = j
    ·subst e
     by_cases hlt : i < a.tmps.size
     ·exact hlt
     ·simp [hlt] at hj
    ·rw [if_neg e] at hj; exact (Array.getElem?_eq_some_iff.1 hj).1
   omega
  rw [Zms (by omega) hj']
  by_cases e : i = j
  ·subst e
   by_cases hlt : i < a.tmps.size
   ·simp [hlt] at hj; subst hj
    rw [if_pos ⟨rfl, by omega⟩]; exact hv
   ·simp [hlt] at hj
  ·rw [if_neg e] at hj
   rw [if_neg (fun x => e x.1.symm)]
   exact h.val j u hj
 ·have : dfs (Zw2 fr i c) = dfs fr := by unfold dfs; rw [Zj0 (by omega)]
  rw [this]; exact h.df
theorem FrR.put (h : FrR σ fr a) {d : Option Nat} {c : CV} {v : Value} (hv : VR σ c v) : FrR σ (ZyC fr d c) (a.put d v) := by
 cases d with
 | none => exact h
 | some d => exact h.set hv
theorem Zi7 (h : FrR σ fr a) (d : Option Nat) (c : CV) : Zf3 (ZyC fr d c) Yu = Zf3 fr Yu := by
 cases d with
 | none => rfl
 | some d => exact Zj0 (by rw [h.sz]; exact h.small)
def ZuZ (ro : Option Nat) (fr : F) : Prop := ro = none \/ Zf3 fr Yu = .nili
/-! ### Guards -/
theorem Zz3 (ops : Array Oper) (j : Nat) : ZD4 ops.toList j = (ops[j]?).bind (·.dst) := by
 unfold ZD4
 rw [ZdF, ZIP]
 cases ops[j]? <;> rfl
theorem Yg (h : FrR σ fr a) (ops : Array Oper) (o : Oper) :
  (YE ops.toList fr o.guard = .go -> Region.wanted o (yielded ops a.tmps) = true) /\ (YE ops.toList fr o.guard = .skip -> Region.wanted o (yielded ops a.tmps) = false) := by
 unfold YE Region.wanted
 cases hg : o.guard with
 | none => simp
 | some jw =>
  obtain ⟨j, want⟩ := jw
  simp only [Zz3]
  cases hd : (ops[j]?).bind (·.dst) with
  | none => simp
  | some d =>
   simp only
   have hy : ∀ v, a.tmps[d]? = some v -> yielded ops a.tmps j = (match v with | .bool b => some b | _ => none) := fun v hv => by
    unfold yielded; rw [hd]; simp only [Option.bind_some]; rw [hv]; cases v <;> rfl
   cases hc : fg fr d with
   | bool b =>
    obtain ⟨v, hv, hr⟩ := Zu0 h (t := d) (by rw [hc]; simp)
    rw [hc] at hr; simp only [VR] at hr; subst hr
    rw [hy _ hv]
    simp only
    cases hb : bbq b want
    ·refine ⟨fun e => (by cases e), fun _ => ?_⟩
     have : b ≠ want := fun e => by subst e; cases b <;> cases hb
     simp [this]
    ·have := ZEy hb; subst this
     exact ⟨fun _ => (by simp), fun e => (by cases e)⟩
   | tup l =>
    cases l with
    | nil =>
     obtain ⟨v, hv, hr⟩ := Zu0 h (t := d) (by rw [hc]; simp)
     rw [hc] at hr; simp only [VR, VRs] at hr
     obtain ⟨vs, rfl, rfl⟩ := hr
     rw [hy _ hv]
     exact ⟨fun e => (by cases e), fun _ => (by simp)⟩
    | cons x l => simp
   | _ => simp
/-! ### Regions in the order of their text -/
structure St (w0 : World) (ro : Option Nat) (σ : Sg) (n : Nat) (σ' : Sg) (fr' : F) (hp' : H) (n' : Nat) (a' : Act) (w' : World) : Prop where
 rel : Rel w0 σ' hp' n' w'
 fr : FrR σ' fr' a'
 ro : ZuZ ro fr'
 ex : Ex n σ σ'
 n : Nle n n'
theorem St.trans {ro : Option Nat} {σ1 σ' : Sg} {n1 n' : Nat} {fr' : F} {hp' : H} {a' : Act} {w' : World} (hx : Ex n σ σ1) (hn : Nle n n1) (h : St w0 ro σ1 n1 σ' fr' hp' n' a' w') : St w0 ro σ n σ' fr' hp' n' a' w' :=
 ⟨h.rel, h.fr, h.ro, hx.trans hn h.ex, hn.trans h.n⟩
theorem ZqV (fr : F) (l : List CV) : dfs (Zxu fr Yu (.tup l)) = l := by
 unfold dfs; rw [Za2 _ _ _ _ (by decide) (by decide), if_pos rfl]
theorem ZzG (fr : F) (d : CV) : (Zow fr d).n = fr.n /\ (∀ j, j < 511 -> Zf3 (Zow fr d) j = Zf3 fr j) /\ dfs (Zow fr d) = d :: dfs fr := by
 unfold Zow
 split
 ·rename_i l hl
  refine ⟨ZqD _ _ _, fun j hj => by rw [Za2 _ _ _ _ (by decide) (by omega), if_neg (by unfold Yu; omega)], ?_⟩
  rw [ZqV]; unfold dfs; rw [hl]
 ·rename_i hl
  refine ⟨ZqD _ _ _, fun j hj => by rw [Za2 _ _ _ _ (by decide) (by omega), if_neg (by unfold Yu; omega)], ?_⟩
  rw [ZqV]
  have : dfs fr = [] := by
   unfold dfs; split
   ·rename_i l hl'; exact (hl _ hl').elim
   ·rfl
  rw [this]
theorem FrR.push (h : FrR σ fr a) {d : CV} {ds : Deferred} (hd : DfR σ (d :: dfs fr) (ds :: a.defers)) : FrR σ (Zow fr d) { a with defers := ds :: a.defers } := by
 obtain ⟨p1, p2, p3⟩ := ZzG fr d
 have hs := h.small
 refine ⟨by rw [p1]; exact h.sz, h.small, fun i v hi => ?_, by rw [p3]; exact hd⟩
 have : i < a.tmps.size := (Array.getElem?_eq_some_iff.1 hi).1
 rw [p2 i (by omega)]; exact h.val i v hi
theorem ZEC {ro : Option Nat} (hF : FrR σ fr a) (hro : ZuZ ro fr) {k : KS} {d : Option Nat} {v : Value} {w' : World} (h : ZyA w0 σ n k φ v w') :
  ∃ c hp' n' σ', St w0 ro σ n σ' (ZyC fr d c) hp' n' (a.put d v) w' /\ Zz (k c hp' n') φ := by
 obtain ⟨c, hp', n', σ', hv, hR, hx, hn, hk⟩ := h
 have hF' := hF.mono hx.1
 refine ⟨c, hp', n', σ', ⟨hR, hF'.put hv, ?_, hx, hn⟩, hk⟩
 rcases hro with h | h
 ·exact .inl h
 ·exact .inr (by rw [Zi7 hF]; exact h)
theorem ZoH (hC : CsOk P w0 ctrs bd rd) (hR : Rel w0 σ hp n w) (hF : FrR σ fr a) {ro : Option Nat} (hro : ZuZ ro fr) {o : Oper} {k : F -> H -> Nat -> Res} (h : Zz (ZEb P ctrs bd rd o fr hp n k) φ)
  {next : Act -> World -> Prop} {Q : Exit -> Act -> World -> Prop} (hnext : ∀ σ' fr' hp' n' a' w', St w0 ro σ n σ' fr' hp' n' a' w' -> Zz (k fr' hp' n') φ -> next a' w') : o.wpIn (FF ro) 0 P a w next Q := by
 unfold ZEb at h
 split at h
 ·rename_i c hop
  split at h
  ·rename_i d hd
   unfold ZBk at hd
   split at hd
   ·cases hd
   ·rename_i hnn
    have hro' : ro = none := by
     rcases hro with h | h
     ·exact h
     ·exact absurd h hnn
    subst hro'
    split at hd
    ·rename_i f hf
     split at hd
     ·rename_i g fi ca he
      cases hd
      have hv := ZqK hF f
      rw [he] at hv; simp only [VR] at hv
      obtain ⟨us, vs, h1, h2, hv⟩ := hv
      refine ⟨fun f _ => trivial, ?_⟩
      have hrun : ((o.semAt (FF none).round a.eval).run P w) = .ok (.defer { target := .fn (.func g) vs.toArray, args := us.toArray ++ (c.args.toList.map a.eval).toArray }) w := by
       rw [show (FF none).round = none from rfl, Oper.semAt_none]
       unfold execOp; rw [hop]
       simp only [resolve, hf, hv, Deferred.ofValue, Sem.run_bind, Sem.run_pure, Result.andThen_ok, amap]
      rw [hrun, Oper.uponIn_defer]
      have hF2 := hF.push (d := .tup (.fn g fi ca :: lks fr c.args.toList)) (ds := { target := .fn (.func g) vs.toArray, args := us.toArray ++ (c.args.toList.map a.eval).toArray }) (by
       unfold DfR; exact ⟨us, vs, _, _, h1, h2, ZrU (ZqK hF) _, rfl, hF.df⟩)
      exact hnext _ _ _ _ _ _ ⟨hR, hF2.put Zca, .inl rfl, Ex.refl _ _, Nle.refl _⟩ h
     ·cases hd
    ·cases hd
  ·exact h.no.elim
 ·rename_i hnd
  refine Yz.wpIn (fun c hc => hnd c hc) (Zea hC hR (ZqK hF) h) (fun v w' hg => ?_)
  obtain ⟨c, hp', n', σ', hS, hk⟩ := ZEC (ro := ro) (d := o.dst) hF hro hg
  exact hnext _ _ _ _ _ _ hS hk
theorem Zfj (hC : CsOk P w0 ctrs bd rd) {ro : Option Nat} {ops : Array Oper} {Q : Exit -> Act -> World -> Prop} {k : F -> H -> Nat -> Res} :
  ∀ (l : List Oper) (i : Nat) {σ : Sg} {hp : H} {n : Nat} {w : World} {fr : F} {a : Act}, ops.toList.drop i = l -> Rel w0 σ hp n w -> FrR σ fr a -> ZuZ ro fr -> Zz (ZG1 P ctrs bd rd ops.toList l fr hp n k) φ →
   (∀ σ' fr' hp' n' a' w', St w0 ro σ n σ' fr' hp' n' a' w' -> Zz (k fr' hp' n') φ -> Q .normal a' w') -> wpOpsIn (FF ro) 0 P ops Q (List.range' i l.length) a w
 | [], i, σ, hp, n, w, fr, a, hl, hR, hF, hro, h, hQ => hQ _ _ _ _ _ _ ⟨hR, hF, hro, Ex.refl _ _, Nle.refl _⟩ h
 | o :: rest, i, σ, hp, n, w, fr, a, hl, hR, hF, hro, h, hQ => by
  have hi : ops[i]? = some o := by
   rw [<- ZIP]
   have := congrArg (fun l => l[0]?) hl
   simpa using this
  have hrest : ops.toList.drop (i + 1) = rest := by
   have := congrArg List.tail hl
   simpa [List.tail_drop] using this
  simp only [ZJk, List.range'_succ, wpOpsIn, hi]
  simp only [ZG1] at h
  have hg := Yg hF ops o
  split at h
  ·rename_i hgo
   rw [if_pos (hg.1 hgo)]
   refine ZoH hC hR hF hro h (fun σ' fr' hp' n' a' w' hS hk => ?_)
   exact Zfj hC rest (i + 1) hrest hS.rel hS.fr hS.ro hk (fun σ2 fr2 hp2 n2 a2 w2 hS2 hk2 => hQ _ _ _ _ _ _ (St.trans hS.ex hS.n hS2) hk2)
  ·rename_i hgs
   rw [if_neg (by rw [hg.2 hgs]; simp)]
   refine ⟨fun f _ => trivial, ?_⟩
   refine Zfj hC rest (i + 1) hrest hR (hF.put Zca) ?_ h hQ
   rcases hro with h | h
   ·exact .inl h
   ·exact .inr (by rw [Zi7 hF]; exact h)
  ·exact h.no.elim
end
end Go.Cx
namespace Go.Cx
open Go.RowKit (Below)
section
variable {P : Program} {ro : Option Nat}
def Z9 (P : Program) (ro : Option Nat) (ops : Array Oper) (Q : Exit -> Act -> World -> Prop) (T : Array Bool -> World -> Prop) : Nat -> Array Bool -> Act -> World -> Prop
 | 0, listed, a, w => Region.ready .any ops listed = [] /\ Q .normal a w
 | fuel + 1, listed, a, w =>
  (Region.ready .any ops listed = [] -> Q .normal a w) ∧
  ∀ i ∈ Region.ready .any ops listed, wpOpIn (FF ro) 0 P ops Q i (fun a' w' => T (listed.setIfInBounds i true) w' /\ Z9 P ro ops Q T fuel (listed.setIfInBounds i true) a' w') a w
theorem ZbM {ops : Array Oper} {Q : Exit -> Act -> World -> Prop} {T : Array Bool -> World -> Prop} : ∀ (fuel : Nat) (listed : Array Bool) (a : Act) (w : World), Z9 P ro ops Q T fuel listed a w -> wpAnyIn (FF ro) 0 P .any ops Q fuel listed a w
 | 0, _, _, _, h => h
 | fuel + 1, _, _, _, h => ⟨h.1, fun i hi => wpOpIn_mono (fun a' w' h' => ZbM fuel _ a' w' h'.2) (h.2 i hi)⟩
theorem Za9 {ops : Array Oper} {Q : Exit -> Act -> World -> Prop} {T T' : Array Bool -> World -> Prop} (hT : ∀ l w, T l w -> T' l w) : ∀ (fuel : Nat) (listed : Array Bool) (a : Act) (w : World), Z9 P ro ops Q T fuel listed a w -> Z9 P ro ops Q T' fuel listed a w
 | 0, _, _, _, h => h
 | fuel + 1, _, _, _, h => ⟨h.1, fun i hi => wpOpIn_mono (fun a' w' h' => ⟨hT _ _ h'.1, Za9 hT fuel _ a' w' h'.2⟩) (h.2 i hi)⟩
def Zbk (ops : Array Oper) (listed : Array Bool) : Prop := ∀ j o, ops[j]? = some o -> listed.getD j true = true -> ∀ e ∈ o.after, Region.binds .any e = true -> listed.getD e.on false = true
def ZA (P : Program) (ops : Array Oper) (T : Array Bool -> World -> Prop) (i : Nat) (o : Oper) (v : Value) (a : Act) : Prop :=
 (Region.wanted o (yielded ops a.tmps) = true /\ ∀ l w, Zbk ops l -> l.getD i true = false -> T l w -> (execOp a.eval o).run P w = .ok (.value v) w) ∨
 (Region.wanted o (yielded ops a.tmps) = false /\ v = undef)
theorem ZA.wpOp {ops : Array Oper} {Q : Exit -> Act -> World -> Prop} {T : Array Bool -> World -> Prop} {i : Nat} {o : Oper} {v : Value} {a : Act} (hi : ops[i]? = some o) (hnd : ∀ c, o.op ≠ .defer c) (hy : ZA P ops T i o v a)
  {l : Array Bool} {K : Act -> World -> Prop} {w : World} (hc : Zbk ops l) (hl : l.getD i true = false) (hT : T l w) (h : K (a.put o.dst v) w) : wpOpIn (FF ro) 0 P ops Q i K a w := by
 unfold Go.wpOpIn
 simp only [hi]
 rcases hy with ⟨hw, hv⟩ | ⟨hw, rfl⟩
 ·simp only [hw, if_true]
  refine ⟨fun f _ => trivial, ?_⟩
  rw [show (FF ro).round = ro from rfl, Oper.semAt_eq ro a.eval o hnd, hv l w hc hl hT]
  exact h
 ·simp only [hw, Bool.false_eq_true, if_false]; exact ⟨fun f _ => trivial, h⟩
theorem ZA.of_same {ops : Array Oper} {T : Array Bool -> World -> Prop} {i : Nat} {o : Oper} {v : Value} {a a' : Act} (hy : ZA P ops T i o v a) (he : execOp a'.eval o = execOp a.eval o)
  (hw : Region.wanted o (yielded ops a'.tmps) = Region.wanted o (yielded ops a.tmps)) : ZA P ops T i o v a' := by
 unfold ZA at *
 rw [he, hw]
 exact hy
theorem Zgq {ops : Array Oper} {Q : Exit -> Act -> World -> Prop} {T : Array Bool -> World -> Prop} {i j : Nat} {oi oj : Oper} {v : Value} (hj : ops[j]? = some oj) (hap : oi.apart ops oj = true)
  (hsi : ∀ cs b, oi.op ≠ .select cs b) (hsj : ∀ cs b, oj.op ≠ .select cs b) (hnd : ∀ c, oj.op ≠ .defer c)
  (hQ : ∀ c a w, Q (.panic c) (a.put oi.dst v) w -> Q (.panic c) a w) {K : Act -> World -> Prop} {a : Act} {w : World}
  (hy : ZA P ops T i oi v a) (h : wpOpIn (FF ro) 0 P ops Q j K (a.put oi.dst v) w) :
  wpOpIn (FF ro) 0 P ops Q j (fun a' w' => ZA P ops T i oi v a' /\ K (a'.put oi.dst v) w') a w := by
 obtain ⟨h1, h2, h3⟩ := Oper.apart_spec hap
 have keep : ∀ (a : Act), ZA P ops T i oi v a -> ∀ u, ZA P ops T i oi v (a.put oj.dst u) := fun a hy u =>
  hy.of_same (execOp_put oi hsi a oj.dst u h3) (wanted_put oi a oj.dst u h3)
 have keepD : ∀ d, ZA P ops T i oi v { a with defers := d :: a.defers } := fun d => hy.of_same rfl rfl
 unfold wpOpIn at *
 simp only [hj] at *
 rw [wanted_put oj a oi.dst v h1] at h
 split
 ·rename_i hw
  simp only [hw, if_true] at h
  refine ⟨fun f _ => trivial, ?_⟩
  have h := h.2
  rw [show (FF ro).round = ro from rfl, Oper.semAt_eq ro _ oj hnd] at h ⊢
  rw [execOp_put oj hsj a oi.dst v h1] at h
  generalize (execOp a.eval oj).run P w = r at *
  cases r with
  | ok n w' =>
   cases n <;> simp only [Oper.uponIn] at h ⊢
   case value u => exact ⟨keep a hy u, by rw [<- Act.put_comm a v u h2]; exact h⟩
   case skip => exact ⟨keep a hy _, by rw [<- Act.put_comm a v undef h2]; exact h⟩
   case defer d =>
    refine ⟨keep _ (keepD d) _, ?_⟩
    rw [<- Act.put_comm _ v undef h2, <- Act.put_defers]
    exact h
   case enter f args =>
    refine ⟨h.1, CallsIn.mono h.2 fun e w'' he => ?_⟩
    cases e with
    | returned u => exact ⟨keep a hy u, by rw [<- Act.put_comm a v u h2]; exact he⟩
    | panicked c => exact hQ _ _ _ he
    | outgrown => exact he
   case row row args => exact ⟨h.1, RowsIn.mono h.2 fun u w'' he => ⟨keep a hy u, by rw [<- Act.put_comm a v u h2]; exact he⟩⟩
   case round l f tm asg bo =>
    refine ⟨h.1, RoundIn.mono h.2 fun e w'' he => ?_⟩
    cases e with
    | returned u => exact ⟨keep a hy u, by rw [<- Act.put_comm a v u h2]; exact he⟩
    | panicked c => exact hQ _ _ _ he
    | outgrown => exact he
  | halt x w' =>
   cases x <;> simp only [Oper.uponIn] at h ⊢
   case panic u => exact hQ _ _ _ h
 ·rename_i hw
  simp only [hw] at h
  exact ⟨fun f _ => trivial, keep a hy _, by rw [<- Act.put_comm a v undef h2]; exact h.2⟩
theorem Zbk.set {ops : Array Oper} {l : Array Bool} {i : Nat} (h : Zbk ops l) (hi : i ∈ Region.ready .any ops l) : Zbk ops (l.setIfInBounds i true) := by
 intro j o hj hl e he hb
 by_cases hji : j = i
 ·subst hji
  obtain ⟨_, o', ho', hall⟩ := mem_ready.1 hi
  rw [hj] at ho'; cases ho'
  exact getD_set_true (hall e he hb)
 ·rw [getD_set_ne true (Ne.symm hji)] at hl
  exact getD_set_true (h j o hj hl e he hb)
theorem ZcJ {ops : Array Oper} {Q : Exit -> Act -> World -> Prop} {T : Array Bool -> World -> Prop} {i : Nat} {oi : Oper} {v : Value} (hi : ops[i]? = some oi) (hsel : ∀ (j : Nat) (o : Oper) cs b, ops[j]? = some o -> o.op ≠ .select cs b)
  (hnd : ∀ (j : Nat) (o : Oper) c, ops[j]? = some o -> o.op ≠ .defer c)
  (hQ : ∀ c a w, Q (.panic c) (a.put oi.dst v) w -> Q (.panic c) a w) (hTi : ∀ l w, T (l.setIfInBounds i true) w -> T l w) :
  ∀ (fuel : Nat) (listed : Array Bool) (a : Act) (w : World), Zbk ops listed →
   (∀ j oj, ops[j]? = some oj -> j ≠ i -> listed.getD j true = false -> (∀ e ∈ oj.after, Region.binds .any e = true -> e.on ≠ i) -> oi.apart ops oj = true) →
   i ∈ Region.ready .any ops listed -> ZA P ops T i oi v a -> T listed w -> T (listed.setIfInBounds i true) w →
   Z9 P ro ops Q T fuel (listed.setIfInBounds i true) (a.put oi.dst v) w -> Z9 P ro ops Q T (fuel + 1) listed a w := by
 intro fuel
 induction fuel with
 | zero =>
  intro listed a w hc _ hr hy hT hT' H
  refine ⟨fun h => (by rw [h] at hr; cases hr), fun j hj => ?_⟩
  by_cases hji : j = i
  ·subst hji; exact hy.wpOp hi (fun c => hnd j oi c hi) hc (mem_ready.1 hr).1 hT ⟨hT', H⟩
  ·have := ready_mono hj hji
   rw [H.1] at this
   cases this
 | succ fuel ih =>
  intro listed a w hc hfree hr hy hT hT' H
  refine ⟨fun h => (by rw [h] at hr; cases hr), fun j hj => ?_⟩
  by_cases hji : j = i
  ·subst hji; exact hy.wpOp hi (fun c => hnd j oi c hi) hc (mem_ready.1 hr).1 hT ⟨hT', H⟩
  ·have h1 := H.2 j (ready_mono hj hji)
   obtain ⟨hjun, oj, hoj, hall⟩ := mem_ready.1 hj
   have hnot : ∀ e ∈ oj.after, Region.binds .any e = true -> e.on ≠ i := fun e he hb heq => by
    have h1 := hall e he hb
    have h0 := (mem_ready.1 hr).1
    rw [heq] at h1
    rcases ZIU i listed.size with h' | h'
    ·simp [h'] at h0 h1; rw [h0] at h1; cases h1
    ·simp [Array.getElem?_eq_none h'] at h1
   have h2 := Zgq hoj (hfree j oj hoj hji hjun hnot) (fun cs b => hsel i oi cs b hi) (fun cs b => hsel j oj cs b hoj) (fun c => hnd j oj c hoj) hQ hy h1
   have hfree' : ∀ k ok, ops[k]? = some ok -> k ≠ i -> (listed.setIfInBounds j true).getD k true = false →
     (∀ e ∈ ok.after, Region.binds .any e = true -> e.on ≠ i) -> oi.apart ops ok = true := fun k ok hk hki hun hno => by
    refine hfree k ok hk hki ?_ hno
    by_cases hjk : j = k
    ·subst hjk; exact hjun
    ·rw [getD_set_ne true hjk] at hun; exact hun
   refine wpOpIn_mono (fun a' w' h3 => ?_) h2
   obtain ⟨hy', hT3, H3⟩ := h3
   rw [Array.setIfInBounds_comm _ _ (Ne.symm hji)] at hT3 H3
   have hT4 := hTi _ _ hT3
   exact ⟨hT4, ih (listed.setIfInBounds j true) a' w' (hc.set hj) hfree' (ready_mono hr (Ne.symm hji)) hy' hT4 hT3 H3⟩
/-! ### What is left -/
def left (listed : Array Bool) : Nat := listed.toList.countP (· == false)
theorem ZaR {l : Array Bool} {i : Nat} (h : l.getD i true = false) : left (l.setIfInBounds i true) + 1 = left l := by
 unfold left
 rw [Array.toList_setIfInBounds]
 rw [Array.getD_eq_getD_getElem?, <- ZIP] at h
 revert h
 generalize l.toList = m
 intro h
 induction m generalizing i with
 | nil => simp at h
 | cons b m ih =>
  cases i with
  | zero => simp at h; subst h; simp
  | succ i =>
   have := ih (i := i) (by simpa using h)
   simp only [List.set_cons_succ, List.countP_cons]
   omega
theorem Zgw {l : Array Bool} {i : Nat} (h : l.getD i true = false) : i < l.size := by
 rcases ZIU i l.size with h' | h'
 ·exact h'
 ·simp [Array.getElem?_eq_none h'] at h
theorem Zx {l : Array Bool} {i : Nat} (h : l.getD i true = false) (d : Bool) : (l.setIfInBounds i true).getD i d = true := by
 simp [Zgw h]
theorem Zb4 {ops : Array Oper} {Q : Exit -> Act -> World -> Prop} {T : Array Bool -> World -> Prop} {listed : Array Bool} {a : Act} {w : World} (hr : Region.ready .any ops listed = []) (h : Q .normal a w) : ∀ k, Z9 P ro ops Q T k listed a w
 | 0 => ⟨hr, h⟩
 | k + 1 => ⟨fun _ => h, by rw [hr]; simp⟩
structure Say where
 i : Nat
 o : Oper
 ev : Operand -> Value
 v : Value
def ZaF (ops : Array Oper) (X : Nat -> Prop) (l : Array Bool) (s : Say) : Prop :=
 ∀ j o, ops[j]? = some o -> ¬ X j -> l.getD j true = true -> ZgN o s.i = false
def TR (P : Program) (ops : Array Oper) (X : Nat -> Prop) (R : List Say) (l : Array Bool) (w : World) : Prop :=
 ∀ s ∈ R, ZaF ops X l s -> (execOp s.ev s.o).run P w = .ok (.value s.v) w
theorem Zfg {ops : Array Oper} {X : Nat -> Prop} {l : Array Bool} {i : Nat} {s : Say} (hl : l.getD i true = false) (h : ZaF ops X (l.setIfInBounds i true) s) : ZaF ops X l s := by
 intro j o hj hx hlj
 refine h j o hj hx ?_
 by_cases hij : i = j
 ·subst hij; exact Zx hl _
 ·rw [getD_set_ne true hij]; exact hlj
theorem ZbO {ops : Array Oper} {X : Nat -> Prop} {l : Array Bool} {i : Nat} {s : Say} (hl : l.getD i true = false) (h : ZaF ops (fun j => X j \/ j = i) l s) : ZaF ops X l s := by
 intro j o hj hx hlj
 refine h j o hj (fun h' => ?_) hlj
 rcases h' with h' | rfl
 ·exact hx h'
 ·rw [hl] at hlj; cases hlj
theorem Yn {ops : Array Oper} {X : Nat -> Prop} {l : Array Bool} {i : Nat} {s : Say} (h : ZaF ops (fun j => X j \/ j = i) (l.setIfInBounds i true) s) : ZaF ops (fun j => X j \/ j = i) l s := by
 intro j o hj hx hlj
 have hij : i ≠ j := fun h' => hx (.inr h'.symm)
 exact h j o hj hx (by rw [getD_set_ne true hij]; exact hlj)
theorem valid_setX' {ops : Array Oper} {X : Nat -> Prop} {l : Array Bool} {i : Nat} {s : Say} (h : ZaF ops (fun j => X j \/ j = i) l s) : ZaF ops (fun j => X j \/ j = i) (l.setIfInBounds i true) s := by
 intro j o hj hx hlj
 have hij : i ≠ j := fun h' => hx (.inr h'.symm)
 exact h j o hj hx (by rw [getD_set_ne true hij] at hlj; exact hlj)
theorem Zh4 {φ : Out -> Prop} {f : Nat -> Res} : ∀ {l : List Nat}, Zz (Zy9 f l) φ -> ∀ e ∈ l, Zz (f e) φ
 | [], _, e, he => by cases he
 | [a], h, e, he => by
  simp only [ZIT] at he; subst he; exact h
 | a :: b :: l, h, e, he => by
  simp only [Zy9] at h
  obtain ⟨h1, h2⟩ := h.cat
  rcases List.mem_cons.1 he with rfl | he
  ·exact h1
  ·exact Zh4 h2 e he
theorem Yc {fr : F} {ops : List Oper} : ∀ {l : List Nat} {i : Nat} {o : Oper}, Yl P fr ops l = some (i, o) -> i ∈ l /\ Zk5 ops i = some o
 | [], _, _, h => nomatch h
 | j :: l, i, o, h => by
  simp only [Yl] at h
  split at h
  ·rename_i o' ho
   cases hq : Zhz P fr ops o'
   ·rw [hq] at h; have := Yc h; exact ⟨ZI6 _ this.1, this.2⟩
   ·rw [hq] at h; cases h; exact ⟨ZI8, ho⟩
  ·cases h
end
end Go.Cx
namespace Go.Cx
open Go.RowKit (Below)
theorem ZvM {lim id : Nat} (h : id < 1048576) : idN (mkN lim id) = id /\ Y1 (mkN lim id) = lim := by unfold idN Y1 mkN; omega
theorem Rel.renum {w0 : World} {σ : Sg} {hp : H} {n m : Nat} {w : World} (h : Rel w0 σ hp n w) (hf : ∀ i, idN m <= i -> i < Y1 m -> σ i = none) (hl : Y1 m <= 32768) : Rel w0 σ hp m w :=
 ⟨h.hold, h.apart, h.old, hf, hl, h.below⟩
theorem Zee : ∀ {l : List Oper} {j : Nat} {o : Oper}, l[j]? = some o -> Yt o.op = true -> Zb1 l j < ZbZ l
 | [], j, o, h, _ => by cases h
 | x :: l, 0, o, h, ha => by
  simp at h; subst h
  simp only [Zb1, ZbZ, ha, cond_true]; omega
 | x :: l, j + 1, o, h, ha => by
  have := Zee (l := l) (j := j) (by simpa using h) ha
  simp only [Zb1, ZbZ]
  cases Yt x.op
  ·simpa using this
  ·simp only [cond_true]; omega
theorem Zmx : ∀ {l : List Oper} {j k : Nat} {o p : Oper}, l[j]? = some o -> l[k]? = some p -> Yt o.op = true -> Yt p.op = true -> j ≠ k -> Zb1 l j ≠ Zb1 l k
 | [], j, k, o, p, h, _, _, _, _ => by cases h
 | x :: l, 0, 0, o, p, _, _, _, _, hne => absurd rfl hne
 | x :: l, 0, k + 1, o, p, h, hk, ha, hb, _ => by
  simp at h; subst h
  simp only [Zb1, ha, cond_true]; omega
 | x :: l, j + 1, 0, o, p, h, hk, ha, hb, _ => by
  simp at hk; subst hk
  simp only [Zb1, hb, cond_true]; omega
 | x :: l, j + 1, k + 1, o, p, h, hk, ha, hb, hne => by
  have := Zmx (l := l) (j := j) (k := k) (by simpa using h) (by simpa using hk) ha hb (by omega)
  simp only [Zb1]
  cases Yt x.op
  ·simpa using this
  ·simp only [cond_true]; omega
theorem Zar {α : Type} : ∀ {l : List (Nat × α)} {i : Nat} {x : α}, ZT l i = some x -> (i, x) ∈ l
 | [], i, x, h => by cases h
 | (j, y) :: l, i, x, h => by
  unfold ZT at h
  cases hb : Nat.beq j i
  ·rw [hb] at h; exact ZI6 _ (Zar h)
  ·rw [hb] at h; cases h; rw [nbq hb]; exact ZI8
structure Inv (ops : Array Oper) (n0 : Nat) (listed : Array Bool) (rs : List (Nat × Nat)) (σ : Sg) (n : Nat) : Prop where
 lo : n0 + ZbZ ops.toList <= idN n
 fa : ∀ j o, ops[j]? = some o -> listed.getD j true = false -> Yt o.op = true -> σ (n0 + Zb1 ops.toList j) = none
 fr : ∀ j i, (j, i) ∈ rs -> listed.getD j true = false -> ∀ x, i <= x -> x < i + YP -> σ x = none
 rb : ∀ j i, (j, i) ∈ rs -> n0 + ZbZ ops.toList <= i /\ i + YP <= idN n
 dj : ∀ j i j' i', (j, i) ∈ rs -> (j', i') ∈ rs -> j ≠ j' -> i + YP <= i' \/ i' + YP <= i
theorem Inv.less {ops : Array Oper} {n0 : Nat} {listed : Array Bool} {rs : List (Nat × Nat)} {σ : Sg} {n : Nat} (h : Inv ops n0 listed rs σ n) (i : Nat) : Inv ops n0 (listed.setIfInBounds i true) rs σ n := by
 have key : ∀ j, (listed.setIfInBounds i true).getD j true = false -> listed.getD j true = false := fun j hj => by
  by_cases e : i = j
  ·subst e
   by_cases hlt : i < listed.size
   ·simp [hlt] at hj
   ·simp [hlt] at hj
  ·rwa [getD_set_ne true e] at hj
 exact ⟨h.lo, fun j o hj hl ha => h.fa j o hj (key j hl) ha, fun j i hm hl => h.fr j i hm (key j hl), h.rb, h.dj⟩
theorem unl {listed : Array Bool} {i j : Nat} (h : (listed.setIfInBounds i true).getD j true = false) : j ≠ i /\ listed.getD j true = false := by
 by_cases e : i = j
 ·subst e
  by_cases hlt : i < listed.size
  ·simp [hlt] at h
  ·simp [hlt] at h
 ·exact ⟨fun x => e x.symm, by rwa [getD_set_ne true e] at h⟩
section
variable {P : Program} {w0 : World} {σ : Sg} {hp : H} {n : Nat} {w : World} {fr : F} {ev : Operand -> Value} {k : KS} {φ : Out -> Prop} {ctrs : List (Nat × Option Cn)} {bd rd : Nat -> Cn}
def GoesA (w0 : World) (ops : Array Oper) (n0 : Nat) (listed : Array Bool) (rs : List (Nat × Nat)) (σ : Sg) (n : Nat) (k : KS) (φ : Out -> Prop) (v : Value) (w' : World) : Prop :=
 ∃ c hp' n' σ', VR σ' c v /\ Rel w0 σ' hp' n' w' /\ Le σ σ' /\ (∀ i, ¬ (n0 <= i /\ i < Y1 n) -> σ' i = σ i) /\ Nle n n' /\ Inv ops n0 listed rs σ' n' /\ Zz (k c hp' n') φ
theorem Zrq (hC : CsOk P w0 ctrs bd rd) {ops : Array Oper} {n0 : Nat} {listed : Array Bool} {rs : List (Nat × Nat)} (hI : Inv ops n0 listed rs σ n) (hhi : idN n <= Y1 n) (hR : Rel w0 σ hp n w) (hL : ∀ x, VR σ (lk fr x) (ev x))
  {j : Nat} {o : Oper} (hj : ops[j]? = some o) (hun : listed.getD j true = false) (h : Zz (levA P ctrs bd rd ops.toList n0 j rs o.op fr hp n k) φ) :
  ∃ ns ks, Yz P w0 σ ns ks φ w ((execOp ev o).run P w) /\ ∀ v w', ZyA w0 σ ns ks φ v w' -> GoesA w0 ops n0 (listed.setIfInBounds j true) rs σ n k φ v w' := by
 have hlim := hR.lim
 have hlo := hI.lo
 have hjl : ops.toList[j]? = some o := by rw [ZIP]; exact hj
 unfold levA at h
 cases ha : Yt o.op
 ·rw [ha] at h; simp only [cond_false] at h
  split at h
  ·rename_i i hi
   have hm := Zar hi
   obtain ⟨b1, b2⟩ := hI.rb _ _ hm
   obtain ⟨e1, e2⟩ := ZvM (lim := i + YP) (id := i) (by omega)
   have hR' : Rel w0 σ hp (mkN (i + YP) i) w := hR.renum (fun x h1 h2 => hI.fr _ _ hm hun x (by rw [e1] at h1; exact h1) (by rw [e2] at h2; exact h2)) (by rw [e2]; omega)
   refine ⟨_, _, Zea hC hR' hL h, ?_⟩
   rintro v w' ⟨c, hp', n', σ', g1, g2, g3, g4, g5⟩
   have same : ∀ x, ¬ (i <= x /\ x < i + YP) -> σ' x = σ x := fun x hx => g3.2 x (by rw [e1, e2]; exact hx)
   refine ⟨c, hp', n, σ', g1, g2.renum (fun x h1 h2 => by rw [same x (by omega)]; exact hR.fresh x h1 h2) hlim, g3.1, fun x hx => same x (by omega), Nle.refl _, ⟨hlo, fun j' o' hj' hl' ha' => ?_, fun j' i' hm' hl' x h1 h2 => ?_, hI.rb, hI.dj⟩, g5⟩
   ·obtain ⟨hne, hl'⟩ := unl hl'
    have := Zee (l := ops.toList) (j := j') (by rw [ZIP]; exact hj') ha'
    rw [same _ (by omega)]; exact hI.fa j' o' hj' hl' ha'
   ·obtain ⟨hne, hl'⟩ := unl hl'
    have := hI.dj _ _ _ _ hm hm' (Ne.symm hne)
    rw [same _ (by omega)]; exact hI.fr j' i' hm' hl' x h1 h2
  ·refine ⟨_, _, Zea hC hR hL h, ?_⟩
   rintro v w' ⟨c, hp', n', σ', g1, g2, g3, g4, g5⟩
   refine ⟨c, hp', n', σ', g1, g2, g3.1, fun x hx => g3.2 x (by omega), g4, ⟨by have := g4.1; omega, fun j' o' hj' hl' ha' => ?_, fun j' i' hm' hl' x h1 h2 => ?_, fun j' i' hm' => ⟨(hI.rb _ _ hm').1, by have := (hI.rb _ _ hm').2; have := g4.1; omega⟩, hI.dj⟩, g5⟩
   ·obtain ⟨hne, hl'⟩ := unl hl'
    have := Zee (l := ops.toList) (j := j') (by rw [ZIP]; exact hj') ha'
    rw [g3.2 _ (by omega)]; exact hI.fa j' o' hj' hl' ha'
   ·obtain ⟨hne, hl'⟩ := unl hl'
    have := hI.rb _ _ hm'
    rw [g3.2 _ (by omega)]; exact hI.fr j' i' hm' hl' x h1 h2
 ·rw [ha] at h; simp only [cond_true] at h
  have hr := Zee hjl ha
  obtain ⟨e1, e2⟩ := ZvM (lim := n0 + Zb1 ops.toList j + 1) (id := n0 + Zb1 ops.toList j) (by omega)
  have hR' : Rel w0 σ hp (mkN (n0 + Zb1 ops.toList j + 1) (n0 + Zb1 ops.toList j)) w := hR.renum (fun x h1 h2 => by
   rw [e1] at h1; rw [e2] at h2
   have : x = n0 + Zb1 ops.toList j := by omega
   rw [this]; exact hI.fa j o hj hun ha) (by rw [e2]; omega)
  refine ⟨_, _, Zea hC hR' hL h, ?_⟩
  rintro v w' ⟨c, hp', n', σ', g1, g2, g3, g4, g5⟩
  have same : ∀ x, x ≠ n0 + Zb1 ops.toList j -> σ' x = σ x := fun x hx => g3.2 x (by rw [e1, e2]; omega)
  refine ⟨c, hp', n, σ', g1, g2.renum (fun x h1 h2 => by rw [same x (by omega)]; exact hR.fresh x h1 h2) hlim, g3.1, fun x hx => same x (by omega), Nle.refl _, ⟨hlo, fun j' o' hj' hl' ha' => ?_, fun j' i' hm' hl' x h1 h2 => ?_, hI.rb, hI.dj⟩, g5⟩
  ·obtain ⟨hne, hl'⟩ := unl hl'
   have := Zmx (l := ops.toList) (by rw [ZIP]; exact hj') hjl ha' ha hne
   rw [same _ (by omega)]; exact hI.fa j' o' hj' hl' ha'
  ·obtain ⟨hne, hl'⟩ := unl hl'
   have := hI.rb _ _ hm'
   rw [same _ (by omega)]; exact hI.fr j' i' hm' hl' x h1 h2
end
theorem Zdi (ops : List Oper) : ∀ (l : List Nat) (rs : List (Nat × Nat)) (n : Nat), n <= (ZdG ops l rs n).2
 | [], rs, n => ZIQ _
 | j :: l, rs, n => by
  unfold ZdG
  split
  ·rename_i o ho
   cases Zri o.op
   ·exact Zdi ops l rs n
   ·simp only [cond_true]
    split
    ·exact Zdi ops l rs n
    ·exact Nat.le_trans (Nat.le_add_right _ _) (Zdi ops l _ (n + YP))
  ·exact Zdi ops l rs n
theorem Zba {ops : Array Oper} {n0 : Nat} {listed : Array Bool} {σ : Sg} : ∀ (l : List Nat) (rs : List (Nat × Nat)) (n : Nat), Inv ops n0 listed rs σ n -> Y1 (ZdG ops.toList l rs n).2 = Y1 n →
  (∀ x, idN n <= x -> x < idN (ZdG ops.toList l rs n).2 -> σ x = none) -> Inv ops n0 listed (ZdG ops.toList l rs n).1 σ (ZdG ops.toList l rs n).2
 | [], rs, n, h, _, _ => h
 | j :: l, rs, n, h, hl, hf => by
  unfold ZdG at hl hf ⊢
  split at hl
  ·rename_i o ho
   simp only [ho] at hf ⊢
   cases hc : Zri o.op
   ·rw [hc] at hl hf; exact Zba l rs n h hl hf
   ·rw [hc] at hl hf
    simp only [cond_true] at hl hf ⊢
    cases has : ZT rs j with
    | some i => rw [has] at hl hf; exact Zba l rs n h hl hf
    | none =>
     rw [has] at hl hf
     simp only at hl hf ⊢
     have hle := Zdi ops.toList l ((j, idN n) :: rs) (n + YP)
     generalize hg : ZdG ops.toList l ((j, idN n) :: rs) (n + YP) = g at hl hf hle
     have e1 : Y1 (n + YP) = Y1 n := by unfold Y1 YP at *; omega
     have e2 : idN (n + YP) = idN n + YP := by unfold idN Y1 YP at *; omega
     have e3 : idN (n + YP) <= idN g.2 := by unfold idN Y1 YP at *; omega
     have := Zba (listed := listed) (σ := σ) (n0 := n0) l ((j, idN n) :: rs) (n + YP) ⟨by have := h.lo; omega, h.fa, fun j' i' hm hl' x h1 h2 => ?_, fun j' i' hm => ?_, fun j1 i1 j2 i2 h1 h2 hne => ?_⟩ (by rw [hg, hl, e1]) (by rw [hg]; exact fun x h1 h2 => hf x (by omega) h2)
     ·rw [hg] at this; exact this
     ·rcases List.mem_cons.1 hm with e | hm
      ·cases e; exact hf x h1 (by omega)
      ·exact h.fr j' i' hm hl' x h1 h2
     ·rcases List.mem_cons.1 hm with e | hm
      ·cases e; exact ⟨h.lo, by omega⟩
      ·have := h.rb _ _ hm; exact ⟨this.1, by omega⟩
     ·rcases List.mem_cons.1 h1 with e | h1
      ·cases e
       rcases List.mem_cons.1 h2 with e | h2
       ·cases e; exact absurd rfl hne
       ·have := h.rb _ _ h2; right; exact this.2
      ·rcases List.mem_cons.1 h2 with e | h2
       ·cases e; have := h.rb _ _ h1; left; exact this.2
       ·exact h.dj _ _ _ _ h1 h2 hne
  ·rename_i ho
   simp only [ho] at hf ⊢
   exact Zba l rs n h hl hf
end Go.Cx
namespace Go.Cx
open Go.RowKit (Below)
section
variable {P : Program} {w0 : World} {φ : Out -> Prop} {ctrs : List (Nat × Option Cn)} {bd rd : Nat -> Cn} {ro : Option Nat}
def ZC0 (σ : Sg) (r : Rec) (s : Say) : Prop := r.i = s.i /\ r.o = s.o /\ (∀ x, VR σ (lk r.fr x) (s.ev x)) /\ VR σ r.v s.v
theorem ZC0.mono {σ τ : Sg} (h : Le σ τ) {r : Rec} {s : Say} (k : ZC0 σ r s) : ZC0 τ r s := ⟨k.1, k.2.1, fun x => (k.2.2.1 x).mono h, k.2.2.2.mono h⟩
theorem Zns {σ : Sg} {hp : H} {n : Nat} {w : World} (hR : Rel w0 σ hp n w) {r : Rec} {s : Say} (hr : ZC0 σ r s) (h : ZnI P hp r = true) : (execOp s.ev s.o).run P w = .ok (.value s.v) w := by
 obtain ⟨h1, h2, h3, h4⟩ := hr
 unfold ZnI at h
 obtain ⟨hd, h⟩ := Yq h
 split at h
 ·rename_i hq
  have hg : Zz (qev P r.fr hp r.o.op (fun v => bif CV.bq r.v v then some [] else none)) (fun _ => True) := ⟨[], hq, fun _ _ => trivial⟩
  obtain ⟨c, v, g1, g2, g3⟩ := Zbg (o := r.o) hR h3 hg
  obtain ⟨g4, _⟩ := g3.bif
  have := CV.bq_t g4; subst this
  rw [<- h2, g1, ZpL hd g2 h4]
 ·cases h
theorem ZdC (hC : CsOk P w0 ctrs bd rd) {ops : Array Oper} {n0 : Nat} {k : F -> H -> Nat -> Res} {Q : Exit -> Act -> World -> Prop} (hns : Region.noSelect ops = true) (hnd : ∀ (j : Nat) (o : Oper) c, ops[j]? = some o -> o.op ≠ .defer c) (hQp : ∀ c a w, ¬ Q (.panic c) a w) :
  ∀ (fuel : Nat) (listed : Array Bool) (rs : List (Nat × Nat)) (recs : List Rec) (σ : Sg) (hp : H) (n : Nat) (fr : F) (X : Nat -> Prop) (R : List Say) (kk : Nat) (a : Act) (w : World),
   Rel w0 σ hp n w -> FrR σ fr a -> ZuZ ro fr -> Inv ops n0 listed rs σ n -> Zbk ops listed -> (∀ j, X j -> listed.getD j true = true) →
   (∀ s ∈ R, ZaF ops X listed s -> ∃ r ∈ recs, ZC0 σ r s) -> TR P ops X R listed w -> left listed <= kk -> Zz (ZbJ P ctrs bd rd ops n0 fuel listed rs recs fr hp n k) φ →
   (∀ σ' fr' hp' n' a' w', Rel w0 σ' hp' n' w' -> FrR σ' fr' a' -> ZuZ ro fr' -> Le σ σ' -> (∀ i, ¬ (n0 <= i /\ i < Y1 n) -> σ' i = σ i) -> Nle n n' -> Zz (k fr' hp' n') φ -> Q .normal a' w') -> Z9 P ro ops Q (TR P ops X R) kk listed a w := by
 intro fuel
 induction fuel with
 | zero => intro listed rs recs σ hp n fr X R kk a w _ _ _ _ _ _ _ _ _ h _; exact h.no.elim
 | succ fuel ih =>
  intro listed rs recs σ hp n fr X R kk a w hR hF hro hI hc hX hrel hT hk h hK
  simp only [ZbJ] at h
  split at h
  ·rename_i hr
   exact Zb4 hr (hK σ fr hp n a w hR hF hro (Le.refl _) (fun _ _ => rfl) (Nle.refl _) h) kk
  ·rename_i i0 rest hready
   have hro' : ∀ d c, ZuZ ro (ZyC fr d c) := fun d c => by
    rcases hro with h | h
    ·exact .inl h
    ·exact .inr (by rw [Zi7 hF]; exact h)
   split at h
   ·-- a quiet one is taken first
    rename_i i o hfq
    obtain ⟨hmem, hi⟩ := Yc hfq
    rw [ZdF, ZIP] at hi
    have hir : i ∈ Region.ready .any ops listed := by rw [hready]; exact hmem
    have hil := (mem_ready.1 hir).1
    obtain ⟨hfree, h⟩ := h.bif
    obtain ⟨k', rfl⟩ : ∃ k', kk = k' + 1 := ⟨kk - 1, by have := ZaR hil; omega⟩
    have hk' : left (listed.setIfInBounds i true) <= k' := by have := ZaR hil; omega
    have hX' : ∀ j, (X j \/ j = i) -> (listed.setIfInBounds i true).getD j true = true := by
     rintro j (hj | rfl)
     ·by_cases hij : i = j
      ·subst hij; exact Zx hil _
      ·rw [getD_set_ne true hij]; exact hX j hj
     ·exact Zx hil _
    have mono : ∀ R', (∀ s ∈ R, s ∈ R') -> ∀ l w, TR P ops (fun j => X j \/ j = i) R' l w -> TR P ops X R l w := fun R' hsub l w hT' s hs hv =>
     hT' s (hsub s hs) fun j o' hj hx hlj => hv j o' hj (fun h' => hx (.inl h')) hlj
    have core : ∀ (R' : List Say) (v : Value) , (∀ s ∈ R, s ∈ R') -> ZA P ops (TR P ops (fun j => X j \/ j = i) R') i o v a -> TR P ops (fun j => X j \/ j = i) R' listed w →
      Z9 P ro ops Q (TR P ops (fun j => X j \/ j = i) R') k' (listed.setIfInBounds i true) (a.put o.dst v) w -> Z9 P ro ops Q (TR P ops X R) (k' + 1) listed a w := by
     intro R' v hsub hy hTl hrest
     refine Za9 (mono R' hsub) _ _ _ _ ?_
     refine ZcJ hi (Region.noSelect_spec hns) hnd (fun c a w h' => absurd h' (hQp c _ w)) ?_ k' listed a w hc (Region.free_spec hi hfree) hir hy hTl ?_ hrest
     ·intro l w hTl s hs hv; exact hTl s hs (valid_setX' hv)
     ·intro s hs hv; exact hTl s hs (Yn hv)
    have hT1 : TR P ops (fun j => X j \/ j = i) R listed w := fun s hs hv => hT s hs (ZbO hil hv)
    have hrel1 : ∀ s ∈ R, ZaF ops (fun j => X j \/ j = i) (listed.setIfInBounds i true) s -> ∃ r ∈ recs, ZC0 σ r s := fun s hs hv => hrel s hs (ZbO hil (Yn hv))
    have hg := Yg hF ops o
    split at h
    ·rename_i he
     have hw := hg.1 he
     obtain ⟨c, x, hrun, hx, hk2⟩ := Zbg (o := o) hR (ZqK hF) h
     refine core (⟨i, o, a.eval, x⟩ :: R) x (fun s hs => ZI6 _ hs) ?_ ?_ ?_
     ·refine .inl ⟨hw, fun l w hcl hli hTl => hTl ⟨i, o, a.eval, x⟩ ZI8 ?_⟩
      intro j o' hj hx' hlj
      cases hwt : ZgN o' i
      ·rfl
      ·exfalso
       obtain ⟨e, he, hbe⟩ := Array.any_eq_true'.1 hwt
       simp only [Bool.and_eq_true, beq_iff_eq] at hbe
       have := hcl j o' hj hlj e he hbe.1
       rw [hbe.2] at this
       have hlt := Zgw hli
       simp [hlt] at this hli
       rw [hli] at this; cases this
     ·intro s hs hv'
      rcases List.mem_cons.1 hs with rfl | hs
      ·exact hrun
      ·exact hT1 s hs hv'
     ·refine ih _ _ _ _ _ _ _ _ _ k' _ w hR (hF.put hx) (hro' _ _) (hI.less i) (hc.set hir) hX' ?_ ?_ hk' hk2 hK
      ·intro s hs hv'
       rcases List.mem_cons.1 hs with rfl | hs
       ·exact ⟨_, ZI8, rfl, rfl, ZqK hF, hx⟩
       ·obtain ⟨r, hr, hrd⟩ := hrel1 s hs hv'
        exact ⟨r, ZI6 _ hr, hrd⟩
      ·intro s hs hv'
       rcases List.mem_cons.1 hs with rfl | hs
       ·exact hrun
       ·exact hT1 s hs (Yn hv')
    ·rename_i he
     refine core R undef (fun s hs => hs) (.inr ⟨hg.2 he, rfl⟩) hT1 ?_
     exact ih _ _ _ _ _ _ _ _ _ k' _ w hR (hF.put Zca) (hro' _ _) (hI.less i) (hc.set hir) hX' hrel1 (fun s hs hv => hT1 s hs (Yn hv)) hk' h hK
    ·exact h.no.elim
   ·-- loud ones: whichever comes
    have hir0 : i0 ∈ Region.ready .any ops listed := by rw [hready]; exact ZI8
    have hil0 := (mem_ready.1 hir0).1
    obtain ⟨k', rfl⟩ : ∃ k', kk = k' + 1 := ⟨kk - 1, by have := ZaR hil0; omega⟩
    -- the names for calls
    have hgp : ∀ g, (bif Zcn ops.toList 0 (i0 :: rest) then ZdG ops.toList (i0 :: rest) rs n else (rs, n)) = g -> Y1 g.2 = Y1 n -> idN g.2 <= Y1 g.2 -> Inv ops n0 listed g.1 σ g.2 /\ n <= g.2 := by
     rintro g rfl
     cases Zcn ops.toList 0 (i0 :: rest)
     ·exact fun _ _ => ⟨hI, ZIQ _⟩
     ·exact fun e1 e2 => ⟨Zba _ _ _ hI e1 (fun x h1 h2 => hR.fresh x h1 (by simp only [cond_true] at e1 e2; omega)), Zdi _ _ _ _⟩
    generalize hgg : (bif Zcn ops.toList 0 (i0 :: rest) then ZdG ops.toList (i0 :: rest) rs n else (rs, n)) = g at h
    have hgp := hgp g hgg
    obtain ⟨rs', m⟩ := g
    simp only at h hgp
    obtain ⟨hcond, h⟩ := h.bif
    obtain ⟨c1, c2⟩ := Yq hcond
    have hhi := ZJd c1
    have c2 := nbq c2
    obtain ⟨hIm, i2⟩ := hgp c2 hhi
    have hnm : Nle n m := ⟨by unfold idN Y1 at *; omega, c2⟩
    have hRm : Rel w0 σ hp m w := hR.weak (fun _ => .inl rfl) hnm
    refine ⟨fun h0 => (by rw [h0] at hir0; cases hir0), fun j hj => ?_⟩
    have hil := (mem_ready.1 hj).1
    have hir := hj
    have hk' : left (listed.setIfInBounds j true) <= k' := by have := ZaR hil; omega
    rw [hready] at hj
    have h := Zh4 h j hj
    split at h
    ·rename_i o hi
     rw [ZdF, ZIP] at hi
     have hg := Yg hF ops o
     split at h
     ·rename_i he
      have hw := hg.1 he
      unfold Go.wpOpIn
      simp only [hi, hw, if_true]
      obtain ⟨ns, ks, hl, hgo⟩ := Zrq hC hIm hhi hRm (ZqK hF) hi hil h
      refine Yz.wpIn (fun c => hnd j o c hi) hl (fun v w' hv => ?_)
      obtain ⟨c, hp', n', σ', hv', hR', hle, hex, hn', hI', hk2⟩ := hgo v w' hv
      simp only at hk2
      obtain ⟨hall, hk2⟩ := hk2.bif
      have hrel2 : ∀ s ∈ R, ZaF ops X (listed.setIfInBounds j true) s -> ∃ r ∈ recs.filter (fun r => !(ZgN o r.i)), ZC0 σ' r s := by
       intro s hs hv
       obtain ⟨r, hr, hrd⟩ := hrel s hs (Zfg hil hv)
       refine ⟨r, List.mem_filter.2 ⟨hr, ?_⟩, hrd.mono hle⟩
       have := hv j o hi (fun hx => by have := hX j hx; rw [hil] at this; cases this) (Zx hil _)
       rw [hrd.1, this]; rfl
      have hT2 : TR P ops X R (listed.setIfInBounds j true) w' := by
       intro s hs hv
       obtain ⟨r, hr, hrd⟩ := hrel2 s hs hv
       exact Zns hR' hrd (List.all_eq_true.1 hall r hr)
      have hF' := hF.mono hle
      refine ⟨hT2, ih _ _ _ _ _ _ _ X R k' _ w' hR' (hF'.put hv') (hro' _ _) hI' (hc.set hir) ?_ hrel2 hT2 hk' hk2 ?_⟩
      ·intro j' hj'
       by_cases hij : j = j'
       ·subst hij; exact Zx hil _
       ·rw [getD_set_ne true hij]; exact hX j' hj'
      ·intro σ2 fr2 hp2 n2 a2 w2 r1 r2 r3 r4 r5 r6 r7
       refine hK _ _ _ _ _ _ r1 r2 r3 (hle.trans r4) (fun i hi => ?_) ((hnm.trans hn').trans r6) r7
       have e1 : Y1 n' = Y1 n := by rw [hn'.2, hnm.2]
       rw [r5 i (by rw [e1]; exact hi), hex i (by rw [hnm.2]; exact hi)]
     ·exact h.no.elim
    ·exact h.no.elim
end
end Go.Cx
namespace Go.Cx
open Go.RowKit (Below)
section
variable {P : Program} {w0 : World} {φ : Out -> Prop} {ctrs : List (Nat × Option Cn)} {bd rd : Nat -> Cn} {ro : Option Nat}
/-! ### Loops -/
def WpL (F : Fence) (P : Program) (c : Code) (Q : Exit -> Act -> World -> Prop) (a : Act) (w : World) : Prop :=
 ∀ (b : Frame) (k : List Item) (cs : List Frame), b.roundOf = F.round -> F.fn b.fn -> F.room (cs.length + 1 + 0) -> ∃ e a' w', Q e a' w' /\ ArrivesIn (Machine.fenced P F) P (lone (b.atR a (.code c :: .inLoop c :: k)) cs w) b k cs e a' w'
theorem Zy7 {F : Fence} {c : Code} {Q : Exit -> Act -> World -> Prop} {a : Act} {w : World} (h : WpL F P c Q a w) : (Code.loop c).wpIn F 0 P Q a w := by
 intro b k cs hro hb hr
 obtain ⟨e, a', w', hq, harr⟩ := h b k cs hro hb hr
 exact ⟨e, a', w', hq, .of_steps (.one (fenced_calm hb hr rfl) stepR_loop) harr⟩
theorem ZyU {F : Fence} {c : Code} {Q : Exit -> Act -> World -> Prop} {a : Act} {w : World} (h : c.wpIn F 0 P (Exit.then (WpL F P c Q) Q) a w) : WpL F P c Q a w := by
 intro b k cs hro hb hr
 obtain ⟨e, a₁, w₁, hq, harr⟩ := h b (.inLoop c :: k) cs hro hb hr
 cases e with
 | normal =>
  obtain ⟨e₂, a₂, w₂, hq₂, harr₂⟩ := hq b k cs hro hb hr
  exact ⟨e₂, a₂, w₂, hq₂, .of_steps (StepsIn.trans harr (.one (fenced_calm hb hr rfl) stepR_inLoop)) harr₂⟩
 | exit id => exact ⟨_, a₁, w₁, hq, .pass (x := .inLoop c) rfl (fun _ _ => .inl (by simp)) harr⟩
 | goto l => exact ⟨_, a₁, w₁, hq, .pass (x := .inLoop c) rfl (fun _ _ => .inl (by simp)) harr⟩
 | ret => exact ⟨_, a₁, w₁, hq, .pass (x := .inLoop c) rfl (fun _ _ => .inl (by simp)) harr⟩
 | panic ch => exact ⟨_, a₁, w₁, hq, .pass (x := .inLoop c) rfl (fun _ _ => .inl (by simp)) harr⟩
 | outgrown => exact ⟨_, a₁, w₁, hq, .pass (x := .inLoop c) rfl (fun _ _ => .inl (by simp)) harr⟩
def CxW (F : Fence) (P : Program) : Code -> (Exit -> Act -> World -> Prop) -> Act -> World -> Prop
 | .loop b, Q, a, w => WpL F P b Q a w
 | c, Q, a, w => c.wpIn F 0 P Q a w
theorem CxW.wp {F : Fence} {c : Code} {Q : Exit -> Act -> World -> Prop} {a : Act} {w : World} (h : CxW F P c Q a w) : c.wpIn F 0 P Q a w := by
 unfold CxW at h
 split at h
 ·exact Zy7 h
 ·exact h
theorem Zmj {ops : Array Oper} (h : Zki ops.toList = true) : ∀ (j : Nat) (o : Oper) c, ops[j]? = some o -> o.op ≠ .defer c := by
 intro j o c hj
 rw [<- ZIP] at hj
 revert h hj
 generalize ops.toList = l
 intro h hj
 induction l generalizing j with
 | nil => cases hj
 | cons x l ih =>
  unfold Zki at h
  cases hx : Zv0 x.op
  ·rw [hx] at h
   cases j with
   | zero => simp at hj; subst hj; intro e; rw [e] at hx; cases hx
   | succ j => exact ih j h (by simpa using hj)
  ·rw [hx] at h; cases h
end
end Go.Cx
namespace Go.Cx
open Go.RowKit (Below)
section
variable {P : Program} {w0 : World} {φ : Out -> Prop} {ctrs : List (Nat × Option Cn)} {bd rd : Nat -> Cn} {ro : Option Nat}
theorem ZrY {l : Nat} {hp hp' : H} {j : Option Code} {σ : Sg} {n : Nat} {w : World} {p t : Nat} (hR : Rel w0 σ hp n w) (hs : σ l = some (p, t)) (h : endL l hp = some (j, hp')) :
  ∃ w', (Instr.endLoop p).run P w = .ok j w' /\ Rel w0 σ hp' n w' := by
 unfold endL at h
 split at h
 ·rename_i fn fr ps assign body db st pend he
  cases hb : Nat.beq st 1
  ·rw [hb] at h; cases h
   obtain ⟨q, u, tm, g, h1, h2, h3, h4⟩ := hR.at hs he (by simp)
   have hlt : p < w.heap.size := (Array.getElem?_eq_some_iff.1 h4).1
   refine ⟨_, run_endLoop h4 ?_, hR.upd hs (by rw [he]; simp) World.putObj_size (fun k hk => World.putObj_heap_other hk) rfl rfl rfl ⟨q, u, tm, g, h1, h2, h3, ?_⟩⟩
   ·have hne : st ≠ 1 := fun e => by subst e; cases hb
    show Zuz st ≠ .busy
    unfold Zuz
    split <;> simp_all
   ·exact World.putObj_heap_same hlt
  ·rw [hb] at h; cases h
 ·cases h
theorem ZlD {vro : Option Nat} {σ : Sg} {fr : F} {hp : H} {n : Nat} {a : Act} {w : World} {ps : Array Tmp} {assign body : Code} {fnv fn0 : Nat} {l : Nat} {fr' : F} {hp' : H} {n' : Nat}
  (hvro : (vro = none /\ ro = none) \/ ∃ l p t, vro = some l /\ ro = some p /\ σ l = some (p, t))
  (hR : Rel w0 σ hp n w) (hF : FrR σ fr a) (hro : ZuZ ro fr) (h : Zv4 vro fnv ps.toList assign body fr hp n = some (l, fr', hp', n')) :
  ∃ p t mark w' σ', (Instr.enterLoop fn0 a.tmps ps assign body ro).run P w = .ok (p, mark) w' /\ σ' l = some (p, t) /\ Rel w0 σ' hp' n' w' /\ FrR σ' fr' { a with defers := mark ++ a.defers } /\ ZuZ ro fr' /\ Ex n σ σ' /\ Nle n n' := by
 have hlim := hR.lim
 unfold Zv4 at h
 rcases hvro with ⟨rfl, rfl⟩ | ⟨l0, p0, t0, rfl, rfl, hl0⟩
 ·simp only at h
  cases hb : Nat.blt (idN n + 1) (Y1 n)
  ·rw [hb] at h; cases h
  ·rw [hb] at h
   simp only [cond_true, Option.some.injEq, Prod.mk.injEq] at h
   obtain ⟨rfl, rfl, rfl, rfl⟩ := h
   have hb : idN n + 1 < Y1 n := by simpa [Nat.blt_eq] using hb
   obtain ⟨e1, e2⟩ := ZlA (by omega : idN n < Y1 n) hlim
   obtain ⟨e3, e4⟩ := ZlA (n := n + 1) (by omega) (by omega)
   have e3 : idN (n + 2) = idN n + 2 := by show idN (n + 1 + 1) = _; omega
   have e4 : Y1 (n + 2) = Y1 n := by show Y1 (n + 1 + 1) = _; omega
   have hf1 : σ (idN n) = none := hR.fresh _ (ZIQ _) (by omega)
   have hR1 := hR.new (i := idN n) (t := 0) (m := n + 1) (c := .dfr) (by omega) hf1 (.deferred (some [])) (fun τ _ _ => Yv w _) e2 (fun j hj _ => ⟨by omega, by omega⟩)
   have hf2 : (ZoX σ (idN n) w.heap.size 0) (idN n + 1) = none := hR1.fresh _ (by omega) (by omega)
   have hR2 := hR1.new (i := idN n + 1) (t := 0) (m := n + 2) (c := .loop fnv fr ps.toList assign body (idN n) 0 none) (by omega) hf2
    (.loop { state := .ready, pending := none, fn := fn0, tmps := a.tmps, params := ps, assign, body, defers := w.heap.size })
    (fun τ hle _ => ⟨w.heap.size, 0, a.tmps, fn0, hle _ _ (Zau _ _ _), ⟨hF.sz, hF.small⟩, fun i v hv => (hF.val i v hv).mono ((Le.upd hf1).trans hle), by
     have := Yv { w with heap := w.heap.push (.deferred (some [])) } (.loop { state := .ready, pending := none, fn := fn0, tmps := a.tmps, params := ps, assign, body, defers := w.heap.size })
     exact this⟩) (by omega) (fun j hj _ => ⟨by omega, by omega⟩)
   refine ⟨_, 0, _, _, _, run_enterLoop_outer fn0 a.tmps ps assign body, ?_, hR2, ?_, .inl rfl, ⟨(Le.upd hf1).trans (Le.upd hf2), fun i hi => ?_⟩, ⟨by omega, e4⟩⟩
   ·rw [Zau]
    show some (_, _) = _
    congr 2
    show (w.heap.push _).size = _
    simp
   ·refine (hF.mono ((Le.upd hf1).trans (Le.upd hf2))).push ?_
    unfold DfR
    exact ⟨w.heap.size, 0, a.defers, (Le.upd hf2) _ _ (Zau _ _ _), rfl, hF.df.mono ((Le.upd hf1).trans (Le.upd hf2))⟩
   ·unfold ZoX
    rw [if_neg (fun e => hi ⟨by omega, by omega⟩), if_neg (fun e => hi ⟨by omega, by omega⟩)]
 ·simp only at h
  split at h
  ·rename_i fn1 fr1 ps1 as1 bo1 db st1 pe1 he
   cases hb : Nat.blt (idN n) (Y1 n)
   ·rw [hb] at h; cases h
   ·rw [hb] at h
    simp only [cond_true, Option.some.injEq, Prod.mk.injEq] at h
    obtain ⟨rfl, rfl, rfl, rfl⟩ := h
    have hb : idN n < Y1 n := by simpa [Nat.blt_eq] using hb
    obtain ⟨e1, e2⟩ := ZlA hb hlim
    obtain ⟨q, u, tm, g, h1, h2, h3, h4⟩ := hR.at hl0 he (by simp)
    have hf1 : σ (idN n) = none := hR.fresh _ (ZIQ _) (by omega)
    have hR1 := hR.new (i := idN n) (t := 0) (m := n + 1) (c := .loop fnv fr ps.toList assign body db 0 none) (by omega) hf1
     (.loop { state := .ready, pending := none, fn := fn0, tmps := a.tmps, params := ps, assign, body, defers := q })
     (fun τ hle _ => ⟨q, u, a.tmps, fn0, hle _ _ h1, ⟨hF.sz, hF.small⟩, fun i v hv => (hF.val i v hv).mono hle, Yv w _⟩) e2 (fun j hj _ => ⟨by omega, by omega⟩)
    refine ⟨w.heap.size, 0, [], _, _, ?_, Zau _ _ _, hR1, ?_, hro, ⟨Le.upd hf1, fun i hi => ?_⟩, ⟨by omega, e2⟩⟩
    ·unfold Instr.enterLoop
     simp only [Sem.run_bind, run_getLoop h4, run_newObj_alloc, Result.andThen, Sem.run_pure]
     rfl
    ·exact hF.mono (Le.upd hf1)
    ·unfold ZoX
     rw [if_neg (fun e => hi ⟨by omega, by omega⟩)]
  ·cases h
theorem ZmR {k : KS} {σ : Sg} {hp : H} {n : Nat} {w : World} (hC : CsOk P w0 ctrs bd rd) (hR : Rel w0 σ hp n w) {g : CV} {vg : Value} (hg : VR σ g vg) {args : List CV} {xs : List Value} (hx : VRs σ args xs) (h : Zz (ZDc ctrs bd g args hp n k) φ) :
  ∃ d f ys, (Deferred.ofValue vg xs.toArray).run P w = .ok d w /\ (invoke d.target d.args).run P w = .ok (.enter f ys) w /\ CallsIn (FF none) 0 P f ys w (fun e w' => ∃ v, e = .returned v /\ ZyA w0 σ n k φ v w') := by
 unfold ZDc at h
 split at h
 ·rename_i f first caps
  simp only [VR] at hg; obtain ⟨us, vs, h1, h2, rfl⟩ := hg
  have key : ∀ mg, Zz (after mg n (bd f ((first ++ args) ++ caps) hp n) k) φ -> (callFunc f ((us ++ xs) ++ vs).toArray).run P w = .ok (.enter f ((us ++ xs) ++ vs).toArray) w /\ CallsIn (FF none) 0 P f ((us ++ xs) ++ vs).toArray w (fun e w' => ∃ v, e = .returned v /\ ZyA w0 σ n k φ v w') := by
   intro mg h
   obtain ⟨os, hl, hgo⟩ := Zb5 h
   obtain ⟨q1, q2⟩ := hC.bd f _ hp n σ w _ os hR ((h1.app hx).app h2) hl
   refine ⟨q1, CallsIn.mono q2 fun e w' he => ?_⟩
   obtain ⟨v, rfl, hr⟩ := he
   exact ⟨v, rfl, hgo _ _ hr⟩
  have e : (us ++ xs ++ vs).toArray = us.toArray ++ xs.toArray ++ vs.toArray := by apply Array.ext'; simp
  have : ∃ mg, Zz (after mg n (bd f ((first ++ args) ++ caps) hp n) k) φ := by
   split at h
   ·split at h
    ·exact h.no.elim
    ·exact ⟨_, h⟩
   ·exact ⟨_, h⟩
  obtain ⟨mg, h⟩ := this
  obtain ⟨q1, q2⟩ := key mg h
  rw [e] at q1 q2
  exact ⟨_, f, _, rfl, q1, q2⟩
 ·exact h.no.elim
theorem ZAL (hC : CsOk P w0 ctrs bd rd) {fn : Nat} {vro : Option Nat} {fuel : Nat} {g : Operand} {ps : Array Tmp} {assign body : Code} {σ : Sg} {fr : F} {hp : H} {n : Nat} {kn : F -> H -> Nat -> Res} {ke : Nat -> F -> H -> Nat -> Res} {kr : F -> H -> Nat -> Res} {a : Act} {w : World} {Q : Exit -> Act -> World -> Prop}
  (hvro : (vro = none /\ ro = none) \/ ∃ l p t, vro = some l /\ ro = some p /\ σ l = some (p, t))
  (hR : Rel w0 σ hp n w) (hF : FrR σ fr a) (hro : ZuZ ro fr) (h : Zz (cx P ctrs bd rd fn vro (fuel + 1) (.rangeFunc g ps assign body) fr hp n kn ke kr) φ)
  (hN : ∀ σ' fr' hp' n' a' w', St w0 ro σ n σ' fr' hp' n' a' w' -> Zz (kn fr' hp' n') φ -> Q .normal a' w')
  (hE : ∀ i σ' fr' hp' n' a' w', St w0 ro σ n σ' fr' hp' n' a' w' -> Zz (ke i fr' hp' n') φ -> Q (.exit i) a' w')
  (hK : ∀ σ' fr' hp' n' a' w', St w0 ro σ n σ' fr' hp' n' a' w' -> Zz (kr fr' hp' n') φ -> Q .ret a' w') : (Code.rangeFunc g ps assign body).wpIn (FF ro) 0 P Q a w := by
 simp only [cx] at h
 split at h
 ·rename_i l fr1 hp1 n1 hl
  refine wpIn_rangeFunc fun fn0 _ => ?_
  obtain ⟨p, t, mark, w1, σ1, g1, g2, g3, g4, g5, g6, g7⟩ := ZlD (P := P) (fn0 := fn0) hvro hR hF hro hl
  have hg := ZqK g4 g
  obtain ⟨d, f, ys, r1, r2, r3⟩ := ZmR hC g3 hg (args := [.yld l]) (xs := [.func (.yield p) #[] #[]]) (by simp only [VRs, VR]; exact ⟨_, _, rfl, ⟨p, t, g2, rfl⟩, rfl⟩) h
  refine ⟨p, mark, w1, d, w1, f, ys, w1, g1, ?_, fun f' _ => trivial, r2, fun h => (by cases h), ?_⟩
  ·have ea : (rangeCall g p).args.map a.eval = #[Value.func (Fn.yield p) #[] #[]] := by simp [Act.eval]
   simp only [resolve, ea]
   exact r1
  ·refine CallsIn.mono (Zp3 r3) fun e w3 he => ?_
   obtain ⟨v, rfl, c, hp2, n2, σ2, s1, s2, s3, s4, s5⟩ := he
   simp only at s5
   split at s5
   ·rename_i j hp3 hj
    obtain ⟨w4, q1, q2⟩ := ZrY (P := P) s2 (s3.1 _ _ g2) hj
    have hS : St w0 ro σ n σ2 fr1 hp3 n2 { a with defers := mark ++ a.defers } w4 := ⟨q2, g4.mono s3.1, g5, g6.trans g7 s3, g7.trans s4⟩
    refine ⟨j, w4, q1, ?_⟩
    unfold jump at s5
    split at s5
    ·exact hN _ _ _ _ _ _ hS s5
    ·exact wpIn_ret (hK _ _ _ _ _ _ hS s5)
    ·exact wpIn_exit (hE _ _ _ _ _ _ _ hS s5)
    ·exact s5.no.elim
   ·exact s5.no.elim
 ·exact h.no.elim
theorem Zjt (hC : CsOk P w0 ctrs bd rd) {fn : Nat} {vro : Option Nat} : ∀ (fuel : Nat) (c : Code) {σ : Sg} {fr : F} {hp : H} {n : Nat} {kn : F -> H -> Nat -> Res} {ke : Nat -> F -> H -> Nat -> Res} {kr : F -> H -> Nat -> Res} {a : Act} {w : World} {Q : Exit -> Act -> World -> Prop},
  ((vro = none /\ ro = none) \/ ∃ l p t, vro = some l /\ ro = some p /\ σ l = some (p, t)) →
  Rel w0 σ hp n w -> FrR σ fr a -> ZuZ ro fr -> Zz (cx P ctrs bd rd fn vro fuel c fr hp n kn ke kr) φ -> (∀ c a w, ¬ Q (.panic c) a w) →
  (∀ σ' fr' hp' n' a' w', St w0 ro σ n σ' fr' hp' n' a' w' -> Zz (kn fr' hp' n') φ -> Q .normal a' w') →
  (∀ i σ' fr' hp' n' a' w', St w0 ro σ n σ' fr' hp' n' a' w' -> Zz (ke i fr' hp' n') φ -> Q (.exit i) a' w') →
  (∀ σ' fr' hp' n' a' w', St w0 ro σ n σ' fr' hp' n' a' w' -> Zz (kr fr' hp' n') φ -> Q .ret a' w') -> CxW (FF ro) P c Q a w := by
 intro fuel
 induction fuel with
 | zero => intro c σ fr hp n kn ke kr a w Q _ _ _ _ h; exact h.no.elim
 | succ fuel ih =>
  intro c σ fr hp n kn ke kr a w Q hvro hR hF hro h hQp hN hE hK
  have st0 : St w0 ro σ n σ fr hp n a w := ⟨hR, hF, hro, Ex.refl _ _, Nle.refl _⟩
  have vnext : ∀ {σ' fr' hp' n' a' w'}, St w0 ro σ n σ' fr' hp' n' a' w' -> ((vro = none /\ ro = none) \/ ∃ l p t, vro = some l /\ ro = some p /\ σ' l = some (p, t)) := fun hS => by
   rcases hvro with h | ⟨l, p, t, h1, h2, h3⟩
   ·exact .inl h
   ·exact .inr ⟨l, p, t, h1, h2, hS.ex.1 _ _ h3⟩
  cases c with
  | skip => exact wpIn_skip (hN _ _ _ _ _ _ st0 h)
  | label l => exact wpIn_label (hN _ _ _ _ _ _ st0 h)
  | exit id => exact wpIn_exit (hE _ _ _ _ _ _ _ st0 h)
  | ret => exact wpIn_ret (hK _ _ _ _ _ _ st0 h)
  | seq x y =>
   simp only [cx] at h
   refine wpIn_seq (CxW.wp (ih x hvro hR hF hro h (fun c a w => hQp c a w) ?_ ?_ ?_))
   ·intro σ1 fr1 hp1 n1 a1 w1 hS h1
    exact CxW.wp (ih y (vnext hS) hS.rel hS.fr hS.ro h1 hQp (fun _ _ _ _ _ _ hS2 => hN _ _ _ _ _ _ (St.trans hS.ex hS.n hS2)) (fun _ _ _ _ _ _ _ hS2 => hE _ _ _ _ _ _ _ (St.trans hS.ex hS.n hS2)) (fun _ _ _ _ _ _ hS2 => hK _ _ _ _ _ _ (St.trans hS.ex hS.n hS2)))
   ·exact fun i σ1 fr1 hp1 n1 a1 w1 hS h1 => hE _ _ _ _ _ _ _ hS h1
   ·exact fun σ1 fr1 hp1 n1 a1 w1 hS h1 => hK _ _ _ _ _ _ hS h1
  | cond x b1 b2 =>
   simp only [cx] at h
   have hx := ZqK hF x
   split at h
   ·rename_i he; rw [he] at hx; simp only [VR] at hx
    exact wpIn_cond_true hx (CxW.wp (ih b1 hvro hR hF hro h hQp hN hE hK))
   ·rename_i he; rw [he] at hx; simp only [VR] at hx
    exact wpIn_cond_false hx (CxW.wp (ih b2 hvro hR hF hro h hQp hN hE hK))
   ·exact h.no.elim
  | block id b =>
   simp only [cx] at h
   refine wpIn_block (CxW.wp (ih b hvro hR hF hro h (fun c a w => hQp c a w) (fun _ _ _ _ _ _ hS h1 => hN _ _ _ _ _ _ hS h1) (fun i σ1 fr1 hp1 n1 a1 w1 hS h1 => ?_) (fun _ _ _ _ _ _ hS h1 => hK _ _ _ _ _ _ hS h1)))
   show (if i = id then Q .normal a1 w1 else Q (.exit i) a1 w1)
   cases hb : Nat.beq i id
   ·rw [hb] at h1
    rw [if_neg (fun e => by rw [e, Nat.beq_refl] at hb; cases hb)]
    exact hE _ _ _ _ _ _ _ hS h1
   ·rw [hb] at h1
    rw [if_pos (nbq hb)]
    exact hN _ _ _ _ _ _ hS h1
  | loop b =>
   simp only [cx] at h
   refine ZyU (CxW.wp (ih b hvro hR hF hro h (fun c a w => hQp c a w) ?_ ?_ ?_))
   ·intro σ1 fr1 hp1 n1 a1 w1 hS h1
    exact ih (.loop b) (vnext hS) hS.rel hS.fr hS.ro h1 hQp (fun _ _ _ _ _ _ hS2 => hN _ _ _ _ _ _ (St.trans hS.ex hS.n hS2)) (fun _ _ _ _ _ _ _ hS2 => hE _ _ _ _ _ _ _ (St.trans hS.ex hS.n hS2)) (fun _ _ _ _ _ _ hS2 => hK _ _ _ _ _ _ (St.trans hS.ex hS.n hS2))
   ·exact fun i σ1 fr1 hp1 n1 a1 w1 hS h1 => hE _ _ _ _ _ _ _ hS h1
   ·exact fun σ1 fr1 hp1 n1 a1 w1 hS h1 => hK _ _ _ _ _ _ hS h1
  | rangeFunc g ps assign body => exact ZAL hC hvro hR hF hro h hN hE hK
  | region id ops draw =>
   simp only [cx] at h
   cases draw
   ·simp only [cond_false] at h
    refine wpIn_region ?_
    have := Zfj (ro := ro) (Q := Q) hC ops.toList 0 (by simp) hR hF hro h hN
    rw [List.range_eq_range']; simpa using this
   ·simp only [cond_true] at h
    obtain ⟨hm, h2⟩ := h.bif
    obtain ⟨hm1, hm2⟩ := Yq hm
    obtain ⟨hns, hnd⟩ := Yq hm2
    obtain ⟨hfit, h3⟩ := h2.bif
    have hfit := ZJd hfit
    have hlim := hR.lim
    have hn1 : Nle n (n + ZbZ ops.toList) /\ idN (n + ZbZ ops.toList) = idN n + ZbZ ops.toList := by unfold Nle idN Y1 at *; omega
    refine wpIn_region_any hm1 (ZbM _ _ _ _ (ZdC hC hns (Zmj hnd) hQp _ _ [] [] σ hp (n + ZbZ ops.toList) fr (fun _ => False) [] ops.size a _ ((hR.weak (fun _ => .inl rfl) hn1.1).drew _) hF hro ?_ ?_ (fun _ h => h.elim) (fun s hs => nomatch hs) (fun s hs => nomatch hs) ?_ h3 ?_))
    ·refine ⟨by rw [hn1.2]; exact ZIQ _, fun j o hj _ ha => hR.fresh _ (Nat.le_add_right _ _) ?_, fun j i hm => (nomatch hm), fun j i hm => (nomatch hm), fun j i j' i' hm => (nomatch hm)⟩
     have := Zee (l := ops.toList) (j := j) (by rw [ZIP]; exact hj) ha
     omega
    ·intro j o hj hl
     have hlt : j < ops.size := (Array.getElem?_eq_some_iff.1 hj).1
     simp [hlt] at hl
    ·unfold left
     exact Nat.le_trans List.countP_le_length (by simp)
    ·intro σ' fr' hp' n' a' w' r1 r2 r3 r4 r5 r6 r7
     refine hN _ _ _ _ _ _ ⟨r1, r2, r3, ⟨r4, fun i hi => r5 i (by rw [hn1.1.2]; exact hi)⟩, hn1.1.trans r6⟩ r7
  | _ => exact h.no.elim
end
end Go.Cx
namespace Go.Cx
open Go.RowKit (Below)
section
variable {P : Program} {w0 : World} {φ : Out -> Prop} {ctrs : List (Nat × Option Cn)} {bd rd : Nat -> Cn} {σ : Sg} {hp : H} {n : Nat} {w : World} {fr : F} {a : Act}
def ZFy (tmps : Array Value) : ResultVar -> Sem Value
 | .tmp t => pure (tmps.getD t undef)
 | .cell a t => do loadVar t (<- asAddr (tmps.getD a undef))
theorem Zdd (hR : Rel w0 σ hp n w) (hF : FrR σ fr a) : ∀ (l : List ResultVar) {r : List CV}, ZA8 P fr hp l = some r -> ∃ vs, (l.mapM (ZFy a.tmps)).run P w = .ok vs w /\ VRs σ r vs
 | [], r, h => by cases h; exact ⟨[], by simp [List.mapM_nil], rfl⟩
 | .tmp t :: l, r, h => by
  simp only [ZA8] at h
  split at h
  ·cases h
  ·rename_i hj
   split at h
   ·rename_i r' hr'
    cases h
    obtain ⟨vs, h1, h2⟩ := Zdd hR hF l hr'
    refine ⟨a.tmps.getD t undef :: vs, ?_, ?_⟩
    ·rw [List.mapM_cons]; simp [ZFy, h1]
    ·simp only [VRs]; exact ⟨_, _, rfl, fg_R hF t, h2⟩
   ·cases h
 | .cell b t :: l, r, h => by
  simp only [ZA8] at h
  have hb := fg_R hF b
  split at h
  ·rename_i bb o he
   rw [he] at hb; simp only [VR] at hb
   obtain ⟨p, u, hs, hv⟩ := hb
   split at h
   ·rename_i m hA
    obtain ⟨d, d1, d2, d3⟩ := Zdh hA
    split at h
    ·rename_i cs hc
     split at h
     ·rename_i r' hr'
      cases h
      obtain ⟨vs, h1, h2⟩ := Zdd hR hF l hr'
      obtain ⟨us, g1, g2, g3⟩ := Zmr hR hc hs
      refine ⟨.agg us.toArray :: vs, ?_, ?_⟩
      ·rw [List.mapM_cons]; simp only [ZFy, hv]; simp [asAddr, ZhH d1 d2 d3 g1 g3, h1]
      ·simp only [VRs, VR]; exact ⟨_, _, rfl, ⟨us, g2, rfl⟩, h2⟩
     ·cases h
    ·cases h
   ·rename_i m hA
    obtain ⟨d, d1, d2, d3⟩ := Zdh hA
    split at h
    ·rename_i c hc
     split at h
     ·rename_i r' hr'
      cases h
      obtain ⟨vs, h1, h2⟩ := Zdd hR hF l hr'
      obtain ⟨v, g1, g2⟩ := Zmv hR hc hs
      refine ⟨v :: vs, ?_, ?_⟩
      ·rw [List.mapM_cons]; simp only [ZFy, hv]; simp [asAddr, ZgW d1 d2 g1, h1]
      ·simp only [VRs]; exact ⟨_, _, rfl, g2, h2⟩
     ·cases h
    ·cases h
   ·cases h
  ·cases h
theorem Zn5 {fn : Func} {vs : List Value} (h : (fn.results.toList.mapM (ZFy a.tmps)).run P w = .ok vs w) : (results fn a.tmps).run P w = .ok (if h : vs.toArray.size = 1 then vs.toArray[0] else .tuple vs.toArray) w := by
 have e : results fn a.tmps = (do let vs <- fn.results.mapM (ZFy a.tmps); pure (if h : vs.size = 1 then vs[0] else .tuple vs)) := by
  unfold results; congr
 rw [e, Array.mapM_eq_mapM_toList]
 simp [h]
end
end Go.Cx
namespace Go.Cx
open Go.RowKit (Below)
section
variable {P : Program} {w0 : World} {φ : Out -> Prop}
def ZgJ (P : Program) (w0 : World) (f : Nat) (c : Cn) : Prop := ∀ args hp n σ w xs l, Rel w0 σ hp n w -> VRs σ args xs -> c args hp n = some l →
 (callFunc f xs.toArray).run P w = .ok (.enter f xs.toArray) w /\ CallsDIn (FF none) 0 P f xs.toArray .returning w (fun e u' w' => u' = .returning /\ ∃ v, e = .returned v /\ Ret w0 σ n l v w')
theorem Zd1 {dctrs : List (Nat × Cn)} (hD : ∀ f c, ZT dctrs f = some c -> ZgJ P w0 f c) {fn : Func} {tmps : Array Value} {R : Ending -> World -> Prop} {k : H -> Nat -> Res} :
  ∀ (l : List CV) (ds : List Deferred) {σ : Sg} {hp : H} {n : Nat} {w : World}, DfR σ l ds -> Rel w0 σ hp n w -> Zz (ZrV dctrs l hp n k) φ →
   (∀ σ' hp' n' w', Rel w0 σ' hp' n' w' -> Ex n σ σ' -> Nle n n' -> Zz (k hp' n') φ -> LeavesIn (FF none) 0 P fn tmps R [] .returning w') -> LeavesInM (FF none) 0 P fn tmps R ds .returning w
 | [], ds, σ, hp, n, w, hd, hR, h, hk => by
  unfold DfR at hd; subst hd
  exact hk _ _ _ _ hR (Ex.refl _ _) (Nle.refl _) h
 | c :: l, ds, σ, hp, n, w, hd, hR, h, hk => by
  unfold DfR at hd
  split at hd
  ·rename_i hx; cases hx
  ·rename_i ds' r cs hx
   cases hx
   obtain ⟨p, t, ds', hs, rfl, hd'⟩ := hd
   simp only [ZrV] at h
   split at h
   ·rename_i hdf
    have hw : w.heap[p]? = some (.deferred (some [])) := hR.at hs hdf (by simp)
    refine ⟨by simp, .inl ⟨p, _, rfl, run_takeDeferred hw, ?_⟩⟩
    have hlive : ZO hp r ≠ .no := by rw [hdf]; simp
    obtain ⟨hb1, hb2, hb3⟩ := hR.old _ _ _ hs
    have hR' : Rel w0 σ (Zag hp r .no) n (w.putObj p (.deferred none)) := by
     refine (hR.kill hb1).chg (p := p) (by simp [World.putObj]) (fun k hk => World.putObj_heap_other hk) rfl rfl rfl hb2 (fun j q u hj hjc hq => ?_)
     rw [Ya _ _ _ _ hb1 hj] at hjc
     by_cases e : j = r
     ·rw [if_pos e] at hjc; exact absurd rfl hjc
     ·rw [if_neg e] at hjc; exact hR.apart j r q u p t hj hb1 hjc hlive e hq hs
    exact Zd1 hD l ds' hd' hR' h hk
   ·exact h.no.elim
  ·rename_i f first caps args cs hx
   cases hx
   obtain ⟨us, vs, ws, ds', h1, h2, h3, rfl, hd'⟩ := hd
   simp only [ZrV] at h
   split at h
   ·rename_i ct hct
    obtain ⟨os, ho, hgo⟩ := Zb5 h
    have hx := (h1.app h3).app h2
    obtain ⟨q1, q2⟩ := hD _ _ hct _ hp n σ w _ os hR hx ho
    have e : (us ++ ws ++ vs).toArray = us.toArray ++ ws.toArray ++ vs.toArray := by apply Array.ext'; simp
    rw [e] at q1 q2
    refine ⟨by simp, .inr ⟨fun h => (by cases h), _, _, f, _, rfl, q1, fun g _ => trivial, CallsDIn.mono q2 fun e u' w' he => ?_⟩⟩
    obtain ⟨rfl, v, rfl, hr⟩ := he
    obtain ⟨c', hp', n', σ', g1, g2, g3, g4, g5⟩ := hgo _ _ hr
    exact Zd1 hD l ds' (hd'.mono g3.1) g2 g5 (fun σ2 hp2 n2 w2 r1 r2 r3 r4 => hk _ _ _ _ r1 (g3.trans g4 r2) (g4.trans r3) r4)
   ·exact h.no.elim
  ·exact hd.elim
end
end Go.Cx
namespace Go.Cx
open Go.RowKit (Below)
section
variable {P : Program} {w0 : World} {φ : Out -> Prop} {ctrs : List (Nat × Option Cn)} {bd rd : Nat -> Cn} {ro : Option Nat}
/-! ### Frames that are entered -/
def ZdD : List Value -> Nat -> Array Value -> Array Value
 | [], _, t => t
 | v :: l, i, t => ZdD l (i + 1) (t.setIfInBounds i v)
theorem ZAW {σ : Sg} {ds : List Deferred} : ∀ {args : List CV} {xs : List Value} {i : Nat} {fr : F} {t : Array Value}, VRs σ args xs -> FrR σ fr { tmps := t, defers := ds } -> FrR σ (ZFD args i fr) { tmps := ZdD xs i t, defers := ds }
 | [], xs, i, fr, t, hx, h => by simp only [VRs] at hx; subst hx; exact h
 | c :: args, xs, i, fr, t, hx, h => by
  simp only [VRs] at hx; obtain ⟨v, ws, rfl, h1, h2⟩ := hx
  show FrR σ (ZFD args (i + 1) (Zw2 fr i c)) { tmps := ZdD ws (i + 1) (t.setIfInBounds i v), defers := ds }
  exact ZAW h2 (h.set h1)
theorem Zfy : ∀ (xs : List Value) (i : Nat) (t : Array Value), i + xs.length <= t.size -> (ZdD xs i t).toList = t.toList.take i ++ xs ++ t.toList.drop (i + xs.length)
 | [], i, t, _ => by simp [ZdD]
 | v :: xs, i, t, h => by
  simp only [ZJk] at h
  unfold ZdD
  rw [Zfy xs (i + 1) _ (by simp; omega)]
  have e := list_seg_step t.toList i v xs (by simp; omega)
  simpa [Array.toList_setIfInBounds, Nat.add_assoc] using e
theorem FrR.start {σ : Sg} {args : List CV} {xs : List Value} (hx : VRs σ args xs) {m : Nat} (h : args.length + (m - args.length) <= 511) :
  FrR σ (ZFD args 0 (F0 (args.length + (m - args.length)))) { tmps := xs.toArray ++ Array.replicate (m - xs.toArray.size) undef, defers := [] } := by
 have hl := hx.len
 have h0 : FrR σ (F0 (args.length + (m - args.length))) { tmps := Array.replicate (args.length + (m - args.length)) undef, defers := [] } := by
  refine ⟨by simp [F0], by simpa using h, fun i v _ => ?_, ?_⟩
  ·rw [Zyw]; simp only [VR]
  ·unfold dfs; rw [Zyw]; rfl
 have h1 := ZAW hx h0 (i := 0)
 have e : ZdD xs 0 (Array.replicate (args.length + (m - args.length)) undef) = xs.toArray ++ Array.replicate (m - xs.toArray.size) undef := by
  apply Array.ext'
  rw [Zfy _ _ _ (by simp; omega)]
  simp [hl]
 rw [e] at h1; exact h1
theorem ZxU {σ : Sg} {ds : List Deferred} : ∀ {ps : List Nat} {args : List CV} {xs : List Value} {fr fr' : F} {t : Array Value}, VRs σ args xs -> FrR σ fr { tmps := t, defers := ds } -> Zyi ps args fr = some fr' →
  FrR σ fr' { tmps := (ps.zip xs).foldl (fun t (x : Nat × Value) => t.setIfInBounds x.1 x.2) t, defers := ds } /\ ps.length = xs.length /\ Zf3 fr' Yu = Zf3 fr Yu
 | [], [], xs, fr, fr', t, hx, h, hp => by simp only [VRs] at hx; subst hx; cases hp; exact ⟨h, rfl, rfl⟩
 | [], _ :: _, xs, fr, fr', t, hx, h, hp => by cases hp
 | _ :: _, [], xs, fr, fr', t, hx, h, hp => by cases hp
 | p :: ps, c :: args, xs, fr, fr', t, hx, h, hp => by
  simp only [VRs] at hx; obtain ⟨v, ws, rfl, h1, h2⟩ := hx
  unfold Zyi at hp
  obtain ⟨g1, g2, g3⟩ := ZxU h2 (h.set (i := p) h1) hp
  refine ⟨by simpa using g1, by simp [g2], ?_⟩
  rw [g3, Zj0 (by have := h.small; rw [h.sz]; exact this)]
/-! ### Leaving a body -/
theorem Zmg {dctrs : List (Nat × Cn)} (hD : ∀ f c, ZT dctrs f = some c -> ZgJ P w0 f c) {fn : Func} {a : Act} {l : List Out} {σ0 σ : Sg} {n0 : Nat} {fr : F} {hp : H} {n : Nat} {w : World} (hS : St w0 ro σ0 n0 σ fr hp n a w)
  (h : Zz (fin P dctrs fn fr hp n) (· ∈ l)) : LeavesInM (FF none) 0 P fn a.tmps (fun e w' => ∃ v, e = .returned v /\ Ret w0 σ0 n0 l v w') a.defers .returning w := by
 unfold fin at h
 refine Zd1 hD _ _ hS.fr.df hS.rel h (fun σ' hp' n' w' r1 r2 r3 r4 => ?_)
 have hF' := hS.fr.mono r2.1
 have hres : ∃ vs, ZA8 P fr hp' fn.results.toList = some vs /\ (match vs with | [v] => (⟨v, hp', n'⟩ : Out) | vs => ⟨.tup vs, hp', n'⟩) ∈ l := by
  split at r4
  ·rename_i v hv
   obtain ⟨q, hq, hm⟩ := r4
   cases hq
   exact ⟨_, hv, hm _ (by simp)⟩
  ·rename_i vs hne hv
   obtain ⟨q, hq, hm⟩ := r4
   cases hq
   refine ⟨_, hv, ?_⟩
   have := hm ⟨.tup vs, hp', n'⟩ (by simp)
   match vs, hne, this with
   | [], _, h => exact h
   | [v], hne, _ => exact (hne v rfl).elim
   | _ :: _ :: _, _, h => exact h
  ·exact r4.no.elim
 obtain ⟨vs, hv, hm⟩ := hres
 obtain ⟨us, hu, hr⟩ := Zdd r1 hF' _ hv
 have hrun := Zn5 hu
 refine ⟨_, hrun, _, rfl, ?_⟩
 have hx := hS.ex.trans hS.n r2
 have hn := hS.n.trans r3
 have hl := hr.len
 split
 ·rename_i h1
  match vs, us, hr, hl with
  | [c], [u], hr, _ =>
   simp only [VRs] at hr
   obtain ⟨v, ws, e, g1, g2⟩ := hr
   cases e
   exact ⟨_, _, hm, g1, r1, hx, hn⟩
  | [], us, _, hl => simp at hl h1; omega
  | [_], [], _, hl => simp at hl
  | [_], _ :: _ :: _, _, hl => simp at hl
  | _ :: _ :: _, us, _, hl => simp at hl h1; omega
 ·rename_i h1
  refine ⟨⟨.tup vs, hp', n'⟩, σ', ?_, ?_, r1, hx, hn⟩
  ·match vs, hm, hl with
   | [], hm, _ => exact hm
   | [_], _, hl => simp at hl h1; omega
   | _ :: _ :: _, hm, _ => exact hm
  ·simp only [VR]; exact ⟨us, hr, rfl⟩
/-! ### Functions -/
def Zmf (P : Program) (fn : Func) (R : Ending -> World -> Prop) : Exit -> Act -> World -> Prop
 | .normal, a, w => LeavesInM (FF none) 0 P fn a.tmps R a.defers .returning w
 | .ret, a, w => LeavesInM (FF none) 0 P fn a.tmps R a.defers .returning w
 | _, _, _ => False
theorem Zn0 {fn : Func} {R : Ending -> World -> Prop} : ∀ e a w, Zmf P fn R e a w -> bodyPostM (FF none) 0 P fn R e a w := by
 intro e a w h
 cases e <;> first | exact h | exact h.elim
theorem Zey {f : Nat} {fn : Func} {c : Code} {args : Array Value} {w : World} (hf : P.funcs[f]? = some fn) (hb : fn.body = some c) (hn : (!(fn.name == "runtime.NumGoroutine")) = true) : (callFunc f args).run P w = .ok (.enter f args) w := by
 have hne : fn.name ≠ "runtime.NumGoroutine" := by simpa using hn
 simp [callFunc, hf, hne, hb]
theorem Zsc (hC : CsOk P w0 ctrs bd rd) {dctrs : List (Nat × Cn)} (hD : ∀ f c, ZT dctrs f = some c -> ZgJ P w0 f c) {f : Nat} {fn : Func} {c : Code} {args : List CV} {xs : List Value} {σ : Sg} {hp : H} {n : Nat} {w : World} {l : List Out}
  (hf : P.funcs[f]? = some fn) (hb : fn.body = some c) (hsz : args.length + (fn.ntmps - args.length) <= 511) (hR : Rel w0 σ hp n w) (hx : VRs σ args xs) {k : Nat}
  (h : cx P ctrs bd rd f none k c (ZFD args 0 (F0 (args.length + (fn.ntmps - args.length)))) hp n (fin P dctrs fn) (fun _ _ _ _ => none) (fin P dctrs fn) = some l) :
  CallsIn (FF none) 0 P f xs.toArray w (fun e w' => ∃ v, e = .returned v /\ Ret w0 σ n l v w') := by
 refine callsIn_of_wp_marks hf hb trivial (wpIn_mono (CxW.wp (Zjt (ro := none) (vro := none) hC k c (Q := Zmf P fn _) (φ := (· ∈ l)) (.inl ⟨rfl, rfl⟩) hR (FrR.start hx hsz) (.inl rfl) ⟨l, h, fun o ho => ho⟩ (fun _ _ _ h => h.elim) ?_ ?_ ?_)) Zn0)
 ·exact fun σ' fr' hp' n' a' w' hS hk => Zmg hD hS hk
 ·exact fun i σ' fr' hp' n' a' w' hS hk => hk.no.elim
 ·exact fun σ' fr' hp' n' a' w' hS hk => Zmg hD hS hk
/-! ### Rounds -/
theorem Ze9 {l : Nat} {j : Option Code} {σ0 σ : Sg} {n0 : Nat} {hp : H} {n : Nat} {fr : F} {a : Act} {w : World} {os : List Out} {p t : Nat} (hS : St w0 ro σ0 n0 σ fr hp n a w) (hs : σ l = some (p, t)) (h : Zz (round.endR l j hp n) (· ∈ os)) :
  ∃ v w', (Instr.endRound p j).run P w = .ok v w' /\ ∃ v', Ending.returned v = .returned v' /\ Ret w0 σ0 n0 os v' w' := by
 unfold round.endR at h
 split at h
 ·rename_i fn fr' ps asg bo db st pe he
  obtain ⟨q, u, tm, g, h1, h2, h3, h4⟩ := hS.rel.at hs he (by simp)
  have hlt : p < w.heap.size := (Array.getElem?_eq_some_iff.1 h4).1
  obtain ⟨r, hr, hm⟩ := h
  cases hr
  have hR' : Rel w0 σ (Zag hp l (.loop fn fr' ps asg bo db (if j.isNone then 0 else 2) j)) n (w.putObj p (.loop { state := if j.isNone then .ready else .done, pending := j, fn := g, tmps := tm, params := ps.toArray, assign := asg, body := bo, defers := q })) := by
   refine hS.rel.upd hs (by rw [he]; simp) World.putObj_size (fun k hk => World.putObj_heap_other hk) rfl rfl rfl ⟨q, u, tm, g, h1, h2, h3, ?_⟩
   rw [World.putObj_heap_same hlt]
   cases j <;> rfl
  exact ⟨_, _, run_endRound j h4, _, rfl, ⟨.bool j.isNone, Zag hp l (.loop fn fr' ps asg bo db (if j.isNone then 0 else 2) j), n⟩, σ, hm _ (by simp), by simp only [VR], hR', hS.ex, hS.n⟩
 ·exact h.no.elim
theorem Zn8 (hC : CsOk P w0 ctrs bd rd) {l : Nat} {args : List CV} {xs : List Value} {σ : Sg} {hp : H} {n : Nat} {w : World} {os : List Out} {p t : Nat} (hR : Rel w0 σ hp n w) (hx : VRs σ args xs) (hs : σ l = some (p, t)) (h : round P ctrs bd rd l args hp n = some os) :
  ∃ f tm asg bo, (Instr.yield p xs.toArray).run P w = .ok (.round p f tm asg bo) w /\ RoundIn (FF none) 0 P p f tm asg bo w (fun e w' => ∃ v, e = .returned v /\ Ret w0 σ n os v w') := by
 unfold round at h
 split at h
 ·rename_i fn fr ps assign body db st pend he
  obtain ⟨q, u, tm, g, h1, h2, h3, h4⟩ := hR.at hs he (by simp)
  have hg : Zz (bif Nat.beq st 0 then (match Zyi ps args (Zxu fr Yu .nili) with
   | some fr => cx P ctrs bd rd fn (some l) 1000000 assign fr hp n (fun fr1 hp n => match ZO hp l with
    | .loop fn0 fr0 ps0 a0 b0 db0 st0 pend0 => bif Nat.beq st0 0 then cx P ctrs bd rd fn (some l) 1000000 body fr1 (Zag hp l (.loop fn0 fr0 ps0 a0 b0 db0 1 pend0)) n
      (fun _ hp n => round.endR l none hp n) (fun i _ hp n => round.endR l (some (.exit i)) hp n) (fun _ hp n => round.endR l (some .ret) hp n) else none
    | _ => none) (fun _ _ _ _ => none) (fun _ _ _ => none)
   | none => none) else none) (· ∈ os) := ⟨os, h, fun o ho => ho⟩
  obtain ⟨_, hg⟩ := hg.bif
  split at hg
  ·rename_i fr' hfr'
   have hF0 : FrR σ (Zxu fr Yu .nili) { tmps := tm, defers := [] } := by
    refine ⟨by rw [ZqD]; exact h2.1, h2.2, fun i v hv => ?_, ?_⟩
    ·have : i < tm.size := (Array.getElem?_eq_some_iff.1 hv).1
     have h22 := h2.2
     rw [Za2 _ _ _ _ (by decide) (by omega), if_neg (by unfold Yu; omega)]
     exact h3 i v hv
    ·unfold dfs; rw [Za2 _ _ _ _ (by decide) (by decide), if_pos rfl]; rfl
   obtain ⟨g1, g2, g3⟩ := ZxU hx hF0 hfr'
   rw [Za2 _ _ _ _ (by decide) (by decide), if_pos rfl] at g3
   refine ⟨_, _, _, _, run_yield h4 (by simp [g2]), roundIn_of_wpIn (F := FF none) trivial ?_⟩
   have e : (ps.toArray.zip xs.toArray).foldl (fun tmps (x : Nat × Value) => tmps.setIfInBounds x.1 x.2) tm = (ps.zip xs).foldl (fun t (x : Nat × Value) => t.setIfInBounds x.1 x.2) tm := by
    rw [<- Array.foldl_toList]; simp
   have hass := CxW.wp (Zjt (ro := some p) (vro := some l) hC _ assign (φ := (· ∈ os))
    (Q := Exit.then (fun a₁ w₁ => ∃ w₂, (Instr.beginRound p).run P w₁ = .ok () w₂ /\ body.wpIn (FF (some p)) 0 P (roundPost P p (fun e w' => ∃ v, e = .returned v /\ Ret w0 σ n os v w')) a₁ w₂) (fun _ _ _ => False))
    (.inr ⟨l, p, t, rfl, rfl, hs⟩) hR g1 (.inr g3) hg (fun _ _ _ h => h) ?_ ?_ ?_)
   ·have hh : ({ FF none with round := some p } : Fence) = FF (some p) := rfl
    show assign.wpIn (FF (some p)) 0 P _ { tmps := (ps.toArray.zip xs.toArray).foldl (fun tmps (x : Nat × Value) => tmps.setIfInBounds x.1 x.2) tm, defers := [] } w
    rw [e]
    exact hass
   ·intro σ1 fr1 hp1 n1 a1 w1 hS hk
    split at hk
    ·rename_i fn0 fr0 ps0 a0 b0 db0 st0 pend0 he1
     obtain ⟨c1, hk⟩ := hk.bif
     have c1 := nbq c1
     subst c1
     have hs1 := hS.ex.1 _ _ hs
     obtain ⟨q', u', tm', g', k1, k2, k3, k4⟩ := hS.rel.at hs1 he1 (by simp)
     have hlt : p < w1.heap.size := (Array.getElem?_eq_some_iff.1 k4).1
     refine ⟨_, run_beginRound k4 rfl, ?_⟩
     have hR1 := hS.rel.upd hs1 (by rw [he1]; simp) (w' := w1.putObj p (.loop { state := .busy, pending := pend0, fn := g', tmps := tm', params := ps0.toArray, assign := a0, body := b0, defers := q' })) World.putObj_size (fun k hk => World.putObj_heap_other hk) rfl rfl rfl
      (c := .loop fn0 fr0 ps0 a0 b0 db0 1 pend0) ⟨q', u', tm', g', k1, k2, k3, World.putObj_heap_same hlt⟩
     refine CxW.wp (Zjt (ro := some p) (vro := some l) hC _ body (φ := (· ∈ os)) (.inr ⟨l, p, t, rfl, rfl, hs1⟩) hR1 hS.fr hS.ro hk (fun _ _ _ h => h) ?_ ?_ ?_)
     ·exact fun σ2 fr2 hp2 n2 a2 w2 hS2 hk2 => Ze9 (St.trans hS.ex hS.n hS2) (hS2.ex.1 _ _ hs1) hk2
     ·exact fun i σ2 fr2 hp2 n2 a2 w2 hS2 hk2 => Ze9 (St.trans hS.ex hS.n hS2) (hS2.ex.1 _ _ hs1) hk2
     ·exact fun σ2 fr2 hp2 n2 a2 w2 hS2 hk2 => Ze9 (St.trans hS.ex hS.n hS2) (hS2.ex.1 _ _ hs1) hk2
    ·exact hk.no.elim
   ·exact fun i σ' fr' hp' n' a' w' hS hk => hk.no.elim
   ·exact fun σ' fr' hp' n' a' w' hS hk => hk.no.elim
  ·exact hg.no.elim
 ·cases h
/-! ### All of it -/
theorem ZpE {dctrs : List (Nat × Cn)} (hK : ∀ f c, ZT ctrs f = some (some c) -> ZfR P w0 f c) (hD : ∀ f c, ZT dctrs f = some c -> ZgJ P w0 f c) : ∀ fuel, CsOk P w0 ctrs (go P ctrs dctrs fuel false) (go P ctrs dctrs fuel true)
 | 0 => ⟨hK, fun f args hp n σ w xs l _ _ h => (by cases h), fun f args hp n σ w xs os p t _ _ _ h => (by cases h)⟩
 | fuel + 1 => by
  have ih := ZpE hK hD fuel
  refine ⟨hK, fun f args hp n σ w xs l hR hx h => ?_, fun f args hp n σ w xs os p t hR hx hs h => ?_⟩
  ·simp only [go] at h
   split at h
   ·cases h
   ·rename_i fn hfn
    rw [ZoS, ZIP] at hfn
    split at h
    ·cases h
    ·rename_i c hb
     obtain ⟨hc, h⟩ := ZdN h
     obtain ⟨c1, c2⟩ := Yq hc
     obtain ⟨c3, c4⟩ := Yq c2
     have c1 := ZJd c1
     have c3 := ZJd c3
     exact ⟨Zey hfn hb c4, Zsc ih hD hfn hb (by omega) hR hx h⟩
  ·simp only [go] at h
   exact Zn8 ih hR hx hs h
theorem rel0 (w : World) : Rel w (fun _ => none) H0 N0 w := by
 obtain ⟨e1, e2⟩ := ZvM (lim := 32767) (id := 0) (by omega)
 refine ⟨fun i _ h => absurd (ZCh i) h, fun i j p t q u _ _ _ _ _ h => (by cases h), fun i p t h => (by cases h), fun _ _ _ => rfl, ?_, Below.refl _ _⟩
 show Y1 (mkN 32767 0) <= 32768
 rw [e2]; omega
theorem Zwr {dctrs : List (Nat × Cn)} (hK : ∀ w0 f c, ZT ctrs f = some (some c) -> ZfR P w0 f c) (hD : ∀ w0 f c, ZT dctrs f = some c -> ZgJ P w0 f c) {fuel f : Nat} (h : yes (go P ctrs dctrs fuel false f [] H0 N0) = true) (w : World) :
  Calls P f #[] w fun e w' => e = .returned (.bool true) /\ Below w.heap.size w w' := by
 unfold yes at h
 split at h
 ·rename_i o ho
  have := ((ZpE (P := P) (w0 := w) (hK w) (hD w) fuel).bd f [] H0 N0 _ w [] [o] (rel0 w) rfl ho).2
  refine (callsIn_wide.1 (show CallsIn Fence.wide 0 P f #[] w _ from this)).mono ?_
  rintro e w' ⟨v, rfl, o', σ', hm, hv, hR, _⟩
  rw [ZIT] at hm
  subst hm
  split at h
  ·rename_i b hb
   rw [hb] at hv
   simp only [VR] at hv
   subst hv; subst h
   exact ⟨rfl, hR.below⟩
  ·cases h
 ·cases h
end
end Go.Cx
namespace Go.Cx
open Go.RowKit (Below)
/-! ### maps.clone -/
noncomputable def cloneC : Cn := fun args hp n => match args with
 | [.ifc t (.map b)] => (match ZO hp b with | .map es c => ZbF hp n (.map es c) (fun i => .ifc t (.map i)) (fun v hp n => some [⟨v, hp, n⟩]) | _ => none)
 | _ => none
/-! ### internal/bytealg.Compare -/
section
variable {P : Program} {w0 : World}
theorem ZAO {f : Nat} {fn : Func} (hf : P.funcs[f]? = some fn) (hname : (fn.name == "runtime.NumGoroutine") = false)
  (hb : fn.body.isNone = true) (hn : Extern.findNext fn = none) (he : Extern.find fn = some Extern.MapsClone.clone) : ZfR P w0 f cloneC := by
 intro args hp n σ w xs l hR hx h
 left
 unfold cloneC at h
 split at h
 ·rename_i t b
  split at h
  ·rename_i es c hm
   simp only [VRs, VR] at hx
   obtain ⟨v, ws, rfl, ⟨x, ⟨p, u, hs, rfl⟩, rfl⟩, rfl⟩ := hx
   obtain ⟨ms, h1, h2⟩ := hR.at hs hm (by simp)
   obtain ⟨σ', s1, s2, s3, s4, s5⟩ := ZQ (φ := (· ∈ l)) (t := 0) hR ⟨l, h, fun o ho => ho⟩ (.map ms.toArray c) (fun τ hle _ => ⟨ms, h1.mono hle, Yv w _⟩)
   obtain ⟨q, hq, hm⟩ := s5
   cases hq
   refine ⟨.iface t (.map (some w.heap.size)), _, ?_, ⟨CV.ifc t (CV.map (idN n)), Zag hp (idN n) (Ck.map es c), n + 1⟩, σ', hm _ (by simp), ?_, s2, s3, s4⟩
   ·rw [run_callFunc_extern hf hname hb hn he]
    have : (Extern.MapsClone.clone #[.iface t (.map (some p))]).run P w = .ok (.iface t (.map (some w.heap.size))) { w with heap := w.heap.push (.map ms.toArray c) } := by
     change Sem.run P (do
      let .map entries clock <- getObj p | stuck "maps.clone: a map expected"
      pure (Value.iface t (Value.map (some (<- newObj (Obj.map entries clock)))))) w = _
     simp [getObj, newObj, Sem.run, h2]
    rw [show [Value.iface t (.map (some p))].toArray = #[.iface t (.map (some p))] from rfl, this]
    rfl
   ·simp only [VR]; exact ⟨_, ⟨_, _, s1, rfl⟩, rfl⟩
  ·cases h
 ·cases h
end
end Go.Cx
namespace Go.Cx
open Go.RowKit (Below)
open Go.ChangeShapes Go.WideShapes
section
variable {P : Program}
def Zjw (P : Program) (l : List (Nat × Option Cn)) : Prop := ∀ w0 f c, ZT l f = some (some c) -> ZfR P w0 f c
def Zil (P : Program) (l : List (Nat × Cn)) : Prop := ∀ w0 f c, ZT l f = some c -> ZgJ P w0 f c
theorem Zjw.nil : Zjw P [] := fun _ _ _ h => (by cases h)
theorem Zil.nil : Zil P [] := fun _ _ _ h => (by cases h)
theorem Zjw.none {f : Nat} {l : List (Nat × Option Cn)} (h : Zjw P l) : Zjw P ((f, .none) :: l) := by
 intro w0 g c hc
 unfold ZT at hc
 cases hb : Nat.beq f g
 ·rw [hb] at hc; exact h w0 g c hc
 ·rw [hb] at hc; cases hc
theorem Zjw.cons {f : Nat} {c : Cn} {l : List (Nat × Option Cn)} (h0 : ∀ w0, ZfR P w0 f c) (h : Zjw P l) : Zjw P ((f, some c) :: l) := by
 intro w0 g c' hc
 unfold ZT at hc
 cases hb : Nat.beq f g
 ·rw [hb] at hc; exact h w0 g c' hc
 ·rw [hb] at hc; cases hc; rw [<- nbq hb]; exact h0 w0
theorem Zil.cons {f : Nat} {c : Cn} {l : List (Nat × Cn)} (h0 : ∀ w0, ZgJ P w0 f c) (h : Zil P l) : Zil P ((f, c) :: l) := by
 intro w0 g c' hc
 unfold ZT at hc
 cases hb : Nat.beq f g
 ·rw [hb] at hc; exact h w0 g c' hc
 ·rw [hb] at hc; cases hc; rw [<- nbq hb]; exact h0 w0
end
theorem Ze3 {H : Type} {enc : TypeId × Value -> H} {P : Program} {f : Func} {s : ChangeSpec} {apart fresh handsOn again : Bool} {W W' : World} {args : Array Value} {v : Value} {ds gs : List (DataW H)} {before pa pv : List MemPlace}
  (hW : DataW.Whole enc P f.params.toList s.vars apart W args.toList ds gs before)
  (hres : ∀ (b : Nat) (sp : Nat -> Bool) (hd : Bool), DataW.TrodAll enc P W' b sp hd f.resultTypes.toList (v.resultList f.resultTypes.size) (s.fn H (ds ++ gs)).results [])
  (hargs : ∀ sp : Nat -> Bool, (∀ p ∈ before, sp p.block = true) -> DataW.TrodAll enc P W' 0 sp true f.params.toList args.toList (s.fn H (ds ++ gs)).args pa)
  (hvars : ∀ sp : Nat -> Bool, (∀ p ∈ before, sp p.block = true) -> DataW.TrodVars enc P W' sp s.vars (s.fn H (ds ++ gs)).vars pv)
  (hps : before = pa ++ pv) (hb : Below W.heap.size W W')
  (hok : ∀ (j : Nat) (t : TypeId) (r : Value), f.resultTypes[j]? = some t -> (v.resultList f.resultTypes.size)[j]? = some r -> Value.okWide P W' .any 0 t r) :
  s.post enc P f apart fresh handsOn again W args v W' := by
 have hlt := fun p (hp : p ∈ before) => hW.lt p hp
 have hold : ∀ p ∈ before, (fun b => decide (b < W.heap.size)) p.block = true := fun p hp => by simpa using hlt p hp
 refine ⟨ds, gs, before, [], pa, pv, hW, hres _ _ _, hargs _ hold, hvars _ hold, World.keptBut_mono (fun p hp => ⟨hp, ?_⟩) (hb.frame (· ∈ before)), fun _ => ?_⟩
 ·rw [hps, ZJl] at hp; exact Or.inr hp
 ·obtain ⟨_, _, _, _, _, hz, hn⟩ := hW
  refine ⟨hok, _, _, ([] ++ pa) ++ pv, ⟨[] ++ pa, pv, trodAll_append (hargs _ (fun _ _ => rfl)) (hres _ _ _), hvars _ (fun _ _ => rfl), rfl, fun b off hp => ?_, fun ha => ?_⟩, fun p hp _ => ?_⟩
  ·have hp' : MemPlace.cell b off ∈ before := by rw [hps]; simpa using hp
   have h1 := hlt _ hp'
   rw [hb.frozen (p := ⟨b, off, none⟩) h1]
   exact hz b off hp'
  ·have := hn ha
   rw [hps] at this
   simpa using this
  ·rw [hps]; simpa using hp
end Go.Cx
namespace Go.Proofs.YtidlngnhjffepaaGreat.awake
open Go.Cx
noncomputable def tab : List (Nat × Option Cn) := [(84, some cloneC), (64, none), (80, none)]
theorem ZHH : Zjw Tryz.prog tab := .cons (fun w0 => ZAO Tryz.func84 (by kernel_rfl) (by kernel_rfl) (by kernel_rfl) (by kernel_rfl)) <| .none <| .none <| .nil
noncomputable def dtab : List (Nat × Cn) := []
theorem ZFl : Zil Tryz.prog dtab := .nil
theorem run : yes (go Tryz.prog tab dtab 200 false 6 [] H0 N0) = true := by kernel_rfl
theorem calls (w : World) : Calls Tryz.prog 6 #[] w fun e w' => e = .returned (.bool true) /\ Go.RowKit.Below w.heap.size w w' := Zwr ZHH ZFl run w
end Go.Proofs.YtidlngnhjffepaaGreat.awake
namespace Go.Proofs.YtidlngnhjffepaaGreat
noncomputable section
open Go.Eng
open Go.RowKit (Below)
theorem ZxX {G : Type} (S : Sig G) {P : Program} {f : FuncId} (h : ∀ w, Calls P f #[] w fun e w' => e = .returned (.bool true) /\ Below w.heap.size w w') : ZG S P f ZpD := by
 intro ch w0 F ρ w xs hx _ hs
 have hxs : xs = [] := by
  cases xs with
  | nil => rfl
  | cons x xs => exact hx.elim
 subst hxs
 refine (h w).mono ?_
 rintro e w' ⟨rfl, hb⟩
 refine ⟨ρ, .bool true, Ext.refl _ _, rfl, .inr rfl, ?_, fun x hx => nomatch hx⟩
 obtain ⟨y, hy, hi⟩ := hs
 refine ⟨y, hy, ⟨fun b o v z he => ?_, fun b o x he => ?_, hi.below.trans ⟨hb.os, hb.tape, hb.output, hb.size, fun k hk => hb.block k (Nat.lt_of_lt_of_le hk hi.below.size)⟩⟩⟩
 ·obtain ⟨h1, h2, h3, h4⟩ := hi.cell b o v z he
  have hlt : b < w.heap.size := by
   unfold World.cell? at h2
   cases hh : w.heap[b]? with
   | none => rw [hh] at h2; cases h2
   | some q => exact (Array.getElem?_eq_some_iff.1 hh).1
  have e1 : w'.heap[b]? = w.heap[b]? := hb.block b hlt
  refine ⟨h1, ?_, ?_, fun hz => ?_⟩
  ·unfold World.cell? at h2 ⊢; rw [e1]; exact h2
  ·unfold World.frozen? at h3 ⊢; rw [e1]; exact h3
  ·obtain ⟨c, e, h5⟩ := h4 hz; exact ⟨c, e, by rw [e1]; exact h5⟩
 ·obtain ⟨h1, h2, h3, h4⟩ := hi.obj b o x he
  have hlt : b < w.heap.size := (Array.getElem?_eq_some_iff.1 h3).1
  exact ⟨h1, h2, by rw [hb.block b hlt]; exact h3, h4⟩
theorem ZFH {G : Type} (S : Sig G) : ZG S Tryz.prog 6 ZpD := ZxX S awake.calls
end
end Go.Proofs.YtidlngnhjffepaaGreat
namespace Go.Eng
open Go.ChangeShapes Go.WideShapes Go.Deep
theorem ZiI {cs : List Value} {i : Nat} {v : Value} (h : (cs.drop i).take 1 = [v]) : cs[i]? = some v := by
 have h2 : ((cs.drop i).take 1)[0]? = some v := by rw [h]; rfl
 rw [List.getElem?_take_of_lt (by omega), ZJp] at h2
 simpa using h2
abbrev Zg8 : List Fd := [.int .i64, .int .i64, .str, .str, .bool, .int .i64]
theorem Zum (s : ByteArray) : Fd.str.val [((ZP s.data.toList : Nat) : Int)] = .string s := by
 show Value.string ⟨(Zcw (Int.toNat ((ZP s.data.toList : Nat) : Int))).toArray⟩ = _
 rw [ZI7, Zt]
theorem Zto {H : Type} {enc : TypeId × Value -> H} {P : Program} {w : World} {base : Nat} {spare : Nat -> Bool} {ZmP : Bool} {t e : TypeId} {g0 g1 g2 g3 g4 g5 : Field} {fuel : Nat} {cs : List Value} {x : DataW H × List MemPlace}
  (ht : P.underlying t = some (.slice e)) (he : P.underlying e = some (.struct #[g0, g1, g2, g3, g4, g5])) (ce : P.cellsOf e = 6) (o0 : g0.offset = 0) (o1 : g1.offset = 1) (o2 : g2.offset = 2) (o3 : g3.offset = 3) (o4 : g4.offset = 4) (o5 : g5.offset = 5)
  (c0 : P.cellsOf g0.type = 1) (c1 : P.cellsOf g1.type = 1) (c2 : P.cellsOf g2.type = 1) (c3 : P.cellsOf g3.type = 1) (c4 : P.cellsOf g4.type = 1) (c5 : P.cellsOf g5.type = 1)
  (t0 : P.underlying g0.type = some (.int .i64)) (t1 : P.underlying g1.type = some (.int .i64)) (t2 : P.underlying g2.type = some .string) (t3 : P.underlying g3.type = some .string) (t4 : P.underlying g4.type = some .bool) (t5 : P.underlying g5.type = some (.int .i64))
  (h : DataW.trod enc P w base spare ZmP fuel t cs = some x) :
  (cs = [.slice none 0 0] /\ x = (.nil, [])) ∨
  ∃ (a : Addr) (len cap : Nat) (rows : List (List Int)), cs = [.slice (some a) len cap] /\ base <= a.block /\ len <= cap /\ cap <= maxLen /\ len = rows.length /\ (∃ ds sp, x.1 = .slice ds sp /\ ds.length = len) ∧
   ∀ j v, (rows.flatMap (rowVals Zg8))[j]? = some v -> w.cell? (a.add j) = some v := by
 rcases open_slice ht h with h0 | ⟨a, len, cap, m, n, D, Pl, rfl, hb, hl, hm, hmm, hxx, hx⟩
 ·exact .inl h0
 right
 have hlm : len <= m := by rw [hmm]; split <;> omega
 have each : ∀ i, i < m -> ∃ q : List Int, ∀ j, j < 6 -> ∃ v, (rowVals Zg8 q)[j]? = some v /\ w.cell? (a.add (i * 6 + j)) = some v := by
  intro i hi
  obtain ⟨cs', h1, h2⟩ := hx i hi
  rw [ce] at h1
  obtain ⟨_, hlen, hcell⟩ := World.cells?_some h1
  obtain ⟨xs, k, hk, _, _, hxl, hf⟩ := DataW.trod_struct he h2
  have f0 := hf 0 g0 rfl
  have f1 := hf 1 g1 rfl
  have f2 := hf 2 g2 rfl
  have f3 := hf 3 g3 rfl
  have f4 := hf 4 g4 rfl
  have f5 := hf 5 g5 rfl
  rw [o0, c0, ZI3 (by rw [hxl]; show _ < 6; omega)] at f0
  rw [o1, c1, ZI3 (by rw [hxl]; show _ < 6; omega)] at f1
  rw [o2, c2, ZI3 (by rw [hxl]; show _ < 6; omega)] at f2
  rw [o3, c3, ZI3 (by rw [hxl]; show _ < 6; omega)] at f3
  rw [o4, c4, ZI3 (by rw [hxl]; show _ < 6; omega)] at f4
  rw [o5, c5, ZI3 (by rw [hxl]; show _ < 6; omega)] at f5
  obtain ⟨n0, e0, _, _⟩ := DataW.trod_int t0 f0
  obtain ⟨n1, e1, _, _⟩ := DataW.trod_int t1 f1
  obtain ⟨s2, e2, _, _⟩ := DataW.trod_string t2 f2
  obtain ⟨s3, e3, _, _⟩ := DataW.trod_string t3 f3
  obtain ⟨b4, e4, _⟩ := DataW.trod_bool t4 f4
  obtain ⟨n5, e5, _, _⟩ := DataW.trod_int t5 f5
  have e0 := ZiI e0
  have e1 := ZiI e1
  have e2 := ZiI e2
  have e3 := ZiI e3
  have e4 := ZiI e4
  have e5 := ZiI e5
  refine ⟨[n0, n1, (ZP s2.data.toList : Nat), (ZP s3.data.toList : Nat), if b4 = true then 1 else 0, n5], fun j hj => ?_⟩
  have hc := hcell j (by omega)
  rw [add_add] at hc
  match j, hj with
  | 0, _ => exact ⟨_, rfl, by rw [hc, e0]; rfl⟩
  | 1, _ => exact ⟨_, rfl, by rw [hc, e1]; rfl⟩
  | 2, _ => exact ⟨_, rfl, by rw [hc, e2]; exact congrArg some (Zum s2).symm⟩
  | 3, _ => exact ⟨_, rfl, by rw [hc, e3]; exact congrArg some (Zum s3).symm⟩
  | 4, _ => exact ⟨_, rfl, by rw [hc, e4]; cases b4 <;> rfl⟩
  | 5, _ => exact ⟨_, rfl, by rw [hc, e5]; rfl⟩
 obtain ⟨q, hq⟩ := choose_lt each
 refine ⟨a, len, cap, (List.range len).map q, rfl, hb, hl, hm, by rw [ZJa, List.length_range], ⟨_, _, by rw [hxx], by rw [ZJa, List.length_range]⟩, fun j v hj => ?_⟩
 have hlen6 : ∀ r : List Int, (rowVals Zg8 r).length = 6 := fun r => ZR _ r
 have hjlt : j < len * 6 := by
  rcases ZIU j (len * 6) with h' | h'
  ·exact h'
  ·rw [List.getElem?_eq_none (by rw [ZbH _ 6 hlen6, ZJa, List.length_range]; exact h')] at hj; cases hj
 have hdm : j = j / 6 * 6 + j % 6 := by omega
 rw [hdm, ZdA _ 6 hlen6 _ _ _ (Nat.mod_lt _ (by decide)), ZIW, List.getElem?_range (by omega)] at hj
 obtain ⟨v', h1, h2⟩ := hq (j / 6) (by omega) (j % 6) (Nat.mod_lt _ (by decide))
 have hj' : (rowVals Zg8 (q (j / 6)))[j % 6]? = some v := hj
 rw [h1] at hj'
 cases hj'
 rw [hdm]; exact h2
def ZB9 {H : Type} (w : World) (v : Value) (d : DataW H) (b o l c : Int) (n : Nat) (vals : List Value) : Prop :=
 v = .slice (if b < 0 then none else some ⟨b.toNat, o.toNat, none⟩) l.toNat c.toNat /\ 0 <= l /\ l = n /\ l <= c /\ l <= 9223372036854775807 ∧
  ((0 <= b \/ vals = []) /\ ∀ i u, vals[i]? = some u -> b.toNat < w.heap.size /\ w.cell? ⟨b.toNat, o.toNat + i, none⟩ = some u) /\ (d = .nil /\ l = 0 \/ ∃ ds sp, d = .slice ds sp /\ (ds.length : Int) = l)
theorem Zsd {P : Program} {W : World} {base : Nat} {t e : TypeId} {a : Addr} {len cap : Nat} (ht : P.underlying t = some (.slice e)) (hv : Value.okWide P W .any base t (.slice (some a) len cap)) : a.spot = none := by
 unfold Value.okWide at hv
 rw [ht] at hv
 unfold Cell.okWide at hv
 rw [ht] at hv
 simp only [Cell.ok] at hv
 rw [ht] at hv
 exact hv.2.2.2.1
theorem Zka {H : Type} {enc : TypeId × Value -> H} {P : Program} {W : World} {base : Nat} {t e : TypeId} {g0 g1 g2 g3 g4 g5 : Field} {v : Value} {d : DataW H} {ps : List MemPlace}
  (ht : P.underlying t = some (.slice e)) (he : P.underlying e = some (.struct #[g0, g1, g2, g3, g4, g5])) (ce : P.cellsOf e = 6) (o0 : g0.offset = 0) (o1 : g1.offset = 1) (o2 : g2.offset = 2) (o3 : g3.offset = 3) (o4 : g4.offset = 4) (o5 : g5.offset = 5)
  (c0 : P.cellsOf g0.type = 1) (c1 : P.cellsOf g1.type = 1) (c2 : P.cellsOf g2.type = 1) (c3 : P.cellsOf g3.type = 1) (c4 : P.cellsOf g4.type = 1) (c5 : P.cellsOf g5.type = 1)
  (t0 : P.underlying g0.type = some (.int .i64)) (t1 : P.underlying g1.type = some (.int .i64)) (t2 : P.underlying g2.type = some .string) (t3 : P.underlying g3.type = some .string) (t4 : P.underlying g4.type = some .bool) (t5 : P.underlying g5.type = some (.int .i64))
  (hv : Value.okWide P W .any base t v) (h : DataW.Trod enc P W 0 (fun _ => true) true t v d ps) :
  ∃ (b o l c : Int) (L : List (List Int)), ZB9 W v d b o l c L.length (L.flatMap (rowVals Zg8)) := by
 obtain ⟨fuel, hf⟩ := h
 obtain ⟨a0, len, cap, rfl⟩ := okWide_slice ht hv
 rcases Zto ht he ce o0 o1 o2 o3 o4 o5 c0 c1 c2 c3 c4 c5 t0 t1 t2 t3 t4 t5 hf with ⟨hcs, hx⟩ | ⟨a, len', cap', rows, hcs, _, hl, hm, hz, hd, hcell⟩
 ·simp [Value.cells] at hcs
  obtain ⟨rfl, rfl, rfl⟩ := hcs
  simp only [Prod.mk.injEq] at hx
  exact ⟨-1, 0, 0, 0, [], rfl, by decide, by decide, by decide, by decide, ⟨.inr rfl, fun i u hu => by simp at hu⟩, .inl ⟨hx.1, rfl⟩⟩
 ·simp [Value.cells] at hcs
  obtain ⟨rfl, rfl, rfl⟩ := hcs
  have hspot := Zsd ht hv
  obtain ⟨b, off, spot⟩ := a
  simp only at hspot
  subst hspot
  have hmax : maxLen = 9223372036854775807 := by decide
  obtain ⟨ds, sp, h1, h2⟩ := hd
  refine ⟨b, off, len, cap, rows, by rw [if_neg (by omega)]; simp, by omega, by omega, by omega, by omega, ⟨.inl (by omega), fun i u hu => ?_⟩, .inr ⟨ds, sp, h1, by omega⟩⟩
  have hc := hcell i u hu
  rw [add_plain] at hc
  exact ⟨by simpa using (World.block_lt_of_cell? W ⟨b, off + i, none⟩ hc), by simpa using hc⟩
end Go.Eng
namespace Go.Proofs.YtidlngnhjffepaaGreat.judgeSerials
open Go.ChangeShapes Go.WideShapes Go.ChangeAt Go.RowKit
open Go.Eng (Ze3 Sig ZG ZfQ emp Ze Zp0 Sat Env U Ctr SX eLe rowVals ZB9 Zka Zg8 Zu Zas YD ZaQ)
theorem own : ownKnob Tryz.prog.godebug = none := by kernel_rfl
noncomputable def usr (n : Nat) (a b c d : U GG) : U GG :=
 match n with
 | 500 => .int (YR a.tR b.tI c.tI d.tI.toNat)
 | 501 => .bool (ZbY a.tR b.tI c.tI.toNat).1
 | 502 => .int (ZbY a.tR b.tI c.tI.toNat).2
 | 503 => .bool (Zh7 a.tR b.tI c.tI)
 | 504 => .bool (ZN (ZFw a.tR b.tI c.tI))
 | 505 => .bool (Zrt a.tR b.tI.toNat)
 | 506 => .int (Zvk a.tR b.tI.toNat)
 | 507 => .bool (ZqY a.tR b.tI.toNat)
 | 508 => .int (ZfY a.tR b.tI.toNat).1
 | 509 => .int (ZfY a.tR b.tI.toNat).2
 | 510 => .bool (ZcA a.tN)
 | 511 => .bool (Zkv a.tR b.tI.toNat)
 | 512 => .int (ZaM a.tR b.tI c.tB d.tI.toNat)
 | 513 => .bytes (Zh8 a.tR b.tN c.tB d.tI.toNat).1
 | 514 => .bool (Zh8 a.tR b.tN c.tB d.tI.toNat).2
 | 515 => .ints (Yo a.tR b.tI.toNat)
 | 516 => .bool (ZiW a.tR b.tI.toNat c.tN).1
 | 517 => .int (ZiW a.tR b.tI.toNat c.tN).2
 | 518 => .int (ZeN a.tR b.tI.toNat).1
 | 519 => .int (ZeN a.tR b.tI.toNat).2
 | 520 => .int (Zne a.tR).1
 | 521 => .int (Zne a.tR).2.1
 | 522 => .int (Zne a.tR).2.2
 | 524 => .bytes (ZGC a.tR b.tI)
 | 525 => .int (ZG6 a.tR b.tI)
 | 523 => .int (ZhS a.tR)
 | 530 => .bool (Z5 a.tM b.tN)
 | 531 => .bool (ZN (Zzo a.tM b.tM c.tM))
 | 532 => .bool (ZN (layM a.tM b.tM c.tM d.tM))
 | 533 => .rows (Zsq a.tR b.tI.toNat)
 | 534 => .rows ((a.tR.take c.tI.toNat).map nr ++ b.tR.drop c.tI.toNat)
 | 536 => .bool (ZN ((a.tM.map (·.1)).Nodup))
 | 535 => .bool (ZN (∀ i : Nat, b.tI <= (i : Int) -> (i : Int) < c.tI -> eqE (xa a.tR i) (xa d.tR i)))
 | 568 => .g (.tx (Zcz (Z8 a) b.tM))
 | 571 => .bool (ZN ((a.tM.map (·.1)).Nodup /\ ∀ k, Zu a.tM k = true -> Zu b.tM k = true))
 | 569 => .bool (ZN (a.tR.map g0 = b.tR.map g0))
 | 570 => .bool (ZN (d.tR.Perm (Zdb c.tR (Zcx b.tM (Z8 a) 0))))
 | 565 => .bool (ZN (ZAo a.tR b.tI))
 | 566 => .int (ZhM b.tI a.tR : Nat)
 | 540 => .int (atT (Z8 a) b.tI).who
 | 541 => .int (atT (Z8 a) b.tI).beg
 | 542 => .int (atT (Z8 a) b.tI).com
 | 543 => .bool (atT (Z8 a) b.tI).opn
 | 544 => .amap (atT (Z8 a) b.tI).ch
 | 545 => .rows (atT (Z8 a) b.tI).rds
 | 546 => .ints (atT (Z8 a) b.tI).bad
 | 547 => .amap (Zff a.tR (Z8 b))
 | 548 => .rows (Zdb c.tR (Yf a.tR b.tI.toNat).kept)
 | 549 => .rows (Yf a.tR b.tI.toNat).out
 | 550 => .int (Yf a.tR b.tI.toNat).fault
 | 551 => .int (Yf a.tR b.tI.toNat).what
 | 552 => .int ((Z8 a).length : Nat)
 | 553 => .int (ixL b.tI (Z8 a) : Nat)
 | 554 => .rows (ZyB a.tR b.tI c.tN)
 | 555 => .g (.tx (setT (Z8 a) b.tI (ZrZ (atT (Z8 a) b.tI) c.tM d.tN)))
 | 556 => .g (.tx (setT (Z8 a) b.tI (Zw8 (atT (Z8 a) b.tI) c.tR d.tN)))
 | 557 => .g (.tx (Z8 a ++ [⟨b.tI, c.tI, -1, true, [], [], []⟩]))
 | 558 => .bool (ZN (plOk a.tR (Z8 b)))
 | 559 => .bool (ZN (d.tR.Perm (Zdb c.tR (Yf a.tR b.tI.toNat).fal)))
 | 560 => .bool (ZN (∀ r ∈ a.tR, ∃ b', r = [b'] /\ ZAo b.tR b'))
 | 561 => .g (.tx (Yf a.tR b.tI.toNat).txs)
 | 562 => .bool (ZN ([b.tI] ∈ a.tR))
 | 563 => .rows (if Zu a.tM (kc b.tN) = true then c.tR else c.tR ++ [d.tI :: nr b.tN])
 | 564 => .ints (if Zu a.tM (kc b.tN) = true /\ Z5 a.tM b.tN = false then c.tN ++ [d.tI] else c.tN)
 | 580 => .bool (ZN (SrtP a.tR b.tR))
 | 582 => .int (Zex (a.tI, b.tI) c.tI d.tI).1
 | 583 => .int (Zex (a.tI, b.tI) c.tI d.tI).2
 | 584 => .int (ZCa (ZmA a.tN) b.tN c.tI.toNat).1
 | 585 => .int (ZCa (ZmA a.tN) b.tN c.tI.toNat).2
 | 586 => .bool (ZN (YM (Zyz (Zme a.tR) b.tM) d.tI (ZmA c.tN)))
 | 587 => .bool (ZN (c.tR.Perm (Znn (Zme a.tR) b.tM)))
 | 590 => .int ((ZEQ a.tR b.tM c.tN).1 : Nat)
 | 591 => .int (ZEQ a.tR b.tM c.tN).2.1
 | 592 => .int (ZEQ a.tR b.tM c.tN).2.2
 | 593 => .int ((Y3 (Zme a.tR) b.tR (ZmA c.tN) d.tI.toNat).1 : Nat)
 | 594 => .int (Y3 (Zme a.tR) b.tR (ZmA c.tN) d.tI.toNat).2.1
 | 595 => .int (Y3 (Zme a.tR) b.tR (ZmA c.tN) d.tI.toNat).2.2
 | 596 => .bool (ZN (Zmt c.tM (stF (Zme a.tR) b.tI.toNat)))
 | 597 => .int (ZjW (Z5 d.tM) (ZmA a.tN) b.tR c.tI.toNat).1
 | 598 => .int (ZjW (Z5 d.tM) (ZmA a.tN) b.tR c.tI.toNat).2
 | _ => .int 0
noncomputable def prd (n : Nat) (w0 : World) (k x : U GG) : Go.Eng.HProp :=
 match n with
 | 100 => ZfF k.tR (Z8 x)
 | 101 => ZHw (g0 (k.tR.getD 0 [])) (k.tR.drop 1) (Z8 x)
 | 103 => ZrR (g0 (k.tR.getD 0 [])) (k.tR.drop 1)
 | 102 => twoH (g0 (k.tR.getD 0 [])) (g1 (k.tR.getD 0 [])) (k.tR.drop 1) (Z8 x)
 | _ => emp
noncomputable def sig : Sig GG := { dg := gg0, ch := fun _ => true, usr := usr, prd := prd }
theorem hR : RfSig sig where
 u500 := fun _ _ _ _ => rfl
 u501 := fun _ _ _ _ => rfl
 u502 := fun _ _ _ _ => rfl
 u503 := fun _ _ _ _ => rfl
 u504 := fun _ _ _ _ => rfl
 u505 := fun _ _ _ _ => rfl
 u506 := fun _ _ _ _ => rfl
 u507 := fun _ _ _ _ => rfl
 u508 := fun _ _ _ _ => rfl
 u509 := fun _ _ _ _ => rfl
 u510 := fun _ _ _ _ => rfl
 u511 := fun _ _ _ _ => rfl
 u512 := fun _ _ _ _ => rfl
 u513 := fun _ _ _ _ => rfl
 u514 := fun _ _ _ _ => rfl
 u515 := fun _ _ _ _ => rfl
 u516 := fun _ _ _ _ => rfl
 u517 := fun _ _ _ _ => rfl
 u518 := fun _ _ _ _ => rfl
 u519 := fun _ _ _ _ => rfl
 u520 := fun _ _ _ _ => rfl
 u521 := fun _ _ _ _ => rfl
 u522 := fun _ _ _ _ => rfl
 u524 := fun _ _ _ _ => rfl
 u525 := fun _ _ _ _ => rfl
 u523 := fun _ _ _ _ => rfl
theorem hB : JbSig sig where
 rf := hR
 u530 := fun _ _ _ _ => rfl
 u531 := fun _ _ _ _ => rfl
 u532 := fun _ _ _ _ => rfl
 u533 := fun _ _ _ _ => rfl
 u534 := fun _ _ _ _ => rfl
 u536 := fun _ _ _ _ => rfl
 u535 := fun _ _ _ _ => rfl
theorem hT : JtSig sig where
 jb := hB
 p100 := fun _ _ _ => rfl
 p101 := fun _ _ _ => rfl
 p103 := fun _ _ _ => rfl
 p102 := fun _ _ _ => rfl
 u568 := fun _ _ _ _ => rfl
 u571 := fun _ _ _ _ => rfl
 u569 := fun _ _ _ _ => rfl
 u570 := fun _ _ _ _ => rfl
 u565 := fun _ _ _ _ => rfl
 u566 := fun _ _ _ _ => rfl
 u540 := fun _ _ _ _ => rfl
 u541 := fun _ _ _ _ => rfl
 u542 := fun _ _ _ _ => rfl
 u543 := fun _ _ _ _ => rfl
 u544 := fun _ _ _ _ => rfl
 u545 := fun _ _ _ _ => rfl
 u546 := fun _ _ _ _ => rfl
 u547 := fun _ _ _ _ => rfl
 u548 := fun _ _ _ _ => rfl
 u549 := fun _ _ _ _ => rfl
 u550 := fun _ _ _ _ => rfl
 u551 := fun _ _ _ _ => rfl
 u552 := fun _ _ _ _ => rfl
 u553 := fun _ _ _ _ => rfl
 u554 := fun _ _ _ _ => rfl
 u555 := fun _ _ _ _ => rfl
 u556 := fun _ _ _ _ => rfl
 u557 := fun _ _ _ _ => rfl
 u558 := fun _ _ _ _ => rfl
 u559 := fun _ _ _ _ => rfl
 u560 := fun _ _ _ _ => rfl
 u561 := fun _ _ _ _ => rfl
 u562 := fun _ _ _ _ => rfl
 u563 := fun _ _ _ _ => rfl
 u564 := fun _ _ _ _ => rfl
theorem hJ : JsSig sig where
 jt := hT
 u580 := fun _ _ _ _ => rfl
 u582 := fun _ _ _ _ => rfl
 u583 := fun _ _ _ _ => rfl
 u584 := fun _ _ _ _ => rfl
 u585 := fun _ _ _ _ => rfl
 u586 := fun _ _ _ _ => rfl
 u587 := fun _ _ _ _ => rfl
 u590 := fun _ _ _ _ => rfl
 u591 := fun _ _ _ _ => rfl
 u592 := fun _ _ _ _ => rfl
 u593 := fun _ _ _ _ => rfl
 u594 := fun _ _ _ _ => rfl
 u595 := fun _ _ _ _ => rfl
 u596 := fun _ _ _ _ => rfl
 u597 := fun _ _ _ _ => rfl
 u598 := fun _ _ _ _ => rfl
noncomputable def env (b o l c : Int) (L : List (List Int)) (b2 o2 l2 c2 : Int) (L2 : List (List Int)) : Env GG := fun i => match i with
 | 0 => .int b | 1 => .int o | 2 => .int l | 3 => .int c | 4 => .rows L | 5 => .int 0 | 6 => .int b2 | 7 => .int o2 | 8 => .int l2 | 9 => .int c2 | 10 => .rows L2 | _ => .int 0
abbrev V6 (L : List (List Int)) : List Value := L.flatMap (rowVals Zg8)
def Ro (w : World) (b o : Int) (vals : List Value) : Prop := (0 <= b \/ vals = []) /\ ∀ i v, vals[i]? = some v -> b.toNat < w.heap.size /\ w.cell? ⟨b.toNat, o.toNat + i, none⟩ = some v
def ZEm (b o l c : Int) : Value := .slice (if b < 0 then none else some ⟨b.toNat, o.toNat, none⟩) l.toNat c.toNat
theorem walk (b o l c : Int) (L : List (List Int)) (b2 o2 l2 c2 : Int) (L2 : List (List Int)) (w : World) (h0 : 0 <= l /\ l = L.length /\ l <= c /\ l <= 1048576) (hr : Ro w b o (V6 L)) (h2 : 0 <= l2 /\ l2 = L2.length /\ l2 <= c2 /\ l2 <= 1048576) (hr2 : Ro w b2 o2 (V6 L2)) :
  Calls Tryz.prog 3 #[ZEm b o l c, ZEm b2 o2 l2 c2] w fun e w' => e = .returned (.bool true) /\ Below w.heap.size w w' := by
 have q : ∀ e ∈ ZmD.reqs, (e.den sig (env b o l c L b2 o2 l2 c2 L2)).tP := by
  intro e he
  simp only [ZmD, hQ, List.cons_append, List.nil_append, List.mem_cons, List.not_mem_nil, or_false] at he
  rcases he with rfl | rfl | rfl | rfl | rfl | rfl | rfl | rfl
  all_goals simp [eLe, Go.Eng.SX.mk2, Go.Eng.SX.den, Go.Eng.ap1, Go.Eng.ap2, ai, rA, Zr, z0, env, U.co]
  all_goals omega
 have := (ZIq sig hJ (ZFH sig)) (fun _ => true) w emp (env b o l c L b2 o2 l2 c2 L2) w [ZEm b o l c, ZEm b2 o2 l2 c2] (by
  show Go.Eng.argsR _ _ [.one (.slice (ai 0) (ai 1) z0 z0 (ai 2) (ai 3) 6), .one (.slice (ai 6) (ai 7) z0 z0 (ai 8) (ai 9) 6)] _
  refine ⟨.inr ?_, .inr ?_, trivial⟩
  all_goals simp [ZEm, Go.Eng.SV.den, Go.Eng.SC.den, Go.Eng.SX.den, ai, z0, env, U.co]) q (by
  obtain ⟨x, hx, hi⟩ := Zp0 w
  rw [Go.Eng.emp_star] at hx
  refine ⟨x, ?_, hi⟩
  have e : Go.Eng.hpDen (sig.wc fun _ => true) (env b o l c L b2 o2 l2 c2 L2) w ZmD.pre = Ze (Go.Eng.roDen sig w hE (.int b) (.int o) (.rows L)) (Ze (Go.Eng.roDen sig w hE (.int b2) (.int o2) (.rows L2)) emp) := rfl
  rw [e, Go.Eng.star_assoc, Go.Eng.star_assoc, Go.Eng.roDen, Go.Eng.star_pure, Go.Eng.roDen, Go.Eng.star_pure, Go.Eng.emp_star]
  exact ⟨hr, hr2, hx⟩)
 refine this.mono ?_
 rintro e w' ⟨ρ', v, hx, rfl, hv, hs, hfa⟩
 have hv : v = (Go.Eng.SC.bool (.at .bool 12)).den sig ρ' := Go.Eng.R_one sig ρ' hv
 subst hv
 refine ⟨?_, hs.below⟩
 have h12 : (ρ' 12).toBool = true := hfa (qA 12) (List.mem_singleton.2 rfl)
 show Ending.returned (.bool (ρ' 12).toBool) = _
 rw [h12]
theorem Zpr {H : Type} : ∀ l : List (DataW H), l.length <= Rows.uptoBulkAll l
 | [] => by simp [Rows.uptoBulkAll]
 | d :: r => by
  have h1 : 1 <= Rows.uptoBulk d := by
   cases d with
   | lit l => cases l <;> simp [Rows.uptoBulk]
   | _ => simp [Rows.uptoBulk]
  have := Zpr r
  simp only [Rows.uptoBulkAll, List.length_cons]; omega
theorem ZqR {H : Type} {w : World} {v : Value} {d : DataW H} {b o l c : Int} {n : Nat} {vals : List Value} (h : ZB9 w v d b o l c n vals) : l <= Rows.uptoBulk d := by
 rcases h.2.2.2.2.2.2 with ⟨rfl, h⟩ | ⟨ds, sp, rfl, h⟩
 ·simp [Rows.uptoBulk]; omega
 ·have := Zpr ds
  simp only [Rows.uptoBulk]; omega
theorem laid : laidOutB Tryz.prog = true := by kernel_rfl
set_option maxRecDepth 100000 in
theorem Zac (H : Type) (enc : TypeId × Value -> H) (W : World) (base : Nat) (args : Array Value) (ds gs : List (DataW H)) (before : List MemPlace)
  (hval : ∀ (j : Nat) t v, Tryz.f3.params[j]? = some t -> args[j]? = some v -> Value.okWide Tryz.prog W .any base t v)
  (hW : DataW.Whole enc Tryz.prog Tryz.f3.params.toList Rows.judgeSerialsSpec.vars false W args.toList ds gs before) (hk : Rows.uptoSmall H (ds ++ gs) = true) :
  Calls Tryz.prog 3 args W fun e W' => ∃ v, e = .returned v /\ Rows.judgeSerialsSpec.post enc Tryz.prog Tryz.f3 false true false false W args v W' := by
 have hW' := hW
 obtain ⟨p, q, hA0, hV, rfl, hfz, hnd⟩ := hW
 have hA : DataW.TrodAll enc Tryz.prog W 0 (fun _ => true) true Tryz.f3.params.toList args.toList ds p := hA0
 rw [Tryz.params3] at hA hval
 obtain ⟨v0, vs0, d0, ds0, p0, q0, hargs, rfl, rfl, h0, r0⟩ := trodAll_cons hA
 obtain ⟨v1, vs1, d1, ds1, p1, q1, rfl, rfl, rfl, h1, r1⟩ := trodAll_cons r0
 obtain ⟨rfl, rfl, rfl⟩ := trodAll_nil r1
 obtain rfl : args = #[v0, v1] := by cases args; simp_all
 obtain ⟨rfl, rfl⟩ := trodVars_none hV
 have hlt : ∀ x ∈ p0 ++ (p1 ++ []), x.block < W.heap.size := fun x hx => hW'.lt x (List.mem_append_left _ hx)
 have fin : ∀ (e : Ending) (W' : World), (e = .returned (.bool true) /\ Below W.heap.size W W') -> ∃ v, e = .returned v /\ Rows.judgeSerialsSpec.post enc Tryz.prog Tryz.f3 false true false false W #[v0, v1] v W' := by
  rintro e W' ⟨rfl, hb⟩
  clear hA0
  refine ⟨_, rfl, Ze3 (pa := p0 ++ (p1 ++ [])) (pv := []) hW' (fun _ _ _ => (trodAll_cons_mk (shut_bool Tryz.underlying4 _) trodAll_mk0)) ?_ (fun _ _ => rfl) rfl hb
   (ok_one (by kernel_rfl) rfl (okWide_bool_mk Tryz.underlying4 _))⟩
  intro sp hsp
  refine trodAll_cons_mk ?_ (trodAll_cons_mk ?_ trodAll_mk0)
  ·exact WideElems.Trod_stays laid (by kernel_rfl) (of_decide_eq_true (by kernel_rfl)) h0 (fun x hx => hb.same (hlt x (by simp [hx]))) (fun x hx => hsp x (by simp [hx]))
  ·exact WideElems.Trod_stays laid (by kernel_rfl) (of_decide_eq_true (by kernel_rfl)) h1 (fun x hx => hb.same (hlt x (by simp [hx]))) (fun x hx => hsp x (by simp [hx]))
 obtain ⟨b, o, l, c, L, g0⟩ := Zka (enc := enc) (W := W) (base := base) (v := v0) (d := d0) (ps := p0) Tryz.underlying22 Tryz.underlying48 (by kernel_rfl) rfl rfl rfl rfl rfl rfl (by kernel_rfl) (by kernel_rfl) (by kernel_rfl) (by kernel_rfl) (by kernel_rfl) (by kernel_rfl)
  Tryz.underlying3 Tryz.underlying3 Tryz.underlying9 Tryz.underlying9 Tryz.underlying4 Tryz.underlying3 (hval 0 22 v0 rfl rfl) h0
 obtain ⟨b2, o2, l2, c2, L2, g1⟩ := Zka (enc := enc) (W := W) (base := base) (v := v1) (d := d1) (ps := p1) Tryz.underlying22 Tryz.underlying48 (by kernel_rfl) rfl rfl rfl rfl rfl rfl (by kernel_rfl) (by kernel_rfl) (by kernel_rfl) (by kernel_rfl) (by kernel_rfl) (by kernel_rfl)
  Tryz.underlying3 Tryz.underlying3 Tryz.underlying9 Tryz.underlying9 Tryz.underlying4 Tryz.underlying3 (hval 1 22 v1 rfl rfl) h1
 have hb : Rows.uptoBulkAll ([d0, d1] ++ [] : List (DataW H)) <= 1048576 := of_decide_eq_true hk
 simp only [List.append_nil, Rows.uptoBulkAll] at hb
 have k0 := ZqR g0
 have k1 := ZqR g1
 refine Calls.mono ?_ fin
 have := walk b o l c L b2 o2 l2 c2 L2 W ⟨g0.2.1, g0.2.2.1, g0.2.2.2.1, by omega⟩ g0.2.2.2.2.2.1 ⟨g1.2.1, g1.2.2.1, g1.2.2.2.1, by omega⟩ g1.2.2.2.2.2.1
 have e0 : v0 = ZEm b o l c := g0.1
 have e1 : v1 = ZEm b2 o2 l2 c2 := g1.1
 rw [e0, e1]
 exact this
set_option maxRecDepth 100000 in
theorem ZHK (os : Os) (started : os.Started) (H : Type) (enc : TypeId × Value -> H) (F : Stop.Interp) :
  ReturnsInHanded {} Tryz.checked os 3 .any ((Rows.OpenSpec.upto Rows.judgeSerialsSpec).pre6 enc Tryz.prog Tryz.f3 Rows.judgeSerialsUptoRow.domain false) (((Rows.OpenSpec.upto Rows.judgeSerialsSpec).at F).post enc Tryz.prog Tryz.f3 false true false false) := by
 refine returnsInHanded_of_cond (C := Tryz.checked) (s := Rows.OpenSpec.upto Rows.judgeSerialsSpec) (k := Rows.uptoSmall) rfl own started (by kernel_rfl) Tryz.func3
  (OpenSpec.witness (enc := enc) (C := Tryz.checked) (s := Rows.OpenSpec.upto Rows.judgeSerialsSpec) (k := Rows.uptoSmall) rfl false ⟨#[], #[.slice none 0 0, .slice none 0 0], []⟩ 8 (by kernel_rfl) (by kernel_rfl) (by kernel_rfl)
   (x := ([.nil, .nil], [], [])) (by kernel_rfl) rfl (by kernel_rfl)) ?_
 intro W base args ds gs before hval hW _ hk _
 exact Zac H enc W base args ds gs before hval hW hk
theorem over : Rows.judgeSerialsUptoRow.holds Tryz.pinned (Rows.OpenSpec.upto Rows.judgeSerialsSpec) :=
 OpenClaim.holds_of_cond 3 Tryz.f3 rfl rfl rfl rfl rfl rfl rfl ⟨rfl, rfl, rfl, rfl, rfl⟩ rfl rfl rfl rfl rfl (by kernel_rfl) Tryz.func3 (by kernel_rfl)
  (of_decide_eq_true (by kernel_rfl)) (by unfold Func.isWrapper; first | (rw [if_pos (by decide +kernel)]; kernel_rfl) | (rw [if_neg (by decide +kernel)]; exact ⟨rfl, rfl⟩))
  (fun os started H enc _ F => ZHK os started H enc F)
theorem proved : Rows.JudgeSerialsUptoSaid :=
 over
#print axioms proved
end Go.Proofs.YtidlngnhjffepaaGreat.judgeSerials
