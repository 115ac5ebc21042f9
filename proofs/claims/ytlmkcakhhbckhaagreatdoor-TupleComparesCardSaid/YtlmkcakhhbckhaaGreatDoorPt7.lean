/- TupleCompares answers true, and what was handed in stays as it is; the statement and its card. No condition. -/
import Derived.Test.YtlmkcakhhbckhaaGreatDoorPt6
import Derived.Laws.Externs
import Derived.Lib.Bytealg
import Derived.ChangeSame
import Derived.Test.YtlmkcakhhbckhaaGreatDoorProg
import Derived.Lib.Builder
import Derived.Lib.UnsafeStr
import Derived.Lib.Walk
import Derived.Shelf.RegionOpenPlain
import Derived.WalkKit
import Derived.KernelRfl
import Derived.Test.YtlmkcakhhbckhaaGreatDoorPt4
import Derived.Deep.Slices
import Derived.Test.YtlmkcakhhbckhaaGreatDoorChecked
import Derived.Test.YtlmkcakhhbckhaaGreatDoorRows
import Derived.Test.YtlmkcakhhbckhaaGreatDoorCards
import Derived.Test.YtlmkcakhhbckhaaGreatDoorTie
import Derived.ProofKit
import Derived.OpenShut
import Derived.JoinedCond
import Derived.Carry
import Derived.Lay
import Derived.SevenTiedAt
set_option linter.unusedSimpArgs false
set_option linter.unusedVariables false
set_option maxRecDepth 20000
namespace Go.Cx
open Go.RowKit (Below)
section
variable {P : Program} {w0 : World} {φ : Out -> Prop} {ctrs : List (Nat × Option Cn)} {bd rd : Nat -> Cn} {ro : Option Nat}
theorem FrR.nj' {σ : Sg} {fr : F} {a : Act} (h : FrR σ fr a) : NJ' fr := ⟨h.nj, by rw [h.sz]; exact h.small⟩
def SxOk (P : Program) (w0 : World) (ctrs : List (Nat × Option Cn)) (bd rd : Nat -> Cn) (ro : Option Nat) (fn : Nat) (vro : Option Nat) (φ : Out -> Prop) (c : Code) : Prop :=
 ∀ {σ : Sg} {fr : F} {hp : H} {n : Nat} {kn : F -> H -> Nat -> Res} {ke : Nat -> F -> H -> Nat -> Res} {kr : F -> H -> Nat -> Res} {a : Act} {w : World} {Q : Exit -> Act -> World -> Prop},
  ((vro = none /\ ro = none) \/ ∃ l p t, vro = some l /\ ro = some p /\ σ l = some (p, t)) →
  Rel w0 σ hp n w -> FrR σ fr a -> Zm8 ro fr -> Zr ((Y8 P ctrs fn c).run bd rd vro fr hp n kn ke kr) φ -> (∀ c a w, ¬ Q (.panic c) a w) →
  (∀ σ' fr' hp' n' a' w', St w0 ro σ n σ' fr' hp' n' a' w' -> Zr (kn fr' hp' n') φ -> Q .normal a' w') →
  (∀ i σ' fr' hp' n' a' w', St w0 ro σ n σ' fr' hp' n' a' w' -> Zr (ke i fr' hp' n') φ -> Q (.exit i) a' w') →
  (∀ σ' fr' hp' n' a' w', St w0 ro σ n σ' fr' hp' n' a' w' -> Zr (kr fr' hp' n') φ -> Q .ret a' w') -> c.wpIn (FF ro) 0 P Q a w
theorem Zw8 {vro : Option Nat} {σ σ' : Sg} {n n' : Nat} {fr' : F} {hp' : H} {a' : Act} {w' : World} (hvro : (vro = none /\ ro = none) \/ ∃ l p t, vro = some l /\ ro = some p /\ σ l = some (p, t)) (hS : St w0 ro σ n σ' fr' hp' n' a' w') :
  (vro = none /\ ro = none) \/ ∃ l p t, vro = some l /\ ro = some p /\ σ' l = some (p, t) := by
 rcases hvro with h | ⟨l, p, t, h1, h2, h3⟩
 ·exact .inl h
 ·exact .inr ⟨l, p, t, h1, h2, hS.ex.1 _ _ h3⟩
theorem ZjK {fn : Nat} {vro : Option Nat} {b : Code} (hb : SxOk P w0 ctrs bd rd ro fn vro φ b) {kn : F -> H -> Nat -> Res} {ke : Nat -> F -> H -> Nat -> Res} {kr : F -> H -> Nat -> Res} {Q : Exit -> Act -> World -> Prop} (hQp : ∀ c a w, ¬ Q (.panic c) a w) :
  ∀ (fuel : Nat) {σ : Sg} {fr : F} {hp : H} {n : Nat} {a : Act} {w : World},
  ((vro = none /\ ro = none) \/ ∃ l p t, vro = some l /\ ro = some p /\ σ l = some (p, t)) →
  Rel w0 σ hp n w -> FrR σ fr a -> Zm8 ro fr -> Zr (Zrl (Y8 P ctrs fn b) bd rd vro kn ke kr fuel fr hp n) φ →
  (∀ i σ' fr' hp' n' a' w', St w0 ro σ n σ' fr' hp' n' a' w' -> Zr (ke i fr' hp' n') φ -> Q (.exit i) a' w') →
  (∀ σ' fr' hp' n' a' w', St w0 ro σ n σ' fr' hp' n' a' w' -> Zr (kr fr' hp' n') φ -> Q .ret a' w') -> WpL (FF ro) P b Q a w := by
 intro fuel
 induction fuel with
 | zero => intro σ fr hp n a w _ _ _ _ h; exact h.no.elim
 | succ fuel ih =>
  intro σ fr hp n a w hvro hR hF hro h hE hK
  have h : Zr ((Y8 P ctrs fn b).run bd rd vro fr hp n (Zrl (Y8 P ctrs fn b) bd rd vro kn ke kr fuel) ke kr) φ := h
  refine ZqQ (hb hvro hR hF hro h (fun c a w => hQp c a w) ?_ ?_ ?_)
  ·intro σ1 fr1 hp1 n1 a1 w1 hS h1
   exact ih (Zw8 hvro hS) hS.rel hS.fr hS.ro h1 (fun _ _ _ _ _ _ _ hS2 => hE _ _ _ _ _ _ _ (St.trans hS.ex hS.n hS2)) (fun _ _ _ _ _ _ hS2 => hK _ _ _ _ _ _ (St.trans hS.ex hS.n hS2))
  ·exact fun i σ1 fr1 hp1 n1 a1 w1 hS h1 => hE _ _ _ _ _ _ _ hS h1
  ·exact fun σ1 fr1 hp1 n1 a1 w1 hS h1 => hK _ _ _ _ _ _ hS h1
theorem Zcf (hC : CsOk P w0 ctrs bd rd) {fn : Nat} {vro : Option Nat} : ∀ (c : Code), SxOk P w0 ctrs bd rd ro fn vro φ c := by
 intro c
 induction c with
 | skip => intro σ fr hp n kn ke kr a w Q hvro hR hF hro h hQp hN hE hK; exact wpIn_skip (hN _ _ _ _ _ _ ⟨hR, hF, hro, Ex.refl _ _, Nle.refl _⟩ h)
 | label l => intro σ fr hp n kn ke kr a w Q hvro hR hF hro h hQp hN hE hK; exact wpIn_label (hN _ _ _ _ _ _ ⟨hR, hF, hro, Ex.refl _ _, Nle.refl _⟩ h)
 | exit id => intro σ fr hp n kn ke kr a w Q hvro hR hF hro h hQp hN hE hK; exact wpIn_exit (hE _ _ _ _ _ _ _ ⟨hR, hF, hro, Ex.refl _ _, Nle.refl _⟩ h)
 | ret => intro σ fr hp n kn ke kr a w Q hvro hR hF hro h hQp hN hE hK; exact wpIn_ret (hK _ _ _ _ _ _ ⟨hR, hF, hro, Ex.refl _ _, Nle.refl _⟩ h)
 | seq x y ihx ihy =>
  intro σ fr hp n kn ke kr a w Q hvro hR hF hro h hQp hN hE hK
  have h : Zr ((Y8 P ctrs fn x).run bd rd vro fr hp n (fun fr hp n => (Y8 P ctrs fn y).run bd rd vro fr hp n kn ke kr) ke kr) φ := h
  refine wpIn_seq (ihx hvro hR hF hro h (fun c a w => hQp c a w) ?_ ?_ ?_)
  ·intro σ1 fr1 hp1 n1 a1 w1 hS h1
   exact ihy (Zw8 hvro hS) hS.rel hS.fr hS.ro h1 hQp (fun _ _ _ _ _ _ hS2 => hN _ _ _ _ _ _ (St.trans hS.ex hS.n hS2)) (fun _ _ _ _ _ _ _ hS2 => hE _ _ _ _ _ _ _ (St.trans hS.ex hS.n hS2)) (fun _ _ _ _ _ _ hS2 => hK _ _ _ _ _ _ (St.trans hS.ex hS.n hS2))
  ·exact fun i σ1 fr1 hp1 n1 a1 w1 hS h1 => hE _ _ _ _ _ _ _ hS h1
  ·exact fun σ1 fr1 hp1 n1 a1 w1 hS h1 => hK _ _ _ _ _ _ hS h1
 | cond x b1 b2 ih1 ih2 =>
  intro σ fr hp n kn ke kr a w Q hvro hR hF hro h hQp hN hE hK
  have h : Zr (ZkO ((Zei x).run fr) (fun q => @Bool.rec (fun _ => Res) ((Y8 P ctrs fn b2).run bd rd vro fr hp n kn ke kr) ((Y8 P ctrs fn b1).run bd rd vro fr hp n kn ke kr) q) none) φ := h
  have hx := Zlp hF x
  rw [Yh hF.nj, Ziv] at h
  split at h
  ·rename_i b he
   rw [he] at hx; simp only [VR] at hx
   cases b
   ·exact wpIn_cond_false hx (ih2 hvro hR hF hro h hQp hN hE hK)
   ·exact wpIn_cond_true hx (ih1 hvro hR hF hro h hQp hN hE hK)
  ·exact h.no.elim
 | block id b ih =>
  intro σ fr hp n kn ke kr a w Q hvro hR hF hro h hQp hN hE hK
  have h : Zr ((Y8 P ctrs fn b).run bd rd vro fr hp n kn (fun i fr hp n => @Bool.rec (fun _ => Res) (ke i fr hp n) (kn fr hp n) (Nat.beq i id)) kr) φ := h
  refine wpIn_block (ih hvro hR hF hro h (fun c a w => hQp c a w) (fun _ _ _ _ _ _ hS h1 => hN _ _ _ _ _ _ hS h1) (fun i σ1 fr1 hp1 n1 a1 w1 hS h1 => ?_) (fun _ _ _ _ _ _ hS h1 => hK _ _ _ _ _ _ hS h1))
  show (if i = id then Q .normal a1 w1 else Q (.exit i) a1 w1)
  cases hb : Nat.beq i id
  ·rw [hb] at h1
   rw [if_neg (fun e => by rw [e, Nat.beq_refl] at hb; cases hb)]
   exact hE _ _ _ _ _ _ _ hS h1
  ·rw [hb] at h1
   rw [if_pos (nbq hb)]
   exact hN _ _ _ _ _ _ hS h1
 | loop b ih =>
  intro σ fr hp n kn ke kr a w Q hvro hR hF hro h hQp hN hE hK
  have h : Zr (Zrl (Y8 P ctrs fn b) bd rd vro kn ke kr ZgE fr hp n) φ := h
  exact Zlr (ZjK ih hQp ZgE hvro hR hF hro h hE hK)
 | rangeFunc g ps assign body _ _ =>
  intro σ fr hp n kn ke kr a w Q hvro hR hF hro h hQp hN hE hK
  exact ZrQ hC hvro hR hF hro h hN hE hK
 | region id ops draw =>
  intro σ fr hp n kn ke kr a w Q hvro hR hF hro h hQp hN hE hK
  have h : Zr ((Zkb P ctrs ops draw).run bd rd fr hp n kn) φ := h
  cases draw
  ·have h : Zr ((Zsr P ctrs ops.toList ops.toList).run bd rd fr hp n kn) φ := h
   rw [Zna _ hF.nj'] at h
   refine wpIn_region ?_
   have := ZdP (ro := ro) (Q := Q) hC ops.toList 0 (by simp) hR hF hro h hN
   rw [List.range_eq_range']; simpa using this
  ·unfold Zkb at h
   simp only at h
   cases hm : (bif P.follows .mixedOrders then (bif Region.noSelect ops then ZdS ops.toList else false) else false)
   ·rw [hm] at h; exact h.no.elim
   rw [hm] at h
   simp only at h
   obtain ⟨hm1, hm2⟩ := Yf hm
   obtain ⟨hns, hnd⟩ := Yf hm2
   obtain ⟨hfit, h3⟩ := h.bif
   rw [Zrz _ _ _ _ _ _ _ _ (Msk.zero ops.size) hF.nj'] at h3
   have hfit := ZxS hfit
   have hlim := hR.lim
   have hn1 : Nle n (n + Zaw ops.toList) /\ idN (n + Zaw ops.toList) = idN n + Zaw ops.toList := by unfold Nle idN Yg at *; omega
   refine wpIn_region_any hm1 (ZaV _ _ _ _ (Zct hC hns (ZiO hnd) hQp _ _ [] [] σ hp (n + Zaw ops.toList) fr (fun _ => False) [] ops.size a _ ((hR.weak (fun _ => .inl rfl) hn1.1).drew _) hF hro ?_ ?_ (fun _ h => h.elim) (fun s hs => nomatch hs) (fun s hs => nomatch hs) ?_ h3 ?_))
   ·refine ⟨by rw [hn1.2]; exact Zxv _, fun j o hj _ ha => hR.fresh _ (Nat.le_add_right _ _) ?_, fun j i hm => (nomatch hm), fun j i hm => (nomatch hm), fun j i j' i' hm => (nomatch hm)⟩
    have := Zda (l := ops.toList) (j := j) (by rw [Zxu]; exact hj) ha
    omega
   ·intro j o hj hl
    have hlt : j < ops.size := (Array.getElem?_eq_some_iff.1 hj).1
    simp [hlt] at hl
   ·unfold left
    exact Nat.le_trans List.countP_le_length (by simp)
   ·intro σ' fr' hp' n' a' w' r1 r2 r3 r4 r5 r6 r7
    refine hN _ _ _ _ _ _ ⟨r1, r2, r3, ⟨r4, fun i hi => r5 i (by rw [hn1.1.2]; exact hi)⟩, hn1.1.trans r6⟩ r7
 | _ =>
  intro σ fr hp n kn ke kr a w Q hvro hR hF hro h hQp hN hE hK
  exact h.no.elim
end
end Go.Cx
namespace Go.Cx
open Go.RowKit (Below)
section
variable {P : Program} {w0 : World} {φ : Out -> Prop} {ctrs : List (Nat × Option Cn)} {bd rd : Nat -> Cn} {ro : Option Nat}
/-! ### Frames that are entered -/
def Zcx : List Value -> Nat -> Array Value -> Array Value
 | [], _, t => t
 | v :: l, i, t => Zcx l (i + 1) (t.setIfInBounds i v)
theorem Zr3 {σ : Sg} {ds : List Deferred} : ∀ {args : List CV} {xs : List Value} {i : Nat} {fr : F} {t : Array Value}, VRs σ args xs -> FrR σ fr { tmps := t, defers := ds } -> FrR σ (Zqt args i fr) { tmps := Zcx xs i t, defers := ds }
 | [], xs, i, fr, t, hx, h => by simp only [VRs] at hx; subst hx; exact h
 | c :: args, xs, i, fr, t, hx, h => by
  simp only [VRs] at hx; obtain ⟨v, ws, rfl, h1, h2⟩ := hx
  show FrR σ (Zqt args (i + 1) (ZjF fr i c)) { tmps := Zcx ws (i + 1) (t.setIfInBounds i v), defers := ds }
  exact Zr3 h2 (h.set h1)
theorem Zef : ∀ (xs : List Value) (i : Nat) (t : Array Value), i + xs.length <= t.size -> (Zcx xs i t).toList = t.toList.take i ++ xs ++ t.toList.drop (i + xs.length)
 | [], i, t, _ => by simp [Zcx]
 | v :: xs, i, t, h => by
  simp only [ZxZ] at h
  unfold Zcx
  rw [Zef xs (i + 1) _ (by simp; omega)]
  have e := list_seg_step t.toList i v xs (by simp; omega)
  simpa [Array.toList_setIfInBounds, Nat.add_assoc] using e
theorem FrR.start {σ : Sg} {args : List CV} {xs : List Value} (hx : VRs σ args xs) {m : Nat} (h : args.length + (m - args.length) <= 511) :
  FrR σ (Zqt args 0 (F0 (args.length + (m - args.length)))) { tmps := xs.toArray ++ Array.replicate (m - xs.toArray.size) undef, defers := [] } := by
 have hl := hx.len
 have h0 : FrR σ (F0 (args.length + (m - args.length))) { tmps := Array.replicate (args.length + (m - args.length)) undef, defers := [] } := by
  refine ⟨by simp [F0], by simpa using h, fun i v _ => ?_, ?_, fun i _ _ => ZkH _ _⟩
  ·rw [ZkH]; simp only [VR]
  ·unfold dfs; rw [ZkH]; rfl
 have h1 := Zr3 hx h0 (i := 0)
 have e : Zcx xs 0 (Array.replicate (args.length + (m - args.length)) undef) = xs.toArray ++ Array.replicate (m - xs.toArray.size) undef := by
  apply Array.ext'
  rw [Zef _ _ _ (by simp; omega)]
  simp [hl]
 rw [e] at h1; exact h1
theorem ZpM {σ : Sg} {ds : List Deferred} : ∀ {ps : List Nat} {args : List CV} {xs : List Value} {fr fr' : F} {t : Array Value}, VRs σ args xs -> FrR σ fr { tmps := t, defers := ds } -> ZmZ ps args fr = some fr' →
  FrR σ fr' { tmps := (ps.zip xs).foldl (fun t (x : Nat × Value) => t.setIfInBounds x.1 x.2) t, defers := ds } /\ ps.length = xs.length /\ ZcA fr' ZM = ZcA fr ZM
 | [], [], xs, fr, fr', t, hx, h, hp => by simp only [VRs] at hx; subst hx; cases hp; exact ⟨h, rfl, rfl⟩
 | [], _ :: _, xs, fr, fr', t, hx, h, hp => by cases hp
 | _ :: _, [], xs, fr, fr', t, hx, h, hp => by cases hp
 | p :: ps, c :: args, xs, fr, fr', t, hx, h, hp => by
  simp only [VRs] at hx; obtain ⟨v, ws, rfl, h1, h2⟩ := hx
  unfold ZmZ at hp
  obtain ⟨g1, g2, g3⟩ := ZpM h2 (h.set (i := p) h1) hp
  refine ⟨by simpa using g1, by simp [g2], ?_⟩
  rw [g3, Zg4 (by have := h.small; rw [h.sz]; exact this)]
/-! ### Leaving a body -/
theorem ZiM {dctrs : List (Nat × Cn)} {db : Nat -> Cn} (hD : DsOk P w0 dctrs db) {fn : Func} {a : Act} {l : List Out} {σ0 σ : Sg} {n0 : Nat} {fr : F} {hp : H} {n : Nat} {w : World} (hS : St w0 ro σ0 n0 σ fr hp n a w)
  (h : Zr (fin P dctrs db fn fr hp n) (· ∈ l)) : LeavesInM (FF none) 0 P fn a.tmps (fun e w' => ∃ v, e = .returned v /\ Ret w0 σ0 n0 l v w') a.defers .returning w := by
 unfold fin at h
 refine ZcP hD _ _ hS.fr.df hS.rel h (fun σ' hp' n' w' r1 r2 r3 r4 => ?_)
 have hF' := hS.fr.mono r2.1
 have hres : ∃ vs, ZiY P fr hp' fn.results.toList = some vs /\ (match vs with | [v] => (⟨v, hp', n'⟩ : Out) | vs => ⟨.tup vs, hp', n'⟩) ∈ l := by
  split at r4
  ·rename_i v hv
   obtain ⟨q, hq, hm⟩ := r4
   cases hq
   exact ⟨_, hv, hm _ (by simp)⟩
  ·rename_i vs hne hv
   obtain ⟨q, hq, hm⟩ := r4
   cases hq
   refine ⟨_, hv, ?_⟩
   have := hm ⟨.tup vs, hp', n'⟩ (by simp)
   match vs, hne, this with
   | [], _, h => exact h
   | [v], hne, _ => exact (hne v rfl).elim
   | _ :: _ :: _, _, h => exact h
  ·exact r4.no.elim
 obtain ⟨vs, hv, hm⟩ := hres
 obtain ⟨us, hu, hr⟩ := Za2 r1 hF' _ hv
 have hrun := ZeD hu
 refine ⟨_, hrun, _, rfl, ?_⟩
 have hx := hS.ex.trans hS.n r2
 have hn := hS.n.trans r3
 have hl := hr.len
 split
 ·rename_i h1
  match vs, us, hr, hl with
  | [c], [u], hr, _ =>
   simp only [VRs] at hr
   obtain ⟨v, ws, e, g1, g2⟩ := hr
   cases e
   exact ⟨_, _, hm, g1, r1, hx, hn⟩
  | [], us, _, hl => simp at hl h1; omega
  | [_], [], _, hl => simp at hl
  | [_], _ :: _ :: _, _, hl => simp at hl
  | _ :: _ :: _, us, _, hl => simp at hl h1; omega
 ·rename_i h1
  refine ⟨⟨.tup vs, hp', n'⟩, σ', ?_, ?_, r1, hx, hn⟩
  ·match vs, hm, hl with
   | [], hm, _ => exact hm
   | [_], _, hl => simp at hl h1; omega
   | _ :: _ :: _, hm, _ => exact hm
  ·simp only [VR]; exact ⟨us, hr, rfl⟩
/-! ### Functions -/
def ZiK (P : Program) (fn : Func) (R : Ending -> World -> Prop) : Exit -> Act -> World -> Prop
 | .normal, a, w => LeavesInM (FF none) 0 P fn a.tmps R a.defers .returning w
 | .ret, a, w => LeavesInM (FF none) 0 P fn a.tmps R a.defers .returning w
 | _, _, _ => False
theorem ZkG {fn : Func} {R : Ending -> World -> Prop} : ∀ e a w, ZiK P fn R e a w -> bodyPostM (FF none) 0 P fn R e a w := by
 intro e a w h
 cases e <;> first | exact h | exact h.elim
theorem Z3 {f : Nat} {fn : Func} {c : Code} {args : Array Value} {w : World} (hf : P.funcs[f]? = some fn) (hb : fn.body = some c) (hn : (!(fn.name == "runtime.NumGoroutine")) = true) : (callFunc f args).run P w = .ok (.enter f args) w := by
 have hne : fn.name ≠ "runtime.NumGoroutine" := by simpa using hn
 simp [callFunc, hf, hne, hb]
def Zsf (vs : List CV) (hp : H) (n : Nat) : Out := match vs with | [v] => ⟨v, hp, n⟩ | vs => ⟨.tup vs, hp, n⟩
theorem Zto {r : Option (List CV)} {l : List Out} {hp : H} {n : Nat} (h : Zr (match r with | some [v] => some [⟨v, hp, n⟩] | some vs => some [⟨.tup vs, hp, n⟩] | none => none) (· ∈ l)) :
  ∃ vs, r = some vs /\ Zsf vs hp n ∈ l := by
 split at h
 ·rename_i v
  obtain ⟨q, hq, hm⟩ := h
  cases hq
  exact ⟨_, rfl, hm ⟨v, hp, n⟩ (by simp)⟩
 ·rename_i vs hne
  obtain ⟨q, hq, hm⟩ := h
  cases hq
  refine ⟨_, rfl, ?_⟩
  have := hm ⟨.tup vs, hp, n⟩ (by simp)
  match vs, hne, this with
  | [], _, h => exact h
  | [v], hne, _ => exact (hne v rfl).elim
  | _ :: _ :: _, _, h => exact h
 ·exact h.no.elim
theorem Zt6 {fn : Func} {a : Act} {l : List Out} {σ0 σ' : Sg} {n0 : Nat} {hp' : H} {n' : Nat} {w' : World} {vs : List CV} {us : List Value} (hu : (fn.results.toList.mapM (ZuX a.tmps)).run P w' = .ok us w') (hr : VRs σ' vs us)
  (hm : Zsf vs hp' n' ∈ l) (r1 : Rel w0 σ' hp' n' w') (hx : Ex n0 σ0 σ') (hn : Nle n0 n') :
  ∃ v, (results fn a.tmps).run P w' = .ok v w' /\ Ret w0 σ0 n0 l v w' := by
 have hrun := ZeD hu
 refine ⟨_, hrun, ?_⟩
 have hl := hr.len
 split
 ·rename_i h1
  match vs, us, hr, hl with
  | [c], [u], hr, _ =>
   simp only [VRs] at hr
   obtain ⟨v, ws, e, g1, g2⟩ := hr
   cases e
   exact ⟨_, _, hm, g1, r1, hx, hn⟩
  | [], us, _, hl => simp at hl h1; omega
  | [_], [], _, hl => simp at hl
  | [_], _ :: _ :: _, _, hl => simp at hl
  | _ :: _ :: _, us, _, hl => simp at hl h1; omega
 ·rename_i h1
  refine ⟨⟨.tup vs, hp', n'⟩, σ', ?_, ?_, r1, hx, hn⟩
  ·match vs, hm, hl with
   | [], hm, _ => exact hm
   | [_], _, hl => simp at hl h1; omega
   | _ :: _ :: _, hm, _ => exact hm
  ·simp only [VR]; exact ⟨us, hr, rfl⟩
theorem Zf5 {fn : Func} {a : Act} {l : List Out} {σ0 σ : Sg} {n0 : Nat} {fr : F} {hp : H} {n : Nat} {w : World} (hS : St w0 ro σ0 n0 σ fr hp n a w) (h : Zr (Zvv P fn fr hp n) (· ∈ l)) :
  a.defers = [] /\ ∃ v, (results fn a.tmps).run P w = .ok v w /\ ∃ v', Ending.returned v = .returned v' /\ Ret w0 σ0 n0 l v' w := by
 unfold Zvv at h
 split at h
 ·exact h.no.elim
 ·rename_i hnt
  have hd := hS.fr.df
  have e : dfs fr = [] := by
   unfold dfs
   split
   ·rename_i l hl; exact absurd hl (hnt l)
   ·rfl
  rw [e] at hd
  unfold DfR at hd
  obtain ⟨vs, hv, hm⟩ := Zto h
  obtain ⟨us, hu, hr⟩ := Za2 hS.rel hS.fr _ hv
  obtain ⟨v, h1, h2⟩ := Zt6 hu hr hm hS.rel hS.ex hS.n
  exact ⟨hd, v, h1, v, rfl, h2⟩
def Zik (P : Program) (fn : Func) (R : Ending -> World -> Prop) : Exit -> Act -> World -> Prop
 | .normal, a, w => a.defers = [] /\ ∃ v, (results fn a.tmps).run P w = .ok v w /\ R (.returned v) w
 | .ret, a, w => a.defers = [] /\ ∃ v, (results fn a.tmps).run P w = .ok v w /\ R (.returned v) w
 | _, _, _ => False
theorem ZkJ {fn : Func} {R : Ending -> World -> Prop} : ∀ e a w, Zik P fn R e a w -> bodyPost P fn R e a w := by
 intro e a w h
 cases e <;> first | exact h | exact h.elim
theorem ZmL (hC : CsOk P w0 ctrs bd rd) {dctrs : List (Nat × Cn)} {db : Nat -> Cn} (hD : DsOk P w0 dctrs db) {f : Nat} {fn : Func} {c : Code} {args : List CV} {xs : List Value} {σ : Sg} {hp : H} {n : Nat} {w : World} {l : List Out}
  (hf : P.funcs[f]? = some fn) (hb : fn.body = some c) (hsz : args.length + (fn.ntmps - args.length) <= 511) (hR : Rel w0 σ hp n w) (hx : VRs σ args xs)
  (h : (Y8 P ctrs f c).run bd rd none (Zqt args 0 (F0 (args.length + (fn.ntmps - args.length)))) hp n ((ZwX P dctrs fn).run db) (fun _ _ _ _ => none) ((ZwX P dctrs fn).run db) = some l) :
  CallsIn (FF none) 0 P f xs.toArray w (fun e w' => ∃ v, e = .returned v /\ Ret w0 σ n l v w') := by
 refine callsIn_of_wp_marks hf hb trivial (wpIn_mono (Zcf (ro := none) (vro := none) hC c (Q := ZiK P fn _) (φ := (· ∈ l)) (.inl ⟨rfl, rfl⟩) hR (FrR.start hx hsz) (.inl rfl) ⟨l, h, fun o ho => ho⟩ (fun _ _ _ h => h.elim) ?_ ?_ ?_) ZkG)
 ·exact fun σ' fr' hp' n' a' w' hS hk => ZiM hD hS (by rw [ZnQ hS.fr.nj] at hk; exact hk)
 ·exact fun i σ' fr' hp' n' a' w' hS hk => hk.no.elim
 ·exact fun σ' fr' hp' n' a' w' hS hk => ZiM hD hS (by rw [ZnQ hS.fr.nj] at hk; exact hk)
theorem ZjQ (hC : CsOk P w0 ctrs bd rd) {db : Nat -> Cn} {f : Nat} {fn : Func} {c : Code} {args : List CV} {xs : List Value} {σ : Sg} {hp : H} {n : Nat} {w : World} {l : List Out}
  (hf : P.funcs[f]? = some fn) (hb : fn.body = some c) (hsz : args.length + (fn.ntmps - args.length) <= 511) (hR : Rel w0 σ hp n w) (hx : VRs σ args xs)
  (h : (Y8 P ctrs f c).run bd rd none (Zqt args 0 (F0 (args.length + (fn.ntmps - args.length)))) hp n ((Znt P fn).run db) (fun _ _ _ _ => none) ((Znt P fn).run db) = some l) :
  CallsDIn (FF none) 0 P f xs.toArray .returning w (fun e u' w' => u' = .returning /\ ∃ v, e = .returned v /\ Ret w0 σ n l v w') := by
 refine callsDIn_of_wp hf hb trivial (wpIn_mono (Zcf (ro := none) (vro := none) hC c (Q := Zik P fn (fun e w' => ∃ v, e = .returned v /\ Ret w0 σ n l v w')) (φ := (· ∈ l)) (.inl ⟨rfl, rfl⟩) hR (FrR.start hx hsz) (.inl rfl) ⟨l, h, fun o ho => ho⟩ (fun _ _ _ h => h.elim) ?_ ?_ ?_) ZkJ)
 ·exact fun σ' fr' hp' n' a' w' hS hk => Zf5 hS (by rw [Zk7 hS.fr.nj] at hk; exact hk)
 ·exact fun i σ' fr' hp' n' a' w' hS hk => hk.no.elim
 ·exact fun σ' fr' hp' n' a' w' hS hk => Zf5 hS (by rw [Zk7 hS.fr.nj] at hk; exact hk)
/-! ### Rounds -/
theorem ZdC {l : Nat} {j : Option Code} {σ0 σ : Sg} {n0 : Nat} {hp : H} {n : Nat} {fr : F} {a : Act} {w : World} {os : List Out} {p t : Nat} (hS : St w0 ro σ0 n0 σ fr hp n a w) (hs : σ l = some (p, t)) (h : Zr (round.endR l j hp n) (· ∈ os)) :
  ∃ v w', (Instr.endRound p j).run P w = .ok v w' /\ ∃ v', Ending.returned v = .returned v' /\ Ret w0 σ0 n0 os v' w' := by
 unfold round.endR at h
 split at h
 ·rename_i fn fr' ps asq bo db st pe he
  obtain ⟨q, u, tm, g, h1, h2, h3, h4⟩ := hS.rel.at hs he (by simp)
  have hlt : p < w.heap.size := (Array.getElem?_eq_some_iff.1 h4).1
  obtain ⟨r, hr, hm⟩ := h
  cases hr
  have hR' : Rel w0 σ (YH hp l (.loop fn fr' ps asq bo db (if j.isNone then 0 else 2) j)) n (w.putObj p (.loop { state := if j.isNone then .ready else .done, pending := j, fn := g, tmps := tm, params := ps.toArray, assign := asq, body := bo, defers := q })) := by
   refine hS.rel.upd hs (by rw [he]; simp) World.putObj_size (fun k hk => World.putObj_heap_other hk) rfl rfl rfl ⟨q, u, tm, g, h1, h2, h3, ?_⟩
   rw [World.putObj_heap_same hlt]
   cases j <;> rfl
  exact ⟨_, _, run_endRound j h4, _, rfl, ⟨.bool j.isNone, YH hp l (.loop fn fr' ps asq bo db (if j.isNone then 0 else 2) j), n⟩, σ, hm _ (by simp), by simp only [VR], hR', hS.ex, hS.n⟩
 ·exact h.no.elim
theorem ZjJ (hC : CsOk P w0 ctrs bd rd) {l : Nat} {args : List CV} {xs : List Value} {σ : Sg} {hp : H} {n : Nat} {w : World} {os : List Out} {p t : Nat} (hR : Rel w0 σ hp n w) (hx : VRs σ args xs) (hs : σ l = some (p, t)) (h : ZlM P ctrs bd rd l args hp n = some os) :
  ∃ f tm asq bo, (Instr.yield p xs.toArray).run P w = .ok (.round p f tm asq bo) w /\ RoundIn (FF none) 0 P p f tm asq bo w (fun e w' => ∃ v, e = .returned v /\ Ret w0 σ n os v w') := by
 unfold ZlM at h
 split at h
 ·rename_i fn fr ps assign body db st pend he
  obtain ⟨q, u, tm, g, h1, h2, h3, h4⟩ := hR.at hs he (by simp)
  have hg : Zr (bif Nat.beq st 0 then (match ZmZ ps args (Zm7 fr ZM .nili) with
   | some fr => (Y8 P ctrs fn assign).run bd rd (some l) fr hp n (fun fr1 hp n => match ZC hp l with
    | .loop fn0 fr0 ps0 a0 b0 db0 st0 pend0 => bif Nat.beq st0 0 then (Y8 P ctrs fn body).run bd rd (some l) fr1 (YH hp l (.loop fn0 fr0 ps0 a0 b0 db0 1 pend0)) n
      (fun _ hp n => round.endR l none hp n) (fun i _ hp n => round.endR l (some (.exit i)) hp n) (fun _ hp n => round.endR l (some .ret) hp n) else none
    | _ => none) (fun _ _ _ _ => none) (fun _ _ _ => none)
   | none => none) else none) (· ∈ os) := ⟨os, h, fun o ho => ho⟩
  obtain ⟨_, hg⟩ := hg.bif
  split at hg
  ·rename_i fr' hfr'
   have hF0 : FrR σ (Zm7 fr ZM .nili) { tmps := tm, defers := [] } := by
    refine ⟨by rw [Zix]; exact h2.1, h2.2.1, fun i v hv => ?_, ?_, fun i h1 h3 => by
     rw [YR _ _ _ _ (by decide) (by omega), if_neg (by unfold ZM; omega)]
     exact h2.2.2 i (by rw [Zix] at h1; exact h1) h3⟩
    ·have : i < tm.size := (Array.getElem?_eq_some_iff.1 hv).1
     have h22 := h2.2.1
     rw [YR _ _ _ _ (by decide) (by omega), if_neg (by unfold ZM; omega)]
     exact h3 i v hv
    ·unfold dfs; rw [YR _ _ _ _ (by decide) (by decide), if_pos rfl]; rfl
   obtain ⟨g1, g2, g3⟩ := ZpM hx hF0 hfr'
   rw [YR _ _ _ _ (by decide) (by decide), if_pos rfl] at g3
   refine ⟨_, _, _, _, run_yield h4 (by simp [g2]), roundIn_of_wpIn (F := FF none) trivial ?_⟩
   have e : (ps.toArray.zip xs.toArray).foldl (fun tmps (x : Nat × Value) => tmps.setIfInBounds x.1 x.2) tm = (ps.zip xs).foldl (fun t (x : Nat × Value) => t.setIfInBounds x.1 x.2) tm := by
    rw [<- Array.foldl_toList]; simp
   have hass := (Zcf (ro := some p) (vro := some l) hC assign (φ := (· ∈ os))
    (Q := Exit.then (fun a₁ w₁ => ∃ w₂, (Instr.beginRound p).run P w₁ = .ok () w₂ /\ body.wpIn (FF (some p)) 0 P (roundPost P p (fun e w' => ∃ v, e = .returned v /\ Ret w0 σ n os v w')) a₁ w₂) (fun _ _ _ => False))
    (.inr ⟨l, p, t, rfl, rfl, hs⟩) hR g1 (.inr g3) hg (fun _ _ _ h => h) ?_ ?_ ?_)
   ·have hh : ({ FF none with round := some p } : Fence) = FF (some p) := rfl
    show assign.wpIn (FF (some p)) 0 P _ { tmps := (ps.toArray.zip xs.toArray).foldl (fun tmps (x : Nat × Value) => tmps.setIfInBounds x.1 x.2) tm, defers := [] } w
    rw [e]
    exact hass
   ·intro σ1 fr1 hp1 n1 a1 w1 hS hk
    split at hk
    ·rename_i fn0 fr0 ps0 a0 b0 db0 st0 pend0 he1
     obtain ⟨c1, hk⟩ := hk.bif
     have c1 := nbq c1
     subst c1
     have hs1 := hS.ex.1 _ _ hs
     obtain ⟨q', u', tm', g', k1, k2, k3, k4⟩ := hS.rel.at hs1 he1 (by simp)
     have hlt : p < w1.heap.size := (Array.getElem?_eq_some_iff.1 k4).1
     refine ⟨_, run_beginRound k4 rfl, ?_⟩
     have hR1 := hS.rel.upd hs1 (by rw [he1]; simp) (w' := w1.putObj p (.loop { state := .busy, pending := pend0, fn := g', tmps := tm', params := ps0.toArray, assign := a0, body := b0, defers := q' })) World.putObj_size (fun k hk => World.putObj_heap_other hk) rfl rfl rfl
      (c := .loop fn0 fr0 ps0 a0 b0 db0 1 pend0) ⟨q', u', tm', g', k1, k2, k3, World.putObj_heap_same hlt⟩
     refine Zcf (ro := some p) (vro := some l) hC body (φ := (· ∈ os)) (.inr ⟨l, p, t, rfl, rfl, hs1⟩) hR1 hS.fr hS.ro hk (fun _ _ _ h => h) ?_ ?_ ?_
     ·exact fun σ2 fr2 hp2 n2 a2 w2 hS2 hk2 => ZdC (St.trans hS.ex hS.n hS2) (hS2.ex.1 _ _ hs1) hk2
     ·exact fun i σ2 fr2 hp2 n2 a2 w2 hS2 hk2 => ZdC (St.trans hS.ex hS.n hS2) (hS2.ex.1 _ _ hs1) hk2
     ·exact fun σ2 fr2 hp2 n2 a2 w2 hS2 hk2 => ZdC (St.trans hS.ex hS.n hS2) (hS2.ex.1 _ _ hs1) hk2
    ·exact hk.no.elim
   ·exact fun i σ' fr' hp' n' a' w' hS hk => hk.no.elim
   ·exact fun σ' fr' hp' n' a' w' hS hk => hk.no.elim
  ·exact hg.no.elim
 ·cases h
/-! ### All of it -/
structure GoOk (P : Program) (w0 : World) (ctrs : List (Nat × Option Cn)) (dctrs : List (Nat × Cn)) (g : Nat -> Rn) : Prop where
 cs : CsOk P w0 ctrs (g 0) (g 1)
 ds : DsOk P w0 dctrs (g 2)
theorem Zi5 {dctrs : List (Nat × Cn)} {m f : Nat} {db : Rn} {args : List CV} {hp : H} {n : Nat} {l : List Out} (h : (ZvH P ctrs dctrs m f).run bd rd db args hp n = some l) :
  ∃ fn c, P.funcs[f]? = some fn /\ fn.body = some c /\ (!(fn.name == "runtime.NumGoroutine")) = true /\ args.length + (fn.ntmps - args.length) <= 511 ∧
   (Y8 P ctrs f c).run bd rd none (Zqt args 0 (F0 (args.length + (fn.ntmps - args.length)))) hp n ((sEnd P dctrs m fn).run db) (fun _ _ _ _ => none) ((sEnd P dctrs m fn).run db) = some l := by
 unfold ZvH at h
 split at h
 ·cases h
 ·rename_i fn hfn
  rw [Zhk, Zxu] at hfn
  split at h
  ·cases h
  ·rename_i c hb
   split at h
   ·rename_i hc
    obtain ⟨c1, c4⟩ := Yf hc
    have c1 := ZxS c1
    simp only [Zn1] at h
    obtain ⟨c3, h⟩ := Zaz h
    rw [ZjZ] at c3
    have c3 := ZxS c3
    rw [ZoP, ZjZ] at h
    exact ⟨fn, c, hfn, hb, c4, by omega, h⟩
   ·cases h
theorem ZiX {dctrs : List (Nat × Cn)} (hK : ∀ f c, ZJ ctrs f = some (some c) -> Zb1 P w0 f c) (hD : ∀ f c, ZJ dctrs f = some c -> Zfe P w0 f c) : ∀ fuel, GoOk P w0 ctrs dctrs (goS P ctrs dctrs fuel)
 | 0 => ⟨⟨hK, fun f args hp n σ w xs l _ _ h => (by cases h), fun f args hp n σ w xs os p t _ _ _ h => (by cases h)⟩, ⟨hD, fun f args hp n σ w xs l _ _ h => (by cases h)⟩⟩
 | fuel + 1 => by
  have ih := ZiX hK hD fuel
  refine ⟨⟨hK, fun f args hp n σ w xs l hR hx h => ?_, fun f args hp n σ w xs os p t hR hx hs h => ?_⟩, ⟨hD, fun f args hp n σ w xs l hR hx h => ?_⟩⟩
  ·have h : (ZvH P ctrs dctrs 0 f).run (goS P ctrs dctrs fuel 0) (goS P ctrs dctrs fuel 1) (goS P ctrs dctrs fuel 2) args hp n = some l := h
   obtain ⟨fn, c, hf, hb, hn, hsz, h⟩ := Zi5 h
   exact ⟨Z3 hf hb hn, ZmL ih.cs ih.ds hf hb hsz hR hx h⟩
  ·have h : ZlM P ctrs (goS P ctrs dctrs fuel 0) (goS P ctrs dctrs fuel 1) f args hp n = some os := h
   exact ZjJ ih.cs hR hx hs h
  ·have h : (ZvH P ctrs dctrs 2 f).run (goS P ctrs dctrs fuel 0) (goS P ctrs dctrs fuel 1) (goS P ctrs dctrs fuel 2) args hp n = some l := h
   obtain ⟨fn, c, hf, hb, hn, hsz, h⟩ := Zi5 h
   exact ⟨Z3 hf hb hn, ZjQ ih.cs hf hb hsz hR hx h⟩
theorem rel0 (w : World) : Rel w (fun _ => none) H0 N0 w := by
 obtain ⟨e1, e2⟩ := ZnL (lim := 32767) (id := 0) (by omega)
 refine ⟨fun i _ h => absurd (ZtL i) h, fun i j p t q u _ _ _ _ _ h => (by cases h), fun i p t h => (by cases h), fun _ _ _ => rfl, ?_, Below.refl _ _⟩
 show Yg (mkN 32767 0) <= 32768
 rw [e2]; omega
theorem Zol {dctrs : List (Nat × Cn)} (hK : ∀ w0 f c, ZJ ctrs f = some (some c) -> Zb1 P w0 f c) (hD : ∀ w0 f c, ZJ dctrs f = some c -> Zfe P w0 f c) {fuel f : Nat} (h : yes (goS P ctrs dctrs fuel 0 f [] H0 N0) = true) (w : World) :
  Calls P f #[] w fun e w' => e = .returned (.bool true) /\ Below w.heap.size w w' := by
 unfold yes at h
 split at h
 ·rename_i o ho
  have := ((ZiX (P := P) (w0 := w) (hK w) (hD w) fuel).cs.bd f [] H0 N0 _ w [] [o] (rel0 w) rfl ho).2
  refine (callsIn_wide.1 (show CallsIn Fence.wide 0 P f #[] w _ from this)).mono ?_
  rintro e w' ⟨v, rfl, o', σ', hm, hv, hR, _⟩
  rw [Zxy] at hm
  subst hm
  split at h
  ·rename_i b hb
   rw [hb] at hv
   simp only [VR] at hv
   subst hv; subst h
   exact ⟨rfl, hR.below⟩
  ·cases h
 ·cases h
end
end Go.Cx
namespace Go.Cx
open Go.RowKit (Below)
/-! ### maps.clone -/
/-! ### internal/bytealg.Compare -/
def ZfL : Nat -> Nat -> Nat -> Nat -> Int
 | 0, 0, _, _ => 0
 | 0, _ + 1, _, _ => -1
 | _ + 1, 0, _, _ => 1
 | l + 1, m + 1, x, y => bif Nat.blt (x % 256) (y % 256) then -1 else bif Nat.blt (y % 256) (x % 256) then 1 else ZfL l m (x / 256) (y / 256)
noncomputable def Zry : Cn := fun args hp n => match args with
 | [a, b] => (match lenOf a, lenOf b with
  | some l, some m => (match Zdk hp true 1 a l, Zdk hp true 1 b m with
   | some (.bs l x), some (.bs m y) => some [⟨.int 3 (ZfL l m x y), hp, n⟩]
   | _, _ => none)
  | _, _ => none)
 | _ => none
section
variable {P : Program} {w0 : World}
theorem Zsa {a b : Nat} (h : a < b) : Nat.blt a b = true := by simpa [Nat.blt_eq] using h
theorem Znm {a b : Nat} (h : Nat.blt a b = true) : a < b := by simpa [Nat.blt_eq] using h
theorem ZaQ : ∀ (l m x y : Nat), ZfL l m x y = Lib.compareBytes (bys l x) (bys m y)
 | 0, 0, _, _ => rfl
 | 0, _ + 1, _, _ => rfl
 | _ + 1, 0, _, _ => rfl
 | l + 1, m + 1, x, y => by
  simp only [ZfL, bys, Lib.compareBytes, ZaQ l m (x / 256) (y / 256)]
  have key : ∀ a b : Nat, a < 256 -> b < 256 -> (UInt8.ofNat a < UInt8.ofNat b ↔ a < b) := fun a b ha hb => by
   rw [UInt8.lt_iff_toNat_lt, ZdV a ha, ZdV b hb]
  have k1 := key (x % 256) (y % 256) (Nat.mod_lt _ (by decide)) (Nat.mod_lt _ (by decide))
  have k2 := key (y % 256) (x % 256) (Nat.mod_lt _ (by decide)) (Nat.mod_lt _ (by decide))
  cases h1 : Nat.blt (x % 256) (y % 256)
  ·have : ¬ x % 256 < y % 256 := fun e => by have := Zsa e; rw [h1] at this; cases this
   rw [if_neg (fun e => this (k1.1 e))]
   cases h2 : Nat.blt (y % 256) (x % 256)
   ·have : ¬ y % 256 < x % 256 := fun e => by have := Zsa e; rw [h2] at this; cases this
    rw [if_neg (fun e => this (k2.1 e))]; rfl
   ·rw [if_pos (k2.2 (Znm h2))]; rfl
  ·rw [if_pos (k1.2 (Znm h1))]; rfl
theorem Zc4 {w : World} : ∀ (bs : List UInt8) (p o : Nat) (acc : ByteArray), (∀ i b, bs[i]? = some b -> w.cell? ⟨p, o + i, none⟩ = some (Zcm b)) -> (Extern.Bytes.loadBytes ⟨p, o, none⟩ bs.length acc).run P w = .ok ⟨acc.data ++ bs.toArray⟩ w
 | [], p, o, acc, _ => by simp [Extern.Bytes.loadBytes]
 | b :: bs, p, o, acc, h => by
  have h0 := h 0 b rfl
  have ih := Zc4 bs p (o + 1) (acc.push b) (fun i c hc => by
   have := h (i + 1) c (by simpa using hc)
   rw [show o + 1 + i = o + (i + 1) by omega]; exact this)
  simp only [Nat.add_zero] at h0
  simp only [ZxZ, Extern.Bytes.loadBytes, Sem.run_bind, run_load, h0, Zcm, Result.andThen_ok, add_eq]
  have e : ((b.toNat : Nat) : Int).toNat.toUInt8 = b := by simp
  rw [e, ih]
  congr 2
  simp [ByteArray.push]
theorem Zdp {σ : Sg} {hp : H} {n : Nat} {w : World} (hR : Rel w0 σ hp n w) {c : CV} {v : Value} (hv : VR σ c v) {l m x : Nat} (h1 : lenOf c = some l) (h : Zdk hp true 1 c l = some (.bs m x)) :
  (Extern.Bytes.bytesOf v).run P w = .ok ⟨(bys m x).toArray⟩ w := by
 unfold Zdk at h
 split at h
 ·obtain ⟨_, h3⟩ := Zaz h
  cases h3
  simp only [VR] at hv; subst hv; rfl
 ·rename_i l' x'
  obtain ⟨_, h3⟩ := Zaz h
  obtain ⟨_, h4⟩ := Zaz h3
  cases h4
  simp only [lenOf] at h1; cases h1
  simp only [VR] at hv; subst hv; rfl
 ·rename_i b o s l' kk ex
  simp only [lenOf] at h1; cases h1
  simp only [VR] at hv
  obtain ⟨p, t, o', c, hs, rfl, hk, _, _, ho, _, _⟩ := hv
  obtain ⟨_, h⟩ := Zaz h
  obtain ⟨_, h⟩ := Zaz h
  cases hz : Nat.beq l 0
  ·rw [hz] at h
   simp only [cond_false, cond_true] at h
   split at h
   ·rename_i k x' hb
    obtain ⟨hfit, h⟩ := Zaz h
    cases h
    have hfit := ZxS hfit
    have hne : l ≠ 0 := fun e => by subst e; cases hz
    have ho := ho (.inl (by omega))
    subst ho
    have hrow : Row w p t ((bys k x').map Zcm) true := (hR.at hs hb (by simp)).1
    have := Zc4 (P := P) (w := w) (bys l (ZhI x' o' l)) p o' .empty (fun i b hb => by
     refine (hrow.cell (i := o' + i) ?_).1
     rw [<- ZgT k x' o' l hfit, List.getElem?_take] at hb
     split at hb
     ·rw [Zx4] at hb
      simp [hb]
     ·cases hb)
    rw [Zl] at this
    show (Extern.Bytes.loadBytes ⟨p, o', none⟩ l .empty).run P w = _
    rw [this]
    have e : (ByteArray.empty.data ++ (bys l (ZhI x' o' l)).toArray) = (bys l (ZhI x' o' l)).toArray := by
     show (#[] ++ _ : Array UInt8) = _
     simp
    rw [e]
   ·cases h
  ·rw [hz] at h
   cases h
   have := nbq hz; subst this
   rfl
 ·cases h
theorem Zsp {f : Nat} {fn : Func} (hf : P.funcs[f]? = some fn) (hname : (fn.name == "runtime.NumGoroutine") = false)
  (hb : fn.body.isNone = true) (hn : Extern.findNext fn = none) (he : Extern.find fn = some Extern.BytealgCompare.compare) : Zb1 P w0 f Zry := by
 intro args hp n σ w xs l hR hx h
 left
 unfold Zry at h
 split at h
 ·rename_i a b
  split at h
  ·rename_i l1 m1 h1 h2
   split at h
   ·rename_i l2 x m2 y h3 h4
    cases h
    simp only [VRs] at hx
    obtain ⟨va, ws, rfl, ha, vb, ws', rfl, hb', rfl⟩ := hx
    have q1 := Zdp (P := P) hR ha h1 h3
    have q2 := Zdp (P := P) hR hb' h2 h4
    refine ⟨.int .i64 (ZfL l2 m2 x y), w, ?_, _, σ, List.mem_singleton.2 rfl, ?_, hR, Ex.refl _ _, Nle.refl _⟩
    ·rw [run_callFunc_extern hf hname hb hn he]
     have : (Extern.BytealgCompare.compare #[va, vb]).run P w = .ok (.int .i64 (ZfL l2 m2 x y)) w := by
      change Sem.run P (do pure (goInt (Extern.BytealgCompare.cmp (<- Extern.Bytes.bytesOf va) (<- Extern.Bytes.bytesOf vb)))) w = _
      simp only [Sem.run_bind, q1, q2, Result.andThen_ok, Sem.run_pure, Lib.cmp_eq, goInt, ZaQ]
     rw [show [va, vb].toArray = #[va, vb] from rfl, this]
     rfl
    ·simp only [VR]; rfl
   ·cases h
  ·cases h
 ·cases h
end
end Go.Cx
namespace Go.Cx
open Go.RowKit (Below)
open Go.ChangeShapes Go.WideShapes
section
variable {P : Program}
def Zhn (P : Program) (l : List (Nat × Option Cn)) : Prop := ∀ w0 f c, ZJ l f = some (some c) -> Zb1 P w0 f c
def Zgq (P : Program) (l : List (Nat × Cn)) : Prop := ∀ w0 f c, ZJ l f = some c -> Zfe P w0 f c
theorem Zhn.nil : Zhn P [] := fun _ _ _ h => (by cases h)
theorem Zgq.nil : Zgq P [] := fun _ _ _ h => (by cases h)
theorem Zhn.none {f : Nat} {l : List (Nat × Option Cn)} (h : Zhn P l) : Zhn P ((f, .none) :: l) := by
 intro w0 g c hc
 unfold ZJ at hc
 cases hb : Nat.beq f g
 ·rw [hb] at hc; exact h w0 g c hc
 ·rw [hb] at hc; cases hc
theorem Zhn.cons {f : Nat} {c : Cn} {l : List (Nat × Option Cn)} (h0 : ∀ w0, Zb1 P w0 f c) (h : Zhn P l) : Zhn P ((f, some c) :: l) := by
 intro w0 g c' hc
 unfold ZJ at hc
 cases hb : Nat.beq f g
 ·rw [hb] at hc; exact h w0 g c' hc
 ·rw [hb] at hc; cases hc; rw [<- nbq hb]; exact h0 w0
theorem Zgq.cons {f : Nat} {c : Cn} {l : List (Nat × Cn)} (h0 : ∀ w0, Zfe P w0 f c) (h : Zgq P l) : Zgq P ((f, c) :: l) := by
 intro w0 g c' hc
 unfold ZJ at hc
 cases hb : Nat.beq f g
 ·rw [hb] at hc; exact h w0 g c' hc
 ·rw [hb] at hc; cases hc; rw [<- nbq hb]; exact h0 w0
end
theorem Zdy {H : Type} {enc : TypeId × Value -> H} {P : Program} {f : Func} {s : ChangeSpec} {apart fresh handsOn again : Bool} {W W' : World} {args : Array Value} {v : Value} {ds gs : List (DataW H)} {before pa pv : List MemPlace}
  (hW : DataW.Whole enc P f.params.toList s.vars apart W args.toList ds gs before)
  (hres : ∀ (b : Nat) (sp : Nat -> Bool) (hd : Bool), DataW.TrodAll enc P W' b sp hd f.resultTypes.toList (v.resultList f.resultTypes.size) (s.fn H (ds ++ gs)).results [])
  (hargs : ∀ sp : Nat -> Bool, (∀ p ∈ before, sp p.block = true) -> DataW.TrodAll enc P W' 0 sp true f.params.toList args.toList (s.fn H (ds ++ gs)).args pa)
  (hvars : ∀ sp : Nat -> Bool, (∀ p ∈ before, sp p.block = true) -> DataW.TrodVars enc P W' sp s.vars (s.fn H (ds ++ gs)).vars pv)
  (hps : before = pa ++ pv) (hb : Below W.heap.size W W')
  (hok : ∀ (j : Nat) (t : TypeId) (r : Value), f.resultTypes[j]? = some t -> (v.resultList f.resultTypes.size)[j]? = some r -> Value.okWide P W' .any 0 t r) :
  s.post enc P f apart fresh handsOn again W args v W' := by
 have hlt := fun p (hp : p ∈ before) => hW.lt p hp
 have hold : ∀ p ∈ before, (fun b => decide (b < W.heap.size)) p.block = true := fun p hp => by simpa using hlt p hp
 refine ⟨ds, gs, before, [], pa, pv, hW, hres _ _ _, hargs _ hold, hvars _ hold, World.keptBut_mono (fun p hp => ⟨hp, ?_⟩) (hb.frame (· ∈ before)), fun _ => ?_⟩
 ·rw [hps, List.mem_append] at hp; exact Or.inr hp
 ·obtain ⟨_, _, _, _, _, hz, hn⟩ := hW
  refine ⟨hok, _, _, ([] ++ pa) ++ pv, ⟨[] ++ pa, pv, trodAll_append (hargs _ (fun _ _ => rfl)) (hres _ _ _), hvars _ (fun _ _ => rfl), rfl, fun b off hp => ?_, fun ha => ?_⟩, fun p hp _ => ?_⟩
  ·have hp' : MemPlace.cell b off ∈ before := by rw [hps]; simpa using hp
   have h1 := hlt _ hp'
   rw [hb.frozen (p := ⟨b, off, none⟩) h1]
   exact hz b off hp'
  ·have := hn ha
   rw [hps] at this
   simpa using this
  ·rw [hps]; simpa using hp
end Go.Cx
namespace Go.Proofs.YtlmkcakhhbckhaaGreatDoor
open Go.Cx
open Go.RowKit
/-! ### IndexByteString -/
def ZsM : Nat -> Nat -> Nat -> Int
 | 0, _, _ => -1
 | l + 1, n, c => bif Nat.beq (n % 256) c then 0 else (match ZsM l (n / 256) c with | .ofNat m => .ofNat (m + 1) | .negSucc m => .negSucc m)
noncomputable def ibsC : Cn := fun args hp n => match args with
 | [.str l x, .int k (.ofNat c)] => bif Nat.beq k 4 then (bif Nat.blt c 256 then some [⟨.int 3 (ZsM l x c), hp, n⟩] else none) else none
 | _ => none
theorem Zqa : ∀ (l n c : Nat), c < 256 -> ZsM l n c = Lib.indexByte (bys l n) (UInt8.ofNat c) /\ (ZsM l n c = -1 \/ 0 <= ZsM l n c)
 | 0, _, _, _ => ⟨rfl, .inl rfl⟩
 | l + 1, n, c, hc => by
  obtain ⟨ih, ih2⟩ := Zqa l (n / 256) c hc
  have key : (UInt8.ofNat (n % 256) == UInt8.ofNat c) = Nat.beq (n % 256) c := by
   have h1 : (UInt8.ofNat (n % 256)).toNat = n % 256 := ZdV _ (Nat.mod_lt _ (by decide))
   have h2 : (UInt8.ofNat c).toNat = c := ZdV _ hc
   cases hq : Nat.beq (n % 256) c
   ·have hne : n % 256 ≠ c := fun e => by rw [e] at hq; simp at hq
    rw [beq_eq_false_iff_ne]
    intro e
    exact hne (by rw [<- h1, <- h2, e])
   ·have := ZxG hq
    rw [this]; simp
  simp only [ZsM, bys, Lib.indexByte, key]
  cases hq : Nat.beq (n % 256) c
  ·simp only [cond_false, Bool.false_eq_true, if_false]
   rw [<- ih]
   cases hr : ZsM l (n / 256) c with
   | ofNat m =>
    have : ((Int.ofNat m) == (-1 : Int)) = false := by rw [beq_eq_false_iff_ne]; intro e; cases e
    simp only [this, Bool.false_eq_true, if_false]
    exact ⟨rfl, .inr (Int.natCast_nonneg _)⟩
   | negSucc m =>
    rw [hr] at ih2
    have hm : m = 0 := by
     rcases ih2 with e | e
     ·exact Int.negSucc.inj e
     ·exact absurd e (by simp)
    subst hm
    exact ⟨rfl, .inl rfl⟩
  ·simp only [cond_true, if_true]
   exact ⟨trivial, .inr (Int.le_refl _)⟩
theorem Zwe {P : Program} {w0 : World} {f : Nat} {fn : Func} (hf : P.funcs[f]? = some fn) (hname : (fn.name == "runtime.NumGoroutine") = false)
  (hb : fn.body.isNone = true) (hn : Extern.findNext fn = none) (he : Extern.find fn = some Extern.BytealgIndexByte.indexByte) : Zb1 P w0 f ibsC := by
 intro args hp n σ w xs l hR hx h
 left
 unfold ibsC at h
 split at h
 ·rename_i l' x k c
  obtain ⟨q1, g1⟩ := Zaz h
  obtain ⟨q2, g2⟩ := Zaz g1
  clear h g1
  have h2 : c < 256 := Znm q2
  cases g2
  have h1 := ZxG q1
  subst h1
  simp only [VRs, VR] at hx
  obtain ⟨v, ws, rfl, rfl, v2, ws2, rfl, rfl, rfl⟩ := hx
  refine ⟨.int .i64 (ZsM l' x c), w, ?_, _, σ, List.mem_singleton.2 rfl, ?_, hR, Ex.refl _ _, Nle.refl _⟩
  ·rw [run_callFunc_extern hf hname hb hn he]
   have := run_indexByte_string (P := P) ⟨(bys l' x).toArray⟩ (Int.ofNat c) w
   rw [Lib.firstIdx_eq] at this
   have e : (Int.ofNat c).toNat.toUInt8 = UInt8.ofNat c := rfl
   rw [e] at this
   rw [show [Value.string ⟨(bys l' x).toArray⟩, .int (kc 4) (Int.ofNat c)].toArray = #[.string ⟨(bys l' x).toArray⟩, .int .u8 (Int.ofNat c)] from rfl, this, (Zqa l' x c h2).1]
   rfl
  ·simp only [VR]; rfl
 ·cases h
/-! ### copyCheck -/
noncomputable def chkC : Cn := fun args hp n => match args with
 | [.ptr b 0] => (match ZC hp b with
  | .tcells (.nilp :: rest) => bif Nat.beq rest.length 1 then some [⟨.tup [], YH hp b (.tcells (.ptr b 0 :: rest)), n⟩] else none
  | .tcells (.ptr c o :: _) => bif (bif Nat.beq c b then Nat.beq o 0 else false) then some [⟨.tup [], hp, n⟩] else none
  | _ => none)
 | _ => none
theorem ZnG : (Tryz.prog.info? 66).map (·.size) = some 2 := by kernel_rfl
theorem Zs7 : liesAt Tryz.prog Tryz.prog.depth 66 (2 / Tryz.prog.cellsOf 66) 0 66 1 = true := by kernel_rfl
set_option maxHeartbeats 1000000 in
set_option maxRecDepth 100000 in
theorem ZqV (b : Nat) (w : World) (h0 : w.cell? ⟨b, 0, none⟩ = some (.pointer (some ⟨b, 0, none⟩))) :
  Calls Tryz.prog 79 #[.pointer (some ⟨b, 0, none⟩)] w fun e w' => e = .returned (.tuple #[]) /\ w' = w := by
 obtain ⟨j, hj, _⟩ := Option.map_eq_some_iff.1 ZnG
 go_enter Tryz.func79, Tryz.ntmps79
 go_wp2
 rw [Lib.run_neq_ptr_same w _ Tryz.underlying64 hj]
 go_wp2
 go_end0
 exact ⟨rfl, rfl⟩
set_option maxHeartbeats 1000000 in
set_option maxRecDepth 100000 in
theorem ZnW (b : Nat) (w : World) (h0 : w.cell? ⟨b, 0, none⟩ = some (.pointer none)) (hsh : w.shape? b = some (66, 2)) (hfz : w.frozen? ⟨b, 0, none⟩ = false) :
  Calls Tryz.prog 79 #[.pointer (some ⟨b, 0, none⟩)] w fun e w' => e = .returned (.tuple #[]) /\ w' = w.setCell ⟨b, 0, none⟩ (.pointer (some ⟨b, 0, none⟩)) := by
 obtain ⟨j, hj, hjs⟩ := Option.map_eq_some_iff.1 ZnG
 go_enter Tryz.func79, Tryz.ntmps79
 go_wp2
 rw [Lib.run_to_unsafe w ⟨b, 0, none⟩ Tryz.underlying64 Tryz.underlying130 hj (by rw [hjs]; decide) hsh (Nat.zero_lt_succ 1)]
 simp only [Result.andThen]
 rw [Oper.upon_value]
 go_wp2
 rw [run_callFunc_extern Tryz.func96 (by kernel_rfl) (by kernel_rfl) (by kernel_rfl) (e := Extern.AbiNoEscape.same) (by kernel_rfl)]
 rw [Lib.run_noEscape]
 simp only [Result.andThen]
 rw [Oper.upon_value]
 go_wp2
 rw [Lib.run_from_unsafe w ⟨b, 0, none⟩ Tryz.underlying130 Tryz.underlying64 hj hsh Zs7]
 simp only [Result.andThen]
 rw [Oper.upon_value]
 go_wp2
 go_end0
 exact ⟨rfl, rfl⟩
theorem ZhB (w : World) (a : Addr) (v : Value) (k : Nat) (h : k ≠ a.block) : (w.setCell a v).heap[k]? = w.heap[k]? := by
 unfold World.setCell
 simp only [Array.getElem?_modify]
 rw [if_neg (fun e => h e.symm)]
theorem ZjO {w : World} {b ty : Nat} {arr : Array Value} {z : Nat × Nat} (v : Value) (h : w.heap[b]? = some (.cells arr ty z)) :
  (w.setCell ⟨b, 0, none⟩ v).heap[b]? = some (.cells (arr.setIfInBounds 0 v) ty z) := by
 have := setCell_eq_setRow w b 0 arr ty z v h
 rw [this]
 exact setRow_heap w b arr _ ty z h
theorem Zq7 (w0 : World) : Zb1 Tryz.prog w0 79 chkC := by
 intro args hp n σ w xs l hR hx h
 refine .inr ⟨Z3 Tryz.func79 rfl (by kernel_rfl), ?_⟩
 unfold chkC at h
 split at h
 ·rename_i b
  simp only [VRs, VR] at hx
  obtain ⟨v, ws, rfl, ⟨p, t, hs, rfl⟩, rfl⟩ := hx
  split at h
  ·rename_i rest hc
   obtain ⟨q1, g1⟩ := Zaz h
   clear h
   cases g1
   have q1 := ZxG q1
   obtain ⟨vs, h1, h2, ⟨arr, z, hT⟩, hlen⟩ := hR.at hs hc (by simp)
   simp only [VRs, VR] at h1
   obtain ⟨v0, ws, rfl, rfl, h3⟩ := h1
   have h2' := h2
   obtain ⟨arr', ty, lo, hi, e1, e2, ⟨sp, e3⟩, e4⟩ := h2'
   rw [hT] at e1; cases e1
   have hc0 := h2.cell (i := 0) rfl
   have hsz : arr.size = 2 := by rw [e2, <- hlen]; simp [q1]
   have hsh : w.shape? p = some (66, 2) := by simp only [World.shape?, hT, hsz]; rfl
   refine (callsIn_wide (n := 0)).2 (Calls.mono (ZnW p w hc0.1 hsh hc0.2.1) ?_)
   rintro e w' ⟨rfl, rfl⟩
   refine ⟨_, rfl, _, σ, List.mem_singleton.2 rfl, by simp only [VR]; exact ⟨[], rfl, rfl⟩, ?_, Ex.refl _ _, Nle.refl _⟩
   have hrow := ZjO (.pointer (some ⟨p, 0, none⟩)) hT
   refine hR.upd hs (by rw [hc]; simp) (by unfold World.setCell; simp) (fun k hk => ZhB _ _ _ k hk) rfl rfl rfl ⟨.pointer (some ⟨p, 0, none⟩) :: ws, ?_, ⟨_, _, _, _, hrow, by simpa using e2, ⟨sp, ?_⟩, e4⟩, ⟨_, _, hrow⟩, hlen⟩
   ·simp only [VRs, VR]; exact ⟨_, _, rfl, ⟨p, t, hs, rfl⟩, h3⟩
   ·rw [Array.toList_setIfInBounds, e3]; rfl
  ·rename_i c o rest hc
   obtain ⟨q1, g1⟩ := Zaz h
   clear h
   cases g1
   obtain ⟨q1, q2⟩ := Yf q1
   have q1 := nbq q1; have q2 := nbq q2
   subst q1; subst q2
   obtain ⟨vs, h1, h2, _, _⟩ := hR.at hs hc (by simp)
   simp only [VRs, VR] at h1
   obtain ⟨v0, ws, rfl, ⟨p', t', hs', rfl⟩, h3⟩ := h1
   rw [hs] at hs'; cases hs'
   have hc0 := h2.cell (i := 0) rfl
   refine (callsIn_wide (n := 0)).2 (Calls.mono (ZqV p w hc0.1) ?_)
   rintro e w' ⟨rfl, rfl⟩
   exact ⟨_, rfl, _, σ, List.mem_singleton.2 rfl, by simp only [VR]; exact ⟨[], rfl, rfl⟩, hR, Ex.refl _ _, Nle.refl _⟩
  ·cases h
 ·cases h
/-! ### String -/
noncomputable def strC : Cn := fun args hp n => match args with
 | [.ptr b 0] => (match ZC hp b with
  | .tcells [_, .slice j 0 1 (l + 1) (k + 1) ex] => (match ZC hp j with
   | .bytes m x => bif (bif Nat.ble (l + 1) m then Nat.ble (l + 1) 140737488355328 else false) then some [⟨.str (l + 1) x, YH hp j .no, n⟩] else none
   | _ => none)
  | _ => none)
 | _ => none
set_option maxHeartbeats 2000000 in
set_option maxRecDepth 100000 in
theorem Zub (b g n cap : Nat) (ty : Nat) (z : Nat × Nat) (cur : Array Value) (l : List UInt8) (w : World) (h0 : l ≠ []) (hc0 : cap ≠ 0) (hl : l.length <= cur.size) (h63 : l.length <= 9223372036854775807)
  (c1 : w.cell? ⟨b, 1, none⟩ = some (.slice (some ⟨g, 0, none⟩) l.length cap)) (hg : w.heap[g]? = some (.cells cur 5 z))
  (hcell : ∀ j x, l[j]? = some x -> w.cell? ((⟨g, 0, none⟩ : Addr).add j) = some (.int .u8 x.toNat)) :
  Calls Tryz.prog 39 #[.pointer (some ⟨b, 0, none⟩)] w fun e w' => e = .returned (.string ⟨l.toArray⟩) /\ w'.heap = (w.freeze ⟨g, 0, none⟩ l.length).heap /\ w'.os = w.os /\ w'.tape = w.tape /\ w'.output = w.output := by
 have c1' : w.drew.cell? ⟨b, 1, none⟩ = some (.slice (some ⟨g, 0, none⟩) l.length cap) := c1
 have hSD : (Builtin.unsafeSliceData_ #[30] 97 #[.slice (some ⟨g, 0, none⟩) l.length cap]).run Tryz.prog w.drew = .ok (.pointer (some ⟨g, 0, none⟩)) w.drew :=
  Lib.run_unsafeSliceData_row _ _ _ _ _ _ hc0
 have hUS : (Builtin.unsafeString_ #[97, 3] 9 #[.pointer (some ⟨g, 0, none⟩), .int .i64 l.length]).run Tryz.prog w.drew = .ok (.string ⟨l.toArray⟩) (w.drew.freeze ⟨g, 0, none⟩ l.length) := by
  refine Lib.run_unsafeString_row w.drew 97 3 9 5 Tryz.underlying97 (by kernel_rfl) g cur.size (by have hg' : w.drew.heap[g]? = some (.cells cur 5 z) := hg; simp [World.shape?, hg']) l h0 hl h63 ?_
  exact hcell
 have mixed : Tryz.prog.follows .mixedOrders = true := by kernel_rfl
 go_enter Tryz.func39, Tryz.ntmps39
 go_wp2
 go_region_o
 all_goals (go_wp2; go_ret; exact ⟨rfl, by first | rfl | (unfold World.freeze; split <;> rfl), by first | rfl | (unfold World.freeze; split <;> rfl), by first | rfl | (unfold World.freeze; split <;> rfl), by first | rfl | (unfold World.freeze; split <;> rfl)⟩)
theorem ZrZ (w0 : World) : Zb1 Tryz.prog w0 39 strC := by
 intro args hp n σ w xs l hR hx h
 refine .inr ⟨Z3 Tryz.func39 rfl (by kernel_rfl), ?_⟩
 unfold strC at h
 split at h
 ·rename_i b
  simp only [VRs, VR] at hx
  obtain ⟨v, ws, rfl, ⟨p, t, hs, rfl⟩, rfl⟩ := hx
  split at h
  ·rename_i c0 j l' k ex hc
   split at h
   ·rename_i m x hm
    obtain ⟨q1, g1⟩ := Zaz h
    clear h
    cases g1
    obtain ⟨q1, q2⟩ := Yf q1
    have q1 := ZxS q1
    have q2 := ZxS q2
    obtain ⟨vs, h1, h2, _, _⟩ := hR.at hs hc (by simp)
    simp only [VRs, VR] at h1
    obtain ⟨v0, ws, rfl, _, v1, ws1, rfl, ⟨g, u, o', C, hsj, rfl, hlk, hkc, _, ho, hfit, _⟩, rfl⟩ := h1
    have ho := ho (.inl (by omega))
    subst ho
    obtain ⟨hrow, arr, z, hT⟩ := hR.at hsj hm (by simp)
    have hc1 := (h2.cell (i := 1) rfl).1
    have hrow' := hrow
    obtain ⟨arr', ty, lo, hi, e1, e2, ⟨sp, e3⟩, _⟩ := hrow'
    rw [hT] at e1; cases e1
    have hbl : (bys (l' + 1) x).length = l' + 1 := Zl _ _
    have hle : m <= arr.size := by have := congrArg List.length e3; simp [Zl] at this; omega
    have call := Zub p g n C 0 _ arr (bys (l' + 1) x) w (fun e => by rw [e] at hbl; cases hbl) (by omega) (by omega) ?_ (by rw [hbl]; exact hc1) hT (fun i b hb => by
     rw [add_eq]
     refine (hrow.cell (i := 0 + i) ?_).1
     rw [<- Zc9 m x (l' + 1) q1, List.getElem?_take] at hb
     split at hb
     ·rw [Nat.zero_add, ZxB, hb]; rfl
     ·cases hb)
    ·refine (callsIn_wide (n := 0)).2 (Calls.mono call ?_)
     rintro e w' ⟨rfl, hh, e1, e2, e3⟩
     have hother : ∀ i, i ≠ g -> w'.heap[i]? = w.heap[i]? := fun i hi => by
      rw [hh]; unfold World.freeze; split
      ·rfl
      ·simp only [Array.getElem?_modify]; rw [if_neg (fun e => hi e.symm)]
     have hsize : w'.heap.size = w.heap.size := by rw [hh]; unfold World.freeze; split <;> simp
     refine ⟨_, rfl, _, σ, List.mem_singleton.2 rfl, by simp only [VR], ?_, Ex.refl _ _, Nle.refl _⟩
     have hj := (hR.old _ _ _ hsj).1
     have hp0 := (hR.old _ _ _ hsj).2.1
     refine (hR.kill hj).chg hsize hother e1 e2 e3 hp0 (fun i q v hi hic hq => ?_)
     rw [ZV _ _ _ _ hj hi] at hic
     by_cases e : i = j
     ·rw [if_pos e] at hic; exact absurd rfl hic
     ·rw [if_neg e] at hic
      exact hR.apart i j q v g u hi hj hic (by rw [hm]; simp) e hq hsj
    ·rw [hbl]; omega
   ·cases h
  ·cases h
 ·cases h
end Go.Proofs.YtlmkcakhhbckhaaGreatDoor
namespace Go.Proofs.YtlmkcakhhbckhaaGreatDoor.awake
open Go.Cx
noncomputable def tab : List (Nat × Option Cn) := [(174, some ibsC), (79, some chkC), (39, some strC)]
theorem ZvZ : Zhn Tryz.prog tab := .cons (fun w0 => Zwe Tryz.func174 (by kernel_rfl) (by kernel_rfl) (by kernel_rfl) (by kernel_rfl)) <| .cons (fun w0 => Zq7 w0) <| .cons (fun w0 => ZrZ w0) <| .nil
noncomputable def dtab : List (Nat × Cn) := []
theorem Zvj : Zgq Tryz.prog dtab := .nil
theorem run : yes (goS Tryz.prog tab dtab 200 0 6 [] H0 N0) = true := by kernel_rfl
theorem calls (w : World) : Calls Tryz.prog 6 #[] w fun e w' => e = .returned (.bool true) /\ Go.RowKit.Below w.heap.size w w' := Zol ZvZ Zvj run w
end Go.Proofs.YtlmkcakhhbckhaaGreatDoor.awake
namespace Go.Proofs.YtlmkcakhhbckhaaGreatDoor
noncomputable section
open Go.Eng
open Go.RowKit (Below)
def Zsi : Ctr := ⟨[], [], [], [], [], .one (.bool (.bool true)), [], []⟩
def Zn8 : Ctr := ⟨[.rows, .int, .g, .rows, .int, .g], [ZvB 0, ZvB 3], [rtC (rA 0) (ai 1) (gA 2), rtC (rA 3) (ai 4) (gA 5)], [eLe z0 (dpX (gA 2)), tgX (gA 2), eLe z0 (dpX (gA 5)), tgX (gA 5)], [], .one (.bool (.bool true)), [], []⟩
def Zw6 : Cx := { specs := [(6, [Zsi]), (26, [weiC]), (8, [lntC]), (20, [Zsj, Zwf]), (13, [kepC]), (21, [Zry])], anns := [] }
theorem ZqR {G : Type} {S : Sig G} {P : Program} {f : Nat} {sp sq : Ctr} (hw : sp.wf = true) (h : ZG S P f sp) (hw2 : sq.wf = true) (h2 : ZG S P f sq) : ∀ q ∈ [sp, sq], q.wf = true /\ ZG S P f q := by
 intro q hq
 simp only [List.mem_cons, List.not_mem_nil, or_false] at hq
 rcases hq with rfl | rfl
 ·exact ⟨hw, h⟩
 ·exact ⟨hw2, h2⟩
theorem ZpP {G : Type} (S : Sig G) {P : Program} {f : FuncId} (h : ∀ w, Calls P f #[] w fun e w' => e = .returned (.bool true) /\ Below w.heap.size w w') : ZG S P f Zsi := by
 intro ch w0 F ρ w xs hx _ hs
 have hxs : xs = [] := by
  cases xs with
  | nil => rfl
  | cons x xs => exact hx.elim
 subst hxs
 refine (h w).mono ?_
 rintro e w' ⟨rfl, hb⟩
 obtain ⟨y, hy, hi⟩ := hs
 exact ⟨ρ, .bool true, Ext.refl _ _, rfl, .inr rfl, ⟨y, hy, Zkt hi hb⟩, fun x hx => nomatch hx⟩
theorem Zsz (n : Nat) : 0 <= ((n : Int)).tdiv 64 := Int.tdiv_nonneg (Int.natCast_nonneg _) (by omega)
mutual
theorem Zv4 : ∀ (x : Nd) (n : Int), 0 <= n -> n <= wg x n
 | .mk _ l, n, h => by unfold wg; exact Zss l n h
theorem Zss : ∀ (l : List Nd) (n : Int), 0 <= n -> n <= wgs l n
 | [], n, _ => by unfold wgs; omega
 | x :: l, n, h => by
  unfold wgs
  split
  ·have t := Zsz (ht x.h).length
   have h1 := Zv4 x (n + 1 + ((ht x.h).length : Int).tdiv 64) (by omega)
   have h2 := Zss l _ (Int.le_trans (by omega) h1)
   omega
  ·omega
end
mutual
theorem Zs6 : ∀ (x : Nd) (n : Int), 0 <= n -> wg x n <= 100000 -> SG x
 | .mk _ l, n, h, hw => by
  unfold wg at hw
  unfold SG
  obtain ⟨h1, h2⟩ := Zsd l n h hw
  exact ⟨by omega, h1⟩
theorem Zsd : ∀ (l : List Nd) (n : Int), 0 <= n -> wgs l n <= 100000 -> SGs l /\ n + l.length <= wgs l n
 | [], n, _, _ => by unfold SGs wgs; simp
 | x :: l, n, h, hw => by
  unfold wgs at hw ⊢
  unfold SGs
  split at hw
  ·rename_i hn
   rw [if_pos hn]
   have t := Zsz (ht x.h).length
   have h1 := Zv4 x (n + 1 + ((ht x.h).length : Int).tdiv 64) (by omega)
   obtain ⟨q1, q2⟩ := Zsd l _ (Int.le_trans (by omega) h1) hw
   refine ⟨⟨Zs6 x (n + 1 + ((ht x.h).length : Int).tdiv 64) (by omega) (by omega), q1⟩, ?_⟩
   simp only [ZxZ]
   omega
  ·omega
end
theorem Zn3 (x y : Int) : sgn y x = -sgn x y := by
 rcases Int.lt_trichotomy x y with h | h | h
 ·rw [Zeb h, ZdZ h]; rfl
 ·rw [Zea h, Zea h.symm]; rfl
 ·rw [Zeb h, ZdZ h]
theorem Zr9 : ∀ a b : List UInt8, Lib.compareBytes b a = -Lib.compareBytes a b
 | [], [] => by unfold Lib.compareBytes; rfl
 | [], _ :: _ => by unfold Lib.compareBytes; rfl
 | _ :: _, [] => by unfold Lib.compareBytes; rfl
 | a :: x, b :: y => by
  unfold Lib.compareBytes
  rw [Zr9 x y]
  rcases ZsD a b with h | h | h
  ·have h2 : ¬ b < a := by rw [UInt8.lt_iff_toNat_lt] at h ⊢; omega
   rw [if_neg h2, if_pos h, if_pos h]; rfl
  ·subst h
   have : ¬ a < a := by rw [UInt8.lt_iff_toNat_lt]; omega
   simp only [this, if_false]
  ·have h2 : ¬ a < b := by rw [UInt8.lt_iff_toNat_lt] at h ⊢; omega
   rw [if_pos h, if_neg h2, if_pos h]
theorem Zv5 : ∀ a b : List UInt8, -1 <= Lib.compareBytes a b /\ Lib.compareBytes a b <= 1 := fun a b => by
 rw [ZtS]; repeat' split
 all_goals omega
theorem ZnE (x y : Int) : -1 <= sgn x y /\ sgn x y <= 1 := by
 unfold sgn
 repeat' split
 all_goals omega
mutual
theorem Zru : ∀ g k : Nd, ZfL k g = -ZfL g k
 | .mk h l, .mk k m => by
  have hl := Zey l m
  rw [ZaQ, ZaQ]
  simp only [Nd.h, Nd.l]
  rw [hl, Zn3 (h.getD 1 0), Zn3 (srt (h.getD 1 0)), Zr9 (ht h)]
  repeat' split
  all_goals first | rfl | omega
theorem Zey : ∀ l m : List Nd, Za7 m l = -Za7 l m
 | [], [] => by unfold Za7; rfl
 | [], _ :: _ => by unfold Za7; rfl
 | _ :: _, [] => by unfold Za7; rfl
 | x :: l, y :: m => by
  have h1 := Zru x y
  have h2 := Zey l m
  unfold Za7
  rw [h1, h2]
  by_cases h : ZfL x y = 0
  ·rw [if_pos h, if_pos (by omega)]
  ·rw [if_neg h, if_neg (by omega)]
end
mutual
theorem ZrT : ∀ g k : Nd, -1 <= ZfL g k /\ ZfL g k <= 1
 | .mk h l, .mk k m => by
  have hl := Zhg l m
  have h1 := ZnE (h.getD 1 0) (k.getD 1 0)
  have h2 := ZnE (srt (h.getD 1 0)) (srt (k.getD 1 0))
  have h3 := Zv5 (ht h) (ht k)
  rw [ZaQ]
  simp only [Nd.h, Nd.l]
  repeat' split
  all_goals first | assumption | omega
theorem Zhg : ∀ l m : List Nd, -1 <= Za7 l m /\ Za7 l m <= 1
 | [], [] => by unfold Za7; omega
 | [], _ :: _ => by unfold Za7; omega
 | _ :: _, [] => by unfold Za7; omega
 | x :: l, y :: m => by
  have h1 := ZrT x y
  have h2 := Zhg l m
  unfold Za7
  split <;> assumption
end
mutual
theorem ZsU : ∀ g g' k k' : Nd, g.h.getD 0 0 = g'.h.getD 0 0 -> g.h.getD 1 0 = g'.h.getD 1 0 -> ht g.h = ht g'.h -> SM g g' -> k.h.getD 0 0 = k'.h.getD 0 0 -> k.h.getD 1 0 = k'.h.getD 1 0 -> ht k.h = ht k'.h -> SM k k' -> ZfL g k = ZfL g' k'
 | .mk h l, .mk h' l', .mk k m, .mk k' m', e0, e1, e2, s, f0, f1, f2, t => by
  rw [ZaQ, ZaQ, e0, e1, e2, f0, f1, f2]
  unfold SM at s t
  rw [show Za7 (Nd.mk h l).l (Nd.mk k m).l = Za7 (Nd.mk h' l').l (Nd.mk k' m').l from Zkq l l' m m' s t]
theorem Zkq : ∀ l l' m m' : List Nd, SMs l l' -> SMs m m' -> Za7 l m = Za7 l' m'
 | [], _ :: _, _, _, s, _ => by unfold SMs at s; exact s.elim
 | _ :: _, [], _, _, s, _ => by unfold SMs at s; exact s.elim
 | _, _, [], _ :: _, _, t => by unfold SMs at t; exact t.elim
 | _, _, _ :: _, [], _, t => by unfold SMs at t; exact t.elim
 | [], [], [], [], _, _ => rfl
 | [], [], _ :: _, _ :: _, _, _ => by unfold Za7; rfl
 | _ :: _, _ :: _, [], [], _, _ => by unfold Za7; rfl
 | x :: l, x' :: l', y :: m, y' :: m', s, t => by
  unfold SMs at s t
  unfold Za7
  rw [ZsU x x' y y' s.1.1 s.1.2.1 s.1.2.2 s.2.1 t.1.1 t.1.2.1 t.1.2.2 t.2.1, Zkq l l' m m' s.2.2 t.2.2]
end
def Zp4 : SX := v 607 (g 2)
def Znv : SX := v 607 (g 5)
def Zrq : SX := .f3 112 (r 0) (a 1) (k 6)
def Zud : SX := v 609 (g 7)
def Zva : SX := .f2 40 Zrq (k 2)
def Zrf : SX := .f3 112 (r 3) (a 4) (k 6)
def Zs3 : SX := v 609 (g 9)
def ZtT : SX := .f2 40 Zrf (k 2)
def Zua : SX := d 610 (g 2) (g 5)
def Zut : SX := e (d 610 (g 7) (g 9)) Zua
def Zn2 : SX := .f2 41 z Zua
def ZoJ : SX := e (d 610 (g 9) (g 7)) Zn2
def Zpq : SX := .f2 155 (.bool true) (.bool false)
def ZvT : VC := i (l z (v 606 (g 2))) (i (p 608 (g 2)) (i (l z (v 606 (g 5))) (i (p 608 (g 5)) (i (l z Zp4) (i (l Zp4 k3) (i (l z Znv) (i (l Znv k3) (.and (i (l Zp4 (k 100000)) (.and (i (t (k 100000) Znv) .tt) (i (l Znv (k 100000)) (n (p 620 (g 2)) (u 6 .int (u 7 .g (i (c 621 (g 7) (g 2)) (i (p 608 (g 7)) (i (l z (a 6)) (i (e Zrq Zud) (i (e (d 613 (g 7) (k 3)) (a 6)) (i (e (d 613 (g 7) (k 6)) Zrq) (i (e (d 613 (g 7) (k 7)) Zva) (n (p 620 (g 5)) (u 8 .int (u 9 .g (i (c 621 (g 9) (g 5)) (i (p 608 (g 9)) (i (l z (a 8)) (i (e Zrf Zs3) (i (e (d 613 (g 9) (k 3)) (a 8)) (i (e (d 613 (g 9) (k 6)) Zrf) (i (e (d 613 (g 9) (k 7)) ZtT) (n (e Zva (.f2 40 Zud (k 2))) (n (e ZtT (.f2 40 Zs3 (k 2))) (.and (i Zut (n (.f1 23 Zn2) (.and (i ZoJ (n (.f2 155 (.bool true) (e (d 610 (g 7) (g 7)) z)) .tt)) (i (.f1 2 ZoJ) (n Zpq .tt))))) (i (.f1 2 Zut) (n Zpq .tt)))))))))))))))))))))))))))) (i (t (k 100000) Zp4) .tt)))))))))
theorem Zwa : Zqz Tryz.prog Zw6 12 5 Zn8 = ZvT := by kernel_rfl
theorem ZvY (S : Sig Nd) (hS : ToSig S) : ZG S Tryz.prog 5 Zn8 := by
 refine Yq S (C := Zw6) (fuel := 12) (ZiF ⟨Yo (by decide) (ZpP S awake.calls), Yo (by decide) (ZtV S hS.tc.ta), Yo (by decide) (ZtM S hS), ZqR (by decide) (ZwN S hS) (by decide) (Zxe S hS), Yo (by decide) (Zt0 S hS), Yo (by decide) (ZuF S hS.tc), trivial⟩ trivial trivial) fun ρ => ?_
 rw [Zwa]
 simp only [ZvT, Zp4, Znv, Zrq, Zud, Zva, Zrf, Zs3, ZtT, Zua, Zut, Zn2, ZoJ, Zpq, hS.tc.ta.u606, hS.tc.ta.u607, hS.tc.ta.u608, hS.tc.ta.u609, hS.tc.u610, hS.tc.u613, hS.u620, hS.u621, Ziz, ZxM, VC.den, SX.den, Env.upd, beq_iff_eq, ZxE, beq_eq_false_iff_ne, ne_eq, ZxD, ZxC, Int.reduceToNat, Nat.reduceEqDiff, reduceIte, sB]
 generalize ndU (U.co S .g (ρ 2)) = g
 generalize ndU (U.co S .g (ρ 5)) = k
 generalize (ρ 0).tR.getD (ρ 1).tI.toNat [] = r
 generalize (ρ 3).tR.getD (ρ 4).tI.toNat [] = r'
 simp only [List.drop_zero]
 intro h1 tg h2 tk b1 b2 b3 b4
 have sg : wgs g.l 0 <= 100000 -> SG g := fun h => Zs6 g 0 (by omega) (by rw [Ztq]; exact h)
 have sk : wgs k.l 0 <= 100000 -> SG k := fun h => Zs6 k 0 (by omega) (by rw [Ztq]; exact h)
 refine ⟨fun hg => ⟨fun _ => trivial, fun hk => ⟨sg hg, fun b x sx tx b0 lx x3 x6 x7 => ⟨sk hk, fun c y sy ty c0 ly y3 y6 y7 => ⟨by omega, by omega, ?_⟩⟩⟩⟩, fun _ => trivial⟩
 have e := Zkq _ _ _ _ ((Zgk _ _).1 sx) ((Zgk _ _).1 sy)
 have e2 := Zey x.l y.l
 have e3 := Zey x.l x.l
 have e4 := Zhg g.l k.l
 refine ⟨fun _ => ⟨⟨by omega, by omega⟩, fun _ => ?_, fun hc => absurd (by omega) hc⟩, fun hc => absurd e hc⟩
 have e5 : Za7 x.l x.l = 0 := by omega
 rw [e5]; exact ⟨rfl, trivial⟩
end
end Go.Proofs.YtlmkcakhhbckhaaGreatDoor
namespace Go.Proofs.YtlmkcakhhbckhaaGreatDoor
open Go.Eng
open Go.ChangeShapes Go.WideShapes Go.Deep
theorem Zlv {w : World} : ∀ {l : List Nd}, (∀ x ∈ l, RT w x) -> RTs w l
 | [], _ => by unfold RTs; trivial
 | x :: l, h => by unfold RTs; exact ⟨h x (ZxN ..), Zlv fun y hy => h y (ZxL _ hy)⟩
theorem ZkU : ∀ {l : List Nd}, (∀ x ∈ l, TG x) -> TGs l
 | [], _ => by unfold TGs; trivial
 | x :: l, h => by unfold TGs; exact ⟨h x (ZxN ..), ZkU fun y hy => h y (ZxL _ hy)⟩
theorem Zll {cs : List Value} {i : Nat} {v : Value} (h : (cs.drop i).take 1 = [v]) : cs[i]? = some v := by
 have h2 : ((cs.drop i).take 1)[0]? = some v := by rw [h]; rfl
 rw [List.getElem?_take_of_lt (by omega), Zx4] at h2
 simpa using h2
theorem ZuK (s : ByteArray) : Fd.str.val [((Zdt s.data.toList : Nat) : Int)] = .string s := by
 show Value.string ⟨(decB (Int.toNat ((Zdt s.data.toList : Nat) : Int))).toArray⟩ = _
 rw [ZxM, ZY]
theorem ZpZ (w : World) (b off s : Nat) : w.cell? ((⟨b, off, some s⟩ : Addr).add 0) = none := by
 have e : ((⟨b, off, some s⟩ : Addr).add 0).spot.isSome = true := by unfold Addr.add; split <;> simp_all
 unfold World.cell?
 split
 ·exact if_pos e
 ·rfl
theorem ZvN {n : Int} (h : (Lit.int .i64 n).wf = true) : -9223372036854775808 <= n /\ n <= 9223372036854775807 := by
 have e : IntKind.i64.min = -9223372036854775808 := by decide
 simp [Lit.wf] at h
 rw [e] at h
 exact h
instance : Inhabited Nd := ⟨nd0⟩
def TrIs (w : World) (cs : List Value) (b o s n c : Int) (l : List Nd) : Prop := cs = [opqV [b, o, s, n, c]] /\ ltOk w [0, 0, 0, b, o, s, n, c] l /\ RTs w l /\ (l.length : Int) <= 9223372036854775807 /\ TGs l
theorem ZpA {H : Type} {enc : TypeId × Value -> H} {P : Program} {w : World} {base : Nat} {spare : Nat -> Bool} {ZjG : Bool} {t e : TypeId} {g0 g1 g2 g3 : Field}
  (ht : P.underlying t = some (.slice e)) (he : P.underlying e = some (.struct #[g0, g1, g2, g3])) (ce : P.cellsOf e = 4) (o0 : g0.offset = 0) (o1 : g1.offset = 1) (o2 : g2.offset = 2) (o3 : g3.offset = 3)
  (c0 : P.cellsOf g0.type = 1) (c1 : P.cellsOf g1.type = 1) (c2 : P.cellsOf g2.type = 1) (c3 : P.cellsOf g3.type = 1)
  (t0 : P.underlying g0.type = some (.int .i64)) (t1 : P.underlying g1.type = some (.int .i64)) (t2 : P.underlying g2.type = some .string) (t3 : g3.type = t) :
  ∀ (fuel : Nat) {cs : List Value} {x : DataW H × List MemPlace}, DataW.trod enc P w base spare ZjG fuel t cs = some x -> ∃ (b o s n c : Int) (l : List Nd), TrIs w cs b o s n c l := by
 intro fuel
 induction fuel using Nat.strongRecOn with
 | ind fuel ih =>
  intro cs x h
  rcases DataW.trod_slice ht h with ⟨rfl, _⟩ | ⟨a, len, cap, elems, rest, n, hfu, rfl, hx, hb, hl, hm, hlen, hel, hsp, hns⟩
  ·exact ⟨-1, 0, -1, 0, 0, [], rfl, ⟨rfl, fun h => absurd rfl h, fun i v hv => by simp [Z2] at hv⟩, Zlv (fun x hx => nomatch hx), by decide, ZkU (fun x hx => nomatch hx)⟩
  have each : ∀ i, i < len -> ∃ q : Nd, (∀ j, j < 4 -> ∃ v, (Zo itF q.h)[j]? = some v /\ w.cell? (a.add (i * 4 + j)) = some v) /\ RT w q /\ TG q := by
   intro i hi
   have hi2 := hel i hi
   rw [ZxI (by omega), ce] at hi2
   obtain ⟨cs', h1, h2⟩ := Option.bind_eq_some_iff.1 hi2
   obtain ⟨_, hle, hcell⟩ := World.cells?_some h1
   obtain ⟨xs, k, hk, _, _, hxl, hf⟩ := DataW.trod_struct he h2
   have f0 := hf 0 g0 rfl
   have f1 := hf 1 g1 rfl
   have f2 := hf 2 g2 rfl
   have f3 := hf 3 g3 rfl
   rw [o0, c0, ZxI (by rw [hxl]; show _ < 4; omega)] at f0
   rw [o1, c1, ZxI (by rw [hxl]; show _ < 4; omega)] at f1
   rw [o2, c2, ZxI (by rw [hxl]; show _ < 4; omega)] at f2
   rw [o3, c3, t3, ZxI (by rw [hxl]; show _ < 4; omega)] at f3
   obtain ⟨n0, e0, _, _⟩ := DataW.trod_int t0 f0
   obtain ⟨n1, e1, _, w1⟩ := DataW.trod_int t1 f1
   obtain ⟨s2, e2, _, z2⟩ := DataW.trod_string t2 f2
   obtain ⟨b', o', s', n', c', l', e3, q1, q2, q3, q4⟩ := ih k (by omega) f3
   have e0 := Zll e0
   have e1 := Zll e1
   have e2 := Zll e2
   have e3 := Zll e3
   refine ⟨.mk [n0, n1, (Zdt s2.data.toList : Nat), b', o', s', n', c'] l', fun j hj => ?_, (Zf9 _).2 ⟨q1, q2⟩, (Y4 _).2 ⟨q3, ⟨?_, ZvN w1⟩, q4⟩⟩
   ·have hc := hcell j (by omega)
    rw [add_add] at hc
    match j, hj with
    | 0, _ => exact ⟨_, rfl, by rw [hc, e0]; rfl⟩
    | 1, _ => exact ⟨_, rfl, by rw [hc, e1]; rfl⟩
    | 2, _ => exact ⟨_, rfl, by rw [hc, e2]; exact congrArg some (ZuK s2).symm⟩
    | 3, _ => exact ⟨_, rfl, by rw [hc, e3]; rfl⟩
   ·show ((decB ((Zdt s2.data.toList : Nat) : Int).toNat).length : Int) <= _
    rw [ZxM, ZY]
    have hmax : maxLen = 9223372036854775807 := by decide
    have : s2.data.toList.length = s2.size := Array.length_toList
    omega
  obtain ⟨q, hq⟩ := choose_lt each
  have hmax : maxLen = 9223372036854775807 := by decide
  obtain ⟨b, off, spot⟩ := a
  have hln : ((List.range len).map q).length = len := by rw [ZxP, List.length_range]
  have hmem : ∀ x ∈ (List.range len).map q, RT w x /\ TG x := by
   intro x hx
   obtain ⟨i, hi, rfl⟩ := List.mem_map.1 hx
   exact (hq i (List.mem_range.1 hi)).2
  cases spot with
  | some s =>
   have h0 : len = 0 := by
    rcases Nat.eq_zero_or_pos len with h0 | h0
    ·exact h0
    ·obtain ⟨v, _, h2⟩ := (hq 0 h0).1 0 (by decide)
     have e : w.cell? ((⟨b, off, some s⟩ : Addr).add 0) = none := ZpZ w b off s
     rw [show 0 * 4 + 0 = 0 from rfl, e] at h2; cases h2
   subst h0
   refine ⟨b, off, s, 0, cap, [], ?_, ⟨rfl, fun h => absurd rfl h, fun i v hv => by simp [Z2] at hv⟩, Zlv (fun x hx => nomatch hx), by decide, ZkU (fun x hx => nomatch hx)⟩
   show _ = [Value.slice (if (b : Int) < 0 then none else some ⟨(b : Int).toNat, (off : Int).toNat, if (s : Int) < 0 then none else some (s : Int).toNat⟩) _ _]
   rw [if_neg (by omega), if_neg (by omega)]; rfl
  | none =>
   refine ⟨b, off, -1, len, cap, (List.range len).map q, ?_, ⟨?_, fun _ => ⟨by show (0 : Int) <= b; omega, by show (-1 : Int) < 0; omega⟩, fun j v hj => ?_⟩, Zlv fun x hx => (hmem x hx).1, by rw [hln]; omega, ZkU fun x hx => (hmem x hx).2⟩
   ·show _ = [Value.slice (if (b : Int) < 0 then none else some ⟨(b : Int).toNat, (off : Int).toNat, if (-1 : Int) < 0 then none else some _⟩) _ _]
    rw [if_neg (by omega), if_pos (by decide)]; rfl
   ·rw [hln]; rfl
   ·have hlen4 : ∀ r : List Int, (Zo itF r).length = 4 := fun r => Yi _ r
    have hkr : Z2 ((List.range len).map q) = (List.range len).map fun i => (q i).h := by unfold Z2; rw [List.map_map]; rfl
    rw [hkr] at hj
    have hjlt : j < len * 4 := by
     rcases Zxz j (len * 4) with h' | h'
     ·exact h'
     ·rw [List.getElem?_eq_none (by rw [ZaP _ 4 hlen4, ZxP, List.length_range]; exact h')] at hj; cases hj
    have hdm : j = j / 4 * 4 + j % 4 := by omega
    rw [hdm, Zcr _ 4 hlen4 _ _ _ (Nat.mod_lt _ (by decide)), ZxB, List.getElem?_range (by omega)] at hj
    obtain ⟨v', h1, h2⟩ := (hq (j / 4) (by omega)).1 (j % 4) (Nat.mod_lt _ (by decide))
    have hj' : (Zo itF (q (j / 4)).h)[j % 4]? = some v := hj
    rw [h1] at hj'
    cases hj'
    rw [<- hdm, add_plain] at h2
    show ((b : Int)).toNat < w.heap.size /\ w.cell? ⟨((b : Int)).toNat, ((off : Int)).toNat + j, none⟩ = some v
    exact ⟨by simpa using (World.block_lt_of_cell? w ⟨b, off + j, none⟩ h2), by simpa using h2⟩
theorem ZlP {H : Type} {enc : TypeId × Value -> H} {P : Program} {W : World} {base : Nat} {t e : TypeId} {g0 g1 g2 g3 : Field} {v : Value} {d : DataW H} {ps : List MemPlace}
  (ht : P.underlying t = some (.slice e)) (he : P.underlying e = some (.struct #[g0, g1, g2, g3])) (ce : P.cellsOf e = 4) (o0 : g0.offset = 0) (o1 : g1.offset = 1) (o2 : g2.offset = 2) (o3 : g3.offset = 3)
  (c0 : P.cellsOf g0.type = 1) (c1 : P.cellsOf g1.type = 1) (c2 : P.cellsOf g2.type = 1) (c3 : P.cellsOf g3.type = 1)
  (t0 : P.underlying g0.type = some (.int .i64)) (t1 : P.underlying g1.type = some (.int .i64)) (t2 : P.underlying g2.type = some .string) (t3 : g3.type = t)
  (hv : Value.okWide P W .any base t v) (h : DataW.Trod enc P W 0 (fun _ => true) true t v d ps) : ∃ (b o s n c : Int) (l : List Nd), TrIs W [v] b o s n c l := by
 obtain ⟨fuel, hf⟩ := h
 obtain ⟨a0, len, cap, rfl⟩ := okWide_slice ht hv
 exact ZpA ht he ce o0 o1 o2 o3 c0 c1 c2 c3 t0 t1 t2 t3 fuel hf
end Go.Proofs.YtlmkcakhhbckhaaGreatDoor
namespace Go.Proofs.YtlmkcakhhbckhaaGreatDoor.tupleCompares
open Go.ChangeShapes Go.WideShapes Go.ChangeAt Go.RowKit
open Go.Eng (Zdy Sig ZG Zit emp Zi ZlT Sat Env U Ctr SX Zo Ze)
theorem own : ownKnob Tryz.prog.godebug = none := by kernel_rfl
noncomputable def usr (n : Nat) (a b c d : U Nd) : U Nd :=
 match n with
 | 601 => .rows (Z2 (ndU a).l)
 | 602 => .ints ((a.tR.getD b.tI.toNat []).drop 3)
 | 604 => .g ((ndU a).kid b.tI)
 | 606 => .int (dep (ndU a))
 | 607 => .int (wgs ((ndU a).l.drop b.tI.toNat) c.tI)
 | 608 => .bool (ZfV (TG (ndU a)))
 | 609 => .int ((ndU a).l.length : Nat)
 | 610 => .int (Za7 ((ndU a).l.drop c.tI.toNat) ((ndU b).l.drop c.tI.toNat))
 | 611 => .int (Lib.compareBytes a.tB b.tB)
 | 612 => .int (ZfL (ndU a) (ndU b))
 | 613 => .int ((ndU a).h.getD b.tI.toNat 0)
 | 614 => .bytes (ht (ndU a).h)
 | 620 => .bool (ZfV (SG (ndU a)))
 | 621 => .bool (ZfV (SM (ndU a) (ndU b)))
 | 622 => .rows ((ZN b.tI (ndU a).l).take c.tI.toNat)
 | 623 => .bool (ZfV (SMs (ndU a).l ((ndU b).l.take (ndU a).l.length)))
 | 624 => .g (ZfS (ndU a) (ndU b) c.tI (ndU d))
 | 625 => .g (ZqB (ndU a) b.tI c.tI)
 | 626 => .rows (ZN (ndU a).l.length (ndU a).l)
 | 627 => .g (.mk [] [])
 | 628 => .g (ZfU (ndU a) b.tI)
 | _ => .int 0
noncomputable def prd (n : Nat) (w0 : World) (k x : U Nd) : Ze :=
 match n with
 | 200 => Ze.pure (RT w0 (ndU x) /\ (ndU x).h.drop 3 = k.tN)
 | 201 => fun h => (ndU x).h.getD 3 0 = k.tI /\ OT (ndU x) h
 | 202 => OTs (ndU x).l
 | _ => emp
noncomputable def sig : Sig Nd := { dg := nd0, ch := fun _ => true, usr := usr, prd := prd }
theorem hA : TaSig sig where
 dg := rfl
 p200 := fun _ _ _ => rfl
 u601 := fun _ _ _ _ => rfl
 u602 := fun _ _ _ _ => rfl
 u604 := fun _ _ _ _ => rfl
 u606 := fun _ _ _ _ => rfl
 u607 := fun _ _ _ _ => rfl
 u608 := fun _ _ _ _ => rfl
 u609 := fun _ _ _ _ => rfl
theorem hC : TcSig sig where
 ta := hA
 u610 := fun _ _ _ _ => rfl
 u611 := fun _ _ _ _ => rfl
 u612 := fun _ _ _ _ => rfl
 u613 := fun _ _ _ _ => rfl
 u614 := fun _ _ _ _ => rfl
theorem hO : ToSig sig where
 tc := hC
 p201 := fun _ _ _ => rfl
 p202 := fun _ _ _ => rfl
 u620 := fun _ _ _ _ => rfl
 u621 := fun _ _ _ _ => rfl
 u622 := fun _ _ _ _ => rfl
 u623 := fun _ _ _ _ => rfl
 u624 := fun _ _ _ _ => rfl
 u625 := fun _ _ _ _ => rfl
 u626 := fun _ _ _ _ => rfl
 u627 := fun _ _ _ _ => rfl
 u628 := fun _ _ _ _ => rfl
def Zj6 (b o s n c : Int) (l : List Nd) : Nd := .mk [0, 0, 0, b, o, s, n, c] l
def env (g k : Nd) : Go.Eng.Env Nd := fun i => match i with | 0 => .rows [g.h] | 1 => .int 0 | 2 => .g g | 3 => .rows [k.h] | 4 => .int 0 | _ => .g k
theorem Zov {b o s n c : Int} {l : List Nd} (h1 : (l.length : Int) <= 9223372036854775807) (h2 : TGs l) : TG (Zj6 b o s n c l) := by
 rw [Y4]
 refine ⟨h1, ⟨?_, by show (-9223372036854775808 : Int) <= 0; omega, by show (0 : Int) <= 9223372036854775807; omega⟩, h2⟩
 exact (by decide : ((Go.Eng.decB 0).length : Int) <= 9223372036854775807)
theorem walk {v1 v2 : Value} {b o s n c b' o' s' n' c' : Int} {l l' : List Nd} {w : World} (h1 : TrIs w [v1] b o s n c l) (h2 : TrIs w [v2] b' o' s' n' c' l') :
  Calls Tryz.prog 5 #[v1, v2] w fun e w' => e = .returned (.bool true) /\ Below w.heap.size w w' := by
 obtain ⟨e1, a1, a2, a3, a4⟩ := h1
 obtain ⟨e2, b1, b2, b3, b4⟩ := h2
 obtain rfl : v1 = _ := (List.cons.inj e1).1
 obtain rfl : v2 = _ := (List.cons.inj e2).1
 have t1 : TG (Zj6 b o s n c l) := Zov a3 a4
 have t2 : TG (Zj6 b' o' s' n' c' l') := Zov b3 b4
 have g1 : RT w (Zj6 b o s n c l) := (Zf9 _).2 ⟨a1, a2⟩
 have g2 : RT w (Zj6 b' o' s' n' c' l') := (Zf9 _).2 ⟨b1, b2⟩
 have := (ZvY sig hO) (fun _ => true) w emp (env (Zj6 b o s n c l) (Zj6 b' o' s' n' c' l')) w [Go.Eng.opqV [b, o, s, n, c], Go.Eng.opqV [b', o', s', n', c']] ⟨.inr rfl, .inr rfl, trivial⟩ (fun e he => by
  simp only [Zn8, List.mem_cons, List.not_mem_nil, or_false] at he
  rcases he with rfl | rfl | rfl | rfl
  ·rw [Go.Eng.eLe_den, ZbA hA rfl]; exact Int.natCast_nonneg _
  ·rw [Za6 hA rfl]; exact t1
  ·rw [Go.Eng.eLe_den, ZbA hA rfl]; exact Int.natCast_nonneg _
  ·rw [Za6 hA rfl]; exact t2) (by
  obtain ⟨x, hx, hi⟩ := ZlT w
  refine ⟨x, ?_, hi⟩
  have hx : emp x := by rwa [Go.Eng.star_emp] at hx
  rw [Go.Eng.star_emp]
  show Zi ((rtC (rA 0) (ai 1) (gA 2)).den (sig.wc fun _ => true) _ w) (Zi ((rtC (rA 3) (ai 4) (gA 5)).den (sig.wc fun _ => true) _ w) emp) x
  rw [Go.Eng.star_emp, Zco (T := sig.wc fun _ => true) hA rfl rfl, Zco (T := sig.wc fun _ => true) hA rfl rfl, Go.Eng.star_pure]
  exact ⟨⟨g1, rfl⟩, ⟨g2, rfl⟩, hx⟩)
 refine this.mono ?_
 rintro e w' ⟨ρ', v, hx, rfl, hv, hs, hfa⟩
 have hv : v = .bool true := Go.Eng.R_one sig ρ' hv
 subst hv
 exact ⟨rfl, hs.below⟩
theorem laid : laidOutB Tryz.prog = true := by kernel_rfl
theorem met (os : Os) : laidMetH Tryz.prog Rows.tupleComparesRow.laid ((World.laidAll Tryz.prog os Rows.tupleComparesRow.laid).forCall (fun _ _ => 0) ⟨#[], #[.slice none 0 0, .slice none 0 0], []⟩).memory := by
 rw [MakeChecks.laidMetH_plain _ _ _ (by kernel_rfl)]
 exact laidMet_laidAll _ (by kernel_rfl) (by kernel_rfl)
set_option maxRecDepth 100000 in
theorem Zbe (H : Type) (enc : TypeId × Value -> H) (W : World) (base : Nat) (args : Array Value) (ds gs : List (DataW H)) (before : List MemPlace)
  (hval : ∀ (j : Nat) t v, Tryz.f5.params[j]? = some t -> args[j]? = some v -> Value.okWide Tryz.prog W .any base t v)
  (hW : DataW.Whole enc Tryz.prog Tryz.f5.params.toList Rows.tupleComparesSpec.vars false W args.toList ds gs before) :
  Calls Tryz.prog 5 args W fun e W' => ∃ v, e = .returned v /\ Rows.tupleComparesSpec.post enc Tryz.prog Tryz.f5 false true false false W args v W' := by
 have hW' := hW
 obtain ⟨p, q, hA0, hV, rfl, hfz, hnd⟩ := hW
 have hA : DataW.TrodAll enc Tryz.prog W 0 (fun _ => true) true Tryz.f5.params.toList args.toList ds p := hA0
 rw [Tryz.params5] at hA hval
 obtain ⟨v0, vs0, d0, ds0, p0, q0, hargs, rfl, rfl, h0, r0⟩ := trodAll_cons hA
 obtain ⟨v1, vs1, d1, ds1, p1, q1, rfl, rfl, rfl, h1, r1⟩ := trodAll_cons r0
 obtain ⟨rfl, rfl, rfl⟩ := trodAll_nil r1
 obtain rfl : args = #[v0, v1] := by cases args; simp_all
 obtain ⟨rfl, rfl⟩ := trodVars_none hV
 have hlt : ∀ x ∈ p0 ++ (p1 ++ []), x.block < W.heap.size := fun x hx => hW'.lt x (List.mem_append_left _ hx)
 have fin : ∀ (e : Ending) (W' : World), (e = .returned (.bool true) /\ Below W.heap.size W W') -> ∃ v, e = .returned v /\ Rows.tupleComparesSpec.post enc Tryz.prog Tryz.f5 false true false false W #[v0, v1] v W' := by
  rintro e W' ⟨rfl, hb⟩
  clear hA0
  refine ⟨_, rfl, Zdy (pa := p0 ++ (p1 ++ [])) (pv := []) hW' (fun _ _ _ => (trodAll_cons_mk (shut_bool Tryz.underlying4 _) trodAll_mk0)) ?_ (fun _ _ => rfl) rfl hb
   (ok_one (by kernel_rfl) rfl (okWide_bool_mk Tryz.underlying4 _))⟩
  intro sp hsp
  refine trodAll_cons_mk ?_ (trodAll_cons_mk ?_ trodAll_mk0)
  ·exact WideElems.Trod_stays laid (by kernel_rfl) (of_decide_eq_true (by kernel_rfl)) h0 (fun x hx => hb.same (hlt x (by simp [hx]))) (fun x hx => hsp x (by simp [hx]))
  ·exact WideElems.Trod_stays laid (by kernel_rfl) (of_decide_eq_true (by kernel_rfl)) h1 (fun x hx => hb.same (hlt x (by simp [hx]))) (fun x hx => hsp x (by simp [hx]))
 have g0 := ZlP (enc := enc) (W := W) (base := base) (v := v0) (d := d0) (ps := p0) Tryz.underlying22 Tryz.underlying43 (by kernel_rfl) rfl rfl rfl rfl (by kernel_rfl) (by kernel_rfl) (by kernel_rfl) (by kernel_rfl)
  Tryz.underlying3 Tryz.underlying2 Tryz.underlying9 rfl (hval 0 22 v0 rfl rfl) h0
 have g1 := ZlP (enc := enc) (W := W) (base := base) (v := v1) (d := d1) (ps := p1) Tryz.underlying22 Tryz.underlying43 (by kernel_rfl) rfl rfl rfl rfl (by kernel_rfl) (by kernel_rfl) (by kernel_rfl) (by kernel_rfl)
  Tryz.underlying3 Tryz.underlying2 Tryz.underlying9 rfl (hval 1 22 v1 rfl rfl) h1
 obtain ⟨b, o, s, n, c, l, g0⟩ := g0
 obtain ⟨b', o', s', n', c', l', g1⟩ := g1
 exact Calls.mono (walk g0 g1) fin
set_option maxRecDepth 100000 in
theorem Zv7 (os : Os) (started : os.Started) (H : Type) (enc : TypeId × Value -> H) :
  ReturnsInHanded {} Tryz.checked os 5 .any (fun w args => (Rows.tupleComparesSpec.pre enc Tryz.prog Tryz.f5 Rows.tupleComparesRow.domain false w args /\ laidMetH Tryz.prog Rows.tupleComparesRow.laid w) /\ sizedMet enc Tryz.prog Tryz.f5 (OpenSpec.ofChange Rows.tupleComparesSpec) false w args)
   (Rows.tupleComparesSpec.post enc Tryz.prog Tryz.f5 false true false false) := by
 refine returnsInHanded_of_change_and (C := Tryz.checked) (X := fun w _ => laidMetH Tryz.prog Rows.tupleComparesRow.laid w) (fun _ _ _ hh h => h.of_heap hh) own started (by kernel_rfl) Tryz.func5
  (ChangeSpec.witness_shaped (enc := enc) (C := Tryz.checked) (os := os) (X := fun w _ => laidMetH Tryz.prog Rows.tupleComparesRow.laid w) false (World.laidAll Tryz.prog os Rows.tupleComparesRow.laid) #[.slice none 0 0, .slice none 0 0] 8 (World.laidAll_os _ _ _)
   (World.shaped_of_ZipB (by kernel_rfl) (by kernel_rfl)) (by kernel_rfl) (by kernel_rfl) (by kernel_rfl) (met os)) ?_
 intro W base args ds gs before hval hW _ _ hL _
 exact Zbe H enc W base args ds gs before hval hW
theorem said : Rows.TupleComparesSaid :=
 OpenClaim.holds_of_wide 5 Tryz.f5 rfl rfl rfl rfl rfl rfl rfl ⟨rfl, rfl, rfl, rfl, rfl⟩ rfl rfl rfl rfl rfl (by kernel_rfl) Tryz.func5 (by kernel_rfl)
  (of_decide_eq_true (by kernel_rfl)) (by unfold Func.isWrapper; first | (rw [if_pos (by decide +kernel)]; kernel_rfl) | (rw [if_neg (by decide +kernel)]; exact ⟨rfl, rfl⟩))
  (fun os started H enc _ => Zv7 os started H enc)
theorem plain (f : FuncId) (fn : Func) (hf : Tryz.pinned.checked.prog.funcNamed "espalier/espalierlaw02.TupleCompares" = some f) (hfn : Tryz.pinned.checked.prog.funcs[f]? = some fn) :
  true = Tryz.pinned.checked.prog.looks [] /\ ∀ (j : Nat) t, fn.params[j]? = some t -> Tryz.pinned.checked.prog.wantsStandIn t = false := by
 obtain rfl : f = 5 := Option.some.inj ((show Tryz.prog.funcNamed "espalier/espalierlaw02.TupleCompares" = some 5 by kernel_rfl).symm.trans hf) |>.symm
 obtain rfl : fn = Tryz.f5 := (Option.some.inj (Tryz.func5.symm.trans hfn)).symm
 refine ⟨by kernel_rfl, fun j t ht => ?_⟩
 rw [Tryz.params5] at ht
 have hw : Tryz.pinned.checked.prog.wantsStandIn 22 = false := by kernel_rfl
 match j, ht with
 | 0, ht => cases ht; exact hw
 | 1, ht => cases ht; exact hw
 | j + 2, ht => simp at ht
theorem proved : Rows.TupleComparesCardSaid :=
 Claim7.holds_tied_plain_at .later [] _ _ _ _ said (fun _ h => by cases h) (by kernel_rfl) (fun _ h => by cases h) tupleCompares_row_tie rfl ⟨rfl, rfl⟩ (by kernel_rfl) rfl plain (by kernel_rfl)
#print axioms proved
end Go.Proofs.YtlmkcakhhbckhaaGreatDoor.tupleCompares
