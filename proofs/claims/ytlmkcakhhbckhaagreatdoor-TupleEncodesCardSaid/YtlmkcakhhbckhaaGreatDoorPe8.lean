/- TupleEncodes answers true, and what was handed in stays as it is; the statement and its card. No condition. -/
import Derived.Test.YtlmkcakhhbckhaaGreatDoorPe7
import Derived.Laws.Externs
import Derived.Lib.Bytealg
import Derived.ChangeSame
import Derived.Test.YtlmkcakhhbckhaaGreatDoorProg
import Derived.Lib.Builder
import Derived.Lib.UnsafeStr
import Derived.Lib.Walk
import Derived.Shelf.RegionOpenPlain
import Derived.WalkKit
import Derived.KernelRfl
import Derived.Test.YtlmkcakhhbckhaaGreatDoorPe4
import Derived.Test.YtlmkcakhhbckhaaGreatDoorPe5
import Derived.Deep.Slices
import Derived.Test.YtlmkcakhhbckhaaGreatDoorChecked
import Derived.Test.YtlmkcakhhbckhaaGreatDoorRows
import Derived.Test.YtlmkcakhhbckhaaGreatDoorCards
import Derived.Test.YtlmkcakhhbckhaaGreatDoorTie
import Derived.Lib.LaidU8T
import Derived.ProofKit
import Derived.OpenShut
import Derived.JoinedCond
import Derived.Carry
import Derived.Lay
import Derived.SevenTiedAt
set_option linter.unusedSimpArgs false
set_option linter.unusedVariables false
set_option maxRecDepth 20000
namespace Go.Cx
open Go.RowKit (Below)
section
variable {P : Program} {w0 : World} {φ : Out -> Prop} {ctrs : List (Nat × Option Cn)} {bd rd : Nat -> Cn} {ro : Option Nat}
theorem FrR.nj' {σ : Sg} {fr : F} {a : Act} (h : FrR σ fr a) : NJ' fr := ⟨h.nj, by rw [h.sz]; exact h.small⟩
def SxOk (P : Program) (w0 : World) (ctrs : List (Nat × Option Cn)) (bd rd : Nat -> Cn) (ro : Option Nat) (fn : Nat) (vro : Option Nat) (φ : Out -> Prop) (c : Code) : Prop :=
 ∀ {σ : Sg} {fr : F} {hp : H} {n : Nat} {kn : F -> H -> Nat -> Res} {ke : Nat -> F -> H -> Nat -> Res} {kr : F -> H -> Nat -> Res} {a : Act} {w : World} {Q : Exit -> Act -> World -> Prop},
  ((vro = none /\ ro = none) \/ ∃ l p t, vro = some l /\ ro = some p /\ σ l = some (p, t)) →
  Rel w0 σ hp n w -> FrR σ fr a -> ZrK ro fr -> Zv ((Zaq P ctrs fn c).run bd rd vro fr hp n kn ke kr) φ -> (∀ c a w, ¬ Q (.panic c) a w) →
  (∀ σ' fr' hp' n' a' w', St w0 ro σ n σ' fr' hp' n' a' w' -> Zv (kn fr' hp' n') φ -> Q .normal a' w') →
  (∀ i σ' fr' hp' n' a' w', St w0 ro σ n σ' fr' hp' n' a' w' -> Zv (ke i fr' hp' n') φ -> Q (.exit i) a' w') →
  (∀ σ' fr' hp' n' a' w', St w0 ro σ n σ' fr' hp' n' a' w' -> Zv (kr fr' hp' n') φ -> Q .ret a' w') -> c.wpIn (FF ro) 0 P Q a w
theorem ZG7 {vro : Option Nat} {σ σ' : Sg} {n n' : Nat} {fr' : F} {hp' : H} {a' : Act} {w' : World} (hvro : (vro = none /\ ro = none) \/ ∃ l p t, vro = some l /\ ro = some p /\ σ l = some (p, t)) (hS : St w0 ro σ n σ' fr' hp' n' a' w') :
  (vro = none /\ ro = none) \/ ∃ l p t, vro = some l /\ ro = some p /\ σ' l = some (p, t) := by
 rcases hvro with h | ⟨l, p, t, h1, h2, h3⟩
 ·exact .inl h
 ·exact .inr ⟨l, p, t, h1, h2, hS.ex.1 _ _ h3⟩
theorem Zmr {fn : Nat} {vro : Option Nat} {b : Code} (hb : SxOk P w0 ctrs bd rd ro fn vro φ b) {kn : F -> H -> Nat -> Res} {ke : Nat -> F -> H -> Nat -> Res} {kr : F -> H -> Nat -> Res} {Q : Exit -> Act -> World -> Prop} (hQp : ∀ c a w, ¬ Q (.panic c) a w) :
  ∀ (fuel : Nat) {σ : Sg} {fr : F} {hp : H} {n : Nat} {a : Act} {w : World},
  ((vro = none /\ ro = none) \/ ∃ l p t, vro = some l /\ ro = some p /\ σ l = some (p, t)) →
  Rel w0 σ hp n w -> FrR σ fr a -> ZrK ro fr -> Zv (Zzu (Zaq P ctrs fn b) bd rd vro kn ke kr fuel fr hp n) φ →
  (∀ i σ' fr' hp' n' a' w', St w0 ro σ n σ' fr' hp' n' a' w' -> Zv (ke i fr' hp' n') φ -> Q (.exit i) a' w') →
  (∀ σ' fr' hp' n' a' w', St w0 ro σ n σ' fr' hp' n' a' w' -> Zv (kr fr' hp' n') φ -> Q .ret a' w') -> WpL (FF ro) P b Q a w := by
 intro fuel
 induction fuel with
 | zero => intro σ fr hp n a w _ _ _ _ h; exact h.no.elim
 | succ fuel ih =>
  intro σ fr hp n a w hvro hR hF hro h hE hK
  have h : Zv ((Zaq P ctrs fn b).run bd rd vro fr hp n (Zzu (Zaq P ctrs fn b) bd rd vro kn ke kr fuel) ke kr) φ := h
  refine Zzd (hb hvro hR hF hro h (fun c a w => hQp c a w) ?_ ?_ ?_)
  ·intro σ1 fr1 hp1 n1 a1 w1 hS h1
   exact ih (ZG7 hvro hS) hS.rel hS.fr hS.ro h1 (fun _ _ _ _ _ _ _ hS2 => hE _ _ _ _ _ _ _ (St.trans hS.ex hS.n hS2)) (fun _ _ _ _ _ _ hS2 => hK _ _ _ _ _ _ (St.trans hS.ex hS.n hS2))
  ·exact fun i σ1 fr1 hp1 n1 a1 w1 hS h1 => hE _ _ _ _ _ _ _ hS h1
  ·exact fun σ1 fr1 hp1 n1 a1 w1 hS h1 => hK _ _ _ _ _ _ hS h1
theorem ZcL (hC : CsOk P w0 ctrs bd rd) {fn : Nat} {vro : Option Nat} : ∀ (c : Code), SxOk P w0 ctrs bd rd ro fn vro φ c := by
 intro c
 induction c with
 | skip => intro σ fr hp n kn ke kr a w Q hvro hR hF hro h hQp hN hE hK; exact wpIn_skip (hN _ _ _ _ _ _ ⟨hR, hF, hro, Ex.refl _ _, Nle.refl _⟩ h)
 | label l => intro σ fr hp n kn ke kr a w Q hvro hR hF hro h hQp hN hE hK; exact wpIn_label (hN _ _ _ _ _ _ ⟨hR, hF, hro, Ex.refl _ _, Nle.refl _⟩ h)
 | exit id => intro σ fr hp n kn ke kr a w Q hvro hR hF hro h hQp hN hE hK; exact wpIn_exit (hE _ _ _ _ _ _ _ ⟨hR, hF, hro, Ex.refl _ _, Nle.refl _⟩ h)
 | ret => intro σ fr hp n kn ke kr a w Q hvro hR hF hro h hQp hN hE hK; exact wpIn_ret (hK _ _ _ _ _ _ ⟨hR, hF, hro, Ex.refl _ _, Nle.refl _⟩ h)
 | seq x y ihx ihy =>
  intro σ fr hp n kn ke kr a w Q hvro hR hF hro h hQp hN hE hK
  have h : Zv ((Zaq P ctrs fn x).run bd rd vro fr hp n (fun fr hp n => (Zaq P ctrs fn y).run bd rd vro fr hp n kn ke kr) ke kr) φ := h
  refine wpIn_seq (ihx hvro hR hF hro h (fun c a w => hQp c a w) ?_ ?_ ?_)
  ·intro σ1 fr1 hp1 n1 a1 w1 hS h1
   exact ihy (ZG7 hvro hS) hS.rel hS.fr hS.ro h1 hQp (fun _ _ _ _ _ _ hS2 => hN _ _ _ _ _ _ (St.trans hS.ex hS.n hS2)) (fun _ _ _ _ _ _ _ hS2 => hE _ _ _ _ _ _ _ (St.trans hS.ex hS.n hS2)) (fun _ _ _ _ _ _ hS2 => hK _ _ _ _ _ _ (St.trans hS.ex hS.n hS2))
  ·exact fun i σ1 fr1 hp1 n1 a1 w1 hS h1 => hE _ _ _ _ _ _ _ hS h1
  ·exact fun σ1 fr1 hp1 n1 a1 w1 hS h1 => hK _ _ _ _ _ _ hS h1
 | cond x b1 b2 ih1 ih2 =>
  intro σ fr hp n kn ke kr a w Q hvro hR hF hro h hQp hN hE hK
  have h : Zv (ZnU ((Zfe x).run fr) (fun q => @Bool.rec (fun _ => Res) ((Zaq P ctrs fn b2).run bd rd vro fr hp n kn ke kr) ((Zaq P ctrs fn b1).run bd rd vro fr hp n kn ke kr) q) none) φ := h
  have hx := ZpV hF x
  rw [Yy hF.nj, Zkc] at h
  split at h
  ·rename_i b he
   rw [he] at hx; simp only [VR] at hx
   cases b
   ·exact wpIn_cond_false hx (ih2 hvro hR hF hro h hQp hN hE hK)
   ·exact wpIn_cond_true hx (ih1 hvro hR hF hro h hQp hN hE hK)
  ·exact h.no.elim
 | block id b ih =>
  intro σ fr hp n kn ke kr a w Q hvro hR hF hro h hQp hN hE hK
  have h : Zv ((Zaq P ctrs fn b).run bd rd vro fr hp n kn (fun i fr hp n => @Bool.rec (fun _ => Res) (ke i fr hp n) (kn fr hp n) (Nat.beq i id)) kr) φ := h
  refine wpIn_block (ih hvro hR hF hro h (fun c a w => hQp c a w) (fun _ _ _ _ _ _ hS h1 => hN _ _ _ _ _ _ hS h1) (fun i σ1 fr1 hp1 n1 a1 w1 hS h1 => ?_) (fun _ _ _ _ _ _ hS h1 => hK _ _ _ _ _ _ hS h1))
  show (if i = id then Q .normal a1 w1 else Q (.exit i) a1 w1)
  cases hb : Nat.beq i id
  ·rw [hb] at h1
   rw [if_neg (fun e => by rw [e, Nat.beq_refl] at hb; cases hb)]
   exact hE _ _ _ _ _ _ _ hS h1
  ·rw [hb] at h1
   rw [if_pos (nbq hb)]
   exact hN _ _ _ _ _ _ hS h1
 | loop b ih =>
  intro σ fr hp n kn ke kr a w Q hvro hR hF hro h hQp hN hE hK
  have h : Zv (Zzu (Zaq P ctrs fn b) bd rd vro kn ke kr Zis fr hp n) φ := h
  exact Zow (Zmr ih hQp Zis hvro hR hF hro h hE hK)
 | rangeFunc g ps assign body _ _ =>
  intro σ fr hp n kn ke kr a w Q hvro hR hF hro h hQp hN hE hK
  exact ZAH hC hvro hR hF hro h hN hE hK
 | region id ops draw =>
  intro σ fr hp n kn ke kr a w Q hvro hR hF hro h hQp hN hE hK
  have h : Zv ((ZmP P ctrs ops draw).run bd rd fr hp n kn) φ := h
  cases draw
  ·have h : Zv ((ZBy P ctrs ops.toList ops.toList).run bd rd fr hp n kn) φ := h
   rw [Zu6 _ hF.nj'] at h
   refine wpIn_region ?_
   have := ZeF (ro := ro) (Q := Q) hC ops.toList 0 (by simp) hR hF hro h hN
   rw [List.range_eq_range']; simpa using this
  ·unfold ZmP at h
   simp only at h
   cases hm : (bif P.follows .mixedOrders then (bif Region.noSelect ops then ZeI ops.toList else false) else false)
   ·rw [hm] at h; exact h.no.elim
   rw [hm] at h
   simp only at h
   obtain ⟨hm1, hm2⟩ := Yw hm
   obtain ⟨hns, hnd⟩ := Yw hm2
   obtain ⟨hfit, h3⟩ := h.bif
   rw [ZAx _ _ _ _ _ _ _ _ (Msk.zero ops.size) hF.nj'] at h3
   have hfit := ZJA hfit
   have hlim := hR.lim
   have hn1 : Nle n (n + ZaS ops.toList) /\ idN (n + ZaS ops.toList) = idN n + ZaS ops.toList := by unfold Nle idN Yx at *; omega
   refine wpIn_region_any hm1 (Zbf _ _ _ _ (Zc6 hC hns (ZlM hnd) hQp _ _ [] [] σ hp (n + ZaS ops.toList) fr (fun _ => False) [] ops.size a _ ((hR.weak (fun _ => .inl rfl) hn1.1).drew _) hF hro ?_ ?_ (fun _ h => h.elim) (fun s hs => nomatch hs) (fun s hs => nomatch hs) ?_ h3 ?_))
   ·refine ⟨by rw [hn1.2]; exact ZJd _, fun j o hj _ ha => hR.fresh _ (Nat.le_add_right _ _) ?_, fun j i hm => (nomatch hm), fun j i hm => (nomatch hm), fun j i j' i' hm => (nomatch hm)⟩
    have := ZdL (l := ops.toList) (j := j) (by rw [ZJc]; exact hj) ha
    omega
   ·intro j o hj hl
    have hlt : j < ops.size := (Array.getElem?_eq_some_iff.1 hj).1
    simp [hlt] at hl
   ·unfold left
    exact Nat.le_trans List.countP_le_length (by simp)
   ·intro σ' fr' hp' n' a' w' r1 r2 r3 r4 r5 r6 r7
    refine hN _ _ _ _ _ _ ⟨r1, r2, r3, ⟨r4, fun i hi => r5 i (by rw [hn1.1.2]; exact hi)⟩, hn1.1.trans r6⟩ r7
 | _ =>
  intro σ fr hp n kn ke kr a w Q hvro hR hF hro h hQp hN hE hK
  exact h.no.elim
end
end Go.Cx
namespace Go.Cx
open Go.RowKit (Below)
section
variable {P : Program} {w0 : World} {φ : Out -> Prop} {ctrs : List (Nat × Option Cn)} {bd rd : Nat -> Cn} {ro : Option Nat}
/-! ### Frames that are entered -/
def Zc8 : List Value -> Nat -> Array Value -> Array Value
 | [], _, t => t
 | v :: l, i, t => Zc8 l (i + 1) (t.setIfInBounds i v)
theorem ZAM {σ : Sg} {ds : List Deferred} : ∀ {args : List CV} {xs : List Value} {i : Nat} {fr : F} {t : Array Value}, VRs σ args xs -> FrR σ fr { tmps := t, defers := ds } -> FrR σ (ZyW args i fr) { tmps := Zc8 xs i t, defers := ds }
 | [], xs, i, fr, t, hx, h => by simp only [VRs] at hx; subst hx; exact h
 | c :: args, xs, i, fr, t, hx, h => by
  simp only [VRs] at hx; obtain ⟨v, ws, rfl, h1, h2⟩ := hx
  show FrR σ (ZyW args (i + 1) (Zml fr i c)) { tmps := Zc8 ws (i + 1) (t.setIfInBounds i v), defers := ds }
  exact ZAM h2 (h.set h1)
theorem ZeX : ∀ (xs : List Value) (i : Nat) (t : Array Value), i + xs.length <= t.size -> (Zc8 xs i t).toList = t.toList.take i ++ xs ++ t.toList.drop (i + xs.length)
 | [], i, t, _ => by simp [Zc8]
 | v :: xs, i, t, h => by
  simp only [ZJH] at h
  unfold Zc8
  rw [ZeX xs (i + 1) _ (by simp; omega)]
  have e := list_seg_step t.toList i v xs (by simp; omega)
  simpa [Array.toList_setIfInBounds, Nat.add_assoc] using e
theorem FrR.start {σ : Sg} {args : List CV} {xs : List Value} (hx : VRs σ args xs) {m : Nat} (h : args.length + (m - args.length) <= 511) :
  FrR σ (ZyW args 0 (F0 (args.length + (m - args.length)))) { tmps := xs.toArray ++ Array.replicate (m - xs.toArray.size) undef, defers := [] } := by
 have hl := hx.len
 have h0 : FrR σ (F0 (args.length + (m - args.length))) { tmps := Array.replicate (args.length + (m - args.length)) undef, defers := [] } := by
  refine ⟨by simp [F0], by simpa using h, fun i v _ => ?_, ?_, fun i _ _ => ZnP _ _⟩
  ·rw [ZnP]; simp only [VR]
  ·unfold dfs; rw [ZnP]; rfl
 have h1 := ZAM hx h0 (i := 0)
 have e : Zc8 xs 0 (Array.replicate (args.length + (m - args.length)) undef) = xs.toArray ++ Array.replicate (m - xs.toArray.size) undef := by
  apply Array.ext'
  rw [ZeX _ _ _ (by simp; omega)]
  simp [hl]
 rw [e] at h1; exact h1
theorem Zx5 {σ : Sg} {ds : List Deferred} : ∀ {ps : List Nat} {args : List CV} {xs : List Value} {fr fr' : F} {t : Array Value}, VRs σ args xs -> FrR σ fr { tmps := t, defers := ds } -> ZrG ps args fr = some fr' →
  FrR σ fr' { tmps := (ps.zip xs).foldl (fun t (x : Nat × Value) => t.setIfInBounds x.1 x.2) t, defers := ds } /\ ps.length = xs.length /\ Zc9 fr' ZW = Zc9 fr ZW
 | [], [], xs, fr, fr', t, hx, h, hp => by simp only [VRs] at hx; subst hx; cases hp; exact ⟨h, rfl, rfl⟩
 | [], _ :: _, xs, fr, fr', t, hx, h, hp => by cases hp
 | _ :: _, [], xs, fr, fr', t, hx, h, hp => by cases hp
 | p :: ps, c :: args, xs, fr, fr', t, hx, h, hp => by
  simp only [VRs] at hx; obtain ⟨v, ws, rfl, h1, h2⟩ := hx
  unfold ZrG at hp
  obtain ⟨g1, g2, g3⟩ := Zx5 h2 (h.set (i := p) h1) hp
  refine ⟨by simpa using g1, by simp [g2], ?_⟩
  rw [g3, Zjq (by have := h.small; rw [h.sz]; exact this)]
/-! ### Leaving a body -/
theorem ZlK {dctrs : List (Nat × Cn)} {db : Nat -> Cn} (hD : DsOk P w0 dctrs db) {fn : Func} {a : Act} {l : List Out} {σ0 σ : Sg} {n0 : Nat} {fr : F} {hp : H} {n : Nat} {w : World} (hS : St w0 ro σ0 n0 σ fr hp n a w)
  (h : Zv (fin P dctrs db fn fr hp n) (· ∈ l)) : LeavesInM (FF none) 0 P fn a.tmps (fun e w' => ∃ v, e = .returned v /\ Ret w0 σ0 n0 l v w') a.defers .returning w := by
 unfold fin at h
 refine Zdv hD _ _ hS.fr.df hS.rel h (fun σ' hp' n' w' r1 r2 r3 r4 => ?_)
 have hF' := hS.fr.mono r2.1
 have hres : ∃ vs, Zkn P fr hp' fn.results.toList = some vs /\ (match vs with | [v] => (⟨v, hp', n'⟩ : Out) | vs => ⟨.tup vs, hp', n'⟩) ∈ l := by
  split at r4
  ·rename_i v hv
   obtain ⟨q, hq, hm⟩ := r4
   cases hq
   exact ⟨_, hv, hm _ (by simp)⟩
  ·rename_i vs hne hv
   obtain ⟨q, hq, hm⟩ := r4
   cases hq
   refine ⟨_, hv, ?_⟩
   have := hm ⟨.tup vs, hp', n'⟩ (by simp)
   match vs, hne, this with
   | [], _, h => exact h
   | [v], hne, _ => exact (hne v rfl).elim
   | _ :: _ :: _, _, h => exact h
  ·exact r4.no.elim
 obtain ⟨vs, hv, hm⟩ := hres
 obtain ⟨us, hu, hr⟩ := Zbk r1 hF' _ hv
 have hrun := Zgm hu
 refine ⟨_, hrun, _, rfl, ?_⟩
 have hx := hS.ex.trans hS.n r2
 have hn := hS.n.trans r3
 have hl := hr.len
 split
 ·rename_i h1
  match vs, us, hr, hl with
  | [c], [u], hr, _ =>
   simp only [VRs] at hr
   obtain ⟨v, ws, e, g1, g2⟩ := hr
   cases e
   exact ⟨_, _, hm, g1, r1, hx, hn⟩
  | [], us, _, hl => simp at hl h1; omega
  | [_], [], _, hl => simp at hl
  | [_], _ :: _ :: _, _, hl => simp at hl
  | _ :: _ :: _, us, _, hl => simp at hl h1; omega
 ·rename_i h1
  refine ⟨⟨.tup vs, hp', n'⟩, σ', ?_, ?_, r1, hx, hn⟩
  ·match vs, hm, hl with
   | [], hm, _ => exact hm
   | [_], _, hl => simp at hl h1; omega
   | _ :: _ :: _, hm, _ => exact hm
  ·simp only [VR]; exact ⟨us, hr, rfl⟩
/-! ### Functions -/
def ZlJ (P : Program) (fn : Func) (R : Ending -> World -> Prop) : Exit -> Act -> World -> Prop
 | .normal, a, w => LeavesInM (FF none) 0 P fn a.tmps R a.defers .returning w
 | .ret, a, w => LeavesInM (FF none) 0 P fn a.tmps R a.defers .returning w
 | _, _, _ => False
theorem Zna {fn : Func} {R : Ending -> World -> Prop} : ∀ e a w, ZlJ P fn R e a w -> bodyPostM (FF none) 0 P fn R e a w := by
 intro e a w h
 cases e <;> first | exact h | exact h.elim
theorem Yj {f : Nat} {fn : Func} {c : Code} {args : Array Value} {w : World} (hf : P.funcs[f]? = some fn) (hb : fn.body = some c) (hn : (!(fn.name == "runtime.NumGoroutine")) = true) : (callFunc f args).run P w = .ok (.enter f args) w := by
 have hne : fn.name ≠ "runtime.NumGoroutine" := by simpa using hn
 simp [callFunc, hf, hne, hb]
def ZAX (vs : List CV) (hp : H) (n : Nat) : Out := match vs with | [v] => ⟨v, hp, n⟩ | vs => ⟨.tup vs, hp, n⟩
theorem ZDV {r : Option (List CV)} {l : List Out} {hp : H} {n : Nat} (h : Zv (match r with | some [v] => some [⟨v, hp, n⟩] | some vs => some [⟨.tup vs, hp, n⟩] | none => none) (· ∈ l)) :
  ∃ vs, r = some vs /\ ZAX vs hp n ∈ l := by
 split at h
 ·rename_i v
  obtain ⟨q, hq, hm⟩ := h
  cases hq
  exact ⟨_, rfl, hm ⟨v, hp, n⟩ (by simp)⟩
 ·rename_i vs hne
  obtain ⟨q, hq, hm⟩ := h
  cases hq
  refine ⟨_, rfl, ?_⟩
  have := hm ⟨.tup vs, hp, n⟩ (by simp)
  match vs, hne, this with
  | [], _, h => exact h
  | [v], hne, _ => exact (hne v rfl).elim
  | _ :: _ :: _, _, h => exact h
 ·exact h.no.elim
theorem ZEm {fn : Func} {a : Act} {l : List Out} {σ0 σ' : Sg} {n0 : Nat} {hp' : H} {n' : Nat} {w' : World} {vs : List CV} {us : List Value} (hu : (fn.results.toList.mapM (ZDi a.tmps)).run P w' = .ok us w') (hr : VRs σ' vs us)
  (hm : ZAX vs hp' n' ∈ l) (r1 : Rel w0 σ' hp' n' w') (hx : Ex n0 σ0 σ') (hn : Nle n0 n') :
  ∃ v, (results fn a.tmps).run P w' = .ok v w' /\ Ret w0 σ0 n0 l v w' := by
 have hrun := Zgm hu
 refine ⟨_, hrun, ?_⟩
 have hl := hr.len
 split
 ·rename_i h1
  match vs, us, hr, hl with
  | [c], [u], hr, _ =>
   simp only [VRs] at hr
   obtain ⟨v, ws, e, g1, g2⟩ := hr
   cases e
   exact ⟨_, _, hm, g1, r1, hx, hn⟩
  | [], us, _, hl => simp at hl h1; omega
  | [_], [], _, hl => simp at hl
  | [_], _ :: _ :: _, _, hl => simp at hl
  | _ :: _ :: _, us, _, hl => simp at hl h1; omega
 ·rename_i h1
  refine ⟨⟨.tup vs, hp', n'⟩, σ', ?_, ?_, r1, hx, hn⟩
  ·match vs, hm, hl with
   | [], hm, _ => exact hm
   | [_], _, hl => simp at hl h1; omega
   | _ :: _ :: _, hm, _ => exact hm
  ·simp only [VR]; exact ⟨us, hr, rfl⟩
theorem Zh2 {fn : Func} {a : Act} {l : List Out} {σ0 σ : Sg} {n0 : Nat} {fr : F} {hp : H} {n : Nat} {w : World} (hS : St w0 ro σ0 n0 σ fr hp n a w) (h : Zv (ZFE P fn fr hp n) (· ∈ l)) :
  a.defers = [] /\ ∃ v, (results fn a.tmps).run P w = .ok v w /\ ∃ v', Ending.returned v = .returned v' /\ Ret w0 σ0 n0 l v' w := by
 unfold ZFE at h
 split at h
 ·exact h.no.elim
 ·rename_i hnt
  have hd := hS.fr.df
  have e : dfs fr = [] := by
   unfold dfs
   split
   ·rename_i l hl; exact absurd hl (hnt l)
   ·rfl
  rw [e] at hd
  unfold DfR at hd
  obtain ⟨vs, hv, hm⟩ := ZDV h
  obtain ⟨us, hu, hr⟩ := Zbk hS.rel hS.fr _ hv
  obtain ⟨v, h1, h2⟩ := ZEm hu hr hm hS.rel hS.ex hS.n
  exact ⟨hd, v, h1, v, rfl, h2⟩
def Zj5 (P : Program) (fn : Func) (R : Ending -> World -> Prop) : Exit -> Act -> World -> Prop
 | .normal, a, w => a.defers = [] /\ ∃ v, (results fn a.tmps).run P w = .ok v w /\ R (.returned v) w
 | .ret, a, w => a.defers = [] /\ ∃ v, (results fn a.tmps).run P w = .ok v w /\ R (.returned v) w
 | _, _, _ => False
theorem Znd {fn : Func} {R : Ending -> World -> Prop} : ∀ e a w, Zj5 P fn R e a w -> bodyPost P fn R e a w := by
 intro e a w h
 cases e <;> first | exact h | exact h.elim
theorem Zry (hC : CsOk P w0 ctrs bd rd) {dctrs : List (Nat × Cn)} {db : Nat -> Cn} (hD : DsOk P w0 dctrs db) {f : Nat} {fn : Func} {c : Code} {args : List CV} {xs : List Value} {σ : Sg} {hp : H} {n : Nat} {w : World} {l : List Out}
  (hf : P.funcs[f]? = some fn) (hb : fn.body = some c) (hsz : args.length + (fn.ntmps - args.length) <= 511) (hR : Rel w0 σ hp n w) (hx : VRs σ args xs)
  (h : (Zaq P ctrs f c).run bd rd none (ZyW args 0 (F0 (args.length + (fn.ntmps - args.length)))) hp n ((ZII P dctrs fn).run db) (fun _ _ _ _ => none) ((ZII P dctrs fn).run db) = some l) :
  CallsIn (FF none) 0 P f xs.toArray w (fun e w' => ∃ v, e = .returned v /\ Ret w0 σ n l v w') := by
 refine callsIn_of_wp_marks hf hb trivial (wpIn_mono (ZcL (ro := none) (vro := none) hC c (Q := ZlJ P fn _) (φ := (· ∈ l)) (.inl ⟨rfl, rfl⟩) hR (FrR.start hx hsz) (.inl rfl) ⟨l, h, fun o ho => ho⟩ (fun _ _ _ h => h.elim) ?_ ?_ ?_) Zna)
 ·exact fun σ' fr' hp' n' a' w' hS hk => ZlK hD hS (by rw [ZvM hS.fr.nj] at hk; exact hk)
 ·exact fun i σ' fr' hp' n' a' w' hS hk => hk.no.elim
 ·exact fun σ' fr' hp' n' a' w' hS hk => ZlK hD hS (by rw [ZvM hS.fr.nj] at hk; exact hk)
theorem Zmv (hC : CsOk P w0 ctrs bd rd) {db : Nat -> Cn} {f : Nat} {fn : Func} {c : Code} {args : List CV} {xs : List Value} {σ : Sg} {hp : H} {n : Nat} {w : World} {l : List Out}
  (hf : P.funcs[f]? = some fn) (hb : fn.body = some c) (hsz : args.length + (fn.ntmps - args.length) <= 511) (hR : Rel w0 σ hp n w) (hx : VRs σ args xs)
  (h : (Zaq P ctrs f c).run bd rd none (ZyW args 0 (F0 (args.length + (fn.ntmps - args.length)))) hp n ((Zvo P fn).run db) (fun _ _ _ _ => none) ((Zvo P fn).run db) = some l) :
  CallsDIn (FF none) 0 P f xs.toArray .returning w (fun e u' w' => u' = .returning /\ ∃ v, e = .returned v /\ Ret w0 σ n l v w') := by
 refine callsDIn_of_wp hf hb trivial (wpIn_mono (ZcL (ro := none) (vro := none) hC c (Q := Zj5 P fn (fun e w' => ∃ v, e = .returned v /\ Ret w0 σ n l v w')) (φ := (· ∈ l)) (.inl ⟨rfl, rfl⟩) hR (FrR.start hx hsz) (.inl rfl) ⟨l, h, fun o ho => ho⟩ (fun _ _ _ h => h.elim) ?_ ?_ ?_) Znd)
 ·exact fun σ' fr' hp' n' a' w' hS hk => Zh2 hS (by rw [ZpE hS.fr.nj] at hk; exact hk)
 ·exact fun i σ' fr' hp' n' a' w' hS hk => hk.no.elim
 ·exact fun σ' fr' hp' n' a' w' hS hk => Zh2 hS (by rw [ZpE hS.fr.nj] at hk; exact hk)
/-! ### Rounds -/
theorem Zew {l : Nat} {j : Option Code} {σ0 σ : Sg} {n0 : Nat} {hp : H} {n : Nat} {fr : F} {a : Act} {w : World} {os : List Out} {p t : Nat} (hS : St w0 ro σ0 n0 σ fr hp n a w) (hs : σ l = some (p, t)) (h : Zv (round.endR l j hp n) (· ∈ os)) :
  ∃ v w', (Instr.endRound p j).run P w = .ok v w' /\ ∃ v', Ending.returned v = .returned v' /\ Ret w0 σ0 n0 os v' w' := by
 unfold round.endR at h
 split at h
 ·rename_i fn fr' ps asq bo db st pe he
  obtain ⟨q, u, tm, g, h1, h2, h3, h4⟩ := hS.rel.at hs he (by simp)
  have hlt : p < w.heap.size := (Array.getElem?_eq_some_iff.1 h4).1
  obtain ⟨r, hr, hm⟩ := h
  cases hr
  have hR' : Rel w0 σ (YZ hp l (.loop fn fr' ps asq bo db (if j.isNone then 0 else 2) j)) n (w.putObj p (.loop { state := if j.isNone then .ready else .done, pending := j, fn := g, tmps := tm, params := ps.toArray, assign := asq, body := bo, defers := q })) := by
   refine hS.rel.upd hs (by rw [he]; simp) World.putObj_size (fun k hk => World.putObj_heap_other hk) rfl rfl rfl ⟨q, u, tm, g, h1, h2, h3, ?_⟩
   rw [World.putObj_heap_same hlt]
   cases j <;> rfl
  exact ⟨_, _, run_endRound j h4, _, rfl, ⟨.bool j.isNone, YZ hp l (.loop fn fr' ps asq bo db (if j.isNone then 0 else 2) j), n⟩, σ, hm _ (by simp), by simp only [VR], hR', hS.ex, hS.n⟩
 ·exact h.no.elim
theorem Znh (hC : CsOk P w0 ctrs bd rd) {l : Nat} {args : List CV} {xs : List Value} {σ : Sg} {hp : H} {n : Nat} {w : World} {os : List Out} {p t : Nat} (hR : Rel w0 σ hp n w) (hx : VRs σ args xs) (hs : σ l = some (p, t)) (h : ZoL P ctrs bd rd l args hp n = some os) :
  ∃ f tm asq bo, (Instr.yield p xs.toArray).run P w = .ok (.round p f tm asq bo) w /\ RoundIn (FF none) 0 P p f tm asq bo w (fun e w' => ∃ v, e = .returned v /\ Ret w0 σ n os v w') := by
 unfold ZoL at h
 split at h
 ·rename_i fn fr ps assign body db st pend he
  obtain ⟨q, u, tm, g, h1, h2, h3, h4⟩ := hR.at hs he (by simp)
  have hg : Zv (bif Nat.beq st 0 then (match ZrG ps args (ZrM fr ZW .nili) with
   | some fr => (Zaq P ctrs fn assign).run bd rd (some l) fr hp n (fun fr1 hp n => match ZL hp l with
    | .loop fn0 fr0 ps0 a0 b0 db0 st0 pend0 => bif Nat.beq st0 0 then (Zaq P ctrs fn body).run bd rd (some l) fr1 (YZ hp l (.loop fn0 fr0 ps0 a0 b0 db0 1 pend0)) n
      (fun _ hp n => round.endR l none hp n) (fun i _ hp n => round.endR l (some (.exit i)) hp n) (fun _ hp n => round.endR l (some .ret) hp n) else none
    | _ => none) (fun _ _ _ _ => none) (fun _ _ _ => none)
   | none => none) else none) (· ∈ os) := ⟨os, h, fun o ho => ho⟩
  obtain ⟨_, hg⟩ := hg.bif
  split at hg
  ·rename_i fr' hfr'
   have hF0 : FrR σ (ZrM fr ZW .nili) { tmps := tm, defers := [] } := by
    refine ⟨by rw [Zlu]; exact h2.1, h2.2.1, fun i v hv => ?_, ?_, fun i h1 h3 => by
     rw [Y8 _ _ _ _ (by decide) (by omega), if_neg (by unfold ZW; omega)]
     exact h2.2.2 i (by rw [Zlu] at h1; exact h1) h3⟩
    ·have : i < tm.size := (Array.getElem?_eq_some_iff.1 hv).1
     have h22 := h2.2.1
     rw [Y8 _ _ _ _ (by decide) (by omega), if_neg (by unfold ZW; omega)]
     exact h3 i v hv
    ·unfold dfs; rw [Y8 _ _ _ _ (by decide) (by decide), if_pos rfl]; rfl
   obtain ⟨g1, g2, g3⟩ := Zx5 hx hF0 hfr'
   rw [Y8 _ _ _ _ (by decide) (by decide), if_pos rfl] at g3
   refine ⟨_, _, _, _, run_yield h4 (by simp [g2]), roundIn_of_wpIn (F := FF none) trivial ?_⟩
   have e : (ps.toArray.zip xs.toArray).foldl (fun tmps (x : Nat × Value) => tmps.setIfInBounds x.1 x.2) tm = (ps.zip xs).foldl (fun t (x : Nat × Value) => t.setIfInBounds x.1 x.2) tm := by
    rw [<- Array.foldl_toList]; simp
   have hass := (ZcL (ro := some p) (vro := some l) hC assign (φ := (· ∈ os))
    (Q := Exit.then (fun a₁ w₁ => ∃ w₂, (Instr.beginRound p).run P w₁ = .ok () w₂ /\ body.wpIn (FF (some p)) 0 P (roundPost P p (fun e w' => ∃ v, e = .returned v /\ Ret w0 σ n os v w')) a₁ w₂) (fun _ _ _ => False))
    (.inr ⟨l, p, t, rfl, rfl, hs⟩) hR g1 (.inr g3) hg (fun _ _ _ h => h) ?_ ?_ ?_)
   ·have hh : ({ FF none with round := some p } : Fence) = FF (some p) := rfl
    show assign.wpIn (FF (some p)) 0 P _ { tmps := (ps.toArray.zip xs.toArray).foldl (fun tmps (x : Nat × Value) => tmps.setIfInBounds x.1 x.2) tm, defers := [] } w
    rw [e]
    exact hass
   ·intro σ1 fr1 hp1 n1 a1 w1 hS hk
    split at hk
    ·rename_i fn0 fr0 ps0 a0 b0 db0 st0 pend0 he1
     obtain ⟨c1, hk⟩ := hk.bif
     have c1 := nbq c1
     subst c1
     have hs1 := hS.ex.1 _ _ hs
     obtain ⟨q', u', tm', g', k1, k2, k3, k4⟩ := hS.rel.at hs1 he1 (by simp)
     have hlt : p < w1.heap.size := (Array.getElem?_eq_some_iff.1 k4).1
     refine ⟨_, run_beginRound k4 rfl, ?_⟩
     have hR1 := hS.rel.upd hs1 (by rw [he1]; simp) (w' := w1.putObj p (.loop { state := .busy, pending := pend0, fn := g', tmps := tm', params := ps0.toArray, assign := a0, body := b0, defers := q' })) World.putObj_size (fun k hk => World.putObj_heap_other hk) rfl rfl rfl
      (c := .loop fn0 fr0 ps0 a0 b0 db0 1 pend0) ⟨q', u', tm', g', k1, k2, k3, World.putObj_heap_same hlt⟩
     refine ZcL (ro := some p) (vro := some l) hC body (φ := (· ∈ os)) (.inr ⟨l, p, t, rfl, rfl, hs1⟩) hR1 hS.fr hS.ro hk (fun _ _ _ h => h) ?_ ?_ ?_
     ·exact fun σ2 fr2 hp2 n2 a2 w2 hS2 hk2 => Zew (St.trans hS.ex hS.n hS2) (hS2.ex.1 _ _ hs1) hk2
     ·exact fun i σ2 fr2 hp2 n2 a2 w2 hS2 hk2 => Zew (St.trans hS.ex hS.n hS2) (hS2.ex.1 _ _ hs1) hk2
     ·exact fun σ2 fr2 hp2 n2 a2 w2 hS2 hk2 => Zew (St.trans hS.ex hS.n hS2) (hS2.ex.1 _ _ hs1) hk2
    ·exact hk.no.elim
   ·exact fun i σ' fr' hp' n' a' w' hS hk => hk.no.elim
   ·exact fun σ' fr' hp' n' a' w' hS hk => hk.no.elim
  ·exact hg.no.elim
 ·cases h
/-! ### All of it -/
structure GoOk (P : Program) (w0 : World) (ctrs : List (Nat × Option Cn)) (dctrs : List (Nat × Cn)) (g : Nat -> Rn) : Prop where
 cs : CsOk P w0 ctrs (g 0) (g 1)
 ds : DsOk P w0 dctrs (g 2)
theorem ZlW {dctrs : List (Nat × Cn)} {m f : Nat} {db : Rn} {args : List CV} {hp : H} {n : Nat} {l : List Out} (h : (ZFR P ctrs dctrs m f).run bd rd db args hp n = some l) :
  ∃ fn c, P.funcs[f]? = some fn /\ fn.body = some c /\ (!(fn.name == "runtime.NumGoroutine")) = true /\ args.length + (fn.ntmps - args.length) <= 511 ∧
   (Zaq P ctrs f c).run bd rd none (ZyW args 0 (F0 (args.length + (fn.ntmps - args.length)))) hp n ((sEnd P dctrs m fn).run db) (fun _ _ _ _ => none) ((sEnd P dctrs m fn).run db) = some l := by
 unfold ZFR at h
 split at h
 ·cases h
 ·rename_i fn hfn
  rw [Zjx, ZJc] at hfn
  split at h
  ·cases h
  ·rename_i c hb
   split at h
   ·rename_i hc
    obtain ⟨c1, c4⟩ := Yw hc
    have c1 := ZJA c1
    simp only [ZvW] at h
    obtain ⟨c3, h⟩ := Zbt h
    rw [Znr] at c3
    have c3 := ZJA c3
    rw [Zw3, Znr] at h
    exact ⟨fn, c, hfn, hb, c4, by omega, h⟩
   ·cases h
theorem ZlU {dctrs : List (Nat × Cn)} (hK : ∀ f c, ZS ctrs f = some (some c) -> Zc3 P w0 f c) (hD : ∀ f c, ZS dctrs f = some c -> Zf4 P w0 f c) : ∀ fuel, GoOk P w0 ctrs dctrs (goS P ctrs dctrs fuel)
 | 0 => ⟨⟨hK, fun f args hp n σ w xs l _ _ h => (by cases h), fun f args hp n σ w xs os p t _ _ _ h => (by cases h)⟩, ⟨hD, fun f args hp n σ w xs l _ _ h => (by cases h)⟩⟩
 | fuel + 1 => by
  have ih := ZlU hK hD fuel
  refine ⟨⟨hK, fun f args hp n σ w xs l hR hx h => ?_, fun f args hp n σ w xs os p t hR hx hs h => ?_⟩, ⟨hD, fun f args hp n σ w xs l hR hx h => ?_⟩⟩
  ·have h : (ZFR P ctrs dctrs 0 f).run (goS P ctrs dctrs fuel 0) (goS P ctrs dctrs fuel 1) (goS P ctrs dctrs fuel 2) args hp n = some l := h
   obtain ⟨fn, c, hf, hb, hn, hsz, h⟩ := ZlW h
   exact ⟨Yj hf hb hn, Zry ih.cs ih.ds hf hb hsz hR hx h⟩
  ·have h : ZoL P ctrs (goS P ctrs dctrs fuel 0) (goS P ctrs dctrs fuel 1) f args hp n = some os := h
   exact Znh ih.cs hR hx hs h
  ·have h : (ZFR P ctrs dctrs 2 f).run (goS P ctrs dctrs fuel 0) (goS P ctrs dctrs fuel 1) (goS P ctrs dctrs fuel 2) args hp n = some l := h
   obtain ⟨fn, c, hf, hb, hn, hsz, h⟩ := ZlW h
   exact ⟨Yj hf hb hn, Zmv ih.cs hf hb hsz hR hx h⟩
theorem rel0 (w : World) : Rel w (fun _ => none) H0 N0 w := by
 obtain ⟨e1, e2⟩ := ZvE (lim := 32767) (id := 0) (by omega)
 refine ⟨fun i _ h => absurd (ZCr i) h, fun i j p t q u _ _ _ _ _ h => (by cases h), fun i p t h => (by cases h), fun _ _ _ => rfl, ?_, Below.refl _ _⟩
 show Yx (mkN 32767 0) <= 32768
 rw [e2]; omega
theorem Zwo {dctrs : List (Nat × Cn)} (hK : ∀ w0 f c, ZS ctrs f = some (some c) -> Zc3 P w0 f c) (hD : ∀ w0 f c, ZS dctrs f = some c -> Zf4 P w0 f c) {fuel f : Nat} (h : yes (goS P ctrs dctrs fuel 0 f [] H0 N0) = true) (w : World) :
  Calls P f #[] w fun e w' => e = .returned (.bool true) /\ Below w.heap.size w w' := by
 unfold yes at h
 split at h
 ·rename_i o ho
  have := ((ZlU (P := P) (w0 := w) (hK w) (hD w) fuel).cs.bd f [] H0 N0 _ w [] [o] (rel0 w) rfl ho).2
  refine (callsIn_wide.1 (show CallsIn Fence.wide 0 P f #[] w _ from this)).mono ?_
  rintro e w' ⟨v, rfl, o', σ', hm, hv, hR, _⟩
  rw [ZJg] at hm
  subst hm
  split at h
  ·rename_i b hb
   rw [hb] at hv
   simp only [VR] at hv
   subst hv; subst h
   exact ⟨rfl, hR.below⟩
  ·cases h
 ·cases h
end
end Go.Cx
namespace Go.Cx
open Go.RowKit (Below)
/-! ### maps.clone -/
/-! ### internal/bytealg.Compare -/
def ZkG : Nat -> Nat -> Nat -> Nat -> Int
 | 0, 0, _, _ => 0
 | 0, _ + 1, _, _ => -1
 | _ + 1, 0, _, _ => 1
 | l + 1, m + 1, x, y => bif Nat.blt (x % 256) (y % 256) then -1 else bif Nat.blt (y % 256) (x % 256) then 1 else ZkG l m (x / 256) (y / 256)
section
variable {P : Program} {w0 : World}
theorem ZAT {a b : Nat} (h : a < b) : Nat.blt a b = true := by simpa [Nat.blt_eq] using h
theorem Zr0 {a b : Nat} (h : Nat.blt a b = true) : a < b := by simpa [Nat.blt_eq] using h
theorem Zda : ∀ (l m x y : Nat), ZkG l m x y = Lib.compareBytes (bys l x) (bys m y)
 | 0, 0, _, _ => rfl
 | 0, _ + 1, _, _ => rfl
 | _ + 1, 0, _, _ => rfl
 | l + 1, m + 1, x, y => by
  simp only [ZkG, bys, Lib.compareBytes, Zda l m (x / 256) (y / 256)]
  have key : ∀ a b : Nat, a < 256 -> b < 256 -> (UInt8.ofNat a < UInt8.ofNat b ↔ a < b) := fun a b ha hb => by
   rw [UInt8.lt_iff_toNat_lt, Ze3 a ha, Ze3 b hb]
  have k1 := key (x % 256) (y % 256) (Nat.mod_lt _ (by decide)) (Nat.mod_lt _ (by decide))
  have k2 := key (y % 256) (x % 256) (Nat.mod_lt _ (by decide)) (Nat.mod_lt _ (by decide))
  cases h1 : Nat.blt (x % 256) (y % 256)
  ·have : ¬ x % 256 < y % 256 := fun e => by have := ZAT e; rw [h1] at this; cases this
   rw [if_neg (fun e => this (k1.1 e))]
   cases h2 : Nat.blt (y % 256) (x % 256)
   ·have : ¬ y % 256 < x % 256 := fun e => by have := ZAT e; rw [h2] at this; cases this
    rw [if_neg (fun e => this (k2.1 e))]; rfl
   ·rw [if_pos (k2.2 (Zr0 h2))]; rfl
  ·rw [if_pos (k1.2 (Zr0 h1))]; rfl
end
end Go.Cx
namespace Go.Cx
open Go.RowKit (Below)
open Go.ChangeShapes Go.WideShapes
section
variable {P : Program}
def Zi0 (P : Program) (l : List (Nat × Option Cn)) : Prop := ∀ w0 f c, ZS l f = some (some c) -> Zc3 P w0 f c
def ZhK (P : Program) (l : List (Nat × Cn)) : Prop := ∀ w0 f c, ZS l f = some c -> Zf4 P w0 f c
theorem Zi0.nil : Zi0 P [] := fun _ _ _ h => (by cases h)
theorem ZhK.nil : ZhK P [] := fun _ _ _ h => (by cases h)
theorem Zi0.none {f : Nat} {l : List (Nat × Option Cn)} (h : Zi0 P l) : Zi0 P ((f, .none) :: l) := by
 intro w0 g c hc
 unfold ZS at hc
 cases hb : Nat.beq f g
 ·rw [hb] at hc; exact h w0 g c hc
 ·rw [hb] at hc; cases hc
theorem Zi0.cons {f : Nat} {c : Cn} {l : List (Nat × Option Cn)} (h0 : ∀ w0, Zc3 P w0 f c) (h : Zi0 P l) : Zi0 P ((f, some c) :: l) := by
 intro w0 g c' hc
 unfold ZS at hc
 cases hb : Nat.beq f g
 ·rw [hb] at hc; exact h w0 g c' hc
 ·rw [hb] at hc; cases hc; rw [<- nbq hb]; exact h0 w0
theorem ZhK.cons {f : Nat} {c : Cn} {l : List (Nat × Cn)} (h0 : ∀ w0, Zf4 P w0 f c) (h : ZhK P l) : ZhK P ((f, c) :: l) := by
 intro w0 g c' hc
 unfold ZS at hc
 cases hb : Nat.beq f g
 ·rw [hb] at hc; exact h w0 g c' hc
 ·rw [hb] at hc; cases hc; rw [<- nbq hb]; exact h0 w0
end
theorem Zet {H : Type} {enc : TypeId × Value -> H} {P : Program} {f : Func} {s : ChangeSpec} {apart fresh handsOn again : Bool} {W W' : World} {args : Array Value} {v : Value} {ds gs : List (DataW H)} {before pa pv : List MemPlace}
  (hW : DataW.Whole enc P f.params.toList s.vars apart W args.toList ds gs before)
  (hres : ∀ (b : Nat) (sp : Nat -> Bool) (hd : Bool), DataW.TrodAll enc P W' b sp hd f.resultTypes.toList (v.resultList f.resultTypes.size) (s.fn H (ds ++ gs)).results [])
  (hargs : ∀ sp : Nat -> Bool, (∀ p ∈ before, sp p.block = true) -> DataW.TrodAll enc P W' 0 sp true f.params.toList args.toList (s.fn H (ds ++ gs)).args pa)
  (hvars : ∀ sp : Nat -> Bool, (∀ p ∈ before, sp p.block = true) -> DataW.TrodVars enc P W' sp s.vars (s.fn H (ds ++ gs)).vars pv)
  (hps : before = pa ++ pv) (hb : Below W.heap.size W W')
  (hok : ∀ (j : Nat) (t : TypeId) (r : Value), f.resultTypes[j]? = some t -> (v.resultList f.resultTypes.size)[j]? = some r -> Value.okWide P W' .any 0 t r) :
  s.post enc P f apart fresh handsOn again W args v W' := by
 have hlt := fun p (hp : p ∈ before) => hW.lt p hp
 have hold : ∀ p ∈ before, (fun b => decide (b < W.heap.size)) p.block = true := fun p hp => by simpa using hlt p hp
 refine ⟨ds, gs, before, [], pa, pv, hW, hres _ _ _, hargs _ hold, hvars _ hold, World.keptBut_mono (fun p hp => ⟨hp, ?_⟩) (hb.frame (· ∈ before)), fun _ => ?_⟩
 ·rw [hps, List.mem_append] at hp; exact Or.inr hp
 ·obtain ⟨_, _, _, _, _, hz, hn⟩ := hW
  refine ⟨hok, _, _, ([] ++ pa) ++ pv, ⟨[] ++ pa, pv, trodAll_append (hargs _ (fun _ _ => rfl)) (hres _ _ _), hvars _ (fun _ _ => rfl), rfl, fun b off hp => ?_, fun ha => ?_⟩, fun p hp _ => ?_⟩
  ·have hp' : MemPlace.cell b off ∈ before := by rw [hps]; simpa using hp
   have h1 := hlt _ hp'
   rw [hb.frozen (p := ⟨b, off, none⟩) h1]
   exact hz b off hp'
  ·have := hn ha
   rw [hps] at this
   simpa using this
  ·rw [hps]; simpa using hp
end Go.Cx
namespace Go.Proofs.YtlmkcakhhbckhaaGreatDoor
open Go.Cx
open Go.RowKit
/-! ### IndexByteString -/
def ZBQ : Nat -> Nat -> Nat -> Int
 | 0, _, _ => -1
 | l + 1, n, c => bif Nat.beq (n % 256) c then 0 else (match ZBQ l (n / 256) c with | .ofNat m => .ofNat (m + 1) | .negSucc m => .negSucc m)
noncomputable def ibsC : Cn := fun args hp n => match args with
 | [.str l x, .int k (.ofNat c)] => bif Nat.beq k 4 then (bif Nat.blt c 256 then some [⟨.int 3 (ZBQ l x c), hp, n⟩] else none) else none
 | _ => none
theorem ZyF : ∀ (l n c : Nat), c < 256 -> ZBQ l n c = Lib.indexByte (bys l n) (UInt8.ofNat c) /\ (ZBQ l n c = -1 \/ 0 <= ZBQ l n c)
 | 0, _, _, _ => ⟨rfl, .inl rfl⟩
 | l + 1, n, c, hc => by
  obtain ⟨ih, ih2⟩ := ZyF l (n / 256) c hc
  have key : (UInt8.ofNat (n % 256) == UInt8.ofNat c) = Nat.beq (n % 256) c := by
   have h1 : (UInt8.ofNat (n % 256)).toNat = n % 256 := Ze3 _ (Nat.mod_lt _ (by decide))
   have h2 : (UInt8.ofNat c).toNat = c := Ze3 _ hc
   cases hq : Nat.beq (n % 256) c
   ·have hne : n % 256 ≠ c := fun e => by rw [e] at hq; simp at hq
    rw [beq_eq_false_iff_ne]
    intro e
    exact hne (by rw [<- h1, <- h2, e])
   ·have := ZJo hq
    rw [this]; simp
  simp only [ZBQ, bys, Lib.indexByte, key]
  cases hq : Nat.beq (n % 256) c
  ·simp only [cond_false, Bool.false_eq_true, if_false]
   rw [<- ih]
   cases hr : ZBQ l (n / 256) c with
   | ofNat m =>
    have : ((Int.ofNat m) == (-1 : Int)) = false := by rw [beq_eq_false_iff_ne]; intro e; cases e
    simp only [this, Bool.false_eq_true, if_false]
    exact ⟨rfl, .inr (Int.natCast_nonneg _)⟩
   | negSucc m =>
    rw [hr] at ih2
    have hm : m = 0 := by
     rcases ih2 with e | e
     ·exact Int.negSucc.inj e
     ·exact absurd e (by simp)
    subst hm
    exact ⟨rfl, .inl rfl⟩
  ·simp only [cond_true, if_true]
   exact ⟨trivial, .inr (ZJy _)⟩
theorem ZH3 {P : Program} {w0 : World} {f : Nat} {fn : Func} (hf : P.funcs[f]? = some fn) (hname : (fn.name == "runtime.NumGoroutine") = false)
  (hb : fn.body.isNone = true) (hn : Extern.findNext fn = none) (he : Extern.find fn = some Extern.BytealgIndexByte.indexByte) : Zc3 P w0 f ibsC := by
 intro args hp n σ w xs l hR hx h
 left
 unfold ibsC at h
 split at h
 ·rename_i l' x k c
  obtain ⟨q1, g1⟩ := Zbt h
  obtain ⟨q2, g2⟩ := Zbt g1
  clear h g1
  have h2 : c < 256 := Zr0 q2
  cases g2
  have h1 := ZJo q1
  subst h1
  simp only [VRs, VR] at hx
  obtain ⟨v, ws, rfl, rfl, v2, ws2, rfl, rfl, rfl⟩ := hx
  refine ⟨.int .i64 (ZBQ l' x c), w, ?_, _, σ, List.mem_singleton.2 rfl, ?_, hR, Ex.refl _ _, Nle.refl _⟩
  ·rw [run_callFunc_extern hf hname hb hn he]
   have := run_indexByte_string (P := P) ⟨(bys l' x).toArray⟩ (Int.ofNat c) w
   rw [Lib.firstIdx_eq] at this
   have e : (Int.ofNat c).toNat.toUInt8 = UInt8.ofNat c := rfl
   rw [e] at this
   rw [show [Value.string ⟨(bys l' x).toArray⟩, .int (kc 4) (Int.ofNat c)].toArray = #[.string ⟨(bys l' x).toArray⟩, .int .u8 (Int.ofNat c)] from rfl, this, (ZyF l' x c h2).1]
   rfl
  ·simp only [VR]; rfl
 ·cases h
/-! ### copyCheck -/
noncomputable def chkC : Cn := fun args hp n => match args with
 | [.ptr b 0] => (match ZL hp b with
  | .tcells (.nilp :: rest) => bif Nat.beq rest.length 1 then some [⟨.tup [], YZ hp b (.tcells (.ptr b 0 :: rest)), n⟩] else none
  | .tcells (.ptr c o :: _) => bif (bif Nat.beq c b then Nat.beq o 0 else false) then some [⟨.tup [], hp, n⟩] else none
  | _ => none)
 | _ => none
theorem Zsj : (Tryz.prog.info? 66).map (·.size) = some 2 := by kernel_rfl
theorem ZB5 : liesAt Tryz.prog Tryz.prog.depth 66 (2 / Tryz.prog.cellsOf 66) 0 66 1 = true := by kernel_rfl
set_option maxHeartbeats 1000000 in
set_option maxRecDepth 100000 in
theorem Zzi (b : Nat) (w : World) (h0 : w.cell? ⟨b, 0, none⟩ = some (.pointer (some ⟨b, 0, none⟩))) :
  Calls Tryz.prog 79 #[.pointer (some ⟨b, 0, none⟩)] w fun e w' => e = .returned (.tuple #[]) /\ w' = w := by
 obtain ⟨j, hj, _⟩ := Option.map_eq_some_iff.1 Zsj
 go_enter Tryz.func79, Tryz.ntmps79
 go_wp2
 rw [Lib.run_neq_ptr_same w _ Tryz.underlying64 hj]
 go_wp2
 go_end0
 exact ⟨rfl, rfl⟩
set_option maxHeartbeats 1000000 in
set_option maxRecDepth 100000 in
theorem Zst (b : Nat) (w : World) (h0 : w.cell? ⟨b, 0, none⟩ = some (.pointer none)) (hsh : w.shape? b = some (66, 2)) (hfz : w.frozen? ⟨b, 0, none⟩ = false) :
  Calls Tryz.prog 79 #[.pointer (some ⟨b, 0, none⟩)] w fun e w' => e = .returned (.tuple #[]) /\ w' = w.setCell ⟨b, 0, none⟩ (.pointer (some ⟨b, 0, none⟩)) := by
 obtain ⟨j, hj, hjs⟩ := Option.map_eq_some_iff.1 Zsj
 go_enter Tryz.func79, Tryz.ntmps79
 go_wp2
 rw [Lib.run_to_unsafe w ⟨b, 0, none⟩ Tryz.underlying64 Tryz.underlying130 hj (by rw [hjs]; decide) hsh (Nat.zero_lt_succ 1)]
 simp only [Result.andThen]
 rw [Oper.upon_value]
 go_wp2
 rw [run_callFunc_extern Tryz.func96 (by kernel_rfl) (by kernel_rfl) (by kernel_rfl) (e := Extern.AbiNoEscape.same) (by kernel_rfl)]
 rw [Lib.run_noEscape]
 simp only [Result.andThen]
 rw [Oper.upon_value]
 go_wp2
 rw [Lib.run_from_unsafe w ⟨b, 0, none⟩ Tryz.underlying130 Tryz.underlying64 hj hsh ZB5]
 simp only [Result.andThen]
 rw [Oper.upon_value]
 go_wp2
 go_end0
 exact ⟨rfl, rfl⟩
theorem Zi9 (w : World) (a : Addr) (v : Value) (k : Nat) (h : k ≠ a.block) : (w.setCell a v).heap[k]? = w.heap[k]? := by
 unfold World.setCell
 simp only [Array.getElem?_modify]
 rw [if_neg (fun e => h e.symm)]
theorem Zmt {w : World} {b ty : Nat} {arr : Array Value} {z : Nat × Nat} (v : Value) (h : w.heap[b]? = some (.cells arr ty z)) :
  (w.setCell ⟨b, 0, none⟩ v).heap[b]? = some (.cells (arr.setIfInBounds 0 v) ty z) := by
 have := setCell_eq_setRow w b 0 arr ty z v h
 rw [this]
 exact setRow_heap w b arr _ ty z h
theorem ZAh (w0 : World) : Zc3 Tryz.prog w0 79 chkC := by
 intro args hp n σ w xs l hR hx h
 refine .inr ⟨Yj Tryz.func79 rfl (by kernel_rfl), ?_⟩
 unfold chkC at h
 split at h
 ·rename_i b
  simp only [VRs, VR] at hx
  obtain ⟨v, ws, rfl, ⟨p, t, hs, rfl⟩, rfl⟩ := hx
  split at h
  ·rename_i rest hc
   obtain ⟨q1, g1⟩ := Zbt h
   clear h
   cases g1
   have q1 := ZJo q1
   obtain ⟨vs, h1, h2, ⟨arr, z, hT⟩, hlen⟩ := hR.at hs hc (by simp)
   simp only [VRs, VR] at h1
   obtain ⟨v0, ws, rfl, rfl, h3⟩ := h1
   have h2' := h2
   obtain ⟨arr', ty, lo, hi, e1, e2, ⟨sp, e3⟩, e4⟩ := h2'
   rw [hT] at e1; cases e1
   have hc0 := h2.cell (i := 0) rfl
   have hsz : arr.size = 2 := by rw [e2, <- hlen]; simp [q1]
   have hsh : w.shape? p = some (66, 2) := by simp only [World.shape?, hT, hsz]; rfl
   refine (callsIn_wide (n := 0)).2 (Calls.mono (Zst p w hc0.1 hsh hc0.2.1) ?_)
   rintro e w' ⟨rfl, rfl⟩
   refine ⟨_, rfl, _, σ, List.mem_singleton.2 rfl, by simp only [VR]; exact ⟨[], rfl, rfl⟩, ?_, Ex.refl _ _, Nle.refl _⟩
   have hrow := Zmt (.pointer (some ⟨p, 0, none⟩)) hT
   refine hR.upd hs (by rw [hc]; simp) (by unfold World.setCell; simp) (fun k hk => Zi9 _ _ _ k hk) rfl rfl rfl ⟨.pointer (some ⟨p, 0, none⟩) :: ws, ?_, ⟨_, _, _, _, hrow, by simpa using e2, ⟨sp, ?_⟩, e4⟩, ⟨_, _, hrow⟩, hlen⟩
   ·simp only [VRs, VR]; exact ⟨_, _, rfl, ⟨p, t, hs, rfl⟩, h3⟩
   ·rw [Array.toList_setIfInBounds, e3]; rfl
  ·rename_i c o rest hc
   obtain ⟨q1, g1⟩ := Zbt h
   clear h
   cases g1
   obtain ⟨q1, q2⟩ := Yw q1
   have q1 := nbq q1; have q2 := nbq q2
   subst q1; subst q2
   obtain ⟨vs, h1, h2, _, _⟩ := hR.at hs hc (by simp)
   simp only [VRs, VR] at h1
   obtain ⟨v0, ws, rfl, ⟨p', t', hs', rfl⟩, h3⟩ := h1
   rw [hs] at hs'; cases hs'
   have hc0 := h2.cell (i := 0) rfl
   refine (callsIn_wide (n := 0)).2 (Calls.mono (Zzi p w hc0.1) ?_)
   rintro e w' ⟨rfl, rfl⟩
   exact ⟨_, rfl, _, σ, List.mem_singleton.2 rfl, by simp only [VR]; exact ⟨[], rfl, rfl⟩, hR, Ex.refl _ _, Nle.refl _⟩
  ·cases h
 ·cases h
/-! ### String -/
noncomputable def strC : Cn := fun args hp n => match args with
 | [.ptr b 0] => (match ZL hp b with
  | .tcells [_, .slice j 0 1 (l + 1) (k + 1) ex] => (match ZL hp j with
   | .bytes m x => bif (bif Nat.ble (l + 1) m then Nat.ble (l + 1) 140737488355328 else false) then some [⟨.str (l + 1) x, YZ hp j .no, n⟩] else none
   | _ => none)
  | _ => none)
 | _ => none
set_option maxHeartbeats 2000000 in
set_option maxRecDepth 100000 in
theorem ZEp (b g n cap : Nat) (ty : Nat) (z : Nat × Nat) (cur : Array Value) (l : List UInt8) (w : World) (h0 : l ≠ []) (hc0 : cap ≠ 0) (hl : l.length <= cur.size) (h63 : l.length <= 9223372036854775807)
  (c1 : w.cell? ⟨b, 1, none⟩ = some (.slice (some ⟨g, 0, none⟩) l.length cap)) (hg : w.heap[g]? = some (.cells cur 5 z))
  (hcell : ∀ j x, l[j]? = some x -> w.cell? ((⟨g, 0, none⟩ : Addr).add j) = some (.int .u8 x.toNat)) :
  Calls Tryz.prog 39 #[.pointer (some ⟨b, 0, none⟩)] w fun e w' => e = .returned (.string ⟨l.toArray⟩) /\ w'.heap = (w.freeze ⟨g, 0, none⟩ l.length).heap /\ w'.os = w.os /\ w'.tape = w.tape /\ w'.output = w.output := by
 have c1' : w.drew.cell? ⟨b, 1, none⟩ = some (.slice (some ⟨g, 0, none⟩) l.length cap) := c1
 have hSD : (Builtin.unsafeSliceData_ #[30] 97 #[.slice (some ⟨g, 0, none⟩) l.length cap]).run Tryz.prog w.drew = .ok (.pointer (some ⟨g, 0, none⟩)) w.drew :=
  Lib.run_unsafeSliceData_row _ _ _ _ _ _ hc0
 have hUS : (Builtin.unsafeString_ #[97, 3] 9 #[.pointer (some ⟨g, 0, none⟩), .int .i64 l.length]).run Tryz.prog w.drew = .ok (.string ⟨l.toArray⟩) (w.drew.freeze ⟨g, 0, none⟩ l.length) := by
  refine Lib.run_unsafeString_row w.drew 97 3 9 5 Tryz.underlying97 (by kernel_rfl) g cur.size (by have hg' : w.drew.heap[g]? = some (.cells cur 5 z) := hg; simp [World.shape?, hg']) l h0 hl h63 ?_
  exact hcell
 have mixed : Tryz.prog.follows .mixedOrders = true := by kernel_rfl
 go_enter Tryz.func39, Tryz.ntmps39
 go_wp2
 go_region_o
 all_goals (go_wp2; go_ret; exact ⟨rfl, by first | rfl | (unfold World.freeze; split <;> rfl), by first | rfl | (unfold World.freeze; split <;> rfl), by first | rfl | (unfold World.freeze; split <;> rfl), by first | rfl | (unfold World.freeze; split <;> rfl)⟩)
theorem ZzP (w0 : World) : Zc3 Tryz.prog w0 39 strC := by
 intro args hp n σ w xs l hR hx h
 refine .inr ⟨Yj Tryz.func39 rfl (by kernel_rfl), ?_⟩
 unfold strC at h
 split at h
 ·rename_i b
  simp only [VRs, VR] at hx
  obtain ⟨v, ws, rfl, ⟨p, t, hs, rfl⟩, rfl⟩ := hx
  split at h
  ·rename_i c0 j l' k ex hc
   split at h
   ·rename_i m x hm
    obtain ⟨q1, g1⟩ := Zbt h
    clear h
    cases g1
    obtain ⟨q1, q2⟩ := Yw q1
    have q1 := ZJA q1
    have q2 := ZJA q2
    obtain ⟨vs, h1, h2, _, _⟩ := hR.at hs hc (by simp)
    simp only [VRs, VR] at h1
    obtain ⟨v0, ws, rfl, _, v1, ws1, rfl, ⟨g, u, o', C, hsj, rfl, hlk, hkc, _, ho, hfit, _⟩, rfl⟩ := h1
    have ho := ho (.inl (by omega))
    subst ho
    obtain ⟨hrow, arr, z, hT⟩ := hR.at hsj hm (by simp)
    have hc1 := (h2.cell (i := 1) rfl).1
    have hrow' := hrow
    obtain ⟨arr', ty, lo, hi, e1, e2, ⟨sp, e3⟩, _⟩ := hrow'
    rw [hT] at e1; cases e1
    have hbl : (bys (l' + 1) x).length = l' + 1 := Zp _ _
    have hle : m <= arr.size := by have := congrArg List.length e3; simp [Zp] at this; omega
    have call := ZEp p g n C 0 _ arr (bys (l' + 1) x) w (fun e => by rw [e] at hbl; cases hbl) (by omega) (by omega) ?_ (by rw [hbl]; exact hc1) hT (fun i b hb => by
     rw [add_eq]
     refine (hrow.cell (i := 0 + i) ?_).1
     rw [<- Zd1 m x (l' + 1) q1, List.getElem?_take] at hb
     split at hb
     ·rw [Nat.zero_add, ZJj, hb]; rfl
     ·cases hb)
    ·refine (callsIn_wide (n := 0)).2 (Calls.mono call ?_)
     rintro e w' ⟨rfl, hh, e1, e2, e3⟩
     have hother : ∀ i, i ≠ g -> w'.heap[i]? = w.heap[i]? := fun i hi => by
      rw [hh]; unfold World.freeze; split
      ·rfl
      ·simp only [Array.getElem?_modify]; rw [if_neg (fun e => hi e.symm)]
     have hsize : w'.heap.size = w.heap.size := by rw [hh]; unfold World.freeze; split <;> simp
     refine ⟨_, rfl, _, σ, List.mem_singleton.2 rfl, by simp only [VR], ?_, Ex.refl _ _, Nle.refl _⟩
     have hj := (hR.old _ _ _ hsj).1
     have hp0 := (hR.old _ _ _ hsj).2.1
     refine (hR.kill hj).chg hsize hother e1 e2 e3 hp0 (fun i q v hi hic hq => ?_)
     rw [Z9 _ _ _ _ hj hi] at hic
     by_cases e : i = j
     ·rw [if_pos e] at hic; exact absurd rfl hic
     ·rw [if_neg e] at hic
      exact hR.apart i j q v g u hi hj hic (by rw [hm]; simp) e hq hsj
    ·rw [hbl]; omega
   ·cases h
  ·cases h
 ·cases h
end Go.Proofs.YtlmkcakhhbckhaaGreatDoor
namespace Go.Proofs.YtlmkcakhhbckhaaGreatDoor.awake
open Go.Cx
noncomputable def tab : List (Nat × Option Cn) := [(174, some ibsC), (79, some chkC), (39, some strC)]
theorem ZHP : Zi0 Tryz.prog tab := .cons (fun w0 => ZH3 Tryz.func174 (by kernel_rfl) (by kernel_rfl) (by kernel_rfl) (by kernel_rfl)) <| .cons (fun w0 => ZAh w0) <| .cons (fun w0 => ZzP w0) <| .nil
noncomputable def dtab : List (Nat × Cn) := []
theorem ZFq : ZhK Tryz.prog dtab := .nil
theorem run : yes (goS Tryz.prog tab dtab 200 0 6 [] H0 N0) = true := by kernel_rfl
theorem calls (w : World) : Calls Tryz.prog 6 #[] w fun e w' => e = .returned (.bool true) /\ Go.RowKit.Below w.heap.size w w' := Zwo ZHP ZFq run w
end Go.Proofs.YtlmkcakhhbckhaaGreatDoor.awake
namespace Go.Proofs.YtlmkcakhhbckhaaGreatDoor
noncomputable section
open Go.Eng
open Go.RowKit (Below)
def ZAZ : Ctr := ⟨[], [], [], [], [], .one (.bool (.bool true)), [], []⟩
theorem ZpD {G : Type} {S : Sig G} {P : Program} {f : Nat} {sp sq : Ctr} (hw : sp.wf = true) (h : Zr S P f sp) (hw2 : sq.wf = true) (h2 : Zr S P f sq) : ∀ q ∈ [sp, sq], q.wf = true /\ Zr S P f q := by
 intro q hq
 simp only [List.mem_cons, List.not_mem_nil, or_false] at hq
 rcases hq with rfl | rfl
 ·exact ⟨hw, h⟩
 ·exact ⟨hw2, h2⟩
theorem Zx9 {G : Type} (S : Sig G) {P : Program} {f : FuncId} (h : ∀ w, Calls P f #[] w fun e w' => e = .returned (.bool true) /\ Below w.heap.size w w') : Zr S P f ZAZ := by
 intro ch w0 F ρ w xs hx _ hs
 have hxs : xs = [] := by
  cases xs with
  | nil => rfl
  | cons x xs => exact hx.elim
 subst hxs
 refine (h w).mono ?_
 rintro e w' ⟨rfl, hb⟩
 obtain ⟨y, hy, hi⟩ := hs
 exact ⟨ρ, .bool true, Ext.refl _ _, rfl, .inr rfl, ⟨y, hy, Zi7 hi hb⟩, fun x hx => nomatch hx⟩
theorem Zto (n : Nat) : 0 <= ((n : Int)).tdiv 64 := Int.tdiv_nonneg (Int.natCast_nonneg _) (by omega)
mutual
theorem ZCo : ∀ (x : Nd) (n : Int), 0 <= n -> n <= wg x n
 | .mk _ l, n, h => by unfold wg; exact ZsX l n h
theorem ZsX : ∀ (l : List Nd) (n : Int), 0 <= n -> n <= wgs l n
 | [], n, _ => by unfold wgs; omega
 | x :: l, n, h => by
  unfold wgs
  split
  ·have t := Zto (ht x.h).length
   have h1 := ZCo x (n + 1 + ((ht x.h).length : Int).tdiv 64) (by omega)
   have h2 := ZsX l _ (Int.le_trans (by omega) h1)
   omega
  ·omega
end
mutual
theorem ZF4 : ∀ (x : Nd) (n : Int), 0 <= n -> wg x n <= 100000 -> SG x
 | .mk _ l, n, h, hw => by
  unfold wg at hw
  unfold SG
  obtain ⟨h1, h2⟩ := ZAV l n h hw
  exact ⟨by omega, h1⟩
theorem ZAV : ∀ (l : List Nd) (n : Int), 0 <= n -> wgs l n <= 100000 -> SGs l /\ n + l.length <= wgs l n
 | [], n, _, _ => by unfold SGs wgs; simp
 | x :: l, n, h, hw => by
  unfold wgs at hw ⊢
  unfold SGs
  split at hw
  ·rename_i hn
   rw [if_pos hn]
   have t := Zto (ht x.h).length
   have h1 := ZCo x (n + 1 + ((ht x.h).length : Int).tdiv 64) (by omega)
   obtain ⟨q1, q2⟩ := ZAV l _ (Int.le_trans (by omega) h1) hw
   refine ⟨⟨ZF4 x (n + 1 + ((ht x.h).length : Int).tdiv 64) (by omega) (by omega), q1⟩, ?_⟩
   simp only [ZJH]
   omega
  ·omega
end
theorem ZsD (x y : Int) : sgn y x = -sgn x y := by
 rcases Int.lt_trichotomy x y with h | h | h
 ·rw [ZBd h, ZAW h]; rfl
 ·rw [ZBC h, ZBC h.symm]; rfl
 ·rw [ZBd h, ZAW h]
theorem ZAS : ∀ a b : List UInt8, Lib.compareBytes b a = -Lib.compareBytes a b
 | [], [] => by unfold Lib.compareBytes; rfl
 | [], _ :: _ => by unfold Lib.compareBytes; rfl
 | _ :: _, [] => by unfold Lib.compareBytes; rfl
 | a :: x, b :: y => by
  unfold Lib.compareBytes
  rw [ZAS x y]
  rcases ZBF a b with h | h | h
  ·have h2 : ¬ b < a := by rw [UInt8.lt_iff_toNat_lt] at h ⊢; omega
   rw [if_neg h2, if_pos h, if_pos h]; rfl
  ·subst h
   have : ¬ a < a := by rw [UInt8.lt_iff_toNat_lt]; omega
   simp only [this, if_false]
  ·have h2 : ¬ a < b := by rw [UInt8.lt_iff_toNat_lt] at h ⊢; omega
   rw [if_pos h, if_neg h2, if_pos h]
theorem ZGf : ∀ a b : List UInt8, -1 <= Lib.compareBytes a b /\ Lib.compareBytes a b <= 1 := fun a b => by
 rw [ZGi]; repeat' split
 all_goals omega
theorem Zsh (x y : Int) : -1 <= sgn x y /\ sgn x y <= 1 := by
 unfold sgn
 repeat' split
 all_goals omega
mutual
theorem ZAu : ∀ g k : Nd, ZkG k g = -ZkG g k
 | .mk h l, .mk k m => by
  have hl := Zo1 l m
  rw [Zda, Zda]
  simp only [Nd.h, Nd.l]
  rw [hl, ZsD (h.getD 1 0), ZsD (srt (h.getD 1 0)), ZAS (ht h)]
  repeat' split
  all_goals first | rfl | omega
theorem Zo1 : ∀ l m : List Nd, Zfu m l = -Zfu l m
 | [], [] => by unfold Zfu; rfl
 | [], _ :: _ => by unfold Zfu; rfl
 | _ :: _, [] => by unfold Zfu; rfl
 | x :: l, y :: m => by
  have h1 := ZAu x y
  have h2 := Zo1 l m
  unfold Zfu
  rw [h1, h2]
  by_cases h : ZkG x y = 0
  ·rw [if_pos h, if_pos (by omega)]
  ·rw [if_neg h, if_neg (by omega)]
end
mutual
theorem ZzJ : ∀ g k : Nd, -1 <= ZkG g k /\ ZkG g k <= 1
 | .mk h l, .mk k m => by
  have hl := Zp9 l m
  have h1 := Zsh (h.getD 1 0) (k.getD 1 0)
  have h2 := Zsh (srt (h.getD 1 0)) (srt (k.getD 1 0))
  have h3 := ZGf (ht h) (ht k)
  rw [Zda]
  simp only [Nd.h, Nd.l]
  repeat' split
  all_goals first | assumption | omega
theorem Zp9 : ∀ l m : List Nd, -1 <= Zfu l m /\ Zfu l m <= 1
 | [], [] => by unfold Zfu; omega
 | [], _ :: _ => by unfold Zfu; omega
 | _ :: _, [] => by unfold Zfu; omega
 | x :: l, y :: m => by
  have h1 := ZzJ x y
  have h2 := Zp9 l m
  unfold Zfu
  split <;> assumption
end
mutual
theorem ZDA : ∀ g g' k k' : Nd, g.h.getD 0 0 = g'.h.getD 0 0 -> g.h.getD 1 0 = g'.h.getD 1 0 -> ht g.h = ht g'.h -> SM g g' -> k.h.getD 0 0 = k'.h.getD 0 0 -> k.h.getD 1 0 = k'.h.getD 1 0 -> ht k.h = ht k'.h -> SM k k' -> ZkG g k = ZkG g' k'
 | .mk h l, .mk h' l', .mk k m, .mk k' m', e0, e1, e2, s, f0, f1, f2, t => by
  rw [Zda, Zda, e0, e1, e2, f0, f1, f2]
  unfold SM at s t
  rw [show Zfu (Nd.mk h l).l (Nd.mk k m).l = Zfu (Nd.mk h' l').l (Nd.mk k' m').l from Zya l l' m m' s t]
theorem Zya : ∀ l l' m m' : List Nd, SMs l l' -> SMs m m' -> Zfu l m = Zfu l' m'
 | [], _ :: _, _, _, s, _ => by unfold SMs at s; exact s.elim
 | _ :: _, [], _, _, s, _ => by unfold SMs at s; exact s.elim
 | _, _, [], _ :: _, _, t => by unfold SMs at t; exact t.elim
 | _, _, _ :: _, [], _, t => by unfold SMs at t; exact t.elim
 | [], [], [], [], _, _ => rfl
 | [], [], _ :: _, _ :: _, _, _ => by unfold Zfu; rfl
 | _ :: _, _ :: _, [], [], _, _ => by unfold Zfu; rfl
 | x :: l, x' :: l', y :: m, y' :: m', s, t => by
  unfold SMs at s t
  unfold Zfu
  rw [ZDA x x' y y' s.1.1 s.1.2.1 s.1.2.2 s.2.1 t.1.1 t.1.2.1 t.1.2.2 t.2.1, Zya l l' m m' s.2.2 t.2.2]
end
mutual
theorem wg_en : ∀ (x : Nd) (n : Int), 0 <= n -> wg x n <= 100000 -> ((Zbe x.l).length : Int) <= 129 * (wg x n - n)
 | .mk _ l, n, h, hw => by
  unfold wg at hw ⊢
  exact ZpU l n h hw
theorem ZpU : ∀ (l : List Nd) (n : Int), 0 <= n -> wgs l n <= 100000 -> ((Zbe l).length : Int) <= 129 * (wgs l n - n)
 | [], n, _, _ => by unfold wgs; rw [ZdG]; simp
 | x :: l, n, h, hw => by
  unfold wgs at hw ⊢
  split at hw
  ·rename_i hn
   rw [if_pos hn]
   have t := Zto (ht x.h).length
   have tq : ((ht x.h).length : Int) <= 64 * ((ht x.h).length : Int).tdiv 64 + 63 := by rw [Int.tdiv_eq_ediv_of_nonneg (Int.natCast_nonneg _)]; omega
   have h1 := ZCo x (n + 1 + ((ht x.h).length : Int).tdiv 64) (by omega)
   have h2 := ZsX l _ (Int.le_trans (by omega) h1)
   have e1 := wg_en x (n + 1 + ((ht x.h).length : Int).tdiv 64) (by omega) (by omega)
   have e2 := ZpU l _ (Int.le_trans (by omega) h1) hw
   rw [Zbo, ZJs, Zkp]
   have lo := Zek (ht x.h)
   have li := Zev (x.h.getD 1 0)
   have wb := Zfc (mgN (x.h.getD 1 0))
   generalize ((ht x.h).length : Int).tdiv 64 = q at *
   generalize wg x (n + 1 + q) = a at *
   generalize wgs l a = c at *
   have : ((if x.h.getD 0 0 = 3 then ZlZ (x.h.getD 1 0) else if x.h.getD 0 0 = 4 then Zec (srt (x.h.getD 1 0)) 8 else if x.h.getD 0 0 = 5 \/ x.h.getD 0 0 = 6 then Zdy (ht x.h) ++ [0, 1] else if x.h.getD 0 0 = 7 then Zbe x.l ++ [0] else []).length : Int) <= 128 * (1 + q) + 129 * (a - (n + 1 + q)) := by
    repeat' split
    all_goals (try simp only [ZbQ, ZJs, ZJH, List.length_nil])
    all_goals omega
   simp only [ZJH]
   omega
  ·omega
end
theorem Ztn : ∀ l l' : List Nd, SMs l l' -> l.length = l'.length
 | [], [], _ => rfl
 | [], _ :: _, s => by unfold SMs at s; exact s.elim
 | _ :: _, [], s => by unfold SMs at s; exact s.elim
 | x :: l, y :: l', s => by unfold SMs at s; rw [ZJH, ZJH, Ztn l l' s.2.2]
theorem ZHM {x y : Nd} (e0 : x.h.getD 0 0 = y.h.getD 0 0) (e1 : x.h.getD 1 0 = y.h.getD 1 0) (e2 : ht x.h = ht y.h) (e3 : x.l.length = y.l.length) : okB x = okB y := by
 rw [Zgk, Zgk, e0, e1, e2, e3]
mutual
theorem Zw6 : ∀ (x y : Nd) (d : Int), SM x y -> chk x d = chk y d
 | .mk h l, .mk k m, d, s => by
  unfold SM at s
  unfold chk
  rw [Ztn l m s, Zuv l m d s]
theorem Zuv : ∀ (l m : List Nd) (d : Int), SMs l m -> ZlP l d = ZlP m d
 | [], [], _, _ => rfl
 | [], _ :: _, _, s => by unfold SMs at s; exact s.elim
 | _ :: _, [], _, s => by unfold SMs at s; exact s.elim
 | x :: l, y :: m, d, s => by
  unfold SMs at s
  have el : x.l.length = y.l.length := Ztn _ _ ((ZeT _ _).1 s.2.1)
  unfold ZlP
  rw [ZHM s.1.1 s.1.2.1 s.1.2.2 el, s.1.1, Zw6 x y (d + 1) s.2.1, Zuv l m d s.2.2]
end
mutual
theorem ZH7 : ∀ (x y : Nd), x.h.getD 0 0 = y.h.getD 0 0 -> x.h.getD 1 0 = y.h.getD 1 0 -> ht x.h = ht y.h -> SM x y -> itB x = itB y
 | .mk h l, .mk k m, e0, e1, e2, s => by
  unfold SM at s
  rw [Zkp, Zkp, e0, e1, e2]
  simp only [Nd.l]
  rw [Zgf l m s]
theorem Zgf : ∀ l m : List Nd, SMs l m -> Zbe l = Zbe m
 | [], [], _ => rfl
 | [], _ :: _, s => by unfold SMs at s; exact s.elim
 | _ :: _, [], s => by unfold SMs at s; exact s.elim
 | x :: l, y :: m, s => by
  unfold SMs at s
  rw [Zbo, Zbo, ZH7 x y s.1.1 s.1.2.1 s.1.2.2 s.2.1, Zgf l m s.2.2]
end
theorem ZAN {x y : Nd} (s : SM x y) : eeI x = eeI y := by
 unfold eeI
 rw [Zw6 x y 0 s, Zgf _ _ ((ZeT _ _).1 s)]
theorem ZHv {x y : Nd} (s : SM x y) : ewB x = ewB y := by
 unfold ewB
 rw [ZAN s, Zgf _ _ ((ZeT _ _).1 s)]
theorem ZyE (g : Nd) : ((ewB g).length : Int) <= 65536 := by
 by_cases h : chk g 0 = 0
 ·by_cases hb : 65536 < ((Zbe g.l).length : Int)
  ·rw [(ZmF h hb).2]; simp
  ·rw [(ZwO h (by omega)).2]; omega
 ·rw [(ZmE h).2]; simp
structure Te2Sig (S : Sig Nd) : Prop where
 cf : CfSig S
 by' : BySig S
def nuBC : Ctr := ⟨[], [], [], [], [], .tup [], [c42 z0 z0 z0 Zps], []⟩
def reBC : Ctr := ⟨[.int, .rows, .int, .int, .int, .rows], [.one (sl1 (ai 2) (ai 3) (ai 4))], [slA (ai 2) (rA 5) (ai 4), c42 z0 z0 (ai 0) (rA 1)], [.f2 45 (ai 0) (ai 3), eqS (rA 1) (rA 5)], [], .tup [], [slA (ai 2) (rA 5) (ai 4), c42 z0 z0 (ai 3) (rA 5)], []⟩
theorem ZIX (S : Sig Nd) (hK : BySig S) : ZcO S nuBC := by
 refine ZaN S fun T w0 ρ h hu hp hd hr hpre => ⟨ρ, Ext.refl _ _, ?_, by intro x hx; exact nomatch hx⟩
 have e2 : Ze T ρ w0 nuBC.post = Zg (T.prd 222 w0 ((ZC (Yz z0 z0 z0) Zps).den T ρ) (z0.den T ρ)) emp := rfl
 rw [e2, star_emp, hp, hK.p222]
 simp only [ZC, Yz, YP, Zio, Zps, z0, SX.den, Z7, Z5, Z3, Zgy, U.tNi, U.tIi, U.tRi, ZbI, ZJk, List.drop_zero, List.take_zero]
 exact hpre
theorem ZIx (S : Sig Nd) : ZcO S reBC := by
 refine ZaN S fun T w0 ρ h hu hp hd hr hpre => ⟨ρ, Ext.refl _ _, ?_, by intro x hx; exact nomatch hx⟩
 have r0 := ZbR (hr (.f2 45 (ai 0) (ai 3)) (by simp [reBC]))
 have r1 := Zo2 (hr (eqS (rA 1) (rA 5)) (by simp [reBC]))
 have r0 : (ρ 0).tI = (ρ 3).tI := r0
 have e : (c42 z0 z0 (ai 0) (rA 1)).den T ρ w0 = (c42 z0 z0 (ai 3) (rA 5)).den T ρ w0 := by
  show T.prd 222 w0 ((ZC (Yz z0 z0 (ai 0)) (rA 1)).den T ρ) _ = T.prd 222 w0 ((ZC (Yz z0 z0 (ai 3)) (rA 5)).den T ρ) _
  rw [show (ZC (Yz z0 z0 (ai 0)) (rA 1)).den T ρ = (ZC (Yz z0 z0 (ai 3)) (rA 5)).den T ρ by
   have r1' : U.co T .rows (ρ 1) = U.co T .rows (ρ 5) := r1
   simp only [ZC, Yz, YP, Zio, z0, SX.den, ai, rA, r1', ZF, r0]]
 have hpre : Zg ((slA (ai 2) (rA 5) (ai 4)).den T ρ w0) (Zg ((c42 z0 z0 (ai 0) (rA 1)).den T ρ w0) emp) h := hpre
 rw [e] at hpre
 exact hpre
def Zwy : Ctr := ⟨[.rows, .int, .g, .rows, .int, .g], [ZqJ 0, ZqJ 3], [rtC (rA 0) (ai 1) (gA 2), rtC (rA 3) (ai 4) (gA 5), ZiT], [eLe z0 (dpX (gA 2)), tgX (gA 2), eLe z0 (dpX (gA 5)), tgX (gA 5)], [], .one (.bool (.bool true)), [], []⟩
def ZGG : Cx := { specs := [(6, [ZAZ]), (26, [weiC]), (8, [lntC]), (9, [choC, Zl1]), (10, [enoC, Zph]), (11, [ZoV]), (12, [Zs8]), (13, [kepC]), (14, [Zr1])], anns := [(3, [(25, .ghost nuBC []), (27, .ghost ZzQ [.tmp 111]), (31, .ghost reBC [.tmp 10])])] }
def ZuH : SX := v 607 (g 2)
def ZsA : SX := v 607 (g 5)
def Zzr : SX := .f3 112 (r 0) (a 1) (k 6)
def ZCD : SX := v 609 (g 7)
def ZE3 : SX := .f2 40 Zzr (k 2)
def ZDC : SX := j 656 (g 7)
def Zhg : SX := .f1 31 ZDC
def ZEE : SX := j 656 (g 2)
def ZiG : SX := .f1 31 ZEE
def ZsJ : SX := e (v 652 (g 7)) (v 652 (g 2))
def ZlE : SX := e (v 657 (g 7)) (v 657 (g 2))
def Zvj : SX := .f1 2 (.f2 150 ZDC ZEE)
def ZkI : SX := .f2 155 (.bool true) (.bool false)
def Zg0 : SX := .f1 2 Zvj
def ZoR : SX := j 656 (g 5)
def Ze1 : SX := .f1 31 ZoR
def ZvL : SX := .f1 2 (.f2 150 ZoR ZoR)
def Zwc : SX := .f1 2 ZvL
def Zu3 : SX := .f2 122 (a 9) (.f2 122 Zhg (.f2 122 (a 10) (.f1 152 z)))
def ZwV : SX := .f2 122 (a 16) (.f2 122 Ze1 (.f2 122 (a 17) (.f1 152 z)))
def ZvZ : SX := .f2 122 (a 23) (.f2 122 Zhg (.f2 122 (a 24) (.f1 152 z)))
def Ztj : SX := .f2 124 (.f2 122 (a 30) (.f2 122 Zhg (.f2 122 (a 31) (.f1 152 z)))) (.f1 154 z)
def ZIN : VC := i (l z (v 606 (g 2))) (i (p 608 (g 2)) (i (l z (v 606 (g 5))) (i (p 608 (g 5)) (i (l z ZuH) (i (l ZuH k8) (i (l z ZsA) (i (l ZsA k8) (.and (i (l ZuH (k 100000)) (.and (i (t (k 100000) ZsA) .tt) (i (l ZsA (k 100000)) (n (p 620 (g 2)) (u 6 .int (u 7 .g (i (c 621 (g 7) (g 2)) (i (p 608 (g 7)) (i (l z (a 6)) (i (e Zzr ZCD) (i (e (d 613 (g 7) (k 3)) (a 6)) (i (e (d 613 (g 7) (k 6)) Zzr) (i (e (d 613 (g 7) (k 7)) ZE3) (u 8 .int (i (l z (a 8)) (n (e ZE3 (.f2 40 ZCD (k 2))) (n (l (.f1 31 (j 646 (g 7))) k3) (u 9 .int (u 10 .int (i (l Zhg (a 10)) (n (l (.f1 31 (j 646 (g 2))) k3) (u 11 .int (u 12 .int (i (l ZiG (a 12)) (.and (i ZsJ (.and (i ZlE (n (l Zhg Zhg) (n (l ZiG ZiG) (.and (i Zvj (n ZkI .tt)) (i Zg0 (u 13 .int (i (l z (a 13)) (u 14 .int (u 15 .int (i (l (k 1) (a 15)) (i (l z (a 14)) (n (l (.f1 31 (j 646 (g 5))) k3) (u 16 .int (u 17 .int (i (l Ze1 (a 17)) (u 18 .int (u 19 .int (i (l Ze1 (a 19)) (n (l Ze1 Ze1) (.and (i ZvL (n ZkI .tt)) (i Zwc (u 20 .int (i (l z (a 20)) (u 21 .int (u 22 .int (i (l (k 2) (a 22)) (i (l z (a 21)) (u 23 .int (u 24 .int (i (l Zhg (a 24)) (u 25 .int (u 26 .int (i (l ZiG (a 26)) (.and (i ZsJ (.and (i ZlE (.and .tt (i Zg0 (u 27 .int (i (l z (a 27)) (u 28 .int (u 29 .int (i (l (k 3) (a 29)) (i (l z (a 28)) (u 30 .int (u 31 .int (i (l Zhg (a 31)) (u 32 .int (u 33 .int (i (l ZiG (a 33)) (.and (i ZsJ (.and (i ZlE (.and .tt (i Zg0 (u 34 .int (i (l z (a 34)) (u 35 .int (u 36 .int (i (l (k 4) (a 36)) (i (l z (a 35)) (u 37 .int (u 38 .int (i (l ZiG (a 38)) (.and .tt (i Zg0 (n (l Zhg k2) (u 39 .int (u 40 .int (i (l Ze1 (a 40)) (.and .tt (i Zwc (n (l Ze1 k2) (u 41 .int (u 42 .int (i (l ZiG (a 42)) (.and .tt (i Zg0 (u 43 .int (u 44 .int (i (l ZiG (a 44)) (.and .tt (i Zg0 (n (.f2 155 (.f2 121 (.f2 121 (.f2 121 (.f2 121 (.f1 154 z) (.f2 124 Zu3 (.f1 154 z))) (.f2 124 ZwV (.f1 154 z))) (.f2 124 ZvZ (.f1 154 z))) Ztj) (.f2 124 Zu3 (.f2 124 ZwV (.f2 124 ZvZ Ztj)))) .tt)))))))))))))))))))))))))))))))) .tt)) .tt)))))))))))))))) .tt)) .tt)))))))))))))))))))))))))))))))))) (i (.f1 2 ZlE) (n ZkI .tt)))) (i (.f1 2 ZsJ) (n ZkI .tt))))))))))))))))))))))))))) (i (t (k 100000) ZuH) .tt)))))))))
theorem ZIp : ZeK Tryz.prog ZGG 12 3 Zwy = ZIN := by kernel_rfl
theorem ZHY (S : Sig Nd) (hS : Te2Sig S) : Zr S Tryz.prog 3 Zwy := by
 refine Zj S (C := ZGG) (fuel := 12) (Zai ⟨Zk (by decide) (Zx9 S awake.calls), Zk (by decide) (ZEl S hS.cf.ck.tb.oa.te.tos.tc.ta), Zk (by decide) (ZCs S hS.cf.ck.tb.oa.te.tos), ZpD (by decide) (ZIv S hS.cf) (by decide) (ZuX S hS.cf), ZpD (by decide) (ZI0 S hS.cf) (by decide) (ZA5 S hS.cf), Zk (by decide) (ZBq S hS.cf), Zk (by decide) (ZGM S hS.cf), Zk (by decide) (ZCz S hS.cf.ck.tb.oa.te.tos), Zk (by decide) (ZHS S hS.by'), trivial⟩ ⟨⟨⟨by decide, ZIX S hS.by'⟩, ⟨by decide, ZH2 S hS.by'⟩, ⟨by decide, ZIx S⟩, trivial⟩, trivial⟩ trivial) fun ρ => ?_
 rw [ZIp]
 simp only [ZIN, ZuH, ZsA, Zzr, ZCD, ZE3, ZDC, Zhg, ZEE, ZiG, ZsJ, ZlE, Zvj, ZkI, Zg0, ZoR, Ze1, ZvL, Zwc, Zu3, ZwV, ZvZ, Ztj, hS.cf.ck.tb.oa.te.tos.tc.ta.u606, hS.cf.ck.tb.oa.te.tos.tc.ta.u607, hS.cf.ck.tb.oa.te.tos.tc.ta.u608, hS.cf.ck.tb.oa.te.tos.tc.ta.u609, hS.cf.ck.tb.oa.te.tos.tc.u613, hS.cf.ck.tb.oa.te.tos.u620, hS.cf.ck.tb.oa.te.tos.u621, hS.cf.ck.tb.u646, hS.cf.ck.u652, hS.cf.u656, hS.cf.u657, ZaA, ZJu, VC.den, SX.den, Env.upd, beq_iff_eq, ZJm, beq_eq_false_iff_ne, ne_eq, ZJl, ZJk, Int.reduceToNat, Nat.reduceEqDiff, reduceIte, sB]
 generalize ndU (U.co S .g (ρ 2)) = g
 generalize ndU (U.co S .g (ρ 5)) = k
 generalize (ρ 0).tR.getD (ρ 1).tI.toNat [] = r
 simp only [List.drop_zero]
 intro h1 tg h2 tk b1 b2 b3 b4
 have eg : wgs g.l 0 <= 100000 -> ((Zbe g.l).length : Int) <= 100000000000 := fun h => by have := ZpU g.l 0 (by omega) h; omega
 have ek : wgs k.l 0 <= 100000 -> ((Zbe k.l).length : Int) <= 100000000000 := fun h => by have := ZpU k.l 0 (by omega) h; omega
 have lg := ZyE g
 have lk := ZyE k
 refine ⟨fun hg => ⟨fun _ => trivial, fun hk => ⟨ZF4 g 0 (by omega) (by rw [ZGb]; exact hg), fun b x sx tx b0 lx x3 x6 x7 => ?_⟩⟩, fun _ => trivial⟩
 have eg := eg hg
 have ek := ek hk
 simp only [Zw6 x g 0 sx, ZAN sx, ZHv sx, Zgf _ _ ((ZeT _ _).1 sx)]
 generalize chk g 0 = c0
 generalize eeI g = c1
 generalize ewB g = B at *
 generalize ewB k = C at *
 repeat' (first | exact trivial | apply And.intro | intro _)
 all_goals first
  | omega
  | exact absurd trivial (by assumption)
  | exact absurd rfl (by assumption)
  | rfl
end
end Go.Proofs.YtlmkcakhhbckhaaGreatDoor
namespace Go.Proofs.YtlmkcakhhbckhaaGreatDoor
open Go.Eng
open Go.ChangeShapes Go.WideShapes Go.Deep
theorem Zoy {w : World} : ∀ {l : List Nd}, (∀ x ∈ l, RT w x) -> RTs w l
 | [], _ => by unfold RTs; trivial
 | x :: l, h => by unfold RTs; exact ⟨h x (ZJv ..), Zoy fun y hy => h y (ZJt _ hy)⟩
theorem Zn0 : ∀ {l : List Nd}, (∀ x ∈ l, TG x) -> TGs l
 | [], _ => by unfold TGs; trivial
 | x :: l, h => by unfold TGs; exact ⟨h x (ZJv ..), Zn0 fun y hy => h y (ZJt _ hy)⟩
theorem ZpQ {cs : List Value} {i : Nat} {v : Value} (h : (cs.drop i).take 1 = [v]) : cs[i]? = some v := by
 have h2 : ((cs.drop i).take 1)[0]? = some v := by rw [h]; rfl
 rw [List.getElem?_take_of_lt (by omega), ZJM] at h2
 simpa using h2
theorem ZDc (s : ByteArray) : Fd.str.val [((Zed s.data.toList : Nat) : Int)] = .string s := by
 show Value.string ⟨(decB (Int.toNat ((Zed s.data.toList : Nat) : Int))).toArray⟩ = _
 rw [ZJu, Yd]
theorem Zyk (w : World) (b off s : Nat) : w.cell? ((⟨b, off, some s⟩ : Addr).add 0) = none := by
 have e : ((⟨b, off, some s⟩ : Addr).add 0).spot.isSome = true := by unfold Addr.add; split <;> simp_all
 unfold World.cell?
 split
 ·exact if_pos e
 ·rfl
theorem ZF0 {n : Int} (h : (Lit.int .i64 n).wf = true) : -9223372036854775808 <= n /\ n <= 9223372036854775807 := by
 have e : IntKind.i64.min = -9223372036854775808 := by decide
 simp [Lit.wf] at h
 rw [e] at h
 exact h
instance : Inhabited Nd := ⟨nd0⟩
def TrIs (w : World) (cs : List Value) (b o s n c : Int) (l : List Nd) : Prop := cs = [opqV [b, o, s, n, c]] /\ ltOk w [0, 0, 0, b, o, s, n, c] l /\ RTs w l /\ (l.length : Int) <= 9223372036854775807 /\ TGs l
theorem Zx0 {H : Type} {enc : TypeId × Value -> H} {P : Program} {w : World} {base : Nat} {spare : Nat -> Bool} {Zmm : Bool} {t e : TypeId} {g0 g1 g2 g3 : Field}
  (ht : P.underlying t = some (.slice e)) (he : P.underlying e = some (.struct #[g0, g1, g2, g3])) (ce : P.cellsOf e = 4) (o0 : g0.offset = 0) (o1 : g1.offset = 1) (o2 : g2.offset = 2) (o3 : g3.offset = 3)
  (c0 : P.cellsOf g0.type = 1) (c1 : P.cellsOf g1.type = 1) (c2 : P.cellsOf g2.type = 1) (c3 : P.cellsOf g3.type = 1)
  (t0 : P.underlying g0.type = some (.int .i64)) (t1 : P.underlying g1.type = some (.int .i64)) (t2 : P.underlying g2.type = some .string) (t3 : g3.type = t) :
  ∀ (fuel : Nat) {cs : List Value} {x : DataW H × List MemPlace}, DataW.trod enc P w base spare Zmm fuel t cs = some x -> ∃ (b o s n c : Int) (l : List Nd), TrIs w cs b o s n c l := by
 intro fuel
 induction fuel using Nat.strongRecOn with
 | ind fuel ih =>
  intro cs x h
  rcases DataW.trod_slice ht h with ⟨rfl, _⟩ | ⟨a, len, cap, elems, rest, n, hfu, rfl, hx, hb, hl, hm, hlen, hel, hsp, hns⟩
  ·exact ⟨-1, 0, -1, 0, 0, [], rfl, ⟨rfl, fun h => absurd rfl h, fun i v hv => by simp [Yh] at hv⟩, Zoy (fun x hx => nomatch hx), by decide, Zn0 (fun x hx => nomatch hx)⟩
  have each : ∀ i, i < len -> ∃ q : Nd, (∀ j, j < 4 -> ∃ v, (Zs itF q.h)[j]? = some v /\ w.cell? (a.add (i * 4 + j)) = some v) /\ RT w q /\ TG q := by
   intro i hi
   have hi2 := hel i hi
   rw [ZJq (by omega), ce] at hi2
   obtain ⟨cs', h1, h2⟩ := Option.bind_eq_some_iff.1 hi2
   obtain ⟨_, hle, hcell⟩ := World.cells?_some h1
   obtain ⟨xs, k, hk, _, _, hxl, hf⟩ := DataW.trod_struct he h2
   have f0 := hf 0 g0 rfl
   have f1 := hf 1 g1 rfl
   have f2 := hf 2 g2 rfl
   have f3 := hf 3 g3 rfl
   rw [o0, c0, ZJq (by rw [hxl]; show _ < 4; omega)] at f0
   rw [o1, c1, ZJq (by rw [hxl]; show _ < 4; omega)] at f1
   rw [o2, c2, ZJq (by rw [hxl]; show _ < 4; omega)] at f2
   rw [o3, c3, t3, ZJq (by rw [hxl]; show _ < 4; omega)] at f3
   obtain ⟨n0, e0, _, _⟩ := DataW.trod_int t0 f0
   obtain ⟨n1, e1, _, w1⟩ := DataW.trod_int t1 f1
   obtain ⟨s2, e2, _, z2⟩ := DataW.trod_string t2 f2
   obtain ⟨b', o', s', n', c', l', e3, q1, q2, q3, q4⟩ := ih k (by omega) f3
   have e0 := ZpQ e0
   have e1 := ZpQ e1
   have e2 := ZpQ e2
   have e3 := ZpQ e3
   refine ⟨.mk [n0, n1, (Zed s2.data.toList : Nat), b', o', s', n', c'] l', fun j hj => ?_, (Zgr _).2 ⟨q1, q2⟩, (Zao _).2 ⟨q3, ⟨?_, ZF0 w1⟩, q4⟩⟩
   ·have hc := hcell j (by omega)
    rw [add_add] at hc
    match j, hj with
    | 0, _ => exact ⟨_, rfl, by rw [hc, e0]; rfl⟩
    | 1, _ => exact ⟨_, rfl, by rw [hc, e1]; rfl⟩
    | 2, _ => exact ⟨_, rfl, by rw [hc, e2]; exact congrArg some (ZDc s2).symm⟩
    | 3, _ => exact ⟨_, rfl, by rw [hc, e3]; rfl⟩
   ·show ((decB ((Zed s2.data.toList : Nat) : Int).toNat).length : Int) <= _
    rw [ZJu, Yd]
    have hmax : maxLen = 9223372036854775807 := by decide
    have : s2.data.toList.length = s2.size := Array.length_toList
    omega
  obtain ⟨q, hq⟩ := choose_lt each
  have hmax : maxLen = 9223372036854775807 := by decide
  obtain ⟨b, off, spot⟩ := a
  have hln : ((List.range len).map q).length = len := by rw [ZJx, List.length_range]
  have hmem : ∀ x ∈ (List.range len).map q, RT w x /\ TG x := by
   intro x hx
   obtain ⟨i, hi, rfl⟩ := List.mem_map.1 hx
   exact (hq i (List.mem_range.1 hi)).2
  cases spot with
  | some s =>
   have h0 : len = 0 := by
    rcases Nat.eq_zero_or_pos len with h0 | h0
    ·exact h0
    ·obtain ⟨v, _, h2⟩ := (hq 0 h0).1 0 (by decide)
     have e : w.cell? ((⟨b, off, some s⟩ : Addr).add 0) = none := Zyk w b off s
     rw [show 0 * 4 + 0 = 0 from rfl, e] at h2; cases h2
   subst h0
   refine ⟨b, off, s, 0, cap, [], ?_, ⟨rfl, fun h => absurd rfl h, fun i v hv => by simp [Yh] at hv⟩, Zoy (fun x hx => nomatch hx), by decide, Zn0 (fun x hx => nomatch hx)⟩
   show _ = [Value.slice (if (b : Int) < 0 then none else some ⟨(b : Int).toNat, (off : Int).toNat, if (s : Int) < 0 then none else some (s : Int).toNat⟩) _ _]
   rw [if_neg (by omega), if_neg (by omega)]; rfl
  | none =>
   refine ⟨b, off, -1, len, cap, (List.range len).map q, ?_, ⟨?_, fun _ => ⟨by show (0 : Int) <= b; omega, by show (-1 : Int) < 0; omega⟩, fun j v hj => ?_⟩, Zoy fun x hx => (hmem x hx).1, by rw [hln]; omega, Zn0 fun x hx => (hmem x hx).2⟩
   ·show _ = [Value.slice (if (b : Int) < 0 then none else some ⟨(b : Int).toNat, (off : Int).toNat, if (-1 : Int) < 0 then none else some _⟩) _ _]
    rw [if_neg (by omega), if_pos (by decide)]; rfl
   ·rw [hln]; rfl
   ·have hlen4 : ∀ r : List Int, (Zs itF r).length = 4 := fun r => YC _ r
    have hkr : Yh ((List.range len).map q) = (List.range len).map fun i => (q i).h := by unfold Yh; rw [List.map_map]; rfl
    rw [hkr] at hj
    have hjlt : j < len * 4 := by
     rcases ZJh j (len * 4) with h' | h'
     ·exact h'
     ·rw [List.getElem?_eq_none (by rw [Zbc _ 4 hlen4, ZJx, List.length_range]; exact h')] at hj; cases hj
    have hdm : j = j / 4 * 4 + j % 4 := by omega
    rw [hdm, Zc4 _ 4 hlen4 _ _ _ (Nat.mod_lt _ (by decide)), ZJj, List.getElem?_range (by omega)] at hj
    obtain ⟨v', h1, h2⟩ := (hq (j / 4) (by omega)).1 (j % 4) (Nat.mod_lt _ (by decide))
    have hj' : (Zs itF (q (j / 4)).h)[j % 4]? = some v := hj
    rw [h1] at hj'
    cases hj'
    rw [<- hdm, add_plain] at h2
    show ((b : Int)).toNat < w.heap.size /\ w.cell? ⟨((b : Int)).toNat, ((off : Int)).toNat + j, none⟩ = some v
    exact ⟨by simpa using (World.block_lt_of_cell? w ⟨b, off + j, none⟩ h2), by simpa using h2⟩
theorem Zqf {H : Type} {enc : TypeId × Value -> H} {P : Program} {W : World} {base : Nat} {t e : TypeId} {g0 g1 g2 g3 : Field} {v : Value} {d : DataW H} {ps : List MemPlace}
  (ht : P.underlying t = some (.slice e)) (he : P.underlying e = some (.struct #[g0, g1, g2, g3])) (ce : P.cellsOf e = 4) (o0 : g0.offset = 0) (o1 : g1.offset = 1) (o2 : g2.offset = 2) (o3 : g3.offset = 3)
  (c0 : P.cellsOf g0.type = 1) (c1 : P.cellsOf g1.type = 1) (c2 : P.cellsOf g2.type = 1) (c3 : P.cellsOf g3.type = 1)
  (t0 : P.underlying g0.type = some (.int .i64)) (t1 : P.underlying g1.type = some (.int .i64)) (t2 : P.underlying g2.type = some .string) (t3 : g3.type = t)
  (hv : Value.okWide P W .any base t v) (h : DataW.Trod enc P W 0 (fun _ => true) true t v d ps) : ∃ (b o s n c : Int) (l : List Nd), TrIs W [v] b o s n c l := by
 obtain ⟨fuel, hf⟩ := h
 obtain ⟨a0, len, cap, rfl⟩ := okWide_slice ht hv
 exact Zx0 ht he ce o0 o1 o2 o3 c0 c1 c2 c3 t0 t1 t2 t3 fuel hf
end Go.Proofs.YtlmkcakhhbckhaaGreatDoor
namespace Go.Proofs.YtlmkcakhhbckhaaGreatDoor.tupleEncodes
open Go.ChangeShapes Go.WideShapes Go.ChangeAt Go.RowKit
open Go.Eng (Zet Sig Zr ZcO emp Zg ZoS Sat Env U Ctr SX Zs Zd)
theorem own : ownKnob Tryz.prog.godebug = none := by kernel_rfl
noncomputable def usr (n : Nat) (a b c d : U Nd) : U Nd :=
 match n with
 | 601 => .rows (Yh (ndU a).l)
 | 602 => .ints ((a.tR.getD b.tI.toNat []).drop 3)
 | 604 => .g ((ndU a).kid b.tI)
 | 606 => .int (dep (ndU a))
 | 607 => .int (wgs ((ndU a).l.drop b.tI.toNat) c.tI)
 | 608 => .bool (Zfj (TG (ndU a)))
 | 609 => .int ((ndU a).l.length : Nat)
 | 610 => .int (Zfu ((ndU a).l.drop c.tI.toNat) ((ndU b).l.drop c.tI.toNat))
 | 611 => .int (Lib.compareBytes a.tB b.tB)
 | 612 => .int (ZkG (ndU a) (ndU b))
 | 613 => .int ((ndU a).h.getD b.tI.toNat 0)
 | 614 => .bytes (ht (ndU a).h)
 | 620 => .bool (Zfj (SG (ndU a)))
 | 621 => .bool (Zfj (SM (ndU a) (ndU b)))
 | 622 => .rows ((ZY b.tI (ndU a).l).take c.tI.toNat)
 | 623 => .bool (Zfj (SMs (ndU a).l ((ndU b).l.take (ndU a).l.length)))
 | 624 => .g (Zhm (ndU a) (ndU b) c.tI (ndU d))
 | 625 => .g (Zy4 (ndU a) b.tI c.tI)
 | 626 => .rows (ZY (ndU a).l.length (ndU a).l)
 | 627 => .g (.mk [] [])
 | 628 => .g (Zhn (ndU a) b.tI)
 | 93 => .bytes (Zec a.tI b.tI.toNat)
 | 94 => .bytes (List.replicate (c.tI + 1).toNat 0 ++ Zec a.tI (b.tI - 1 - c.tI).toNat)
 | 95 => .int (shN a.tI b.tI.toNat)
 | 96 => .bytes ((Zec a.tI b.tI.toNat).take c.tI.toNat)
 | 640 => .int (wdN a.tI)
 | 641 => .bytes (ZlZ a.tI)
 | 642 => .bytes ((ZlZ a.tI).take b.tI.toNat)
 | 643 => .bytes (Zdy (a.tB.take b.tI.toNat))
 | 644 => .bytes (Zdy a.tB ++ [0, 1])
 | 645 => .bytes (Zbe ((ndU a).l.take b.tI.toNat))
 | 646 => .bytes (Zbe (ndU a).l)
 | 648 => .bool (Zfj (KG (ndU a)))
 | 650 => .bool (Lib.validD a.tB)
 | 654 => .int (Zsb a.tB)
 | 655 => .bool (Lib.validD (a.tB.drop b.tI.toNat))
 | 651 => .bool (okB (ndU a))
 | 652 => .int (chk (ndU a) b.tI)
 | 653 => .int (ZlP ((ndU a).l.drop b.tI.toNat) c.tI)
 | 656 => .bytes (ewB (ndU a))
 | 657 => .int (eeI (ndU a))
 | 700 => .bytes (mkL a.tI b.tI.toNat)
 | _ => .int 0
noncomputable def prd (n : Nat) (w0 : World) (k x : U Nd) : Zd :=
 match n with
 | 200 => Zd.pure (RT w0 (ndU x) /\ (ndU x).h.drop 3 = k.tN)
 | 201 => fun h => (ndU x).h.getD 3 0 = k.tI /\ OT (ndU x) h
 | 202 => OTs (ndU x).l
 | 210 => Zd.pure (Lib.Utf8Tabs 0 1 w0)
 | 222 => kp42 k.tR
 | 223 => kp43 k.tR
 | 224 => kp46 k.tR x.tR
 | 225 => kp47 k.tR x.tR
 | 226 => kp48 k.tR x.tR
 | _ => emp
noncomputable def sig : Sig Nd := { dg := nd0, ch := fun _ => true, usr := usr, prd := prd }
theorem hA : TaSig sig where
 dg := rfl
 p200 := fun _ _ _ => rfl
 u601 := fun _ _ _ _ => rfl
 u602 := fun _ _ _ _ => rfl
 u604 := fun _ _ _ _ => rfl
 u606 := fun _ _ _ _ => rfl
 u607 := fun _ _ _ _ => rfl
 u608 := fun _ _ _ _ => rfl
 u609 := fun _ _ _ _ => rfl
theorem hC : TcSig sig where
 ta := hA
 u610 := fun _ _ _ _ => rfl
 u611 := fun _ _ _ _ => rfl
 u612 := fun _ _ _ _ => rfl
 u613 := fun _ _ _ _ => rfl
 u614 := fun _ _ _ _ => rfl
theorem hO : ToSig sig where
 tc := hC
 p201 := fun _ _ _ => rfl
 p202 := fun _ _ _ => rfl
 u620 := fun _ _ _ _ => rfl
 u621 := fun _ _ _ _ => rfl
 u622 := fun _ _ _ _ => rfl
 u623 := fun _ _ _ _ => rfl
 u624 := fun _ _ _ _ => rfl
 u625 := fun _ _ _ _ => rfl
 u626 := fun _ _ _ _ => rfl
 u627 := fun _ _ _ _ => rfl
 u628 := fun _ _ _ _ => rfl
theorem hEn : EnSig sig := ⟨fun _ _ _ _ => rfl, fun _ _ _ _ => rfl, fun _ _ _ _ => rfl, fun _ _ _ _ => rfl⟩
theorem hTe : TeSig sig := ⟨hO, hEn, fun _ _ _ _ => rfl, fun _ _ _ _ => rfl, fun _ _ _ _ => rfl⟩
theorem hToa : ToaSig sig := ⟨hTe, fun _ _ _ _ => rfl, fun _ _ _ _ => rfl⟩
theorem hTb : TbSig sig := ⟨hToa, fun _ _ _ _ => rfl, fun _ _ _ _ => rfl, fun _ _ _ _ => rfl⟩
theorem hUt : UtSig sig := ⟨fun _ _ _ _ => rfl, fun _ _ _ _ => rfl, fun _ _ _ _ => rfl⟩
theorem hCk : CkSig sig := ⟨hTb, hUt, fun _ _ _ => rfl, fun _ _ _ _ => rfl, fun _ _ _ _ => rfl, fun _ _ _ _ => rfl⟩
theorem hCf : CfSig sig := ⟨hCk, fun _ _ _ _ => rfl, fun _ _ _ _ => rfl⟩
theorem hBy : BySig sig := ⟨fun _ _ _ => rfl, fun _ _ _ => rfl, fun _ _ _ => rfl, fun _ _ _ => rfl, fun _ _ _ => rfl, fun _ _ _ _ => rfl⟩
theorem hT2 : Te2Sig sig := ⟨hCf, hBy⟩
def Znu (b o s n c : Int) (l : List Nd) : Nd := .mk [0, 0, 0, b, o, s, n, c] l
def env (g k : Nd) : Go.Eng.Env Nd := fun i => match i with | 0 => .rows [g.h] | 1 => .int 0 | 2 => .g g | 3 => .rows [k.h] | 4 => .int 0 | _ => .g k
theorem Zta {b o s n c : Int} {l : List Nd} (h1 : (l.length : Int) <= 9223372036854775807) (h2 : TGs l) : TG (Znu b o s n c l) := by
 rw [Zao]
 refine ⟨h1, ⟨?_, by show (-9223372036854775808 : Int) <= 0; omega, by show (0 : Int) <= 9223372036854775807; omega⟩, h2⟩
 exact (by decide : ((Go.Eng.decB 0).length : Int) <= 9223372036854775807)
theorem walk {v1 v2 : Value} {b o s n c b' o' s' n' c' : Int} {l l' : List Nd} {w : World} (h1 : TrIs w [v1] b o s n c l) (h2 : TrIs w [v2] b' o' s' n' c' l') (hT : Lib.Utf8Tabs 0 1 w) :
  Calls Tryz.prog 3 #[v1, v2] w fun e w' => e = .returned (.bool true) /\ Below w.heap.size w w' := by
 obtain ⟨e1, a1, a2, a3, a4⟩ := h1
 obtain ⟨e2, b1, b2, b3, b4⟩ := h2
 obtain rfl : v1 = _ := (List.cons.inj e1).1
 obtain rfl : v2 = _ := (List.cons.inj e2).1
 have t1 : TG (Znu b o s n c l) := Zta a3 a4
 have t2 : TG (Znu b' o' s' n' c' l') := Zta b3 b4
 have g1 : RT w (Znu b o s n c l) := (Zgr _).2 ⟨a1, a2⟩
 have g2 : RT w (Znu b' o' s' n' c' l') := (Zgr _).2 ⟨b1, b2⟩
 have := (ZHY sig hT2) (fun _ => true) w emp (env (Znu b o s n c l) (Znu b' o' s' n' c' l')) w [Go.Eng.opqV [b, o, s, n, c], Go.Eng.opqV [b', o', s', n', c']] ⟨.inr rfl, .inr rfl, trivial⟩ (fun e he => by
  simp only [Zwy, List.mem_cons, List.not_mem_nil, or_false] at he
  rcases he with rfl | rfl | rfl | rfl
  ·rw [Go.Eng.eLe_den, ZcU hA rfl]; exact Int.natCast_nonneg _
  ·rw [ZdT hA rfl]; exact t1
  ·rw [Go.Eng.eLe_den, ZcU hA rfl]; exact Int.natCast_nonneg _
  ·rw [ZdT hA rfl]; exact t2) (by
  obtain ⟨x, hx, hi⟩ := ZoS w
  refine ⟨x, ?_, hi⟩
  have hx : emp x := by rwa [Go.Eng.star_emp] at hx
  rw [Go.Eng.star_emp]
  show Zg ((rtC (rA 0) (ai 1) (gA 2)).den (sig.wc fun _ => true) _ w) (Zg ((rtC (rA 3) (ai 4) (gA 5)).den (sig.wc fun _ => true) _ w) (Zg (ZiT.den (sig.wc fun _ => true) _ w) emp)) x
  rw [Go.Eng.star_emp, Zc0 (T := sig.wc fun _ => true) hA rfl rfl, Zc0 (T := sig.wc fun _ => true) hA rfl rfl, Zjc (T := sig.wc fun _ => true) hCk rfl, Go.Eng.star_pure, Go.Eng.star_pure]
  exact ⟨⟨g1, rfl⟩, ⟨g2, rfl⟩, hT, hx⟩)
 refine this.mono ?_
 rintro e w' ⟨ρ', v, hx, rfl, hv, hs, hfa⟩
 have hv : v = .bool true := Go.Eng.R_one sig ρ' hv
 subst hv
 exact ⟨rfl, hs.below⟩
theorem ZqL : Rows.laid_unicode_utf8_first = Lib.firstData := by kernel_rfl
theorem Zno : (Rows.laid_unicode_utf8_acceptRanges : DataW Unit) = Lib.acceptData := by kernel_rfl
theorem tabs {W : World} (hL : laidMetH Tryz.prog Rows.tupleEncodesRow.laid W) : Lib.Utf8Tabs 0 1 W := by
 rw [MakeChecks.laidMetH_plain _ _ _ (by kernel_rfl)] at hL
 have h3 := Lib.laidMet.reads (n := "unicode/utf8.first") (d := Rows.laid_unicode_utf8_first) hL (by simp [Rows.tupleEncodesRow])
 have h4 := Lib.laidMet.reads (n := "unicode/utf8.acceptRanges") (d := Rows.laid_unicode_utf8_acceptRanges) hL (by simp [Rows.tupleEncodesRow])
 rw [ZqL] at h3
 rw [Zno] at h4
 exact utf8Tabs_of_readsT (ρ := Tryz.lays196_ren) (U8Types.of196 Tryz.lays196) ⟨by kernel_rfl, by kernel_rfl, by kernel_rfl, by kernel_rfl, by kernel_rfl, by kernel_rfl, by kernel_rfl⟩ h3 h4
theorem laid : laidOutB Tryz.prog = true := by kernel_rfl
theorem met (os : Os) : laidMetH Tryz.prog Rows.tupleEncodesRow.laid ((World.laidAll Tryz.prog os Rows.tupleEncodesRow.laid).forCall (fun _ _ => 0) ⟨#[], #[.slice none 0 0, .slice none 0 0], []⟩).memory := by
 rw [MakeChecks.laidMetH_plain _ _ _ (by kernel_rfl)]
 exact laidMet_laidAll _ (by kernel_rfl) (by kernel_rfl)
set_option maxRecDepth 100000 in
theorem Zat (H : Type) (enc : TypeId × Value -> H) (W : World) (base : Nat) (args : Array Value) (ds gs : List (DataW H)) (before : List MemPlace)
  (hval : ∀ (j : Nat) t v, Tryz.f3.params[j]? = some t -> args[j]? = some v -> Value.okWide Tryz.prog W .any base t v)
  (hW : DataW.Whole enc Tryz.prog Tryz.f3.params.toList Rows.tupleEncodesSpec.vars false W args.toList ds gs before) (hL : laidMetH Tryz.prog Rows.tupleEncodesRow.laid W) :
  Calls Tryz.prog 3 args W fun e W' => ∃ v, e = .returned v /\ Rows.tupleEncodesSpec.post enc Tryz.prog Tryz.f3 false true false false W args v W' := by
 have hW' := hW
 obtain ⟨p, q, hA0, hV, rfl, hfz, hnd⟩ := hW
 have hA : DataW.TrodAll enc Tryz.prog W 0 (fun _ => true) true Tryz.f3.params.toList args.toList ds p := hA0
 rw [Tryz.params3] at hA hval
 obtain ⟨v0, vs0, d0, ds0, p0, q0, hargs, rfl, rfl, h0, r0⟩ := trodAll_cons hA
 obtain ⟨v1, vs1, d1, ds1, p1, q1, rfl, rfl, rfl, h1, r1⟩ := trodAll_cons r0
 obtain ⟨rfl, rfl, rfl⟩ := trodAll_nil r1
 obtain rfl : args = #[v0, v1] := by cases args; simp_all
 obtain ⟨rfl, rfl⟩ := trodVars_none hV
 have hlt : ∀ x ∈ p0 ++ (p1 ++ []), x.block < W.heap.size := fun x hx => hW'.lt x (List.mem_append_left _ hx)
 have fin : ∀ (e : Ending) (W' : World), (e = .returned (.bool true) /\ Below W.heap.size W W') -> ∃ v, e = .returned v /\ Rows.tupleEncodesSpec.post enc Tryz.prog Tryz.f3 false true false false W #[v0, v1] v W' := by
  rintro e W' ⟨rfl, hb⟩
  clear hA0
  refine ⟨_, rfl, Zet (pa := p0 ++ (p1 ++ [])) (pv := []) hW' (fun _ _ _ => (trodAll_cons_mk (shut_bool Tryz.underlying4 _) trodAll_mk0)) ?_ (fun _ _ => rfl) rfl hb
   (ok_one (by kernel_rfl) rfl (okWide_bool_mk Tryz.underlying4 _))⟩
  intro sp hsp
  refine trodAll_cons_mk ?_ (trodAll_cons_mk ?_ trodAll_mk0)
  ·exact WideElems.Trod_stays laid (by kernel_rfl) (of_decide_eq_true (by kernel_rfl)) h0 (fun x hx => hb.same (hlt x (by simp [hx]))) (fun x hx => hsp x (by simp [hx]))
  ·exact WideElems.Trod_stays laid (by kernel_rfl) (of_decide_eq_true (by kernel_rfl)) h1 (fun x hx => hb.same (hlt x (by simp [hx]))) (fun x hx => hsp x (by simp [hx]))
 have g0 := Zqf (enc := enc) (W := W) (base := base) (v := v0) (d := d0) (ps := p0) Tryz.underlying22 Tryz.underlying43 (by kernel_rfl) rfl rfl rfl rfl (by kernel_rfl) (by kernel_rfl) (by kernel_rfl) (by kernel_rfl)
  Tryz.underlying3 Tryz.underlying2 Tryz.underlying9 rfl (hval 0 22 v0 rfl rfl) h0
 have g1 := Zqf (enc := enc) (W := W) (base := base) (v := v1) (d := d1) (ps := p1) Tryz.underlying22 Tryz.underlying43 (by kernel_rfl) rfl rfl rfl rfl (by kernel_rfl) (by kernel_rfl) (by kernel_rfl) (by kernel_rfl)
  Tryz.underlying3 Tryz.underlying2 Tryz.underlying9 rfl (hval 1 22 v1 rfl rfl) h1
 obtain ⟨b, o, s, n, c, l, g0⟩ := g0
 obtain ⟨b', o', s', n', c', l', g1⟩ := g1
 exact Calls.mono (walk g0 g1 (tabs hL)) fin
set_option maxRecDepth 100000 in
theorem ZHW (os : Os) (started : os.Started) (H : Type) (enc : TypeId × Value -> H) :
  ReturnsInHanded {} Tryz.checked os 3 .any (fun w args => (Rows.tupleEncodesSpec.pre enc Tryz.prog Tryz.f3 Rows.tupleEncodesRow.domain false w args /\ laidMetH Tryz.prog Rows.tupleEncodesRow.laid w) /\ sizedMet enc Tryz.prog Tryz.f3 (OpenSpec.ofChange Rows.tupleEncodesSpec) false w args)
   (Rows.tupleEncodesSpec.post enc Tryz.prog Tryz.f3 false true false false) := by
 refine returnsInHanded_of_change_and (C := Tryz.checked) (X := fun w _ => laidMetH Tryz.prog Rows.tupleEncodesRow.laid w) (fun _ _ _ hh h => h.of_heap hh) own started (by kernel_rfl) Tryz.func3
  (ChangeSpec.witness_shaped (enc := enc) (C := Tryz.checked) (os := os) (X := fun w _ => laidMetH Tryz.prog Rows.tupleEncodesRow.laid w) false (World.laidAll Tryz.prog os Rows.tupleEncodesRow.laid) #[.slice none 0 0, .slice none 0 0] 8 (World.laidAll_os _ _ _)
   (World.shaped_of_ZipB (by kernel_rfl) (by kernel_rfl)) (by kernel_rfl) (by kernel_rfl) (by kernel_rfl) (met os)) ?_
 intro W base args ds gs before hval hW _ _ hL _
 exact Zat H enc W base args ds gs before hval hW hL
theorem said : Rows.TupleEncodesSaid :=
 OpenClaim.holds_of_wide 3 Tryz.f3 rfl rfl rfl rfl rfl rfl rfl ⟨rfl, rfl, rfl, rfl, rfl⟩ rfl rfl rfl rfl rfl (by kernel_rfl) Tryz.func3 (by kernel_rfl)
  (of_decide_eq_true (by kernel_rfl)) (by unfold Func.isWrapper; first | (rw [if_pos (by decide +kernel)]; kernel_rfl) | (rw [if_neg (by decide +kernel)]; exact ⟨rfl, rfl⟩))
  (fun os started H enc _ => ZHW os started H enc)
theorem plain (f : FuncId) (fn : Func) (hf : Tryz.pinned.checked.prog.funcNamed "espalier/espalierlaw02.TupleEncodes" = some f) (hfn : Tryz.pinned.checked.prog.funcs[f]? = some fn) :
  true = Tryz.pinned.checked.prog.looks [] /\ ∀ (j : Nat) t, fn.params[j]? = some t -> Tryz.pinned.checked.prog.wantsStandIn t = false := by
 obtain rfl : f = 3 := Option.some.inj ((show Tryz.prog.funcNamed "espalier/espalierlaw02.TupleEncodes" = some 3 by kernel_rfl).symm.trans hf) |>.symm
 obtain rfl : fn = Tryz.f3 := (Option.some.inj (Tryz.func3.symm.trans hfn)).symm
 refine ⟨by kernel_rfl, fun j t ht => ?_⟩
 rw [Tryz.params3] at ht
 have hw : Tryz.pinned.checked.prog.wantsStandIn 22 = false := by kernel_rfl
 match j, ht with
 | 0, ht => cases ht; exact hw
 | 1, ht => cases ht; exact hw
 | j + 2, ht => simp at ht
theorem proved : Rows.TupleEncodesCardSaid :=
 Claim7.holds_tied_plain_at .later [] _ _ _ _ said (fun _ h => by cases h) (by kernel_rfl) (fun _ h => by cases h) tupleEncodes_row_tie rfl ⟨rfl, rfl⟩ (by kernel_rfl) rfl plain (by kernel_rfl)
#print axioms proved
end Go.Proofs.YtlmkcakhhbckhaaGreatDoor.tupleEncodes
