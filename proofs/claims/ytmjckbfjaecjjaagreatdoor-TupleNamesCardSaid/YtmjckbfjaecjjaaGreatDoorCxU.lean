/- The staged run: code. -/
import Derived.Test.YtmjckbfjaecjjaaGreatDoorCxTd
import Derived.Test.YtmjckbfjaecjjaaGreatDoorCxOb
set_option linter.unusedVariables false
set_option linter.unusedSimpArgs false
set_option linter.unnecessarySimpa false
namespace Go.Cx
open Go.RowKit (Below)
section
variable {P : Program} {w0 : World} {φ : Out → Prop} {ctrs : List (Nat × Option Cn)} {bd rd : Nat → Cn} {ro : Option Nat}
theorem FrR.nj' {σ : Sg} {fr : F} {a : Act} (h : FrR σ fr a) : NJ' fr := ⟨h.nj, by rw [h.sz]; exact h.small⟩
/-- What a code's run says, whatever follows it. -/
def SxOk (P : Program) (w0 : World) (ctrs : List (Nat × Option Cn)) (bd rd : Nat → Cn) (ro : Option Nat) (fn : Nat) (vro : Option Nat) (φ : Out → Prop) (c : Code) : Prop :=
  ∀ {σ : Sg} {fr : F} {hp : H} {n : Nat} {kn : F → H → Nat → Res} {ke : Nat → F → H → Nat → Res} {kr : F → H → Nat → Res} {a : Act} {w : World} {Q : Exit → Act → World → Prop},
    ((vro = none ∧ ro = none) ∨ ∃ l p t, vro = some l ∧ ro = some p ∧ σ l = some (p, t)) →
    Rel w0 σ hp n w → FrR σ fr a → RoOk ro fr → Good ((sCode P ctrs fn c).run bd rd vro fr hp n kn ke kr) φ → (∀ c a w, ¬ Q (.panic c) a w) →
    (∀ σ' fr' hp' n' a' w', St w0 ro σ n σ' fr' hp' n' a' w' → Good (kn fr' hp' n') φ → Q .normal a' w') →
    (∀ i σ' fr' hp' n' a' w', St w0 ro σ n σ' fr' hp' n' a' w' → Good (ke i fr' hp' n') φ → Q (.exit i) a' w') →
    (∀ σ' fr' hp' n' a' w', St w0 ro σ n σ' fr' hp' n' a' w' → Good (kr fr' hp' n') φ → Q .ret a' w') → c.wpIn (FF ro) 0 P Q a w
theorem vnext {vro : Option Nat} {σ σ' : Sg} {n n' : Nat} {fr' : F} {hp' : H} {a' : Act} {w' : World} (hvro : (vro = none ∧ ro = none) ∨ ∃ l p t, vro = some l ∧ ro = some p ∧ σ l = some (p, t)) (hS : St w0 ro σ n σ' fr' hp' n' a' w') :
    (vro = none ∧ ro = none) ∨ ∃ l p t, vro = some l ∧ ro = some p ∧ σ' l = some (p, t) := by
  rcases hvro with h | ⟨l, p, t, h1, h2, h3⟩
  · exact .inl h
  · exact .inr ⟨l, p, t, h1, h2, hS.ex.1 _ _ h3⟩
theorem sLoop_sound {fn : Nat} {vro : Option Nat} {b : Code} (hb : SxOk P w0 ctrs bd rd ro fn vro φ b) {kn : F → H → Nat → Res} {ke : Nat → F → H → Nat → Res} {kr : F → H → Nat → Res} {Q : Exit → Act → World → Prop} (hQp : ∀ c a w, ¬ Q (.panic c) a w) :
    ∀ (fuel : Nat) {σ : Sg} {fr : F} {hp : H} {n : Nat} {a : Act} {w : World},
    ((vro = none ∧ ro = none) ∨ ∃ l p t, vro = some l ∧ ro = some p ∧ σ l = some (p, t)) →
    Rel w0 σ hp n w → FrR σ fr a → RoOk ro fr → Good (sLoop (sCode P ctrs fn b) bd rd vro kn ke kr fuel fr hp n) φ →
    (∀ i σ' fr' hp' n' a' w', St w0 ro σ n σ' fr' hp' n' a' w' → Good (ke i fr' hp' n') φ → Q (.exit i) a' w') →
    (∀ σ' fr' hp' n' a' w', St w0 ro σ n σ' fr' hp' n' a' w' → Good (kr fr' hp' n') φ → Q .ret a' w') → WpL (FF ro) P b Q a w := by
  intro fuel
  induction fuel with
  | zero => intro σ fr hp n a w _ _ _ _ h; exact h.no.elim
  | succ fuel ih =>
    intro σ fr hp n a w hvro hR hF hro h hE hK
    have h : Good ((sCode P ctrs fn b).run bd rd vro fr hp n (sLoop (sCode P ctrs fn b) bd rd vro kn ke kr fuel) ke kr) φ := h
    refine wpL_step (hb hvro hR hF hro h (fun c a w => hQp c a w) ?_ ?_ ?_)
    · intro σ1 fr1 hp1 n1 a1 w1 hS h1
      exact ih (vnext hvro hS) hS.rel hS.fr hS.ro h1 (fun _ _ _ _ _ _ _ hS2 => hE _ _ _ _ _ _ _ (St.trans hS.ex hS.n hS2)) (fun _ _ _ _ _ _ hS2 => hK _ _ _ _ _ _ (St.trans hS.ex hS.n hS2))
    · exact fun i σ1 fr1 hp1 n1 a1 w1 hS h1 => hE _ _ _ _ _ _ _ hS h1
    · exact fun σ1 fr1 hp1 n1 a1 w1 hS h1 => hK _ _ _ _ _ _ hS h1
theorem sx_sound (hC : CsOk P w0 ctrs bd rd) {fn : Nat} {vro : Option Nat} : ∀ (c : Code), SxOk P w0 ctrs bd rd ro fn vro φ c := by
  intro c
  induction c with
  | skip => intro σ fr hp n kn ke kr a w Q hvro hR hF hro h hQp hN hE hK; exact wpIn_skip (hN _ _ _ _ _ _ ⟨hR, hF, hro, Ex.refl _ _, Nle.refl _⟩ h)
  | label l => intro σ fr hp n kn ke kr a w Q hvro hR hF hro h hQp hN hE hK; exact wpIn_label (hN _ _ _ _ _ _ ⟨hR, hF, hro, Ex.refl _ _, Nle.refl _⟩ h)
  | exit id => intro σ fr hp n kn ke kr a w Q hvro hR hF hro h hQp hN hE hK; exact wpIn_exit (hE _ _ _ _ _ _ _ ⟨hR, hF, hro, Ex.refl _ _, Nle.refl _⟩ h)
  | ret => intro σ fr hp n kn ke kr a w Q hvro hR hF hro h hQp hN hE hK; exact wpIn_ret (hK _ _ _ _ _ _ ⟨hR, hF, hro, Ex.refl _ _, Nle.refl _⟩ h)
  | seq x y ihx ihy =>
    intro σ fr hp n kn ke kr a w Q hvro hR hF hro h hQp hN hE hK
    have h : Good ((sCode P ctrs fn x).run bd rd vro fr hp n (fun fr hp n => (sCode P ctrs fn y).run bd rd vro fr hp n kn ke kr) ke kr) φ := h
    refine wpIn_seq (ihx hvro hR hF hro h (fun c a w => hQp c a w) ?_ ?_ ?_)
    · intro σ1 fr1 hp1 n1 a1 w1 hS h1
      exact ihy (vnext hvro hS) hS.rel hS.fr hS.ro h1 hQp (fun _ _ _ _ _ _ hS2 => hN _ _ _ _ _ _ (St.trans hS.ex hS.n hS2)) (fun _ _ _ _ _ _ _ hS2 => hE _ _ _ _ _ _ _ (St.trans hS.ex hS.n hS2)) (fun _ _ _ _ _ _ hS2 => hK _ _ _ _ _ _ (St.trans hS.ex hS.n hS2))
    · exact fun i σ1 fr1 hp1 n1 a1 w1 hS h1 => hE _ _ _ _ _ _ _ hS h1
    · exact fun σ1 fr1 hp1 n1 a1 w1 hS h1 => hK _ _ _ _ _ _ hS h1
  | cond x b1 b2 ih1 ih2 =>
    intro σ fr hp n kn ke kr a w Q hvro hR hF hro h hQp hN hE hK
    have h : Good (isBool ((sOpd x).run fr) (fun q => @Bool.rec (fun _ => Res) ((sCode P ctrs fn b2).run bd rd vro fr hp n kn ke kr) ((sCode P ctrs fn b1).run bd rd vro fr hp n kn ke kr) q) none) φ := h
    have hx := lk_R hF x
    rw [sOpd_eq hF.nj, isBool_eq] at h
    split at h
    · rename_i b he
      rw [he] at hx; simp only [VR] at hx
      cases b
      · exact wpIn_cond_false hx (ih2 hvro hR hF hro h hQp hN hE hK)
      · exact wpIn_cond_true hx (ih1 hvro hR hF hro h hQp hN hE hK)
    · exact h.no.elim
  | block id b ih =>
    intro σ fr hp n kn ke kr a w Q hvro hR hF hro h hQp hN hE hK
    have h : Good ((sCode P ctrs fn b).run bd rd vro fr hp n kn (fun i fr hp n => @Bool.rec (fun _ => Res) (ke i fr hp n) (kn fr hp n) (Nat.beq i id)) kr) φ := h
    refine wpIn_block (ih hvro hR hF hro h (fun c a w => hQp c a w) (fun _ _ _ _ _ _ hS h1 => hN _ _ _ _ _ _ hS h1) (fun i σ1 fr1 hp1 n1 a1 w1 hS h1 => ?_) (fun _ _ _ _ _ _ hS h1 => hK _ _ _ _ _ _ hS h1))
    show (if i = id then Q .normal a1 w1 else Q (.exit i) a1 w1)
    cases hb : Nat.beq i id
    · rw [hb] at h1
      rw [if_neg (fun e => by rw [e, Nat.beq_refl] at hb; cases hb)]
      exact hE _ _ _ _ _ _ _ hS h1
    · rw [hb] at h1
      rw [if_pos (nbq hb)]
      exact hN _ _ _ _ _ _ hS h1
  | loop b ih =>
    intro σ fr hp n kn ke kr a w Q hvro hR hF hro h hQp hN hE hK
    have h : Good (sLoop (sCode P ctrs fn b) bd rd vro kn ke kr loopFuel fr hp n) φ := h
    exact wpL_loop (sLoop_sound ih hQp loopFuel hvro hR hF hro h hE hK)
  | rangeFunc g ps assign body _ _ =>
    intro σ fr hp n kn ke kr a w Q hvro hR hF hro h hQp hN hE hK
    exact cx_range hC hvro hR hF hro h hN hE hK
  | region id ops draw =>
    intro σ fr hp n kn ke kr a w Q hvro hR hF hro h hQp hN hE hK
    have h : Good ((sRegion P ctrs ops draw).run bd rd fr hp n kn) φ := h
    cases draw
    · have h : Good ((sSeq P ctrs ops.toList ops.toList).run bd rd fr hp n kn) φ := h
      rw [sSeq_eq _ hF.nj'] at h
      refine wpIn_region ?_
      have := seqO_sound (ro := ro) (Q := Q) hC ops.toList 0 (by simp) hR hF hro h hN
      rw [List.range_eq_range']; simpa using this
    · unfold sRegion at h
      simp only at h
      cases hm : (bif P.follows .mixedOrders then (bif Region.noSelect ops then noDefer ops.toList else false) else false)
      · rw [hm] at h; exact h.no.elim
      rw [hm] at h
      simp only at h
      obtain ⟨hm1, hm2⟩ := bif_t hm
      obtain ⟨hns, hnd⟩ := bif_t hm2
      obtain ⟨hfit, h3⟩ := h.bif
      rw [drawS_eq _ _ _ _ _ _ _ _ (Msk.zero ops.size) hF.nj'] at h3
      have hfit := Nat.le_of_ble_eq_true hfit
      have hlim := hR.lim
      have hn1 : Nle n (n + countA ops.toList) ∧ idN (n + countA ops.toList) = idN n + countA ops.toList := by unfold Nle idN limN at *; omega
      refine wpIn_region_any hm1 (wpAny_of_S _ _ _ _ (drawR_sound hC hns (noDefer_spec hnd) hQp _ _ [] [] σ hp (n + countA ops.toList) fr (fun _ => False) [] ops.size a _ ((hR.weak (fun _ => .inl rfl) hn1.1).drew _) hF hro ?_ ?_ (fun _ h => h.elim) (fun s hs => nomatch hs) (fun s hs => nomatch hs) ?_ h3 ?_))
      · refine ⟨by rw [hn1.2]; exact Nat.le_refl _, fun j o hj _ ha => hR.fresh _ (Nat.le_add_right _ _) ?_, fun j i hm => (nomatch hm), fun j i hm => (nomatch hm), fun j i j' i' hm => (nomatch hm)⟩
        have := rankA_lt (l := ops.toList) (j := j) (by rw [Array.getElem?_toList]; exact hj) ha
        omega
      · intro j o hj hl
        have hlt : j < ops.size := (Array.getElem?_eq_some_iff.1 hj).1
        simp [hlt] at hl
      · unfold left
        exact Nat.le_trans List.countP_le_length (by simp)
      · intro σ' fr' hp' n' a' w' r1 r2 r3 r4 r5 r6 r7
        refine hN _ _ _ _ _ _ ⟨r1, r2, r3, ⟨r4, fun i hi => r5 i (by rw [hn1.1.2]; exact hi)⟩, hn1.1.trans r6⟩ r7
  | _ =>
    intro σ fr hp n kn ke kr a w Q hvro hR hF hro h hQp hN hE hK
    exact h.no.elim
end
end Go.Cx
