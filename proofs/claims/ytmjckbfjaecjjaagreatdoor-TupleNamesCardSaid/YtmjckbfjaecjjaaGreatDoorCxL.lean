/- A run with written-out values: one operation, calls. -/
import Derived.Test.YtmjckbfjaecjjaaGreatDoorCxK
import Derived.RangeFuncIn
import Derived.RangeFuncLeaves
import Derived.RangeFuncRecord
import Derived.OrdersIn
set_option linter.unusedVariables false
set_option linter.unusedSimpArgs false
set_option linter.unnecessarySimpa false
namespace Go.Cx
open Go.RowKit (Below)
/-- In no round, or in this one. -/
def FF (ro : Option Nat) : Fence := { Fence.wide with round := ro }
theorem FF_fn (ro : Option Nat) (f : Nat) : (FF ro).fn f := trivial
theorem FF_depth (ro : Option Nat) : (FF ro).depth = none := rfl
theorem calls_FF {ro ro' : Option Nat} {P : Program} {f : FuncId} {args : Array Value} {w : World} {R : Ending → World → Prop} (h : CallsIn (FF ro) 0 P f args w R) : CallsIn (FF ro') 0 P f args w R := h
theorem round_FF {ro ro' : Option Nat} {P : Program} {l f : Nat} {tm : Array Value} {as bo : Code} {w : World} {R : Ending → World → Prop} (h : RoundIn (FF ro) 0 P l f tm as bo w R) : RoundIn (FF ro') 0 P l f tm as bo w R := h
section
variable {P : Program} {w0 : World}
/-- A function answers as this run of it says. -/
def CallOk (P : Program) (w0 : World) (f : Nat) (c : Cn) : Prop := ∀ args hp n σ w xs l, Rel w0 σ hp n w → VRs σ args xs → c args hp n = some l →
  (∃ v w', (callFunc f xs.toArray).run P w = .ok (.value v) w' ∧ Ret w0 σ n l v w') ∨
  ((callFunc f xs.toArray).run P w = .ok (.enter f xs.toArray) w ∧ CallsIn (FF none) 0 P f xs.toArray w (fun e w' => ∃ v, e = .returned v ∧ Ret w0 σ n l v w'))
/-- A function's body does. -/
def BodyOk (P : Program) (w0 : World) (f : Nat) (c : Cn) : Prop := ∀ args hp n σ w xs l, Rel w0 σ hp n w → VRs σ args xs → c args hp n = some l →
  (callFunc f xs.toArray).run P w = .ok (.enter f xs.toArray) w ∧ CallsIn (FF none) 0 P f xs.toArray w (fun e w' => ∃ v, e = .returned v ∧ Ret w0 σ n l v w')
theorem BodyOk.call {f : Nat} {c : Cn} (h : BodyOk P w0 f c) : CallOk P w0 f c := fun args hp n σ w xs l h1 h2 h3 => .inr (h args hp n σ w xs l h1 h2 h3)
def RoundOk (P : Program) (w0 : World) (l : Nat) (c : Cn) : Prop := ∀ args hp n σ w xs os p t, Rel w0 σ hp n w → VRs σ args xs → σ l = some (p, t) → c args hp n = some os →
  ∃ f tm as bo, (Instr.yield p xs.toArray).run P w = .ok (.round p f tm as bo) w ∧ RoundIn (FF none) 0 P p f tm as bo w (fun e w' => ∃ v, e = .returned v ∧ Ret w0 σ n os v w')
structure CsOk (P : Program) (w0 : World) (ctrs : List (Nat × Option Cn)) (bd rd : Nat → Cn) : Prop where
  ctr : ∀ f c, assoc ctrs f = some (some c) → CallOk P w0 f c
  bd : ∀ f, BodyOk P w0 f (bd f)
  rd : ∀ l, RoundOk P w0 l (rd l)
variable {σ : Sg} {hp : H} {n : Nat} {w : World} {k : KS} {φ : Out → Prop}
/-- What a call leads to. -/
def Leads (P : Program) (w0 : World) (σ : Sg) (n : Nat) (k : KS) (φ : Out → Prop) (w : World) (r : Result Next) : Prop :=
  (∃ v w', r = .ok (.value v) w' ∧ Goes w0 σ n k φ v w') ∨ (∃ w', r = .ok .skip w' ∧ Goes w0 σ n k φ undef w') ∨
  (∃ f xs, r = .ok (.enter f xs) w ∧ CallsIn (FF none) 0 P f xs w (fun e w' => ∃ v, e = .returned v ∧ Goes w0 σ n k φ v w')) ∨
  (∃ l f tm as bo, r = .ok (.round l f tm as bo) w ∧ RoundIn (FF none) 0 P l f tm as bo w (fun e w' => ∃ v, e = .returned v ∧ Goes w0 σ n k φ v w'))
theorem Leads.of_LR {s : Sem Next} (h : LR P w0 σ n w s k φ) : Leads P w0 σ n k φ w (s.run P w) := by
  obtain ⟨w', c, hp', n', σ', h1, hR, hx, hn, hk⟩ := h
  rcases h1 with ⟨v, h1, hv⟩ | ⟨h1, rfl⟩
  · exact .inl ⟨v, w', h1, c, hp', n', σ', hv, hR, hx, hn, hk⟩
  · exact .inr (.inl ⟨w', h1, _, hp', n', σ', VR_unit, hR, hx, hn, hk⟩)
theorem Leads.wpIn {o : Oper} {ro : Option Nat} {a : Act} {next : Act → World → Prop} {Q : Exit → Act → World → Prop} (hnd : ∀ c, o.op ≠ .defer c) (h : Leads P w0 σ n k φ w ((execOp a.eval o).run P w))
    (hnext : ∀ v w', Goes w0 σ n k φ v w' → next (a.put o.dst v) w') : o.wpIn (FF ro) 0 P a w next Q := by
  refine ⟨fun f _ => trivial, ?_⟩
  rw [show (FF ro).round = ro from rfl, Oper.semAt_eq ro a.eval o hnd]
  rcases h with ⟨v, w', h, g⟩ | ⟨w', h, g⟩ | ⟨f, xs, h, g⟩ | ⟨l, f, tm, as, bo, h, g⟩
  · rw [h]; exact hnext _ _ g
  · rw [h]; exact hnext _ _ g
  · rw [h, Oper.uponIn_enter]
    refine ⟨fun h => (by cases h), CallsIn.mono (calls_FF g) fun e w' he => ?_⟩
    obtain ⟨v, rfl, hg⟩ := he
    exact hnext _ _ hg
  · rw [h, Oper.uponIn_round]
    refine ⟨fun h => (by cases h), RoundIn.mono (round_FF g) fun e w' he => ?_⟩
    obtain ⟨v, rfl, hg⟩ := he
    exact hnext _ _ hg
theorem Leads.of_call {mg : Bool} {f : Nat} {c : Cn} {args : List CV} {xs : List Value} (hc : CallOk P w0 f c) (hR : Rel w0 σ hp n w) (hx : VRs σ args xs) (h : Good (after mg n (c args hp n) k) φ) :
    Leads P w0 σ n k φ w ((callFunc f xs.toArray).run P w) := by
  obtain ⟨l, hl, hg⟩ := after_sound h
  rcases hc args hp n σ w xs l hR hx hl with ⟨v, w', h1, h2⟩ | ⟨h1, h2⟩
  · exact .inl ⟨v, w', h1, hg _ _ h2⟩
  · refine .inr (.inr (.inl ⟨f, _, h1, CallsIn.mono h2 fun e w' he => ?_⟩))
    obtain ⟨v, rfl, hr⟩ := he
    exact ⟨v, rfl, hg _ _ hr⟩
variable {ctrs : List (Nat × Option Cn)} {bd rd : Nat → Cn}
theorem callF_sound (hC : CsOk P w0 ctrs bd rd) (hR : Rel w0 σ hp n w) {f : Nat} {args : List CV} {xs : List Value} (hx : VRs σ args xs) (h : Good (callF ctrs bd f args hp n k) φ) :
    Leads P w0 σ n k φ w ((callFunc f xs.toArray).run P w) := by
  unfold callF at h
  split at h
  · rename_i c hc
    split at h
    · exact Leads.of_call (hC.ctr _ _ hc) hR hx h
    · exact Leads.of_call (hC.bd f).call hR hx h
  · exact Leads.of_call (hC.bd f).call hR hx h
theorem methodAt_run {t f : Nat} {name : String} (h : methodAt P t name = some f) (v : Value) (w : World) : (method (P.types.size + Made.depth) t v name).run P w = .ok (f, v) w := by
  unfold methodAt at h
  split at h
  · rename_i i hi
    have hsz : 0 < P.types.size := by
      unfold tyI at hi
      rw [look_eq, Array.getElem?_toList] at hi
      have := (Array.getElem?_eq_some_iff.1 hi).1; omega
    obtain ⟨fu, hfu⟩ : ∃ fu, P.types.size + Made.depth = fu + 1 := ⟨P.types.size + Made.depth - 1, by omega⟩
    rw [hfu]
    have hi := tyI_info hi
    rw [findM_eq, Array.find?_toList] at h
    split at h
    · rename_i m hm
      split at h
      · rename_i f' e hp hf ht
        cases h
        have hu := tyD_und ht
        simp [method, typeInfo, hi, hm, hp, follow, hf, receiverAt, run_underlying hu, Place.get]
      · cases h
      · rename_i f' d hd hp hf ht
        cases h
        have hu := tyD_und ht
        cases d <;> first | exact (hd _ rfl).elim | exact (hd _ _ rfl).elim | exact (hd _ _ hf rfl).elim | simp [method, typeInfo, hi, hm, hp, follow, hf, receiverAt, run_underlying hu, Place.get]
      · cases h
    · cases h
  · cases h
end
end Go.Cx
