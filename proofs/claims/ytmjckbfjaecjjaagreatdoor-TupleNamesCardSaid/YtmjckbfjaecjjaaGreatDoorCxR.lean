/- A run with written-out values: tables of contracts; from a law's run to its statement. -/
import Derived.Test.YtmjckbfjaecjjaaGreatDoorCxQ
import Derived.ChangeSame
set_option linter.unusedVariables false
namespace Go.Cx
open Go.RowKit (Below)
open Go.ChangeShapes Go.WideShapes
section
variable {P : Program}
def TabOk (P : Program) (l : List (Nat × Option Cn)) : Prop := ∀ w0 f c, assoc l f = some (some c) → CallOk P w0 f c
def DTabOk (P : Program) (l : List (Nat × Cn)) : Prop := ∀ w0 f c, assoc l f = some c → DctrOk P w0 f c
theorem TabOk.nil : TabOk P [] := fun _ _ _ h => (by cases h)
theorem DTabOk.nil : DTabOk P [] := fun _ _ _ h => (by cases h)
theorem TabOk.none {f : Nat} {l : List (Nat × Option Cn)} (h : TabOk P l) : TabOk P ((f, .none) :: l) := by
  intro w0 g c hc
  unfold assoc at hc
  cases hb : Nat.beq f g
  · rw [hb] at hc; exact h w0 g c hc
  · rw [hb] at hc; cases hc
theorem TabOk.cons {f : Nat} {c : Cn} {l : List (Nat × Option Cn)} (h0 : ∀ w0, CallOk P w0 f c) (h : TabOk P l) : TabOk P ((f, some c) :: l) := by
  intro w0 g c' hc
  unfold assoc at hc
  cases hb : Nat.beq f g
  · rw [hb] at hc; exact h w0 g c' hc
  · rw [hb] at hc; cases hc; rw [← nbq hb]; exact h0 w0
theorem DTabOk.cons {f : Nat} {c : Cn} {l : List (Nat × Cn)} (h0 : ∀ w0, DctrOk P w0 f c) (h : DTabOk P l) : DTabOk P ((f, c) :: l) := by
  intro w0 g c' hc
  unfold assoc at hc
  cases hb : Nat.beq f g
  · rw [hb] at hc; exact h w0 g c' hc
  · rw [hb] at hc; cases hc; rw [← nbq hb]; exact h0 w0
end
theorem post_below {H : Type} {enc : TypeId × Value → H} {P : Program} {f : Func} {s : ChangeSpec} {apart fresh handsOn again : Bool} {W W' : World} {args : Array Value} {v : Value} {ds gs : List (DataW H)} {before pa pv : List MemPlace}
    (hW : DataW.Whole enc P f.params.toList s.vars apart W args.toList ds gs before)
    (hres : ∀ (b : Nat) (sp : Nat → Bool) (hd : Bool), DataW.TrodAll enc P W' b sp hd f.resultTypes.toList (v.resultList f.resultTypes.size) (s.fn H (ds ++ gs)).results [])
    (hargs : ∀ sp : Nat → Bool, (∀ p ∈ before, sp p.block = true) → DataW.TrodAll enc P W' 0 sp true f.params.toList args.toList (s.fn H (ds ++ gs)).args pa)
    (hvars : ∀ sp : Nat → Bool, (∀ p ∈ before, sp p.block = true) → DataW.TrodVars enc P W' sp s.vars (s.fn H (ds ++ gs)).vars pv)
    (hps : before = pa ++ pv) (hb : Below W.heap.size W W')
    (hok : ∀ (j : Nat) (t : TypeId) (r : Value), f.resultTypes[j]? = some t → (v.resultList f.resultTypes.size)[j]? = some r → Value.okWide P W' .any 0 t r) :
    s.post enc P f apart fresh handsOn again W args v W' := by
  have hlt := fun p (hp : p ∈ before) => hW.lt p hp
  have hold : ∀ p ∈ before, (fun b => decide (b < W.heap.size)) p.block = true := fun p hp => by simpa using hlt p hp
  refine ⟨ds, gs, before, [], pa, pv, hW, hres _ _ _, hargs _ hold, hvars _ hold, World.keptBut_mono (fun p hp => ⟨hp, ?_⟩) (hb.frame (· ∈ before)), fun _ => ?_⟩
  · rw [hps, List.mem_append] at hp; exact Or.inr hp
  · obtain ⟨_, _, _, _, _, hz, hn⟩ := hW
    refine ⟨hok, _, _, ([] ++ pa) ++ pv, ⟨[] ++ pa, pv, trodAll_append (hargs _ (fun _ _ => rfl)) (hres _ _ _), hvars _ (fun _ _ => rfl), rfl, fun b off hp => ?_, fun ha => ?_⟩, fun p hp _ => ?_⟩
    · have hp' : MemPlace.cell b off ∈ before := by rw [hps]; simpa using hp
      have h1 := hlt _ hp'
      rw [hb.frozen (p := ⟨b, off, none⟩) h1]
      exact hz b off hp'
    · have := hn ha
      rw [hps] at this
      simpa using this
    · rw [hps]; simpa using hp
end Go.Cx
