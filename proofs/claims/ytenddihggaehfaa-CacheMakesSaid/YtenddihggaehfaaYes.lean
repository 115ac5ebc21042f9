/- A closed call that answers true, as a contract of the symbolic engine. -/
import Derived.Test.YtenddihggaehfaaPk5
set_option linter.unusedVariables false
namespace Go.Eng
open Go.RowKit (Below)
/-- A contract with nothing ahead: true, and what was stays as it was. -/
def yesC : Ctr := { ss := [], args := [], pre := [], reqs := [], ps := [], res := .one (.bool (.bool true)), post := [], facts := [] }
theorem yesC_ok {G : Type} (S : Sig G) {P : Program} {f : FuncId} (h : ∀ w, Calls P f #[] w fun e w' => e = .returned (.bool true) ∧ Below w.heap.size w w') : CtrOk S P f yesC := by
  intro ch w0 F ρ w xs hx _ hs
  have hxs : xs = [] := by
    cases xs with
    | nil => rfl
    | cons x xs => exact hx.elim
  subst hxs
  refine (h w).mono ?_
  rintro e w' ⟨rfl, hb⟩
  refine ⟨ρ, .bool true, Ext.refl _ _, rfl, .inr rfl, ?_, fun x hx => nomatch hx⟩
  obtain ⟨y, hy, hi⟩ := hs
  refine ⟨y, hy, ⟨fun b o v z he => ?_, fun b o x he => ?_, hi.below.trans ⟨hb.os, hb.tape, hb.output, hb.size, fun k hk => hb.block k (Nat.lt_of_lt_of_le hk hi.below.size)⟩⟩⟩
  · obtain ⟨h1, h2, h3, h4⟩ := hi.cell b o v z he
    have hlt : b < w.heap.size := by
      unfold World.cell? at h2
      cases hh : w.heap[b]? with
      | none => rw [hh] at h2; cases h2
      | some q => exact (Array.getElem?_eq_some_iff.1 hh).1
    have e1 : w'.heap[b]? = w.heap[b]? := hb.block b hlt
    refine ⟨h1, ?_, ?_, fun hz => ?_⟩
    · unfold World.cell? at h2 ⊢; rw [e1]; exact h2
    · unfold World.frozen? at h3 ⊢; rw [e1]; exact h3
    · obtain ⟨c, e, h5⟩ := h4 hz; exact ⟨c, e, by rw [e1]; exact h5⟩
  · obtain ⟨h1, h2, h3, h4⟩ := hi.obj b o x he
    have hlt : b < w.heap.size := (Array.getElem?_eq_some_iff.1 h3).1
    exact ⟨h1, h2, by rw [hb.block b hlt]; exact h3, h4⟩
/-- A law of one integer, out of its contract. -/
def lawI (lo hi : Int) : Ctr := { ss := [.int], args := [.one (.int .i64 (.at .int 0))], pre := [], reqs := [eLe (.int lo) (.at .int 0), eLe (.at .int 0) (.int hi)], ps := [.bool], res := .one (.bool (.at .bool 1)), post := [], facts := [.at .bool 1] }
end Go.Eng
