/- The operations that write: that the symbolic run is the model's. The operations joined. -/
import Derived.Test.YtmjonggabppgaaaEngPf
set_option linter.unusedSimpArgs false
set_option linter.unusedVariables false
namespace Go.Eng
open Go.RowKit (Below)
section
variable {G : Type} (S : Sig G) (ρ : Env G) (w0 : World) {P : Program}
theorem lop_call {F : HProp} {st : St} {w : World} {K : SV → St → VC} {ev : Operand → Value} {o : Oper} {c : Call} (ho : o.op = .call c)
    (hst : HSt S w0 F st ρ w) (hL : ∀ x, (lk st.fr x).R S ρ (ev x)) (h : (lop P st (.call c) K).den S ρ) : LOk S ρ w0 F st K ((execOp ev o).run P w) := by
  have hh := h
  unfold lop at hh
  simp only at hh
  split at hh
  · rename_i hc ha ht
    exact lop_append S ρ w0 ho hc ha ht hst hL h
  · rename_i hc ha ht
    exact lop_copy S ρ w0 ho hc ha ht hst hL h
  · rename_i hc ha ht
    exact lop_clear S ρ w0 ho hc ha ht hst hL h
  · rename_i hc ha ht
    exact lop_delete S ρ w0 ho hc ha ht hst hL h
  · exact hh.elim
theorem lop_sound {F : HProp} {st : St} {o : Oper} {w : World} {K : SV → St → VC} {ev : Operand → Value} (hst : HSt S w0 F st ρ w) (hL : ∀ x, (lk st.fr x).R S ρ (ev x)) (h : (lop P st o.op K).den S ρ) :
    ∃ w', (∃ v, (execOp ev o).run P w = .ok (.value v) w' ∧ LPost S ρ w0 F st K w' v) ∨ ((execOp ev o).run P w = .ok .skip w' ∧ LPost S ρ w0 F st K w' undef) := by
  show LOk S ρ w0 F st K ((execOp ev o).run P w)
  have ho : ∃ o', o.op = o' := ⟨_, rfl⟩
  obtain ⟨o', ho⟩ := ho
  rw [ho] at h
  have hh := h
  unfold lop at hh
  simp only at hh
  split at hh
  · exact lop_alloc S ρ w0 ho hst h
  · exact lop_box S ρ w0 ho hst hL h
  · exact lop_makeSlice S ρ w0 ho hst hL h
  · exact lop_makeMap S ρ w0 ho hst h
  · exact lop_buildSlice S ρ w0 ho hst hL h
  · exact lop_store S ρ w0 ho hst hL h
  · exact lop_mapUpdate S ρ w0 ho hst hL h
  · exact lop_call S ρ w0 ho hst hL h
  · exact hh.elim
end
end Go.Eng
