/- CacheMakes answers true: its run, by the kernel. -/
import Derived.Test.YtenddihggaehfaaPk5
import Derived.Test.YtenddihggaehfaaProg
import Derived.KernelRfl
namespace Go.Proofs.Ytenddihggaehfaa.cacheMakes
open Go.Cx
noncomputable def tab : List (Nat × Option Cn) := [(99, some cloneC), (33, none), (54, none), (56, none), (71, none), (78, none), (95, none)]
theorem tab_ok : TabOk Try.prog tab := .cons (fun w0 => clone_ok Try.func99 (by kernel_rfl) (by kernel_rfl) (by kernel_rfl) (by kernel_rfl)) <| .none <| .none <| .none <| .none <| .none <| .none <| .nil
noncomputable def dtab : List (Nat × Cn) := []
theorem dtab_ok : DTabOk Try.prog dtab := .nil
theorem run : yes (goS Try.prog tab dtab 200 0 6 [] H0 N0) = true := by kernel_rfl
end Go.Proofs.Ytenddihggaehfaa.cacheMakes
