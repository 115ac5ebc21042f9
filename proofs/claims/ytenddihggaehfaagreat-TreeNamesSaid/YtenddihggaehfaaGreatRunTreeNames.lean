/- TreeNames answers true: its run, by the kernel. -/
import Derived.Test.YtenddihggaehfaaGreatPk5
import Derived.Test.YtenddihggaehfaaGreatProg
import Derived.KernelRfl
namespace Go.Proofs.YtenddihggaehfaaGreat.treeNames
open Go.Cx
noncomputable def tab : List (Nat × Option Cn) := [(62, some cmpC), (193, some sumC), (156, none), (218, none), (219, none), (253, none)]
theorem tab_ok : TabOk Tryz.prog tab := .cons (fun w0 => cmp_ok Tryz.func62 (by kernel_rfl) (by kernel_rfl) (by kernel_rfl) (by kernel_rfl)) <| .cons (fun w0 => sum_call w0 Tryz.func193 rfl (by kernel_rfl)) <| .none <| .none <| .none <| .none <| .nil
noncomputable def dtab : List (Nat × Cn) := [(104, catchC)]
theorem dtab_ok : DTabOk Tryz.prog dtab := .cons (fun w0 => catch_call w0) .nil
theorem run : yes (goS Tryz.prog tab dtab 200 0 6 [] H0 N0) = true := by kernel_rfl
end Go.Proofs.YtenddihggaehfaaGreat.treeNames
