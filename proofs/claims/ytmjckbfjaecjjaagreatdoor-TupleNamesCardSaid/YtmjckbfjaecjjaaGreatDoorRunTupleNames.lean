/- TupleNames answers true: its run, by the kernel. -/
import Derived.Test.YtmjckbfjaecjjaaGreatDoorCxR
import Derived.Test.YtmjckbfjaecjjaaGreatDoorBld
import Derived.Test.YtmjckbfjaecjjaaGreatDoorProg
import Derived.KernelRfl
namespace Go.Proofs.YtmjckbfjaecjjaaGreatDoor.tupleNames
open Go.Cx
noncomputable def tab : List (Nat × Option Cn) := [(144, some ibsC), (46, some chkC), (18, some strC)]
theorem tab_ok : TabOk Tryz.prog tab := .cons (fun w0 => ibs_ok Tryz.func144 (by kernel_rfl) (by kernel_rfl) (by kernel_rfl) (by kernel_rfl)) <| .cons (fun w0 => chk_call w0) <| .cons (fun w0 => str_call w0) <| .nil
noncomputable def dtab : List (Nat × Cn) := []
theorem dtab_ok : DTabOk Tryz.prog dtab := .nil
theorem run : yes (goS Tryz.prog tab dtab 200 0 3 [] H0 N0) = true := by kernel_rfl
end Go.Proofs.YtmjckbfjaecjjaaGreatDoor.tupleNames
