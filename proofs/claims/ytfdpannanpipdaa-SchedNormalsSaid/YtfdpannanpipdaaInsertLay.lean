/- The shelf's contracts laid over this seat, in plain words (printed by program). -/
import Derived.Test.YtfdpannanpipdaaChecked
import Derived.Shelf.Spec.SlicesInsert
import Derived.Shelf.Spec.SlicesInsertGrow
set_option linter.unusedVariables false
set_option linter.unusedSimpArgs false
namespace Go.Proofs
open Go.Shelf
def Try.insertLays_ren : Go.Shelf.Ren := ⟨fun | 21 => 102 | 27 => 130 | 28 => 131 | 35 => 141 | 39 => 156 | n => n, fun | 22 => 30 | 3 => 3 | 4 => 4 | 0 => 0 | n => n, fun | n => n⟩
theorem Try.insertLays : Go.Proofs.Lays2.n21 Try.prog Try.insertLays_ren := {
  mixed := by kernel_rfl
  f21 := Try.func102.trans (congrArg some (by kernel_rfl))
  f27 := Try.func130.trans (congrArg some (by kernel_rfl))
  f28 := Try.func131.trans (congrArg some (by kernel_rfl))
  f35 := Try.func141.trans (congrArg some (by kernel_rfl))
  f39 := Try.func156.trans (congrArg some (by kernel_rfl))
  t0 := Try.underlying0
  a0 := Try.isAgg0
  z0 := Try.sizeOf0
  v0 := Try.zeroValue0
  t3 := Try.underlying3
  a3 := Try.isAgg3
  z3 := Try.sizeOf3
  v3 := Try.zeroValue3
  t4 := Try.underlying4
  a4 := Try.isAgg4
  z4 := Try.sizeOf4
  v4 := Try.zeroValue4
  t22 := Try.underlying30
  a22 := Try.isAgg30
  z22 := Try.sizeOf30
  v22 := Try.zeroValue30
  i3 := by kernel_rfl }
end Go.Proofs
