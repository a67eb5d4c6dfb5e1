/- The shelf's contracts laid over this seat, in plain words (printed by program). -/
import Derived.Test.YtfdpannanpipdaaChecked
import Derived.Shelf.Slices.Cells
set_option linter.unusedVariables false
set_option linter.unusedSimpArgs false
namespace Go.Proofs
open Go.Shelf
def Try.deleteLays_ren : Go.Shelf.Ren := ⟨fun | 23 => 105 | n => n, fun | 22 => 30 | 3 => 3 | 4 => 4 | 0 => 0 | n => n, fun | n => n⟩
theorem Try.deleteLays : Go.Proofs.Lays2.n23 Try.prog Try.deleteLays_ren := {
  mixed := by kernel_rfl
  f23 := Try.func105.trans (congrArg some (by kernel_rfl))
  t0 := Try.underlying0
  a0 := Try.isAgg0
  z0 := Try.sizeOf0
  v0 := Try.zeroValue0
  t3 := Try.underlying3
  a3 := Try.isAgg3
  z3 := Try.sizeOf3
  v3 := Try.zeroValue3
  t4 := Try.underlying4
  a4 := Try.isAgg4
  z4 := Try.sizeOf4
  v4 := Try.zeroValue4
  t22 := Try.underlying30
  a22 := Try.isAgg30
  z22 := Try.sizeOf30
  v22 := Try.zeroValue30
  i3 := by kernel_rfl }
end Go.Proofs
