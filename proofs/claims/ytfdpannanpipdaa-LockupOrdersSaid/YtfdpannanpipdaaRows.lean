/-
  No cell of these rows narrows 'for every input' (looked for: loops, veiled, ifaces, maps, wideKeys, modest, calm, conditions, laid).
  DERIVED. THE GIVEN ROWS OF THIS SEAT. 8 by the template 'for every input the law returns true; each argument reads behind the call as it read before'; 0 by the template 'total and deterministic' (their statements: YtfdpannanpipdaaTotals.lean).
  GIVEN WITH THE SEED: the statements are not yours to turn. If you find one false, say at which input.
  Laid BY PROGRAM, IN A SANDBOX (cutbox-rows.mjs): the forced cells as the released guide's own fill.sh prints them over the translation 28b873a23cb2bd75… (all of the seat's roots in one cut). By AI agents, Wed Nov 11 2026. No macro, syntax, notation, axiom, sorry.
-/
import Derived.Test.YtfdpannanpipdaaChecked
import GoSem.Claim
import GoSem.ClaimJoined
import GoSem.ClaimMapViews
import Derived.JoinedTies
import Derived.KernelRfl
namespace Go.Proofs.Ytfdpannanpipdaa
/- THE CELL 'sum', in the pinned program and in every row, IS THE sha256 OF THE DUMP (.gsa) THAT YtfdpannanpipdaaProg.lean LOADS. Nothing in Lean hashes anything: it is a label: what it is worth is what the hold of that sum in a sandbox is worth. -/
noncomputable def Try.pinned : Pinned := { name := "ytfdpannanpipdaa", sum := "28b873a23cb2bd75e847879dac35e8b6f51c8123a4d9016e6449ef7d39318b03", checked := Try.checked }
namespace Rows
def none {H : Type} : Left H := { results := [], args := [] }

/-- 'backstitchlaw4.WatchTells': WHATEVER THE INPUT: true; the input reads as it did. -/
def watchTellsSpec : ChangeSpec := { name := "watchTells", fn := fun _ => fun
  | [d1, d2, d3, d4] => { results := [.lit (.bool true)], args := [d1, d2, d3, d4] }
  | _ => none }
def watchTellsRow : OpenClaim := { program := "ytfdpannanpipdaa", sum := "28b873a23cb2bd75e847879dac35e8b6f51c8123a4d9016e6449ef7d39318b03", func := "backstitch/backstitchlaw4.WatchTells", spec := "watchTells", unfollowed := true, recurses := true, plainKeys := false, apart := false }
def WatchTellsSaid : Prop := watchTellsRow.holds Try.pinned (OpenSpec.ofChange watchTellsSpec)

/-- ITS FALSE NEIGHBOUR: 'it returns false'. Refute it at one input. -/
def watchTellsWrong : ChangeSpec := { name := "watchTells", fn := fun _ => fun
  | [d1, d2, d3, d4] => { results := [.lit (.bool false)], args := [d1, d2, d3, d4] }
  | _ => none }
def WatchTellsWrongFalsely : Prop := watchTellsRow.holds Try.pinned (OpenSpec.ofChange watchTellsWrong)

/-- 'backstitchlaw4.SpoolPuts': WHATEVER THE INPUT: true; the input reads as it did. -/
def spoolPutsSpec : ChangeSpec := { name := "spoolPuts", fn := fun _ => fun
  | [d1, d2, d3] => { results := [.lit (.bool true)], args := [d1, d2, d3] }
  | _ => none }
def spoolPutsRow : OpenClaim := { program := "ytfdpannanpipdaa", sum := "28b873a23cb2bd75e847879dac35e8b6f51c8123a4d9016e6449ef7d39318b03", func := "backstitch/backstitchlaw4.SpoolPuts", spec := "spoolPuts", unfollowed := true, recurses := true, plainKeys := false, apart := false }
def SpoolPutsSaid : Prop := spoolPutsRow.holds Try.pinned (OpenSpec.ofChange spoolPutsSpec)

/-- ITS FALSE NEIGHBOUR: 'it returns false'. Refute it at one input. -/
def spoolPutsWrong : ChangeSpec := { name := "spoolPuts", fn := fun _ => fun
  | [d1, d2, d3] => { results := [.lit (.bool false)], args := [d1, d2, d3] }
  | _ => none }
def SpoolPutsWrongFalsely : Prop := spoolPutsRow.holds Try.pinned (OpenSpec.ofChange spoolPutsWrong)

/-- 'backstitchlaw4.SchedNumbers': WHATEVER THE INPUT: true; the input reads as it did. -/
def schedNumbersSpec : ChangeSpec := { name := "schedNumbers", fn := fun _ => fun
  | [d1, d2, d3] => { results := [.lit (.bool true)], args := [d1, d2, d3] }
  | _ => none }
def schedNumbersRow : OpenClaim := { program := "ytfdpannanpipdaa", sum := "28b873a23cb2bd75e847879dac35e8b6f51c8123a4d9016e6449ef7d39318b03", func := "backstitch/backstitchlaw4.SchedNumbers", spec := "schedNumbers", recurses := true, plainKeys := false, apart := false }
def SchedNumbersSaid : Prop := schedNumbersRow.holds Try.pinned (OpenSpec.ofChange schedNumbersSpec)

/-- ITS FALSE NEIGHBOUR: 'it returns false'. Refute it at one input. -/
def schedNumbersWrong : ChangeSpec := { name := "schedNumbers", fn := fun _ => fun
  | [d1, d2, d3] => { results := [.lit (.bool false)], args := [d1, d2, d3] }
  | _ => none }
def SchedNumbersWrongFalsely : Prop := schedNumbersRow.holds Try.pinned (OpenSpec.ofChange schedNumbersWrong)

/-- 'backstitchlaw4.HuntTells': WHATEVER THE INPUT: true; the input reads as it did. -/
def huntTellsSpec : ChangeSpec := { name := "huntTells", fn := fun _ => fun
  | [d1, d2, d3, d4, d5] => { results := [.lit (.bool true)], args := [d1, d2, d3, d4, d5] }
  | _ => none }
def huntTellsRow : OpenClaim := { program := "ytfdpannanpipdaa", sum := "28b873a23cb2bd75e847879dac35e8b6f51c8123a4d9016e6449ef7d39318b03", func := "backstitch/backstitchlaw4.HuntTells", spec := "huntTells", unfollowed := true, recurses := true, plainKeys := false, apart := false }
def HuntTellsSaid : Prop := huntTellsRow.holds Try.pinned (OpenSpec.ofChange huntTellsSpec)

/-- ITS FALSE NEIGHBOUR: 'it returns false'. Refute it at one input. -/
def huntTellsWrong : ChangeSpec := { name := "huntTells", fn := fun _ => fun
  | [d1, d2, d3, d4, d5] => { results := [.lit (.bool false)], args := [d1, d2, d3, d4, d5] }
  | _ => none }
def HuntTellsWrongFalsely : Prop := huntTellsRow.holds Try.pinned (OpenSpec.ofChange huntTellsWrong)

/-- 'backstitchlaw4.PagesTells': WHATEVER THE INPUT: true; the input reads as it did. -/
def pagesTellsSpec : ChangeSpec := { name := "pagesTells", fn := fun _ => fun
  | [d1, d2, d3, d4, d5] => { results := [.lit (.bool true)], args := [d1, d2, d3, d4, d5] }
  | _ => none }
def pagesTellsRow : OpenClaim := { program := "ytfdpannanpipdaa", sum := "28b873a23cb2bd75e847879dac35e8b6f51c8123a4d9016e6449ef7d39318b03", func := "backstitch/backstitchlaw4.PagesTells", spec := "pagesTells", unfollowed := true, recurses := true, plainKeys := false, apart := false }
def PagesTellsSaid : Prop := pagesTellsRow.holds Try.pinned (OpenSpec.ofChange pagesTellsSpec)

/-- ITS FALSE NEIGHBOUR: 'it returns false'. Refute it at one input. -/
def pagesTellsWrong : ChangeSpec := { name := "pagesTells", fn := fun _ => fun
  | [d1, d2, d3, d4, d5] => { results := [.lit (.bool false)], args := [d1, d2, d3, d4, d5] }
  | _ => none }
def PagesTellsWrongFalsely : Prop := pagesTellsRow.holds Try.pinned (OpenSpec.ofChange pagesTellsWrong)

/-- 'backstitchlaw4.RowsMerges': WHATEVER THE INPUT: true; the input reads as it did. -/
def rowsMergesSpec : ChangeSpec := { name := "rowsMerges", fn := fun _ => fun
  | [d1, d2] => { results := [.lit (.bool true)], args := [d1, d2] }
  | _ => none }
def rowsMergesRow : OpenClaim := { program := "ytfdpannanpipdaa", sum := "28b873a23cb2bd75e847879dac35e8b6f51c8123a4d9016e6449ef7d39318b03", func := "backstitch/backstitchlaw4.RowsMerges", spec := "rowsMerges", unfollowed := true, recurses := true, plainKeys := false, apart := false }
def RowsMergesSaid : Prop := rowsMergesRow.holds Try.pinned (OpenSpec.ofChange rowsMergesSpec)

/-- ITS FALSE NEIGHBOUR: 'it returns false'. Refute it at one input. -/
def rowsMergesWrong : ChangeSpec := { name := "rowsMerges", fn := fun _ => fun
  | [d1, d2] => { results := [.lit (.bool false)], args := [d1, d2] }
  | _ => none }
def RowsMergesWrongFalsely : Prop := rowsMergesRow.holds Try.pinned (OpenSpec.ofChange rowsMergesWrong)

/-- 'backstitchlaw4.SchedNormals': WHATEVER THE INPUT: true; the input reads as it did. -/
def schedNormalsSpec : ChangeSpec := { name := "schedNormals", fn := fun _ => fun
  | [d1, d2, d3] => { results := [.lit (.bool true)], args := [d1, d2, d3] }
  | _ => none }
def schedNormalsRow : OpenClaim := { program := "ytfdpannanpipdaa", sum := "28b873a23cb2bd75e847879dac35e8b6f51c8123a4d9016e6449ef7d39318b03", func := "backstitch/backstitchlaw4.SchedNormals", spec := "schedNormals", inPlace := ["slices.overlaps[int]"], unfollowed := true, recurses := true, plainKeys := false, apart := false }
def SchedNormalsSaid : Prop := schedNormalsRow.holds Try.pinned (OpenSpec.ofChange schedNormalsSpec)

/-- ITS FALSE NEIGHBOUR: 'it returns false'. Refute it at one input. -/
def schedNormalsWrong : ChangeSpec := { name := "schedNormals", fn := fun _ => fun
  | [d1, d2, d3] => { results := [.lit (.bool false)], args := [d1, d2, d3] }
  | _ => none }
def SchedNormalsWrongFalsely : Prop := schedNormalsRow.holds Try.pinned (OpenSpec.ofChange schedNormalsWrong)

/-- 'backstitchlaw4.LockupOrders': WHATEVER THE INPUT: true; the input reads as it did. -/
def lockupOrdersSpec : ChangeSpec := { name := "lockupOrders", fn := fun _ => fun
  | [d] => { results := [.lit (.bool true)], args := [d] }
  | _ => none }
def lockupOrdersRow : OpenClaim := { program := "ytfdpannanpipdaa", sum := "28b873a23cb2bd75e847879dac35e8b6f51c8123a4d9016e6449ef7d39318b03", func := "backstitch/backstitchlaw4.LockupOrders", spec := "lockupOrders", unfollowed := true, recurses := true, plainKeys := false, apart := false }
def LockupOrdersSaid : Prop := lockupOrdersRow.holds Try.pinned (OpenSpec.ofChange lockupOrdersSpec)

/-- ITS FALSE NEIGHBOUR: 'it returns false'. Refute it at one input. -/
def lockupOrdersWrong : ChangeSpec := { name := "lockupOrders", fn := fun _ => fun
  | [d] => { results := [.lit (.bool false)], args := [d] }
  | _ => none }
def LockupOrdersWrongFalsely : Prop := lockupOrdersRow.holds Try.pinned (OpenSpec.ofChange lockupOrdersWrong)

/- THE SECOND FORM. 'bulk': how many values and letters a reading holds, each counted each time it is reached (what is shared counts as often as it is met; a slice's spare places count too). A statement '..UptoSaid' is the law's where the arguments, and the package variables that the reading takes, are together of bulk at most 1048576: NARROWER than '..Said'. Prove '..Said' where nothing that the law and all that it calls make is longer than what came in: it says more and counts as full. Else prove '..UptoSaid'. A law counts once. -/
mutual
def uptoBulk {H : Type} : DataW H → Nat
  | .lit (.string bytes) => bytes.length + 1
  | .lit _ => 1
  | .nil => 1
  | .ptr d => uptoBulk d + 1
  | .slice elems spare => uptoBulkAll elems + uptoBulkAll spare + 1
  | .agg parts => uptoBulkAll parts + 1
  | .iface _ d => uptoBulk d + 1
  | .map entries => uptoBulkEntries entries + 1
  | .held _ => 1
def uptoBulkAll {H : Type} : List (DataW H) → Nat
  | [] => 0
  | d :: r => uptoBulk d + uptoBulkAll r
def uptoBulkEntries {H : Type} : List (Lit × DataW H) → Nat
  | [] => 0
  | x :: r => uptoBulkEntry x + uptoBulkEntries r
def uptoBulkEntry {H : Type} : Lit × DataW H → Nat
  | (.string bytes, d) => bytes.length + uptoBulk d + 1
  | (_, d) => uptoBulk d + 1
 end
def uptoSmall : (H : Type) → List (DataW H) → Bool := fun _ ds => decide (uptoBulkAll ds ≤ 1048576)
def OpenSpec.upto (s : _root_.Go.ChangeSpec) : _root_.Go.OpenSpec := { _root_.Go.OpenSpec.ofChange s with cond := some uptoSmall }

/-- 'backstitchlaw4.WatchTells', WHERE WHAT IT READS IS OF BULK AT MOST 1048576: true; the input reads as it did. -/
def watchTellsUptoRow : OpenClaim := { program := "ytfdpannanpipdaa", sum := "28b873a23cb2bd75e847879dac35e8b6f51c8123a4d9016e6449ef7d39318b03", func := "backstitch/backstitchlaw4.WatchTells", spec := "watchTells", unfollowed := true, recurses := true, plainKeys := false, apart := false, narrowed := true }
def WatchTellsUptoSaid : Prop := watchTellsUptoRow.holds Try.pinned (OpenSpec.upto watchTellsSpec)

/-- 'backstitchlaw4.SpoolPuts', WHERE WHAT IT READS IS OF BULK AT MOST 1048576: true; the input reads as it did. -/
def spoolPutsUptoRow : OpenClaim := { program := "ytfdpannanpipdaa", sum := "28b873a23cb2bd75e847879dac35e8b6f51c8123a4d9016e6449ef7d39318b03", func := "backstitch/backstitchlaw4.SpoolPuts", spec := "spoolPuts", unfollowed := true, recurses := true, plainKeys := false, apart := false, narrowed := true }
def SpoolPutsUptoSaid : Prop := spoolPutsUptoRow.holds Try.pinned (OpenSpec.upto spoolPutsSpec)

/-- 'backstitchlaw4.SchedNumbers', WHERE WHAT IT READS IS OF BULK AT MOST 1048576: true; the input reads as it did. -/
def schedNumbersUptoRow : OpenClaim := { program := "ytfdpannanpipdaa", sum := "28b873a23cb2bd75e847879dac35e8b6f51c8123a4d9016e6449ef7d39318b03", func := "backstitch/backstitchlaw4.SchedNumbers", spec := "schedNumbers", recurses := true, plainKeys := false, apart := false, narrowed := true }
def SchedNumbersUptoSaid : Prop := schedNumbersUptoRow.holds Try.pinned (OpenSpec.upto schedNumbersSpec)

/-- 'backstitchlaw4.HuntTells', WHERE WHAT IT READS IS OF BULK AT MOST 1048576: true; the input reads as it did. -/
def huntTellsUptoRow : OpenClaim := { program := "ytfdpannanpipdaa", sum := "28b873a23cb2bd75e847879dac35e8b6f51c8123a4d9016e6449ef7d39318b03", func := "backstitch/backstitchlaw4.HuntTells", spec := "huntTells", unfollowed := true, recurses := true, plainKeys := false, apart := false, narrowed := true }
def HuntTellsUptoSaid : Prop := huntTellsUptoRow.holds Try.pinned (OpenSpec.upto huntTellsSpec)

/-- 'backstitchlaw4.PagesTells', WHERE WHAT IT READS IS OF BULK AT MOST 1048576: true; the input reads as it did. -/
def pagesTellsUptoRow : OpenClaim := { program := "ytfdpannanpipdaa", sum := "28b873a23cb2bd75e847879dac35e8b6f51c8123a4d9016e6449ef7d39318b03", func := "backstitch/backstitchlaw4.PagesTells", spec := "pagesTells", unfollowed := true, recurses := true, plainKeys := false, apart := false, narrowed := true }
def PagesTellsUptoSaid : Prop := pagesTellsUptoRow.holds Try.pinned (OpenSpec.upto pagesTellsSpec)

/-- 'backstitchlaw4.RowsMerges', WHERE WHAT IT READS IS OF BULK AT MOST 1048576: true; the input reads as it did. -/
def rowsMergesUptoRow : OpenClaim := { program := "ytfdpannanpipdaa", sum := "28b873a23cb2bd75e847879dac35e8b6f51c8123a4d9016e6449ef7d39318b03", func := "backstitch/backstitchlaw4.RowsMerges", spec := "rowsMerges", unfollowed := true, recurses := true, plainKeys := false, apart := false, narrowed := true }
def RowsMergesUptoSaid : Prop := rowsMergesUptoRow.holds Try.pinned (OpenSpec.upto rowsMergesSpec)

/-- 'backstitchlaw4.SchedNormals', WHERE WHAT IT READS IS OF BULK AT MOST 1048576: true; the input reads as it did. -/
def schedNormalsUptoRow : OpenClaim := { program := "ytfdpannanpipdaa", sum := "28b873a23cb2bd75e847879dac35e8b6f51c8123a4d9016e6449ef7d39318b03", func := "backstitch/backstitchlaw4.SchedNormals", spec := "schedNormals", inPlace := ["slices.overlaps[int]"], unfollowed := true, recurses := true, plainKeys := false, apart := false, narrowed := true }
def SchedNormalsUptoSaid : Prop := schedNormalsUptoRow.holds Try.pinned (OpenSpec.upto schedNormalsSpec)

/-- 'backstitchlaw4.LockupOrders', WHERE WHAT IT READS IS OF BULK AT MOST 1048576: true; the input reads as it did. -/
def lockupOrdersUptoRow : OpenClaim := { program := "ytfdpannanpipdaa", sum := "28b873a23cb2bd75e847879dac35e8b6f51c8123a4d9016e6449ef7d39318b03", func := "backstitch/backstitchlaw4.LockupOrders", spec := "lockupOrders", unfollowed := true, recurses := true, plainKeys := false, apart := false, narrowed := true }
def LockupOrdersUptoSaid : Prop := lockupOrdersUptoRow.holds Try.pinned (OpenSpec.upto lockupOrdersSpec)

end Rows
end Go.Proofs.Ytfdpannanpipdaa
