/-
  No cell of these rows narrows 'for every input' (looked for: loops, veiled, ifaces, maps, wideKeys, modest, calm, conditions, laid).
  DERIVED. THE GIVEN ROWS OF THIS SEAT. 12 by the template 'for every input the law returns true; each argument reads behind the call as it read before'; 0 by the template 'total and deterministic' (their statements: YtimlhjjdaggiiaaTotals.lean).
  GIVEN WITH THE SEED: the statements are not yours to turn. If you find one false, say at which input.
  Laid BY PROGRAM, IN A SANDBOX (cutbox-rows.mjs): the forced cells as the released guide's own fill.sh prints them over the translation d94a202c4baa5e64… (all of the seat's roots in one cut). By AI agents, Wed Nov 11 2026. No macro, syntax, notation, axiom, sorry.
-/
import Derived.Test.YtimlhjjdaggiiaaChecked
import GoSem.Claim
import GoSem.ClaimJoined
import GoSem.ClaimMapViews
import Derived.JoinedTies
import Derived.KernelRfl
namespace Go.Proofs.Ytimlhjjdaggiiaa
/- THE CELL 'sum', in the pinned program and in every row, IS THE sha256 OF THE DUMP (.gsa) THAT YtimlhjjdaggiiaaProg.lean LOADS. Nothing in Lean hashes anything: it is a label: what it is worth is what the hold of that sum in a sandbox is worth. -/
noncomputable def Try.pinned : Pinned := { name := "ytimlhjjdaggiiaa", sum := "d94a202c4baa5e64ea3239d637a708dbf4b5cb17d81bb484934f58b7ee170044", checked := Try.checked }
namespace Rows
def none {H : Type} : Left H := { results := [], args := [] }

/-- 'backstitchlaw4.SnapPatches': WHATEVER THE INPUT: true; the input reads as it did. -/
def snapPatchesSpec : ChangeSpec := { name := "snapPatches", fn := fun _ => fun
  | [d1, d2, d3] => { results := [.lit (.bool true)], args := [d1, d2, d3] }
  | _ => none }
def snapPatchesRow : OpenClaim := { program := "ytimlhjjdaggiiaa", sum := "d94a202c4baa5e64ea3239d637a708dbf4b5cb17d81bb484934f58b7ee170044", func := "backstitch/backstitchlaw4.SnapPatches", spec := "snapPatches", apart := false }
def SnapPatchesSaid : Prop := snapPatchesRow.holds Try.pinned (OpenSpec.ofChange snapPatchesSpec)

/-- ITS FALSE NEIGHBOUR: 'it returns false'. Refute it at one input. -/
def snapPatchesWrong : ChangeSpec := { name := "snapPatches", fn := fun _ => fun
  | [d1, d2, d3] => { results := [.lit (.bool false)], args := [d1, d2, d3] }
  | _ => none }
def SnapPatchesWrongFalsely : Prop := snapPatchesRow.holds Try.pinned (OpenSpec.ofChange snapPatchesWrong)

/-- 'backstitchlaw4.SnapFlats': WHATEVER THE INPUT: true; the input reads as it did. -/
def snapFlatsSpec : ChangeSpec := { name := "snapFlats", fn := fun _ => fun
  | [d] => { results := [.lit (.bool true)], args := [d] }
  | _ => none }
def snapFlatsRow : OpenClaim := { program := "ytimlhjjdaggiiaa", sum := "d94a202c4baa5e64ea3239d637a708dbf4b5cb17d81bb484934f58b7ee170044", func := "backstitch/backstitchlaw4.SnapFlats", spec := "snapFlats", unfollowed := true, recurses := true, apart := false }
def SnapFlatsSaid : Prop := snapFlatsRow.holds Try.pinned (OpenSpec.ofChange snapFlatsSpec)

/-- ITS FALSE NEIGHBOUR: 'it returns false'. Refute it at one input. -/
def snapFlatsWrong : ChangeSpec := { name := "snapFlats", fn := fun _ => fun
  | [d] => { results := [.lit (.bool false)], args := [d] }
  | _ => none }
def SnapFlatsWrongFalsely : Prop := snapFlatsRow.holds Try.pinned (OpenSpec.ofChange snapFlatsWrong)

/-- 'backstitchlaw4.RowsTells': WHATEVER THE INPUT: true; the input reads as it did. -/
def rowsTellsSpec : ChangeSpec := { name := "rowsTells", fn := fun _ => fun
  | [d1, d2, d3, d4, d5] => { results := [.lit (.bool true)], args := [d1, d2, d3, d4, d5] }
  | _ => none }
def rowsTellsRow : OpenClaim := { program := "ytimlhjjdaggiiaa", sum := "d94a202c4baa5e64ea3239d637a708dbf4b5cb17d81bb484934f58b7ee170044", func := "backstitch/backstitchlaw4.RowsTells", spec := "rowsTells", unfollowed := true, recurses := true, apart := false }
def RowsTellsSaid : Prop := rowsTellsRow.holds Try.pinned (OpenSpec.ofChange rowsTellsSpec)

/-- ITS FALSE NEIGHBOUR: 'it returns false'. Refute it at one input. -/
def rowsTellsWrong : ChangeSpec := { name := "rowsTells", fn := fun _ => fun
  | [d1, d2, d3, d4, d5] => { results := [.lit (.bool false)], args := [d1, d2, d3, d4, d5] }
  | _ => none }
def RowsTellsWrongFalsely : Prop := rowsTellsRow.holds Try.pinned (OpenSpec.ofChange rowsTellsWrong)

/-- 'backstitchlaw4.SpoolReads': WHATEVER THE INPUT: true; the input reads as it did. -/
def spoolReadsSpec : ChangeSpec := { name := "spoolReads", fn := fun _ => fun
  | [d] => { results := [.lit (.bool true)], args := [d] }
  | _ => none }
def spoolReadsRow : OpenClaim := { program := "ytimlhjjdaggiiaa", sum := "d94a202c4baa5e64ea3239d637a708dbf4b5cb17d81bb484934f58b7ee170044", func := "backstitch/backstitchlaw4.SpoolReads", spec := "spoolReads", apart := false }
def SpoolReadsSaid : Prop := spoolReadsRow.holds Try.pinned (OpenSpec.ofChange spoolReadsSpec)

/-- ITS FALSE NEIGHBOUR: 'it returns false'. Refute it at one input. -/
def spoolReadsWrong : ChangeSpec := { name := "spoolReads", fn := fun _ => fun
  | [d] => { results := [.lit (.bool false)], args := [d] }
  | _ => none }
def SpoolReadsWrongFalsely : Prop := spoolReadsRow.holds Try.pinned (OpenSpec.ofChange spoolReadsWrong)

/-- 'backstitchlaw4.WalkTells': WHATEVER THE INPUT: true; the input reads as it did. -/
def walkTellsSpec : ChangeSpec := { name := "walkTells", fn := fun _ => fun
  | [d1, d2, d3] => { results := [.lit (.bool true)], args := [d1, d2, d3] }
  | _ => none }
def walkTellsRow : OpenClaim := { program := "ytimlhjjdaggiiaa", sum := "d94a202c4baa5e64ea3239d637a708dbf4b5cb17d81bb484934f58b7ee170044", func := "backstitch/backstitchlaw4.WalkTells", spec := "walkTells", apart := false }
def WalkTellsSaid : Prop := walkTellsRow.holds Try.pinned (OpenSpec.ofChange walkTellsSpec)

/-- ITS FALSE NEIGHBOUR: 'it returns false'. Refute it at one input. -/
def walkTellsWrong : ChangeSpec := { name := "walkTells", fn := fun _ => fun
  | [d1, d2, d3] => { results := [.lit (.bool false)], args := [d1, d2, d3] }
  | _ => none }
def WalkTellsWrongFalsely : Prop := walkTellsRow.holds Try.pinned (OpenSpec.ofChange walkTellsWrong)

/-- 'backstitchlaw2.AliasAparts': WHATEVER THE INPUT: true; the input reads as it did. -/
def aliasApartsSpec : ChangeSpec := { name := "aliasAparts", fn := fun _ => fun
  | [d1, d2, d3] => { results := [.lit (.bool true)], args := [d1, d2, d3] }
  | _ => none }
def aliasApartsRow : OpenClaim := { program := "ytimlhjjdaggiiaa", sum := "d94a202c4baa5e64ea3239d637a708dbf4b5cb17d81bb484934f58b7ee170044", func := "backstitch/backstitchlaw2.AliasAparts", spec := "aliasAparts", apart := false }
def AliasApartsSaid : Prop := aliasApartsRow.holds Try.pinned (OpenSpec.ofChange aliasApartsSpec)

/-- ITS FALSE NEIGHBOUR: 'it returns false'. Refute it at one input. -/
def aliasApartsWrong : ChangeSpec := { name := "aliasAparts", fn := fun _ => fun
  | [d1, d2, d3] => { results := [.lit (.bool false)], args := [d1, d2, d3] }
  | _ => none }
def AliasApartsWrongFalsely : Prop := aliasApartsRow.holds Try.pinned (OpenSpec.ofChange aliasApartsWrong)

/-- 'backstitchlaw4.LockupRings': WHATEVER THE INPUT: true; the input reads as it did. -/
def lockupRingsSpec : ChangeSpec := { name := "lockupRings", fn := fun _ => fun
  | [d1, d2] => { results := [.lit (.bool true)], args := [d1, d2] }
  | _ => none }
def lockupRingsRow : OpenClaim := { program := "ytimlhjjdaggiiaa", sum := "d94a202c4baa5e64ea3239d637a708dbf4b5cb17d81bb484934f58b7ee170044", func := "backstitch/backstitchlaw4.LockupRings", spec := "lockupRings", apart := false }
def LockupRingsSaid : Prop := lockupRingsRow.holds Try.pinned (OpenSpec.ofChange lockupRingsSpec)

/-- ITS FALSE NEIGHBOUR: 'it returns false'. Refute it at one input. -/
def lockupRingsWrong : ChangeSpec := { name := "lockupRings", fn := fun _ => fun
  | [d1, d2] => { results := [.lit (.bool false)], args := [d1, d2] }
  | _ => none }
def LockupRingsWrongFalsely : Prop := lockupRingsRow.holds Try.pinned (OpenSpec.ofChange lockupRingsWrong)

/-- 'backstitchlaw4.SliceTells': WHATEVER THE INPUT: true; the input reads as it did. -/
def sliceTellsSpec : ChangeSpec := { name := "sliceTells", fn := fun _ => fun
  | [d1, d2, d3] => { results := [.lit (.bool true)], args := [d1, d2, d3] }
  | _ => none }
def sliceTellsRow : OpenClaim := { program := "ytimlhjjdaggiiaa", sum := "d94a202c4baa5e64ea3239d637a708dbf4b5cb17d81bb484934f58b7ee170044", func := "backstitch/backstitchlaw4.SliceTells", spec := "sliceTells", unfollowed := true, recurses := true, apart := false }
def SliceTellsSaid : Prop := sliceTellsRow.holds Try.pinned (OpenSpec.ofChange sliceTellsSpec)

/-- ITS FALSE NEIGHBOUR: 'it returns false'. Refute it at one input. -/
def sliceTellsWrong : ChangeSpec := { name := "sliceTells", fn := fun _ => fun
  | [d1, d2, d3] => { results := [.lit (.bool false)], args := [d1, d2, d3] }
  | _ => none }
def SliceTellsWrongFalsely : Prop := sliceTellsRow.holds Try.pinned (OpenSpec.ofChange sliceTellsWrong)

/-- 'backstitchlaw4.SnapBacks': WHATEVER THE INPUT: true; the input reads as it did. -/
def snapBacksSpec : ChangeSpec := { name := "snapBacks", fn := fun _ => fun
  | [d1, d2, d3, d4] => { results := [.lit (.bool true)], args := [d1, d2, d3, d4] }
  | _ => none }
def snapBacksRow : OpenClaim := { program := "ytimlhjjdaggiiaa", sum := "d94a202c4baa5e64ea3239d637a708dbf4b5cb17d81bb484934f58b7ee170044", func := "backstitch/backstitchlaw4.SnapBacks", spec := "snapBacks", unfollowed := true, recurses := true, apart := false }
def SnapBacksSaid : Prop := snapBacksRow.holds Try.pinned (OpenSpec.ofChange snapBacksSpec)

/-- ITS FALSE NEIGHBOUR: 'it returns false'. Refute it at one input. -/
def snapBacksWrong : ChangeSpec := { name := "snapBacks", fn := fun _ => fun
  | [d1, d2, d3, d4] => { results := [.lit (.bool false)], args := [d1, d2, d3, d4] }
  | _ => none }
def SnapBacksWrongFalsely : Prop := snapBacksRow.holds Try.pinned (OpenSpec.ofChange snapBacksWrong)

/-- 'backstitchlaw4.SmallTells': WHATEVER THE INPUT: true; the input reads as it did. -/
def smallTellsSpec : ChangeSpec := { name := "smallTells", fn := fun _ => fun
  | [d1, d2, d3, d4, d5] => { results := [.lit (.bool true)], args := [d1, d2, d3, d4, d5] }
  | _ => none }
def smallTellsRow : OpenClaim := { program := "ytimlhjjdaggiiaa", sum := "d94a202c4baa5e64ea3239d637a708dbf4b5cb17d81bb484934f58b7ee170044", func := "backstitch/backstitchlaw4.SmallTells", spec := "smallTells", unfollowed := true, recurses := true, apart := false }
def SmallTellsSaid : Prop := smallTellsRow.holds Try.pinned (OpenSpec.ofChange smallTellsSpec)

/-- ITS FALSE NEIGHBOUR: 'it returns false'. Refute it at one input. -/
def smallTellsWrong : ChangeSpec := { name := "smallTells", fn := fun _ => fun
  | [d1, d2, d3, d4, d5] => { results := [.lit (.bool false)], args := [d1, d2, d3, d4, d5] }
  | _ => none }
def SmallTellsWrongFalsely : Prop := smallTellsRow.holds Try.pinned (OpenSpec.ofChange smallTellsWrong)

/-- 'backstitchlaw4.SliceLines': WHATEVER THE INPUT: true; the input reads as it did. -/
def sliceLinesSpec : ChangeSpec := { name := "sliceLines", fn := fun _ => fun
  | [d1, d2] => { results := [.lit (.bool true)], args := [d1, d2] }
  | _ => none }
def sliceLinesRow : OpenClaim := { program := "ytimlhjjdaggiiaa", sum := "d94a202c4baa5e64ea3239d637a708dbf4b5cb17d81bb484934f58b7ee170044", func := "backstitch/backstitchlaw4.SliceLines", spec := "sliceLines", unfollowed := true, recurses := true, apart := false }
def SliceLinesSaid : Prop := sliceLinesRow.holds Try.pinned (OpenSpec.ofChange sliceLinesSpec)

/-- ITS FALSE NEIGHBOUR: 'it returns false'. Refute it at one input. -/
def sliceLinesWrong : ChangeSpec := { name := "sliceLines", fn := fun _ => fun
  | [d1, d2] => { results := [.lit (.bool false)], args := [d1, d2] }
  | _ => none }
def SliceLinesWrongFalsely : Prop := sliceLinesRow.holds Try.pinned (OpenSpec.ofChange sliceLinesWrong)

/-- 'backstitchlaw4.SchedPacks': WHATEVER THE INPUT: true; the input reads as it did. -/
def schedPacksSpec : ChangeSpec := { name := "schedPacks", fn := fun _ => fun
  | [d1, d2] => { results := [.lit (.bool true)], args := [d1, d2] }
  | _ => none }
def schedPacksRow : OpenClaim := { program := "ytimlhjjdaggiiaa", sum := "d94a202c4baa5e64ea3239d637a708dbf4b5cb17d81bb484934f58b7ee170044", func := "backstitch/backstitchlaw4.SchedPacks", spec := "schedPacks", unfollowed := true, recurses := true, apart := false }
def SchedPacksSaid : Prop := schedPacksRow.holds Try.pinned (OpenSpec.ofChange schedPacksSpec)

/-- ITS FALSE NEIGHBOUR: 'it returns false'. Refute it at one input. -/
def schedPacksWrong : ChangeSpec := { name := "schedPacks", fn := fun _ => fun
  | [d1, d2] => { results := [.lit (.bool false)], args := [d1, d2] }
  | _ => none }
def SchedPacksWrongFalsely : Prop := schedPacksRow.holds Try.pinned (OpenSpec.ofChange schedPacksWrong)

/- THE SECOND FORM. 'bulk': how many values and letters a reading holds, each counted each time it is reached (what is shared counts as often as it is met; a slice's spare places count too). A statement '..UptoSaid' is the law's where the arguments, and the package variables that the reading takes, are together of bulk at most 1048576: NARROWER than '..Said'. Prove '..Said' where nothing that the law and all that it calls make is longer than what came in: it says more and counts as full. Else prove '..UptoSaid'. A law counts once. -/
mutual
def uptoBulk {H : Type} : DataW H → Nat
  | .lit (.string bytes) => bytes.length + 1
  | .lit _ => 1
  | .nil => 1
  | .ptr d => uptoBulk d + 1
  | .slice elems spare => uptoBulkAll elems + uptoBulkAll spare + 1
  | .agg parts => uptoBulkAll parts + 1
  | .iface _ d => uptoBulk d + 1
  | .map entries => uptoBulkEntries entries + 1
  | .held _ => 1
def uptoBulkAll {H : Type} : List (DataW H) → Nat
  | [] => 0
  | d :: r => uptoBulk d + uptoBulkAll r
def uptoBulkEntries {H : Type} : List (Lit × DataW H) → Nat
  | [] => 0
  | x :: r => uptoBulkEntry x + uptoBulkEntries r
def uptoBulkEntry {H : Type} : Lit × DataW H → Nat
  | (.string bytes, d) => bytes.length + uptoBulk d + 1
  | (_, d) => uptoBulk d + 1
 end
def uptoSmall : (H : Type) → List (DataW H) → Bool := fun _ ds => decide (uptoBulkAll ds ≤ 1048576)
def OpenSpec.upto (s : _root_.Go.ChangeSpec) : _root_.Go.OpenSpec := { _root_.Go.OpenSpec.ofChange s with cond := some uptoSmall }

/-- 'backstitchlaw4.SnapPatches', WHERE WHAT IT READS IS OF BULK AT MOST 1048576: true; the input reads as it did. -/
def snapPatchesUptoRow : OpenClaim := { program := "ytimlhjjdaggiiaa", sum := "d94a202c4baa5e64ea3239d637a708dbf4b5cb17d81bb484934f58b7ee170044", func := "backstitch/backstitchlaw4.SnapPatches", spec := "snapPatches", apart := false, narrowed := true }
def SnapPatchesUptoSaid : Prop := snapPatchesUptoRow.holds Try.pinned (OpenSpec.upto snapPatchesSpec)

/-- 'backstitchlaw4.SnapFlats', WHERE WHAT IT READS IS OF BULK AT MOST 1048576: true; the input reads as it did. -/
def snapFlatsUptoRow : OpenClaim := { program := "ytimlhjjdaggiiaa", sum := "d94a202c4baa5e64ea3239d637a708dbf4b5cb17d81bb484934f58b7ee170044", func := "backstitch/backstitchlaw4.SnapFlats", spec := "snapFlats", unfollowed := true, recurses := true, apart := false, narrowed := true }
def SnapFlatsUptoSaid : Prop := snapFlatsUptoRow.holds Try.pinned (OpenSpec.upto snapFlatsSpec)

/-- 'backstitchlaw4.RowsTells', WHERE WHAT IT READS IS OF BULK AT MOST 1048576: true; the input reads as it did. -/
def rowsTellsUptoRow : OpenClaim := { program := "ytimlhjjdaggiiaa", sum := "d94a202c4baa5e64ea3239d637a708dbf4b5cb17d81bb484934f58b7ee170044", func := "backstitch/backstitchlaw4.RowsTells", spec := "rowsTells", unfollowed := true, recurses := true, apart := false, narrowed := true }
def RowsTellsUptoSaid : Prop := rowsTellsUptoRow.holds Try.pinned (OpenSpec.upto rowsTellsSpec)

/-- 'backstitchlaw4.SpoolReads', WHERE WHAT IT READS IS OF BULK AT MOST 1048576: true; the input reads as it did. -/
def spoolReadsUptoRow : OpenClaim := { program := "ytimlhjjdaggiiaa", sum := "d94a202c4baa5e64ea3239d637a708dbf4b5cb17d81bb484934f58b7ee170044", func := "backstitch/backstitchlaw4.SpoolReads", spec := "spoolReads", apart := false, narrowed := true }
def SpoolReadsUptoSaid : Prop := spoolReadsUptoRow.holds Try.pinned (OpenSpec.upto spoolReadsSpec)

/-- 'backstitchlaw4.WalkTells', WHERE WHAT IT READS IS OF BULK AT MOST 1048576: true; the input reads as it did. -/
def walkTellsUptoRow : OpenClaim := { program := "ytimlhjjdaggiiaa", sum := "d94a202c4baa5e64ea3239d637a708dbf4b5cb17d81bb484934f58b7ee170044", func := "backstitch/backstitchlaw4.WalkTells", spec := "walkTells", apart := false, narrowed := true }
def WalkTellsUptoSaid : Prop := walkTellsUptoRow.holds Try.pinned (OpenSpec.upto walkTellsSpec)

/-- 'backstitchlaw2.AliasAparts', WHERE WHAT IT READS IS OF BULK AT MOST 1048576: true; the input reads as it did. -/
def aliasApartsUptoRow : OpenClaim := { program := "ytimlhjjdaggiiaa", sum := "d94a202c4baa5e64ea3239d637a708dbf4b5cb17d81bb484934f58b7ee170044", func := "backstitch/backstitchlaw2.AliasAparts", spec := "aliasAparts", apart := false, narrowed := true }
def AliasApartsUptoSaid : Prop := aliasApartsUptoRow.holds Try.pinned (OpenSpec.upto aliasApartsSpec)

/-- 'backstitchlaw4.LockupRings', WHERE WHAT IT READS IS OF BULK AT MOST 1048576: true; the input reads as it did. -/
def lockupRingsUptoRow : OpenClaim := { program := "ytimlhjjdaggiiaa", sum := "d94a202c4baa5e64ea3239d637a708dbf4b5cb17d81bb484934f58b7ee170044", func := "backstitch/backstitchlaw4.LockupRings", spec := "lockupRings", apart := false, narrowed := true }
def LockupRingsUptoSaid : Prop := lockupRingsUptoRow.holds Try.pinned (OpenSpec.upto lockupRingsSpec)

/-- 'backstitchlaw4.SliceTells', WHERE WHAT IT READS IS OF BULK AT MOST 1048576: true; the input reads as it did. -/
def sliceTellsUptoRow : OpenClaim := { program := "ytimlhjjdaggiiaa", sum := "d94a202c4baa5e64ea3239d637a708dbf4b5cb17d81bb484934f58b7ee170044", func := "backstitch/backstitchlaw4.SliceTells", spec := "sliceTells", unfollowed := true, recurses := true, apart := false, narrowed := true }
def SliceTellsUptoSaid : Prop := sliceTellsUptoRow.holds Try.pinned (OpenSpec.upto sliceTellsSpec)

/-- 'backstitchlaw4.SnapBacks', WHERE WHAT IT READS IS OF BULK AT MOST 1048576: true; the input reads as it did. -/
def snapBacksUptoRow : OpenClaim := { program := "ytimlhjjdaggiiaa", sum := "d94a202c4baa5e64ea3239d637a708dbf4b5cb17d81bb484934f58b7ee170044", func := "backstitch/backstitchlaw4.SnapBacks", spec := "snapBacks", unfollowed := true, recurses := true, apart := false, narrowed := true }
def SnapBacksUptoSaid : Prop := snapBacksUptoRow.holds Try.pinned (OpenSpec.upto snapBacksSpec)

/-- 'backstitchlaw4.SmallTells', WHERE WHAT IT READS IS OF BULK AT MOST 1048576: true; the input reads as it did. -/
def smallTellsUptoRow : OpenClaim := { program := "ytimlhjjdaggiiaa", sum := "d94a202c4baa5e64ea3239d637a708dbf4b5cb17d81bb484934f58b7ee170044", func := "backstitch/backstitchlaw4.SmallTells", spec := "smallTells", unfollowed := true, recurses := true, apart := false, narrowed := true }
def SmallTellsUptoSaid : Prop := smallTellsUptoRow.holds Try.pinned (OpenSpec.upto smallTellsSpec)

/-- 'backstitchlaw4.SliceLines', WHERE WHAT IT READS IS OF BULK AT MOST 1048576: true; the input reads as it did. -/
def sliceLinesUptoRow : OpenClaim := { program := "ytimlhjjdaggiiaa", sum := "d94a202c4baa5e64ea3239d637a708dbf4b5cb17d81bb484934f58b7ee170044", func := "backstitch/backstitchlaw4.SliceLines", spec := "sliceLines", unfollowed := true, recurses := true, apart := false, narrowed := true }
def SliceLinesUptoSaid : Prop := sliceLinesUptoRow.holds Try.pinned (OpenSpec.upto sliceLinesSpec)

/-- 'backstitchlaw4.SchedPacks', WHERE WHAT IT READS IS OF BULK AT MOST 1048576: true; the input reads as it did. -/
def schedPacksUptoRow : OpenClaim := { program := "ytimlhjjdaggiiaa", sum := "d94a202c4baa5e64ea3239d637a708dbf4b5cb17d81bb484934f58b7ee170044", func := "backstitch/backstitchlaw4.SchedPacks", spec := "schedPacks", unfollowed := true, recurses := true, apart := false, narrowed := true }
def SchedPacksUptoSaid : Prop := schedPacksUptoRow.holds Try.pinned (OpenSpec.upto schedPacksSpec)

end Rows
end Go.Proofs.Ytimlhjjdaggiiaa
