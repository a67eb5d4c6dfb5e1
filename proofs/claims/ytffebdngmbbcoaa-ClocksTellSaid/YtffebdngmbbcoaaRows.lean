/-
  No cell of these rows narrows 'for every input' (looked for: loops, veiled, ifaces, maps, wideKeys, modest, calm, conditions, laid).
  DERIVED. THE GIVEN ROWS OF THIS SEAT. 4 by the template 'for every input the law returns true; each argument reads behind the call as it read before'; 0 by the template 'total and deterministic' (their statements: YtffebdngmbbcoaaTotals.lean).
  GIVEN WITH THE SEED: the statements are not yours to turn. If you find one false, say at which input.
  Laid BY PROGRAM, IN A SANDBOX (cutbox-rows.mjs): the forced cells as the released guide's own fill.sh prints them over the translation 89199da614ec8618… (all of the seat's roots in one cut). By AI agents, Wed Nov 11 2026. No macro, syntax, notation, axiom, sorry.
-/
import Derived.Test.YtffebdngmbbcoaaChecked
import GoSem.Claim
import GoSem.ClaimJoined
import GoSem.ClaimMapViews
import Derived.JoinedTies
import Derived.KernelRfl
namespace Go.Proofs.Ytffebdngmbbcoaa
/- THE CELL 'sum', in the pinned program and in every row, IS THE sha256 OF THE DUMP (.gsa) THAT YtffebdngmbbcoaaProg.lean LOADS. Nothing in Lean hashes anything: it is a label: what it is worth is what the hold of that sum in a sandbox is worth. -/
noncomputable def Try.pinned : Pinned := { name := "ytffebdngmbbcoaa", sum := "89199da614ec8618c0947da46a7a193ce962af32ce679b6320a109e6baa0b18f", checked := Try.checked }
namespace Rows
def none {H : Type} : Left H := { results := [], args := [] }

/-- 'backstitchlaw2.HeatTurns': WHATEVER THE INPUT: true; the input reads as it did. -/
def heatTurnsSpec : ChangeSpec := { name := "heatTurns", fn := fun _ => fun
  | [d1, d2] => { results := [.lit (.bool true)], args := [d1, d2] }
  | _ => none }
def heatTurnsRow : OpenClaim := { program := "ytffebdngmbbcoaa", sum := "89199da614ec8618c0947da46a7a193ce962af32ce679b6320a109e6baa0b18f", func := "backstitch/backstitchlaw2.HeatTurns", spec := "heatTurns", unfollowed := true, recurses := true, plainKeys := false, apart := false }
def HeatTurnsSaid : Prop := heatTurnsRow.holds Try.pinned (OpenSpec.ofChange heatTurnsSpec)

/-- ITS FALSE NEIGHBOUR: 'it returns false'. Refute it at one input. -/
def heatTurnsWrong : ChangeSpec := { name := "heatTurns", fn := fun _ => fun
  | [d1, d2] => { results := [.lit (.bool false)], args := [d1, d2] }
  | _ => none }
def HeatTurnsWrongFalsely : Prop := heatTurnsRow.holds Try.pinned (OpenSpec.ofChange heatTurnsWrong)

/-- 'backstitchlaw4.ThinTells': WHATEVER THE INPUT: true; the input reads as it did. -/
def thinTellsSpec : ChangeSpec := { name := "thinTells", fn := fun _ => fun
  | [d1, d2, d3] => { results := [.lit (.bool true)], args := [d1, d2, d3] }
  | _ => none }
def thinTellsRow : OpenClaim := { program := "ytffebdngmbbcoaa", sum := "89199da614ec8618c0947da46a7a193ce962af32ce679b6320a109e6baa0b18f", func := "backstitch/backstitchlaw4.ThinTells", spec := "thinTells", recurses := true, plainKeys := false, apart := false }
def ThinTellsSaid : Prop := thinTellsRow.holds Try.pinned (OpenSpec.ofChange thinTellsSpec)

/-- ITS FALSE NEIGHBOUR: 'it returns false'. Refute it at one input. -/
def thinTellsWrong : ChangeSpec := { name := "thinTells", fn := fun _ => fun
  | [d1, d2, d3] => { results := [.lit (.bool false)], args := [d1, d2, d3] }
  | _ => none }
def ThinTellsWrongFalsely : Prop := thinTellsRow.holds Try.pinned (OpenSpec.ofChange thinTellsWrong)

/-- 'backstitchlaw4.ClocksEdges': WHATEVER THE INPUT: true; the input reads as it did. -/
def clocksEdgesSpec : ChangeSpec := { name := "clocksEdges", fn := fun _ => fun
  | [d1, d2] => { results := [.lit (.bool true)], args := [d1, d2] }
  | _ => none }
def clocksEdgesRow : OpenClaim := { program := "ytffebdngmbbcoaa", sum := "89199da614ec8618c0947da46a7a193ce962af32ce679b6320a109e6baa0b18f", func := "backstitch/backstitchlaw4.ClocksEdges", spec := "clocksEdges", unfollowed := true, recurses := true, plainKeys := false, apart := false }
def ClocksEdgesSaid : Prop := clocksEdgesRow.holds Try.pinned (OpenSpec.ofChange clocksEdgesSpec)

/-- ITS FALSE NEIGHBOUR: 'it returns false'. Refute it at one input. -/
def clocksEdgesWrong : ChangeSpec := { name := "clocksEdges", fn := fun _ => fun
  | [d1, d2] => { results := [.lit (.bool false)], args := [d1, d2] }
  | _ => none }
def ClocksEdgesWrongFalsely : Prop := clocksEdgesRow.holds Try.pinned (OpenSpec.ofChange clocksEdgesWrong)

/-- 'backstitchlaw4.ClocksTell': WHATEVER THE INPUT: true; the input reads as it did. -/
def clocksTellSpec : ChangeSpec := { name := "clocksTell", fn := fun _ => fun
  | [d1, d2, d3, d4] => { results := [.lit (.bool true)], args := [d1, d2, d3, d4] }
  | _ => none }
def clocksTellRow : OpenClaim := { program := "ytffebdngmbbcoaa", sum := "89199da614ec8618c0947da46a7a193ce962af32ce679b6320a109e6baa0b18f", func := "backstitch/backstitchlaw4.ClocksTell", spec := "clocksTell", unfollowed := true, recurses := true, plainKeys := false, apart := false }
def ClocksTellSaid : Prop := clocksTellRow.holds Try.pinned (OpenSpec.ofChange clocksTellSpec)

/-- ITS FALSE NEIGHBOUR: 'it returns false'. Refute it at one input. -/
def clocksTellWrong : ChangeSpec := { name := "clocksTell", fn := fun _ => fun
  | [d1, d2, d3, d4] => { results := [.lit (.bool false)], args := [d1, d2, d3, d4] }
  | _ => none }
def ClocksTellWrongFalsely : Prop := clocksTellRow.holds Try.pinned (OpenSpec.ofChange clocksTellWrong)

/- THE SECOND FORM. 'bulk': how many values and letters a reading holds, each counted each time it is reached (what is shared counts as often as it is met; a slice's spare places count too). A statement '..UptoSaid' is the law's where the arguments, and the package variables that the reading takes, are together of bulk at most 1048576: NARROWER than '..Said'. Prove '..Said' where nothing that the law and all that it calls make is longer than what came in: it says more and counts as full. Else prove '..UptoSaid'. A law counts once. -/
mutual
def uptoBulk {H : Type} : DataW H → Nat
  | .lit (.string bytes) => bytes.length + 1
  | .lit _ => 1
  | .nil => 1
  | .ptr d => uptoBulk d + 1
  | .slice elems spare => uptoBulkAll elems + uptoBulkAll spare + 1
  | .agg parts => uptoBulkAll parts + 1
  | .iface _ d => uptoBulk d + 1
  | .map entries => uptoBulkEntries entries + 1
  | .held _ => 1
def uptoBulkAll {H : Type} : List (DataW H) → Nat
  | [] => 0
  | d :: r => uptoBulk d + uptoBulkAll r
def uptoBulkEntries {H : Type} : List (Lit × DataW H) → Nat
  | [] => 0
  | x :: r => uptoBulkEntry x + uptoBulkEntries r
def uptoBulkEntry {H : Type} : Lit × DataW H → Nat
  | (.string bytes, d) => bytes.length + uptoBulk d + 1
  | (_, d) => uptoBulk d + 1
 end
def uptoSmall : (H : Type) → List (DataW H) → Bool := fun _ ds => decide (uptoBulkAll ds ≤ 1048576)
def OpenSpec.upto (s : _root_.Go.ChangeSpec) : _root_.Go.OpenSpec := { _root_.Go.OpenSpec.ofChange s with cond := some uptoSmall }

/-- 'backstitchlaw2.HeatTurns', WHERE WHAT IT READS IS OF BULK AT MOST 1048576: true; the input reads as it did. -/
def heatTurnsUptoRow : OpenClaim := { program := "ytffebdngmbbcoaa", sum := "89199da614ec8618c0947da46a7a193ce962af32ce679b6320a109e6baa0b18f", func := "backstitch/backstitchlaw2.HeatTurns", spec := "heatTurns", unfollowed := true, recurses := true, plainKeys := false, apart := false, narrowed := true }
def HeatTurnsUptoSaid : Prop := heatTurnsUptoRow.holds Try.pinned (OpenSpec.upto heatTurnsSpec)

/-- 'backstitchlaw4.ThinTells', WHERE WHAT IT READS IS OF BULK AT MOST 1048576: true; the input reads as it did. -/
def thinTellsUptoRow : OpenClaim := { program := "ytffebdngmbbcoaa", sum := "89199da614ec8618c0947da46a7a193ce962af32ce679b6320a109e6baa0b18f", func := "backstitch/backstitchlaw4.ThinTells", spec := "thinTells", recurses := true, plainKeys := false, apart := false, narrowed := true }
def ThinTellsUptoSaid : Prop := thinTellsUptoRow.holds Try.pinned (OpenSpec.upto thinTellsSpec)

/-- 'backstitchlaw4.ClocksEdges', WHERE WHAT IT READS IS OF BULK AT MOST 1048576: true; the input reads as it did. -/
def clocksEdgesUptoRow : OpenClaim := { program := "ytffebdngmbbcoaa", sum := "89199da614ec8618c0947da46a7a193ce962af32ce679b6320a109e6baa0b18f", func := "backstitch/backstitchlaw4.ClocksEdges", spec := "clocksEdges", unfollowed := true, recurses := true, plainKeys := false, apart := false, narrowed := true }
def ClocksEdgesUptoSaid : Prop := clocksEdgesUptoRow.holds Try.pinned (OpenSpec.upto clocksEdgesSpec)

/-- 'backstitchlaw4.ClocksTell', WHERE WHAT IT READS IS OF BULK AT MOST 1048576: true; the input reads as it did. -/
def clocksTellUptoRow : OpenClaim := { program := "ytffebdngmbbcoaa", sum := "89199da614ec8618c0947da46a7a193ce962af32ce679b6320a109e6baa0b18f", func := "backstitch/backstitchlaw4.ClocksTell", spec := "clocksTell", unfollowed := true, recurses := true, plainKeys := false, apart := false, narrowed := true }
def ClocksTellUptoSaid : Prop := clocksTellUptoRow.holds Try.pinned (OpenSpec.upto clocksTellSpec)

end Rows
end Go.Proofs.Ytffebdngmbbcoaa
