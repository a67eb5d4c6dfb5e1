/-
  No cell of these rows narrows 'for every input' (looked for: loops, veiled, ifaces, maps, wideKeys, modest, calm, conditions, laid).
  DERIVED. THE GIVEN ROWS OF THIS SEAT. 3 by the template 'for every input the law returns true; each argument reads behind the call as it read before'; 0 by the template 'total and deterministic' (their statements: YtjlnaiiajlahgaaTotals.lean).
  GIVEN WITH THE SEED: the statements are not yours to turn. If you find one false, say at which input.
  Laid BY PROGRAM, IN A SANDBOX (cutbox-rows.mjs): the forced cells as the released guide's own fill.sh prints them over the translation cc482913296e6b9a… (all of the seat's roots in one cut). By AI agents, Wed Nov 11 2026. No macro, syntax, notation, axiom, sorry.
-/
import Derived.Test.YtjlnaiiajlahgaaChecked
import GoSem.Claim
import GoSem.ClaimJoined
import GoSem.ClaimMapViews
import Derived.JoinedTies
import Derived.KernelRfl
namespace Go.Proofs.Ytjlnaiiajlahgaa
/- THE CELL 'sum', in the pinned program and in every row, IS THE sha256 OF THE DUMP (.gsa) THAT YtjlnaiiajlahgaaProg.lean LOADS. Nothing in Lean hashes anything: it is a label: what it is worth is what the hold of that sum in a sandbox is worth. -/
noncomputable def Try.pinned : Pinned := { name := "ytjlnaiiajlahgaa", sum := "cc482913296e6b9a199820e42634e3bcb5fed780ecbc423078428c24e8e89d15", checked := Try.checked }
namespace Rows
def none {H : Type} : Left H := { results := [], args := [] }

/-- 'backstitchlaw4.PagesTells': WHATEVER THE INPUT: true; the input reads as it did. -/
def pagesTellsSpec : ChangeSpec := { name := "pagesTells", fn := fun _ => fun
  | [d1, d2, d3, d4, d5] => { results := [.lit (.bool true)], args := [d1, d2, d3, d4, d5] }
  | _ => none }
def pagesTellsRow : OpenClaim := { program := "ytjlnaiiajlahgaa", sum := "cc482913296e6b9a199820e42634e3bcb5fed780ecbc423078428c24e8e89d15", func := "backstitch/backstitchlaw4.PagesTells", spec := "pagesTells", unfollowed := true, recurses := true, plainKeys := false, apart := false }
def PagesTellsSaid : Prop := pagesTellsRow.holds Try.pinned (OpenSpec.ofChange pagesTellsSpec)

/-- ITS FALSE NEIGHBOUR: 'it returns false'. Refute it at one input. -/
def pagesTellsWrong : ChangeSpec := { name := "pagesTells", fn := fun _ => fun
  | [d1, d2, d3, d4, d5] => { results := [.lit (.bool false)], args := [d1, d2, d3, d4, d5] }
  | _ => none }
def PagesTellsWrongFalsely : Prop := pagesTellsRow.holds Try.pinned (OpenSpec.ofChange pagesTellsWrong)

/-- 'backstitchlaw4.RowsMerges': WHATEVER THE INPUT: true; the input reads as it did. -/
def rowsMergesSpec : ChangeSpec := { name := "rowsMerges", fn := fun _ => fun
  | [d1, d2] => { results := [.lit (.bool true)], args := [d1, d2] }
  | _ => none }
def rowsMergesRow : OpenClaim := { program := "ytjlnaiiajlahgaa", sum := "cc482913296e6b9a199820e42634e3bcb5fed780ecbc423078428c24e8e89d15", func := "backstitch/backstitchlaw4.RowsMerges", spec := "rowsMerges", unfollowed := true, recurses := true, plainKeys := false, apart := false }
def RowsMergesSaid : Prop := rowsMergesRow.holds Try.pinned (OpenSpec.ofChange rowsMergesSpec)

/-- ITS FALSE NEIGHBOUR: 'it returns false'. Refute it at one input. -/
def rowsMergesWrong : ChangeSpec := { name := "rowsMerges", fn := fun _ => fun
  | [d1, d2] => { results := [.lit (.bool false)], args := [d1, d2] }
  | _ => none }
def RowsMergesWrongFalsely : Prop := rowsMergesRow.holds Try.pinned (OpenSpec.ofChange rowsMergesWrong)

/-- 'backstitchlaw2.HeatTurns': WHATEVER THE INPUT: true; the input reads as it did. -/
def heatTurnsSpec : ChangeSpec := { name := "heatTurns", fn := fun _ => fun
  | [d1, d2] => { results := [.lit (.bool true)], args := [d1, d2] }
  | _ => none }
def heatTurnsRow : OpenClaim := { program := "ytjlnaiiajlahgaa", sum := "cc482913296e6b9a199820e42634e3bcb5fed780ecbc423078428c24e8e89d15", func := "backstitch/backstitchlaw2.HeatTurns", spec := "heatTurns", unfollowed := true, recurses := true, plainKeys := false, apart := false }
def HeatTurnsSaid : Prop := heatTurnsRow.holds Try.pinned (OpenSpec.ofChange heatTurnsSpec)

/-- ITS FALSE NEIGHBOUR: 'it returns false'. Refute it at one input. -/
def heatTurnsWrong : ChangeSpec := { name := "heatTurns", fn := fun _ => fun
  | [d1, d2] => { results := [.lit (.bool false)], args := [d1, d2] }
  | _ => none }
def HeatTurnsWrongFalsely : Prop := heatTurnsRow.holds Try.pinned (OpenSpec.ofChange heatTurnsWrong)

/- THE SECOND FORM. 'bulk': how many values and letters a reading holds, each counted each time it is reached (what is shared counts as often as it is met; a slice's spare places count too). A statement '..UptoSaid' is the law's where the arguments, and the package variables that the reading takes, are together of bulk at most 1048576: NARROWER than '..Said'. Prove '..Said' where nothing that the law and all that it calls make is longer than what came in: it says more and counts as full. Else prove '..UptoSaid'. A law counts once. -/
mutual
def uptoBulk {H : Type} : DataW H → Nat
  | .lit (.string bytes) => bytes.length + 1
  | .lit _ => 1
  | .nil => 1
  | .ptr d => uptoBulk d + 1
  | .slice elems spare => uptoBulkAll elems + uptoBulkAll spare + 1
  | .agg parts => uptoBulkAll parts + 1
  | .iface _ d => uptoBulk d + 1
  | .map entries => uptoBulkEntries entries + 1
  | .held _ => 1
def uptoBulkAll {H : Type} : List (DataW H) → Nat
  | [] => 0
  | d :: r => uptoBulk d + uptoBulkAll r
def uptoBulkEntries {H : Type} : List (Lit × DataW H) → Nat
  | [] => 0
  | x :: r => uptoBulkEntry x + uptoBulkEntries r
def uptoBulkEntry {H : Type} : Lit × DataW H → Nat
  | (.string bytes, d) => bytes.length + uptoBulk d + 1
  | (_, d) => uptoBulk d + 1
 end
def uptoSmall : (H : Type) → List (DataW H) → Bool := fun _ ds => decide (uptoBulkAll ds ≤ 1048576)
def OpenSpec.upto (s : _root_.Go.ChangeSpec) : _root_.Go.OpenSpec := { _root_.Go.OpenSpec.ofChange s with cond := some uptoSmall }

/-- 'backstitchlaw4.PagesTells', WHERE WHAT IT READS IS OF BULK AT MOST 1048576: true; the input reads as it did. -/
def pagesTellsUptoRow : OpenClaim := { program := "ytjlnaiiajlahgaa", sum := "cc482913296e6b9a199820e42634e3bcb5fed780ecbc423078428c24e8e89d15", func := "backstitch/backstitchlaw4.PagesTells", spec := "pagesTells", unfollowed := true, recurses := true, plainKeys := false, apart := false, narrowed := true }
def PagesTellsUptoSaid : Prop := pagesTellsUptoRow.holds Try.pinned (OpenSpec.upto pagesTellsSpec)

/-- 'backstitchlaw4.RowsMerges', WHERE WHAT IT READS IS OF BULK AT MOST 1048576: true; the input reads as it did. -/
def rowsMergesUptoRow : OpenClaim := { program := "ytjlnaiiajlahgaa", sum := "cc482913296e6b9a199820e42634e3bcb5fed780ecbc423078428c24e8e89d15", func := "backstitch/backstitchlaw4.RowsMerges", spec := "rowsMerges", unfollowed := true, recurses := true, plainKeys := false, apart := false, narrowed := true }
def RowsMergesUptoSaid : Prop := rowsMergesUptoRow.holds Try.pinned (OpenSpec.upto rowsMergesSpec)

/-- 'backstitchlaw2.HeatTurns', WHERE WHAT IT READS IS OF BULK AT MOST 1048576: true; the input reads as it did. -/
def heatTurnsUptoRow : OpenClaim := { program := "ytjlnaiiajlahgaa", sum := "cc482913296e6b9a199820e42634e3bcb5fed780ecbc423078428c24e8e89d15", func := "backstitch/backstitchlaw2.HeatTurns", spec := "heatTurns", unfollowed := true, recurses := true, plainKeys := false, apart := false, narrowed := true }
def HeatTurnsUptoSaid : Prop := heatTurnsUptoRow.holds Try.pinned (OpenSpec.upto heatTurnsSpec)

end Rows
end Go.Proofs.Ytjlnaiiajlahgaa
