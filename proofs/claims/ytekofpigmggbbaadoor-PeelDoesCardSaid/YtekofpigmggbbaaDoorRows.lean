/-
  NARROWER THAN 'FOR EVERY INPUT', by the rows' own cells (each row's printed sentence says how): SpanOfs: laid · CseDoes: laid · DeadDoes: laid · PeelDoes: laid · AliasDoes: laid · SpanDoes: laid.
  DERIVED. THE GIVEN ROWS OF THIS SEAT. 6 by the template 'for every input the law returns true; each argument reads behind the call as it read before'; 0 by the template 'total and deterministic' (their statements: YtekofpigmggbbaaDoorTotals.lean).
  GIVEN WITH THE SEED: the statements are not yours to turn. If you find one false, say at which input.
  Laid BY PROGRAM, IN A SANDBOX (cutbox-rows.mjs): the forced cells as the released guide's own fill.sh prints them over the translation 1724c1d1e251af45… (all of the seat's roots in one cut). By AI agents, Wed Nov 11 2026. No macro, syntax, notation, axiom, sorry.
-/
import Derived.Test.YtekofpigmggbbaaDoorChecked
import GoSem.Claim
import GoSem.ClaimJoined
import GoSem.ClaimMapViews
import Derived.JoinedTies
import Derived.KernelRfl
namespace Go.Proofs.YtekofpigmggbbaaDoor
/- THE CELL 'sum', in the pinned program and in every row, IS THE sha256 OF THE DUMP (.gsa) THAT YtekofpigmggbbaaDoorProg.lean LOADS. Nothing in Lean hashes anything: it is a label: what it is worth is what the hold of that sum in a sandbox is worth. -/
noncomputable def Tryd.pinned : Pinned := { name := "ytekofpigmggbbaadoor", sum := "1724c1d1e251af4512d8b07868b0445ea81988b55a51da27733383a1857d29c4", checked := Tryd.checked }
namespace Rows
def none {H : Type} : Left H := { results := [], args := [] }

/- WHAT THE LISTED PACKAGE-LEVEL VARIABLES READ AS WHEN THE CALL BEGINS. Each datum BY PROGRAM (the guide's laid-datum.mjs) off the statement by which the dump's own 'gosem.cut.vars' lays the variable. In a bare row this is a premise. The card (YtekofpigmggbbaaDoorCards.lean) ties it to the program's text. -/
def laid_unicode_White_Space {H : Type} : DataW H := .ptr (.agg [.slice [.agg [.lit (.int .u16 9), .lit (.int .u16 13), .lit (.int .u16 1)], .agg [.lit (.int .u16 32), .lit (.int .u16 133), .lit (.int .u16 101)], .agg [.lit (.int .u16 160), .lit (.int .u16 5760), .lit (.int .u16 5600)], .agg [.lit (.int .u16 8192), .lit (.int .u16 8202), .lit (.int .u16 1)], .agg [.lit (.int .u16 8232), .lit (.int .u16 8233), .lit (.int .u16 1)], .agg [.lit (.int .u16 8239), .lit (.int .u16 8287), .lit (.int .u16 48)], .agg [.lit (.int .u16 12288), .lit (.int .u16 12288), .lit (.int .u16 1)]] [], .nil, .lit (.int .i64 2)])
def laid_strings_asciiSpace {H : Type} : DataW H := .agg [.lit (.int .u8 0), .lit (.int .u8 0), .lit (.int .u8 0), .lit (.int .u8 0), .lit (.int .u8 0), .lit (.int .u8 0), .lit (.int .u8 0), .lit (.int .u8 0), .lit (.int .u8 0), .lit (.int .u8 1), .lit (.int .u8 1), .lit (.int .u8 1), .lit (.int .u8 1), .lit (.int .u8 1), .lit (.int .u8 0), .lit (.int .u8 0), .lit (.int .u8 0), .lit (.int .u8 0), .lit (.int .u8 0), .lit (.int .u8 0), .lit (.int .u8 0), .lit (.int .u8 0), .lit (.int .u8 0), .lit (.int .u8 0), .lit (.int .u8 0), .lit (.int .u8 0), .lit (.int .u8 0), .lit (.int .u8 0), .lit (.int .u8 0), .lit (.int .u8 0), .lit (.int .u8 0), .lit (.int .u8 0), .lit (.int .u8 1), .lit (.int .u8 0), .lit (.int .u8 0), .lit (.int .u8 0), .lit (.int .u8 0), .lit (.int .u8 0), .lit (.int .u8 0), .lit (.int .u8 0), .lit (.int .u8 0), .lit (.int .u8 0), .lit (.int .u8 0), .lit (.int .u8 0), .lit (.int .u8 0), .lit (.int .u8 0), .lit (.int .u8 0), .lit (.int .u8 0), .lit (.int .u8 0), .lit (.int .u8 0), .lit (.int .u8 0), .lit (.int .u8 0), .lit (.int .u8 0), .lit (.int .u8 0), .lit (.int .u8 0), .lit (.int .u8 0), .lit (.int .u8 0), .lit (.int .u8 0), .lit (.int .u8 0), .lit (.int .u8 0), .lit (.int .u8 0), .lit (.int .u8 0), .lit (.int .u8 0), .lit (.int .u8 0), .lit (.int .u8 0), .lit (.int .u8 0), .lit (.int .u8 0), .lit (.int .u8 0), .lit (.int .u8 0), .lit (.int .u8 0), .lit (.int .u8 0), .lit (.int .u8 0), .lit (.int .u8 0), .lit (.int .u8 0), .lit (.int .u8 0), .lit (.int .u8 0), .lit (.int .u8 0), .lit (.int .u8 0), .lit (.int .u8 0), .lit (.int .u8 0), .lit (.int .u8 0), .lit (.int .u8 0), .lit (.int .u8 0), .lit (.int .u8 0), .lit (.int .u8 0), .lit (.int .u8 0), .lit (.int .u8 0), .lit (.int .u8 0), .lit (.int .u8 0), .lit (.int .u8 0), .lit (.int .u8 0), .lit (.int .u8 0), .lit (.int .u8 0), .lit (.int .u8 0), .lit (.int .u8 0), .lit (.int .u8 0), .lit (.int .u8 0), .lit (.int .u8 0), .lit (.int .u8 0), .lit (.int .u8 0), .lit (.int .u8 0), .lit (.int .u8 0), .lit (.int .u8 0), .lit (.int .u8 0), .lit (.int .u8 0), .lit (.int .u8 0), .lit (.int .u8 0), .lit (.int .u8 0), .lit (.int .u8 0), .lit (.int .u8 0), .lit (.int .u8 0), .lit (.int .u8 0), .lit (.int .u8 0), .lit (.int .u8 0), .lit (.int .u8 0), .lit (.int .u8 0), .lit (.int .u8 0), .lit (.int .u8 0), .lit (.int .u8 0), .lit (.int .u8 0), .lit (.int .u8 0), .lit (.int .u8 0), .lit (.int .u8 0), .lit (.int .u8 0), .lit (.int .u8 0), .lit (.int .u8 0), .lit (.int .u8 0), .lit (.int .u8 0), .lit (.int .u8 0), .lit (.int .u8 0), .lit (.int .u8 0), .lit (.int .u8 0), .lit (.int .u8 0), .lit (.int .u8 0), .lit (.int .u8 0), .lit (.int .u8 0), .lit (.int .u8 0), .lit (.int .u8 0), .lit (.int .u8 0), .lit (.int .u8 0), .lit (.int .u8 0), .lit (.int .u8 0), .lit (.int .u8 0), .lit (.int .u8 0), .lit (.int .u8 0), .lit (.int .u8 0), .lit (.int .u8 0), .lit (.int .u8 0), .lit (.int .u8 0), .lit (.int .u8 0), .lit (.int .u8 0), .lit (.int .u8 0), .lit (.int .u8 0), .lit (.int .u8 0), .lit (.int .u8 0), .lit (.int .u8 0), .lit (.int .u8 0), .lit (.int .u8 0), .lit (.int .u8 0), .lit (.int .u8 0), .lit (.int .u8 0), .lit (.int .u8 0), .lit (.int .u8 0), .lit (.int .u8 0), .lit (.int .u8 0), .lit (.int .u8 0), .lit (.int .u8 0), .lit (.int .u8 0), .lit (.int .u8 0), .lit (.int .u8 0), .lit (.int .u8 0), .lit (.int .u8 0), .lit (.int .u8 0), .lit (.int .u8 0), .lit (.int .u8 0), .lit (.int .u8 0), .lit (.int .u8 0), .lit (.int .u8 0), .lit (.int .u8 0), .lit (.int .u8 0), .lit (.int .u8 0), .lit (.int .u8 0), .lit (.int .u8 0), .lit (.int .u8 0), .lit (.int .u8 0), .lit (.int .u8 0), .lit (.int .u8 0), .lit (.int .u8 0), .lit (.int .u8 0), .lit (.int .u8 0), .lit (.int .u8 0), .lit (.int .u8 0), .lit (.int .u8 0), .lit (.int .u8 0), .lit (.int .u8 0), .lit (.int .u8 0), .lit (.int .u8 0), .lit (.int .u8 0), .lit (.int .u8 0), .lit (.int .u8 0), .lit (.int .u8 0), .lit (.int .u8 0), .lit (.int .u8 0), .lit (.int .u8 0), .lit (.int .u8 0), .lit (.int .u8 0), .lit (.int .u8 0), .lit (.int .u8 0), .lit (.int .u8 0), .lit (.int .u8 0), .lit (.int .u8 0), .lit (.int .u8 0), .lit (.int .u8 0), .lit (.int .u8 0), .lit (.int .u8 0), .lit (.int .u8 0), .lit (.int .u8 0), .lit (.int .u8 0), .lit (.int .u8 0), .lit (.int .u8 0), .lit (.int .u8 0), .lit (.int .u8 0), .lit (.int .u8 0), .lit (.int .u8 0), .lit (.int .u8 0), .lit (.int .u8 0), .lit (.int .u8 0), .lit (.int .u8 0), .lit (.int .u8 0), .lit (.int .u8 0), .lit (.int .u8 0), .lit (.int .u8 0), .lit (.int .u8 0), .lit (.int .u8 0), .lit (.int .u8 0), .lit (.int .u8 0), .lit (.int .u8 0), .lit (.int .u8 0), .lit (.int .u8 0), .lit (.int .u8 0), .lit (.int .u8 0), .lit (.int .u8 0), .lit (.int .u8 0), .lit (.int .u8 0), .lit (.int .u8 0), .lit (.int .u8 0), .lit (.int .u8 0), .lit (.int .u8 0), .lit (.int .u8 0), .lit (.int .u8 0), .lit (.int .u8 0), .lit (.int .u8 0), .lit (.int .u8 0), .lit (.int .u8 0), .lit (.int .u8 0), .lit (.int .u8 0)]

/-- 'backstitchlaw2.SpanOfs': WHATEVER THE INPUT: true; the input reads as it did. -/
def spanOfsSpec : ChangeSpec := { name := "spanOfs", fn := fun _ => fun
  | [d1, d2, d3, d4] => { results := [.lit (.bool true)], args := [d1, d2, d3, d4] }
  | _ => none }
def spanOfsRow : OpenClaim := { program := "ytekofpigmggbbaadoor", sum := "1724c1d1e251af4512d8b07868b0445ea81988b55a51da27733383a1857d29c4", func := "backstitch/backstitchlaw2.SpanOfs", spec := "spanOfs", inPlace := ["math.Float64frombits"], unfollowed := true, recurses := true, named := ["strings.asciiSpace", "unicode.White_Space"], plainKeys := false, apart := false, laid := [("unicode.White_Space", laid_unicode_White_Space), ("strings.asciiSpace", laid_strings_asciiSpace)] }
def SpanOfsSaid : Prop := spanOfsRow.holds Tryd.pinned (OpenSpec.ofChange spanOfsSpec)

/-- ITS FALSE NEIGHBOUR: 'it returns false'. Refute it at one input. -/
def spanOfsWrong : ChangeSpec := { name := "spanOfs", fn := fun _ => fun
  | [d1, d2, d3, d4] => { results := [.lit (.bool false)], args := [d1, d2, d3, d4] }
  | _ => none }
def SpanOfsWrongFalsely : Prop := spanOfsRow.holds Tryd.pinned (OpenSpec.ofChange spanOfsWrong)

/-- 'backstitchlaw2.CseDoes': WHATEVER THE INPUT: true; the input reads as it did. -/
def cseDoesSpec : ChangeSpec := { name := "cseDoes", fn := fun _ => fun
  | [d1, d2] => { results := [.lit (.bool true)], args := [d1, d2] }
  | _ => none }
def cseDoesRow : OpenClaim := { program := "ytekofpigmggbbaadoor", sum := "1724c1d1e251af4512d8b07868b0445ea81988b55a51da27733383a1857d29c4", func := "backstitch/backstitchlaw2.CseDoes", spec := "cseDoes", inPlace := ["math.Float64frombits"], unfollowed := true, recurses := true, named := ["strings.asciiSpace", "unicode.White_Space"], plainKeys := false, apart := false, laid := [("unicode.White_Space", laid_unicode_White_Space), ("strings.asciiSpace", laid_strings_asciiSpace)] }
def CseDoesSaid : Prop := cseDoesRow.holds Tryd.pinned (OpenSpec.ofChange cseDoesSpec)

/-- ITS FALSE NEIGHBOUR: 'it returns false'. Refute it at one input. -/
def cseDoesWrong : ChangeSpec := { name := "cseDoes", fn := fun _ => fun
  | [d1, d2] => { results := [.lit (.bool false)], args := [d1, d2] }
  | _ => none }
def CseDoesWrongFalsely : Prop := cseDoesRow.holds Tryd.pinned (OpenSpec.ofChange cseDoesWrong)

/-- 'backstitchlaw2.DeadDoes': WHATEVER THE INPUT: true; the input reads as it did. -/
def deadDoesSpec : ChangeSpec := { name := "deadDoes", fn := fun _ => fun
  | [d1, d2] => { results := [.lit (.bool true)], args := [d1, d2] }
  | _ => none }
def deadDoesRow : OpenClaim := { program := "ytekofpigmggbbaadoor", sum := "1724c1d1e251af4512d8b07868b0445ea81988b55a51da27733383a1857d29c4", func := "backstitch/backstitchlaw2.DeadDoes", spec := "deadDoes", inPlace := ["math.Float64frombits"], unfollowed := true, recurses := true, named := ["strings.asciiSpace", "unicode.White_Space"], plainKeys := false, apart := false, laid := [("unicode.White_Space", laid_unicode_White_Space), ("strings.asciiSpace", laid_strings_asciiSpace)] }
def DeadDoesSaid : Prop := deadDoesRow.holds Tryd.pinned (OpenSpec.ofChange deadDoesSpec)

/-- ITS FALSE NEIGHBOUR: 'it returns false'. Refute it at one input. -/
def deadDoesWrong : ChangeSpec := { name := "deadDoes", fn := fun _ => fun
  | [d1, d2] => { results := [.lit (.bool false)], args := [d1, d2] }
  | _ => none }
def DeadDoesWrongFalsely : Prop := deadDoesRow.holds Tryd.pinned (OpenSpec.ofChange deadDoesWrong)

/-- 'backstitchlaw2.PeelDoes': WHATEVER THE INPUT: true; the input reads as it did. -/
def peelDoesSpec : ChangeSpec := { name := "peelDoes", fn := fun _ => fun
  | [d1, d2] => { results := [.lit (.bool true)], args := [d1, d2] }
  | _ => none }
def peelDoesRow : OpenClaim := { program := "ytekofpigmggbbaadoor", sum := "1724c1d1e251af4512d8b07868b0445ea81988b55a51da27733383a1857d29c4", func := "backstitch/backstitchlaw2.PeelDoes", spec := "peelDoes", inPlace := ["math.Float64frombits"], unfollowed := true, recurses := true, named := ["strings.asciiSpace", "unicode.White_Space"], plainKeys := false, apart := false, laid := [("unicode.White_Space", laid_unicode_White_Space), ("strings.asciiSpace", laid_strings_asciiSpace)] }
def PeelDoesSaid : Prop := peelDoesRow.holds Tryd.pinned (OpenSpec.ofChange peelDoesSpec)

/-- ITS FALSE NEIGHBOUR: 'it returns false'. Refute it at one input. -/
def peelDoesWrong : ChangeSpec := { name := "peelDoes", fn := fun _ => fun
  | [d1, d2] => { results := [.lit (.bool false)], args := [d1, d2] }
  | _ => none }
def PeelDoesWrongFalsely : Prop := peelDoesRow.holds Tryd.pinned (OpenSpec.ofChange peelDoesWrong)

/-- 'backstitchlaw2.AliasDoes': WHATEVER THE INPUT: true; the input reads as it did. -/
def aliasDoesSpec : ChangeSpec := { name := "aliasDoes", fn := fun _ => fun
  | [d1, d2] => { results := [.lit (.bool true)], args := [d1, d2] }
  | _ => none }
def aliasDoesRow : OpenClaim := { program := "ytekofpigmggbbaadoor", sum := "1724c1d1e251af4512d8b07868b0445ea81988b55a51da27733383a1857d29c4", func := "backstitch/backstitchlaw2.AliasDoes", spec := "aliasDoes", inPlace := ["math.Float64frombits"], unfollowed := true, recurses := true, named := ["strings.asciiSpace", "unicode.White_Space"], plainKeys := false, apart := false, laid := [("unicode.White_Space", laid_unicode_White_Space), ("strings.asciiSpace", laid_strings_asciiSpace)] }
def AliasDoesSaid : Prop := aliasDoesRow.holds Tryd.pinned (OpenSpec.ofChange aliasDoesSpec)

/-- ITS FALSE NEIGHBOUR: 'it returns false'. Refute it at one input. -/
def aliasDoesWrong : ChangeSpec := { name := "aliasDoes", fn := fun _ => fun
  | [d1, d2] => { results := [.lit (.bool false)], args := [d1, d2] }
  | _ => none }
def AliasDoesWrongFalsely : Prop := aliasDoesRow.holds Tryd.pinned (OpenSpec.ofChange aliasDoesWrong)

/-- 'backstitchlaw2.SpanDoes': WHATEVER THE INPUT: true; the input reads as it did. -/
def spanDoesSpec : ChangeSpec := { name := "spanDoes", fn := fun _ => fun
  | [d1, d2] => { results := [.lit (.bool true)], args := [d1, d2] }
  | _ => none }
def spanDoesRow : OpenClaim := { program := "ytekofpigmggbbaadoor", sum := "1724c1d1e251af4512d8b07868b0445ea81988b55a51da27733383a1857d29c4", func := "backstitch/backstitchlaw2.SpanDoes", spec := "spanDoes", inPlace := ["math.Float64frombits"], unfollowed := true, recurses := true, named := ["strings.asciiSpace", "unicode.White_Space"], plainKeys := false, apart := false, laid := [("unicode.White_Space", laid_unicode_White_Space), ("strings.asciiSpace", laid_strings_asciiSpace)] }
def SpanDoesSaid : Prop := spanDoesRow.holds Tryd.pinned (OpenSpec.ofChange spanDoesSpec)

/-- ITS FALSE NEIGHBOUR: 'it returns false'. Refute it at one input. -/
def spanDoesWrong : ChangeSpec := { name := "spanDoes", fn := fun _ => fun
  | [d1, d2] => { results := [.lit (.bool false)], args := [d1, d2] }
  | _ => none }
def SpanDoesWrongFalsely : Prop := spanDoesRow.holds Tryd.pinned (OpenSpec.ofChange spanDoesWrong)

/- THE SECOND FORM. 'bulk': how many values and letters a reading holds, each counted each time it is reached (what is shared counts as often as it is met; a slice's spare places count too). A statement '..UptoSaid' is the law's where the arguments, and the package variables that the reading takes, are together of bulk at most 1048576: NARROWER than '..Said'. Prove '..Said' where nothing that the law and all that it calls make is longer than what came in: it says more and counts as full. Else prove '..UptoSaid'. A law counts once. -/
mutual
def uptoBulk {H : Type} : DataW H → Nat
  | .lit (.string bytes) => bytes.length + 1
  | .lit _ => 1
  | .nil => 1
  | .ptr d => uptoBulk d + 1
  | .slice elems spare => uptoBulkAll elems + uptoBulkAll spare + 1
  | .agg parts => uptoBulkAll parts + 1
  | .iface _ d => uptoBulk d + 1
  | .map entries => uptoBulkEntries entries + 1
  | .held _ => 1
def uptoBulkAll {H : Type} : List (DataW H) → Nat
  | [] => 0
  | d :: r => uptoBulk d + uptoBulkAll r
def uptoBulkEntries {H : Type} : List (Lit × DataW H) → Nat
  | [] => 0
  | x :: r => uptoBulkEntry x + uptoBulkEntries r
def uptoBulkEntry {H : Type} : Lit × DataW H → Nat
  | (.string bytes, d) => bytes.length + uptoBulk d + 1
  | (_, d) => uptoBulk d + 1
 end
def uptoSmall : (H : Type) → List (DataW H) → Bool := fun _ ds => decide (uptoBulkAll ds ≤ 1048576)
def OpenSpec.upto (s : _root_.Go.ChangeSpec) : _root_.Go.OpenSpec := { _root_.Go.OpenSpec.ofChange s with cond := some uptoSmall }

/-- 'backstitchlaw2.SpanOfs', WHERE WHAT IT READS IS OF BULK AT MOST 1048576: true; the input reads as it did. -/
def spanOfsUptoRow : OpenClaim := { program := "ytekofpigmggbbaadoor", sum := "1724c1d1e251af4512d8b07868b0445ea81988b55a51da27733383a1857d29c4", func := "backstitch/backstitchlaw2.SpanOfs", spec := "spanOfs", inPlace := ["math.Float64frombits"], unfollowed := true, recurses := true, named := ["strings.asciiSpace", "unicode.White_Space"], plainKeys := false, apart := false, laid := [("unicode.White_Space", laid_unicode_White_Space), ("strings.asciiSpace", laid_strings_asciiSpace)], narrowed := true }
def SpanOfsUptoSaid : Prop := spanOfsUptoRow.holds Tryd.pinned (OpenSpec.upto spanOfsSpec)

/-- 'backstitchlaw2.CseDoes', WHERE WHAT IT READS IS OF BULK AT MOST 1048576: true; the input reads as it did. -/
def cseDoesUptoRow : OpenClaim := { program := "ytekofpigmggbbaadoor", sum := "1724c1d1e251af4512d8b07868b0445ea81988b55a51da27733383a1857d29c4", func := "backstitch/backstitchlaw2.CseDoes", spec := "cseDoes", inPlace := ["math.Float64frombits"], unfollowed := true, recurses := true, named := ["strings.asciiSpace", "unicode.White_Space"], plainKeys := false, apart := false, laid := [("unicode.White_Space", laid_unicode_White_Space), ("strings.asciiSpace", laid_strings_asciiSpace)], narrowed := true }
def CseDoesUptoSaid : Prop := cseDoesUptoRow.holds Tryd.pinned (OpenSpec.upto cseDoesSpec)

/-- 'backstitchlaw2.DeadDoes', WHERE WHAT IT READS IS OF BULK AT MOST 1048576: true; the input reads as it did. -/
def deadDoesUptoRow : OpenClaim := { program := "ytekofpigmggbbaadoor", sum := "1724c1d1e251af4512d8b07868b0445ea81988b55a51da27733383a1857d29c4", func := "backstitch/backstitchlaw2.DeadDoes", spec := "deadDoes", inPlace := ["math.Float64frombits"], unfollowed := true, recurses := true, named := ["strings.asciiSpace", "unicode.White_Space"], plainKeys := false, apart := false, laid := [("unicode.White_Space", laid_unicode_White_Space), ("strings.asciiSpace", laid_strings_asciiSpace)], narrowed := true }
def DeadDoesUptoSaid : Prop := deadDoesUptoRow.holds Tryd.pinned (OpenSpec.upto deadDoesSpec)

/-- 'backstitchlaw2.PeelDoes', WHERE WHAT IT READS IS OF BULK AT MOST 1048576: true; the input reads as it did. -/
def peelDoesUptoRow : OpenClaim := { program := "ytekofpigmggbbaadoor", sum := "1724c1d1e251af4512d8b07868b0445ea81988b55a51da27733383a1857d29c4", func := "backstitch/backstitchlaw2.PeelDoes", spec := "peelDoes", inPlace := ["math.Float64frombits"], unfollowed := true, recurses := true, named := ["strings.asciiSpace", "unicode.White_Space"], plainKeys := false, apart := false, laid := [("unicode.White_Space", laid_unicode_White_Space), ("strings.asciiSpace", laid_strings_asciiSpace)], narrowed := true }
def PeelDoesUptoSaid : Prop := peelDoesUptoRow.holds Tryd.pinned (OpenSpec.upto peelDoesSpec)

/-- 'backstitchlaw2.AliasDoes', WHERE WHAT IT READS IS OF BULK AT MOST 1048576: true; the input reads as it did. -/
def aliasDoesUptoRow : OpenClaim := { program := "ytekofpigmggbbaadoor", sum := "1724c1d1e251af4512d8b07868b0445ea81988b55a51da27733383a1857d29c4", func := "backstitch/backstitchlaw2.AliasDoes", spec := "aliasDoes", inPlace := ["math.Float64frombits"], unfollowed := true, recurses := true, named := ["strings.asciiSpace", "unicode.White_Space"], plainKeys := false, apart := false, laid := [("unicode.White_Space", laid_unicode_White_Space), ("strings.asciiSpace", laid_strings_asciiSpace)], narrowed := true }
def AliasDoesUptoSaid : Prop := aliasDoesUptoRow.holds Tryd.pinned (OpenSpec.upto aliasDoesSpec)

/-- 'backstitchlaw2.SpanDoes', WHERE WHAT IT READS IS OF BULK AT MOST 1048576: true; the input reads as it did. -/
def spanDoesUptoRow : OpenClaim := { program := "ytekofpigmggbbaadoor", sum := "1724c1d1e251af4512d8b07868b0445ea81988b55a51da27733383a1857d29c4", func := "backstitch/backstitchlaw2.SpanDoes", spec := "spanDoes", inPlace := ["math.Float64frombits"], unfollowed := true, recurses := true, named := ["strings.asciiSpace", "unicode.White_Space"], plainKeys := false, apart := false, laid := [("unicode.White_Space", laid_unicode_White_Space), ("strings.asciiSpace", laid_strings_asciiSpace)], narrowed := true }
def SpanDoesUptoSaid : Prop := spanDoesUptoRow.holds Tryd.pinned (OpenSpec.upto spanDoesSpec)

end Rows
end Go.Proofs.YtekofpigmggbbaaDoor
