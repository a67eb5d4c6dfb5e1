/-
  DERIVED. GIVEN WITH THE SEED: THE CARDS: each row of YtekofpigmggbbaaDoorRows.lean that lists a variable, with what it lists TIED to the program's text (the seventh form; the later family's looks); each row that meets fmt, with fmt's text TOLD by the authors' own Lean function (tested against real Go, not proved from fmt's source: count such statements apart). THE CARD IS WHAT COUNTS. Prove the row's statement (the work); the ties are given (YtekofpigmggbbaaDoorTie.lean); close each card by the builder's one call (the guide's Derived/Test/ToyasCard.lean, 'card_holds'). Laid BY PROGRAM, IN A SANDBOX (cutbox-door.mjs). By AI agents, Wed Nov 11 2026. No macro, syntax, notation, axiom, sorry.
-/
import Derived.Test.YtekofpigmggbbaaDoorRows
import GoSem.ClaimSeven
namespace Go.Proofs.YtekofpigmggbbaaDoor
namespace Rows

/-- THE TIED CARD OF 'backstitchlaw2.SpanOfs'. -/
def spanOfsCard : Claim7 := { stood := { row := spanOfsRow, standIns := [], harness := (true, "01c40a6173f78ba6b5b5351860c46af5fbf9776147dc04d141d4e17afe91d5de"), looks := false }, kinds := [], alts := [], laidByText := true, laidKinds := [.listed, .data], laidTests := true, laidLooks := .later }
def SpanOfsCardSaid : Prop := Claim7.holds Tryd.pinned (.plain (OpenSpec.ofChange spanOfsSpec)) spanOfsCard

/-- THE TIED CARD OF 'backstitchlaw2.CseDoes'. -/
def cseDoesCard : Claim7 := { stood := { row := cseDoesRow, standIns := [], harness := (true, "01c40a6173f78ba6b5b5351860c46af5fbf9776147dc04d141d4e17afe91d5de"), looks := false }, kinds := [], alts := [], laidByText := true, laidKinds := [.listed, .data], laidTests := true, laidLooks := .later }
def CseDoesCardSaid : Prop := Claim7.holds Tryd.pinned (.plain (OpenSpec.ofChange cseDoesSpec)) cseDoesCard

/-- THE TIED CARD OF 'backstitchlaw2.DeadDoes'. -/
def deadDoesCard : Claim7 := { stood := { row := deadDoesRow, standIns := [], harness := (true, "01c40a6173f78ba6b5b5351860c46af5fbf9776147dc04d141d4e17afe91d5de"), looks := false }, kinds := [], alts := [], laidByText := true, laidKinds := [.listed, .data], laidTests := true, laidLooks := .later }
def DeadDoesCardSaid : Prop := Claim7.holds Tryd.pinned (.plain (OpenSpec.ofChange deadDoesSpec)) deadDoesCard

/-- THE TIED CARD OF 'backstitchlaw2.PeelDoes'. -/
def peelDoesCard : Claim7 := { stood := { row := peelDoesRow, standIns := [], harness := (true, "01c40a6173f78ba6b5b5351860c46af5fbf9776147dc04d141d4e17afe91d5de"), looks := false }, kinds := [], alts := [], laidByText := true, laidKinds := [.listed, .data], laidTests := true, laidLooks := .later }
def PeelDoesCardSaid : Prop := Claim7.holds Tryd.pinned (.plain (OpenSpec.ofChange peelDoesSpec)) peelDoesCard

/-- THE TIED CARD OF 'backstitchlaw2.AliasDoes'. -/
def aliasDoesCard : Claim7 := { stood := { row := aliasDoesRow, standIns := [], harness := (true, "01c40a6173f78ba6b5b5351860c46af5fbf9776147dc04d141d4e17afe91d5de"), looks := false }, kinds := [], alts := [], laidByText := true, laidKinds := [.listed, .data], laidTests := true, laidLooks := .later }
def AliasDoesCardSaid : Prop := Claim7.holds Tryd.pinned (.plain (OpenSpec.ofChange aliasDoesSpec)) aliasDoesCard

/-- THE TIED CARD OF 'backstitchlaw2.SpanDoes'. -/
def spanDoesCard : Claim7 := { stood := { row := spanDoesRow, standIns := [], harness := (true, "01c40a6173f78ba6b5b5351860c46af5fbf9776147dc04d141d4e17afe91d5de"), looks := false }, kinds := [], alts := [], laidByText := true, laidKinds := [.listed, .data], laidTests := true, laidLooks := .later }
def SpanDoesCardSaid : Prop := Claim7.holds Tryd.pinned (.plain (OpenSpec.ofChange spanDoesSpec)) spanDoesCard

/-- THE SECOND FORM's CARD OF 'backstitchlaw2.SpanOfs'. -/
def spanOfsUptoCard : Claim7 := { stood := { row := spanOfsUptoRow, standIns := [], harness := (true, "01c40a6173f78ba6b5b5351860c46af5fbf9776147dc04d141d4e17afe91d5de"), looks := false }, kinds := [], alts := [], laidByText := true, laidKinds := [.listed, .data], laidTests := true, laidLooks := .later }
def SpanOfsUptoCardSaid : Prop := Claim7.holds Tryd.pinned (.plain (OpenSpec.upto spanOfsSpec)) spanOfsUptoCard

/-- THE SECOND FORM's CARD OF 'backstitchlaw2.CseDoes'. -/
def cseDoesUptoCard : Claim7 := { stood := { row := cseDoesUptoRow, standIns := [], harness := (true, "01c40a6173f78ba6b5b5351860c46af5fbf9776147dc04d141d4e17afe91d5de"), looks := false }, kinds := [], alts := [], laidByText := true, laidKinds := [.listed, .data], laidTests := true, laidLooks := .later }
def CseDoesUptoCardSaid : Prop := Claim7.holds Tryd.pinned (.plain (OpenSpec.upto cseDoesSpec)) cseDoesUptoCard

/-- THE SECOND FORM's CARD OF 'backstitchlaw2.DeadDoes'. -/
def deadDoesUptoCard : Claim7 := { stood := { row := deadDoesUptoRow, standIns := [], harness := (true, "01c40a6173f78ba6b5b5351860c46af5fbf9776147dc04d141d4e17afe91d5de"), looks := false }, kinds := [], alts := [], laidByText := true, laidKinds := [.listed, .data], laidTests := true, laidLooks := .later }
def DeadDoesUptoCardSaid : Prop := Claim7.holds Tryd.pinned (.plain (OpenSpec.upto deadDoesSpec)) deadDoesUptoCard

/-- THE SECOND FORM's CARD OF 'backstitchlaw2.PeelDoes'. -/
def peelDoesUptoCard : Claim7 := { stood := { row := peelDoesUptoRow, standIns := [], harness := (true, "01c40a6173f78ba6b5b5351860c46af5fbf9776147dc04d141d4e17afe91d5de"), looks := false }, kinds := [], alts := [], laidByText := true, laidKinds := [.listed, .data], laidTests := true, laidLooks := .later }
def PeelDoesUptoCardSaid : Prop := Claim7.holds Tryd.pinned (.plain (OpenSpec.upto peelDoesSpec)) peelDoesUptoCard

/-- THE SECOND FORM's CARD OF 'backstitchlaw2.AliasDoes'. -/
def aliasDoesUptoCard : Claim7 := { stood := { row := aliasDoesUptoRow, standIns := [], harness := (true, "01c40a6173f78ba6b5b5351860c46af5fbf9776147dc04d141d4e17afe91d5de"), looks := false }, kinds := [], alts := [], laidByText := true, laidKinds := [.listed, .data], laidTests := true, laidLooks := .later }
def AliasDoesUptoCardSaid : Prop := Claim7.holds Tryd.pinned (.plain (OpenSpec.upto aliasDoesSpec)) aliasDoesUptoCard

/-- THE SECOND FORM's CARD OF 'backstitchlaw2.SpanDoes'. -/
def spanDoesUptoCard : Claim7 := { stood := { row := spanDoesUptoRow, standIns := [], harness := (true, "01c40a6173f78ba6b5b5351860c46af5fbf9776147dc04d141d4e17afe91d5de"), looks := false }, kinds := [], alts := [], laidByText := true, laidKinds := [.listed, .data], laidTests := true, laidLooks := .later }
def SpanDoesUptoCardSaid : Prop := Claim7.holds Tryd.pinned (.plain (OpenSpec.upto spanDoesSpec)) spanDoesUptoCard
end Rows
end Go.Proofs.YtekofpigmggbbaaDoor
