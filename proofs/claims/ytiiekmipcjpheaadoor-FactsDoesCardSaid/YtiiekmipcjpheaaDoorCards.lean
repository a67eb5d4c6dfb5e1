/-
  DERIVED. GIVEN WITH THE SEED: THE CARDS: each row of YtiiekmipcjpheaaDoorRows.lean that lists a variable, with what it lists TIED to the program's text (the seventh form; the later family's looks); each row that meets fmt, with fmt's text TOLD by the authors' own Lean function (tested against real Go, not proved from fmt's source: count such statements apart). THE CARD IS WHAT COUNTS. Prove the row's statement (the work); the ties are given (YtiiekmipcjpheaaDoorTie.lean); close each card by the builder's one call (the guide's Derived/Test/ToyasCard.lean, 'card_holds'). Laid BY PROGRAM, IN A SANDBOX (cutbox-door.mjs). By AI agents, Wed Nov 11 2026. No macro, syntax, notation, axiom, sorry.
-/
import Derived.Test.YtiiekmipcjpheaaDoorRows
import GoSem.ClaimSeven
namespace Go.Proofs.YtiiekmipcjpheaaDoor
namespace Rows

/-- THE TIED CARD OF 'backstitchlaw2.IrCuts'. -/
def irCutsCard : Claim7 := { stood := { row := irCutsRow, standIns := [], harness := (true, "b86e6a55d5153967e751dbd5ae5252f1f1eb52f13b4c7c0e805714f86534c017"), looks := false }, kinds := [], alts := [], laidByText := true, laidKinds := [.listed, .data], laidTests := true, laidLooks := .later }
def IrCutsCardSaid : Prop := Claim7.holds Tryd.pinned (.plain (OpenSpec.ofChange irCutsSpec)) irCutsCard

/-- THE TIED CARD OF 'backstitchlaw2.IrChecks'. -/
def irChecksCard : Claim7 := { stood := { row := irChecksRow, standIns := [], harness := (true, "b86e6a55d5153967e751dbd5ae5252f1f1eb52f13b4c7c0e805714f86534c017"), looks := false }, kinds := [], alts := [], laidByText := true, laidKinds := [.listed, .data], laidTests := true, laidLooks := .later }
def IrChecksCardSaid : Prop := Claim7.holds Tryd.pinned (.plain (OpenSpec.ofChange irChecksSpec)) irChecksCard

/-- THE TIED CARD OF 'backstitchlaw2.CseDoes'. -/
def cseDoesCard : Claim7 := { stood := { row := cseDoesRow, standIns := [], harness := (true, "b86e6a55d5153967e751dbd5ae5252f1f1eb52f13b4c7c0e805714f86534c017"), looks := false }, kinds := [], alts := [], laidByText := true, laidKinds := [.listed, .data], laidTests := true, laidLooks := .later }
def CseDoesCardSaid : Prop := Claim7.holds Tryd.pinned (.plain (OpenSpec.ofChange cseDoesSpec)) cseDoesCard

/-- THE TIED CARD OF 'backstitchlaw2.DeadDoes'. -/
def deadDoesCard : Claim7 := { stood := { row := deadDoesRow, standIns := [], harness := (true, "b86e6a55d5153967e751dbd5ae5252f1f1eb52f13b4c7c0e805714f86534c017"), looks := false }, kinds := [], alts := [], laidByText := true, laidKinds := [.listed, .data], laidTests := true, laidLooks := .later }
def DeadDoesCardSaid : Prop := Claim7.holds Tryd.pinned (.plain (OpenSpec.ofChange deadDoesSpec)) deadDoesCard

/-- THE TIED CARD OF 'backstitchlaw2.PeelDoes'. -/
def peelDoesCard : Claim7 := { stood := { row := peelDoesRow, standIns := [], harness := (true, "b86e6a55d5153967e751dbd5ae5252f1f1eb52f13b4c7c0e805714f86534c017"), looks := false }, kinds := [], alts := [], laidByText := true, laidKinds := [.listed, .data], laidTests := true, laidLooks := .later }
def PeelDoesCardSaid : Prop := Claim7.holds Tryd.pinned (.plain (OpenSpec.ofChange peelDoesSpec)) peelDoesCard

/-- THE TIED CARD OF 'backstitchlaw2.AliasDoes'. -/
def aliasDoesCard : Claim7 := { stood := { row := aliasDoesRow, standIns := [], harness := (true, "b86e6a55d5153967e751dbd5ae5252f1f1eb52f13b4c7c0e805714f86534c017"), looks := false }, kinds := [], alts := [], laidByText := true, laidKinds := [.listed, .data], laidTests := true, laidLooks := .later }
def AliasDoesCardSaid : Prop := Claim7.holds Tryd.pinned (.plain (OpenSpec.ofChange aliasDoesSpec)) aliasDoesCard

/-- THE TIED CARD OF 'backstitchlaw2.FactsDoes'. -/
def factsDoesCard : Claim7 := { stood := { row := factsDoesRow, standIns := [], harness := (true, "b86e6a55d5153967e751dbd5ae5252f1f1eb52f13b4c7c0e805714f86534c017"), looks := false }, kinds := [], alts := [], laidByText := true, laidKinds := [.listed, .data], laidTests := true, laidLooks := .later }
def FactsDoesCardSaid : Prop := Claim7.holds Tryd.pinned (.plain (OpenSpec.ofChange factsDoesSpec)) factsDoesCard

/-- THE SECOND FORM's CARD OF 'backstitchlaw2.IrCuts'. -/
def irCutsUptoCard : Claim7 := { stood := { row := irCutsUptoRow, standIns := [], harness := (true, "b86e6a55d5153967e751dbd5ae5252f1f1eb52f13b4c7c0e805714f86534c017"), looks := false }, kinds := [], alts := [], laidByText := true, laidKinds := [.listed, .data], laidTests := true, laidLooks := .later }
def IrCutsUptoCardSaid : Prop := Claim7.holds Tryd.pinned (.plain (OpenSpec.upto irCutsSpec)) irCutsUptoCard

/-- THE SECOND FORM's CARD OF 'backstitchlaw2.IrChecks'. -/
def irChecksUptoCard : Claim7 := { stood := { row := irChecksUptoRow, standIns := [], harness := (true, "b86e6a55d5153967e751dbd5ae5252f1f1eb52f13b4c7c0e805714f86534c017"), looks := false }, kinds := [], alts := [], laidByText := true, laidKinds := [.listed, .data], laidTests := true, laidLooks := .later }
def IrChecksUptoCardSaid : Prop := Claim7.holds Tryd.pinned (.plain (OpenSpec.upto irChecksSpec)) irChecksUptoCard

/-- THE SECOND FORM's CARD OF 'backstitchlaw2.CseDoes'. -/
def cseDoesUptoCard : Claim7 := { stood := { row := cseDoesUptoRow, standIns := [], harness := (true, "b86e6a55d5153967e751dbd5ae5252f1f1eb52f13b4c7c0e805714f86534c017"), looks := false }, kinds := [], alts := [], laidByText := true, laidKinds := [.listed, .data], laidTests := true, laidLooks := .later }
def CseDoesUptoCardSaid : Prop := Claim7.holds Tryd.pinned (.plain (OpenSpec.upto cseDoesSpec)) cseDoesUptoCard

/-- THE SECOND FORM's CARD OF 'backstitchlaw2.DeadDoes'. -/
def deadDoesUptoCard : Claim7 := { stood := { row := deadDoesUptoRow, standIns := [], harness := (true, "b86e6a55d5153967e751dbd5ae5252f1f1eb52f13b4c7c0e805714f86534c017"), looks := false }, kinds := [], alts := [], laidByText := true, laidKinds := [.listed, .data], laidTests := true, laidLooks := .later }
def DeadDoesUptoCardSaid : Prop := Claim7.holds Tryd.pinned (.plain (OpenSpec.upto deadDoesSpec)) deadDoesUptoCard

/-- THE SECOND FORM's CARD OF 'backstitchlaw2.PeelDoes'. -/
def peelDoesUptoCard : Claim7 := { stood := { row := peelDoesUptoRow, standIns := [], harness := (true, "b86e6a55d5153967e751dbd5ae5252f1f1eb52f13b4c7c0e805714f86534c017"), looks := false }, kinds := [], alts := [], laidByText := true, laidKinds := [.listed, .data], laidTests := true, laidLooks := .later }
def PeelDoesUptoCardSaid : Prop := Claim7.holds Tryd.pinned (.plain (OpenSpec.upto peelDoesSpec)) peelDoesUptoCard

/-- THE SECOND FORM's CARD OF 'backstitchlaw2.AliasDoes'. -/
def aliasDoesUptoCard : Claim7 := { stood := { row := aliasDoesUptoRow, standIns := [], harness := (true, "b86e6a55d5153967e751dbd5ae5252f1f1eb52f13b4c7c0e805714f86534c017"), looks := false }, kinds := [], alts := [], laidByText := true, laidKinds := [.listed, .data], laidTests := true, laidLooks := .later }
def AliasDoesUptoCardSaid : Prop := Claim7.holds Tryd.pinned (.plain (OpenSpec.upto aliasDoesSpec)) aliasDoesUptoCard

/-- THE SECOND FORM's CARD OF 'backstitchlaw2.FactsDoes'. -/
def factsDoesUptoCard : Claim7 := { stood := { row := factsDoesUptoRow, standIns := [], harness := (true, "b86e6a55d5153967e751dbd5ae5252f1f1eb52f13b4c7c0e805714f86534c017"), looks := false }, kinds := [], alts := [], laidByText := true, laidKinds := [.listed, .data], laidTests := true, laidLooks := .later }
def FactsDoesUptoCardSaid : Prop := Claim7.holds Tryd.pinned (.plain (OpenSpec.upto factsDoesSpec)) factsDoesUptoCard
end Rows
end Go.Proofs.YtiiekmipcjpheaaDoor
