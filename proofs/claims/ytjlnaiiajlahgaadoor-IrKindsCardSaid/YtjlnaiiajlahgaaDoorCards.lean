/-
  DERIVED. GIVEN WITH THE SEED: THE CARDS: each row of YtjlnaiiajlahgaaDoorRows.lean that lists a variable, with what it lists TIED to the program's text (the seventh form; the later family's looks); each row that meets fmt, with fmt's text TOLD by the authors' own Lean function (tested against real Go, not proved from fmt's source: count such statements apart). THE CARD IS WHAT COUNTS. Prove the row's statement (the work); the ties are given (YtjlnaiiajlahgaaDoorTie.lean); close each card by the builder's one call (the guide's Derived/Test/ToyasCard.lean, 'card_holds'). Laid BY PROGRAM, IN A SANDBOX (cutbox-door.mjs). By AI agents, Wed Nov 11 2026. No macro, syntax, notation, axiom, sorry.
-/
import Derived.Test.YtjlnaiiajlahgaaDoorRows
import GoSem.ClaimSeven
namespace Go.Proofs.YtjlnaiiajlahgaaDoor
namespace Rows

/-- THE TIED CARD OF 'backstitchlaw2.IrWrites'. -/
def irWritesCard : Claim7 := { stood := { row := irWritesRow, standIns := [], harness := (true, "24301d15abd6375944bf11ac66a5b0c260dd9401e2b6978daabd5140ed5d1efc"), looks := false }, kinds := [], alts := [], laidByText := true, laidKinds := [.data, .data, .data], laidTests := true, laidLooks := .later }
def IrWritesCardSaid : Prop := Claim7.holds Tryd.pinned (.plain (OpenSpec.ofChange irWritesSpec)) irWritesCard

/-- THE TIED CARD OF 'backstitchlaw4.BrkFirsts'. -/
def brkFirstsCard : Claim7 := { stood := { row := brkFirstsRow, standIns := [], harness := (true, "24301d15abd6375944bf11ac66a5b0c260dd9401e2b6978daabd5140ed5d1efc"), looks := false }, kinds := [], alts := [], laidByText := true, laidKinds := [.data, .pinned], laidTests := true, laidLooks := .later }
def BrkFirstsCardSaid : Prop := Claim7.holds Tryd.pinned (.plain (OpenSpec.ofChange brkFirstsSpec)) brkFirstsCard

/-- THE TIED CARD OF 'backstitchlaw2.IrKinds'. -/
def irKindsCard : Claim7 := { stood := { row := irKindsRow, standIns := [], harness := (true, "24301d15abd6375944bf11ac66a5b0c260dd9401e2b6978daabd5140ed5d1efc"), looks := false }, kinds := [], alts := [], laidByText := true, laidKinds := [.listed, .data], laidTests := true, laidLooks := .later }
def IrKindsCardSaid : Prop := Claim7.holds Tryd.pinned (.plain (OpenSpec.ofChange irKindsSpec)) irKindsCard

/-- THE TIED CARD OF 'backstitchlaw2.IrCuts'. -/
def irCutsCard : Claim7 := { stood := { row := irCutsRow, standIns := [], harness := (true, "24301d15abd6375944bf11ac66a5b0c260dd9401e2b6978daabd5140ed5d1efc"), looks := false }, kinds := [], alts := [], laidByText := true, laidKinds := [.listed, .data], laidTests := true, laidLooks := .later }
def IrCutsCardSaid : Prop := Claim7.holds Tryd.pinned (.plain (OpenSpec.ofChange irCutsSpec)) irCutsCard

/-- THE TIED CARD OF 'backstitchlaw2.IrChecks'. -/
def irChecksCard : Claim7 := { stood := { row := irChecksRow, standIns := [], harness := (true, "24301d15abd6375944bf11ac66a5b0c260dd9401e2b6978daabd5140ed5d1efc"), looks := false }, kinds := [], alts := [], laidByText := true, laidKinds := [.listed, .data], laidTests := true, laidLooks := .later }
def IrChecksCardSaid : Prop := Claim7.holds Tryd.pinned (.plain (OpenSpec.ofChange irChecksSpec)) irChecksCard

/-- THE SECOND FORM's CARD OF 'backstitchlaw2.IrWrites'. -/
def irWritesUptoCard : Claim7 := { stood := { row := irWritesUptoRow, standIns := [], harness := (true, "24301d15abd6375944bf11ac66a5b0c260dd9401e2b6978daabd5140ed5d1efc"), looks := false }, kinds := [], alts := [], laidByText := true, laidKinds := [.data, .data, .data], laidTests := true, laidLooks := .later }
def IrWritesUptoCardSaid : Prop := Claim7.holds Tryd.pinned (.plain (OpenSpec.upto irWritesSpec)) irWritesUptoCard

/-- THE SECOND FORM's CARD OF 'backstitchlaw4.BrkFirsts'. -/
def brkFirstsUptoCard : Claim7 := { stood := { row := brkFirstsUptoRow, standIns := [], harness := (true, "24301d15abd6375944bf11ac66a5b0c260dd9401e2b6978daabd5140ed5d1efc"), looks := false }, kinds := [], alts := [], laidByText := true, laidKinds := [.data, .pinned], laidTests := true, laidLooks := .later }
def BrkFirstsUptoCardSaid : Prop := Claim7.holds Tryd.pinned (.plain (OpenSpec.upto brkFirstsSpec)) brkFirstsUptoCard

/-- THE SECOND FORM's CARD OF 'backstitchlaw2.IrKinds'. -/
def irKindsUptoCard : Claim7 := { stood := { row := irKindsUptoRow, standIns := [], harness := (true, "24301d15abd6375944bf11ac66a5b0c260dd9401e2b6978daabd5140ed5d1efc"), looks := false }, kinds := [], alts := [], laidByText := true, laidKinds := [.listed, .data], laidTests := true, laidLooks := .later }
def IrKindsUptoCardSaid : Prop := Claim7.holds Tryd.pinned (.plain (OpenSpec.upto irKindsSpec)) irKindsUptoCard

/-- THE SECOND FORM's CARD OF 'backstitchlaw2.IrCuts'. -/
def irCutsUptoCard : Claim7 := { stood := { row := irCutsUptoRow, standIns := [], harness := (true, "24301d15abd6375944bf11ac66a5b0c260dd9401e2b6978daabd5140ed5d1efc"), looks := false }, kinds := [], alts := [], laidByText := true, laidKinds := [.listed, .data], laidTests := true, laidLooks := .later }
def IrCutsUptoCardSaid : Prop := Claim7.holds Tryd.pinned (.plain (OpenSpec.upto irCutsSpec)) irCutsUptoCard

/-- THE SECOND FORM's CARD OF 'backstitchlaw2.IrChecks'. -/
def irChecksUptoCard : Claim7 := { stood := { row := irChecksUptoRow, standIns := [], harness := (true, "24301d15abd6375944bf11ac66a5b0c260dd9401e2b6978daabd5140ed5d1efc"), looks := false }, kinds := [], alts := [], laidByText := true, laidKinds := [.listed, .data], laidTests := true, laidLooks := .later }
def IrChecksUptoCardSaid : Prop := Claim7.holds Tryd.pinned (.plain (OpenSpec.upto irChecksSpec)) irChecksUptoCard
end Rows
end Go.Proofs.YtjlnaiiajlahgaaDoor
