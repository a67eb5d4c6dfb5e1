/- MADE BY PROGRAM (gents.py): the bulk of each type that this seat knows, and that what reads as data of the type is one no greater. -/
import Derived.Test.YtimlhjjdaggiiaaTy
import Derived.Test.YtimlhjjdaggiiaaBulk
set_option linter.unusedVariables false
set_option linter.unusedSimpArgs false
namespace Go.Bk
open Go.RowKit

instance : Bulk Api.DPatch := Bulk.via (β := Int × Int) fun x => (x.At, x.Value)
theorem api_DPatch_bulk (x : Api.DPatch) : Bulk.bulk x = Bulk.bulk x.At + Bulk.bulk x.Value := by show Bulk.bulk x.At + (Bulk.bulk x.Value) = _; omega
instance : Bulk Api.Val := Bulk.via (β := Int × Int) fun x => (x.Kind, x.N)
theorem api_Val_bulk (x : Api.Val) : Bulk.bulk x = Bulk.bulk x.Kind + Bulk.bulk x.N := by show Bulk.bulk x.Kind + (Bulk.bulk x.N) = _; omega
instance : Bulk Api.Try := Bulk.via (β := Int × Int) fun x => (x.Reg, x.At)
theorem api_Try_bulk (x : Api.Try) : Bulk.bulk x = Bulk.bulk x.Reg + Bulk.bulk x.At := by show Bulk.bulk x.Reg + (Bulk.bulk x.At) = _; omega
instance : Bulk Api.Frame := Bulk.via (β := Int × Int × Int × Int × Api.Val × (List Api.Val) × (List Api.Try)) fun x => (x.Fn, x.At, x.To, x.Gen, x.Self, x.Regs, x.Tries)
theorem api_Frame_bulk (x : Api.Frame) : Bulk.bulk x = Bulk.bulk x.Fn + Bulk.bulk x.At + Bulk.bulk x.To + Bulk.bulk x.Gen + Bulk.bulk x.Self + Bulk.bulk x.Regs + Bulk.bulk x.Tries := by show Bulk.bulk x.Fn + (Bulk.bulk x.At + (Bulk.bulk x.To + (Bulk.bulk x.Gen + (Bulk.bulk x.Self + (Bulk.bulk x.Regs + (Bulk.bulk x.Tries)))))) = _; omega
instance : Bulk Api.Cell := Bulk.via (β := Int × Int × (List Api.Val) × (List Api.Frame)) fun x => (x.Kind, x.Num, x.Vals, x.Frames)
theorem api_Cell_bulk (x : Api.Cell) : Bulk.bulk x = Bulk.bulk x.Kind + Bulk.bulk x.Num + Bulk.bulk x.Vals + Bulk.bulk x.Frames := by show Bulk.bulk x.Kind + (Bulk.bulk x.Num + (Bulk.bulk x.Vals + (Bulk.bulk x.Frames))) = _; omega
instance : Bulk Api.Shape := Bulk.via (β := Int × Int) fun x => (x.Up, x.Name)
theorem api_Shape_bulk (x : Api.Shape) : Bulk.bulk x = Bulk.bulk x.Up + Bulk.bulk x.Name := by show Bulk.bulk x.Up + (Bulk.bulk x.Name) = _; omega
instance : Bulk Api.Thread := Bulk.via (β := (List Api.Frame) × Int × Int × Api.Val) fun x => (x.Frames, x.State, x.On, x.Val)
theorem api_Thread_bulk (x : Api.Thread) : Bulk.bulk x = Bulk.bulk x.Frames + Bulk.bulk x.State + Bulk.bulk x.On + Bulk.bulk x.Val := by show Bulk.bulk x.Frames + (Bulk.bulk x.State + (Bulk.bulk x.On + (Bulk.bulk x.Val))) = _; omega
instance : Bulk Api.End := Bulk.via (β := Int × Api.Val) fun x => (x.Cell, x.Fn)
theorem api_End_bulk (x : Api.End) : Bulk.bulk x = Bulk.bulk x.Cell + Bulk.bulk x.Fn := by show Bulk.bulk x.Cell + (Bulk.bulk x.Fn) = _; omega
instance : Bulk Api.State := Bulk.via (β := (List Api.Cell) × (List Api.Shape) × (List ByteArray) × (List Api.Thread) × (List Api.End) × (List Api.Val) × Int × Int) fun x => (x.Cells, x.Shapes, x.Texts, x.Threads, x.Ends, x.Said, x.Asked, x.Steps)
theorem api_State_bulk (x : Api.State) : Bulk.bulk x = Bulk.bulk x.Cells + Bulk.bulk x.Shapes + Bulk.bulk x.Texts + Bulk.bulk x.Threads + Bulk.bulk x.Ends + Bulk.bulk x.Said + Bulk.bulk x.Asked + Bulk.bulk x.Steps := by show Bulk.bulk x.Cells + (Bulk.bulk x.Shapes + (Bulk.bulk x.Texts + (Bulk.bulk x.Threads + (Bulk.bulk x.Ends + (Bulk.bulk x.Said + (Bulk.bulk x.Asked + (Bulk.bulk x.Steps))))))) = _; omega
instance : Bulk Api.Event := Bulk.via (β := Int × Int × Int × Int × Int × Int × Int × Int × Api.Val × Api.Val) fun x => (x.Kind, x.Step, x.Thread, x.Fn, x.At, x.Line, x.A, x.B, x.Val, x.Old)
theorem api_Event_bulk (x : Api.Event) : Bulk.bulk x = Bulk.bulk x.Kind + Bulk.bulk x.Step + Bulk.bulk x.Thread + Bulk.bulk x.Fn + Bulk.bulk x.At + Bulk.bulk x.Line + Bulk.bulk x.A + Bulk.bulk x.B + Bulk.bulk x.Val + Bulk.bulk x.Old := by show Bulk.bulk x.Kind + (Bulk.bulk x.Step + (Bulk.bulk x.Thread + (Bulk.bulk x.Fn + (Bulk.bulk x.At + (Bulk.bulk x.Line + (Bulk.bulk x.A + (Bulk.bulk x.B + (Bulk.bulk x.Val + (Bulk.bulk x.Old))))))))) = _; omega
instance : Bulk Api.DMark := Bulk.via (β := Int × Int × Int) fun x => (x.Thread, x.Deep, x.Line)
theorem api_DMark_bulk (x : Api.DMark) : Bulk.bulk x = Bulk.bulk x.Thread + Bulk.bulk x.Deep + Bulk.bulk x.Line := by show Bulk.bulk x.Thread + (Bulk.bulk x.Deep + (Bulk.bulk x.Line)) = _; omega
instance : Bulk Api.TIns := Bulk.via (β := Int × Int × Int × Int × Int × Int × Api.Val) fun x => (x.Op, x.A, x.B, x.C, x.N, x.Exit, x.K)
theorem api_TIns_bulk (x : Api.TIns) : Bulk.bulk x = Bulk.bulk x.Op + Bulk.bulk x.A + Bulk.bulk x.B + Bulk.bulk x.C + Bulk.bulk x.N + Bulk.bulk x.Exit + Bulk.bulk x.K := by show Bulk.bulk x.Op + (Bulk.bulk x.A + (Bulk.bulk x.B + (Bulk.bulk x.C + (Bulk.bulk x.N + (Bulk.bulk x.Exit + (Bulk.bulk x.K)))))) = _; omega
instance : Bulk Api.TSet := Bulk.via (β := Int × Int) fun x => (x.Reg, x.Val)
theorem api_TSet_bulk (x : Api.TSet) : Bulk.bulk x = Bulk.bulk x.Reg + Bulk.bulk x.Val := by show Bulk.bulk x.Reg + (Bulk.bulk x.Val) = _; omega
instance : Bulk Api.TMake := Bulk.via (β := Int × Int × Int × (List Int)) fun x => (x.Cell, x.Kind, x.Num, x.Vals)
theorem api_TMake_bulk (x : Api.TMake) : Bulk.bulk x = Bulk.bulk x.Cell + Bulk.bulk x.Kind + Bulk.bulk x.Num + Bulk.bulk x.Vals := by show Bulk.bulk x.Cell + (Bulk.bulk x.Kind + (Bulk.bulk x.Num + (Bulk.bulk x.Vals))) = _; omega
instance : Bulk Api.TExit := Bulk.via (β := Int × Int × (List Api.TSet) × (List Api.TMake)) fun x => (x.At, x.Steps, x.Sets, x.Makes)
theorem api_TExit_bulk (x : Api.TExit) : Bulk.bulk x = Bulk.bulk x.At + Bulk.bulk x.Steps + Bulk.bulk x.Sets + Bulk.bulk x.Makes := by show Bulk.bulk x.At + (Bulk.bulk x.Steps + (Bulk.bulk x.Sets + (Bulk.bulk x.Makes))) = _; omega
instance : Bulk Api.TTrace := Bulk.via (β := Int × Int × Int × (List Api.TIns) × (List Api.TExit) × Api.TExit × Api.TExit) fun x => (x.Fn, x.At, x.Loop, x.Ins, x.Exits, x.Turn, x.Back)
theorem api_TTrace_bulk (x : Api.TTrace) : Bulk.bulk x = Bulk.bulk x.Fn + Bulk.bulk x.At + Bulk.bulk x.Loop + Bulk.bulk x.Ins + Bulk.bulk x.Exits + Bulk.bulk x.Turn + Bulk.bulk x.Back := by show Bulk.bulk x.Fn + (Bulk.bulk x.At + (Bulk.bulk x.Loop + (Bulk.bulk x.Ins + (Bulk.bulk x.Exits + (Bulk.bulk x.Turn + (Bulk.bulk x.Back)))))) = _; omega
instance : Bulk Api.DWait := Bulk.via (β := Int × Int × Int) fun x => (x.Thread, x.For, x.Lock)
theorem api_DWait_bulk (x : Api.DWait) : Bulk.bulk x = Bulk.bulk x.Thread + Bulk.bulk x.For + Bulk.bulk x.Lock := by show Bulk.bulk x.Thread + (Bulk.bulk x.For + (Bulk.bulk x.Lock)) = _; omega
instance : Bulk Api.DPair := Bulk.via (β := Int × Int) fun x => (x.I, x.J)
theorem api_DPair_bulk (x : Api.DPair) : Bulk.bulk x = Bulk.bulk x.I + Bulk.bulk x.J := by show Bulk.bulk x.I + (Bulk.bulk x.J) = _; omega
instance : Bulk Api.DDep := Bulk.via (β := (List Int)) fun x => x.Uses
theorem api_DDep_bulk (x : Api.DDep) : Bulk.bulk x = Bulk.bulk x.Uses := rfl
instance : Bulk Api.DLet := Bulk.via (β := Int × Int × Int × Int) fun x => (x.To, x.Op, x.A, x.B)
theorem api_DLet_bulk (x : Api.DLet) : Bulk.bulk x = Bulk.bulk x.To + Bulk.bulk x.Op + Bulk.bulk x.A + Bulk.bulk x.B := by show Bulk.bulk x.To + (Bulk.bulk x.Op + (Bulk.bulk x.A + (Bulk.bulk x.B))) = _; omega
instance : Bulk Api.DRun := Bulk.via (β := Int × Int) fun x => (x.Thread, x.Many)
theorem api_DRun_bulk (x : Api.DRun) : Bulk.bulk x = Bulk.bulk x.Thread + Bulk.bulk x.Many := by show Bulk.bulk x.Thread + (Bulk.bulk x.Many) = _; omega
end Go.Bk
namespace Go.Proofs.Ytimlhjjdaggiiaa
open Go.Bk
theorem Try.opensB2 : OpensB Try.prog 2 Int := OpensB.int Try.underlying2 (by kernel_rfl)
theorem Try.opensB3 : OpensB Try.prog 3 Int := OpensB.int Try.underlying3 (by kernel_rfl)
theorem Try.opensB4 : OpensB Try.prog 4 Bool := OpensB.bool Try.underlying4 (by kernel_rfl)
theorem Try.opensB5 : OpensB Try.prog 5 UInt8 := OpensB.byte Try.underlying5 (by kernel_rfl)
theorem Try.opensB6 : OpensB Try.prog 6 UInt8 := OpensB.byte Try.underlying6 (by kernel_rfl)
theorem Try.opensB9 : OpensB Try.prog 9 ByteArray := OpensB.string Try.underlying9 (by kernel_rfl)
theorem Try.opensB10 : OpensB Try.prog 10 ByteArray := OpensB.string Try.underlying10 (by kernel_rfl)
theorem Try.opensB11 : OpensB Try.prog 11 ByteArray := OpensB.string Try.underlying11 (by kernel_rfl)
theorem Try.opensB22 : OpensB Try.prog 22 (List Int) := OpensB.slice Try.underlying22 (by kernel_rfl) (by decide) Try.opensB3
theorem Try.opensB122 : OpensB Try.prog 122 Api.DPatch := OpensB.via _ (fun ⟨y0, y1⟩ => ⟨⟨y0, y1⟩, rfl⟩) (OpensB.struct Try.underlying122 (by kernel_rfl) (OpensBAt.cons 0 1 Try.opensB3 (OpensBAt.last 1 Try.opensB3) rfl) rfl)
theorem Try.opensB23 : OpensB Try.prog 23 (List Api.DPatch) := OpensB.slice Try.underlying23 (by kernel_rfl) (by decide) Try.opensB122
theorem Try.opensB24 : OpensB Try.prog 24 Int := OpensB.int Try.underlying24 (by kernel_rfl)
theorem Try.opensB48 : OpensB Try.prog 48 Api.Val := OpensB.via _ (fun ⟨y0, y1⟩ => ⟨⟨y0, y1⟩, rfl⟩) (OpensB.struct Try.underlying48 (by kernel_rfl) (OpensBAt.cons 0 1 Try.opensB3 (OpensBAt.last 1 Try.opensB3) rfl) rfl)
theorem Try.opensB34 : OpensB Try.prog 34 (List Api.Val) := OpensB.slice Try.underlying34 (by kernel_rfl) (by decide) Try.opensB48
theorem Try.opensB212 : OpensB Try.prog 212 Api.Try := OpensB.via _ (fun ⟨y0, y1⟩ => ⟨⟨y0, y1⟩, rfl⟩) (OpensB.struct Try.underlying212 (by kernel_rfl) (OpensBAt.cons 0 1 Try.opensB3 (OpensBAt.last 1 Try.opensB3) rfl) rfl)
theorem Try.opensB205 : OpensB Try.prog 205 (List Api.Try) := OpensB.slice Try.underlying205 (by kernel_rfl) (by decide) Try.opensB212
theorem Try.opensB207 : OpensB Try.prog 207 Api.Frame := OpensB.via _ (fun ⟨y0, y1, y2, y3, y4, y5, y6⟩ => ⟨⟨y0, y1, y2, y3, y4, y5, y6⟩, rfl⟩) (OpensB.struct Try.underlying207 (by kernel_rfl) (OpensBAt.cons 0 1 Try.opensB3 (OpensBAt.cons 1 2 Try.opensB3 (OpensBAt.cons 2 3 Try.opensB3 (OpensBAt.cons 3 4 Try.opensB3 (OpensBAt.cons 4 6 Try.opensB48 (OpensBAt.cons 6 7 Try.opensB34 (OpensBAt.last 7 Try.opensB205) rfl) rfl) rfl) rfl) rfl) rfl) rfl)
theorem Try.opensB128 : OpensB Try.prog 128 (List Api.Frame) := OpensB.slice Try.underlying128 (by kernel_rfl) (by decide) Try.opensB207
theorem Try.opensB130 : OpensB Try.prog 130 Api.Cell := OpensB.via _ (fun ⟨y0, y1, y2, y3⟩ => ⟨⟨y0, y1, y2, y3⟩, rfl⟩) (OpensB.struct Try.underlying130 (by kernel_rfl) (OpensBAt.cons 0 1 Try.opensB3 (OpensBAt.cons 1 2 Try.opensB3 (OpensBAt.cons 2 3 Try.opensB34 (OpensBAt.last 3 Try.opensB128) rfl) rfl) rfl) rfl)
theorem Try.opensB29 : OpensB Try.prog 29 (List Api.Cell) := OpensB.slice Try.underlying29 (by kernel_rfl) (by decide) Try.opensB130
theorem Try.opensB134 : OpensB Try.prog 134 Api.Shape := OpensB.via _ (fun ⟨y0, y1⟩ => ⟨⟨y0, y1⟩, rfl⟩) (OpensB.struct Try.underlying134 (by kernel_rfl) (OpensBAt.cons 0 1 Try.opensB3 (OpensBAt.last 1 Try.opensB3) rfl) rfl)
theorem Try.opensB30 : OpensB Try.prog 30 (List Api.Shape) := OpensB.slice Try.underlying30 (by kernel_rfl) (by decide) Try.opensB134
theorem Try.opensB31 : OpensB Try.prog 31 (List ByteArray) := OpensB.slice Try.underlying31 (by kernel_rfl) (by decide) Try.opensB9
theorem Try.opensB141 : OpensB Try.prog 141 Api.Thread := OpensB.via _ (fun ⟨y0, y1, y2, y3⟩ => ⟨⟨y0, y1, y2, y3⟩, rfl⟩) (OpensB.struct Try.underlying141 (by kernel_rfl) (OpensBAt.cons 0 1 Try.opensB128 (OpensBAt.cons 1 2 Try.opensB3 (OpensBAt.cons 2 3 Try.opensB3 (OpensBAt.last 3 Try.opensB48) rfl) rfl) rfl) rfl)
theorem Try.opensB32 : OpensB Try.prog 32 (List Api.Thread) := OpensB.slice Try.underlying32 (by kernel_rfl) (by decide) Try.opensB141
theorem Try.opensB145 : OpensB Try.prog 145 Api.End := OpensB.via _ (fun ⟨y0, y1⟩ => ⟨⟨y0, y1⟩, rfl⟩) (OpensB.struct Try.underlying145 (by kernel_rfl) (OpensBAt.cons 0 1 Try.opensB3 (OpensBAt.last 1 Try.opensB48) rfl) rfl)
theorem Try.opensB33 : OpensB Try.prog 33 (List Api.End) := OpensB.slice Try.underlying33 (by kernel_rfl) (by decide) Try.opensB145
theorem Try.opensB36 : OpensB Try.prog 36 Api.State := OpensB.via _ (fun ⟨y0, y1, y2, y3, y4, y5, y6, y7⟩ => ⟨⟨y0, y1, y2, y3, y4, y5, y6, y7⟩, rfl⟩) (OpensB.struct Try.underlying36 (by kernel_rfl) (OpensBAt.cons 0 1 Try.opensB29 (OpensBAt.cons 1 2 Try.opensB30 (OpensBAt.cons 2 3 Try.opensB31 (OpensBAt.cons 3 4 Try.opensB32 (OpensBAt.cons 4 5 Try.opensB33 (OpensBAt.cons 5 6 Try.opensB34 (OpensBAt.cons 6 7 Try.opensB3 (OpensBAt.last 7 Try.opensB3) rfl) rfl) rfl) rfl) rfl) rfl) rfl) rfl)
theorem Try.opensB50 : OpensB Try.prog 50 Api.Event := OpensB.via _ (fun ⟨y0, y1, y2, y3, y4, y5, y6, y7, y8, y9⟩ => ⟨⟨y0, y1, y2, y3, y4, y5, y6, y7, y8, y9⟩, rfl⟩) (OpensB.struct Try.underlying50 (by kernel_rfl) (OpensBAt.cons 0 1 Try.opensB3 (OpensBAt.cons 1 2 Try.opensB3 (OpensBAt.cons 2 3 Try.opensB3 (OpensBAt.cons 3 4 Try.opensB3 (OpensBAt.cons 4 5 Try.opensB3 (OpensBAt.cons 5 6 Try.opensB3 (OpensBAt.cons 6 7 Try.opensB3 (OpensBAt.cons 7 8 Try.opensB3 (OpensBAt.cons 8 10 Try.opensB48 (OpensBAt.last 10 Try.opensB48) rfl) rfl) rfl) rfl) rfl) rfl) rfl) rfl) rfl) rfl)
theorem Try.opensB39 : OpensB Try.prog 39 (List Api.Event) := OpensB.slice Try.underlying39 (by kernel_rfl) (by decide) Try.opensB50
theorem Try.opensB43 : OpensB Try.prog 43 (List (List Int)) := OpensB.slice Try.underlying43 (by kernel_rfl) (by decide) Try.opensB22
theorem Try.opensB53 : OpensB Try.prog 53 (List UInt8) := OpensB.slice Try.underlying53 (by kernel_rfl) (by decide) Try.opensB5
theorem Try.opensB68 : OpensB Try.prog 68 Api.DMark := OpensB.via _ (fun ⟨y0, y1, y2⟩ => ⟨⟨y0, y1, y2⟩, rfl⟩) (OpensB.struct Try.underlying68 (by kernel_rfl) (OpensBAt.cons 0 1 Try.opensB3 (OpensBAt.cons 1 2 Try.opensB3 (OpensBAt.last 2 Try.opensB3) rfl) rfl) rfl)
theorem Try.opensB60 : OpensB Try.prog 60 (List Api.DMark) := OpensB.slice Try.underlying60 (by kernel_rfl) (by decide) Try.opensB68
theorem Try.opensB161 : OpensB Try.prog 161 Api.TIns := OpensB.via _ (fun ⟨y0, y1, y2, y3, y4, y5, y6⟩ => ⟨⟨y0, y1, y2, y3, y4, y5, y6⟩, rfl⟩) (OpensB.struct Try.underlying161 (by kernel_rfl) (OpensBAt.cons 0 1 Try.opensB3 (OpensBAt.cons 1 2 Try.opensB3 (OpensBAt.cons 2 3 Try.opensB3 (OpensBAt.cons 3 4 Try.opensB3 (OpensBAt.cons 4 5 Try.opensB3 (OpensBAt.cons 5 6 Try.opensB3 (OpensBAt.last 6 Try.opensB48) rfl) rfl) rfl) rfl) rfl) rfl) rfl)
theorem Try.opensB71 : OpensB Try.prog 71 (List Api.TIns) := OpensB.slice Try.underlying71 (by kernel_rfl) (by decide) Try.opensB161
theorem Try.opensB261 : OpensB Try.prog 261 Api.TSet := OpensB.via _ (fun ⟨y0, y1⟩ => ⟨⟨y0, y1⟩, rfl⟩) (OpensB.struct Try.underlying261 (by kernel_rfl) (OpensBAt.cons 0 1 Try.opensB3 (OpensBAt.last 1 Try.opensB3) rfl) rfl)
theorem Try.opensB73 : OpensB Try.prog 73 (List Api.TSet) := OpensB.slice Try.underlying73 (by kernel_rfl) (by decide) Try.opensB261
theorem Try.opensB263 : OpensB Try.prog 263 Api.TMake := OpensB.via _ (fun ⟨y0, y1, y2, y3⟩ => ⟨⟨y0, y1, y2, y3⟩, rfl⟩) (OpensB.struct Try.underlying263 (by kernel_rfl) (OpensBAt.cons 0 1 Try.opensB3 (OpensBAt.cons 1 2 Try.opensB3 (OpensBAt.cons 2 3 Try.opensB3 (OpensBAt.last 3 Try.opensB22) rfl) rfl) rfl) rfl)
theorem Try.opensB74 : OpensB Try.prog 74 (List Api.TMake) := OpensB.slice Try.underlying74 (by kernel_rfl) (by decide) Try.opensB263
theorem Try.opensB76 : OpensB Try.prog 76 Api.TExit := OpensB.via _ (fun ⟨y0, y1, y2, y3⟩ => ⟨⟨y0, y1, y2, y3⟩, rfl⟩) (OpensB.struct Try.underlying76 (by kernel_rfl) (OpensBAt.cons 0 1 Try.opensB3 (OpensBAt.cons 1 2 Try.opensB3 (OpensBAt.cons 2 3 Try.opensB73 (OpensBAt.last 3 Try.opensB74) rfl) rfl) rfl) rfl)
theorem Try.opensB72 : OpensB Try.prog 72 (List Api.TExit) := OpensB.slice Try.underlying72 (by kernel_rfl) (by decide) Try.opensB76
theorem Try.opensB78 : OpensB Try.prog 78 Api.TTrace := OpensB.via _ (fun ⟨y0, y1, y2, y3, y4, y5, y6⟩ => ⟨⟨y0, y1, y2, y3, y4, y5, y6⟩, rfl⟩) (OpensB.struct Try.underlying78 (by kernel_rfl) (OpensBAt.cons 0 1 Try.opensB3 (OpensBAt.cons 1 2 Try.opensB3 (OpensBAt.cons 2 3 Try.opensB3 (OpensBAt.cons 3 4 Try.opensB71 (OpensBAt.cons 4 5 Try.opensB72 (OpensBAt.cons 5 9 Try.opensB76 (OpensBAt.last 9 Try.opensB76) rfl) rfl) rfl) rfl) rfl) rfl) rfl)
theorem Try.opensB166 : OpensB Try.prog 166 Api.DWait := OpensB.via _ (fun ⟨y0, y1, y2⟩ => ⟨⟨y0, y1, y2⟩, rfl⟩) (OpensB.struct Try.underlying166 (by kernel_rfl) (OpensBAt.cons 0 1 Try.opensB3 (OpensBAt.cons 1 2 Try.opensB3 (OpensBAt.last 2 Try.opensB3) rfl) rfl) rfl)
theorem Try.opensB81 : OpensB Try.prog 81 (List Api.DWait) := OpensB.slice Try.underlying81 (by kernel_rfl) (by decide) Try.opensB166
theorem Try.opensB169 : OpensB Try.prog 169 Api.DPair := OpensB.via _ (fun ⟨y0, y1⟩ => ⟨⟨y0, y1⟩, rfl⟩) (OpensB.struct Try.underlying169 (by kernel_rfl) (OpensBAt.cons 0 1 Try.opensB3 (OpensBAt.last 1 Try.opensB3) rfl) rfl)
theorem Try.opensB82 : OpensB Try.prog 82 (List Api.DPair) := OpensB.slice Try.underlying82 (by kernel_rfl) (by decide) Try.opensB169
theorem Try.opensB176 : OpensB Try.prog 176 Api.DDep := OpensB.via _ (fun y => ⟨⟨y⟩, rfl⟩) (OpensB.struct Try.underlying176 (by kernel_rfl) (OpensBAt.last 0 Try.opensB22) rfl)
theorem Try.opensB91 : OpensB Try.prog 91 (List Api.DDep) := OpensB.slice Try.underlying91 (by kernel_rfl) (by decide) Try.opensB176
theorem Try.opensB112 : OpensB Try.prog 112 Api.DLet := OpensB.via _ (fun ⟨y0, y1, y2, y3⟩ => ⟨⟨y0, y1, y2, y3⟩, rfl⟩) (OpensB.struct Try.underlying112 (by kernel_rfl) (OpensBAt.cons 0 1 Try.opensB3 (OpensBAt.cons 1 2 Try.opensB3 (OpensBAt.cons 2 3 Try.opensB3 (OpensBAt.last 3 Try.opensB3) rfl) rfl) rfl) rfl)
theorem Try.opensB104 : OpensB Try.prog 104 (List Api.DLet) := OpensB.slice Try.underlying104 (by kernel_rfl) (by decide) Try.opensB112
theorem Try.opensB119 : OpensB Try.prog 119 Api.DRun := OpensB.via _ (fun ⟨y0, y1⟩ => ⟨⟨y0, y1⟩, rfl⟩) (OpensB.struct Try.underlying119 (by kernel_rfl) (OpensBAt.cons 0 1 Try.opensB3 (OpensBAt.last 1 Try.opensB3) rfl) rfl)
theorem Try.opensB114 : OpensB Try.prog 114 (List Api.DRun) := OpensB.slice Try.underlying114 (by kernel_rfl) (by decide) Try.opensB119
theorem Try.opensB173 : OpensB Try.prog 173 (List Bool) := OpensB.slice Try.underlying173 (by kernel_rfl) (by decide) Try.opensB4
theorem Try.opensB223 : OpensB Try.prog 223 (List (List Bool)) := OpensB.slice Try.underlying223 (by kernel_rfl) (by decide) Try.opensB173
theorem Try.opensB252 : OpensB Try.prog 252 UInt8 := OpensB.byte Try.underlying252 (by kernel_rfl)
theorem Try.opensB253 : OpensB Try.prog 253 UInt8 := OpensB.byte Try.underlying253 (by kernel_rfl)
end Go.Proofs.Ytimlhjjdaggiiaa
