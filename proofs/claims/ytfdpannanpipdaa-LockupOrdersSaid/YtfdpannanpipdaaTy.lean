/- MADE BY PROGRAM (gents.py): the types of package api that this seat knows: structures, how they lie in cells, and that what reads as data of the type is one. -/
import Derived.Test.YtfdpannanpipdaaLib
import Derived.Test.YtfdpannanpipdaaChecked
set_option linter.unusedVariables false
set_option linter.unusedSimpArgs false
namespace Go.Bk
open Go.RowKit

structure Api.Val where
  Kind : Int
  N : Int
  deriving Inhabited, DecidableEq
instance : Rep Api.Val := Rep.via (β := Int × Int) fun x => (x.Kind, x.N)
theorem api_Val_sz : Rep.sz Api.Val = 2 := rfl
theorem api_Val_cells_eq {S : Nat → Prop} {w : World} {cs : List Value} {x : Api.Val} (h : Rep.cells S w cs x) : cs = [.int .i64 x.Kind, .int .i64 x.N] ∧ I64 x.Kind ∧ I64 x.N := by
  obtain ⟨_, _, ⟨rfl, h0⟩, ⟨rfl, h1⟩, rfl⟩ := h
  exact ⟨rfl, h0, h1⟩
theorem api_Val_cells_mk {S : Nat → Prop} {w : World} {x : Api.Val} (h0 : I64 x.Kind) (h1 : I64 x.N) : Rep.cells S w [.int .i64 x.Kind, .int .i64 x.N] x := by
  exact ⟨_, _, ⟨rfl, h0⟩, ⟨rfl, h1⟩, rfl⟩
theorem api_Val_elem {S : Nat → Prop} {w : World} {a : Option Addr} {xs : List Api.Val} (h : Arr S w a xs) {k : Nat} {x : Api.Val} (hk : xs[k]? = some x) :
    ∃ (b off : Nat), a = some ⟨b, off, none⟩ ∧ S b ∧ w.cell? ⟨b, off + k * 2, none⟩ = some (.int .i64 x.Kind) ∧ w.cell? ⟨b, off + k * 2 + 1, none⟩ = some (.int .i64 x.N) ∧ I64 x.Kind ∧ I64 x.N := by
  obtain ⟨b, off, cs, ha, hb, hc, hj⟩ := h.at hk
  obtain ⟨rfl, g0, g1⟩ := api_Val_cells_eq hc
  exact ⟨b, off, ha, hb, by have := hj 0 (by show 0 < 2; omega); simpa [api_Val_sz] using this, by have := hj 1 (by show 1 < 2; omega); simpa [api_Val_sz] using this, g0, g1⟩

structure Api.Event where
  Kind : Int
  Step : Int
  Thread : Int
  Fn : Int
  At : Int
  Line : Int
  A : Int
  B : Int
  Val : Api.Val
  Old : Api.Val
  deriving Inhabited, DecidableEq
instance : Rep Api.Event := Rep.via (β := Int × Int × Int × Int × Int × Int × Int × Int × Api.Val × Api.Val) fun x => (x.Kind, x.Step, x.Thread, x.Fn, x.At, x.Line, x.A, x.B, x.Val, x.Old)
theorem api_Event_sz : Rep.sz Api.Event = 12 := rfl
theorem api_Event_cells_eq {S : Nat → Prop} {w : World} {cs : List Value} {x : Api.Event} (h : Rep.cells S w cs x) : cs = [.int .i64 x.Kind, .int .i64 x.Step, .int .i64 x.Thread, .int .i64 x.Fn, .int .i64 x.At, .int .i64 x.Line, .int .i64 x.A, .int .i64 x.B, .int .i64 x.Val.Kind, .int .i64 x.Val.N, .int .i64 x.Old.Kind, .int .i64 x.Old.N] ∧ I64 x.Kind ∧ I64 x.Step ∧ I64 x.Thread ∧ I64 x.Fn ∧ I64 x.At ∧ I64 x.Line ∧ I64 x.A ∧ I64 x.B ∧ I64 x.Val.Kind ∧ I64 x.Val.N ∧ I64 x.Old.Kind ∧ I64 x.Old.N := by
  obtain ⟨_, _, ⟨rfl, h0⟩, ⟨_, _, ⟨rfl, h1⟩, ⟨_, _, ⟨rfl, h2⟩, ⟨_, _, ⟨rfl, h3⟩, ⟨_, _, ⟨rfl, h4⟩, ⟨_, _, ⟨rfl, h5⟩, ⟨_, _, ⟨rfl, h6⟩, ⟨_, _, ⟨rfl, h7⟩, ⟨_, _, ⟨_, _, ⟨rfl, h8⟩, ⟨rfl, h9⟩, rfl⟩, ⟨_, _, ⟨rfl, h10⟩, ⟨rfl, h11⟩, rfl⟩, rfl⟩, rfl⟩, rfl⟩, rfl⟩, rfl⟩, rfl⟩, rfl⟩, rfl⟩, rfl⟩ := h
  exact ⟨rfl, h0, h1, h2, h3, h4, h5, h6, h7, h8, h9, h10, h11⟩
theorem api_Event_cells_mk {S : Nat → Prop} {w : World} {x : Api.Event} (h0 : I64 x.Kind) (h1 : I64 x.Step) (h2 : I64 x.Thread) (h3 : I64 x.Fn) (h4 : I64 x.At) (h5 : I64 x.Line) (h6 : I64 x.A) (h7 : I64 x.B) (h8 : I64 x.Val.Kind) (h9 : I64 x.Val.N) (h10 : I64 x.Old.Kind) (h11 : I64 x.Old.N) : Rep.cells S w [.int .i64 x.Kind, .int .i64 x.Step, .int .i64 x.Thread, .int .i64 x.Fn, .int .i64 x.At, .int .i64 x.Line, .int .i64 x.A, .int .i64 x.B, .int .i64 x.Val.Kind, .int .i64 x.Val.N, .int .i64 x.Old.Kind, .int .i64 x.Old.N] x := by
  exact ⟨_, _, ⟨rfl, h0⟩, ⟨_, _, ⟨rfl, h1⟩, ⟨_, _, ⟨rfl, h2⟩, ⟨_, _, ⟨rfl, h3⟩, ⟨_, _, ⟨rfl, h4⟩, ⟨_, _, ⟨rfl, h5⟩, ⟨_, _, ⟨rfl, h6⟩, ⟨_, _, ⟨rfl, h7⟩, ⟨_, _, ⟨_, _, ⟨rfl, h8⟩, ⟨rfl, h9⟩, rfl⟩, ⟨_, _, ⟨rfl, h10⟩, ⟨rfl, h11⟩, rfl⟩, rfl⟩, rfl⟩, rfl⟩, rfl⟩, rfl⟩, rfl⟩, rfl⟩, rfl⟩, rfl⟩
theorem api_Event_elem {S : Nat → Prop} {w : World} {a : Option Addr} {xs : List Api.Event} (h : Arr S w a xs) {k : Nat} {x : Api.Event} (hk : xs[k]? = some x) :
    ∃ (b off : Nat), a = some ⟨b, off, none⟩ ∧ S b ∧ w.cell? ⟨b, off + k * 12, none⟩ = some (.int .i64 x.Kind) ∧ w.cell? ⟨b, off + k * 12 + 1, none⟩ = some (.int .i64 x.Step) ∧ w.cell? ⟨b, off + k * 12 + 2, none⟩ = some (.int .i64 x.Thread) ∧ w.cell? ⟨b, off + k * 12 + 3, none⟩ = some (.int .i64 x.Fn) ∧ w.cell? ⟨b, off + k * 12 + 4, none⟩ = some (.int .i64 x.At) ∧ w.cell? ⟨b, off + k * 12 + 5, none⟩ = some (.int .i64 x.Line) ∧ w.cell? ⟨b, off + k * 12 + 6, none⟩ = some (.int .i64 x.A) ∧ w.cell? ⟨b, off + k * 12 + 7, none⟩ = some (.int .i64 x.B) ∧ w.cell? ⟨b, off + k * 12 + 8, none⟩ = some (.int .i64 x.Val.Kind) ∧ w.cell? ⟨b, off + k * 12 + 9, none⟩ = some (.int .i64 x.Val.N) ∧ w.cell? ⟨b, off + k * 12 + 10, none⟩ = some (.int .i64 x.Old.Kind) ∧ w.cell? ⟨b, off + k * 12 + 11, none⟩ = some (.int .i64 x.Old.N) ∧ I64 x.Kind ∧ I64 x.Step ∧ I64 x.Thread ∧ I64 x.Fn ∧ I64 x.At ∧ I64 x.Line ∧ I64 x.A ∧ I64 x.B ∧ I64 x.Val.Kind ∧ I64 x.Val.N ∧ I64 x.Old.Kind ∧ I64 x.Old.N := by
  obtain ⟨b, off, cs, ha, hb, hc, hj⟩ := h.at hk
  obtain ⟨rfl, g0, g1, g2, g3, g4, g5, g6, g7, g8, g9, g10, g11⟩ := api_Event_cells_eq hc
  exact ⟨b, off, ha, hb, by have := hj 0 (by show 0 < 12; omega); simpa [api_Event_sz] using this, by have := hj 1 (by show 1 < 12; omega); simpa [api_Event_sz] using this, by have := hj 2 (by show 2 < 12; omega); simpa [api_Event_sz] using this, by have := hj 3 (by show 3 < 12; omega); simpa [api_Event_sz] using this, by have := hj 4 (by show 4 < 12; omega); simpa [api_Event_sz] using this, by have := hj 5 (by show 5 < 12; omega); simpa [api_Event_sz] using this, by have := hj 6 (by show 6 < 12; omega); simpa [api_Event_sz] using this, by have := hj 7 (by show 7 < 12; omega); simpa [api_Event_sz] using this, by have := hj 8 (by show 8 < 12; omega); simpa [api_Event_sz] using this, by have := hj 9 (by show 9 < 12; omega); simpa [api_Event_sz] using this, by have := hj 10 (by show 10 < 12; omega); simpa [api_Event_sz] using this, by have := hj 11 (by show 11 < 12; omega); simpa [api_Event_sz] using this, g0, g1, g2, g3, g4, g5, g6, g7, g8, g9, g10, g11⟩

structure Api.DDep where
  Uses : (List Int)
  deriving Inhabited, DecidableEq
instance : Rep Api.DDep := Rep.via (β := (List Int)) fun x => x.Uses
theorem api_DDep_sz : Rep.sz Api.DDep = 1 := rfl
theorem api_DDep_cells_eq {S : Nat → Prop} {w : World} {cs : List Value} {x : Api.DDep} (h : Rep.cells S w cs x) : ∃ (a0 : Option Addr) (c0 : Nat), cs = [.slice a0 x.Uses.length c0] ∧ (x.Uses.length ≤ c0 ∧ (a0 = none → c0 = 0) ∧ Arr S w a0 x.Uses) := by
  obtain ⟨b0, d0, rfl, h0⟩ := h
  exact ⟨b0, d0, rfl, h0⟩
theorem api_DDep_elem {S : Nat → Prop} {w : World} {a : Option Addr} {xs : List Api.DDep} (h : Arr S w a xs) {k : Nat} {x : Api.DDep} (hk : xs[k]? = some x) :
    ∃ (b off : Nat) (a0 : Option Addr) (c0 : Nat), a = some ⟨b, off, none⟩ ∧ S b ∧ w.cell? ⟨b, off + k, none⟩ = some (.slice a0 x.Uses.length c0) ∧ (x.Uses.length ≤ c0 ∧ (a0 = none → c0 = 0) ∧ Arr S w a0 x.Uses) := by
  obtain ⟨b, off, cs, ha, hb, hc, hj⟩ := h.at hk
  obtain ⟨a0, c0, rfl, g0⟩ := api_DDep_cells_eq hc
  exact ⟨b, off, a0, c0, ha, hb, by have := hj 0 (by show 0 < 1; omega); simpa [api_DDep_sz] using this, g0⟩

structure Api.DPair where
  I : Int
  J : Int
  deriving Inhabited, DecidableEq
instance : Rep Api.DPair := Rep.via (β := Int × Int) fun x => (x.I, x.J)
theorem api_DPair_sz : Rep.sz Api.DPair = 2 := rfl
theorem api_DPair_cells_eq {S : Nat → Prop} {w : World} {cs : List Value} {x : Api.DPair} (h : Rep.cells S w cs x) : cs = [.int .i64 x.I, .int .i64 x.J] ∧ I64 x.I ∧ I64 x.J := by
  obtain ⟨_, _, ⟨rfl, h0⟩, ⟨rfl, h1⟩, rfl⟩ := h
  exact ⟨rfl, h0, h1⟩
theorem api_DPair_cells_mk {S : Nat → Prop} {w : World} {x : Api.DPair} (h0 : I64 x.I) (h1 : I64 x.J) : Rep.cells S w [.int .i64 x.I, .int .i64 x.J] x := by
  exact ⟨_, _, ⟨rfl, h0⟩, ⟨rfl, h1⟩, rfl⟩
theorem api_DPair_elem {S : Nat → Prop} {w : World} {a : Option Addr} {xs : List Api.DPair} (h : Arr S w a xs) {k : Nat} {x : Api.DPair} (hk : xs[k]? = some x) :
    ∃ (b off : Nat), a = some ⟨b, off, none⟩ ∧ S b ∧ w.cell? ⟨b, off + k * 2, none⟩ = some (.int .i64 x.I) ∧ w.cell? ⟨b, off + k * 2 + 1, none⟩ = some (.int .i64 x.J) ∧ I64 x.I ∧ I64 x.J := by
  obtain ⟨b, off, cs, ha, hb, hc, hj⟩ := h.at hk
  obtain ⟨rfl, g0, g1⟩ := api_DPair_cells_eq hc
  exact ⟨b, off, ha, hb, by have := hj 0 (by show 0 < 2; omega); simpa [api_DPair_sz] using this, by have := hj 1 (by show 1 < 2; omega); simpa [api_DPair_sz] using this, g0, g1⟩

end Go.Bk
namespace Go.Proofs.Ytfdpannanpipdaa
open Go.Bk
theorem Try.opens2 : Opens Try.prog 2 Int := Opens.int Try.underlying2 (by kernel_rfl)
theorem Try.opens3 : Opens Try.prog 3 Int := Opens.int Try.underlying3 (by kernel_rfl)
theorem Try.opens4 : Opens Try.prog 4 Bool := Opens.bool Try.underlying4 (by kernel_rfl)
theorem Try.opens5 : Opens Try.prog 5 UInt8 := Opens.byte Try.underlying5 (by kernel_rfl)
theorem Try.opens6 : Opens Try.prog 6 UInt8 := Opens.byte Try.underlying6 (by kernel_rfl)
theorem Try.opens9 : Opens Try.prog 9 ByteArray := Opens.string Try.underlying9 (by kernel_rfl)
theorem Try.opens10 : Opens Try.prog 10 ByteArray := Opens.string Try.underlying10 (by kernel_rfl)
theorem Try.opens11 : Opens Try.prog 11 ByteArray := Opens.string Try.underlying11 (by kernel_rfl)
theorem Try.opens24 : Opens Try.prog 24 Api.Val := Opens.via _ (fun ⟨y0, y1⟩ => ⟨⟨y0, y1⟩, rfl⟩) (Opens.struct Try.underlying24 (by kernel_rfl) (OpensAt.cons 0 1 Try.opens3 (OpensAt.last 1 Try.opens3) rfl) rfl)
theorem Try.opens41 : Opens Try.prog 41 Api.Event := Opens.via _ (fun ⟨y0, y1, y2, y3, y4, y5, y6, y7, y8, y9⟩ => ⟨⟨y0, y1, y2, y3, y4, y5, y6, y7, y8, y9⟩, rfl⟩) (Opens.struct Try.underlying41 (by kernel_rfl) (OpensAt.cons 0 1 Try.opens3 (OpensAt.cons 1 2 Try.opens3 (OpensAt.cons 2 3 Try.opens3 (OpensAt.cons 3 4 Try.opens3 (OpensAt.cons 4 5 Try.opens3 (OpensAt.cons 5 6 Try.opens3 (OpensAt.cons 6 7 Try.opens3 (OpensAt.cons 7 8 Try.opens3 (OpensAt.cons 8 10 Try.opens24 (OpensAt.last 10 Try.opens24) rfl) rfl) rfl) rfl) rfl) rfl) rfl) rfl) rfl) rfl)
theorem Try.opens22 : Opens Try.prog 22 (List Api.Event) := Opens.slice Try.underlying22 (by kernel_rfl) (by decide) Try.opens41
theorem Try.opens25 : Opens Try.prog 25 Int := Opens.int Try.underlying25 (by kernel_rfl)
theorem Try.opens30 : Opens Try.prog 30 (List Int) := Opens.slice Try.underlying30 (by kernel_rfl) (by decide) Try.opens3
theorem Try.opens44 : Opens Try.prog 44 (List UInt8) := Opens.slice Try.underlying44 (by kernel_rfl) (by decide) Try.opens5
theorem Try.opens45 : Opens Try.prog 45 (List Api.Val) := Opens.slice Try.underlying45 (by kernel_rfl) (by decide) Try.opens24
theorem Try.opens172 : Opens Try.prog 172 Api.DDep := Opens.via _ (fun y => ⟨⟨y⟩, rfl⟩) (Opens.struct Try.underlying172 (by kernel_rfl) (OpensAt.last 0 Try.opens30) rfl)
theorem Try.opens60 : Opens Try.prog 60 (List Api.DDep) := Opens.slice Try.underlying60 (by kernel_rfl) (by decide) Try.opens172
theorem Try.opens61 : Opens Try.prog 61 (List Bool) := Opens.slice Try.underlying61 (by kernel_rfl) (by decide) Try.opens4
theorem Try.opens72 : Opens Try.prog 72 (List (List Int)) := Opens.slice Try.underlying72 (by kernel_rfl) (by decide) Try.opens30
theorem Try.opens91 : Opens Try.prog 91 (List (List Bool)) := Opens.slice Try.underlying91 (by kernel_rfl) (by decide) Try.opens61
theorem Try.opens105 : Opens Try.prog 105 Api.DPair := Opens.via _ (fun ⟨y0, y1⟩ => ⟨⟨y0, y1⟩, rfl⟩) (Opens.struct Try.underlying105 (by kernel_rfl) (OpensAt.cons 0 1 Try.opens3 (OpensAt.last 1 Try.opens3) rfl) rfl)
theorem Try.opens101 : Opens Try.prog 101 (List Api.DPair) := Opens.slice Try.underlying101 (by kernel_rfl) (by decide) Try.opens105
theorem Try.opens161 : Opens Try.prog 161 (List (List UInt8)) := Opens.slice Try.underlying161 (by kernel_rfl) (by decide) Try.opens44
theorem Try.opens177 : Opens Try.prog 177 (List (List Api.Event)) := Opens.slice Try.underlying177 (by kernel_rfl) (by decide) Try.opens22
theorem Try.opens191 : Opens Try.prog 191 Int := Opens.int Try.underlying191 (by kernel_rfl)
theorem Try.opens222 : Opens Try.prog 222 UInt8 := Opens.byte Try.underlying222 (by kernel_rfl)
theorem Try.opens223 : Opens Try.prog 223 UInt8 := Opens.byte Try.underlying223 (by kernel_rfl)
theorem Try.info3 : (Try.prog.info? 3).map (fun i => (i.zero, i.size, i.bytes)) = some (some (.int .i64 0), 1, 8) := by kernel_rfl
theorem Try.info4 : (Try.prog.info? 4).map (fun i => (i.zero, i.size, i.bytes)) = some (some (.bool false), 1, 1) := by kernel_rfl
theorem Try.info5 : (Try.prog.info? 5).map (fun i => (i.zero, i.size, i.bytes)) = some (some (.int .u8 0), 1, 1) := by kernel_rfl
theorem Try.info22 : (Try.prog.info? 22).map (fun i => (i.zero, i.size, i.bytes)) = some (some (.slice none 0 0), 1, 24) := by kernel_rfl
theorem Try.info24 : (Try.prog.info? 24).map (fun i => (i.zero, i.size, i.bytes)) = some (some (.agg #[.int .i64 0, .int .i64 0]), 2, 16) := by kernel_rfl
theorem Try.info30 : (Try.prog.info? 30).map (fun i => (i.zero, i.size, i.bytes)) = some (some (.slice none 0 0), 1, 24) := by kernel_rfl
theorem Try.info41 : (Try.prog.info? 41).map (fun i => (i.zero, i.size, i.bytes)) = some (some (.agg #[.int .i64 0, .int .i64 0, .int .i64 0, .int .i64 0, .int .i64 0, .int .i64 0, .int .i64 0, .int .i64 0, .int .i64 0, .int .i64 0, .int .i64 0, .int .i64 0]), 12, 96) := by kernel_rfl
theorem Try.info44 : (Try.prog.info? 44).map (fun i => (i.zero, i.size, i.bytes)) = some (some (.slice none 0 0), 1, 24) := by kernel_rfl
theorem Try.info61 : (Try.prog.info? 61).map (fun i => (i.zero, i.size, i.bytes)) = some (some (.slice none 0 0), 1, 24) := by kernel_rfl
theorem Try.info105 : (Try.prog.info? 105).map (fun i => (i.zero, i.size, i.bytes)) = some (some (.agg #[.int .i64 0, .int .i64 0]), 2, 16) := by kernel_rfl
theorem Try.info172 : (Try.prog.info? 172).map (fun i => (i.zero, i.size, i.bytes)) = some (some (.agg #[.slice none 0 0]), 1, 24) := by kernel_rfl
end Go.Proofs.Ytfdpannanpipdaa
