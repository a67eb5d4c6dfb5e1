/- MADE BY PROGRAM (gents.py): the types of package api that this seat knows: structures, how they lie in cells, and that what reads as data of the type is one. -/
import Derived.Test.YtimlhjjdaggiiaaLib
import Derived.Test.YtimlhjjdaggiiaaChecked
set_option linter.unusedVariables false
set_option linter.unusedSimpArgs false
namespace Go.Bk
open Go.RowKit

structure Api.DPatch where
  At : Int
  Value : Int
  deriving Inhabited, DecidableEq
instance : Rep Api.DPatch := Rep.via (β := Int × Int) fun x => (x.At, x.Value)
theorem api_DPatch_sz : Rep.sz Api.DPatch = 2 := rfl
theorem api_DPatch_cells_eq {S : Nat → Prop} {w : World} {cs : List Value} {x : Api.DPatch} (h : Rep.cells S w cs x) : cs = [.int .i64 x.At, .int .i64 x.Value] ∧ I64 x.At ∧ I64 x.Value := by
  obtain ⟨_, _, ⟨rfl, h0⟩, ⟨rfl, h1⟩, rfl⟩ := h
  exact ⟨rfl, h0, h1⟩
theorem api_DPatch_cells_mk {S : Nat → Prop} {w : World} {x : Api.DPatch} (h0 : I64 x.At) (h1 : I64 x.Value) : Rep.cells S w [.int .i64 x.At, .int .i64 x.Value] x := by
  exact ⟨_, _, ⟨rfl, h0⟩, ⟨rfl, h1⟩, rfl⟩
theorem api_DPatch_elem {S : Nat → Prop} {w : World} {a : Option Addr} {xs : List Api.DPatch} (h : Arr S w a xs) {k : Nat} {x : Api.DPatch} (hk : xs[k]? = some x) :
    ∃ (b off : Nat), a = some ⟨b, off, none⟩ ∧ S b ∧ w.cell? ⟨b, off + k * 2, none⟩ = some (.int .i64 x.At) ∧ w.cell? ⟨b, off + k * 2 + 1, none⟩ = some (.int .i64 x.Value) ∧ I64 x.At ∧ I64 x.Value := by
  obtain ⟨b, off, cs, ha, hb, hc, hj⟩ := h.at hk
  obtain ⟨rfl, g0, g1⟩ := api_DPatch_cells_eq hc
  exact ⟨b, off, ha, hb, by have := hj 0 (by show 0 < 2; omega); simpa [api_DPatch_sz] using this, by have := hj 1 (by show 1 < 2; omega); simpa [api_DPatch_sz] using this, g0, g1⟩

structure Api.Val where
  Kind : Int
  N : Int
  deriving Inhabited, DecidableEq
instance : Rep Api.Val := Rep.via (β := Int × Int) fun x => (x.Kind, x.N)
theorem api_Val_sz : Rep.sz Api.Val = 2 := rfl
theorem api_Val_cells_eq {S : Nat → Prop} {w : World} {cs : List Value} {x : Api.Val} (h : Rep.cells S w cs x) : cs = [.int .i64 x.Kind, .int .i64 x.N] ∧ I64 x.Kind ∧ I64 x.N := by
  obtain ⟨_, _, ⟨rfl, h0⟩, ⟨rfl, h1⟩, rfl⟩ := h
  exact ⟨rfl, h0, h1⟩
theorem api_Val_cells_mk {S : Nat → Prop} {w : World} {x : Api.Val} (h0 : I64 x.Kind) (h1 : I64 x.N) : Rep.cells S w [.int .i64 x.Kind, .int .i64 x.N] x := by
  exact ⟨_, _, ⟨rfl, h0⟩, ⟨rfl, h1⟩, rfl⟩
theorem api_Val_elem {S : Nat → Prop} {w : World} {a : Option Addr} {xs : List Api.Val} (h : Arr S w a xs) {k : Nat} {x : Api.Val} (hk : xs[k]? = some x) :
    ∃ (b off : Nat), a = some ⟨b, off, none⟩ ∧ S b ∧ w.cell? ⟨b, off + k * 2, none⟩ = some (.int .i64 x.Kind) ∧ w.cell? ⟨b, off + k * 2 + 1, none⟩ = some (.int .i64 x.N) ∧ I64 x.Kind ∧ I64 x.N := by
  obtain ⟨b, off, cs, ha, hb, hc, hj⟩ := h.at hk
  obtain ⟨rfl, g0, g1⟩ := api_Val_cells_eq hc
  exact ⟨b, off, ha, hb, by have := hj 0 (by show 0 < 2; omega); simpa [api_Val_sz] using this, by have := hj 1 (by show 1 < 2; omega); simpa [api_Val_sz] using this, g0, g1⟩

structure Api.Try where
  Reg : Int
  At : Int
  deriving Inhabited, DecidableEq
instance : Rep Api.Try := Rep.via (β := Int × Int) fun x => (x.Reg, x.At)
theorem api_Try_sz : Rep.sz Api.Try = 2 := rfl
theorem api_Try_cells_eq {S : Nat → Prop} {w : World} {cs : List Value} {x : Api.Try} (h : Rep.cells S w cs x) : cs = [.int .i64 x.Reg, .int .i64 x.At] ∧ I64 x.Reg ∧ I64 x.At := by
  obtain ⟨_, _, ⟨rfl, h0⟩, ⟨rfl, h1⟩, rfl⟩ := h
  exact ⟨rfl, h0, h1⟩
theorem api_Try_cells_mk {S : Nat → Prop} {w : World} {x : Api.Try} (h0 : I64 x.Reg) (h1 : I64 x.At) : Rep.cells S w [.int .i64 x.Reg, .int .i64 x.At] x := by
  exact ⟨_, _, ⟨rfl, h0⟩, ⟨rfl, h1⟩, rfl⟩
theorem api_Try_elem {S : Nat → Prop} {w : World} {a : Option Addr} {xs : List Api.Try} (h : Arr S w a xs) {k : Nat} {x : Api.Try} (hk : xs[k]? = some x) :
    ∃ (b off : Nat), a = some ⟨b, off, none⟩ ∧ S b ∧ w.cell? ⟨b, off + k * 2, none⟩ = some (.int .i64 x.Reg) ∧ w.cell? ⟨b, off + k * 2 + 1, none⟩ = some (.int .i64 x.At) ∧ I64 x.Reg ∧ I64 x.At := by
  obtain ⟨b, off, cs, ha, hb, hc, hj⟩ := h.at hk
  obtain ⟨rfl, g0, g1⟩ := api_Try_cells_eq hc
  exact ⟨b, off, ha, hb, by have := hj 0 (by show 0 < 2; omega); simpa [api_Try_sz] using this, by have := hj 1 (by show 1 < 2; omega); simpa [api_Try_sz] using this, g0, g1⟩

structure Api.Frame where
  Fn : Int
  At : Int
  To : Int
  Gen : Int
  Self : Api.Val
  Regs : (List Api.Val)
  Tries : (List Api.Try)
  deriving Inhabited, DecidableEq
instance : Rep Api.Frame := Rep.via (β := Int × Int × Int × Int × Api.Val × (List Api.Val) × (List Api.Try)) fun x => (x.Fn, x.At, x.To, x.Gen, x.Self, x.Regs, x.Tries)
theorem api_Frame_sz : Rep.sz Api.Frame = 8 := rfl
theorem api_Frame_cells_eq {S : Nat → Prop} {w : World} {cs : List Value} {x : Api.Frame} (h : Rep.cells S w cs x) : ∃ (a6 : Option Addr) (c6 : Nat) (a7 : Option Addr) (c7 : Nat), cs = [.int .i64 x.Fn, .int .i64 x.At, .int .i64 x.To, .int .i64 x.Gen, .int .i64 x.Self.Kind, .int .i64 x.Self.N, .slice a6 x.Regs.length c6, .slice a7 x.Tries.length c7] ∧ I64 x.Fn ∧ I64 x.At ∧ I64 x.To ∧ I64 x.Gen ∧ I64 x.Self.Kind ∧ I64 x.Self.N ∧ (x.Regs.length ≤ c6 ∧ (a6 = none → c6 = 0) ∧ Arr S w a6 x.Regs) ∧ (x.Tries.length ≤ c7 ∧ (a7 = none → c7 = 0) ∧ Arr S w a7 x.Tries) := by
  obtain ⟨_, _, ⟨rfl, h0⟩, ⟨_, _, ⟨rfl, h1⟩, ⟨_, _, ⟨rfl, h2⟩, ⟨_, _, ⟨rfl, h3⟩, ⟨_, _, ⟨_, _, ⟨rfl, h4⟩, ⟨rfl, h5⟩, rfl⟩, ⟨_, _, ⟨b6, d6, rfl, h6⟩, ⟨b7, d7, rfl, h7⟩, rfl⟩, rfl⟩, rfl⟩, rfl⟩, rfl⟩, rfl⟩ := h
  exact ⟨b6, d6, b7, d7, rfl, h0, h1, h2, h3, h4, h5, h6, h7⟩
theorem api_Frame_elem {S : Nat → Prop} {w : World} {a : Option Addr} {xs : List Api.Frame} (h : Arr S w a xs) {k : Nat} {x : Api.Frame} (hk : xs[k]? = some x) :
    ∃ (b off : Nat) (a6 : Option Addr) (c6 : Nat) (a7 : Option Addr) (c7 : Nat), a = some ⟨b, off, none⟩ ∧ S b ∧ w.cell? ⟨b, off + k * 8, none⟩ = some (.int .i64 x.Fn) ∧ w.cell? ⟨b, off + k * 8 + 1, none⟩ = some (.int .i64 x.At) ∧ w.cell? ⟨b, off + k * 8 + 2, none⟩ = some (.int .i64 x.To) ∧ w.cell? ⟨b, off + k * 8 + 3, none⟩ = some (.int .i64 x.Gen) ∧ w.cell? ⟨b, off + k * 8 + 4, none⟩ = some (.int .i64 x.Self.Kind) ∧ w.cell? ⟨b, off + k * 8 + 5, none⟩ = some (.int .i64 x.Self.N) ∧ w.cell? ⟨b, off + k * 8 + 6, none⟩ = some (.slice a6 x.Regs.length c6) ∧ w.cell? ⟨b, off + k * 8 + 7, none⟩ = some (.slice a7 x.Tries.length c7) ∧ I64 x.Fn ∧ I64 x.At ∧ I64 x.To ∧ I64 x.Gen ∧ I64 x.Self.Kind ∧ I64 x.Self.N ∧ (x.Regs.length ≤ c6 ∧ (a6 = none → c6 = 0) ∧ Arr S w a6 x.Regs) ∧ (x.Tries.length ≤ c7 ∧ (a7 = none → c7 = 0) ∧ Arr S w a7 x.Tries) := by
  obtain ⟨b, off, cs, ha, hb, hc, hj⟩ := h.at hk
  obtain ⟨a6, c6, a7, c7, rfl, g0, g1, g2, g3, g4, g5, g6, g7⟩ := api_Frame_cells_eq hc
  exact ⟨b, off, a6, c6, a7, c7, ha, hb, by have := hj 0 (by show 0 < 8; omega); simpa [api_Frame_sz] using this, by have := hj 1 (by show 1 < 8; omega); simpa [api_Frame_sz] using this, by have := hj 2 (by show 2 < 8; omega); simpa [api_Frame_sz] using this, by have := hj 3 (by show 3 < 8; omega); simpa [api_Frame_sz] using this, by have := hj 4 (by show 4 < 8; omega); simpa [api_Frame_sz] using this, by have := hj 5 (by show 5 < 8; omega); simpa [api_Frame_sz] using this, by have := hj 6 (by show 6 < 8; omega); simpa [api_Frame_sz] using this, by have := hj 7 (by show 7 < 8; omega); simpa [api_Frame_sz] using this, g0, g1, g2, g3, g4, g5, g6, g7⟩

structure Api.Cell where
  Kind : Int
  Num : Int
  Vals : (List Api.Val)
  Frames : (List Api.Frame)
  deriving Inhabited, DecidableEq
instance : Rep Api.Cell := Rep.via (β := Int × Int × (List Api.Val) × (List Api.Frame)) fun x => (x.Kind, x.Num, x.Vals, x.Frames)
theorem api_Cell_sz : Rep.sz Api.Cell = 4 := rfl
theorem api_Cell_cells_eq {S : Nat → Prop} {w : World} {cs : List Value} {x : Api.Cell} (h : Rep.cells S w cs x) : ∃ (a2 : Option Addr) (c2 : Nat) (a3 : Option Addr) (c3 : Nat), cs = [.int .i64 x.Kind, .int .i64 x.Num, .slice a2 x.Vals.length c2, .slice a3 x.Frames.length c3] ∧ I64 x.Kind ∧ I64 x.Num ∧ (x.Vals.length ≤ c2 ∧ (a2 = none → c2 = 0) ∧ Arr S w a2 x.Vals) ∧ (x.Frames.length ≤ c3 ∧ (a3 = none → c3 = 0) ∧ Arr S w a3 x.Frames) := by
  obtain ⟨_, _, ⟨rfl, h0⟩, ⟨_, _, ⟨rfl, h1⟩, ⟨_, _, ⟨b2, d2, rfl, h2⟩, ⟨b3, d3, rfl, h3⟩, rfl⟩, rfl⟩, rfl⟩ := h
  exact ⟨b2, d2, b3, d3, rfl, h0, h1, h2, h3⟩
theorem api_Cell_elem {S : Nat → Prop} {w : World} {a : Option Addr} {xs : List Api.Cell} (h : Arr S w a xs) {k : Nat} {x : Api.Cell} (hk : xs[k]? = some x) :
    ∃ (b off : Nat) (a2 : Option Addr) (c2 : Nat) (a3 : Option Addr) (c3 : Nat), a = some ⟨b, off, none⟩ ∧ S b ∧ w.cell? ⟨b, off + k * 4, none⟩ = some (.int .i64 x.Kind) ∧ w.cell? ⟨b, off + k * 4 + 1, none⟩ = some (.int .i64 x.Num) ∧ w.cell? ⟨b, off + k * 4 + 2, none⟩ = some (.slice a2 x.Vals.length c2) ∧ w.cell? ⟨b, off + k * 4 + 3, none⟩ = some (.slice a3 x.Frames.length c3) ∧ I64 x.Kind ∧ I64 x.Num ∧ (x.Vals.length ≤ c2 ∧ (a2 = none → c2 = 0) ∧ Arr S w a2 x.Vals) ∧ (x.Frames.length ≤ c3 ∧ (a3 = none → c3 = 0) ∧ Arr S w a3 x.Frames) := by
  obtain ⟨b, off, cs, ha, hb, hc, hj⟩ := h.at hk
  obtain ⟨a2, c2, a3, c3, rfl, g0, g1, g2, g3⟩ := api_Cell_cells_eq hc
  exact ⟨b, off, a2, c2, a3, c3, ha, hb, by have := hj 0 (by show 0 < 4; omega); simpa [api_Cell_sz] using this, by have := hj 1 (by show 1 < 4; omega); simpa [api_Cell_sz] using this, by have := hj 2 (by show 2 < 4; omega); simpa [api_Cell_sz] using this, by have := hj 3 (by show 3 < 4; omega); simpa [api_Cell_sz] using this, g0, g1, g2, g3⟩

structure Api.Shape where
  Up : Int
  Name : Int
  deriving Inhabited, DecidableEq
instance : Rep Api.Shape := Rep.via (β := Int × Int) fun x => (x.Up, x.Name)
theorem api_Shape_sz : Rep.sz Api.Shape = 2 := rfl
theorem api_Shape_cells_eq {S : Nat → Prop} {w : World} {cs : List Value} {x : Api.Shape} (h : Rep.cells S w cs x) : cs = [.int .i64 x.Up, .int .i64 x.Name] ∧ I64 x.Up ∧ I64 x.Name := by
  obtain ⟨_, _, ⟨rfl, h0⟩, ⟨rfl, h1⟩, rfl⟩ := h
  exact ⟨rfl, h0, h1⟩
theorem api_Shape_cells_mk {S : Nat → Prop} {w : World} {x : Api.Shape} (h0 : I64 x.Up) (h1 : I64 x.Name) : Rep.cells S w [.int .i64 x.Up, .int .i64 x.Name] x := by
  exact ⟨_, _, ⟨rfl, h0⟩, ⟨rfl, h1⟩, rfl⟩
theorem api_Shape_elem {S : Nat → Prop} {w : World} {a : Option Addr} {xs : List Api.Shape} (h : Arr S w a xs) {k : Nat} {x : Api.Shape} (hk : xs[k]? = some x) :
    ∃ (b off : Nat), a = some ⟨b, off, none⟩ ∧ S b ∧ w.cell? ⟨b, off + k * 2, none⟩ = some (.int .i64 x.Up) ∧ w.cell? ⟨b, off + k * 2 + 1, none⟩ = some (.int .i64 x.Name) ∧ I64 x.Up ∧ I64 x.Name := by
  obtain ⟨b, off, cs, ha, hb, hc, hj⟩ := h.at hk
  obtain ⟨rfl, g0, g1⟩ := api_Shape_cells_eq hc
  exact ⟨b, off, ha, hb, by have := hj 0 (by show 0 < 2; omega); simpa [api_Shape_sz] using this, by have := hj 1 (by show 1 < 2; omega); simpa [api_Shape_sz] using this, g0, g1⟩

structure Api.Thread where
  Frames : (List Api.Frame)
  State : Int
  On : Int
  Val : Api.Val
  deriving Inhabited, DecidableEq
instance : Rep Api.Thread := Rep.via (β := (List Api.Frame) × Int × Int × Api.Val) fun x => (x.Frames, x.State, x.On, x.Val)
theorem api_Thread_sz : Rep.sz Api.Thread = 5 := rfl
theorem api_Thread_cells_eq {S : Nat → Prop} {w : World} {cs : List Value} {x : Api.Thread} (h : Rep.cells S w cs x) : ∃ (a0 : Option Addr) (c0 : Nat), cs = [.slice a0 x.Frames.length c0, .int .i64 x.State, .int .i64 x.On, .int .i64 x.Val.Kind, .int .i64 x.Val.N] ∧ (x.Frames.length ≤ c0 ∧ (a0 = none → c0 = 0) ∧ Arr S w a0 x.Frames) ∧ I64 x.State ∧ I64 x.On ∧ I64 x.Val.Kind ∧ I64 x.Val.N := by
  obtain ⟨_, _, ⟨b0, d0, rfl, h0⟩, ⟨_, _, ⟨rfl, h1⟩, ⟨_, _, ⟨rfl, h2⟩, ⟨_, _, ⟨rfl, h3⟩, ⟨rfl, h4⟩, rfl⟩, rfl⟩, rfl⟩, rfl⟩ := h
  exact ⟨b0, d0, rfl, h0, h1, h2, h3, h4⟩
theorem api_Thread_elem {S : Nat → Prop} {w : World} {a : Option Addr} {xs : List Api.Thread} (h : Arr S w a xs) {k : Nat} {x : Api.Thread} (hk : xs[k]? = some x) :
    ∃ (b off : Nat) (a0 : Option Addr) (c0 : Nat), a = some ⟨b, off, none⟩ ∧ S b ∧ w.cell? ⟨b, off + k * 5, none⟩ = some (.slice a0 x.Frames.length c0) ∧ w.cell? ⟨b, off + k * 5 + 1, none⟩ = some (.int .i64 x.State) ∧ w.cell? ⟨b, off + k * 5 + 2, none⟩ = some (.int .i64 x.On) ∧ w.cell? ⟨b, off + k * 5 + 3, none⟩ = some (.int .i64 x.Val.Kind) ∧ w.cell? ⟨b, off + k * 5 + 4, none⟩ = some (.int .i64 x.Val.N) ∧ (x.Frames.length ≤ c0 ∧ (a0 = none → c0 = 0) ∧ Arr S w a0 x.Frames) ∧ I64 x.State ∧ I64 x.On ∧ I64 x.Val.Kind ∧ I64 x.Val.N := by
  obtain ⟨b, off, cs, ha, hb, hc, hj⟩ := h.at hk
  obtain ⟨a0, c0, rfl, g0, g1, g2, g3, g4⟩ := api_Thread_cells_eq hc
  exact ⟨b, off, a0, c0, ha, hb, by have := hj 0 (by show 0 < 5; omega); simpa [api_Thread_sz] using this, by have := hj 1 (by show 1 < 5; omega); simpa [api_Thread_sz] using this, by have := hj 2 (by show 2 < 5; omega); simpa [api_Thread_sz] using this, by have := hj 3 (by show 3 < 5; omega); simpa [api_Thread_sz] using this, by have := hj 4 (by show 4 < 5; omega); simpa [api_Thread_sz] using this, g0, g1, g2, g3, g4⟩

structure Api.End where
  Cell : Int
  Fn : Api.Val
  deriving Inhabited, DecidableEq
instance : Rep Api.End := Rep.via (β := Int × Api.Val) fun x => (x.Cell, x.Fn)
theorem api_End_sz : Rep.sz Api.End = 3 := rfl
theorem api_End_cells_eq {S : Nat → Prop} {w : World} {cs : List Value} {x : Api.End} (h : Rep.cells S w cs x) : cs = [.int .i64 x.Cell, .int .i64 x.Fn.Kind, .int .i64 x.Fn.N] ∧ I64 x.Cell ∧ I64 x.Fn.Kind ∧ I64 x.Fn.N := by
  obtain ⟨_, _, ⟨rfl, h0⟩, ⟨_, _, ⟨rfl, h1⟩, ⟨rfl, h2⟩, rfl⟩, rfl⟩ := h
  exact ⟨rfl, h0, h1, h2⟩
theorem api_End_cells_mk {S : Nat → Prop} {w : World} {x : Api.End} (h0 : I64 x.Cell) (h1 : I64 x.Fn.Kind) (h2 : I64 x.Fn.N) : Rep.cells S w [.int .i64 x.Cell, .int .i64 x.Fn.Kind, .int .i64 x.Fn.N] x := by
  exact ⟨_, _, ⟨rfl, h0⟩, ⟨_, _, ⟨rfl, h1⟩, ⟨rfl, h2⟩, rfl⟩, rfl⟩
theorem api_End_elem {S : Nat → Prop} {w : World} {a : Option Addr} {xs : List Api.End} (h : Arr S w a xs) {k : Nat} {x : Api.End} (hk : xs[k]? = some x) :
    ∃ (b off : Nat), a = some ⟨b, off, none⟩ ∧ S b ∧ w.cell? ⟨b, off + k * 3, none⟩ = some (.int .i64 x.Cell) ∧ w.cell? ⟨b, off + k * 3 + 1, none⟩ = some (.int .i64 x.Fn.Kind) ∧ w.cell? ⟨b, off + k * 3 + 2, none⟩ = some (.int .i64 x.Fn.N) ∧ I64 x.Cell ∧ I64 x.Fn.Kind ∧ I64 x.Fn.N := by
  obtain ⟨b, off, cs, ha, hb, hc, hj⟩ := h.at hk
  obtain ⟨rfl, g0, g1, g2⟩ := api_End_cells_eq hc
  exact ⟨b, off, ha, hb, by have := hj 0 (by show 0 < 3; omega); simpa [api_End_sz] using this, by have := hj 1 (by show 1 < 3; omega); simpa [api_End_sz] using this, by have := hj 2 (by show 2 < 3; omega); simpa [api_End_sz] using this, g0, g1, g2⟩

structure Api.State where
  Cells : (List Api.Cell)
  Shapes : (List Api.Shape)
  Texts : (List ByteArray)
  Threads : (List Api.Thread)
  Ends : (List Api.End)
  Said : (List Api.Val)
  Asked : Int
  Steps : Int
  deriving Inhabited, DecidableEq
instance : Rep Api.State := Rep.via (β := (List Api.Cell) × (List Api.Shape) × (List ByteArray) × (List Api.Thread) × (List Api.End) × (List Api.Val) × Int × Int) fun x => (x.Cells, x.Shapes, x.Texts, x.Threads, x.Ends, x.Said, x.Asked, x.Steps)
theorem api_State_sz : Rep.sz Api.State = 8 := rfl
theorem api_State_cells_eq {S : Nat → Prop} {w : World} {cs : List Value} {x : Api.State} (h : Rep.cells S w cs x) : ∃ (a0 : Option Addr) (c0 : Nat) (a1 : Option Addr) (c1 : Nat) (a2 : Option Addr) (c2 : Nat) (a3 : Option Addr) (c3 : Nat) (a4 : Option Addr) (c4 : Nat) (a5 : Option Addr) (c5 : Nat), cs = [.slice a0 x.Cells.length c0, .slice a1 x.Shapes.length c1, .slice a2 x.Texts.length c2, .slice a3 x.Threads.length c3, .slice a4 x.Ends.length c4, .slice a5 x.Said.length c5, .int .i64 x.Asked, .int .i64 x.Steps] ∧ (x.Cells.length ≤ c0 ∧ (a0 = none → c0 = 0) ∧ Arr S w a0 x.Cells) ∧ (x.Shapes.length ≤ c1 ∧ (a1 = none → c1 = 0) ∧ Arr S w a1 x.Shapes) ∧ (x.Texts.length ≤ c2 ∧ (a2 = none → c2 = 0) ∧ Arr S w a2 x.Texts) ∧ (x.Threads.length ≤ c3 ∧ (a3 = none → c3 = 0) ∧ Arr S w a3 x.Threads) ∧ (x.Ends.length ≤ c4 ∧ (a4 = none → c4 = 0) ∧ Arr S w a4 x.Ends) ∧ (x.Said.length ≤ c5 ∧ (a5 = none → c5 = 0) ∧ Arr S w a5 x.Said) ∧ I64 x.Asked ∧ I64 x.Steps := by
  obtain ⟨_, _, ⟨b0, d0, rfl, h0⟩, ⟨_, _, ⟨b1, d1, rfl, h1⟩, ⟨_, _, ⟨b2, d2, rfl, h2⟩, ⟨_, _, ⟨b3, d3, rfl, h3⟩, ⟨_, _, ⟨b4, d4, rfl, h4⟩, ⟨_, _, ⟨b5, d5, rfl, h5⟩, ⟨_, _, ⟨rfl, h6⟩, ⟨rfl, h7⟩, rfl⟩, rfl⟩, rfl⟩, rfl⟩, rfl⟩, rfl⟩, rfl⟩ := h
  exact ⟨b0, d0, b1, d1, b2, d2, b3, d3, b4, d4, b5, d5, rfl, h0, h1, h2, h3, h4, h5, h6, h7⟩
theorem api_State_elem {S : Nat → Prop} {w : World} {a : Option Addr} {xs : List Api.State} (h : Arr S w a xs) {k : Nat} {x : Api.State} (hk : xs[k]? = some x) :
    ∃ (b off : Nat) (a0 : Option Addr) (c0 : Nat) (a1 : Option Addr) (c1 : Nat) (a2 : Option Addr) (c2 : Nat) (a3 : Option Addr) (c3 : Nat) (a4 : Option Addr) (c4 : Nat) (a5 : Option Addr) (c5 : Nat), a = some ⟨b, off, none⟩ ∧ S b ∧ w.cell? ⟨b, off + k * 8, none⟩ = some (.slice a0 x.Cells.length c0) ∧ w.cell? ⟨b, off + k * 8 + 1, none⟩ = some (.slice a1 x.Shapes.length c1) ∧ w.cell? ⟨b, off + k * 8 + 2, none⟩ = some (.slice a2 x.Texts.length c2) ∧ w.cell? ⟨b, off + k * 8 + 3, none⟩ = some (.slice a3 x.Threads.length c3) ∧ w.cell? ⟨b, off + k * 8 + 4, none⟩ = some (.slice a4 x.Ends.length c4) ∧ w.cell? ⟨b, off + k * 8 + 5, none⟩ = some (.slice a5 x.Said.length c5) ∧ w.cell? ⟨b, off + k * 8 + 6, none⟩ = some (.int .i64 x.Asked) ∧ w.cell? ⟨b, off + k * 8 + 7, none⟩ = some (.int .i64 x.Steps) ∧ (x.Cells.length ≤ c0 ∧ (a0 = none → c0 = 0) ∧ Arr S w a0 x.Cells) ∧ (x.Shapes.length ≤ c1 ∧ (a1 = none → c1 = 0) ∧ Arr S w a1 x.Shapes) ∧ (x.Texts.length ≤ c2 ∧ (a2 = none → c2 = 0) ∧ Arr S w a2 x.Texts) ∧ (x.Threads.length ≤ c3 ∧ (a3 = none → c3 = 0) ∧ Arr S w a3 x.Threads) ∧ (x.Ends.length ≤ c4 ∧ (a4 = none → c4 = 0) ∧ Arr S w a4 x.Ends) ∧ (x.Said.length ≤ c5 ∧ (a5 = none → c5 = 0) ∧ Arr S w a5 x.Said) ∧ I64 x.Asked ∧ I64 x.Steps := by
  obtain ⟨b, off, cs, ha, hb, hc, hj⟩ := h.at hk
  obtain ⟨a0, c0, a1, c1, a2, c2, a3, c3, a4, c4, a5, c5, rfl, g0, g1, g2, g3, g4, g5, g6, g7⟩ := api_State_cells_eq hc
  exact ⟨b, off, a0, c0, a1, c1, a2, c2, a3, c3, a4, c4, a5, c5, ha, hb, by have := hj 0 (by show 0 < 8; omega); simpa [api_State_sz] using this, by have := hj 1 (by show 1 < 8; omega); simpa [api_State_sz] using this, by have := hj 2 (by show 2 < 8; omega); simpa [api_State_sz] using this, by have := hj 3 (by show 3 < 8; omega); simpa [api_State_sz] using this, by have := hj 4 (by show 4 < 8; omega); simpa [api_State_sz] using this, by have := hj 5 (by show 5 < 8; omega); simpa [api_State_sz] using this, by have := hj 6 (by show 6 < 8; omega); simpa [api_State_sz] using this, by have := hj 7 (by show 7 < 8; omega); simpa [api_State_sz] using this, g0, g1, g2, g3, g4, g5, g6, g7⟩

structure Api.Event where
  Kind : Int
  Step : Int
  Thread : Int
  Fn : Int
  At : Int
  Line : Int
  A : Int
  B : Int
  Val : Api.Val
  Old : Api.Val
  deriving Inhabited, DecidableEq
instance : Rep Api.Event := Rep.via (β := Int × Int × Int × Int × Int × Int × Int × Int × Api.Val × Api.Val) fun x => (x.Kind, x.Step, x.Thread, x.Fn, x.At, x.Line, x.A, x.B, x.Val, x.Old)
theorem api_Event_sz : Rep.sz Api.Event = 12 := rfl
theorem api_Event_cells_eq {S : Nat → Prop} {w : World} {cs : List Value} {x : Api.Event} (h : Rep.cells S w cs x) : cs = [.int .i64 x.Kind, .int .i64 x.Step, .int .i64 x.Thread, .int .i64 x.Fn, .int .i64 x.At, .int .i64 x.Line, .int .i64 x.A, .int .i64 x.B, .int .i64 x.Val.Kind, .int .i64 x.Val.N, .int .i64 x.Old.Kind, .int .i64 x.Old.N] ∧ I64 x.Kind ∧ I64 x.Step ∧ I64 x.Thread ∧ I64 x.Fn ∧ I64 x.At ∧ I64 x.Line ∧ I64 x.A ∧ I64 x.B ∧ I64 x.Val.Kind ∧ I64 x.Val.N ∧ I64 x.Old.Kind ∧ I64 x.Old.N := by
  obtain ⟨_, _, ⟨rfl, h0⟩, ⟨_, _, ⟨rfl, h1⟩, ⟨_, _, ⟨rfl, h2⟩, ⟨_, _, ⟨rfl, h3⟩, ⟨_, _, ⟨rfl, h4⟩, ⟨_, _, ⟨rfl, h5⟩, ⟨_, _, ⟨rfl, h6⟩, ⟨_, _, ⟨rfl, h7⟩, ⟨_, _, ⟨_, _, ⟨rfl, h8⟩, ⟨rfl, h9⟩, rfl⟩, ⟨_, _, ⟨rfl, h10⟩, ⟨rfl, h11⟩, rfl⟩, rfl⟩, rfl⟩, rfl⟩, rfl⟩, rfl⟩, rfl⟩, rfl⟩, rfl⟩, rfl⟩ := h
  exact ⟨rfl, h0, h1, h2, h3, h4, h5, h6, h7, h8, h9, h10, h11⟩
theorem api_Event_cells_mk {S : Nat → Prop} {w : World} {x : Api.Event} (h0 : I64 x.Kind) (h1 : I64 x.Step) (h2 : I64 x.Thread) (h3 : I64 x.Fn) (h4 : I64 x.At) (h5 : I64 x.Line) (h6 : I64 x.A) (h7 : I64 x.B) (h8 : I64 x.Val.Kind) (h9 : I64 x.Val.N) (h10 : I64 x.Old.Kind) (h11 : I64 x.Old.N) : Rep.cells S w [.int .i64 x.Kind, .int .i64 x.Step, .int .i64 x.Thread, .int .i64 x.Fn, .int .i64 x.At, .int .i64 x.Line, .int .i64 x.A, .int .i64 x.B, .int .i64 x.Val.Kind, .int .i64 x.Val.N, .int .i64 x.Old.Kind, .int .i64 x.Old.N] x := by
  exact ⟨_, _, ⟨rfl, h0⟩, ⟨_, _, ⟨rfl, h1⟩, ⟨_, _, ⟨rfl, h2⟩, ⟨_, _, ⟨rfl, h3⟩, ⟨_, _, ⟨rfl, h4⟩, ⟨_, _, ⟨rfl, h5⟩, ⟨_, _, ⟨rfl, h6⟩, ⟨_, _, ⟨rfl, h7⟩, ⟨_, _, ⟨_, _, ⟨rfl, h8⟩, ⟨rfl, h9⟩, rfl⟩, ⟨_, _, ⟨rfl, h10⟩, ⟨rfl, h11⟩, rfl⟩, rfl⟩, rfl⟩, rfl⟩, rfl⟩, rfl⟩, rfl⟩, rfl⟩, rfl⟩, rfl⟩
theorem api_Event_elem {S : Nat → Prop} {w : World} {a : Option Addr} {xs : List Api.Event} (h : Arr S w a xs) {k : Nat} {x : Api.Event} (hk : xs[k]? = some x) :
    ∃ (b off : Nat), a = some ⟨b, off, none⟩ ∧ S b ∧ w.cell? ⟨b, off + k * 12, none⟩ = some (.int .i64 x.Kind) ∧ w.cell? ⟨b, off + k * 12 + 1, none⟩ = some (.int .i64 x.Step) ∧ w.cell? ⟨b, off + k * 12 + 2, none⟩ = some (.int .i64 x.Thread) ∧ w.cell? ⟨b, off + k * 12 + 3, none⟩ = some (.int .i64 x.Fn) ∧ w.cell? ⟨b, off + k * 12 + 4, none⟩ = some (.int .i64 x.At) ∧ w.cell? ⟨b, off + k * 12 + 5, none⟩ = some (.int .i64 x.Line) ∧ w.cell? ⟨b, off + k * 12 + 6, none⟩ = some (.int .i64 x.A) ∧ w.cell? ⟨b, off + k * 12 + 7, none⟩ = some (.int .i64 x.B) ∧ w.cell? ⟨b, off + k * 12 + 8, none⟩ = some (.int .i64 x.Val.Kind) ∧ w.cell? ⟨b, off + k * 12 + 9, none⟩ = some (.int .i64 x.Val.N) ∧ w.cell? ⟨b, off + k * 12 + 10, none⟩ = some (.int .i64 x.Old.Kind) ∧ w.cell? ⟨b, off + k * 12 + 11, none⟩ = some (.int .i64 x.Old.N) ∧ I64 x.Kind ∧ I64 x.Step ∧ I64 x.Thread ∧ I64 x.Fn ∧ I64 x.At ∧ I64 x.Line ∧ I64 x.A ∧ I64 x.B ∧ I64 x.Val.Kind ∧ I64 x.Val.N ∧ I64 x.Old.Kind ∧ I64 x.Old.N := by
  obtain ⟨b, off, cs, ha, hb, hc, hj⟩ := h.at hk
  obtain ⟨rfl, g0, g1, g2, g3, g4, g5, g6, g7, g8, g9, g10, g11⟩ := api_Event_cells_eq hc
  exact ⟨b, off, ha, hb, by have := hj 0 (by show 0 < 12; omega); simpa [api_Event_sz] using this, by have := hj 1 (by show 1 < 12; omega); simpa [api_Event_sz] using this, by have := hj 2 (by show 2 < 12; omega); simpa [api_Event_sz] using this, by have := hj 3 (by show 3 < 12; omega); simpa [api_Event_sz] using this, by have := hj 4 (by show 4 < 12; omega); simpa [api_Event_sz] using this, by have := hj 5 (by show 5 < 12; omega); simpa [api_Event_sz] using this, by have := hj 6 (by show 6 < 12; omega); simpa [api_Event_sz] using this, by have := hj 7 (by show 7 < 12; omega); simpa [api_Event_sz] using this, by have := hj 8 (by show 8 < 12; omega); simpa [api_Event_sz] using this, by have := hj 9 (by show 9 < 12; omega); simpa [api_Event_sz] using this, by have := hj 10 (by show 10 < 12; omega); simpa [api_Event_sz] using this, by have := hj 11 (by show 11 < 12; omega); simpa [api_Event_sz] using this, g0, g1, g2, g3, g4, g5, g6, g7, g8, g9, g10, g11⟩

structure Api.DMark where
  Thread : Int
  Deep : Int
  Line : Int
  deriving Inhabited, DecidableEq
instance : Rep Api.DMark := Rep.via (β := Int × Int × Int) fun x => (x.Thread, x.Deep, x.Line)
theorem api_DMark_sz : Rep.sz Api.DMark = 3 := rfl
theorem api_DMark_cells_eq {S : Nat → Prop} {w : World} {cs : List Value} {x : Api.DMark} (h : Rep.cells S w cs x) : cs = [.int .i64 x.Thread, .int .i64 x.Deep, .int .i64 x.Line] ∧ I64 x.Thread ∧ I64 x.Deep ∧ I64 x.Line := by
  obtain ⟨_, _, ⟨rfl, h0⟩, ⟨_, _, ⟨rfl, h1⟩, ⟨rfl, h2⟩, rfl⟩, rfl⟩ := h
  exact ⟨rfl, h0, h1, h2⟩
theorem api_DMark_cells_mk {S : Nat → Prop} {w : World} {x : Api.DMark} (h0 : I64 x.Thread) (h1 : I64 x.Deep) (h2 : I64 x.Line) : Rep.cells S w [.int .i64 x.Thread, .int .i64 x.Deep, .int .i64 x.Line] x := by
  exact ⟨_, _, ⟨rfl, h0⟩, ⟨_, _, ⟨rfl, h1⟩, ⟨rfl, h2⟩, rfl⟩, rfl⟩
theorem api_DMark_elem {S : Nat → Prop} {w : World} {a : Option Addr} {xs : List Api.DMark} (h : Arr S w a xs) {k : Nat} {x : Api.DMark} (hk : xs[k]? = some x) :
    ∃ (b off : Nat), a = some ⟨b, off, none⟩ ∧ S b ∧ w.cell? ⟨b, off + k * 3, none⟩ = some (.int .i64 x.Thread) ∧ w.cell? ⟨b, off + k * 3 + 1, none⟩ = some (.int .i64 x.Deep) ∧ w.cell? ⟨b, off + k * 3 + 2, none⟩ = some (.int .i64 x.Line) ∧ I64 x.Thread ∧ I64 x.Deep ∧ I64 x.Line := by
  obtain ⟨b, off, cs, ha, hb, hc, hj⟩ := h.at hk
  obtain ⟨rfl, g0, g1, g2⟩ := api_DMark_cells_eq hc
  exact ⟨b, off, ha, hb, by have := hj 0 (by show 0 < 3; omega); simpa [api_DMark_sz] using this, by have := hj 1 (by show 1 < 3; omega); simpa [api_DMark_sz] using this, by have := hj 2 (by show 2 < 3; omega); simpa [api_DMark_sz] using this, g0, g1, g2⟩

structure Api.TIns where
  Op : Int
  A : Int
  B : Int
  C : Int
  N : Int
  Exit : Int
  K : Api.Val
  deriving Inhabited, DecidableEq
instance : Rep Api.TIns := Rep.via (β := Int × Int × Int × Int × Int × Int × Api.Val) fun x => (x.Op, x.A, x.B, x.C, x.N, x.Exit, x.K)
theorem api_TIns_sz : Rep.sz Api.TIns = 8 := rfl
theorem api_TIns_cells_eq {S : Nat → Prop} {w : World} {cs : List Value} {x : Api.TIns} (h : Rep.cells S w cs x) : cs = [.int .i64 x.Op, .int .i64 x.A, .int .i64 x.B, .int .i64 x.C, .int .i64 x.N, .int .i64 x.Exit, .int .i64 x.K.Kind, .int .i64 x.K.N] ∧ I64 x.Op ∧ I64 x.A ∧ I64 x.B ∧ I64 x.C ∧ I64 x.N ∧ I64 x.Exit ∧ I64 x.K.Kind ∧ I64 x.K.N := by
  obtain ⟨_, _, ⟨rfl, h0⟩, ⟨_, _, ⟨rfl, h1⟩, ⟨_, _, ⟨rfl, h2⟩, ⟨_, _, ⟨rfl, h3⟩, ⟨_, _, ⟨rfl, h4⟩, ⟨_, _, ⟨rfl, h5⟩, ⟨_, _, ⟨rfl, h6⟩, ⟨rfl, h7⟩, rfl⟩, rfl⟩, rfl⟩, rfl⟩, rfl⟩, rfl⟩, rfl⟩ := h
  exact ⟨rfl, h0, h1, h2, h3, h4, h5, h6, h7⟩
theorem api_TIns_cells_mk {S : Nat → Prop} {w : World} {x : Api.TIns} (h0 : I64 x.Op) (h1 : I64 x.A) (h2 : I64 x.B) (h3 : I64 x.C) (h4 : I64 x.N) (h5 : I64 x.Exit) (h6 : I64 x.K.Kind) (h7 : I64 x.K.N) : Rep.cells S w [.int .i64 x.Op, .int .i64 x.A, .int .i64 x.B, .int .i64 x.C, .int .i64 x.N, .int .i64 x.Exit, .int .i64 x.K.Kind, .int .i64 x.K.N] x := by
  exact ⟨_, _, ⟨rfl, h0⟩, ⟨_, _, ⟨rfl, h1⟩, ⟨_, _, ⟨rfl, h2⟩, ⟨_, _, ⟨rfl, h3⟩, ⟨_, _, ⟨rfl, h4⟩, ⟨_, _, ⟨rfl, h5⟩, ⟨_, _, ⟨rfl, h6⟩, ⟨rfl, h7⟩, rfl⟩, rfl⟩, rfl⟩, rfl⟩, rfl⟩, rfl⟩, rfl⟩
theorem api_TIns_elem {S : Nat → Prop} {w : World} {a : Option Addr} {xs : List Api.TIns} (h : Arr S w a xs) {k : Nat} {x : Api.TIns} (hk : xs[k]? = some x) :
    ∃ (b off : Nat), a = some ⟨b, off, none⟩ ∧ S b ∧ w.cell? ⟨b, off + k * 8, none⟩ = some (.int .i64 x.Op) ∧ w.cell? ⟨b, off + k * 8 + 1, none⟩ = some (.int .i64 x.A) ∧ w.cell? ⟨b, off + k * 8 + 2, none⟩ = some (.int .i64 x.B) ∧ w.cell? ⟨b, off + k * 8 + 3, none⟩ = some (.int .i64 x.C) ∧ w.cell? ⟨b, off + k * 8 + 4, none⟩ = some (.int .i64 x.N) ∧ w.cell? ⟨b, off + k * 8 + 5, none⟩ = some (.int .i64 x.Exit) ∧ w.cell? ⟨b, off + k * 8 + 6, none⟩ = some (.int .i64 x.K.Kind) ∧ w.cell? ⟨b, off + k * 8 + 7, none⟩ = some (.int .i64 x.K.N) ∧ I64 x.Op ∧ I64 x.A ∧ I64 x.B ∧ I64 x.C ∧ I64 x.N ∧ I64 x.Exit ∧ I64 x.K.Kind ∧ I64 x.K.N := by
  obtain ⟨b, off, cs, ha, hb, hc, hj⟩ := h.at hk
  obtain ⟨rfl, g0, g1, g2, g3, g4, g5, g6, g7⟩ := api_TIns_cells_eq hc
  exact ⟨b, off, ha, hb, by have := hj 0 (by show 0 < 8; omega); simpa [api_TIns_sz] using this, by have := hj 1 (by show 1 < 8; omega); simpa [api_TIns_sz] using this, by have := hj 2 (by show 2 < 8; omega); simpa [api_TIns_sz] using this, by have := hj 3 (by show 3 < 8; omega); simpa [api_TIns_sz] using this, by have := hj 4 (by show 4 < 8; omega); simpa [api_TIns_sz] using this, by have := hj 5 (by show 5 < 8; omega); simpa [api_TIns_sz] using this, by have := hj 6 (by show 6 < 8; omega); simpa [api_TIns_sz] using this, by have := hj 7 (by show 7 < 8; omega); simpa [api_TIns_sz] using this, g0, g1, g2, g3, g4, g5, g6, g7⟩

structure Api.TSet where
  Reg : Int
  Val : Int
  deriving Inhabited, DecidableEq
instance : Rep Api.TSet := Rep.via (β := Int × Int) fun x => (x.Reg, x.Val)
theorem api_TSet_sz : Rep.sz Api.TSet = 2 := rfl
theorem api_TSet_cells_eq {S : Nat → Prop} {w : World} {cs : List Value} {x : Api.TSet} (h : Rep.cells S w cs x) : cs = [.int .i64 x.Reg, .int .i64 x.Val] ∧ I64 x.Reg ∧ I64 x.Val := by
  obtain ⟨_, _, ⟨rfl, h0⟩, ⟨rfl, h1⟩, rfl⟩ := h
  exact ⟨rfl, h0, h1⟩
theorem api_TSet_cells_mk {S : Nat → Prop} {w : World} {x : Api.TSet} (h0 : I64 x.Reg) (h1 : I64 x.Val) : Rep.cells S w [.int .i64 x.Reg, .int .i64 x.Val] x := by
  exact ⟨_, _, ⟨rfl, h0⟩, ⟨rfl, h1⟩, rfl⟩
theorem api_TSet_elem {S : Nat → Prop} {w : World} {a : Option Addr} {xs : List Api.TSet} (h : Arr S w a xs) {k : Nat} {x : Api.TSet} (hk : xs[k]? = some x) :
    ∃ (b off : Nat), a = some ⟨b, off, none⟩ ∧ S b ∧ w.cell? ⟨b, off + k * 2, none⟩ = some (.int .i64 x.Reg) ∧ w.cell? ⟨b, off + k * 2 + 1, none⟩ = some (.int .i64 x.Val) ∧ I64 x.Reg ∧ I64 x.Val := by
  obtain ⟨b, off, cs, ha, hb, hc, hj⟩ := h.at hk
  obtain ⟨rfl, g0, g1⟩ := api_TSet_cells_eq hc
  exact ⟨b, off, ha, hb, by have := hj 0 (by show 0 < 2; omega); simpa [api_TSet_sz] using this, by have := hj 1 (by show 1 < 2; omega); simpa [api_TSet_sz] using this, g0, g1⟩

structure Api.TMake where
  Cell : Int
  Kind : Int
  Num : Int
  Vals : (List Int)
  deriving Inhabited, DecidableEq
instance : Rep Api.TMake := Rep.via (β := Int × Int × Int × (List Int)) fun x => (x.Cell, x.Kind, x.Num, x.Vals)
theorem api_TMake_sz : Rep.sz Api.TMake = 4 := rfl
theorem api_TMake_cells_eq {S : Nat → Prop} {w : World} {cs : List Value} {x : Api.TMake} (h : Rep.cells S w cs x) : ∃ (a3 : Option Addr) (c3 : Nat), cs = [.int .i64 x.Cell, .int .i64 x.Kind, .int .i64 x.Num, .slice a3 x.Vals.length c3] ∧ I64 x.Cell ∧ I64 x.Kind ∧ I64 x.Num ∧ (x.Vals.length ≤ c3 ∧ (a3 = none → c3 = 0) ∧ Arr S w a3 x.Vals) := by
  obtain ⟨_, _, ⟨rfl, h0⟩, ⟨_, _, ⟨rfl, h1⟩, ⟨_, _, ⟨rfl, h2⟩, ⟨b3, d3, rfl, h3⟩, rfl⟩, rfl⟩, rfl⟩ := h
  exact ⟨b3, d3, rfl, h0, h1, h2, h3⟩
theorem api_TMake_elem {S : Nat → Prop} {w : World} {a : Option Addr} {xs : List Api.TMake} (h : Arr S w a xs) {k : Nat} {x : Api.TMake} (hk : xs[k]? = some x) :
    ∃ (b off : Nat) (a3 : Option Addr) (c3 : Nat), a = some ⟨b, off, none⟩ ∧ S b ∧ w.cell? ⟨b, off + k * 4, none⟩ = some (.int .i64 x.Cell) ∧ w.cell? ⟨b, off + k * 4 + 1, none⟩ = some (.int .i64 x.Kind) ∧ w.cell? ⟨b, off + k * 4 + 2, none⟩ = some (.int .i64 x.Num) ∧ w.cell? ⟨b, off + k * 4 + 3, none⟩ = some (.slice a3 x.Vals.length c3) ∧ I64 x.Cell ∧ I64 x.Kind ∧ I64 x.Num ∧ (x.Vals.length ≤ c3 ∧ (a3 = none → c3 = 0) ∧ Arr S w a3 x.Vals) := by
  obtain ⟨b, off, cs, ha, hb, hc, hj⟩ := h.at hk
  obtain ⟨a3, c3, rfl, g0, g1, g2, g3⟩ := api_TMake_cells_eq hc
  exact ⟨b, off, a3, c3, ha, hb, by have := hj 0 (by show 0 < 4; omega); simpa [api_TMake_sz] using this, by have := hj 1 (by show 1 < 4; omega); simpa [api_TMake_sz] using this, by have := hj 2 (by show 2 < 4; omega); simpa [api_TMake_sz] using this, by have := hj 3 (by show 3 < 4; omega); simpa [api_TMake_sz] using this, g0, g1, g2, g3⟩

structure Api.TExit where
  At : Int
  Steps : Int
  Sets : (List Api.TSet)
  Makes : (List Api.TMake)
  deriving Inhabited, DecidableEq
instance : Rep Api.TExit := Rep.via (β := Int × Int × (List Api.TSet) × (List Api.TMake)) fun x => (x.At, x.Steps, x.Sets, x.Makes)
theorem api_TExit_sz : Rep.sz Api.TExit = 4 := rfl
theorem api_TExit_cells_eq {S : Nat → Prop} {w : World} {cs : List Value} {x : Api.TExit} (h : Rep.cells S w cs x) : ∃ (a2 : Option Addr) (c2 : Nat) (a3 : Option Addr) (c3 : Nat), cs = [.int .i64 x.At, .int .i64 x.Steps, .slice a2 x.Sets.length c2, .slice a3 x.Makes.length c3] ∧ I64 x.At ∧ I64 x.Steps ∧ (x.Sets.length ≤ c2 ∧ (a2 = none → c2 = 0) ∧ Arr S w a2 x.Sets) ∧ (x.Makes.length ≤ c3 ∧ (a3 = none → c3 = 0) ∧ Arr S w a3 x.Makes) := by
  obtain ⟨_, _, ⟨rfl, h0⟩, ⟨_, _, ⟨rfl, h1⟩, ⟨_, _, ⟨b2, d2, rfl, h2⟩, ⟨b3, d3, rfl, h3⟩, rfl⟩, rfl⟩, rfl⟩ := h
  exact ⟨b2, d2, b3, d3, rfl, h0, h1, h2, h3⟩
theorem api_TExit_elem {S : Nat → Prop} {w : World} {a : Option Addr} {xs : List Api.TExit} (h : Arr S w a xs) {k : Nat} {x : Api.TExit} (hk : xs[k]? = some x) :
    ∃ (b off : Nat) (a2 : Option Addr) (c2 : Nat) (a3 : Option Addr) (c3 : Nat), a = some ⟨b, off, none⟩ ∧ S b ∧ w.cell? ⟨b, off + k * 4, none⟩ = some (.int .i64 x.At) ∧ w.cell? ⟨b, off + k * 4 + 1, none⟩ = some (.int .i64 x.Steps) ∧ w.cell? ⟨b, off + k * 4 + 2, none⟩ = some (.slice a2 x.Sets.length c2) ∧ w.cell? ⟨b, off + k * 4 + 3, none⟩ = some (.slice a3 x.Makes.length c3) ∧ I64 x.At ∧ I64 x.Steps ∧ (x.Sets.length ≤ c2 ∧ (a2 = none → c2 = 0) ∧ Arr S w a2 x.Sets) ∧ (x.Makes.length ≤ c3 ∧ (a3 = none → c3 = 0) ∧ Arr S w a3 x.Makes) := by
  obtain ⟨b, off, cs, ha, hb, hc, hj⟩ := h.at hk
  obtain ⟨a2, c2, a3, c3, rfl, g0, g1, g2, g3⟩ := api_TExit_cells_eq hc
  exact ⟨b, off, a2, c2, a3, c3, ha, hb, by have := hj 0 (by show 0 < 4; omega); simpa [api_TExit_sz] using this, by have := hj 1 (by show 1 < 4; omega); simpa [api_TExit_sz] using this, by have := hj 2 (by show 2 < 4; omega); simpa [api_TExit_sz] using this, by have := hj 3 (by show 3 < 4; omega); simpa [api_TExit_sz] using this, g0, g1, g2, g3⟩

structure Api.TTrace where
  Fn : Int
  At : Int
  Loop : Int
  Ins : (List Api.TIns)
  Exits : (List Api.TExit)
  Turn : Api.TExit
  Back : Api.TExit
  deriving Inhabited, DecidableEq
instance : Rep Api.TTrace := Rep.via (β := Int × Int × Int × (List Api.TIns) × (List Api.TExit) × Api.TExit × Api.TExit) fun x => (x.Fn, x.At, x.Loop, x.Ins, x.Exits, x.Turn, x.Back)
theorem api_TTrace_sz : Rep.sz Api.TTrace = 13 := rfl
theorem api_TTrace_cells_eq {S : Nat → Prop} {w : World} {cs : List Value} {x : Api.TTrace} (h : Rep.cells S w cs x) : ∃ (a3 : Option Addr) (c3 : Nat) (a4 : Option Addr) (c4 : Nat) (a7 : Option Addr) (c7 : Nat) (a8 : Option Addr) (c8 : Nat) (a11 : Option Addr) (c11 : Nat) (a12 : Option Addr) (c12 : Nat), cs = [.int .i64 x.Fn, .int .i64 x.At, .int .i64 x.Loop, .slice a3 x.Ins.length c3, .slice a4 x.Exits.length c4, .int .i64 x.Turn.At, .int .i64 x.Turn.Steps, .slice a7 x.Turn.Sets.length c7, .slice a8 x.Turn.Makes.length c8, .int .i64 x.Back.At, .int .i64 x.Back.Steps, .slice a11 x.Back.Sets.length c11, .slice a12 x.Back.Makes.length c12] ∧ I64 x.Fn ∧ I64 x.At ∧ I64 x.Loop ∧ (x.Ins.length ≤ c3 ∧ (a3 = none → c3 = 0) ∧ Arr S w a3 x.Ins) ∧ (x.Exits.length ≤ c4 ∧ (a4 = none → c4 = 0) ∧ Arr S w a4 x.Exits) ∧ I64 x.Turn.At ∧ I64 x.Turn.Steps ∧ (x.Turn.Sets.length ≤ c7 ∧ (a7 = none → c7 = 0) ∧ Arr S w a7 x.Turn.Sets) ∧ (x.Turn.Makes.length ≤ c8 ∧ (a8 = none → c8 = 0) ∧ Arr S w a8 x.Turn.Makes) ∧ I64 x.Back.At ∧ I64 x.Back.Steps ∧ (x.Back.Sets.length ≤ c11 ∧ (a11 = none → c11 = 0) ∧ Arr S w a11 x.Back.Sets) ∧ (x.Back.Makes.length ≤ c12 ∧ (a12 = none → c12 = 0) ∧ Arr S w a12 x.Back.Makes) := by
  obtain ⟨_, _, ⟨rfl, h0⟩, ⟨_, _, ⟨rfl, h1⟩, ⟨_, _, ⟨rfl, h2⟩, ⟨_, _, ⟨b3, d3, rfl, h3⟩, ⟨_, _, ⟨b4, d4, rfl, h4⟩, ⟨_, _, ⟨_, _, ⟨rfl, h5⟩, ⟨_, _, ⟨rfl, h6⟩, ⟨_, _, ⟨b7, d7, rfl, h7⟩, ⟨b8, d8, rfl, h8⟩, rfl⟩, rfl⟩, rfl⟩, ⟨_, _, ⟨rfl, h9⟩, ⟨_, _, ⟨rfl, h10⟩, ⟨_, _, ⟨b11, d11, rfl, h11⟩, ⟨b12, d12, rfl, h12⟩, rfl⟩, rfl⟩, rfl⟩, rfl⟩, rfl⟩, rfl⟩, rfl⟩, rfl⟩, rfl⟩ := h
  exact ⟨b3, d3, b4, d4, b7, d7, b8, d8, b11, d11, b12, d12, rfl, h0, h1, h2, h3, h4, h5, h6, h7, h8, h9, h10, h11, h12⟩
theorem api_TTrace_elem {S : Nat → Prop} {w : World} {a : Option Addr} {xs : List Api.TTrace} (h : Arr S w a xs) {k : Nat} {x : Api.TTrace} (hk : xs[k]? = some x) :
    ∃ (b off : Nat) (a3 : Option Addr) (c3 : Nat) (a4 : Option Addr) (c4 : Nat) (a7 : Option Addr) (c7 : Nat) (a8 : Option Addr) (c8 : Nat) (a11 : Option Addr) (c11 : Nat) (a12 : Option Addr) (c12 : Nat), a = some ⟨b, off, none⟩ ∧ S b ∧ w.cell? ⟨b, off + k * 13, none⟩ = some (.int .i64 x.Fn) ∧ w.cell? ⟨b, off + k * 13 + 1, none⟩ = some (.int .i64 x.At) ∧ w.cell? ⟨b, off + k * 13 + 2, none⟩ = some (.int .i64 x.Loop) ∧ w.cell? ⟨b, off + k * 13 + 3, none⟩ = some (.slice a3 x.Ins.length c3) ∧ w.cell? ⟨b, off + k * 13 + 4, none⟩ = some (.slice a4 x.Exits.length c4) ∧ w.cell? ⟨b, off + k * 13 + 5, none⟩ = some (.int .i64 x.Turn.At) ∧ w.cell? ⟨b, off + k * 13 + 6, none⟩ = some (.int .i64 x.Turn.Steps) ∧ w.cell? ⟨b, off + k * 13 + 7, none⟩ = some (.slice a7 x.Turn.Sets.length c7) ∧ w.cell? ⟨b, off + k * 13 + 8, none⟩ = some (.slice a8 x.Turn.Makes.length c8) ∧ w.cell? ⟨b, off + k * 13 + 9, none⟩ = some (.int .i64 x.Back.At) ∧ w.cell? ⟨b, off + k * 13 + 10, none⟩ = some (.int .i64 x.Back.Steps) ∧ w.cell? ⟨b, off + k * 13 + 11, none⟩ = some (.slice a11 x.Back.Sets.length c11) ∧ w.cell? ⟨b, off + k * 13 + 12, none⟩ = some (.slice a12 x.Back.Makes.length c12) ∧ I64 x.Fn ∧ I64 x.At ∧ I64 x.Loop ∧ (x.Ins.length ≤ c3 ∧ (a3 = none → c3 = 0) ∧ Arr S w a3 x.Ins) ∧ (x.Exits.length ≤ c4 ∧ (a4 = none → c4 = 0) ∧ Arr S w a4 x.Exits) ∧ I64 x.Turn.At ∧ I64 x.Turn.Steps ∧ (x.Turn.Sets.length ≤ c7 ∧ (a7 = none → c7 = 0) ∧ Arr S w a7 x.Turn.Sets) ∧ (x.Turn.Makes.length ≤ c8 ∧ (a8 = none → c8 = 0) ∧ Arr S w a8 x.Turn.Makes) ∧ I64 x.Back.At ∧ I64 x.Back.Steps ∧ (x.Back.Sets.length ≤ c11 ∧ (a11 = none → c11 = 0) ∧ Arr S w a11 x.Back.Sets) ∧ (x.Back.Makes.length ≤ c12 ∧ (a12 = none → c12 = 0) ∧ Arr S w a12 x.Back.Makes) := by
  obtain ⟨b, off, cs, ha, hb, hc, hj⟩ := h.at hk
  obtain ⟨a3, c3, a4, c4, a7, c7, a8, c8, a11, c11, a12, c12, rfl, g0, g1, g2, g3, g4, g5, g6, g7, g8, g9, g10, g11, g12⟩ := api_TTrace_cells_eq hc
  exact ⟨b, off, a3, c3, a4, c4, a7, c7, a8, c8, a11, c11, a12, c12, ha, hb, by have := hj 0 (by show 0 < 13; omega); simpa [api_TTrace_sz] using this, by have := hj 1 (by show 1 < 13; omega); simpa [api_TTrace_sz] using this, by have := hj 2 (by show 2 < 13; omega); simpa [api_TTrace_sz] using this, by have := hj 3 (by show 3 < 13; omega); simpa [api_TTrace_sz] using this, by have := hj 4 (by show 4 < 13; omega); simpa [api_TTrace_sz] using this, by have := hj 5 (by show 5 < 13; omega); simpa [api_TTrace_sz] using this, by have := hj 6 (by show 6 < 13; omega); simpa [api_TTrace_sz] using this, by have := hj 7 (by show 7 < 13; omega); simpa [api_TTrace_sz] using this, by have := hj 8 (by show 8 < 13; omega); simpa [api_TTrace_sz] using this, by have := hj 9 (by show 9 < 13; omega); simpa [api_TTrace_sz] using this, by have := hj 10 (by show 10 < 13; omega); simpa [api_TTrace_sz] using this, by have := hj 11 (by show 11 < 13; omega); simpa [api_TTrace_sz] using this, by have := hj 12 (by show 12 < 13; omega); simpa [api_TTrace_sz] using this, g0, g1, g2, g3, g4, g5, g6, g7, g8, g9, g10, g11, g12⟩

structure Api.DWait where
  Thread : Int
  For : Int
  Lock : Int
  deriving Inhabited, DecidableEq
instance : Rep Api.DWait := Rep.via (β := Int × Int × Int) fun x => (x.Thread, x.For, x.Lock)
theorem api_DWait_sz : Rep.sz Api.DWait = 3 := rfl
theorem api_DWait_cells_eq {S : Nat → Prop} {w : World} {cs : List Value} {x : Api.DWait} (h : Rep.cells S w cs x) : cs = [.int .i64 x.Thread, .int .i64 x.For, .int .i64 x.Lock] ∧ I64 x.Thread ∧ I64 x.For ∧ I64 x.Lock := by
  obtain ⟨_, _, ⟨rfl, h0⟩, ⟨_, _, ⟨rfl, h1⟩, ⟨rfl, h2⟩, rfl⟩, rfl⟩ := h
  exact ⟨rfl, h0, h1, h2⟩
theorem api_DWait_cells_mk {S : Nat → Prop} {w : World} {x : Api.DWait} (h0 : I64 x.Thread) (h1 : I64 x.For) (h2 : I64 x.Lock) : Rep.cells S w [.int .i64 x.Thread, .int .i64 x.For, .int .i64 x.Lock] x := by
  exact ⟨_, _, ⟨rfl, h0⟩, ⟨_, _, ⟨rfl, h1⟩, ⟨rfl, h2⟩, rfl⟩, rfl⟩
theorem api_DWait_elem {S : Nat → Prop} {w : World} {a : Option Addr} {xs : List Api.DWait} (h : Arr S w a xs) {k : Nat} {x : Api.DWait} (hk : xs[k]? = some x) :
    ∃ (b off : Nat), a = some ⟨b, off, none⟩ ∧ S b ∧ w.cell? ⟨b, off + k * 3, none⟩ = some (.int .i64 x.Thread) ∧ w.cell? ⟨b, off + k * 3 + 1, none⟩ = some (.int .i64 x.For) ∧ w.cell? ⟨b, off + k * 3 + 2, none⟩ = some (.int .i64 x.Lock) ∧ I64 x.Thread ∧ I64 x.For ∧ I64 x.Lock := by
  obtain ⟨b, off, cs, ha, hb, hc, hj⟩ := h.at hk
  obtain ⟨rfl, g0, g1, g2⟩ := api_DWait_cells_eq hc
  exact ⟨b, off, ha, hb, by have := hj 0 (by show 0 < 3; omega); simpa [api_DWait_sz] using this, by have := hj 1 (by show 1 < 3; omega); simpa [api_DWait_sz] using this, by have := hj 2 (by show 2 < 3; omega); simpa [api_DWait_sz] using this, g0, g1, g2⟩

structure Api.DPair where
  I : Int
  J : Int
  deriving Inhabited, DecidableEq
instance : Rep Api.DPair := Rep.via (β := Int × Int) fun x => (x.I, x.J)
theorem api_DPair_sz : Rep.sz Api.DPair = 2 := rfl
theorem api_DPair_cells_eq {S : Nat → Prop} {w : World} {cs : List Value} {x : Api.DPair} (h : Rep.cells S w cs x) : cs = [.int .i64 x.I, .int .i64 x.J] ∧ I64 x.I ∧ I64 x.J := by
  obtain ⟨_, _, ⟨rfl, h0⟩, ⟨rfl, h1⟩, rfl⟩ := h
  exact ⟨rfl, h0, h1⟩
theorem api_DPair_cells_mk {S : Nat → Prop} {w : World} {x : Api.DPair} (h0 : I64 x.I) (h1 : I64 x.J) : Rep.cells S w [.int .i64 x.I, .int .i64 x.J] x := by
  exact ⟨_, _, ⟨rfl, h0⟩, ⟨rfl, h1⟩, rfl⟩
theorem api_DPair_elem {S : Nat → Prop} {w : World} {a : Option Addr} {xs : List Api.DPair} (h : Arr S w a xs) {k : Nat} {x : Api.DPair} (hk : xs[k]? = some x) :
    ∃ (b off : Nat), a = some ⟨b, off, none⟩ ∧ S b ∧ w.cell? ⟨b, off + k * 2, none⟩ = some (.int .i64 x.I) ∧ w.cell? ⟨b, off + k * 2 + 1, none⟩ = some (.int .i64 x.J) ∧ I64 x.I ∧ I64 x.J := by
  obtain ⟨b, off, cs, ha, hb, hc, hj⟩ := h.at hk
  obtain ⟨rfl, g0, g1⟩ := api_DPair_cells_eq hc
  exact ⟨b, off, ha, hb, by have := hj 0 (by show 0 < 2; omega); simpa [api_DPair_sz] using this, by have := hj 1 (by show 1 < 2; omega); simpa [api_DPair_sz] using this, g0, g1⟩

structure Api.DDep where
  Uses : (List Int)
  deriving Inhabited, DecidableEq
instance : Rep Api.DDep := Rep.via (β := (List Int)) fun x => x.Uses
theorem api_DDep_sz : Rep.sz Api.DDep = 1 := rfl
theorem api_DDep_cells_eq {S : Nat → Prop} {w : World} {cs : List Value} {x : Api.DDep} (h : Rep.cells S w cs x) : ∃ (a0 : Option Addr) (c0 : Nat), cs = [.slice a0 x.Uses.length c0] ∧ (x.Uses.length ≤ c0 ∧ (a0 = none → c0 = 0) ∧ Arr S w a0 x.Uses) := by
  obtain ⟨b0, d0, rfl, h0⟩ := h
  exact ⟨b0, d0, rfl, h0⟩
theorem api_DDep_elem {S : Nat → Prop} {w : World} {a : Option Addr} {xs : List Api.DDep} (h : Arr S w a xs) {k : Nat} {x : Api.DDep} (hk : xs[k]? = some x) :
    ∃ (b off : Nat) (a0 : Option Addr) (c0 : Nat), a = some ⟨b, off, none⟩ ∧ S b ∧ w.cell? ⟨b, off + k, none⟩ = some (.slice a0 x.Uses.length c0) ∧ (x.Uses.length ≤ c0 ∧ (a0 = none → c0 = 0) ∧ Arr S w a0 x.Uses) := by
  obtain ⟨b, off, cs, ha, hb, hc, hj⟩ := h.at hk
  obtain ⟨a0, c0, rfl, g0⟩ := api_DDep_cells_eq hc
  exact ⟨b, off, a0, c0, ha, hb, by have := hj 0 (by show 0 < 1; omega); simpa [api_DDep_sz] using this, g0⟩

structure Api.DLet where
  To : Int
  Op : Int
  A : Int
  B : Int
  deriving Inhabited, DecidableEq
instance : Rep Api.DLet := Rep.via (β := Int × Int × Int × Int) fun x => (x.To, x.Op, x.A, x.B)
theorem api_DLet_sz : Rep.sz Api.DLet = 4 := rfl
theorem api_DLet_cells_eq {S : Nat → Prop} {w : World} {cs : List Value} {x : Api.DLet} (h : Rep.cells S w cs x) : cs = [.int .i64 x.To, .int .i64 x.Op, .int .i64 x.A, .int .i64 x.B] ∧ I64 x.To ∧ I64 x.Op ∧ I64 x.A ∧ I64 x.B := by
  obtain ⟨_, _, ⟨rfl, h0⟩, ⟨_, _, ⟨rfl, h1⟩, ⟨_, _, ⟨rfl, h2⟩, ⟨rfl, h3⟩, rfl⟩, rfl⟩, rfl⟩ := h
  exact ⟨rfl, h0, h1, h2, h3⟩
theorem api_DLet_cells_mk {S : Nat → Prop} {w : World} {x : Api.DLet} (h0 : I64 x.To) (h1 : I64 x.Op) (h2 : I64 x.A) (h3 : I64 x.B) : Rep.cells S w [.int .i64 x.To, .int .i64 x.Op, .int .i64 x.A, .int .i64 x.B] x := by
  exact ⟨_, _, ⟨rfl, h0⟩, ⟨_, _, ⟨rfl, h1⟩, ⟨_, _, ⟨rfl, h2⟩, ⟨rfl, h3⟩, rfl⟩, rfl⟩, rfl⟩
theorem api_DLet_elem {S : Nat → Prop} {w : World} {a : Option Addr} {xs : List Api.DLet} (h : Arr S w a xs) {k : Nat} {x : Api.DLet} (hk : xs[k]? = some x) :
    ∃ (b off : Nat), a = some ⟨b, off, none⟩ ∧ S b ∧ w.cell? ⟨b, off + k * 4, none⟩ = some (.int .i64 x.To) ∧ w.cell? ⟨b, off + k * 4 + 1, none⟩ = some (.int .i64 x.Op) ∧ w.cell? ⟨b, off + k * 4 + 2, none⟩ = some (.int .i64 x.A) ∧ w.cell? ⟨b, off + k * 4 + 3, none⟩ = some (.int .i64 x.B) ∧ I64 x.To ∧ I64 x.Op ∧ I64 x.A ∧ I64 x.B := by
  obtain ⟨b, off, cs, ha, hb, hc, hj⟩ := h.at hk
  obtain ⟨rfl, g0, g1, g2, g3⟩ := api_DLet_cells_eq hc
  exact ⟨b, off, ha, hb, by have := hj 0 (by show 0 < 4; omega); simpa [api_DLet_sz] using this, by have := hj 1 (by show 1 < 4; omega); simpa [api_DLet_sz] using this, by have := hj 2 (by show 2 < 4; omega); simpa [api_DLet_sz] using this, by have := hj 3 (by show 3 < 4; omega); simpa [api_DLet_sz] using this, g0, g1, g2, g3⟩

structure Api.DRun where
  Thread : Int
  Many : Int
  deriving Inhabited, DecidableEq
instance : Rep Api.DRun := Rep.via (β := Int × Int) fun x => (x.Thread, x.Many)
theorem api_DRun_sz : Rep.sz Api.DRun = 2 := rfl
theorem api_DRun_cells_eq {S : Nat → Prop} {w : World} {cs : List Value} {x : Api.DRun} (h : Rep.cells S w cs x) : cs = [.int .i64 x.Thread, .int .i64 x.Many] ∧ I64 x.Thread ∧ I64 x.Many := by
  obtain ⟨_, _, ⟨rfl, h0⟩, ⟨rfl, h1⟩, rfl⟩ := h
  exact ⟨rfl, h0, h1⟩
theorem api_DRun_cells_mk {S : Nat → Prop} {w : World} {x : Api.DRun} (h0 : I64 x.Thread) (h1 : I64 x.Many) : Rep.cells S w [.int .i64 x.Thread, .int .i64 x.Many] x := by
  exact ⟨_, _, ⟨rfl, h0⟩, ⟨rfl, h1⟩, rfl⟩
theorem api_DRun_elem {S : Nat → Prop} {w : World} {a : Option Addr} {xs : List Api.DRun} (h : Arr S w a xs) {k : Nat} {x : Api.DRun} (hk : xs[k]? = some x) :
    ∃ (b off : Nat), a = some ⟨b, off, none⟩ ∧ S b ∧ w.cell? ⟨b, off + k * 2, none⟩ = some (.int .i64 x.Thread) ∧ w.cell? ⟨b, off + k * 2 + 1, none⟩ = some (.int .i64 x.Many) ∧ I64 x.Thread ∧ I64 x.Many := by
  obtain ⟨b, off, cs, ha, hb, hc, hj⟩ := h.at hk
  obtain ⟨rfl, g0, g1⟩ := api_DRun_cells_eq hc
  exact ⟨b, off, ha, hb, by have := hj 0 (by show 0 < 2; omega); simpa [api_DRun_sz] using this, by have := hj 1 (by show 1 < 2; omega); simpa [api_DRun_sz] using this, g0, g1⟩

end Go.Bk
namespace Go.Proofs.Ytimlhjjdaggiiaa
open Go.Bk
theorem Try.opens2 : Opens Try.prog 2 Int := Opens.int Try.underlying2 (by kernel_rfl)
theorem Try.opens3 : Opens Try.prog 3 Int := Opens.int Try.underlying3 (by kernel_rfl)
theorem Try.opens4 : Opens Try.prog 4 Bool := Opens.bool Try.underlying4 (by kernel_rfl)
theorem Try.opens5 : Opens Try.prog 5 UInt8 := Opens.byte Try.underlying5 (by kernel_rfl)
theorem Try.opens6 : Opens Try.prog 6 UInt8 := Opens.byte Try.underlying6 (by kernel_rfl)
theorem Try.opens9 : Opens Try.prog 9 ByteArray := Opens.string Try.underlying9 (by kernel_rfl)
theorem Try.opens10 : Opens Try.prog 10 ByteArray := Opens.string Try.underlying10 (by kernel_rfl)
theorem Try.opens11 : Opens Try.prog 11 ByteArray := Opens.string Try.underlying11 (by kernel_rfl)
theorem Try.opens22 : Opens Try.prog 22 (List Int) := Opens.slice Try.underlying22 (by kernel_rfl) (by decide) Try.opens3
theorem Try.opens122 : Opens Try.prog 122 Api.DPatch := Opens.via _ (fun ⟨y0, y1⟩ => ⟨⟨y0, y1⟩, rfl⟩) (Opens.struct Try.underlying122 (by kernel_rfl) (OpensAt.cons 0 1 Try.opens3 (OpensAt.last 1 Try.opens3) rfl) rfl)
theorem Try.opens23 : Opens Try.prog 23 (List Api.DPatch) := Opens.slice Try.underlying23 (by kernel_rfl) (by decide) Try.opens122
theorem Try.opens24 : Opens Try.prog 24 Int := Opens.int Try.underlying24 (by kernel_rfl)
theorem Try.opens48 : Opens Try.prog 48 Api.Val := Opens.via _ (fun ⟨y0, y1⟩ => ⟨⟨y0, y1⟩, rfl⟩) (Opens.struct Try.underlying48 (by kernel_rfl) (OpensAt.cons 0 1 Try.opens3 (OpensAt.last 1 Try.opens3) rfl) rfl)
theorem Try.opens34 : Opens Try.prog 34 (List Api.Val) := Opens.slice Try.underlying34 (by kernel_rfl) (by decide) Try.opens48
theorem Try.opens212 : Opens Try.prog 212 Api.Try := Opens.via _ (fun ⟨y0, y1⟩ => ⟨⟨y0, y1⟩, rfl⟩) (Opens.struct Try.underlying212 (by kernel_rfl) (OpensAt.cons 0 1 Try.opens3 (OpensAt.last 1 Try.opens3) rfl) rfl)
theorem Try.opens205 : Opens Try.prog 205 (List Api.Try) := Opens.slice Try.underlying205 (by kernel_rfl) (by decide) Try.opens212
theorem Try.opens207 : Opens Try.prog 207 Api.Frame := Opens.via _ (fun ⟨y0, y1, y2, y3, y4, y5, y6⟩ => ⟨⟨y0, y1, y2, y3, y4, y5, y6⟩, rfl⟩) (Opens.struct Try.underlying207 (by kernel_rfl) (OpensAt.cons 0 1 Try.opens3 (OpensAt.cons 1 2 Try.opens3 (OpensAt.cons 2 3 Try.opens3 (OpensAt.cons 3 4 Try.opens3 (OpensAt.cons 4 6 Try.opens48 (OpensAt.cons 6 7 Try.opens34 (OpensAt.last 7 Try.opens205) rfl) rfl) rfl) rfl) rfl) rfl) rfl)
theorem Try.opens128 : Opens Try.prog 128 (List Api.Frame) := Opens.slice Try.underlying128 (by kernel_rfl) (by decide) Try.opens207
theorem Try.opens130 : Opens Try.prog 130 Api.Cell := Opens.via _ (fun ⟨y0, y1, y2, y3⟩ => ⟨⟨y0, y1, y2, y3⟩, rfl⟩) (Opens.struct Try.underlying130 (by kernel_rfl) (OpensAt.cons 0 1 Try.opens3 (OpensAt.cons 1 2 Try.opens3 (OpensAt.cons 2 3 Try.opens34 (OpensAt.last 3 Try.opens128) rfl) rfl) rfl) rfl)
theorem Try.opens29 : Opens Try.prog 29 (List Api.Cell) := Opens.slice Try.underlying29 (by kernel_rfl) (by decide) Try.opens130
theorem Try.opens134 : Opens Try.prog 134 Api.Shape := Opens.via _ (fun ⟨y0, y1⟩ => ⟨⟨y0, y1⟩, rfl⟩) (Opens.struct Try.underlying134 (by kernel_rfl) (OpensAt.cons 0 1 Try.opens3 (OpensAt.last 1 Try.opens3) rfl) rfl)
theorem Try.opens30 : Opens Try.prog 30 (List Api.Shape) := Opens.slice Try.underlying30 (by kernel_rfl) (by decide) Try.opens134
theorem Try.opens31 : Opens Try.prog 31 (List ByteArray) := Opens.slice Try.underlying31 (by kernel_rfl) (by decide) Try.opens9
theorem Try.opens141 : Opens Try.prog 141 Api.Thread := Opens.via _ (fun ⟨y0, y1, y2, y3⟩ => ⟨⟨y0, y1, y2, y3⟩, rfl⟩) (Opens.struct Try.underlying141 (by kernel_rfl) (OpensAt.cons 0 1 Try.opens128 (OpensAt.cons 1 2 Try.opens3 (OpensAt.cons 2 3 Try.opens3 (OpensAt.last 3 Try.opens48) rfl) rfl) rfl) rfl)
theorem Try.opens32 : Opens Try.prog 32 (List Api.Thread) := Opens.slice Try.underlying32 (by kernel_rfl) (by decide) Try.opens141
theorem Try.opens145 : Opens Try.prog 145 Api.End := Opens.via _ (fun ⟨y0, y1⟩ => ⟨⟨y0, y1⟩, rfl⟩) (Opens.struct Try.underlying145 (by kernel_rfl) (OpensAt.cons 0 1 Try.opens3 (OpensAt.last 1 Try.opens48) rfl) rfl)
theorem Try.opens33 : Opens Try.prog 33 (List Api.End) := Opens.slice Try.underlying33 (by kernel_rfl) (by decide) Try.opens145
theorem Try.opens36 : Opens Try.prog 36 Api.State := Opens.via _ (fun ⟨y0, y1, y2, y3, y4, y5, y6, y7⟩ => ⟨⟨y0, y1, y2, y3, y4, y5, y6, y7⟩, rfl⟩) (Opens.struct Try.underlying36 (by kernel_rfl) (OpensAt.cons 0 1 Try.opens29 (OpensAt.cons 1 2 Try.opens30 (OpensAt.cons 2 3 Try.opens31 (OpensAt.cons 3 4 Try.opens32 (OpensAt.cons 4 5 Try.opens33 (OpensAt.cons 5 6 Try.opens34 (OpensAt.cons 6 7 Try.opens3 (OpensAt.last 7 Try.opens3) rfl) rfl) rfl) rfl) rfl) rfl) rfl) rfl)
theorem Try.opens50 : Opens Try.prog 50 Api.Event := Opens.via _ (fun ⟨y0, y1, y2, y3, y4, y5, y6, y7, y8, y9⟩ => ⟨⟨y0, y1, y2, y3, y4, y5, y6, y7, y8, y9⟩, rfl⟩) (Opens.struct Try.underlying50 (by kernel_rfl) (OpensAt.cons 0 1 Try.opens3 (OpensAt.cons 1 2 Try.opens3 (OpensAt.cons 2 3 Try.opens3 (OpensAt.cons 3 4 Try.opens3 (OpensAt.cons 4 5 Try.opens3 (OpensAt.cons 5 6 Try.opens3 (OpensAt.cons 6 7 Try.opens3 (OpensAt.cons 7 8 Try.opens3 (OpensAt.cons 8 10 Try.opens48 (OpensAt.last 10 Try.opens48) rfl) rfl) rfl) rfl) rfl) rfl) rfl) rfl) rfl) rfl)
theorem Try.opens39 : Opens Try.prog 39 (List Api.Event) := Opens.slice Try.underlying39 (by kernel_rfl) (by decide) Try.opens50
theorem Try.opens43 : Opens Try.prog 43 (List (List Int)) := Opens.slice Try.underlying43 (by kernel_rfl) (by decide) Try.opens22
theorem Try.opens53 : Opens Try.prog 53 (List UInt8) := Opens.slice Try.underlying53 (by kernel_rfl) (by decide) Try.opens5
theorem Try.opens68 : Opens Try.prog 68 Api.DMark := Opens.via _ (fun ⟨y0, y1, y2⟩ => ⟨⟨y0, y1, y2⟩, rfl⟩) (Opens.struct Try.underlying68 (by kernel_rfl) (OpensAt.cons 0 1 Try.opens3 (OpensAt.cons 1 2 Try.opens3 (OpensAt.last 2 Try.opens3) rfl) rfl) rfl)
theorem Try.opens60 : Opens Try.prog 60 (List Api.DMark) := Opens.slice Try.underlying60 (by kernel_rfl) (by decide) Try.opens68
theorem Try.opens161 : Opens Try.prog 161 Api.TIns := Opens.via _ (fun ⟨y0, y1, y2, y3, y4, y5, y6⟩ => ⟨⟨y0, y1, y2, y3, y4, y5, y6⟩, rfl⟩) (Opens.struct Try.underlying161 (by kernel_rfl) (OpensAt.cons 0 1 Try.opens3 (OpensAt.cons 1 2 Try.opens3 (OpensAt.cons 2 3 Try.opens3 (OpensAt.cons 3 4 Try.opens3 (OpensAt.cons 4 5 Try.opens3 (OpensAt.cons 5 6 Try.opens3 (OpensAt.last 6 Try.opens48) rfl) rfl) rfl) rfl) rfl) rfl) rfl)
theorem Try.opens71 : Opens Try.prog 71 (List Api.TIns) := Opens.slice Try.underlying71 (by kernel_rfl) (by decide) Try.opens161
theorem Try.opens261 : Opens Try.prog 261 Api.TSet := Opens.via _ (fun ⟨y0, y1⟩ => ⟨⟨y0, y1⟩, rfl⟩) (Opens.struct Try.underlying261 (by kernel_rfl) (OpensAt.cons 0 1 Try.opens3 (OpensAt.last 1 Try.opens3) rfl) rfl)
theorem Try.opens73 : Opens Try.prog 73 (List Api.TSet) := Opens.slice Try.underlying73 (by kernel_rfl) (by decide) Try.opens261
theorem Try.opens263 : Opens Try.prog 263 Api.TMake := Opens.via _ (fun ⟨y0, y1, y2, y3⟩ => ⟨⟨y0, y1, y2, y3⟩, rfl⟩) (Opens.struct Try.underlying263 (by kernel_rfl) (OpensAt.cons 0 1 Try.opens3 (OpensAt.cons 1 2 Try.opens3 (OpensAt.cons 2 3 Try.opens3 (OpensAt.last 3 Try.opens22) rfl) rfl) rfl) rfl)
theorem Try.opens74 : Opens Try.prog 74 (List Api.TMake) := Opens.slice Try.underlying74 (by kernel_rfl) (by decide) Try.opens263
theorem Try.opens76 : Opens Try.prog 76 Api.TExit := Opens.via _ (fun ⟨y0, y1, y2, y3⟩ => ⟨⟨y0, y1, y2, y3⟩, rfl⟩) (Opens.struct Try.underlying76 (by kernel_rfl) (OpensAt.cons 0 1 Try.opens3 (OpensAt.cons 1 2 Try.opens3 (OpensAt.cons 2 3 Try.opens73 (OpensAt.last 3 Try.opens74) rfl) rfl) rfl) rfl)
theorem Try.opens72 : Opens Try.prog 72 (List Api.TExit) := Opens.slice Try.underlying72 (by kernel_rfl) (by decide) Try.opens76
theorem Try.opens78 : Opens Try.prog 78 Api.TTrace := Opens.via _ (fun ⟨y0, y1, y2, y3, y4, y5, y6⟩ => ⟨⟨y0, y1, y2, y3, y4, y5, y6⟩, rfl⟩) (Opens.struct Try.underlying78 (by kernel_rfl) (OpensAt.cons 0 1 Try.opens3 (OpensAt.cons 1 2 Try.opens3 (OpensAt.cons 2 3 Try.opens3 (OpensAt.cons 3 4 Try.opens71 (OpensAt.cons 4 5 Try.opens72 (OpensAt.cons 5 9 Try.opens76 (OpensAt.last 9 Try.opens76) rfl) rfl) rfl) rfl) rfl) rfl) rfl)
theorem Try.opens166 : Opens Try.prog 166 Api.DWait := Opens.via _ (fun ⟨y0, y1, y2⟩ => ⟨⟨y0, y1, y2⟩, rfl⟩) (Opens.struct Try.underlying166 (by kernel_rfl) (OpensAt.cons 0 1 Try.opens3 (OpensAt.cons 1 2 Try.opens3 (OpensAt.last 2 Try.opens3) rfl) rfl) rfl)
theorem Try.opens81 : Opens Try.prog 81 (List Api.DWait) := Opens.slice Try.underlying81 (by kernel_rfl) (by decide) Try.opens166
theorem Try.opens169 : Opens Try.prog 169 Api.DPair := Opens.via _ (fun ⟨y0, y1⟩ => ⟨⟨y0, y1⟩, rfl⟩) (Opens.struct Try.underlying169 (by kernel_rfl) (OpensAt.cons 0 1 Try.opens3 (OpensAt.last 1 Try.opens3) rfl) rfl)
theorem Try.opens82 : Opens Try.prog 82 (List Api.DPair) := Opens.slice Try.underlying82 (by kernel_rfl) (by decide) Try.opens169
theorem Try.opens176 : Opens Try.prog 176 Api.DDep := Opens.via _ (fun y => ⟨⟨y⟩, rfl⟩) (Opens.struct Try.underlying176 (by kernel_rfl) (OpensAt.last 0 Try.opens22) rfl)
theorem Try.opens91 : Opens Try.prog 91 (List Api.DDep) := Opens.slice Try.underlying91 (by kernel_rfl) (by decide) Try.opens176
theorem Try.opens112 : Opens Try.prog 112 Api.DLet := Opens.via _ (fun ⟨y0, y1, y2, y3⟩ => ⟨⟨y0, y1, y2, y3⟩, rfl⟩) (Opens.struct Try.underlying112 (by kernel_rfl) (OpensAt.cons 0 1 Try.opens3 (OpensAt.cons 1 2 Try.opens3 (OpensAt.cons 2 3 Try.opens3 (OpensAt.last 3 Try.opens3) rfl) rfl) rfl) rfl)
theorem Try.opens104 : Opens Try.prog 104 (List Api.DLet) := Opens.slice Try.underlying104 (by kernel_rfl) (by decide) Try.opens112
theorem Try.opens119 : Opens Try.prog 119 Api.DRun := Opens.via _ (fun ⟨y0, y1⟩ => ⟨⟨y0, y1⟩, rfl⟩) (Opens.struct Try.underlying119 (by kernel_rfl) (OpensAt.cons 0 1 Try.opens3 (OpensAt.last 1 Try.opens3) rfl) rfl)
theorem Try.opens114 : Opens Try.prog 114 (List Api.DRun) := Opens.slice Try.underlying114 (by kernel_rfl) (by decide) Try.opens119
theorem Try.opens173 : Opens Try.prog 173 (List Bool) := Opens.slice Try.underlying173 (by kernel_rfl) (by decide) Try.opens4
theorem Try.opens223 : Opens Try.prog 223 (List (List Bool)) := Opens.slice Try.underlying223 (by kernel_rfl) (by decide) Try.opens173
theorem Try.opens252 : Opens Try.prog 252 UInt8 := Opens.byte Try.underlying252 (by kernel_rfl)
theorem Try.opens253 : Opens Try.prog 253 UInt8 := Opens.byte Try.underlying253 (by kernel_rfl)
theorem Try.info3 : (Try.prog.info? 3).map (fun i => (i.zero, i.size, i.bytes)) = some (some (.int .i64 0), 1, 8) := by kernel_rfl
theorem Try.info4 : (Try.prog.info? 4).map (fun i => (i.zero, i.size, i.bytes)) = some (some (.bool false), 1, 1) := by kernel_rfl
theorem Try.info5 : (Try.prog.info? 5).map (fun i => (i.zero, i.size, i.bytes)) = some (some (.int .u8 0), 1, 1) := by kernel_rfl
theorem Try.info9 : (Try.prog.info? 9).map (fun i => (i.zero, i.size, i.bytes)) = some (some (.string .empty), 1, 16) := by kernel_rfl
theorem Try.info22 : (Try.prog.info? 22).map (fun i => (i.zero, i.size, i.bytes)) = some (some (.slice none 0 0), 1, 24) := by kernel_rfl
theorem Try.info48 : (Try.prog.info? 48).map (fun i => (i.zero, i.size, i.bytes)) = some (some (.agg #[.int .i64 0, .int .i64 0]), 2, 16) := by kernel_rfl
theorem Try.info50 : (Try.prog.info? 50).map (fun i => (i.zero, i.size, i.bytes)) = some (some (.agg #[.int .i64 0, .int .i64 0, .int .i64 0, .int .i64 0, .int .i64 0, .int .i64 0, .int .i64 0, .int .i64 0, .int .i64 0, .int .i64 0, .int .i64 0, .int .i64 0]), 12, 96) := by kernel_rfl
theorem Try.info68 : (Try.prog.info? 68).map (fun i => (i.zero, i.size, i.bytes)) = some (some (.agg #[.int .i64 0, .int .i64 0, .int .i64 0]), 3, 24) := by kernel_rfl
theorem Try.info76 : (Try.prog.info? 76).map (fun i => (i.zero, i.size, i.bytes)) = some (some (.agg #[.int .i64 0, .int .i64 0, .slice none 0 0, .slice none 0 0]), 4, 64) := by kernel_rfl
theorem Try.info112 : (Try.prog.info? 112).map (fun i => (i.zero, i.size, i.bytes)) = some (some (.agg #[.int .i64 0, .int .i64 0, .int .i64 0, .int .i64 0]), 4, 32) := by kernel_rfl
theorem Try.info119 : (Try.prog.info? 119).map (fun i => (i.zero, i.size, i.bytes)) = some (some (.agg #[.int .i64 0, .int .i64 0]), 2, 16) := by kernel_rfl
theorem Try.info122 : (Try.prog.info? 122).map (fun i => (i.zero, i.size, i.bytes)) = some (some (.agg #[.int .i64 0, .int .i64 0]), 2, 16) := by kernel_rfl
theorem Try.info130 : (Try.prog.info? 130).map (fun i => (i.zero, i.size, i.bytes)) = some (some (.agg #[.int .i64 0, .int .i64 0, .slice none 0 0, .slice none 0 0]), 4, 64) := by kernel_rfl
theorem Try.info134 : (Try.prog.info? 134).map (fun i => (i.zero, i.size, i.bytes)) = some (some (.agg #[.int .i64 0, .int .i64 0]), 2, 16) := by kernel_rfl
theorem Try.info141 : (Try.prog.info? 141).map (fun i => (i.zero, i.size, i.bytes)) = some (some (.agg #[.slice none 0 0, .int .i64 0, .int .i64 0, .int .i64 0, .int .i64 0]), 5, 56) := by kernel_rfl
theorem Try.info145 : (Try.prog.info? 145).map (fun i => (i.zero, i.size, i.bytes)) = some (some (.agg #[.int .i64 0, .int .i64 0, .int .i64 0]), 3, 24) := by kernel_rfl
theorem Try.info161 : (Try.prog.info? 161).map (fun i => (i.zero, i.size, i.bytes)) = some (some (.agg #[.int .i64 0, .int .i64 0, .int .i64 0, .int .i64 0, .int .i64 0, .int .i64 0, .int .i64 0, .int .i64 0]), 8, 64) := by kernel_rfl
theorem Try.info166 : (Try.prog.info? 166).map (fun i => (i.zero, i.size, i.bytes)) = some (some (.agg #[.int .i64 0, .int .i64 0, .int .i64 0]), 3, 24) := by kernel_rfl
theorem Try.info169 : (Try.prog.info? 169).map (fun i => (i.zero, i.size, i.bytes)) = some (some (.agg #[.int .i64 0, .int .i64 0]), 2, 16) := by kernel_rfl
theorem Try.info173 : (Try.prog.info? 173).map (fun i => (i.zero, i.size, i.bytes)) = some (some (.slice none 0 0), 1, 24) := by kernel_rfl
theorem Try.info176 : (Try.prog.info? 176).map (fun i => (i.zero, i.size, i.bytes)) = some (some (.agg #[.slice none 0 0]), 1, 24) := by kernel_rfl
theorem Try.info207 : (Try.prog.info? 207).map (fun i => (i.zero, i.size, i.bytes)) = some (some (.agg #[.int .i64 0, .int .i64 0, .int .i64 0, .int .i64 0, .int .i64 0, .int .i64 0, .slice none 0 0, .slice none 0 0]), 8, 96) := by kernel_rfl
theorem Try.info212 : (Try.prog.info? 212).map (fun i => (i.zero, i.size, i.bytes)) = some (some (.agg #[.int .i64 0, .int .i64 0]), 2, 16) := by kernel_rfl
theorem Try.info261 : (Try.prog.info? 261).map (fun i => (i.zero, i.size, i.bytes)) = some (some (.agg #[.int .i64 0, .int .i64 0]), 2, 16) := by kernel_rfl
theorem Try.info263 : (Try.prog.info? 263).map (fun i => (i.zero, i.size, i.bytes)) = some (some (.agg #[.int .i64 0, .int .i64 0, .int .i64 0, .slice none 0 0]), 4, 48) := by kernel_rfl
end Go.Proofs.Ytimlhjjdaggiiaa
