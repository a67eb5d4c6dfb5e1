/- MADE BY PROGRAM (gents.py): the types of package api that this seat knows: structures, how they lie in cells, and that what reads as data of the type is one. -/
import Derived.Test.YtekofpigmggbbaaDoorQLib
import Derived.Test.YtekofpigmggbbaaDoorChecked
set_option linter.unusedVariables false
set_option linter.unusedSimpArgs false
namespace Go.Bk
open Go.RowKit

structure Api.Ins where
  Op : Int
  A : Int
  B : Int
  C : Int
  Line : Int
  deriving Inhabited, DecidableEq
instance : Rep Api.Ins := Rep.via (β := Int × Int × Int × Int × Int) fun x => (x.Op, x.A, x.B, x.C, x.Line)
theorem api_Ins_sz : Rep.sz Api.Ins = 5 := rfl
theorem api_Ins_cells_eq {S : Nat → Prop} {w : World} {cs : List Value} {x : Api.Ins} (h : Rep.cells S w cs x) : cs = [.int .i64 x.Op, .int .i64 x.A, .int .i64 x.B, .int .i64 x.C, .int .i64 x.Line] ∧ I64 x.Op ∧ I64 x.A ∧ I64 x.B ∧ I64 x.C ∧ I64 x.Line := by
  obtain ⟨_, _, ⟨rfl, h0⟩, ⟨_, _, ⟨rfl, h1⟩, ⟨_, _, ⟨rfl, h2⟩, ⟨_, _, ⟨rfl, h3⟩, ⟨rfl, h4⟩, rfl⟩, rfl⟩, rfl⟩, rfl⟩ := h
  exact ⟨rfl, h0, h1, h2, h3, h4⟩
theorem api_Ins_elem {S : Nat → Prop} {w : World} {a : Option Addr} {xs : List Api.Ins} (h : Arr S w a xs) {k : Nat} {x : Api.Ins} (hk : xs[k]? = some x) :
    ∃ (b off : Nat), a = some ⟨b, off, none⟩ ∧ S b ∧ w.cell? ⟨b, off + k * 5, none⟩ = some (.int .i64 x.Op) ∧ w.cell? ⟨b, off + k * 5 + 1, none⟩ = some (.int .i64 x.A) ∧ w.cell? ⟨b, off + k * 5 + 2, none⟩ = some (.int .i64 x.B) ∧ w.cell? ⟨b, off + k * 5 + 3, none⟩ = some (.int .i64 x.C) ∧ w.cell? ⟨b, off + k * 5 + 4, none⟩ = some (.int .i64 x.Line) ∧ I64 x.Op ∧ I64 x.A ∧ I64 x.B ∧ I64 x.C ∧ I64 x.Line := by
  obtain ⟨b, off, cs, ha, hb, hc, hj⟩ := h.at hk
  obtain ⟨rfl, g0, g1, g2, g3, g4⟩ := api_Ins_cells_eq hc
  exact ⟨b, off, ha, hb, by have := hj 0 (by show 0 < 5; omega); simpa [api_Ins_sz] using this, by have := hj 1 (by show 1 < 5; omega); simpa [api_Ins_sz] using this, by have := hj 2 (by show 2 < 5; omega); simpa [api_Ins_sz] using this, by have := hj 3 (by show 3 < 5; omega); simpa [api_Ins_sz] using this, by have := hj 4 (by show 4 < 5; omega); simpa [api_Ins_sz] using this, g0, g1, g2, g3, g4⟩

structure Api.Fn where
  Params : Int
  Regs : Int
  Gen : Bool
  Caught : (List Int)
  Code : (List Api.Ins)
  deriving Inhabited, DecidableEq
instance : Rep Api.Fn := Rep.via (β := Int × Int × Bool × (List Int) × (List Api.Ins)) fun x => (x.Params, x.Regs, x.Gen, x.Caught, x.Code)
theorem api_Fn_sz : Rep.sz Api.Fn = 5 := rfl
theorem api_Fn_cells_eq {S : Nat → Prop} {w : World} {cs : List Value} {x : Api.Fn} (h : Rep.cells S w cs x) : ∃ (a3 : Option Addr) (c3 : Nat) (a4 : Option Addr) (c4 : Nat), cs = [.int .i64 x.Params, .int .i64 x.Regs, .bool x.Gen, .slice a3 x.Caught.length c3, .slice a4 x.Code.length c4] ∧ I64 x.Params ∧ I64 x.Regs ∧ (x.Caught.length ≤ c3 ∧ (a3 = none → c3 = 0) ∧ Arr S w a3 x.Caught) ∧ (x.Code.length ≤ c4 ∧ (a4 = none → c4 = 0) ∧ Arr S w a4 x.Code) := by
  obtain ⟨_, _, ⟨rfl, h0⟩, ⟨_, _, ⟨rfl, h1⟩, ⟨_, _, rfl, ⟨_, _, ⟨b3, d3, rfl, h3⟩, ⟨b4, d4, rfl, h4⟩, rfl⟩, rfl⟩, rfl⟩, rfl⟩ := h
  exact ⟨b3, d3, b4, d4, rfl, h0, h1, h3, h4⟩
theorem api_Fn_elem {S : Nat → Prop} {w : World} {a : Option Addr} {xs : List Api.Fn} (h : Arr S w a xs) {k : Nat} {x : Api.Fn} (hk : xs[k]? = some x) :
    ∃ (b off : Nat) (a3 : Option Addr) (c3 : Nat) (a4 : Option Addr) (c4 : Nat), a = some ⟨b, off, none⟩ ∧ S b ∧ w.cell? ⟨b, off + k * 5, none⟩ = some (.int .i64 x.Params) ∧ w.cell? ⟨b, off + k * 5 + 1, none⟩ = some (.int .i64 x.Regs) ∧ w.cell? ⟨b, off + k * 5 + 2, none⟩ = some (.bool x.Gen) ∧ w.cell? ⟨b, off + k * 5 + 3, none⟩ = some (.slice a3 x.Caught.length c3) ∧ w.cell? ⟨b, off + k * 5 + 4, none⟩ = some (.slice a4 x.Code.length c4) ∧ I64 x.Params ∧ I64 x.Regs ∧ (x.Caught.length ≤ c3 ∧ (a3 = none → c3 = 0) ∧ Arr S w a3 x.Caught) ∧ (x.Code.length ≤ c4 ∧ (a4 = none → c4 = 0) ∧ Arr S w a4 x.Code) := by
  obtain ⟨b, off, cs, ha, hb, hc, hj⟩ := h.at hk
  obtain ⟨a3, c3, a4, c4, rfl, g0, g1, g2, g3⟩ := api_Fn_cells_eq hc
  exact ⟨b, off, a3, c3, a4, c4, ha, hb, by have := hj 0 (by show 0 < 5; omega); simpa [api_Fn_sz] using this, by have := hj 1 (by show 1 < 5; omega); simpa [api_Fn_sz] using this, by have := hj 2 (by show 2 < 5; omega); simpa [api_Fn_sz] using this, by have := hj 3 (by show 3 < 5; omega); simpa [api_Fn_sz] using this, by have := hj 4 (by show 4 < 5; omega); simpa [api_Fn_sz] using this, g0, g1, g2, g3⟩

structure Api.Val where
  Kind : Int
  N : Int
  deriving Inhabited, DecidableEq
instance : Rep Api.Val := Rep.via (β := Int × Int) fun x => (x.Kind, x.N)
theorem api_Val_sz : Rep.sz Api.Val = 2 := rfl
theorem api_Val_cells_eq {S : Nat → Prop} {w : World} {cs : List Value} {x : Api.Val} (h : Rep.cells S w cs x) : cs = [.int .i64 x.Kind, .int .i64 x.N] ∧ I64 x.Kind ∧ I64 x.N := by
  obtain ⟨_, _, ⟨rfl, h0⟩, ⟨rfl, h1⟩, rfl⟩ := h
  exact ⟨rfl, h0, h1⟩
theorem api_Val_elem {S : Nat → Prop} {w : World} {a : Option Addr} {xs : List Api.Val} (h : Arr S w a xs) {k : Nat} {x : Api.Val} (hk : xs[k]? = some x) :
    ∃ (b off : Nat), a = some ⟨b, off, none⟩ ∧ S b ∧ w.cell? ⟨b, off + k * 2, none⟩ = some (.int .i64 x.Kind) ∧ w.cell? ⟨b, off + k * 2 + 1, none⟩ = some (.int .i64 x.N) ∧ I64 x.Kind ∧ I64 x.N := by
  obtain ⟨b, off, cs, ha, hb, hc, hj⟩ := h.at hk
  obtain ⟨rfl, g0, g1⟩ := api_Val_cells_eq hc
  exact ⟨b, off, ha, hb, by have := hj 0 (by show 0 < 2; omega); simpa [api_Val_sz] using this, by have := hj 1 (by show 1 < 2; omega); simpa [api_Val_sz] using this, g0, g1⟩

structure Api.Prog where
  Fns : (List Api.Fn)
  Consts : (List Api.Val)
  Texts : (List ByteArray)
  deriving Inhabited, DecidableEq
instance : Rep Api.Prog := Rep.via (β := (List Api.Fn) × (List Api.Val) × (List ByteArray)) fun x => (x.Fns, x.Consts, x.Texts)
theorem api_Prog_cells_eq {S : Nat → Prop} {w : World} {cs : List Value} {x : Api.Prog} (h : Rep.cells S w cs x) : ∃ (a0 : Option Addr) (c0 : Nat) (a1 : Option Addr) (c1 : Nat) (a2 : Option Addr) (c2 : Nat), cs = [.slice a0 x.Fns.length c0, .slice a1 x.Consts.length c1, .slice a2 x.Texts.length c2] ∧ (x.Fns.length ≤ c0 ∧ (a0 = none → c0 = 0) ∧ Arr S w a0 x.Fns) ∧ (x.Consts.length ≤ c1 ∧ (a1 = none → c1 = 0) ∧ Arr S w a1 x.Consts) ∧ (x.Texts.length ≤ c2 ∧ (a2 = none → c2 = 0) ∧ Arr S w a2 x.Texts) := by
  obtain ⟨_, _, ⟨b0, d0, rfl, h0⟩, ⟨_, _, ⟨b1, d1, rfl, h1⟩, ⟨b2, d2, rfl, h2⟩, rfl⟩, rfl⟩ := h
  exact ⟨b0, d0, b1, d1, b2, d2, rfl, h0, h1, h2⟩
structure Api.TIns where
  Op : Int
  A : Int
  B : Int
  C : Int
  N : Int
  Exit : Int
  K : Api.Val
  deriving Inhabited, DecidableEq
instance : Rep Api.TIns := Rep.via (β := Int × Int × Int × Int × Int × Int × Api.Val) fun x => (x.Op, x.A, x.B, x.C, x.N, x.Exit, x.K)
theorem api_TIns_sz : Rep.sz Api.TIns = 8 := rfl
theorem api_TIns_cells_eq {S : Nat → Prop} {w : World} {cs : List Value} {x : Api.TIns} (h : Rep.cells S w cs x) : cs = [.int .i64 x.Op, .int .i64 x.A, .int .i64 x.B, .int .i64 x.C, .int .i64 x.N, .int .i64 x.Exit, .int .i64 x.K.Kind, .int .i64 x.K.N] ∧ I64 x.Op ∧ I64 x.A ∧ I64 x.B ∧ I64 x.C ∧ I64 x.N ∧ I64 x.Exit ∧ I64 x.K.Kind ∧ I64 x.K.N := by
  obtain ⟨_, _, ⟨rfl, h0⟩, ⟨_, _, ⟨rfl, h1⟩, ⟨_, _, ⟨rfl, h2⟩, ⟨_, _, ⟨rfl, h3⟩, ⟨_, _, ⟨rfl, h4⟩, ⟨_, _, ⟨rfl, h5⟩, ⟨_, _, ⟨rfl, h6⟩, ⟨rfl, h7⟩, rfl⟩, rfl⟩, rfl⟩, rfl⟩, rfl⟩, rfl⟩, rfl⟩ := h
  exact ⟨rfl, h0, h1, h2, h3, h4, h5, h6, h7⟩
theorem api_TIns_cells_mk {S : Nat → Prop} {w : World} {x : Api.TIns} (h0 : I64 x.Op) (h1 : I64 x.A) (h2 : I64 x.B) (h3 : I64 x.C) (h4 : I64 x.N) (h5 : I64 x.Exit) (h6 : I64 x.K.Kind) (h7 : I64 x.K.N) : Rep.cells S w [.int .i64 x.Op, .int .i64 x.A, .int .i64 x.B, .int .i64 x.C, .int .i64 x.N, .int .i64 x.Exit, .int .i64 x.K.Kind, .int .i64 x.K.N] x := by
  exact ⟨_, _, ⟨rfl, h0⟩, ⟨_, _, ⟨rfl, h1⟩, ⟨_, _, ⟨rfl, h2⟩, ⟨_, _, ⟨rfl, h3⟩, ⟨_, _, ⟨rfl, h4⟩, ⟨_, _, ⟨rfl, h5⟩, ⟨_, _, ⟨rfl, h6⟩, ⟨rfl, h7⟩, rfl⟩, rfl⟩, rfl⟩, rfl⟩, rfl⟩, rfl⟩, rfl⟩
theorem api_TIns_elem {S : Nat → Prop} {w : World} {a : Option Addr} {xs : List Api.TIns} (h : Arr S w a xs) {k : Nat} {x : Api.TIns} (hk : xs[k]? = some x) :
    ∃ (b off : Nat), a = some ⟨b, off, none⟩ ∧ S b ∧ w.cell? ⟨b, off + k * 8, none⟩ = some (.int .i64 x.Op) ∧ w.cell? ⟨b, off + k * 8 + 1, none⟩ = some (.int .i64 x.A) ∧ w.cell? ⟨b, off + k * 8 + 2, none⟩ = some (.int .i64 x.B) ∧ w.cell? ⟨b, off + k * 8 + 3, none⟩ = some (.int .i64 x.C) ∧ w.cell? ⟨b, off + k * 8 + 4, none⟩ = some (.int .i64 x.N) ∧ w.cell? ⟨b, off + k * 8 + 5, none⟩ = some (.int .i64 x.Exit) ∧ w.cell? ⟨b, off + k * 8 + 6, none⟩ = some (.int .i64 x.K.Kind) ∧ w.cell? ⟨b, off + k * 8 + 7, none⟩ = some (.int .i64 x.K.N) ∧ I64 x.Op ∧ I64 x.A ∧ I64 x.B ∧ I64 x.C ∧ I64 x.N ∧ I64 x.Exit ∧ I64 x.K.Kind ∧ I64 x.K.N := by
  obtain ⟨b, off, cs, ha, hb, hc, hj⟩ := h.at hk
  obtain ⟨rfl, g0, g1, g2, g3, g4, g5, g6, g7⟩ := api_TIns_cells_eq hc
  exact ⟨b, off, ha, hb, by have := hj 0 (by show 0 < 8; omega); simpa [api_TIns_sz] using this, by have := hj 1 (by show 1 < 8; omega); simpa [api_TIns_sz] using this, by have := hj 2 (by show 2 < 8; omega); simpa [api_TIns_sz] using this, by have := hj 3 (by show 3 < 8; omega); simpa [api_TIns_sz] using this, by have := hj 4 (by show 4 < 8; omega); simpa [api_TIns_sz] using this, by have := hj 5 (by show 5 < 8; omega); simpa [api_TIns_sz] using this, by have := hj 6 (by show 6 < 8; omega); simpa [api_TIns_sz] using this, by have := hj 7 (by show 7 < 8; omega); simpa [api_TIns_sz] using this, g0, g1, g2, g3, g4, g5, g6, g7⟩

structure Api.TSet where
  Reg : Int
  Val : Int
  deriving Inhabited, DecidableEq
instance : Rep Api.TSet := Rep.via (β := Int × Int) fun x => (x.Reg, x.Val)
theorem api_TSet_sz : Rep.sz Api.TSet = 2 := rfl
theorem api_TSet_cells_eq {S : Nat → Prop} {w : World} {cs : List Value} {x : Api.TSet} (h : Rep.cells S w cs x) : cs = [.int .i64 x.Reg, .int .i64 x.Val] ∧ I64 x.Reg ∧ I64 x.Val := by
  obtain ⟨_, _, ⟨rfl, h0⟩, ⟨rfl, h1⟩, rfl⟩ := h
  exact ⟨rfl, h0, h1⟩
theorem api_TSet_elem {S : Nat → Prop} {w : World} {a : Option Addr} {xs : List Api.TSet} (h : Arr S w a xs) {k : Nat} {x : Api.TSet} (hk : xs[k]? = some x) :
    ∃ (b off : Nat), a = some ⟨b, off, none⟩ ∧ S b ∧ w.cell? ⟨b, off + k * 2, none⟩ = some (.int .i64 x.Reg) ∧ w.cell? ⟨b, off + k * 2 + 1, none⟩ = some (.int .i64 x.Val) ∧ I64 x.Reg ∧ I64 x.Val := by
  obtain ⟨b, off, cs, ha, hb, hc, hj⟩ := h.at hk
  obtain ⟨rfl, g0, g1⟩ := api_TSet_cells_eq hc
  exact ⟨b, off, ha, hb, by have := hj 0 (by show 0 < 2; omega); simpa [api_TSet_sz] using this, by have := hj 1 (by show 1 < 2; omega); simpa [api_TSet_sz] using this, g0, g1⟩

structure Api.TMake where
  Cell : Int
  Kind : Int
  Num : Int
  Vals : (List Int)
  deriving Inhabited, DecidableEq
instance : Rep Api.TMake := Rep.via (β := Int × Int × Int × (List Int)) fun x => (x.Cell, x.Kind, x.Num, x.Vals)
theorem api_TMake_sz : Rep.sz Api.TMake = 4 := rfl
theorem api_TMake_cells_eq {S : Nat → Prop} {w : World} {cs : List Value} {x : Api.TMake} (h : Rep.cells S w cs x) : ∃ (a3 : Option Addr) (c3 : Nat), cs = [.int .i64 x.Cell, .int .i64 x.Kind, .int .i64 x.Num, .slice a3 x.Vals.length c3] ∧ I64 x.Cell ∧ I64 x.Kind ∧ I64 x.Num ∧ (x.Vals.length ≤ c3 ∧ (a3 = none → c3 = 0) ∧ Arr S w a3 x.Vals) := by
  obtain ⟨_, _, ⟨rfl, h0⟩, ⟨_, _, ⟨rfl, h1⟩, ⟨_, _, ⟨rfl, h2⟩, ⟨b3, d3, rfl, h3⟩, rfl⟩, rfl⟩, rfl⟩ := h
  exact ⟨b3, d3, rfl, h0, h1, h2, h3⟩
theorem api_TMake_elem {S : Nat → Prop} {w : World} {a : Option Addr} {xs : List Api.TMake} (h : Arr S w a xs) {k : Nat} {x : Api.TMake} (hk : xs[k]? = some x) :
    ∃ (b off : Nat) (a3 : Option Addr) (c3 : Nat), a = some ⟨b, off, none⟩ ∧ S b ∧ w.cell? ⟨b, off + k * 4, none⟩ = some (.int .i64 x.Cell) ∧ w.cell? ⟨b, off + k * 4 + 1, none⟩ = some (.int .i64 x.Kind) ∧ w.cell? ⟨b, off + k * 4 + 2, none⟩ = some (.int .i64 x.Num) ∧ w.cell? ⟨b, off + k * 4 + 3, none⟩ = some (.slice a3 x.Vals.length c3) ∧ I64 x.Cell ∧ I64 x.Kind ∧ I64 x.Num ∧ (x.Vals.length ≤ c3 ∧ (a3 = none → c3 = 0) ∧ Arr S w a3 x.Vals) := by
  obtain ⟨b, off, cs, ha, hb, hc, hj⟩ := h.at hk
  obtain ⟨a3, c3, rfl, g0, g1, g2, g3⟩ := api_TMake_cells_eq hc
  exact ⟨b, off, a3, c3, ha, hb, by have := hj 0 (by show 0 < 4; omega); simpa [api_TMake_sz] using this, by have := hj 1 (by show 1 < 4; omega); simpa [api_TMake_sz] using this, by have := hj 2 (by show 2 < 4; omega); simpa [api_TMake_sz] using this, by have := hj 3 (by show 3 < 4; omega); simpa [api_TMake_sz] using this, g0, g1, g2, g3⟩

structure Api.TExit where
  At : Int
  Steps : Int
  Sets : (List Api.TSet)
  Makes : (List Api.TMake)
  deriving Inhabited, DecidableEq
instance : Rep Api.TExit := Rep.via (β := Int × Int × (List Api.TSet) × (List Api.TMake)) fun x => (x.At, x.Steps, x.Sets, x.Makes)
theorem api_TExit_sz : Rep.sz Api.TExit = 4 := rfl
theorem api_TExit_cells_eq {S : Nat → Prop} {w : World} {cs : List Value} {x : Api.TExit} (h : Rep.cells S w cs x) : ∃ (a2 : Option Addr) (c2 : Nat) (a3 : Option Addr) (c3 : Nat), cs = [.int .i64 x.At, .int .i64 x.Steps, .slice a2 x.Sets.length c2, .slice a3 x.Makes.length c3] ∧ I64 x.At ∧ I64 x.Steps ∧ (x.Sets.length ≤ c2 ∧ (a2 = none → c2 = 0) ∧ Arr S w a2 x.Sets) ∧ (x.Makes.length ≤ c3 ∧ (a3 = none → c3 = 0) ∧ Arr S w a3 x.Makes) := by
  obtain ⟨_, _, ⟨rfl, h0⟩, ⟨_, _, ⟨rfl, h1⟩, ⟨_, _, ⟨b2, d2, rfl, h2⟩, ⟨b3, d3, rfl, h3⟩, rfl⟩, rfl⟩, rfl⟩ := h
  exact ⟨b2, d2, b3, d3, rfl, h0, h1, h2, h3⟩
structure Api.TTrace where
  Fn : Int
  At : Int
  Loop : Int
  Ins : (List Api.TIns)
  Exits : (List Api.TExit)
  Turn : Api.TExit
  Back : Api.TExit
  deriving Inhabited, DecidableEq
instance : Rep Api.TTrace := Rep.via (β := Int × Int × Int × (List Api.TIns) × (List Api.TExit) × Api.TExit × Api.TExit) fun x => (x.Fn, x.At, x.Loop, x.Ins, x.Exits, x.Turn, x.Back)
theorem api_TTrace_cells_eq {S : Nat → Prop} {w : World} {cs : List Value} {x : Api.TTrace} (h : Rep.cells S w cs x) : ∃ (a3 : Option Addr) (c3 : Nat) (a4 : Option Addr) (c4 : Nat) (a7 : Option Addr) (c7 : Nat) (a8 : Option Addr) (c8 : Nat) (a11 : Option Addr) (c11 : Nat) (a12 : Option Addr) (c12 : Nat), cs = [.int .i64 x.Fn, .int .i64 x.At, .int .i64 x.Loop, .slice a3 x.Ins.length c3, .slice a4 x.Exits.length c4, .int .i64 x.Turn.At, .int .i64 x.Turn.Steps, .slice a7 x.Turn.Sets.length c7, .slice a8 x.Turn.Makes.length c8, .int .i64 x.Back.At, .int .i64 x.Back.Steps, .slice a11 x.Back.Sets.length c11, .slice a12 x.Back.Makes.length c12] ∧ I64 x.Fn ∧ I64 x.At ∧ I64 x.Loop ∧ (x.Ins.length ≤ c3 ∧ (a3 = none → c3 = 0) ∧ Arr S w a3 x.Ins) ∧ (x.Exits.length ≤ c4 ∧ (a4 = none → c4 = 0) ∧ Arr S w a4 x.Exits) ∧ I64 x.Turn.At ∧ I64 x.Turn.Steps ∧ (x.Turn.Sets.length ≤ c7 ∧ (a7 = none → c7 = 0) ∧ Arr S w a7 x.Turn.Sets) ∧ (x.Turn.Makes.length ≤ c8 ∧ (a8 = none → c8 = 0) ∧ Arr S w a8 x.Turn.Makes) ∧ I64 x.Back.At ∧ I64 x.Back.Steps ∧ (x.Back.Sets.length ≤ c11 ∧ (a11 = none → c11 = 0) ∧ Arr S w a11 x.Back.Sets) ∧ (x.Back.Makes.length ≤ c12 ∧ (a12 = none → c12 = 0) ∧ Arr S w a12 x.Back.Makes) := by
  obtain ⟨_, _, ⟨rfl, h0⟩, ⟨_, _, ⟨rfl, h1⟩, ⟨_, _, ⟨rfl, h2⟩, ⟨_, _, ⟨b3, d3, rfl, h3⟩, ⟨_, _, ⟨b4, d4, rfl, h4⟩, ⟨_, _, ⟨_, _, ⟨rfl, h5⟩, ⟨_, _, ⟨rfl, h6⟩, ⟨_, _, ⟨b7, d7, rfl, h7⟩, ⟨b8, d8, rfl, h8⟩, rfl⟩, rfl⟩, rfl⟩, ⟨_, _, ⟨rfl, h9⟩, ⟨_, _, ⟨rfl, h10⟩, ⟨_, _, ⟨b11, d11, rfl, h11⟩, ⟨b12, d12, rfl, h12⟩, rfl⟩, rfl⟩, rfl⟩, rfl⟩, rfl⟩, rfl⟩, rfl⟩, rfl⟩, rfl⟩ := h
  exact ⟨b3, d3, b4, d4, b7, d7, b8, d8, b11, d11, b12, d12, rfl, h0, h1, h2, h3, h4, h5, h6, h7, h8, h9, h10, h11, h12⟩
structure Api.Try where
  Reg : Int
  At : Int
  deriving Inhabited, DecidableEq
instance : Rep Api.Try := Rep.via (β := Int × Int) fun x => (x.Reg, x.At)
theorem api_Try_sz : Rep.sz Api.Try = 2 := rfl
theorem api_Try_cells_eq {S : Nat → Prop} {w : World} {cs : List Value} {x : Api.Try} (h : Rep.cells S w cs x) : cs = [.int .i64 x.Reg, .int .i64 x.At] ∧ I64 x.Reg ∧ I64 x.At := by
  obtain ⟨_, _, ⟨rfl, h0⟩, ⟨rfl, h1⟩, rfl⟩ := h
  exact ⟨rfl, h0, h1⟩
theorem api_Try_cells_mk {S : Nat → Prop} {w : World} {x : Api.Try} (h0 : I64 x.Reg) (h1 : I64 x.At) : Rep.cells S w [.int .i64 x.Reg, .int .i64 x.At] x := by
  exact ⟨_, _, ⟨rfl, h0⟩, ⟨rfl, h1⟩, rfl⟩
theorem api_Try_elem {S : Nat → Prop} {w : World} {a : Option Addr} {xs : List Api.Try} (h : Arr S w a xs) {k : Nat} {x : Api.Try} (hk : xs[k]? = some x) :
    ∃ (b off : Nat), a = some ⟨b, off, none⟩ ∧ S b ∧ w.cell? ⟨b, off + k * 2, none⟩ = some (.int .i64 x.Reg) ∧ w.cell? ⟨b, off + k * 2 + 1, none⟩ = some (.int .i64 x.At) ∧ I64 x.Reg ∧ I64 x.At := by
  obtain ⟨b, off, cs, ha, hb, hc, hj⟩ := h.at hk
  obtain ⟨rfl, g0, g1⟩ := api_Try_cells_eq hc
  exact ⟨b, off, ha, hb, by have := hj 0 (by show 0 < 2; omega); simpa [api_Try_sz] using this, by have := hj 1 (by show 1 < 2; omega); simpa [api_Try_sz] using this, g0, g1⟩

end Go.Bk
namespace Go.Proofs.YtekofpigmggbbaaDoor
open Go.Bk
theorem Tryd.opens3 : Opens Tryd.prog 3 Int := Opens.int Tryd.underlying3 (by kernel_rfl)
theorem Tryd.opens4 : Opens Tryd.prog 4 Bool := Opens.bool Tryd.underlying4 (by kernel_rfl)
theorem Tryd.opens9 : Opens Tryd.prog 9 ByteArray := Opens.string Tryd.underlying9 (by kernel_rfl)
theorem Tryd.opens58 : Opens Tryd.prog 58 (List Int) := Opens.slice Tryd.underlying58 (by kernel_rfl) (by decide) Tryd.opens3
theorem Tryd.opens172 : Opens Tryd.prog 172 Api.Ins := Opens.via _ (fun ⟨y0, y1, y2, y3, y4⟩ => ⟨⟨y0, y1, y2, y3, y4⟩, rfl⟩) (Opens.struct Tryd.underlying172 (by kernel_rfl) (OpensAt.cons 0 1 Tryd.opens3 (OpensAt.cons 1 2 Tryd.opens3 (OpensAt.cons 2 3 Tryd.opens3 (OpensAt.cons 3 4 Tryd.opens3 (OpensAt.last 4 Tryd.opens3) rfl) rfl) rfl) rfl) rfl)
theorem Tryd.opens121 : Opens Tryd.prog 121 (List Api.Ins) := Opens.slice Tryd.underlying121 (by kernel_rfl) (by decide) Tryd.opens172
theorem Tryd.opens123 : Opens Tryd.prog 123 Api.Fn := Opens.via _ (fun ⟨y0, y1, y2, y3, y4⟩ => ⟨⟨y0, y1, y2, y3, y4⟩, rfl⟩) (Opens.struct Tryd.underlying123 (by kernel_rfl) (OpensAt.cons 0 1 Tryd.opens3 (OpensAt.cons 1 2 Tryd.opens3 (OpensAt.cons 2 3 Tryd.opens4 (OpensAt.cons 3 4 Tryd.opens58 (OpensAt.last 4 Tryd.opens121) rfl) rfl) rfl) rfl) rfl)
theorem Tryd.opens22 : Opens Tryd.prog 22 (List Api.Fn) := Opens.slice Tryd.underlying22 (by kernel_rfl) (by decide) Tryd.opens123
theorem Tryd.opens41 : Opens Tryd.prog 41 Api.Val := Opens.via _ (fun ⟨y0, y1⟩ => ⟨⟨y0, y1⟩, rfl⟩) (Opens.struct Tryd.underlying41 (by kernel_rfl) (OpensAt.cons 0 1 Tryd.opens3 (OpensAt.last 1 Tryd.opens3) rfl) rfl)
theorem Tryd.opens23 : Opens Tryd.prog 23 (List Api.Val) := Opens.slice Tryd.underlying23 (by kernel_rfl) (by decide) Tryd.opens41
theorem Tryd.opens24 : Opens Tryd.prog 24 (List ByteArray) := Opens.slice Tryd.underlying24 (by kernel_rfl) (by decide) Tryd.opens9
theorem Tryd.opens26 : Opens Tryd.prog 26 Api.Prog := Opens.via _ (fun ⟨y0, y1, y2⟩ => ⟨⟨y0, y1, y2⟩, rfl⟩) (Opens.struct Tryd.underlying26 (by kernel_rfl) (OpensAt.cons 0 1 Tryd.opens22 (OpensAt.cons 1 2 Tryd.opens23 (OpensAt.last 2 Tryd.opens24) rfl) rfl) rfl)
theorem Tryd.opens43 : Opens Tryd.prog 43 Api.TIns := Opens.via _ (fun ⟨y0, y1, y2, y3, y4, y5, y6⟩ => ⟨⟨y0, y1, y2, y3, y4, y5, y6⟩, rfl⟩) (Opens.struct Tryd.underlying43 (by kernel_rfl) (OpensAt.cons 0 1 Tryd.opens3 (OpensAt.cons 1 2 Tryd.opens3 (OpensAt.cons 2 3 Tryd.opens3 (OpensAt.cons 3 4 Tryd.opens3 (OpensAt.cons 4 5 Tryd.opens3 (OpensAt.cons 5 6 Tryd.opens3 (OpensAt.last 6 Tryd.opens41) rfl) rfl) rfl) rfl) rfl) rfl) rfl)
theorem Tryd.opens27 : Opens Tryd.prog 27 (List Api.TIns) := Opens.slice Tryd.underlying27 (by kernel_rfl) (by decide) Tryd.opens43
theorem Tryd.opens98 : Opens Tryd.prog 98 Api.TSet := Opens.via _ (fun ⟨y0, y1⟩ => ⟨⟨y0, y1⟩, rfl⟩) (Opens.struct Tryd.underlying98 (by kernel_rfl) (OpensAt.cons 0 1 Tryd.opens3 (OpensAt.last 1 Tryd.opens3) rfl) rfl)
theorem Tryd.opens29 : Opens Tryd.prog 29 (List Api.TSet) := Opens.slice Tryd.underlying29 (by kernel_rfl) (by decide) Tryd.opens98
theorem Tryd.opens100 : Opens Tryd.prog 100 Api.TMake := Opens.via _ (fun ⟨y0, y1, y2, y3⟩ => ⟨⟨y0, y1, y2, y3⟩, rfl⟩) (Opens.struct Tryd.underlying100 (by kernel_rfl) (OpensAt.cons 0 1 Tryd.opens3 (OpensAt.cons 1 2 Tryd.opens3 (OpensAt.cons 2 3 Tryd.opens3 (OpensAt.last 3 Tryd.opens58) rfl) rfl) rfl) rfl)
theorem Tryd.opens30 : Opens Tryd.prog 30 (List Api.TMake) := Opens.slice Tryd.underlying30 (by kernel_rfl) (by decide) Tryd.opens100
theorem Tryd.opens32 : Opens Tryd.prog 32 Api.TExit := Opens.via _ (fun ⟨y0, y1, y2, y3⟩ => ⟨⟨y0, y1, y2, y3⟩, rfl⟩) (Opens.struct Tryd.underlying32 (by kernel_rfl) (OpensAt.cons 0 1 Tryd.opens3 (OpensAt.cons 1 2 Tryd.opens3 (OpensAt.cons 2 3 Tryd.opens29 (OpensAt.last 3 Tryd.opens30) rfl) rfl) rfl) rfl)
theorem Tryd.opens28 : Opens Tryd.prog 28 (List Api.TExit) := Opens.slice Tryd.underlying28 (by kernel_rfl) (by decide) Tryd.opens32
theorem Tryd.opens34 : Opens Tryd.prog 34 Api.TTrace := Opens.via _ (fun ⟨y0, y1, y2, y3, y4, y5, y6⟩ => ⟨⟨y0, y1, y2, y3, y4, y5, y6⟩, rfl⟩) (Opens.struct Tryd.underlying34 (by kernel_rfl) (OpensAt.cons 0 1 Tryd.opens3 (OpensAt.cons 1 2 Tryd.opens3 (OpensAt.cons 2 3 Tryd.opens3 (OpensAt.cons 3 4 Tryd.opens27 (OpensAt.cons 4 5 Tryd.opens28 (OpensAt.cons 5 9 Tryd.opens32 (OpensAt.last 9 Tryd.opens32) rfl) rfl) rfl) rfl) rfl) rfl) rfl)
theorem Tryd.info3 : (Tryd.prog.info? 3).map (fun i => (i.zero, i.size, i.bytes)) = some (some (.int .i64 0), 1, 8) := by kernel_rfl
theorem Tryd.info4 : (Tryd.prog.info? 4).map (fun i => (i.zero, i.size, i.bytes)) = some (some (.bool false), 1, 1) := by kernel_rfl
theorem Tryd.info32 : (Tryd.prog.info? 32).map (fun i => (i.zero, i.size, i.bytes)) = some (some (.agg #[.int .i64 0, .int .i64 0, .slice none 0 0, .slice none 0 0]), 4, 64) := by kernel_rfl
theorem Tryd.info43 : (Tryd.prog.info? 43).map (fun i => (i.zero, i.size, i.bytes)) = some (some (.agg #[.int .i64 0, .int .i64 0, .int .i64 0, .int .i64 0, .int .i64 0, .int .i64 0, .int .i64 0, .int .i64 0]), 8, 64) := by kernel_rfl
theorem Tryd.info98 : (Tryd.prog.info? 98).map (fun i => (i.zero, i.size, i.bytes)) = some (some (.agg #[.int .i64 0, .int .i64 0]), 2, 16) := by kernel_rfl
theorem Tryd.info100 : (Tryd.prog.info? 100).map (fun i => (i.zero, i.size, i.bytes)) = some (some (.agg #[.int .i64 0, .int .i64 0, .int .i64 0, .slice none 0 0]), 4, 48) := by kernel_rfl
theorem Tryd.info211 : (Tryd.prog.info? 211).map (fun i => (i.zero, i.size, i.bytes)) = some (some (.slice none 0 0), 1, 24) := by kernel_rfl
theorem Tryd.info214 : (Tryd.prog.info? 214).map (fun i => (i.zero, i.size, i.bytes)) = some (some (.agg #[.int .i64 0, .int .i64 0]), 2, 16) := by kernel_rfl
end Go.Proofs.YtekofpigmggbbaaDoor
