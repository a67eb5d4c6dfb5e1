/- MADE BY PROGRAM (gents.py): the types of package api that this seat knows: structures, how they lie in cells, and that what reads as data of the type is one. -/
import Derived.Test.YtjlnaiiajlahgaaLib
import Derived.Test.YtjlnaiiajlahgaaChecked
set_option linter.unusedVariables false
set_option linter.unusedSimpArgs false
namespace Go.Bk
open Go.RowKit

structure Api.Val where
  Kind : Int
  N : Int
  deriving Inhabited, DecidableEq
instance : Rep Api.Val := Rep.via (β := Int × Int) fun x => (x.Kind, x.N)
theorem api_Val_sz : Rep.sz Api.Val = 2 := rfl
theorem api_Val_cells_eq {S : Nat → Prop} {w : World} {cs : List Value} {x : Api.Val} (h : Rep.cells S w cs x) : cs = [.int .i64 x.Kind, .int .i64 x.N] ∧ I64 x.Kind ∧ I64 x.N := by
  obtain ⟨_, _, ⟨rfl, h0⟩, ⟨rfl, h1⟩, rfl⟩ := h
  exact ⟨rfl, h0, h1⟩
theorem api_Val_cells_mk {S : Nat → Prop} {w : World} {x : Api.Val} (h0 : I64 x.Kind) (h1 : I64 x.N) : Rep.cells S w [.int .i64 x.Kind, .int .i64 x.N] x := by
  exact ⟨_, _, ⟨rfl, h0⟩, ⟨rfl, h1⟩, rfl⟩
theorem api_Val_elem {S : Nat → Prop} {w : World} {a : Option Addr} {xs : List Api.Val} (h : Arr S w a xs) {k : Nat} {x : Api.Val} (hk : xs[k]? = some x) :
    ∃ (b off : Nat), a = some ⟨b, off, none⟩ ∧ S b ∧ w.cell? ⟨b, off + k * 2, none⟩ = some (.int .i64 x.Kind) ∧ w.cell? ⟨b, off + k * 2 + 1, none⟩ = some (.int .i64 x.N) ∧ I64 x.Kind ∧ I64 x.N := by
  obtain ⟨b, off, cs, ha, hb, hc, hj⟩ := h.at hk
  obtain ⟨rfl, g0, g1⟩ := api_Val_cells_eq hc
  exact ⟨b, off, ha, hb, by have := hj 0 (by show 0 < 2; omega); simpa [api_Val_sz] using this, by have := hj 1 (by show 1 < 2; omega); simpa [api_Val_sz] using this, g0, g1⟩

structure Api.Event where
  Kind : Int
  Step : Int
  Thread : Int
  Fn : Int
  At : Int
  Line : Int
  A : Int
  B : Int
  Val : Api.Val
  Old : Api.Val
  deriving Inhabited, DecidableEq
instance : Rep Api.Event := Rep.via (β := Int × Int × Int × Int × Int × Int × Int × Int × Api.Val × Api.Val) fun x => (x.Kind, x.Step, x.Thread, x.Fn, x.At, x.Line, x.A, x.B, x.Val, x.Old)
theorem api_Event_sz : Rep.sz Api.Event = 12 := rfl
theorem api_Event_cells_eq {S : Nat → Prop} {w : World} {cs : List Value} {x : Api.Event} (h : Rep.cells S w cs x) : cs = [.int .i64 x.Kind, .int .i64 x.Step, .int .i64 x.Thread, .int .i64 x.Fn, .int .i64 x.At, .int .i64 x.Line, .int .i64 x.A, .int .i64 x.B, .int .i64 x.Val.Kind, .int .i64 x.Val.N, .int .i64 x.Old.Kind, .int .i64 x.Old.N] ∧ I64 x.Kind ∧ I64 x.Step ∧ I64 x.Thread ∧ I64 x.Fn ∧ I64 x.At ∧ I64 x.Line ∧ I64 x.A ∧ I64 x.B ∧ I64 x.Val.Kind ∧ I64 x.Val.N ∧ I64 x.Old.Kind ∧ I64 x.Old.N := by
  obtain ⟨_, _, ⟨rfl, h0⟩, ⟨_, _, ⟨rfl, h1⟩, ⟨_, _, ⟨rfl, h2⟩, ⟨_, _, ⟨rfl, h3⟩, ⟨_, _, ⟨rfl, h4⟩, ⟨_, _, ⟨rfl, h5⟩, ⟨_, _, ⟨rfl, h6⟩, ⟨_, _, ⟨rfl, h7⟩, ⟨_, _, ⟨_, _, ⟨rfl, h8⟩, ⟨rfl, h9⟩, rfl⟩, ⟨_, _, ⟨rfl, h10⟩, ⟨rfl, h11⟩, rfl⟩, rfl⟩, rfl⟩, rfl⟩, rfl⟩, rfl⟩, rfl⟩, rfl⟩, rfl⟩, rfl⟩ := h
  exact ⟨rfl, h0, h1, h2, h3, h4, h5, h6, h7, h8, h9, h10, h11⟩
theorem api_Event_cells_mk {S : Nat → Prop} {w : World} {x : Api.Event} (h0 : I64 x.Kind) (h1 : I64 x.Step) (h2 : I64 x.Thread) (h3 : I64 x.Fn) (h4 : I64 x.At) (h5 : I64 x.Line) (h6 : I64 x.A) (h7 : I64 x.B) (h8 : I64 x.Val.Kind) (h9 : I64 x.Val.N) (h10 : I64 x.Old.Kind) (h11 : I64 x.Old.N) : Rep.cells S w [.int .i64 x.Kind, .int .i64 x.Step, .int .i64 x.Thread, .int .i64 x.Fn, .int .i64 x.At, .int .i64 x.Line, .int .i64 x.A, .int .i64 x.B, .int .i64 x.Val.Kind, .int .i64 x.Val.N, .int .i64 x.Old.Kind, .int .i64 x.Old.N] x := by
  exact ⟨_, _, ⟨rfl, h0⟩, ⟨_, _, ⟨rfl, h1⟩, ⟨_, _, ⟨rfl, h2⟩, ⟨_, _, ⟨rfl, h3⟩, ⟨_, _, ⟨rfl, h4⟩, ⟨_, _, ⟨rfl, h5⟩, ⟨_, _, ⟨rfl, h6⟩, ⟨_, _, ⟨rfl, h7⟩, ⟨_, _, ⟨_, _, ⟨rfl, h8⟩, ⟨rfl, h9⟩, rfl⟩, ⟨_, _, ⟨rfl, h10⟩, ⟨rfl, h11⟩, rfl⟩, rfl⟩, rfl⟩, rfl⟩, rfl⟩, rfl⟩, rfl⟩, rfl⟩, rfl⟩, rfl⟩
theorem api_Event_elem {S : Nat → Prop} {w : World} {a : Option Addr} {xs : List Api.Event} (h : Arr S w a xs) {k : Nat} {x : Api.Event} (hk : xs[k]? = some x) :
    ∃ (b off : Nat), a = some ⟨b, off, none⟩ ∧ S b ∧ w.cell? ⟨b, off + k * 12, none⟩ = some (.int .i64 x.Kind) ∧ w.cell? ⟨b, off + k * 12 + 1, none⟩ = some (.int .i64 x.Step) ∧ w.cell? ⟨b, off + k * 12 + 2, none⟩ = some (.int .i64 x.Thread) ∧ w.cell? ⟨b, off + k * 12 + 3, none⟩ = some (.int .i64 x.Fn) ∧ w.cell? ⟨b, off + k * 12 + 4, none⟩ = some (.int .i64 x.At) ∧ w.cell? ⟨b, off + k * 12 + 5, none⟩ = some (.int .i64 x.Line) ∧ w.cell? ⟨b, off + k * 12 + 6, none⟩ = some (.int .i64 x.A) ∧ w.cell? ⟨b, off + k * 12 + 7, none⟩ = some (.int .i64 x.B) ∧ w.cell? ⟨b, off + k * 12 + 8, none⟩ = some (.int .i64 x.Val.Kind) ∧ w.cell? ⟨b, off + k * 12 + 9, none⟩ = some (.int .i64 x.Val.N) ∧ w.cell? ⟨b, off + k * 12 + 10, none⟩ = some (.int .i64 x.Old.Kind) ∧ w.cell? ⟨b, off + k * 12 + 11, none⟩ = some (.int .i64 x.Old.N) ∧ I64 x.Kind ∧ I64 x.Step ∧ I64 x.Thread ∧ I64 x.Fn ∧ I64 x.At ∧ I64 x.Line ∧ I64 x.A ∧ I64 x.B ∧ I64 x.Val.Kind ∧ I64 x.Val.N ∧ I64 x.Old.Kind ∧ I64 x.Old.N := by
  obtain ⟨b, off, cs, ha, hb, hc, hj⟩ := h.at hk
  obtain ⟨rfl, g0, g1, g2, g3, g4, g5, g6, g7, g8, g9, g10, g11⟩ := api_Event_cells_eq hc
  exact ⟨b, off, ha, hb, by have := hj 0 (by show 0 < 12; omega); simpa [api_Event_sz] using this, by have := hj 1 (by show 1 < 12; omega); simpa [api_Event_sz] using this, by have := hj 2 (by show 2 < 12; omega); simpa [api_Event_sz] using this, by have := hj 3 (by show 3 < 12; omega); simpa [api_Event_sz] using this, by have := hj 4 (by show 4 < 12; omega); simpa [api_Event_sz] using this, by have := hj 5 (by show 5 < 12; omega); simpa [api_Event_sz] using this, by have := hj 6 (by show 6 < 12; omega); simpa [api_Event_sz] using this, by have := hj 7 (by show 7 < 12; omega); simpa [api_Event_sz] using this, by have := hj 8 (by show 8 < 12; omega); simpa [api_Event_sz] using this, by have := hj 9 (by show 9 < 12; omega); simpa [api_Event_sz] using this, by have := hj 10 (by show 10 < 12; omega); simpa [api_Event_sz] using this, by have := hj 11 (by show 11 < 12; omega); simpa [api_Event_sz] using this, g0, g1, g2, g3, g4, g5, g6, g7, g8, g9, g10, g11⟩

structure Api.THead where
  Fn : Int
  At : Int
  Count : Int
  Limit : Int
  Fails : Int
  Is : Int
  deriving Inhabited, DecidableEq
instance : Rep Api.THead := Rep.via (β := Int × Int × Int × Int × Int × Int) fun x => (x.Fn, x.At, x.Count, x.Limit, x.Fails, x.Is)
theorem api_THead_sz : Rep.sz Api.THead = 6 := rfl
theorem api_THead_cells_eq {S : Nat → Prop} {w : World} {cs : List Value} {x : Api.THead} (h : Rep.cells S w cs x) : cs = [.int .i64 x.Fn, .int .i64 x.At, .int .i64 x.Count, .int .i64 x.Limit, .int .i64 x.Fails, .int .i64 x.Is] ∧ I64 x.Fn ∧ I64 x.At ∧ I64 x.Count ∧ I64 x.Limit ∧ I64 x.Fails ∧ I64 x.Is := by
  obtain ⟨_, _, ⟨rfl, h0⟩, ⟨_, _, ⟨rfl, h1⟩, ⟨_, _, ⟨rfl, h2⟩, ⟨_, _, ⟨rfl, h3⟩, ⟨_, _, ⟨rfl, h4⟩, ⟨rfl, h5⟩, rfl⟩, rfl⟩, rfl⟩, rfl⟩, rfl⟩ := h
  exact ⟨rfl, h0, h1, h2, h3, h4, h5⟩
theorem api_THead_cells_mk {S : Nat → Prop} {w : World} {x : Api.THead} (h0 : I64 x.Fn) (h1 : I64 x.At) (h2 : I64 x.Count) (h3 : I64 x.Limit) (h4 : I64 x.Fails) (h5 : I64 x.Is) : Rep.cells S w [.int .i64 x.Fn, .int .i64 x.At, .int .i64 x.Count, .int .i64 x.Limit, .int .i64 x.Fails, .int .i64 x.Is] x := by
  exact ⟨_, _, ⟨rfl, h0⟩, ⟨_, _, ⟨rfl, h1⟩, ⟨_, _, ⟨rfl, h2⟩, ⟨_, _, ⟨rfl, h3⟩, ⟨_, _, ⟨rfl, h4⟩, ⟨rfl, h5⟩, rfl⟩, rfl⟩, rfl⟩, rfl⟩, rfl⟩
theorem api_THead_elem {S : Nat → Prop} {w : World} {a : Option Addr} {xs : List Api.THead} (h : Arr S w a xs) {k : Nat} {x : Api.THead} (hk : xs[k]? = some x) :
    ∃ (b off : Nat), a = some ⟨b, off, none⟩ ∧ S b ∧ w.cell? ⟨b, off + k * 6, none⟩ = some (.int .i64 x.Fn) ∧ w.cell? ⟨b, off + k * 6 + 1, none⟩ = some (.int .i64 x.At) ∧ w.cell? ⟨b, off + k * 6 + 2, none⟩ = some (.int .i64 x.Count) ∧ w.cell? ⟨b, off + k * 6 + 3, none⟩ = some (.int .i64 x.Limit) ∧ w.cell? ⟨b, off + k * 6 + 4, none⟩ = some (.int .i64 x.Fails) ∧ w.cell? ⟨b, off + k * 6 + 5, none⟩ = some (.int .i64 x.Is) ∧ I64 x.Fn ∧ I64 x.At ∧ I64 x.Count ∧ I64 x.Limit ∧ I64 x.Fails ∧ I64 x.Is := by
  obtain ⟨b, off, cs, ha, hb, hc, hj⟩ := h.at hk
  obtain ⟨rfl, g0, g1, g2, g3, g4, g5⟩ := api_THead_cells_eq hc
  exact ⟨b, off, ha, hb, by have := hj 0 (by show 0 < 6; omega); simpa [api_THead_sz] using this, by have := hj 1 (by show 1 < 6; omega); simpa [api_THead_sz] using this, by have := hj 2 (by show 2 < 6; omega); simpa [api_THead_sz] using this, by have := hj 3 (by show 3 < 6; omega); simpa [api_THead_sz] using this, by have := hj 4 (by show 4 < 6; omega); simpa [api_THead_sz] using this, by have := hj 5 (by show 5 < 6; omega); simpa [api_THead_sz] using this, g0, g1, g2, g3, g4, g5⟩

end Go.Bk
namespace Go.Proofs.Ytjlnaiiajlahgaa
open Go.Bk
theorem Try.opens2 : Opens Try.prog 2 Int := Opens.int Try.underlying2 (by kernel_rfl)
theorem Try.opens3 : Opens Try.prog 3 Int := Opens.int Try.underlying3 (by kernel_rfl)
theorem Try.opens4 : Opens Try.prog 4 Bool := Opens.bool Try.underlying4 (by kernel_rfl)
theorem Try.opens5 : Opens Try.prog 5 UInt8 := Opens.byte Try.underlying5 (by kernel_rfl)
theorem Try.opens6 : Opens Try.prog 6 UInt8 := Opens.byte Try.underlying6 (by kernel_rfl)
theorem Try.opens9 : Opens Try.prog 9 ByteArray := Opens.string Try.underlying9 (by kernel_rfl)
theorem Try.opens10 : Opens Try.prog 10 ByteArray := Opens.string Try.underlying10 (by kernel_rfl)
theorem Try.opens11 : Opens Try.prog 11 ByteArray := Opens.string Try.underlying11 (by kernel_rfl)
theorem Try.opens23 : Opens Try.prog 23 (List Int) := Opens.slice Try.underlying23 (by kernel_rfl) (by decide) Try.opens3
theorem Try.opens24 : Opens Try.prog 24 (List (List Int)) := Opens.slice Try.underlying24 (by kernel_rfl) (by decide) Try.opens23
theorem Try.opens27 : Opens Try.prog 27 Int := Opens.int Try.underlying27 (by kernel_rfl)
theorem Try.opens79 : Opens Try.prog 79 Api.Val := Opens.via _ (fun ⟨y0, y1⟩ => ⟨⟨y0, y1⟩, rfl⟩) (Opens.struct Try.underlying79 (by kernel_rfl) (OpensAt.cons 0 1 Try.opens3 (OpensAt.last 1 Try.opens3) rfl) rfl)
theorem Try.opens81 : Opens Try.prog 81 Api.Event := Opens.via _ (fun ⟨y0, y1, y2, y3, y4, y5, y6, y7, y8, y9⟩ => ⟨⟨y0, y1, y2, y3, y4, y5, y6, y7, y8, y9⟩, rfl⟩) (Opens.struct Try.underlying81 (by kernel_rfl) (OpensAt.cons 0 1 Try.opens3 (OpensAt.cons 1 2 Try.opens3 (OpensAt.cons 2 3 Try.opens3 (OpensAt.cons 3 4 Try.opens3 (OpensAt.cons 4 5 Try.opens3 (OpensAt.cons 5 6 Try.opens3 (OpensAt.cons 6 7 Try.opens3 (OpensAt.cons 7 8 Try.opens3 (OpensAt.cons 8 10 Try.opens79 (OpensAt.last 10 Try.opens79) rfl) rfl) rfl) rfl) rfl) rfl) rfl) rfl) rfl) rfl)
theorem Try.opens40 : Opens Try.prog 40 (List Api.Event) := Opens.slice Try.underlying40 (by kernel_rfl) (by decide) Try.opens81
theorem Try.opens60 : Opens Try.prog 60 Api.THead := Opens.via _ (fun ⟨y0, y1, y2, y3, y4, y5⟩ => ⟨⟨y0, y1, y2, y3, y4, y5⟩, rfl⟩) (Opens.struct Try.underlying60 (by kernel_rfl) (OpensAt.cons 0 1 Try.opens3 (OpensAt.cons 1 2 Try.opens3 (OpensAt.cons 2 3 Try.opens3 (OpensAt.cons 3 4 Try.opens3 (OpensAt.cons 4 5 Try.opens3 (OpensAt.last 5 Try.opens3) rfl) rfl) rfl) rfl) rfl) rfl)
theorem Try.opens54 : Opens Try.prog 54 (List Api.THead) := Opens.slice Try.underlying54 (by kernel_rfl) (by decide) Try.opens60
theorem Try.opens101 : Opens Try.prog 101 (List (List Api.Event)) := Opens.slice Try.underlying101 (by kernel_rfl) (by decide) Try.opens40
theorem Try.opens111 : Opens Try.prog 111 Int := Opens.int Try.underlying111 (by kernel_rfl)
theorem Try.opens138 : Opens Try.prog 138 UInt8 := Opens.byte Try.underlying138 (by kernel_rfl)
theorem Try.opens139 : Opens Try.prog 139 UInt8 := Opens.byte Try.underlying139 (by kernel_rfl)
theorem Try.info3 : (Try.prog.info? 3).map (fun i => (i.zero, i.size, i.bytes)) = some (some (.int .i64 0), 1, 8) := by kernel_rfl
theorem Try.info23 : (Try.prog.info? 23).map (fun i => (i.zero, i.size, i.bytes)) = some (some (.slice none 0 0), 1, 24) := by kernel_rfl
theorem Try.info40 : (Try.prog.info? 40).map (fun i => (i.zero, i.size, i.bytes)) = some (some (.slice none 0 0), 1, 24) := by kernel_rfl
theorem Try.info60 : (Try.prog.info? 60).map (fun i => (i.zero, i.size, i.bytes)) = some (some (.agg #[.int .i64 0, .int .i64 0, .int .i64 0, .int .i64 0, .int .i64 0, .int .i64 0]), 6, 48) := by kernel_rfl
theorem Try.info81 : (Try.prog.info? 81).map (fun i => (i.zero, i.size, i.bytes)) = some (some (.agg #[.int .i64 0, .int .i64 0, .int .i64 0, .int .i64 0, .int .i64 0, .int .i64 0, .int .i64 0, .int .i64 0, .int .i64 0, .int .i64 0, .int .i64 0, .int .i64 0]), 12, 96) := by kernel_rfl
end Go.Proofs.Ytjlnaiiajlahgaa
