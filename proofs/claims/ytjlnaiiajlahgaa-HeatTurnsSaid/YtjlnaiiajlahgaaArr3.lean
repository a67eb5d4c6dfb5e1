/- General: arrays of three elements, as they came in. No program is named here. -/
import Derived.Test.YtjlnaiiajlahgaaMore
set_option linter.unusedVariables false
set_option linter.unusedSimpArgs false
namespace Go.Bk
open Go.RowKit Go.ChangeShapes Go.WideShapes Go.Deep

theorem Opens.arr3 {P : Program} {T E : TypeId} {α : Type} [Rep α] (h : P.underlying T = some (.array 3 E)) (hc : P.cellsOf T = Rep.sz (α × α × α)) (he : Opens P E α) : Opens P T (α × α × α) := by
  have ht : OpensAt P [(0, E), (Rep.sz α, E), (2 * Rep.sz α, E)] 0 (α × α × α) :=
    OpensAt.cons 0 (Rep.sz α) he (OpensAt.cons (Rep.sz α) (2 * Rep.sz α) he (OpensAt.last (2 * Rep.sz α) he) (by omega)) (by omega)
  refine ⟨hc, fun enc w spare held fuel cs d ps hd => ?_⟩
  obtain ⟨xs, n, _, _, hl, hlen, hf⟩ := DataW.trod_array h hd
  have hget : ∀ i, i < 3 → ∃ y, DataW.trod enc P w 0 spare held n E ((cs.drop (i * Rep.sz α)).take (P.cellsOf E)) = some y := fun i hi => by
    have := hf i hi
    rw [he.1] at this
    rw [he.1, this]
    exact ⟨_, List.getElem?_eq_getElem (by omega)⟩
  have := ht enc w spare held n cs (by omega) (fun f hfm => by
    simp only [List.mem_cons, List.not_mem_nil, or_false] at hfm
    rcases hfm with rfl | rfl | rfl
    · simpa using hget 0 (by omega)
    · simpa using hget 1 (by omega)
    · simpa using hget 2 (by omega))
  simpa using this
/-- Three ints in cells, each. -/
theorem cells_int3 {S : Nat → Prop} {w : World} {cs : List Value} {x : Int × Int × Int} (h : Rep.cells S w cs x) : cs = [.int .i64 x.1, .int .i64 x.2.1, .int .i64 x.2.2] ∧ I64 x.1 ∧ I64 x.2.1 ∧ I64 x.2.2 := by
  obtain ⟨c, d, ⟨rfl, h1⟩, ⟨c2, d2, ⟨rfl, h2⟩, ⟨rfl, h3⟩, rfl⟩, rfl⟩ := h
  exact ⟨rfl, h1, h2, h3⟩
/-- Element k of a row of them. -/
theorem int3_elem {S : Nat → Prop} {w : World} {a : Option Addr} {l : List (Int × Int × Int)} {k : Nat} {x : Int × Int × Int} (h : Arr S w a l) (hk : l[k]? = some x) :
    ∃ b o, a = some ⟨b, o, none⟩ ∧ S b ∧ w.cell? ⟨b, o + k * 3, none⟩ = some (.int .i64 x.1) ∧ w.cell? ⟨b, o + k * 3 + 1, none⟩ = some (.int .i64 x.2.1) ∧ w.cell? ⟨b, o + k * 3 + 2, none⟩ = some (.int .i64 x.2.2) ∧ I64 x.1 ∧ I64 x.2.1 ∧ I64 x.2.2 := by
  obtain ⟨b, o, cs, ha, hb, hc, hj⟩ := h.at hk
  obtain ⟨rfl, i1, i2, i3⟩ := cells_int3 hc
  exact ⟨b, o, ha, hb, hj 0 (by show 0 < 3; omega), hj 1 (by show 1 < 3; omega), hj 2 (by show 2 < 3; omega), i1, i2, i3⟩
end Go.Bk
