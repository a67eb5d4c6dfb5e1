/- General: arrays of four elements, as they came in. No program is named here. -/
import Derived.Test.YtjlnaiiajlahgaaMore
set_option linter.unusedVariables false
set_option linter.unusedSimpArgs false
namespace Go.Bk
open Go.RowKit Go.ChangeShapes Go.WideShapes Go.Deep

theorem Opens.arr4 {P : Program} {T E : TypeId} {α : Type} [Rep α] (h : P.underlying T = some (.array 4 E)) (hc : P.cellsOf T = Rep.sz (α × α × α × α)) (he : Opens P E α) : Opens P T (α × α × α × α) := by
  have ht : OpensAt P [(0, E), (Rep.sz α, E), (2 * Rep.sz α, E), (3 * Rep.sz α, E)] 0 (α × α × α × α) :=
    OpensAt.cons 0 (Rep.sz α) he (OpensAt.cons (Rep.sz α) (2 * Rep.sz α) he (OpensAt.cons (2 * Rep.sz α) (3 * Rep.sz α) he (OpensAt.last (3 * Rep.sz α) he) (by omega)) (by omega)) (by omega)
  refine ⟨hc, fun enc w spare held fuel cs d ps hd => ?_⟩
  obtain ⟨xs, n, _, _, hl, hlen, hf⟩ := DataW.trod_array h hd
  have hget : ∀ i, i < 4 → ∃ y, DataW.trod enc P w 0 spare held n E ((cs.drop (i * Rep.sz α)).take (P.cellsOf E)) = some y := fun i hi => by
    have := hf i hi
    rw [he.1] at this
    rw [he.1, this]
    exact ⟨_, List.getElem?_eq_getElem (by omega)⟩
  have := ht enc w spare held n cs (by omega) (fun f hfm => by
    simp only [List.mem_cons, List.not_mem_nil, or_false] at hfm
    rcases hfm with rfl | rfl | rfl | rfl
    · simpa using hget 0 (by omega)
    · simpa using hget 1 (by omega)
    · simpa using hget 2 (by omega)
    · simpa using hget 3 (by omega))
  simpa using this
/-- Four ints. -/
abbrev Four := Int × Int × Int × Int
def fourV (x : Four) : List Value := [.int .i64 x.1, .int .i64 x.2.1, .int .i64 x.2.2.1, .int .i64 x.2.2.2]
theorem cells_int4 {S : Nat → Prop} {w : World} {cs : List Value} {x : Four} (h : Rep.cells S w cs x) : cs = fourV x ∧ I64 x.1 ∧ I64 x.2.1 ∧ I64 x.2.2.1 ∧ I64 x.2.2.2 := by
  obtain ⟨c, d, ⟨rfl, h1⟩, ⟨c2, d2, ⟨rfl, h2⟩, ⟨c3, d3, ⟨rfl, h3⟩, ⟨rfl, h4⟩, rfl⟩, rfl⟩, rfl⟩ := h
  exact ⟨rfl, h1, h2, h3, h4⟩
theorem cells_int4_mk {S : Nat → Prop} {w : World} {x : Four} (h1 : I64 x.1) (h2 : I64 x.2.1) (h3 : I64 x.2.2.1) (h4 : I64 x.2.2.2) : Rep.cells S w (fourV x) x :=
  ⟨_, _, ⟨rfl, h1⟩, ⟨_, _, ⟨rfl, h2⟩, ⟨_, _, ⟨rfl, h3⟩, ⟨rfl, h4⟩, rfl⟩, rfl⟩, rfl⟩
/-- Element k of a row of them. -/
theorem int4_elem {S : Nat → Prop} {w : World} {a : Option Addr} {l : List Four} {k : Nat} {x : Four} (h : Arr S w a l) (hk : l[k]? = some x) :
    ∃ b o, a = some ⟨b, o, none⟩ ∧ S b ∧ w.cell? ⟨b, o + k * 4, none⟩ = some (.int .i64 x.1) ∧ w.cell? ⟨b, o + k * 4 + 1, none⟩ = some (.int .i64 x.2.1) ∧ w.cell? ⟨b, o + k * 4 + 2, none⟩ = some (.int .i64 x.2.2.1) ∧ w.cell? ⟨b, o + k * 4 + 3, none⟩ = some (.int .i64 x.2.2.2) ∧ I64 x.1 ∧ I64 x.2.1 ∧ I64 x.2.2.1 ∧ I64 x.2.2.2 := by
  obtain ⟨b, o, cs, ha, hb, hc, hj⟩ := h.at hk
  obtain ⟨rfl, i1, i2, i3, i4⟩ := cells_int4 hc
  exact ⟨b, o, ha, hb, hj 0 (by show 0 < 4; omega), hj 1 (by show 1 < 4; omega), hj 2 (by show 2 < 4; omega), hj 3 (by show 3 < 4; omega), i1, i2, i3, i4⟩
/-- Element k of a row of rows. -/
theorem row_elem {α : Type} [Rep α] {S : Nat → Prop} {w : World} {a : Option Addr} {l : List (List α)} {k : Nat} {x : List α} (h : Arr S w a l) (hk : l[k]? = some x) :
    ∃ b o a' c', a = some ⟨b, o, none⟩ ∧ S b ∧ w.cell? ⟨b, o + k, none⟩ = some (.slice a' x.length c') ∧ x.length ≤ c' ∧ (a' = none → c' = 0) ∧ Arr S w a' x := by
  obtain ⟨b, o, cs, ha, hb, ⟨a', c', rfl, h1, h2, h3⟩, hj⟩ := h.at hk
  refine ⟨b, o, a', c', ha, hb, ?_, h1, h2, h3⟩
  have := hj 0 (by show 0 < 1; omega)
  rwa [show o + k * Rep.sz (List α) + 0 = o + k by show o + k * 1 + 0 = o + k; omega] at this
end Go.Bk
