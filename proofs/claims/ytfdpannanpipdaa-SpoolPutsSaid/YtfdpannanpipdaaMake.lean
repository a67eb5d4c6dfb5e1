/- General: rows made whole, their elements structs of one cell, or of more. No program is named here. -/
import Derived.Test.YtfdpannanpipdaaApart
set_option linter.unusedVariables false
set_option linter.unusedSimpArgs false
namespace Go.Bk
open Go.RowKit

section
variable {P : Program} {ops : Array Oper} {Q : Exit → Act → World → Prop} {a : Act} {w : World} {rest : List Oper} {o : Oper}
/-- 'make([]T, n)', elements of one cell each, their zero an aggregate of it. -/
theorem wp_make1 {l c : Operand} {t : TypeId} {e : TypeId} {z u : Value} {bytes : Nat} (hg : o.guard = none) (hop : o.op = Op.makeSlice t l c) (h1 : P.underlying t = some (.slice e))
    (h2 : (P.info? e).map (fun i => (i.zero, i.size, i.bytes)) = some (some z, 1, bytes)) (hz1 : z.cells = #[u])
    {n : Nat} (hl : a.eval l = .int .i64 (n : Int)) (hc : a.eval c = .int .i64 (n : Int)) (hn : bytes * n ≤ 281474976710656) (hm : n ≤ maxLen)
    (hK : ∀ w', Blk w' w.heap.size e (List.replicate n u) → Below w.heap.size w w' → w.heap.size < w'.heap.size → wpList P ops Q rest (a.put o.dst (.slice (some ⟨w.heap.size, 0, none⟩) n n)) w') :
    wpList P ops Q (o :: rest) a w := by
  obtain ⟨i, hi, hz, hs, hb⟩ := info_parts h2
  refine wpList_make_full w hg l c t hop w.heap.size e i z 1 h1 hi hz hs .i64 .i64 _ _ n hl hc rfl rfl (by rw [hb]; exact hn) hm (Nat.le_refl _) fun w' hown hgr => ?_
  have hblk := owns_blk hown
  have e1 : (madeCells z.cells (n * 1)).toList = List.replicate n u := by
    rw [hz1]
    apply List.ext_getElem
    · simp [madeCells]
    · intro i h1 h2
      simp [madeCells, Nat.mod_one]
  rw [e1] at hblk
  exact hK w' hblk ((Below.refl _ _).grown hgr (Nat.le_refl _) (by simp)) hblk.lt
end
end Go.Bk
