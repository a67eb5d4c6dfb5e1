/- General: clear of a row of one's own; a row of one's own cut to its first elements. No program is named here. -/
import Derived.Test.YtffebdngmbbcoaaSortK
import Derived.Test.YtffebdngmbbcoaaCells
import Derived.Lib.SliceRun
set_option linter.unusedVariables false
set_option linter.unusedSimpArgs false
namespace Go.Bk
open Go.RowKit

section
variable {P : Program}
theorem run_clear_row (w : World) (t e ty : TypeId) (z : Value) (ht : P.underlying t = some (.slice e)) (hv : ∀ w, (zeroValue e).run P w = .ok z w) (b o n c : Nat) (hn : 0 < n) {vs : List Value} (hvs : (Builtin.zeroCells z.cells n).toList = vs) (h1 : ∀ v ∈ vs, v.oneCell' = true)
    (hc : ∀ j, j < vs.length → (w.cell? ⟨b, o + j, none⟩).isSome = true) (hf : ∀ j, j < vs.length → w.frozen? ⟨b, o + j, none⟩ = false) :
    (Builtin.clear_ #[t] ty #[.slice (some ⟨b, o, none⟩) n c]).run P w = .ok (.tuple #[]) (w.setCells b o vs) := by
  have hst := run_storeCells_cells (P := P) b o vs 0 w (by simpa using hc) (by simpa using hf) h1
  simp only [Nat.add_zero] at hst
  obtain ⟨m, rfl⟩ : ∃ m, n = m + 1 := ⟨n - 1, by omega⟩
  simp [Builtin.clear_, run_underlying ht, hv, hvs, hst]
end
theorem zeroCells_one {z : Array Value} {n : Nat} (h : ∀ v ∈ z, v.oneCell' = true) : ∀ v ∈ (Builtin.zeroCells z n).toList, v.oneCell' = true := by
  intro v hv
  unfold Builtin.zeroCells at hv
  rw [Array.toList_map, List.mem_map] at hv
  obtain ⟨i, hi, rfl⟩ := hv
  have hi2 : i < n * z.size := by simpa using hi
  have hz : 0 < z.size := by rcases Nat.eq_zero_or_pos z.size with h0 | h0; (rw [h0] at hi2; simp at hi2); exact h0
  have hm : i % z.size < z.size := Nat.mod_lt _ hz
  rw [getElem!_pos z _ hm]
  exact h _ (Array.getElem_mem hm)
section
variable {α : Type} [Rep α] [Inhabited α] [FlatRep α] {w : World} {B g n c : Nat} {e : TypeId} {xs : List α}
def flatL (xs : List α) : List Value := (xs.map (FlatRep.enc (α := α))).flatten
theorem flatL_len (xs : List α) : (flatL xs).length = xs.length * Rep.sz α := flat_len xs
theorem flatL_take (xs : List α) (k : Nat) : flatL (xs.take k) = (flatL xs).take (k * Rep.sz α) := by
  induction xs generalizing k with
  | nil => simp [flatL]
  | cons x xs ih =>
    cases k with
    | zero => simp [flatL]
    | succ k =>
      have h1 : flatL (x :: xs) = FlatRep.enc x ++ flatL xs := by simp [flatL]
      have h2 : flatL (x :: xs.take k) = FlatRep.enc x ++ flatL (xs.take k) := by simp [flatL]
      rw [List.take_succ_cons, h1, h2, ih, List.take_append, FlatRep.len, Nat.add_mul, Nat.one_mul, show k * Rep.sz α + Rep.sz α - Rep.sz α = k * Rep.sz α by omega, List.take_of_length_le (l := FlatRep.enc x) (by rw [FlatRep.len]; omega)]
theorem own_blkF (h : Own (fun _ => False) w B e (.slice (some ⟨g, 0, none⟩) n c) xs) : ∃ cs, Blk w g e cs ∧ cs.length = c * Rep.sz α ∧ n = xs.length ∧ n ≤ c ∧ c ≤ maxLen ∧ B ≤ g ∧ cs.take (n * Rep.sz α) = flatL xs ∧ ∀ x ∈ xs, Rep.cells (fun _ => False) w (FlatRep.enc x) x := by
  obtain ⟨⟨hl, ⟨h1, -⟩ | ⟨g2, cap2, cur, hv, hg, hh, hle, hm, hcs, ht⟩⟩, hc⟩ := own_flat h
  · cases h1
  injection hv with e1 e2 e3
  injection e1 with e1
  injection e1 with e1
  subst e1 e2 e3
  exact ⟨cur.toList, by unfold Blk; simpa using hh, by simpa using hcs, rfl, hle, hm, hg, ht, hc⟩
theorem own_of_blkF {cs : List Value} (hb : Blk w g e cs) (hl : cs.length = c * Rep.sz α) (hle : xs.length ≤ c) (hm : c ≤ maxLen) (hg : B ≤ g) (ht : cs.take (xs.length * Rep.sz α) = flatL xs) (hc : ∀ x ∈ xs, Rep.cells (fun _ => False) w (FlatRep.enc x) x) :
    Own (fun _ => False) w B e (.slice (some ⟨g, 0, none⟩) xs.length c) xs :=
  own_of_flat ⟨flat_len xs, .inr ⟨g, c, cs.toArray, rfl, hg, hb, hle, hm, by simpa using hl, by simpa [flatL] using ht⟩⟩ hc
/-- The row, cut. -/
theorem own_cut (h : Own (fun _ => False) w B e (.slice (some ⟨g, 0, none⟩) n c) xs) {k : Nat} (hk : k ≤ n) : Own (fun _ => False) w B e (.slice (some ⟨g, 0, none⟩) k c) (xs.take k) := by
  obtain ⟨cs, hb, hl, hn, hle, hm, hg, ht, hc⟩ := own_blkF h
  have hkl : (xs.take k).length = k := by rw [List.length_take]; omega
  have := own_of_blkF (xs := xs.take k) hb hl (by omega) hm hg (by
    rw [hkl, flatL_take, ← ht, List.take_take, Nat.min_eq_left (Nat.mul_le_mul_right _ hk)]) (fun x hx => hc x (List.mem_of_mem_take hx))
  rwa [hkl] at this
/-- Behind the cut other cells were written. -/
theorem own_cut_set (h : Own (fun _ => False) w B e (.slice (some ⟨g, 0, none⟩) n c) xs) {k : Nat} (hk : k ≤ n) {vs : List Value} (hv : k * Rep.sz α + vs.length ≤ c * Rep.sz α) :
    Own (fun _ => False) (w.setCells g (k * Rep.sz α) vs) B e (.slice (some ⟨g, 0, none⟩) k c) (xs.take k) := by
  obtain ⟨cs, hb, hl, hn, hle, hm, hg, ht, hc⟩ := own_blkF h
  have hkl : (xs.take k).length = k := by rw [List.length_take]; omega
  have hb2 := Blk.setCells vs (k * Rep.sz α) w cs hb (by omega)
  have := own_of_blkF (xs := xs.take k) hb2 (by unfold splice; simp; omega) (by omega) hm hg (by
    rw [hkl, flatL_take, ← ht, List.take_take, Nat.min_eq_left (Nat.mul_le_mul_right _ hk)]
    unfold splice
    rw [List.take_append_of_le_length (by simp; omega), List.take_take, Nat.min_self]) (fun x hx => FlatRep.move (hc x (List.mem_of_mem_take hx)))
  rwa [hkl] at this
end
end Go.Bk
