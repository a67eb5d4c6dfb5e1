/- General: a table of a call's own: rows made whole, each a block of its own. No program is named here. -/
import Derived.Test.YtffebdngmbbcoaaSlices
import Derived.Test.YtffebdngmbbcoaaCells
set_option linter.unusedVariables false
set_option linter.unusedSimpArgs false
namespace Go.Bk
open Go.RowKit

def rowV (m : Nat) (f : Nat → Int) : List Value := (List.range m).map fun t => .int .i64 (f t)
theorem rowV_len (m : Nat) (f : Nat → Int) : (rowV m f).length = m := by simp [rowV]
theorem rowV_get {m t : Nat} (f : Nat → Int) (h : t < m) : (rowV m f)[t]? = some (.int .i64 (f t)) := by simp [rowV, h]
theorem rowV_set {m t : Nat} (f : Nat → Int) (x : Int) : (rowV m f).set t (.int .i64 x) = rowV m (fun u => if u = t then x else f u) := by
  apply List.ext_getElem?
  intro i
  by_cases hi : i < m
  · rw [rowV_get _ hi]
    by_cases e : t = i
    · subst e
      rw [List.getElem?_set_self (by rw [rowV_len]; exact hi), if_pos rfl]
    · rw [List.getElem?_set_ne e, rowV_get _ hi, if_neg (fun e2 => e e2.symm)]
  · rw [List.getElem?_eq_none (by rw [List.length_set, rowV_len]; omega), List.getElem?_eq_none (by rw [rowV_len]; omega)]
theorem rowV_zero (m : Nat) : List.replicate m (Value.int .i64 0) = rowV m fun _ => 0 := by
  apply List.ext_getElem?
  intro i
  by_cases hi : i < m
  · rw [rowV_get _ hi, List.getElem?_replicate, if_pos hi]
  · rw [List.getElem?_eq_none (by simp; omega), List.getElem?_eq_none (by rw [rowV_len]; omega)]
theorem rowV_congr {m : Nat} {f g : Nat → Int} (h : ∀ t, t < m → f t = g t) : rowV m f = rowV m g := by
  unfold rowV
  apply List.map_congr_left
  intro t ht
  rw [h t (List.mem_range.1 ht)]
/-- Such a row is read as its list. -/
theorem rowV_arr {S : Nat → Prop} {w : World} {g m : Nat} {e : TypeId} {f : Nat → Int} (h : Blk w g e (rowV m f)) (hi : ∀ t, t < m → I64 (f t)) (hm : m ≤ maxLen) (hS : S g) : Arr S w (some ⟨g, 0, none⟩) ((List.range m).map f) := by
  refine Blk.arr (e := e) ?_ ?_ (by simpa using hm) hS
  · rw [List.map_map]; exact h
  · intro z hz
    obtain ⟨t, ht, rfl⟩ := List.mem_map.1 hz
    exact hi t (List.mem_range.1 ht)
structure Mat (w : World) (B H g : Nat) (eS e : TypeId) (n m i : Nat) (rb : Nat → Nat) (f : Nat → Nat → Int) : Prop where
  outer : ∃ cs : List Value, cs.length = n ∧ Blk w g eS cs ∧ ∀ k, k < i → cs[k]? = some (.slice (some ⟨rb k, 0, none⟩) m m)
  row : ∀ k, k < i → Blk w (rb k) e (rowV m (f k))
  low : B ≤ g ∧ ∀ k, k < i → B ≤ rb k
  high : g < H ∧ ∀ k, k < i → rb k < H
  off : ∀ k, k < i → rb k ≠ g
  apart : ∀ j k, j < i → k < i → j ≠ k → rb j ≠ rb k
section
variable {w w' : World} {B H g n m i : Nat} {eS e : TypeId} {rb : Nat → Nat} {f f' : Nat → Nat → Int}
theorem Mat.keep (h : Mat w B H g eS e n m i rb f) (hk : ∀ b, B ≤ b → b < H → w'.heap[b]? = w.heap[b]?) : Mat w' B H g eS e n m i rb f := by
  obtain ⟨cs, h1, h2, h3⟩ := h.outer
  exact ⟨⟨cs, h1, h2.keep (hk g h.low.1 h.high.1), h3⟩, fun k hk' => (h.row k hk').keep (hk _ (h.low.2 k hk') (h.high.2 k hk')), h.low, h.high, h.off, h.apart⟩
theorem Mat.below (h : Mat w B H g eS e n m i rb f) {N : Nat} (hb : Below N w w') (hN : H ≤ N) : Mat w' B H g eS e n m i rb f := h.keep fun b _ hH => hb.block b (by omega)
theorem Mat.drew (h : Mat w B H g eS e n m i rb f) : Mat w.drew B H g eS e n m i rb f := h.keep fun _ _ _ => rfl
theorem Mat.congr (h : Mat w B H g eS e n m i rb f) (hf : ∀ k t, k < i → t < m → f k t = f' k t) : Mat w B H g eS e n m i rb f' :=
  ⟨h.outer, fun k hk => by rw [← rowV_congr fun t ht => hf k t hk ht]; exact h.row k hk, h.low, h.high, h.off, h.apart⟩
theorem Mat.head (h : Mat w B H g eS e n m i rb f) {k : Nat} (hk : k < i) : w.cell? ⟨g, k, none⟩ = some (.slice (some ⟨rb k, 0, none⟩) m m) := by
  obtain ⟨cs, h1, h2, h3⟩ := h.outer
  exact h2.cell (h3 k hk)
theorem Mat.cell (h : Mat w B H g eS e n m i rb f) {k t : Nat} (hk : k < i) (ht : t < m) : w.cell? ⟨rb k, t, none⟩ = some (.int .i64 (f k t)) := (h.row k hk).cell (rowV_get _ ht)
theorem Mat.frozen (h : Mat w B H g eS e n m i rb f) {k : Nat} (hk : k < i) (t : Nat) : w.frozen? ⟨rb k, t, none⟩ = false := (h.row k hk).frozen t
theorem Mat.put (h : Mat w B H g eS e n m i rb f) {k t : Nat} (hk : k < i) (x : Int) : Mat (w.setCell ⟨rb k, t, none⟩ (.int .i64 x)) B H g eS e n m i rb (fun j u => if j = k ∧ u = t then x else f j u) := by
  obtain ⟨cs, h1, h2, h3⟩ := h.outer
  refine ⟨⟨cs, h1, h2.keep (blk_setCell_other _ _ _ (fun e => h.off k hk e.symm)), h3⟩, fun j hj => ?_, h.low, h.high, h.off, h.apart⟩
  by_cases e : j = k
  · subst e
    have := (h.row j hj).set t (.int .i64 x)
    rw [rowV_set] at this
    rw [rowV_congr (g := fun u => if u = t then x else f j u) fun u hu => by simp]
    exact this
  · rw [rowV_congr (g := f j) fun u hu => by rw [if_neg (fun h => e h.1)]]
    exact (h.row j hj).keep (blk_setCell_other _ _ _ (h.apart j k hj hk e))
/-- A row more, made new. -/
theorem Mat.start {cs : List Value} (h : Blk w g eS cs) (hn : cs.length = n) (hB : B ≤ g) (hH : g < H) (rb : Nat → Nat) (f : Nat → Nat → Int) : Mat w B H g eS e n m 0 rb f :=
  ⟨⟨cs, hn, h, fun k hk => by omega⟩, fun k hk => by omega, ⟨hB, fun k hk => by omega⟩, ⟨hH, fun k hk => by omega⟩, fun k hk => by omega, fun j k hj => by omega⟩
theorem Mat.slot (h : Mat w B H g eS e n m i rb f) {k : Nat} (hk : k < n) : ∃ v, w.cell? ⟨g, k, none⟩ = some v := by
  obtain ⟨cs, h1, h2, h3⟩ := h.outer
  exact ⟨_, h2.cell (List.getElem?_eq_getElem (by omega))⟩
theorem Mat.slotF (h : Mat w B H g eS e n m i rb f) (k : Nat) : w.frozen? ⟨g, k, none⟩ = false := by
  obtain ⟨cs, h1, h2, h3⟩ := h.outer
  exact h2.frozen k
theorem Mat.add (h : Mat w B H g eS e n m i rb fun _ _ => 0) (hin : i < n) {r H' : Nat} (hr : H ≤ r) (hH : r < H') (hb : Below H w w') (hrow : Blk w' r e (rowV m fun _ => 0)) :
    Mat (w'.setCell ⟨g, i, none⟩ (.slice (some ⟨r, 0, none⟩) m m)) B H' g eS e n m (i + 1) (fun k => if k = i then r else rb k) fun _ _ => 0 := by
  have h' := h.below hb (Nat.le_refl _)
  obtain ⟨cs, h1, h2, h3⟩ := h'.outer
  have hg := h.high.1
  refine ⟨⟨cs.set i (.slice (some ⟨r, 0, none⟩) m m), by simpa using h1, h2.set _ _, fun k hk => ?_⟩, fun k hk => ?_, ⟨h.low.1, fun k hk => ?_⟩, ⟨by omega, fun k hk => ?_⟩, fun k hk => ?_, fun j k hj hk hjk => ?_⟩
  · by_cases e : k = i
    · subst e; rw [if_pos rfl, List.getElem?_set_self (by omega)]
    · rw [if_neg e, List.getElem?_set_ne (fun e2 => e e2.symm)]; exact h3 k (by omega)
  · by_cases e : k = i
    · rw [if_pos e]; exact hrow.keep (blk_setCell_other _ _ _ (by show r ≠ g; omega))
    · rw [if_neg e]; exact (h'.row k (by omega)).keep (blk_setCell_other _ _ _ (h.off k (by omega)))
  · have := h.low.1
    by_cases e : k = i
    · rw [if_pos e]; omega
    · rw [if_neg e]; exact h.low.2 k (by omega)
  · by_cases e : k = i
    · rw [if_pos e]; exact hH
    · rw [if_neg e]; have := h.high.2 k (by omega); omega
  · by_cases e : k = i
    · rw [if_pos e]; omega
    · rw [if_neg e]; exact h.off k (by omega)
  · by_cases e : j = i
    · rw [if_pos e, if_neg (by omega)]
      have := h.high.2 k (by omega)
      omega
    · rw [if_neg e]
      by_cases e2 : k = i
      · rw [if_pos e2]; have := h.high.2 j (by omega); omega
      · rw [if_neg e2]; exact h.apart j k (by omega) (by omega) hjk
end
end Go.Bk
