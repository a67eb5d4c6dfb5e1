/- General: cells of one's own rows set one after the other; a row of numbers made out of its cells. No program is named here. -/
import Derived.Test.YtjlnaiiajlahgaaDoorAppKeep
import Derived.Laws.IdiomCopy
import Derived.Laws.CopyOwn
set_option linter.unusedVariables false
set_option linter.unusedSimpArgs false
namespace Go.Bk
open Go.RowKit

theorem blk_setCell_other {w : World} (a : Addr) (v : Value) (b : Nat) (h : b ≠ a.block) : (w.setCell a v).heap[b]? = w.heap[b]? := by
  simp only [World.setCell]
  split
  all_goals (first | rw [Array.getElem?_modify, if_neg (fun e => h e.symm)] | rfl)
theorem size_setCell (w : World) (a : Addr) (v : Value) : (w.setCell a v).heap.size = w.heap.size := by
  simp only [World.setCell]
  split <;> simp
theorem heap_setCells_size (g : Nat) : ∀ (vs : List Value) (o : Nat) (w : World), (w.setCells g o vs).heap.size = w.heap.size
  | [], _, _ => rfl
  | v :: r, o, w => by rw [World.setCells, heap_setCells_size g r]; exact size_setCell ..
theorem heap_setCells_ne (g : Nat) : ∀ (vs : List Value) (o : Nat) (w : World) (b : Nat), b ≠ g → (w.setCells g o vs).heap[b]? = w.heap[b]?
  | [], _, _, _, _ => rfl
  | v :: r, o, w, b, h => by rw [World.setCells, heap_setCells_ne g r _ _ b h]; exact blk_setCell_other _ _ _ h
theorem Blk.setCells {g : Nat} {e : TypeId} : ∀ (vs : List Value) (o : Nat) (w : World) (cs : List Value), Blk w g e cs → o + vs.length ≤ cs.length → Blk (w.setCells g o vs) g e (splice cs o vs)
  | [], o, w, cs, h, _ => by simpa [World.setCells, splice] using h
  | v :: r, o, w, cs, h, hl => by
    rw [List.length_cons] at hl
    have h1 := Blk.setCells r (o + 1) _ _ (h.set o v) (by simp; omega)
    rw [World.setCells]
    have e1 : splice (cs.set o v) (o + 1) r = splice cs o (v :: r) := by
      unfold splice
      rw [List.take_set, List.drop_set_of_lt (by omega), List.take_add_one, List.getElem?_eq_getElem (by omega : o < cs.length), List.set_append_right _ _ (by simp; omega), List.length_take, Nat.min_eq_left (by omega), Nat.sub_self]
      simp
      rw [show o + 1 + r.length = o + (r.length + 1) by omega]
    rw [e1] at h1
    exact h1
theorem grownBy_setCell {w w1 : World} {g : Nat} (h : w.grownBy w1 (some g)) (o : Nat) (v : Value) : w.grownBy (w1.setCell ⟨g, o, none⟩ v) (some g) :=
  ⟨h.os, h.tape, h.output, by rw [size_setCell]; exact h.size, fun k hk hne => by rw [blk_setCell_other _ _ _ (fun e => hne (by rw [e]))]; exact h.block k hk hne⟩
theorem grownBy_setCells {w : World} {g : Nat} : ∀ (vs : List Value) (o : Nat) (w1 : World), w.grownBy w1 (some g) → w.grownBy (w1.setCells g o vs) (some g)
  | [], _, _, h => h
  | v :: r, o, w1, h => grownBy_setCells r (o + 1) _ (grownBy_setCell h o v)
theorem grownBy_of {N : Nat} {w w1 : World} (hb : Below N w w1) (hN : w.heap.size ≤ N) (row : Option Nat) : w.grownBy w1 row :=
  ⟨hb.os, hb.tape, hb.output, hb.size, fun k hk _ => hb.block k (by omega)⟩
/-- Cells of a block that is new. -/
theorem grownBy_new {w w1 : World} {row : Option Nat} (h : w.grownBy w1 row) {g : Nat} (hg : w.heap.size ≤ g) (vs : List Value) (o : Nat) : w.grownBy (w1.setCells g o vs) row := by
  have : ∀ (vs : List Value) (o : Nat) (w1 : World), w.grownBy w1 row → w.grownBy (w1.setCells g o vs) row := by
    intro vs
    induction vs with
    | nil => intro o w1 h; exact h
    | cons v r ih =>
      intro o w1 h
      refine ih (o + 1) _ ⟨h.os, h.tape, h.output, by rw [size_setCell]; exact h.size, fun k hk hne => ?_⟩
      rw [blk_setCell_other _ _ _ (by show k ≠ g; omega)]
      exact h.block k hk hne
  exact this vs o w1 h
theorem grownBy_drew {w w1 : World} {row : Option Nat} (h : w.grownBy w1 row) : w.grownBy w1.drew row :=
  ⟨h.os, h.tape, h.output, h.size, h.block⟩
theorem grownBy_alloc {w w1 : World} {row : Option Nat} (h : w.grownBy w1 row) (o : Obj) : w.grownBy (w1.alloc o) row :=
  ⟨h.os, h.tape, h.output, Nat.le_trans h.size (by simp), fun k hk hne => by rw [Below.heap_alloc _ _ _ (Nat.lt_of_lt_of_le hk h.size)]; exact h.block k hk hne⟩
theorem Blk.drew {w : World} {g : Nat} {e : TypeId} {cs : List Value} (h : Blk w g e cs) : Blk w.drew g e cs := h

/-- A row of numbers, out of its cells. -/
theorem own_of_cells {w : World} {B g n c : Nat} {e : TypeId} {cs : List Value} {zs : List Int} (hB : B ≤ g) (hb : Blk w g e cs) (hc : cs.length = c) (hn : n ≤ c) (hcm : c ≤ maxLen) (hz : zs.length = n) (ht : cs.take n = intsV zs) (hi : ∀ z ∈ zs, I64 z) :
    Own (fun _ => False) w B e (.slice (some ⟨g, 0, none⟩) n c) zs := by
  subst hz
  refine own_int_mk ⟨by simp [intsV], .inr ⟨g, c, cs.toArray, rfl, hB, hb, hn, hcm, by simp [hc], by simpa using ht⟩⟩ hi
/-- The cells of a row of numbers. -/
theorem own_cells {w : World} {B : Nat} {e : TypeId} {v : Value} {xs : List Int} (h : Own (fun _ => False) w B e v xs) :
    (v = .slice none 0 0 ∧ xs = []) ∨ ∃ g c cs, v = .slice (some ⟨g, 0, none⟩) xs.length c ∧ B ≤ g ∧ Blk w g e cs ∧ cs.length = c ∧ xs.length ≤ c ∧ c ≤ maxLen ∧ cs.take xs.length = intsV xs := by
  obtain ⟨hr, hi⟩ := own_int_row h
  obtain ⟨hl, ⟨h, hn⟩ | ⟨g, c, cur, he, hg, hh, hle, hm, hcs, ht⟩⟩ := hr
  · exact .inl ⟨h, List.eq_nil_of_length_eq_zero hn⟩
  · refine .inr ⟨g, c, cur.toList, he, hg, by unfold Blk; simpa using hh, by simpa using hcs, hle, hm, by simpa using ht⟩
theorem own_i64 {w : World} {B : Nat} {e : TypeId} {v : Value} {xs : List Int} (h : Own (fun _ => False) w B e v xs) : ∀ x ∈ xs, I64 x := (own_int_row h).2
theorem intsV_append (xs ys : List Int) : intsV (xs ++ ys) = intsV xs ++ intsV ys := by simp [intsV]
theorem intsV_take (xs : List Int) (n : Nat) : intsV (xs.take n) = (intsV xs).take n := by simp [intsV, List.map_take]
theorem intsV_drop (xs : List Int) (n : Nat) : intsV (xs.drop n) = (intsV xs).drop n := by simp [intsV, List.map_drop]
theorem intsV_len (xs : List Int) : (intsV xs).length = xs.length := by simp [intsV]
theorem intsV_one (xs : List Int) : ∀ v ∈ intsV xs, v.oneCell' = true := by
  intro v hv
  obtain ⟨x, -, rfl⟩ := List.mem_map.1 hv
  rfl
end Go.Bk
