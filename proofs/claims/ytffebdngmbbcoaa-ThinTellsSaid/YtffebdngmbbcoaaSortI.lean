/- slices.Sort and slices.Compact at ints in a row of one's own, by the shelf's contracts laid over this seat (SortILay). -/
import Derived.Test.YtffebdngmbbcoaaCells
import Derived.Test.YtffebdngmbbcoaaSrt
import Derived.Test.YtffebdngmbbcoaaSortILay
set_option linter.unusedVariables false
set_option linter.unusedSimpArgs false
namespace Go.Bk
open Go.RowKit Go.Sort Go.Shelf

theorem putCells_ints {ys : List Int} {cur : Array Value} (h : ys.length ≤ cur.size) : (putCells (Value.int .i64) 0 ys.toArray cur).toList = intsV ys ++ cur.toList.drop ys.length := by
  apply List.ext_getElem?
  intro j
  rw [Array.getElem?_toList]
  unfold putCells
  rw [Array.getElem?_mapIdx]
  by_cases hj : j < ys.length
  · have hjc : j < cur.size := by omega
    rw [List.getElem?_append_left (by rw [intsV_len]; exact hj), Array.getElem?_eq_getElem hjc, intsV, List.getElem?_map, List.getElem?_eq_getElem hj]
    simp [hj]
  · rw [List.getElem?_append_right (by rw [intsV_len]; omega), intsV_len, List.getElem?_drop, show ys.length + (j - ys.length) = j by omega, Array.getElem?_toList]
    by_cases hjc : j < cur.size
    · rw [Array.getElem?_eq_getElem hjc]
      simp [hj]
    · rw [Array.getElem?_eq_none (by omega)]
      rfl
/-- Other numbers were laid over the row. -/
theorem own_put {w : World} {B g n cap m : Nat} {e : TypeId} {os : Array Obj} {xs ys : List Int} (h : Own (fun _ => False) w B e (.slice (some ⟨g, 0, none⟩) n cap) xs) (hl : ys.length = xs.length) (hy : ∀ y ∈ ys, I64 y) :
    Own (fun _ => False) (grow (putRow (Value.int .i64) (Sort.ahead w m) g 0 ys.toArray) os) B e (.slice (some ⟨g, 0, none⟩) n cap) ys ∧ w.grownBy (grow (putRow (Value.int .i64) (Sort.ahead w m) g 0 ys.toArray) os) (some g) := by
  rcases own_cells h with ⟨h1, -⟩ | ⟨g2, c, cs, he, hg, hb, hcl, hnc, hcm, ht⟩
  · cases h1
  injection he with e1 e2 e3
  injection e1 with e1
  injection e1 with e1
  subst e1 e2 e3
  have hgl : g < w.heap.size := hb.lt
  have hh : w.heap[g]? = some (.cells cs.toArray e (0, 0)) := hb
  have hheap : (grow (putRow (Value.int .i64) (Sort.ahead w m) g 0 ys.toArray) os).heap[g]? = some (.cells (putCells (Value.int .i64) 0 ys.toArray cs.toArray) e (0, 0)) := by
    rw [heap_grow_old _ _ (by simpa using hgl)]
    simp [putRow, mapBlock, Sort.ahead, Array.getElem?_modify, hh, onCells]
  have hcells := putCells_ints (ys := ys) (cur := cs.toArray) (by simp; omega)
  have hb2 : Blk (grow (putRow (Value.int .i64) (Sort.ahead w m) g 0 ys.toArray) os) g e (putCells (Value.int .i64) 0 ys.toArray cs.toArray).toList := by
    unfold Blk
    rw [hheap]
  rw [hcells] at hb2
  refine ⟨own_of_cells hg hb2 (by simp [intsV_len]; omega) hnc hcm hl (by rw [← hl, List.take_append_of_le_length (by rw [intsV_len]; exact Nat.le_refl _), List.take_of_length_le (by rw [intsV_len]; exact Nat.le_refl _)]) hy, ⟨rfl, rfl, rfl, ?_, fun k hk hne => ?_⟩⟩
  · simp
  · rw [heap_grow_old _ _ (by simpa using hk)]
    have : g ≠ k := fun e => hne (by rw [e])
    simp [putRow, mapBlock, Sort.ahead, Array.getElem?_modify, this]
theorem own_cutI {w : World} {B g n c k : Nat} {e : TypeId} {xs : List Int} (h : Own (fun _ => False) w B e (.slice (some ⟨g, 0, none⟩) n c) xs) (hk : k ≤ n) : Own (fun _ => False) w B e (.slice (some ⟨g, 0, none⟩) k c) (xs.take k) := by
  rcases own_cells h with ⟨h1, -⟩ | ⟨g2, c2, cs, he, hg, hb, hcl, hnc, hcm, ht⟩
  · cases h1
  injection he with e1 e2 e3
  injection e1 with e1
  injection e1 with e1
  subst e1 e2 e3
  refine own_of_cells hg hb hcl (by omega) hcm (by rw [List.length_take]; omega) ?_ (fun z hz => own_i64 h z (List.mem_of_mem_take hz))
  rw [intsV_take, ← ht, List.take_take, Nat.min_eq_left hk]
theorem own_holds {w : World} {B g n cap : Nat} {e : TypeId} {xs : List Int} (h : Own (fun _ => False) w B e (.slice (some ⟨g, 0, none⟩) n cap) xs) : Holds (Value.int .i64) w g 0 xs.toArray ∧ g < w.heap.size ∧ n = xs.length ∧ n ≤ cap := by
  rcases own_cells h with ⟨h1, -⟩ | ⟨g2, c, cs, he, hg, hb, hcl, hnc, hcm, ht⟩
  · cases h1
  injection he with e1 e2 e3
  injection e1 with e1
  injection e1 with e1
  subst e1 e2 e3
  refine ⟨fun j hj => ⟨?_, hb.frozen _⟩, hb.lt, rfl, hnc⟩
  have hj' : j < xs.length := by simpa using hj
  rw [Nat.zero_add]
  refine hb.cell ?_
  have h1 : (cs.take xs.length)[j]? = (intsV xs)[j]? := by rw [ht]
  rw [List.getElem?_take_of_lt hj'] at h1
  rw [h1, intsV, List.getElem?_map, List.getElem?_eq_getElem hj', getElem!_pos _ j hj]
  rfl
theorem own_form {w : World} {B : Nat} {e : TypeId} {v : Value} {xs : List Int} (h : Own (fun _ => False) w B e v xs) : (v = .slice none 0 0 ∧ xs = []) ∨ ∃ g c, v = .slice (some ⟨g, 0, none⟩) xs.length c := by
  rcases own_cells h with ⟨h1, h2⟩ | ⟨g2, c, cs, he, -⟩
  · exact .inl ⟨h1, h2⟩
  · exact .inr ⟨g2, c, he⟩
end Go.Bk
namespace Go.Proofs.Ytffebdngmbbcoaa
open Go.Bk Go.RowKit Go.Sort Go.Shelf Go.Bk.srt

def SortedPost (w : World) (B : Nat) (v : Value) (ys : List Int) (e : Ending) (w' : World) : Prop :=
  e = .returned (.tuple #[]) ∧ Own (fun _ => False) w' B 3 v ys ∧ w.grownBy w' v.ownBlock
theorem sortI_any {w : World} {B : Nat} {v : Value} {xs : List Int} (hown : Own (fun _ => False) w B 3 v xs) (hlen : xs.length ≤ 1000000) :
    Calls Try.prog 46 #[v] w (SortedPost w B v (sortI xs)) := by
  rcases own_form hown with ⟨rfl, rfl⟩ | ⟨g, c, rfl⟩
  · refine (Any.slices_Sort_int_none Try.sortILays none 0 w).mono ?_
    rintro e w' ⟨rfl, rfl⟩
    exact ⟨rfl, by rw [show sortI [] = [] by unfold sortI; simp]; exact hown, World.grownBy.refl _ _⟩
  · obtain ⟨hH, hg, -, -⟩ := own_holds hown
    refine (Any.slices_Sort_int Try.sortILays g 0 c xs w hH hg (by omega)).mono ?_
    rintro e w' ⟨rfl, m, os, rfl⟩
    obtain ⟨h1, h2⟩ := own_put (ys := sortI xs) (m := m) (os := os) hown (sortI_len xs) (fun y hy => own_i64 hown y ((sortI_mem xs y).1 hy))
    exact ⟨rfl, h1, h2⟩
def CompactPost (w : World) (B : Nat) (v : Value) (ys : List Int) (e : Ending) (w' : World) : Prop :=
  ∃ v', e = .returned v' ∧ Own (fun _ => False) w' B 3 v' ys ∧ w.grownBy w' v.ownBlock ∧ v'.ownBlock = v.ownBlock
theorem compactI_any {w : World} {B : Nat} {v : Value} {xs : List Int} (hown : Own (fun _ => False) w B 3 v xs) (hlen : xs.length ≤ 1000000) :
    Calls Try.prog 47 #[v] w (CompactPost w B v (compactTo xs xs.length)) := by
  rcases own_form hown with ⟨rfl, rfl⟩ | ⟨g, c, rfl⟩
  · refine (Any.slices_Compact_int_empty Try.compactILays none 0 w).mono ?_
    rintro e w' ⟨rfl, rfl⟩
    exact ⟨_, rfl, hown, World.grownBy.refl _ _, rfl⟩
  · obtain ⟨hH, hg, -, hnc⟩ := own_holds hown
    have hcl := compactTo_len xs xs.length
    have hmem : ∀ y ∈ compactTo xs xs.length, y ∈ xs := mem_compactTo xs.length
    refine (Any.slices_Compact_int Try.compactILays g 0 c xs w hH (by omega) hnc).mono ?_
    rw [show Go.Lib.compact xs = compactTo xs xs.length from compact_lib xs.length (Nat.le_refl _)]
    rintro e w' ⟨rfl, q, rfl⟩
    obtain ⟨h1, h2⟩ := own_put (ys := compactTo xs xs.length ++ List.replicate (xs.length - (compactTo xs xs.length).length) 0) (m := q) (os := #[]) hown (by simp; omega) (fun y hy => by
      rcases List.mem_append.1 hy with h | h
      · exact own_i64 hown y (hmem y h)
      · rw [List.eq_of_mem_replicate h]; unfold I64; omega)
    rw [grow_empty] at h1 h2
    have h3 := own_cutI h1 (k := (compactTo xs xs.length).length) hcl
    rw [List.take_append_of_le_length (Nat.le_refl _), List.take_of_length_le (Nat.le_refl _)] at h3
    exact ⟨_, rfl, h3, h2, rfl⟩
end Go.Proofs.Ytffebdngmbbcoaa
