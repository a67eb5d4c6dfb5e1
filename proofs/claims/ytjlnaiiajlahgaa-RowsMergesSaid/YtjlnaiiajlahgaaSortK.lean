/- General: a list of the call's own is handed to the library's sort: what the sort's contract asks of its row, and what it leaves. No program is named here. -/
import Derived.Test.YtjlnaiiajlahgaaMore
import Derived.Shelf.SlSortCmp.KitK
set_option linter.unusedVariables false
set_option linter.unusedSimpArgs false
namespace Go.Bk
open Go.RowKit Go.Sort Go.Shelf Go.Proofs

/-- Elements that lie in cells of their own alone. -/
class FlatRep (α : Type) [Rep α] [Inhabited α] where
  enc : α → List Value
  len : ∀ x, (enc x).length = Rep.sz α
  det : ∀ {S : Nat → Prop} {w : World} {cs : List Value} {x : α}, Rep.cells S w cs x → cs = enc x
  move : ∀ {S S' : Nat → Prop} {w w' : World} {x : α}, Rep.cells S w (enc x) x → Rep.cells S' w' (enc x) x
  one : ∀ x, ∀ v ∈ enc x, v.oneCell' = true

section
variable {α : Type} [Rep α] [Inhabited α] [FlatRep α] {w : World} {B : Nat} {e : TypeId} {v : Value} {xs ys : List α}
theorem flat_sizes (xs : List α) : ∀ cs ∈ xs.map (FlatRep.enc (α := α)), cs.length = Rep.sz α := fun cs h => by
  obtain ⟨x, _, rfl⟩ := List.mem_map.1 h
  exact FlatRep.len x
theorem flat_len (xs : List α) : ((xs.map (FlatRep.enc (α := α))).flatten).length = xs.length * Rep.sz α := by
  induction xs with
  | nil => simp
  | cons x xs ih => rw [List.map_cons, List.flatten_cons, List.length_append, ih, FlatRep.len, List.length_cons, Nat.add_mul]; omega
theorem own_flat (h : Own (fun _ => False) w B e v xs) : w.ownsRow B e (Rep.sz α) v xs.length (xs.map (FlatRep.enc (α := α))).flatten ∧ ∀ x ∈ xs, Rep.cells (fun _ => False) w (FlatRep.enc x) x := by
  obtain ⟨css, h1, h2, ho⟩ := h
  have hcss : css = xs.map (FlatRep.enc (α := α)) := by
    apply List.ext_getElem?
    intro k
    rw [List.getElem?_map]
    cases hx : xs[k]? with
    | none => rw [Option.map_none, List.getElem?_eq_none]; rw [h1]; exact List.getElem?_eq_none_iff.1 hx
    | some x =>
      have hk : k < css.length := by rw [h1]; exact (List.getElem?_eq_some_iff.1 hx).1
      rw [Option.map_some, List.getElem?_eq_getElem hk, FlatRep.det (h2 k x _ hx (List.getElem?_eq_getElem hk))]
  subst hcss
  refine ⟨ho, fun x hx => ?_⟩
  obtain ⟨k, hk⟩ := List.getElem?_of_mem hx
  exact h2 k x _ hk (by rw [List.getElem?_map, hk]; rfl)
theorem own_of_flat (h : w.ownsRow B e (Rep.sz α) v xs.length (xs.map (FlatRep.enc (α := α))).flatten) (hc : ∀ x ∈ xs, Rep.cells (fun _ => False) w (FlatRep.enc x) x) : Own (fun _ => False) w B e v xs :=
  ⟨_, by simp, fun k x cs hx hcs => by
    rw [List.getElem?_map, hx] at hcs
    obtain rfl := Option.some.inj hcs
    exact hc x (List.mem_of_getElem? hx), h⟩
theorem flatK_eq (d : Array α) : (flatK (FlatRep.enc (α := α)) (Rep.sz α) d).toList = (d.toList.map (FlatRep.enc (α := α))).flatten := by
  apply List.ext_getElem?
  intro t
  have hl := flat_len d.toList
  rw [show d.toList.length = d.size from Array.length_toList] at hl
  by_cases ht : t < d.size * Rep.sz α
  · have hk : 0 < Rep.sz α := by rcases Nat.eq_zero_or_pos (Rep.sz α) with h | h; (rw [h] at ht; simp at ht); exact h
    have hq : t / Rep.sz α < d.size := (Nat.div_lt_iff_lt_mul hk).2 ht
    have hm : t % Rep.sz α < Rep.sz α := Nat.mod_lt _ hk
    have h1 := flatten_get (flat_sizes d.toList) (t / Rep.sz α) (t % Rep.sz α) (FlatRep.enc (d[t / Rep.sz α]'hq)) (by rw [List.getElem?_map, Array.getElem?_toList, Array.getElem?_eq_getElem hq]; rfl) hm
    rw [show t / Rep.sz α * Rep.sz α + t % Rep.sz α = t by rw [Nat.mul_comm]; exact Nat.div_add_mod _ _] at h1
    rw [h1, Array.getElem?_toList, Array.getElem?_eq_getElem (by rw [size_flatK]; exact ht)]
    have h2 := get_flatK (FlatRep.enc (α := α)) (Rep.sz α) d t ht
    rw [getElem!_pos _ t (by rw [size_flatK]; exact ht), getElem!_pos d _ hq, getElem!_pos _ _ (by rw [FlatRep.len]; exact hm)] at h2
    rw [h2, List.getElem?_eq_getElem (by rw [FlatRep.len]; exact hm)]
  · rw [List.getElem?_eq_none (by rw [Array.length_toList, size_flatK]; omega), List.getElem?_eq_none (by rw [hl]; omega)]
/-- What the sort asks of the row. -/
theorem own_holdsK {g n cap : Nat} (h : Own (fun _ => False) w B e (.slice (some ⟨g, 0, none⟩) n cap) xs) : HoldsK (FlatRep.enc (α := α)) (Rep.sz α) w g 0 xs.toArray ∧ g < w.heap.size ∧ B ≤ g ∧ n = xs.length := by
  obtain ⟨⟨hl, ⟨h1, -⟩ | ⟨g2, cap2, cur, hv, hg, hh, hle, hm, hcs, ht⟩⟩, hc⟩ := own_flat h
  · cases h1
  · injection hv with e1 e2 e3
    injection e1 with e1
    injection e1 with e1
    subst e1
    refine ⟨fun j hj => ?_, (Array.getElem?_eq_some_iff.1 hh).1, hg, e2⟩
    rw [size_flatK] at hj
    have hj' : j < xs.length * Rep.sz α := by simpa using hj
    refine ⟨?_, by simp [World.frozen?, hh]⟩
    have hf := flatK_eq xs.toArray
    rw [List.toList_toArray] at hf
    have h2 : (flatK (FlatRep.enc (α := α)) (Rep.sz α) xs.toArray)[j]? = cur[j]? := by
      rw [← Array.getElem?_toList, hf, ← ht, List.getElem?_take_of_lt hj', Array.getElem?_toList]
    simp only [World.cell?, hh, Nat.zero_add, Option.isSome_none, Bool.false_eq_true, if_false, id]
    rw [← h2, Array.getElem?_eq_getElem (by rw [size_flatK]; exact hj), getElem!_pos _ j (by rw [size_flatK]; exact hj)]
/-- What the sort leaves. -/
theorem own_sorted {g n cap m : Nat} {os : Array Obj} (h : Own (fun _ => False) w B e (.slice (some ⟨g, 0, none⟩) n cap) xs) (hl : ys.length = xs.length) (hy : ∀ y ∈ ys, y ∈ xs) :
    Own (fun _ => False) (sortWorldK (FlatRep.enc (α := α)) (Rep.sz α) w g 0 m ys.toArray os) B e (.slice (some ⟨g, 0, none⟩) n cap) ys ∧ w.grownBy (sortWorldK (FlatRep.enc (α := α)) (Rep.sz α) w g 0 m ys.toArray os) (some g) := by
  obtain ⟨⟨hll, ⟨h1, -⟩ | ⟨g2, cap2, cur, hv, hg, hh, hle, hm, hcs, ht⟩⟩, hc⟩ := own_flat h
  · cases h1
  injection hv with e1 e2 e3
  injection e1 with e1
  injection e1 with e1
  subst e1 e2 e3
  have hgl : g < w.heap.size := (Array.getElem?_eq_some_iff.1 hh).1
  have hF := flatK_eq ys.toArray
  rw [List.toList_toArray] at hF
  have hFl : (flatK (FlatRep.enc (α := α)) (Rep.sz α) ys.toArray).size = xs.length * Rep.sz α := by rw [size_flatK]; simp [hl]
  obtain ⟨F, hFe⟩ : ∃ F, F = flatK (FlatRep.enc (α := α)) (Rep.sz α) ys.toArray := ⟨_, rfl⟩
  rw [← hFe] at hF hFl
  have hheap : (sortWorldK (FlatRep.enc (α := α)) (Rep.sz α) w g 0 m ys.toArray os).heap[g]? = some (.cells (putCells id 0 F cur) e (0, 0)) := by
    unfold sortWorldK putRowK
    rw [← hFe, heap_grow_old _ _ (by simpa using hgl)]
    simp [putRow, mapBlock, Sort.ahead, Array.getElem?_modify, hh, onCells]
  have hsz : xs.length * Rep.sz α ≤ cur.size := by rw [hcs]; exact Nat.mul_le_mul_right _ hle
  have htk : (putCells id 0 F cur).toList.take (xs.length * Rep.sz α) = F.toList := by
    apply List.ext_getElem?
    intro j
    by_cases hj : j < xs.length * Rep.sz α
    · rw [List.getElem?_take_of_lt hj, Array.getElem?_toList, Array.getElem?_toList]
      simp [putCells, hFl, hj, show j < cur.size by omega]
    · rw [List.getElem?_take_eq_none (by omega), List.getElem?_eq_none (by rw [Array.length_toList, hFl]; omega)]
  refine ⟨own_of_flat ?_ (fun y hyy => FlatRep.move (hc y (hy y hyy))), rfl, rfl, rfl, ?_, fun k hk hne => ?_⟩
  · rw [hl]
    refine ⟨by rw [flat_len, hl], .inr ⟨g, _, _, rfl, hg, hheap, hle, hm, by simp [putCells, hcs], ?_⟩⟩
    rw [htk, hF]
  · unfold sortWorldK putRowK
    simp
  · unfold sortWorldK putRowK
    rw [heap_grow_old _ _ (by simpa using hk)]
    have : g ≠ k := fun e => hne (by rw [e])
    simp [putRow, mapBlock, Sort.ahead, Array.getElem?_modify, this]
end
end Go.Bk
