/- General, plain: a sorted list made single; sorted lists with the same elements. No program is named here. -/
import Derived.Lib.SlicesCompact
set_option linter.unusedVariables false
set_option linter.unusedSimpArgs false
namespace Go.Bk.srt

section
variable {α : Type} [DecidableEq α]
/-- Of the first n those that are not as the one ahead. -/
def compactTo (l : List α) : Nat → List α
  | 0 => []
  | n + 1 => match l[n]? with
    | some x => if 0 < n ∧ l[n - 1]? = some x then compactTo l n else compactTo l n ++ [x]
    | none => compactTo l n
theorem compactTo_succ {l : List α} {n : Nat} {x : α} (h : l[n]? = some x) : compactTo l (n + 1) = if 0 < n ∧ l[n - 1]? = some x then compactTo l n else compactTo l n ++ [x] := by
  rw [compactTo, h]
theorem compactTo_len (l : List α) : ∀ n, (compactTo l n).length ≤ n
  | 0 => Nat.le_refl _
  | n + 1 => by
    have ih := compactTo_len l n
    rw [compactTo]
    split
    · split
      · omega
      · rw [List.length_append]; simp; omega
    · omega
theorem mem_compactTo {l : List α} : ∀ n, ∀ y ∈ compactTo l n, y ∈ l
  | 0, y, h => by simp [compactTo] at h
  | n + 1, y, h => by
    rw [compactTo] at h
    split at h
    · rename_i x hx
      split at h
      · exact mem_compactTo n y h
      · rcases List.mem_append.1 h with h | h
        · exact mem_compactTo n y h
        · simp at h; subst h; exact List.mem_of_getElem? hx
    · exact mem_compactTo n y h
/-- Of a sorted list: the same elements, each once, rising. -/
theorem compactTo_sorted {lt : α → α → Prop} (htr : ∀ x y z, lt x y → lt y z → lt x z) {l : List α} (hs : ∀ (i : Nat) x y, l[i]? = some x → l[i + 1]? = some y → x = y ∨ lt x y) :
    ∀ n, n ≤ l.length → (compactTo l n).Pairwise lt ∧ (∀ x, x ∈ compactTo l n ↔ x ∈ l.take n) ∧ (∀ x, 0 < n → l[n - 1]? = some x → (compactTo l n).getLast? = some x)
  | 0, _ => by simp [compactTo]
  | n + 1, hn => by
    obtain ⟨ih1, ih2, ih3⟩ := compactTo_sorted htr hs n (by omega)
    obtain ⟨x, hx⟩ : ∃ x, l[n]? = some x := ⟨_, List.getElem?_eq_getElem (by omega)⟩
    rw [compactTo_succ hx]
    have ht : l.take (n + 1) = l.take n ++ [x] := by rw [List.take_add_one, hx]; rfl
    by_cases h : 0 < n ∧ l[n - 1]? = some x
    · rw [if_pos h]
      refine ⟨ih1, fun y => ?_, fun y _ hy => ?_⟩
      · rw [ih2, ht, List.mem_append, List.mem_singleton]
        constructor
        · exact .inl
        · rintro (h1 | rfl)
          · exact h1
          · rw [List.mem_iff_getElem?]
            exact ⟨n - 1, by rw [List.getElem?_take_of_lt (by omega)]; exact h.2⟩
      · rw [show n + 1 - 1 = n by omega, hx] at hy
        injection hy with hy
        subst hy
        exact ih3 _ h.1 h.2
    · rw [if_neg h]
      refine ⟨?_, fun y => ?_, fun y _ hy => ?_⟩
      · rw [List.pairwise_append]
        refine ⟨ih1, by simp, fun a ha b hb => ?_⟩
        simp at hb
        subst hb
        by_cases h0 : 0 < n
        · obtain ⟨z, hz⟩ : ∃ z, l[n - 1]? = some z := ⟨_, List.getElem?_eq_getElem (by omega)⟩
          have hzx : lt z b := by
            rcases hs (n - 1) z b hz (by rw [show n - 1 + 1 = n by omega]; exact hx) with h1 | h1
            · subst h1; exact absurd ⟨h0, hz⟩ h
            · exact h1
          have hl := ih3 z h0 hz
          obtain ⟨m, hm⟩ : ∃ m, compactTo l n = m ++ [z] := by
            have := List.getLast?_eq_some_iff.1 hl
            exact this
          rw [hm] at ih1 ha
          rw [List.pairwise_append] at ih1
          rcases List.mem_append.1 ha with h1 | h1
          · exact htr _ _ _ (ih1.2.2 a h1 z (by simp)) hzx
          · simp at h1; subst h1; exact hzx
        · obtain rfl : n = 0 := by omega
          simp [compactTo] at ha
      · rw [List.mem_append, ih2, ht, List.mem_append]
      · rw [show n + 1 - 1 = n by omega, hx] at hy
        rw [List.getLast?_append]
        simpa using hy
/-- The library's word for it. -/
theorem compact_lib {l : List α} [Inhabited α] [BEq α] [LawfulBEq α] : ∀ m, m ≤ l.length → Go.Lib.compactUpTo l.toArray m = compactTo l m
  | 0, _ => by simp [Go.Lib.compactUpTo, compactTo]
  | m + 1, h => by
    obtain ⟨x, hx⟩ : ∃ x, l[m]? = some x := ⟨_, List.getElem?_eq_getElem (by omega)⟩
    have hxe : l.toArray[m]! = x := by
      rw [getElem!_pos l.toArray m (by simp; omega)]
      simpa using (List.getElem?_eq_some_iff.1 hx).2
    rw [Go.Lib.compactUpTo_succ, compact_lib m (by omega), compactTo_succ hx, hxe]
    by_cases h0 : 0 < m
    · obtain ⟨y, hy⟩ : ∃ y, l[m - 1]? = some y := ⟨_, List.getElem?_eq_getElem (by omega)⟩
      have hye : l.toArray[m - 1]! = y := by
        rw [getElem!_pos l.toArray (m - 1) (by simp; omega)]
        simpa using (List.getElem?_eq_some_iff.1 hy).2
      by_cases he : x = y
      · subst he
        have h1 := Go.Lib.keeps_neg (d := l.toArray) h0 (by rw [hxe, hye])
        simp [h1, h0, hy]
      · have h1 := Go.Lib.keeps_pos (d := l.toArray) (m := m) (by rw [hxe, hye]; exact he)
        have h2 : ¬ y = x := fun e => he e.symm
        simp [h1, h0, hy, h2]
    · have h1 := Go.Lib.keeps_lt_one l.toArray m (by omega)
      simp [h1, h0]
end
theorem sorted_ext : ∀ {l m : List Int}, l.Pairwise (· < ·) → m.Pairwise (· < ·) → (∀ x, x ∈ l ↔ x ∈ m) → l = m
  | [], [], _, _, _ => rfl
  | [], b :: m, _, _, h => by have := (h b).2 (by simp); simp at this
  | a :: l, [], _, _, h => by have := (h a).1 (by simp); simp at this
  | a :: l, b :: m, hl, hm, h => by
    rw [List.pairwise_cons] at hl hm
    have hab : a = b := by
      have h1 := (h a).1 (by simp)
      have h2 := (h b).2 (by simp)
      rcases List.mem_cons.1 h1 with e | h1
      · exact e
      · rcases List.mem_cons.1 h2 with e | h2
        · exact e.symm
        · have := hl.1 b h2; have := hm.1 a h1; omega
    subst hab
    rw [sorted_ext hl.2 hm.2 fun x => ?_]
    constructor
    · intro hx
      rcases List.mem_cons.1 ((h x).1 (List.mem_cons_of_mem _ hx)) with e | h2
      · subst e; have := hl.1 x hx; omega
      · exact h2
    · intro hx
      rcases List.mem_cons.1 ((h x).2 (List.mem_cons_of_mem _ hx)) with e | h2
      · subst e; have := hm.1 x hx; omega
      · exact h2
/-- Sorted, each once. -/
def sortI (l : List Int) : List Int := l.mergeSort fun x y => decide (x ≤ y)
def setI (l : List Int) : List Int := compactTo (sortI l) (sortI l).length
theorem sortI_len (l : List Int) : (sortI l).length = l.length := (List.mergeSort_perm l _).length_eq
theorem sortI_mem (l : List Int) (x : Int) : x ∈ sortI l ↔ x ∈ l := (List.mergeSort_perm l _).mem_iff
theorem setI_spec (l : List Int) : (setI l).Pairwise (· < ·) ∧ ∀ x, x ∈ setI l ↔ x ∈ l := by
  have hs : (sortI l).Pairwise (fun x y => (decide (x ≤ y)) = true) := List.pairwise_mergeSort (le := fun x y : Int => decide (x ≤ y)) (fun a b c h1 h2 => by simp at *; omega) (fun a b => by simp; omega) l
  have h := compactTo_sorted (lt := fun x y : Int => x < y) (fun x y z => by omega) (l := sortI l) (fun i x y hx hy => by
    have hlt := (List.getElem?_eq_some_iff.1 hy).1
    have hlt0 := (List.getElem?_eq_some_iff.1 hx).1
    have h1 := List.pairwise_iff_getElem.1 hs i (i + 1) hlt0 hlt (by omega)
    have e1 := (List.getElem?_eq_some_iff.1 hx).2
    have e2 := (List.getElem?_eq_some_iff.1 hy).2
    rw [e1, e2] at h1
    simp at h1
    omega) _ (Nat.le_refl _)
  refine ⟨h.1, fun x => ?_⟩
  rw [show x ∈ setI l ↔ _ from h.2.1 x, List.take_length, sortI_mem]
theorem setI_eq {l m : List Int} (hm : m.Pairwise (· < ·)) (h : ∀ x, x ∈ l ↔ x ∈ m) : setI l = m := sorted_ext (setI_spec l).1 hm fun x => ((setI_spec l).2 x).trans (h x)
end Go.Bk.srt
