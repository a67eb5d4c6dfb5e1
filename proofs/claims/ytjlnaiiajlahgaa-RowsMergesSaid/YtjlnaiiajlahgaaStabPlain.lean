/- Plain: stable sorting of an array by an integer key: what swaps of neighbours, a rotation, a merge leave. -/
import Derived.Sort.LotA
set_option linter.unusedVariables false
set_option linter.unusedSimpArgs false
namespace Go.Bk.Stab
open Go.Sort

section
variable {α : Type} [Inhabited α] (key : α → Int)

/-- Those of one key. -/
def Fil (K : Int) (l : List α) : List α := l.filter fun x => decide (key x = K)
omit [Inhabited α] in
theorem fil_append (K : Int) (l m : List α) : Fil key K (l ++ m) = Fil key K l ++ Fil key K m := by unfold Fil; rw [List.filter_append]
omit [Inhabited α] in
theorem fil_none {K : Int} {l : List α} (h : ∀ x ∈ l, key x ≠ K) : Fil key K l = [] := by
  unfold Fil
  rw [List.filter_eq_nil_iff]
  intro x hx
  simpa using h x hx
omit [Inhabited α] in
/-- Two parts whose keys differ change places. -/
theorem fil_turn {p u v r : List α} (h : ∀ x ∈ u, ∀ y ∈ v, key x ≠ key y) (K : Int) : Fil key K (p ++ v ++ u ++ r) = Fil key K (p ++ u ++ v ++ r) := by
  simp only [fil_append, List.append_assoc]
  congr 1
  by_cases hu : ∃ x ∈ u, key x = K
  · obtain ⟨x, hx, hk⟩ := hu
    have : Fil key K v = [] := fil_none key fun y hy e => h x hx y hy (hk.trans e.symm)
    rw [this]
    simp
  · have : Fil key K u = [] := fil_none key fun x hx e => hu ⟨x, hx, e⟩
    rw [this]
    simp
/-- From d to d2 only places from lo to hi are turned about, and equals keep their order. -/
structure Mv (lo hi : Nat) (d d2 : Array α) : Prop where
  size : d2.size = d.size
  out : ∀ t, t < lo ∨ hi ≤ t → d2[t]! = d[t]!
  inn : ∀ t, lo ≤ t → t < hi → ∃ s, lo ≤ s ∧ s < hi ∧ d2[t]! = d[s]!
  fil : ∀ K, Fil key K d2.toList = Fil key K d.toList
variable {key}
theorem Mv.refl (lo hi : Nat) (d : Array α) : Mv key lo hi d d := ⟨rfl, fun _ _ => rfl, fun t h1 h2 => ⟨t, h1, h2, rfl⟩, fun _ => rfl⟩
theorem Mv.trans {lo hi : Nat} {d d2 d3 : Array α} (h : Mv key lo hi d d2) (h' : Mv key lo hi d2 d3) : Mv key lo hi d d3 :=
  ⟨h'.size.trans h.size, fun t ht => (h'.out t ht).trans (h.out t ht), fun t h1 h2 => by
    obtain ⟨s, s1, s2, e⟩ := h'.inn t h1 h2
    obtain ⟨s', s3, s4, e'⟩ := h.inn s s1 s2
    exact ⟨s', s3, s4, e.trans e'⟩, fun K => (h'.fil K).trans (h.fil K)⟩
theorem Mv.wide {lo hi lo' hi' : Nat} {d d2 : Array α} (h : Mv key lo hi d d2) (h1 : lo' ≤ lo) (h2 : hi ≤ hi') : Mv key lo' hi' d d2 :=
  ⟨h.size, fun t ht => h.out t (by omega), fun t t1 t2 => by
    by_cases hin : lo ≤ t ∧ t < hi
    · obtain ⟨s, s1, s2, e⟩ := h.inn t hin.1 hin.2
      exact ⟨s, by omega, by omega, e⟩
    · exact ⟨t, t1, t2, h.out t (by omega)⟩, h.fil⟩
variable (key)
/-- From lo to hi keys do not fall. -/
def SR (d : Array α) (lo hi : Nat) : Prop := ∀ i j, lo ≤ i → i < j → j < hi → key d[i]! ≤ key d[j]!
variable {key}
theorem SR.same {d d2 : Array α} {lo hi : Nat} (h : SR key d lo hi) (he : ∀ t, lo ≤ t → t < hi → d2[t]! = d[t]!) : SR key d2 lo hi := fun i j h1 h2 h3 => by
  rw [he i h1 (by omega), he j (by omega) h3]
  exact h i j h1 h2 h3
theorem SR.less {d : Array α} {lo hi lo' hi' : Nat} (h : SR key d lo hi) (h1 : lo ≤ lo') (h2 : hi' ≤ hi) : SR key d lo' hi' := fun i j a b c => h i j (by omega) b (by omega)
theorem SR.one (d : Array α) {lo hi : Nat} (h : hi ≤ lo + 1) : SR key d lo hi := fun i j h1 h2 h3 => by omega
theorem SR.le {d : Array α} {lo hi i j : Nat} (h : SR key d lo hi) (h1 : lo ≤ i) (h2 : i ≤ j) (h3 : j < hi) : key d[i]! ≤ key d[j]! := by
  rcases Nat.lt_or_ge i j with hl | hg
  · exact h i j h1 hl h3
  · rw [show i = j by omega]; exact Int.le_refl _
/-- Two runs, the one not above the other. -/
theorem SR.join {d : Array α} {lo mid hi : Nat} (h1 : SR key d lo mid) (h2 : SR key d mid hi) (h : ∀ i j, lo ≤ i → i < mid → mid ≤ j → j < hi → key d[i]! ≤ key d[j]!) : SR key d lo hi := fun i j a b c => by
  by_cases hj : j < mid
  · exact h1 i j a b hj
  · by_cases hi : i < mid
    · exact h i j a hi (by omega) c
    · exact h2 i j (by omega) b c
theorem get_toList (d : Array α) (i : Nat) (h : i < d.size) : d.toList[i]? = some d[i]! := by
  rw [Array.getElem?_toList, Array.getElem?_eq_getElem h, getElem!_pos d i h]
theorem get_swp (d : Array α) {i j : Nat} (hi : i < d.size) (hj : j < d.size) (hij : i ≠ j) (t : Nat) : (swp d i j)[t]! = if t = i then d[j]! else if t = j then d[i]! else d[t]! := by
  by_cases h1 : t = i
  · subst h1; rw [if_pos rfl]; exact swp_left d t j hi hij
  · by_cases h2 : t = j
    · subst h2; rw [if_neg h1, if_pos rfl]; exact swp_right d i t hj
    · rw [if_neg h1, if_neg h2]; exact swp_other d i j t h1 h2
theorem ext_get {d d2 : Array α} (hs : d.size = d2.size) (h : ∀ t, t < d.size → d[t]! = d2[t]!) : d = d2 := by
  apply Array.ext hs
  intro i h1 h2
  have := h i h1
  rw [getElem!_pos d i h1, getElem!_pos d2 i h2] at this
  exact this
theorem swp_comm (d : Array α) {i j : Nat} (hi : i < d.size) (hj : j < d.size) (hij : i ≠ j) : swp d i j = swp d j i := by
  refine ext_get (by rw [size_swp, size_swp]) fun t _ => ?_
  rw [get_swp d hi hj hij, get_swp d hj hi (Ne.symm hij)]
  by_cases h1 : t = i <;> by_cases h2 : t = j <;> simp [h1, h2] <;> omega
omit [Inhabited α] in
/-- The list of an array, cut. -/
theorem list_cut (d : Array α) {a b : Nat} (h1 : a ≤ b) (h2 : b ≤ d.size) : d.toList = d.toList.take a ++ (d.toList.drop a).take (b - a) ++ d.toList.drop b := by
  have : d.toList.drop b = (d.toList.drop a).drop (b - a) := by rw [List.drop_drop]; congr 1; omega
  rw [this, List.append_assoc, List.take_append_drop, List.take_append_drop]
theorem mem_part {d : Array α} {a n : Nat} {x : α} (hx : x ∈ (d.toList.drop a).take n) : ∃ t, a ≤ t ∧ t < a + n ∧ t < d.size ∧ x = d[t]! := by
  obtain ⟨k, hk⟩ := List.getElem?_of_mem hx
  have hl := (List.getElem?_eq_some_iff.1 hk).1
  rw [List.length_take, List.length_drop, Array.length_toList] at hl
  rw [List.getElem?_take_of_lt (by omega), List.getElem?_drop, get_toList d _ (by omega)] at hk
  exact ⟨a + k, by omega, by omega, by omega, (Option.some.inj hk).symm⟩
/-- Where a place's element came from in a rotation. -/
def rotI (a m b t : Nat) : Nat := if a ≤ t ∧ t < a + (b - m) then t + (m - a) else if a + (b - m) ≤ t ∧ t < b then t - (b - m) else t
def swapI (a b n t : Nat) : Nat := if a ≤ t ∧ t < a + n then b + (t - a) else if b ≤ t ∧ t < b + n then a + (t - b) else t
theorem rot_list {d d2 : Array α} {a m b : Nat} (h1 : a ≤ m) (h2 : m ≤ b) (h3 : b ≤ d.size) (hs : d2.size = d.size) (h : ∀ t, t < d.size → d2[t]! = d[rotI a m b t]!) :
    d2.toList = d.toList.take a ++ (d.toList.drop m).take (b - m) ++ (d.toList.drop a).take (m - a) ++ d.toList.drop b := by
  apply List.ext_getElem?
  intro t
  by_cases ht : t < d.size
  · rw [get_toList d2 t (by omega), h t ht]
    unfold rotI
    by_cases c1 : t < a
    · rw [if_neg (by omega), if_neg (by omega), List.append_assoc, List.append_assoc, List.getElem?_append_left (by rw [List.length_take, Array.length_toList]; omega), List.getElem?_take_of_lt c1, get_toList d t ht]
    · rw [List.append_assoc, List.append_assoc, List.getElem?_append_right (by rw [List.length_take, Array.length_toList]; omega), List.length_take, Array.length_toList, Nat.min_eq_left (by omega)]
      by_cases c2 : t < a + (b - m)
      · rw [if_pos ⟨by omega, c2⟩, List.getElem?_append_left (by rw [List.length_take, List.length_drop, Array.length_toList]; omega), List.getElem?_take_of_lt (by omega), List.getElem?_drop, get_toList d _ (by omega)]
        congr 2; omega
      · rw [if_neg (by omega), List.getElem?_append_right (by rw [List.length_take, List.length_drop, Array.length_toList]; omega), List.length_take, List.length_drop, Array.length_toList, Nat.min_eq_left (by omega)]
        by_cases c3 : t < b
        · rw [if_pos ⟨by omega, c3⟩, List.getElem?_append_left (by rw [List.length_take, List.length_drop, Array.length_toList]; omega), List.getElem?_take_of_lt (by omega), List.getElem?_drop, get_toList d _ (by omega)]
          congr 2; omega
        · rw [if_neg (by omega), List.getElem?_append_right (by rw [List.length_take, List.length_drop, Array.length_toList]; omega), List.length_take, List.length_drop, Array.length_toList, Nat.min_eq_left (by omega), List.getElem?_drop, get_toList d _ (by omega)]
          congr 2; omega
  · rw [List.getElem?_eq_none (by rw [Array.length_toList]; omega), List.getElem?_eq_none]
    simp only [List.length_append, List.length_take, List.length_drop, Array.length_toList]
    omega
/-- A rotation of two parts of which the one's keys are above the other's. -/
theorem Mv.rot {d d2 : Array α} {a m b : Nat} (h1 : a ≤ m) (h2 : m ≤ b) (h3 : b ≤ d.size) (hs : d2.size = d.size) (h : ∀ t, t < d.size → d2[t]! = d[rotI a m b t]!) (hk : ∀ i j, a ≤ i → i < m → m ≤ j → j < b → key d[j]! < key d[i]!) : Mv key a b d d2 := by
  refine ⟨hs, fun t ht => ?_, fun t t1 t2 => ⟨rotI a m b t, ?_, ?_, h t (by omega)⟩, fun K => ?_⟩
  · by_cases hl : t < d.size
    · rw [h t hl]; unfold rotI; rw [if_neg (by omega), if_neg (by omega)]
    · rw [getElem!_neg d2 t (by omega), getElem!_neg d t hl]
  · unfold rotI; split <;> (try split) <;> omega
  · unfold rotI; split <;> (try split) <;> omega
  · rw [rot_list h1 h2 h3 hs h]
    have e : d.toList = d.toList.take a ++ (d.toList.drop a).take (m - a) ++ (d.toList.drop m).take (b - m) ++ d.toList.drop b := by
      conv => lhs; rw [list_cut d h1 (by omega)]
      have : d.toList.drop b = (d.toList.drop m).drop (b - m) := by rw [List.drop_drop]; congr 1; omega
      rw [this, List.append_assoc, List.append_assoc, List.append_assoc, List.take_append_drop]
    conv => rhs; rw [e]
    refine fil_turn key (fun x hx y hy => ?_) K
    obtain ⟨i, i1, i2, i3, rfl⟩ := mem_part hx
    obtain ⟨j, j1, j2, j3, rfl⟩ := mem_part hy
    have := hk i j i1 (by omega) j1 (by omega)
    omega
/-- Two neighbours, the left above the right, change places. -/
theorem Mv.swp {d : Array α} {lo hi i : Nat} (h1 : lo ≤ i) (h2 : i + 1 < hi) (h3 : i + 1 < d.size) (hk : key d[i + 1]! < key d[i]!) : Mv key lo hi d (swp d (i + 1) i) := by
  have hr : Mv key i (i + 2) d (Go.Sort.swp d (i + 1) i) := by
    refine Mv.rot (m := i + 1) (by omega) (by omega) (by omega) (size_swp _ _ _) (fun t ht => ?_) (fun a b a1 a2 b1 b2 => ?_)
    · rw [get_swp d h3 (by omega) (by omega)]
      unfold rotI
      by_cases e1 : t = i + 1
      · subst e1; rw [if_pos rfl, if_neg (by omega), if_pos (by omega)]; congr 1; omega
      · rw [if_neg e1]
        by_cases e2 : t = i
        · subst e2; rw [if_pos rfl, if_pos (by omega)]; congr 1; omega
        · rw [if_neg e2, if_neg (by omega), if_neg (by omega)]
    · rw [show a = i by omega, show b = i + 1 by omega]; exact hk
  exact hr.wide h1 (by omega)
theorem swap_rot1 {m i j t : Nat} (h1 : j < i) (h2 : i ≤ m) : swapI (m - i) m j (rotI (m - (i - j)) m (m + j) t) = rotI (m - i) m (m + j) t := by
  unfold swapI rotI
  (repeat' split) <;> omega
theorem swap_rot2 {m i j t : Nat} (h1 : i < j) (h2 : i ≤ m) : swapI (m - i) (m + j - i) i (rotI (m - i) m (m + (j - i)) t) = rotI (m - i) m (m + j) t := by
  unfold swapI rotI
  (repeat' split) <;> omega
theorem swap_rot0 {m i t : Nat} (h2 : i ≤ m) : swapI (m - i) m i t = rotI (m - i) m (m + i) t := by
  unfold swapI rotI
  (repeat' split) <;> omega
omit [Inhabited α] in
/-- The same keys, each in its order, and rising: one list. -/
theorem sorted_one : ∀ {l m : List α}, l.Pairwise (fun x y => key x ≤ key y) → m.Pairwise (fun x y => key x ≤ key y) → (∀ K, Fil key K l = Fil key K m) → l = m
  | [], [], _, _, _ => rfl
  | [], y :: m, _, _, h => by
    have := h (key y)
    rw [show Fil key (key y) (y :: m) = y :: Fil key (key y) m from List.filter_cons_of_pos (by simp)] at this
    cases this
  | x :: l, [], _, _, h => by
    have := h (key x)
    rw [show Fil key (key x) (x :: l) = x :: Fil key (key x) l from List.filter_cons_of_pos (by simp)] at this
    cases this
  | x :: l, y :: m, hl, hm, h => by
    rw [List.pairwise_cons] at hl hm
    have hxm : x ∈ y :: m := by
      have := h (key x)
      rw [show Fil key (key x) (x :: l) = x :: Fil key (key x) l from List.filter_cons_of_pos (by simp)] at this
      have : x ∈ Fil key (key x) (y :: m) := this ▸ List.mem_cons_self ..
      exact (List.mem_filter.1 this).1
    have hyl : y ∈ x :: l := by
      have := h (key y)
      rw [show Fil key (key y) (y :: m) = y :: Fil key (key y) m from List.filter_cons_of_pos (by simp)] at this
      have : y ∈ Fil key (key y) (x :: l) := this ▸ List.mem_cons_self ..
      exact (List.mem_filter.1 this).1
    have hk : key x = key y := by
      have h1 : key y ≤ key x := by
        rcases List.mem_cons.1 hxm with e | e
        · rw [e]; exact Int.le_refl _
        · exact hm.1 x e
      have h2 : key x ≤ key y := by
        rcases List.mem_cons.1 hyl with e | e
        · rw [e]; exact Int.le_refl _
        · exact hl.1 y e
      omega
    have h0 := h (key x)
    rw [show Fil key (key x) (x :: l) = x :: Fil key (key x) l from List.filter_cons_of_pos (by simp), show Fil key (key x) (y :: m) = y :: Fil key (key x) m from List.filter_cons_of_pos (by simp [hk])] at h0
    injection h0 with hxy h0
    subst hxy
    congr 1
    refine sorted_one hl.2 hm.2 fun K => ?_
    have := h K
    by_cases hK : key x = K
    · subst hK; exact h0
    · rw [show Fil key K (x :: l) = Fil key K l from List.filter_cons_of_neg (by simpa using hK), show Fil key K (x :: m) = Fil key K m from List.filter_cons_of_neg (by simpa using hK)] at this
      exact this
theorem SR.list {d : Array α} (h : SR key d 0 d.size) : d.toList.Pairwise (fun x y => key x ≤ key y) := by
  rw [List.pairwise_iff_getElem]
  intro i j hi hj hij
  rw [Array.length_toList] at hi hj
  have := h i j (Nat.zero_le _) hij hj
  rw [getElem!_pos d i hi, getElem!_pos d j hj] at this
  simpa using this
end
end Go.Bk.Stab
