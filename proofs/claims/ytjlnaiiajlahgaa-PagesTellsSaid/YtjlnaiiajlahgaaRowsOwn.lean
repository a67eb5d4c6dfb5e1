/- General: a slice of slices that a call makes itself: it grows, and each of its rows grows by itself. No program is named here. -/
import Derived.Test.YtjlnaiiajlahgaaApart
set_option linter.unusedVariables false
set_option linter.unusedSimpArgs false
namespace Go.Bk
open Go.RowKit

/-- A cell's value, taken as it stands. -/
structure Hd where
  val : Value
  one : val.oneCell' = true
instance : Rep Hd where
  sz := 1
  cells := fun _ _ cs x => cs = [x.val]
  len := by rintro S w cs x rfl; rfl
  keep := fun _ h => h
  mono := fun _ h => h
  one := by rintro S w cs x rfl u hu; simp at hu; subst hu; exact x.one
def nilHd : Hd := ⟨.slice none 0 0, rfl⟩
theorem hd_cells {S : Nat → Prop} {w : World} (x : Hd) : Rep.cells S w [x.val] x := rfl

/-- v holds slices, each of which owns its list, all apart. -/
structure RowsOwn {α : Type} [Rep α] (w : World) (B : Nat) (eS e : TypeId) (v : Value) (hs : List Hd) (ls : List (List α)) : Prop where
  out : Own (fun _ => False) w B eS v hs
  len : hs.length = ls.length
  row : ∀ (j : Nat) (h : Hd) (l : List α), hs[j]? = some h → ls[j]? = some l → Own (fun _ => False) w B e h.val l
  apart : ∀ (i j : Nat) (g h : Hd), i ≠ j → hs[i]? = some g → hs[j]? = some h → Apart g.val h.val
  off : ∀ (j : Nat) (h : Hd), hs[j]? = some h → Apart h.val v

section
variable {α : Type} [Rep α] {w w' : World} {B : Nat} {eS e : TypeId} {v v' : Value} {hs : List Hd} {ls : List (List α)}

theorem RowsOwn.nil (w : World) (B : Nat) (eS e : TypeId) : RowsOwn w B eS e (.slice none 0 0) [] ([] : List (List α)) :=
  ⟨Own.nil _ _ _ _, rfl, fun j h l hh => by simp at hh, fun i j g h _ hh => by simp at hh, fun j h hh => by simp at hh⟩
theorem RowsOwn.get (h : RowsOwn w B eS e v hs ls) {r : Nat} {l : List α} (hl : ls[r]? = some l) : ∃ x, hs[r]? = some x :=
  ⟨_, List.getElem?_eq_getElem (by rw [h.len]; exact (List.getElem?_eq_some_iff.1 hl).1)⟩
theorem RowsOwn.getL (h : RowsOwn w B eS e v hs ls) {r : Nat} {x : Hd} (hl : hs[r]? = some x) : ∃ l, ls[r]? = some l :=
  ⟨_, List.getElem?_eq_getElem (by rw [← h.len]; exact (List.getElem?_eq_some_iff.1 hl).1)⟩
theorem RowsOwn.below (h : RowsOwn w B eS e v hs ls) (hb : Below w.heap.size w w') : RowsOwn w' B eS e v hs ls :=
  ⟨h.out.below hb (fun _ h => h.elim), h.len, fun j x l hx hl => (h.row j x l hx hl).below hb (fun _ h => h.elim), h.apart, h.off⟩
theorem apart_ne {u v : Value} (h : Apart u v) : u.ownBlock = none ∨ u.ownBlock ≠ v.ownBlock := by
  cases hu : u.ownBlock with
  | none => exact .inl rfl
  | some k => right; intro e; exact h k hu e.symm
/-- Another block was grown, that is none of these. -/
theorem RowsOwn.keep (h : RowsOwn w B eS e v hs ls) {u : Value} (hg : w.grownBy w' u.ownBlock) (hv : Apart u v) (hr : ∀ (j : Nat) (x : Hd), hs[j]? = some x → Apart u x.val) : RowsOwn w' B eS e v hs ls :=
  ⟨h.out.apart hg hv (fun _ h => h.elim), h.len, fun j x l hx hl => (h.row j x l hx hl).apart hg (hr j x hx) (fun _ h => h.elim), h.apart, h.off⟩
/-- A nil row more. -/
theorem RowsOwn.pushNil (h : RowsOwn w B eS e v hs ls) (ho : Own (fun _ => False) w' B eS v' (hs ++ [nilHd])) (hg : w.grownBy w' v.ownBlock) (hst : Stay w v v') : RowsOwn w' B eS e v' (hs ++ [nilHd]) (ls ++ [[]]) where
  out := ho
  len := by simp [h.len]
  row := fun j x l hx hl => by
    by_cases hj : j < hs.length
    · rw [List.getElem?_append_left hj] at hx
      rw [List.getElem?_append_left (by rw [← h.len]; exact hj)] at hl
      exact (h.row j x l hx hl).apart hg (h.off j x hx).symm (fun _ h => h.elim)
    · rw [List.getElem?_append_right (by omega)] at hx
      rw [List.getElem?_append_right (by rw [← h.len]; omega), ← h.len] at hl
      have h0 : j - hs.length = 0 := by have := (List.getElem?_eq_some_iff.1 hx).1; simp at this; exact this
      rw [h0] at hx hl
      simp at hx hl
      subst hx hl
      exact Own.nil _ _ _ _
  apart := fun i j g x hij hgi hxj => by
    by_cases hi : i < hs.length
    · rw [List.getElem?_append_left hi] at hgi
      by_cases hj : j < hs.length
      · rw [List.getElem?_append_left hj] at hxj
        exact h.apart i j g x hij hgi hxj
      · rw [List.getElem?_append_right (by omega)] at hxj
        have h0 : j - hs.length = 0 := by have := (List.getElem?_eq_some_iff.1 hxj).1; simp at this; exact this
        rw [h0] at hxj
        simp at hxj
        subst hxj
        exact Apart.nil_right _ _ _
    · rw [List.getElem?_append_right (by omega)] at hgi
      have h0 : i - hs.length = 0 := by have := (List.getElem?_eq_some_iff.1 hgi).1; simp at this; exact this
      rw [h0] at hgi
      simp at hgi
      subst hgi
      exact Apart.nil_left _ _ _
  off := fun j x hx => by
    by_cases hj : j < hs.length
    · rw [List.getElem?_append_left hj] at hx
      obtain ⟨l, hl⟩ := h.getL hx
      exact ((h.off j x hx).symm.moved hst (fun k hk => ((h.row j x l hx hl).lt k hk).2)).symm
    · rw [List.getElem?_append_right (by omega)] at hx
      have h0 : j - hs.length = 0 := by have := (List.getElem?_eq_some_iff.1 hx).1; simp at this; exact this
      rw [h0] at hx
      simp at hx
      subst hx
      exact Apart.nil_left _ _ _
/-- A row more, that is the call's own and apart from all others. -/
theorem RowsOwn.push (h : RowsOwn w B eS e v hs ls) {x : Hd} {L : List α} (ho : Own (fun _ => False) w' B eS v' (hs ++ [x])) (hg : w.grownBy w' v.ownBlock) (hst : Stay w v v') (hx : Own (fun _ => False) w B e x.val L) (hxv : Apart x.val v) (hxs : ∀ (j : Nat) (y : Hd), hs[j]? = some y → Apart x.val y.val) :
    RowsOwn w' B eS e v' (hs ++ [x]) (ls ++ [L]) where
  out := ho
  len := by simp [h.len]
  row := fun j y l hy hl => by
    by_cases hj : j < hs.length
    · rw [List.getElem?_append_left hj] at hy
      rw [List.getElem?_append_left (by rw [← h.len]; exact hj)] at hl
      exact (h.row j y l hy hl).apart hg (h.off j y hy).symm (fun _ h => h.elim)
    · rw [List.getElem?_append_right (by omega)] at hy
      rw [List.getElem?_append_right (by rw [← h.len]; omega), ← h.len] at hl
      have h0 : j - hs.length = 0 := by have := (List.getElem?_eq_some_iff.1 hy).1; simp at this; exact this
      rw [h0] at hy hl
      simp at hy hl
      subst hy hl
      exact hx.apart hg hxv.symm (fun _ h => h.elim)
  apart := fun i j g y hij hgi hyj => by
    by_cases hi : i < hs.length
    · rw [List.getElem?_append_left hi] at hgi
      by_cases hj : j < hs.length
      · rw [List.getElem?_append_left hj] at hyj
        exact h.apart i j g y hij hgi hyj
      · rw [List.getElem?_append_right (by omega)] at hyj
        have h0 : j - hs.length = 0 := by have := (List.getElem?_eq_some_iff.1 hyj).1; simp at this; exact this
        rw [h0] at hyj
        simp at hyj
        subst hyj
        exact (hxs i g hgi).symm
    · rw [List.getElem?_append_right (by omega)] at hgi
      have h0 : i - hs.length = 0 := by have := (List.getElem?_eq_some_iff.1 hgi).1; simp at this; exact this
      rw [h0] at hgi
      simp at hgi
      subst hgi
      by_cases hj : j < hs.length
      · rw [List.getElem?_append_left hj] at hyj
        exact hxs j y hyj
      · have := (List.getElem?_eq_some_iff.1 hyj).1
        simp at this
        omega
  off := fun j y hy => by
    by_cases hj : j < hs.length
    · rw [List.getElem?_append_left hj] at hy
      obtain ⟨l, hl⟩ := h.getL hy
      exact ((h.off j y hy).symm.moved hst (fun k hk => ((h.row j y l hy hl).lt k hk).2)).symm
    · rw [List.getElem?_append_right (by omega)] at hy
      have h0 : j - hs.length = 0 := by have := (List.getElem?_eq_some_iff.1 hy).1; simp at this; exact this
      rw [h0] at hy
      simp at hy
      subst hy
      exact (hxv.symm.moved hst (fun k hk => (hx.lt k hk).2)).symm
theorem RowsOwn.at (h : RowsOwn w B eS e v hs ls) {r : Nat} {x : Hd} (hx : hs[r]? = some x) : ∃ g cap, v = .slice (some ⟨g, 0, none⟩) hs.length cap ∧ B ≤ g ∧ g < w.heap.size ∧ w.cell? ⟨g, r, none⟩ = some x.val ∧ w.frozen? ⟨g, r, none⟩ = false := by
  obtain ⟨g, cap, cs, rfl, h1, h2, h3, h4, h5, h6, h7⟩ := h.out.at hx
  obtain rfl : cs = [x.val] := h4
  exact ⟨g, cap, rfl, h1, h2, by simpa [show Rep.sz Hd = 1 from rfl] using h5 0 Nat.zero_lt_one, h6 r⟩
/-- Row r was grown, and is put back. -/
theorem RowsOwn.grow (h : RowsOwn w B eS e v hs ls) {r g n c : Nat} {x x' : Hd} {l' : List α} (hv : v = .slice (some ⟨g, 0, none⟩) n c) (hx : hs[r]? = some x) (hg : w.grownBy w' x.val.ownBlock) (hown : Own (fun _ => False) w' B e x'.val l') (hst : Stay w x.val x'.val) :
    RowsOwn (w'.setCell ⟨g, r, none⟩ x'.val) B eS e v (hs.set r x') (ls.set r l') := by
  subst hv
  have hrl : r < hs.length := (List.getElem?_eq_some_iff.1 hx).1
  have hvb : (Value.slice (some ⟨g, 0, none⟩) n c).ownBlock = some g := rfl
  have hglt : g < w.heap.size := (h.out.lt g hvb).2
  have hout' := h.out.apart hg (h.off r x hx) (fun _ h => h.elim)
  obtain ⟨g', cap, cs, he, h1, h2, h3, h4, h5, h6, h7⟩ := hout'.at hx
  cases he
  have hset := h7 0 x'.val x' Nat.zero_lt_one (fun _ h => h.elim) (by rw [show cs = [x.val] from h4]; rfl)
  rw [show r * Rep.sz Hd + 0 = r by simp [show Rep.sz Hd = 1 from rfl]] at hset
  have hother : ∀ b, b ≠ g → (w'.setCell ⟨g, r, none⟩ x'.val).heap[b]? = w'.heap[b]? := fun b hb => by
    simp only [World.setCell]
    rw [Array.getElem?_modify, if_neg (fun e => hb e.symm)]
  have hgb : w'.grownBy (w'.setCell ⟨g, r, none⟩ x'.val) (some g) := ⟨rfl, rfl, rfl, by simp [World.setCell], fun k _ hne => hother k (fun e => hne (by rw [e]))⟩
  have hoff' : ∀ n c, Apart x'.val (.slice (some ⟨g, 0, none⟩) n c) := fun n c k hk he => by
    rcases hst k hk with h1 | h1
    · exact h.off r x hx k h1 he
    · have : g = k := Option.some.inj he
      omega
  refine ⟨hset, by simp [h.len], fun j y l hy hl => ?_, fun i j y z hij hy hz => ?_, fun j y hy => ?_⟩
  · by_cases hj : r = j
    · subst hj
      rw [List.getElem?_set_self hrl] at hy
      rw [List.getElem?_set_self (by rw [← h.len]; exact hrl)] at hl
      cases hy; cases hl
      exact hown.keep hgb (apart_ne (hoff' 0 0)) (fun _ h => h.elim)
    · rw [List.getElem?_set_ne hj] at hy hl
      exact ((h.row j y l hy hl).apart hg (h.apart r j x y hj hx hy) (fun _ h => h.elim)).keep hgb (apart_ne (h.off j y hy)) (fun _ h => h.elim)
  · by_cases hi : r = i
    · subst hi
      rw [List.getElem?_set_self hrl] at hy
      cases hy
      rw [List.getElem?_set_ne hij] at hz
      obtain ⟨l, hl⟩ := h.getL hz
      exact (h.apart r j x z hij hx hz).moved hst (fun k hk => ((h.row j z l hz hl).lt k hk).2)
    · rw [List.getElem?_set_ne hi] at hy
      by_cases hj : r = j
      · subst hj
        rw [List.getElem?_set_self hrl] at hz
        cases hz
        obtain ⟨l, hl⟩ := h.getL hy
        exact ((h.apart r i x y hi hx hy).moved hst (fun k hk => ((h.row i y l hy hl).lt k hk).2)).symm
      · rw [List.getElem?_set_ne hj] at hz
        exact h.apart i j y z hij hy hz
  · by_cases hj : r = j
    · subst hj
      rw [List.getElem?_set_self hrl] at hy
      cases hy
      exact hoff' _ _
    · rw [List.getElem?_set_ne hj] at hy
      exact h.off j y hy
theorem Own.base {β : Type} [Rep β] {S : Nat → Prop} {B' : Nat} {ys : List β} (h : Own S w B e v ys) (hB : B' ≤ B) : Own S w B' e v ys := by
  obtain ⟨css, h1, h2, hl, ho⟩ := h
  refine ⟨css, h1, h2, hl, ?_⟩
  rcases ho with ho | ⟨g, cap, cur, hv, hg, hr⟩
  · exact .inl ho
  · exact .inr ⟨g, cap, cur, hv, Nat.le_trans hB hg, hr⟩
theorem RowsOwn.base {B' : Nat} (h : RowsOwn w B eS e v hs ls) (hB : B' ≤ B) : RowsOwn w B' eS e v hs ls :=
  ⟨Own.base h.out hB, h.len, fun j x l hx hl => Own.base (h.row j x l hx hl) hB, h.apart, h.off⟩
theorem RowsOwn.keepLow {gN : Nat} (h : RowsOwn w B eS e v hs ls) (hg : w.grownBy w' (some gN)) (hlt : gN < B) : RowsOwn w' B eS e v hs ls := by
  refine RowsOwn.keep (u := .slice (some ⟨gN, 0, none⟩) 0 0) h hg (fun k hk he => ?_) (fun j x hx k hk he => ?_)
  · have : gN = k := Option.some.inj hk
    have := (h.out.lt k he).1
    omega
  · have : gN = k := Option.some.inj hk
    obtain ⟨l, hl⟩ := h.getL hx
    have := ((h.row j x l hx hl).lt k he).1
    omega
theorem RowsOwn.form (h : RowsOwn w B eS e v hs ls) : ∃ a cap, v = .slice a ls.length cap ∧ ls.length ≤ cap ∧ (a = none → cap = 0) := by
  obtain ⟨a, c, h1, h2, h3, -⟩ := h.out.arr
  rw [h.len] at h1 h2
  exact ⟨a, c, h1, h2, h3⟩
/-- All rows, as they are read. -/
theorem RowsOwn.arr {n c : Nat} {a : Option Addr} (h : RowsOwn w B eS e (.slice a n c) hs ls) : Arr (fun b => B ≤ b ∧ b < w.heap.size) w a ls := by
  obtain ⟨a', cap, he, hle, hnil, harr⟩ := h.out.arr
  cases he
  refine ⟨by rw [← h.len]; exact harr.small, ?_⟩
  by_cases h0 : ls = []
  · exact .inl h0
  · have hh : hs ≠ [] := fun e => h0 (List.eq_nil_of_length_eq_zero (by rw [← h.len, e]; rfl))
    obtain ⟨x0, hx0⟩ : ∃ x, hs[0]? = some x := ⟨_, List.getElem?_eq_getElem (List.length_pos_iff.2 hh)⟩
    obtain ⟨g, cap', hv, hB, hglt, -, -⟩ := h.at hx0
    cases hv
    refine .inr ⟨g, 0, rfl, ⟨hB, hglt⟩, fun k l hk => ?_⟩
    obtain ⟨x, hx⟩ := h.get hk
    obtain ⟨g2, cap2, hv2, -, -, hcell, -⟩ := h.at hx
    cases hv2
    obtain ⟨a1, c1, hv1, hc1, hn1, harr1⟩ := (h.row k x l hx hk).arr
    refine ⟨[.slice a1 l.length c1], ⟨a1, c1, rfl, hc1, hn1, harr1.mono fun b hb => hb.elim False.elim id⟩, fun j hj => ?_⟩
    have hj0 : j = 0 := by have : j < 1 := hj; omega
    subst hj0
    show w.cell? ⟨g, 0 + k * 1 + 0, none⟩ = some _
    rw [show 0 + k * 1 + 0 = k by omega, hcell, hv1]
end
end Go.Bk
