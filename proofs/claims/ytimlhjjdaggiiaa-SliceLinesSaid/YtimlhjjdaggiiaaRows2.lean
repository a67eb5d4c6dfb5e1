/- General: a row of slices that a call makes itself, each grown by itself. No program is named here. -/
import Derived.Test.YtimlhjjdaggiiaaApart
set_option linter.unusedVariables false
set_option linter.unusedSimpArgs false
namespace Go.Bk
open Go.RowKit

/-- Block g holds slices, each of which owns its list, all apart. -/
structure OwnRows {α : Type} [Rep α] (w : World) (B g : Nat) (eS e : TypeId) (vs : List Value) (ls : List (List α)) : Prop where
  blk : Blk w g eS vs
  base : B ≤ g
  len : vs.length = ls.length
  own : ∀ (j : Nat) (v : Value) (l : List α), vs[j]? = some v → ls[j]? = some l → Own (fun _ => False) w B e v l
  apart : ∀ (i j : Nat) (u v : Value), i ≠ j → vs[i]? = some u → vs[j]? = some v → Apart u v
  off : ∀ (j : Nat) (v : Value), vs[j]? = some v → v.ownBlock ≠ some g

section
variable {α : Type} [Rep α] {w w' : World} {B g : Nat} {eS e : TypeId} {vs : List Value} {ls : List (List α)}

/-- All nil. -/
theorem OwnRows.made {n : Nat} (hb : Blk w g eS (List.replicate n (.slice none 0 0))) (hB : B ≤ g) : OwnRows w B g eS e (List.replicate n (.slice none 0 0)) (List.replicate n ([] : List α)) where
  blk := hb
  base := hB
  len := by simp
  own := fun j v l hv hl => by
    rw [List.getElem?_replicate] at hv hl
    split at hv
    · rename_i h
      rw [if_pos h] at hl
      cases hv; cases hl
      exact Own.nil _ _ _ _
    · cases hv
  apart := fun i j u v _ hu hv => by
    rw [List.getElem?_replicate] at hu
    split at hu
    · cases hu; exact Apart.nil_left _ _ _
    · cases hu
  off := fun j v hv => by
    rw [List.getElem?_replicate] at hv
    split at hv
    · cases hv; simp [Value.ownBlock]
    · cases hv

theorem OwnRows.below (h : OwnRows w B g eS e vs ls) (hb : Below w.heap.size w w') : OwnRows w' B g eS e vs ls :=
  ⟨h.blk.keep (hb.block g h.blk.lt), h.base, h.len, fun j v l hv hl => (h.own j v l hv hl).below hb (fun _ h => h.elim), h.apart, h.off⟩

theorem OwnRows.at (h : OwnRows w B g eS e vs ls) {r : Nat} {l : List α} (hl : ls[r]? = some l) : ∃ v, vs[r]? = some v ∧ Own (fun _ => False) w B e v l ∧ w.cell? ⟨g, r, none⟩ = some v ∧ w.frozen? ⟨g, r, none⟩ = false := by
  have hr : r < vs.length := by rw [h.len]; exact (List.getElem?_eq_some_iff.1 hl).1
  have hv := List.getElem?_eq_getElem hr
  exact ⟨vs[r], hv, h.own r _ l hv hl, h.blk.cell hv, h.blk.frozen r⟩

/-- Row r was grown, and is put back. -/
theorem OwnRows.grow (h : OwnRows w B g eS e vs ls) {r : Nat} {v v' : Value} {l' : List α} (hv : vs[r]? = some v) (hg : w.grownBy w' v.ownBlock) (hown : Own (fun _ => False) w' B e v' l') (hst : Stay w v v') :
    OwnRows (w'.setCell ⟨g, r, none⟩ v') B g eS e (vs.set r v') (ls.set r l') := by
  have hgw : w'.heap[g]? = w.heap[g]? := hg.block g h.blk.lt (fun he => h.off r v hv he.symm)
  have hb' : Blk w' g eS vs := h.blk.keep hgw
  have hset : ∀ b, b ≠ g → (w'.setCell ⟨g, r, none⟩ v').heap[b]? = w'.heap[b]? := fun b hb => by
    simp only [World.setCell]
    rw [Array.getElem?_modify, if_neg (fun e => hb e.symm)]
  have hgb : w'.grownBy (w'.setCell ⟨g, r, none⟩ v') (some g) := ⟨rfl, rfl, rfl, by simp [World.setCell], fun k _ hne => hset k (fun e => hne (by rw [e]))⟩
  have hoff : v'.ownBlock ≠ some g := fun he => by
    rcases hst g he with h1 | h1
    · exact h.off r v hv h1
    · have := h.blk.lt; omega
  have hrl : r < vs.length := (List.getElem?_eq_some_iff.1 hv).1
  refine ⟨hb'.set r v', h.base, by simp [h.len], fun j u l hu hl => ?_, fun i j u x hij hu hx => ?_, fun j u hu => ?_⟩
  · by_cases hj : r = j
    · subst hj
      rw [List.getElem?_set_self hrl] at hu
      rw [List.getElem?_set_self (by rw [← h.len]; exact hrl)] at hl
      cases hu; cases hl
      exact hown.keep hgb (.inr hoff) (fun _ h => h.elim)
    · rw [List.getElem?_set_ne hj] at hu hl
      refine ((h.own j u l hu hl).apart hg (h.apart r j v u hj hv hu) (fun _ h => h.elim)).keep hgb (.inr (h.off j u hu)) (fun _ h => h.elim)
  · by_cases hi : r = i
    · subst hi
      rw [List.getElem?_set_self hrl] at hu
      cases hu
      rw [List.getElem?_set_ne hij] at hx
      obtain ⟨l, hl⟩ : ∃ l, ls[j]? = some l := ⟨_, List.getElem?_eq_getElem (by rw [← h.len]; exact (List.getElem?_eq_some_iff.1 hx).1)⟩
      exact (h.apart r j v x hij hv hx).moved hst (fun k hk => ((h.own j x l hx hl).lt k hk).2)
    · rw [List.getElem?_set_ne hi] at hu
      by_cases hj : r = j
      · subst hj
        rw [List.getElem?_set_self hrl] at hx
        cases hx
        obtain ⟨l, hl⟩ : ∃ l, ls[i]? = some l := ⟨_, List.getElem?_eq_getElem (by rw [← h.len]; exact (List.getElem?_eq_some_iff.1 hu).1)⟩
        exact ((h.apart r i v u hi hv hu).moved hst (fun k hk => ((h.own i u l hu hl).lt k hk).2)).symm
      · rw [List.getElem?_set_ne hj] at hx
        exact h.apart i j u x hij hu hx
  · by_cases hj : r = j
    · subst hj
      rw [List.getElem?_set_self hrl] at hu
      cases hu
      exact hoff
    · rw [List.getElem?_set_ne hj] at hu
      exact h.off j u hu

theorem OwnRows.belowOf (h : OwnRows w B g eS e vs ls) {w0 : World} (hb : Below B w0 w) {r : Nat} {v v' : Value} {l : List α} (hv : vs[r]? = some v) (hl : ls[r]? = some l) (hg : w.grownBy w' v.ownBlock) : Below B w0 (w'.setCell ⟨g, r, none⟩ v') :=
  (hb.grown hg (Nat.le_trans h.base (Nat.le_of_lt h.blk.lt)) (fun k hk => ((h.own r v l hv hl).lt k hk).1)).setCell (p := ⟨g, r, none⟩) h.base v'

/-- All rows, as they are read. -/
theorem OwnRows.arr {w0 : World} (h : OwnRows w w0.heap.size g eS e vs ls) (hl : ls.length ≤ maxLen) : Arr (Fresh w0 w) w (some ⟨g, 0, none⟩) ls := by
  refine ⟨hl, .inr ⟨g, 0, rfl, ⟨h.base, h.blk.lt⟩, fun k l hk => ?_⟩⟩
  obtain ⟨v, hv, hown, hcell, -⟩ := h.at hk
  obtain ⟨a, cap, rfl, hc, hn, ha⟩ := own_fresh hown
  refine ⟨[.slice a l.length cap], ⟨a, cap, rfl, hc, hn, ha⟩, fun j hj => ?_⟩
  have hj0 : j = 0 := by have : j < 1 := hj; omega
  subst hj0
  show w.cell? ⟨g, 0 + k * 1 + 0, none⟩ = some _
  rw [show 0 + k * 1 + 0 = k by omega]
  exact hcell
end
end Go.Bk
