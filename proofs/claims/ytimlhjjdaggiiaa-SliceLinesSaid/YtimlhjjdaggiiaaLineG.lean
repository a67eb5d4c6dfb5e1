/- The lines that one hangs on: the document's walk down, and the program's, in plain Lean. -/
import Derived.Test.YtimlhjjdaggiiaaLineF
import Derived.Test.YtimlhjjdaggiiaaSliceD
set_option linter.unusedVariables false
set_option linter.unusedSimpArgs false
namespace Go.Proofs.Ytimlhjjdaggiiaa.line
open Go.Bk Go.RowKit

def sel (l : List Api.DLet) (bs : List Bool) (j : Nat) : Option Api.DLet := if bs.getD j false then l[j]? else none
def pickTo (l : List Api.DLet) (bs : List Bool) (k : Nat) : List Api.DLet := (List.range k).filterMap (sel l bs)
def pickFrom (l : List Api.DLet) (bs : List Bool) (q n : Nat) : List Api.DLet := (List.range' q (n - q)).filterMap (sel l bs)
theorem pickTo_succ (l : List Api.DLet) (bs : List Bool) (k : Nat) : pickTo l bs (k + 1) = pickTo l bs k ++ (sel l bs k).toList := by
  unfold pickTo
  rw [List.range_succ, List.filterMap_append]
  cases h : sel l bs k <;> simp [h]
theorem sel_true {l : List Api.DLet} {bs : List Bool} {j : Nat} {x : Api.DLet} (hb : bs[j]? = some true) (hx : l[j]? = some x) : sel l bs j = some x := by unfold sel; rw [List.getD_eq_getElem?_getD, hb]; exact hx
theorem sel_false {l : List Api.DLet} {bs : List Bool} {j : Nat} (hb : bs[j]? = some false) : sel l bs j = none := by unfold sel; rw [List.getD_eq_getElem?_getD, hb]; rfl
theorem pickTo_len (l : List Api.DLet) (bs : List Bool) (k : Nat) : (pickTo l bs k).length ≤ k := by
  unfold pickTo; exact Nat.le_trans (List.length_filterMap_le _ _) (by simp)
theorem pickFrom_len (l : List Api.DLet) (bs : List Bool) (q n : Nat) : (pickFrom l bs q n).length ≤ n := by
  unfold pickFrom; exact Nat.le_trans (List.length_filterMap_le _ _) (by simp)
theorem pickFrom_true {l : List Api.DLet} {bs : List Bool} {q n : Nat} {x : Api.DLet} (h : q < n) (hb : bs[q]? = some true) (hx : l[q]? = some x) : pickFrom l bs q n = x :: pickFrom l bs (q + 1) n := by
  unfold pickFrom
  rw [show n - q = (n - (q + 1)) + 1 by omega, List.range'_succ, List.filterMap_cons, sel_true hb hx]
theorem pickFrom_false {l : List Api.DLet} {bs : List Bool} {q n : Nat} (h : q < n) (hb : bs[q]? = some false) : pickFrom l bs q n = pickFrom l bs (q + 1) n := by
  unfold pickFrom
  rw [show n - q = (n - (q + 1)) + 1 by omega, List.range'_succ, List.filterMap_cons, sel_false hb]
theorem fmap_congr {α β : Type} {f g : α → Option β} : ∀ {xs : List α}, (∀ x ∈ xs, f x = g x) → xs.filterMap f = xs.filterMap g
  | [], _ => rfl
  | x :: xs, h => by rw [List.filterMap_cons, List.filterMap_cons, h x (List.mem_cons_self ..), fmap_congr (xs := xs) (fun y hy => h y (List.mem_cons_of_mem _ hy))]
theorem pickFrom_set {l : List Api.DLet} {bs : List Bool} {q n u : Nat} {b : Bool} (h : u < q) : pickFrom l (bs.set u b) q n = pickFrom l bs q n := by
  unfold pickFrom
  refine fmap_congr fun j hj => ?_
  have : q ≤ j := by have := List.mem_range'.1 hj; omega
  unfold sel
  rw [List.getD_eq_getElem?_getD, List.getD_eq_getElem?_getD, List.getElem?_set_ne (by omega)]
theorem pickFrom_zero (l : List Api.DLet) (bs : List Bool) (n : Nat) : pickFrom l bs 0 n = pickTo l bs n := by unfold pickFrom pickTo; rw [List.range_eq_range', Nat.sub_zero]
theorem pickFrom_end (l : List Api.DLet) (bs : List Bool) (n : Nat) : pickFrom l bs n n = [] := by unfold pickFrom; simp

theorem read_lt {l : List Api.DLet} {k : Nat} {x : Api.DLet} {n u : Int} (h : u ∈ readBy l k x n) : 0 ≤ u ∧ u < k := by
  unfold readBy at h
  split at h
  · cases hl : lastBelow l n k with
    | none => rw [hl] at h; simp at h
    | some j => rw [hl] at h; simp at h; have := lastBelow_lt hl; omega
  · simp at h
theorem part2 (l : List Api.DLet) (k : Nat) (x : Api.DLet) : partOf l k x 2 = readBy l k x x.A ++ readBy l k x x.B := by simp [partOf]
theorem deps_get {l : List Api.DLet} {k : Nat} {x : Api.DLet} (h : l[k]? = some x) : (depsOf l)[k]? = some { Uses := readBy l k x x.A ++ readBy l k x x.B } := by
  have hk := (List.getElem?_eq_some_iff.1 h).1
  unfold depsOf
  rw [List.getElem?_map, List.getElem?_range hk]
  simp [usesOf, h, part2]
theorem uses_get {l : List Api.DLet} {k : Nat} {x : Api.DLet} (h : l[k]? = some x) : slice.usesAt (depsOf l) k = readBy l k x x.A ++ readBy l k x x.B := slice.usesAt_some (deps_get h)
theorem deps_valid (l : List Api.DLet) : slice.Valid (depsOf l) := fun k d hk hd => by
  obtain ⟨x, hx⟩ : ∃ x, l[k]? = some x := ⟨_, List.getElem?_eq_getElem (by rw [deps_len] at hk; exact hk)⟩
  rw [deps_get hx] at hd
  cases hd
  unfold slice.okAt
  rw [List.all_eq_true]
  intro u hu
  rcases List.mem_append.1 hu with hu | hu <;> have := read_lt hu <;> simp <;> omega
theorem last_take {l : List Api.DLet} {m : Nat} {n : Int} {k : Nat} (h : k ≤ m) : lastBelow (l.take m) n k = lastBelow l n k := by
  induction k with
  | zero => rfl
  | succ k ih =>
    have he : (l.take m)[k]? = l[k]? := by rw [List.getElem?_take, if_pos (by omega)]
    rw [lastBelow, lastBelow, ih (by omega), he]
theorem uses_take {l : List Api.DLet} {m k : Nat} (h : k < m) (hm : m ≤ l.length) : slice.usesAt (depsOf (l.take m)) k = slice.usesAt (depsOf l) k := by
  obtain ⟨x, hx⟩ : ∃ x, l[k]? = some x := ⟨_, List.getElem?_eq_getElem (by omega)⟩
  have hx' : (l.take m)[k]? = some x := by rw [List.getElem?_take, if_pos h, hx]
  rw [uses_get hx, uses_get hx']
  unfold readBy
  rw [last_take (Nat.le_of_lt h), last_take (Nat.le_of_lt h)]
theorem has_take {l : List Api.DLet} {m n k : Nat} (h : k ≤ m) (hm : m ≤ l.length) : slice.hasList (depsOf (l.take m)) n k = slice.hasList (depsOf l) n k := by
  induction k with
  | zero => rfl
  | succ k ih => rw [slice.hasList, slice.hasList, ih (by omega), uses_take (by omega) hm]
theorem hangs_take {l : List Api.DLet} {m i n : Nat} (h : i < m) (hm : m ≤ l.length) : slice.hangs (depsOf (l.take m)) i n = slice.hangs (depsOf l) i n := by unfold slice.hangs; rw [has_take h hm]

/-- The lines that line i hangs on. -/
def aloneOf (l : List Api.DLet) (i : Nat) : List Api.DLet := pickTo l (slice.backOf (depsOf l) i) l.length
theorem back_get {l : List Api.DDep} {i k : Nat} (h : k < l.length) : (slice.backOf l i)[k]? = some (slice.hangs l i k) := by unfold slice.backOf; rw [List.getElem?_map, List.getElem?_range h]; rfl
theorem pick_same {l : List Api.DLet} {cs bs : List Bool} {n : Nat} (h : ∀ k, k < n → cs[k]? = bs[k]?) : pickTo l cs n = pickTo l bs n := by
  unfold pickTo
  refine fmap_congr fun k hk => ?_
  unfold sel
  rw [List.getD_eq_getElem?_getD, List.getD_eq_getElem?_getD, h k (List.mem_range.1 hk)]
theorem pick_more {l : List Api.DLet} {bs : List Bool} {n : Nat} (d : Nat) (h : ∀ k, n ≤ k → k < n + d → bs[k]? = some false) : pickTo l bs (n + d) = pickTo l bs n := by
  induction d with
  | zero => rw [Nat.add_zero]
  | succ d ih => rw [← Nat.add_assoc, pickTo_succ, ih (fun k h1 h2 => h k h1 (by omega)), sel_false (h _ (by omega) (by omega)), Option.toList_none, List.append_nil]
theorem alone_eq {l : List Api.DLet} {i : Nat} (hi : i < l.length) : pickTo l (slice.backOf (depsOf (l.take (i + 1))) i) (i + 1) = aloneOf l i := by
  have hlen : (l.take (i + 1)).length = i + 1 := by rw [List.length_take]; omega
  have h1 : pickTo l (slice.backOf (depsOf (l.take (i + 1))) i) (i + 1) = pickTo l (slice.backOf (depsOf l) i) (i + 1) := pick_same fun k hk => by
    rw [back_get (by rw [deps_len, hlen]; omega), back_get (by rw [deps_len]; omega), hangs_take (by omega) (by omega)]
  have h2 := pick_more (l := l) (bs := slice.backOf (depsOf l) i) (n := i + 1) (l.length - (i + 1)) (fun k h1 h2 => by
    rw [back_get (by rw [deps_len]; omega), slice.hangs_below (deps_valid l) (by omega)])
  rw [h1, aloneOf, ← h2]
  congr 1
  omega

def markAll (bs : List Bool) (us : List Int) : List Bool := us.foldl (fun b u => b.set u.toNat true) bs
theorem markAll_append (bs : List Bool) (us vs : List Int) : markAll bs (us ++ vs) = markAll (markAll bs us) vs := List.foldl_append
theorem back_mark {l : List Api.DDep} (hv : slice.Valid l) {i k : Nat} {bs : List Bool} (h : slice.BackInv l i (k + 1) bs) (hk : bs[k]? = some true) : slice.BackInv l i k (markAll bs (slice.usesAt l k)) := by
  have h1 : ∀ j, j ≤ (slice.usesAt l k).length → slice.BackPart l i k j (markAll bs ((slice.usesAt l k).take j)) := by
    intro j
    induction j with
    | zero => intro _; exact ⟨by simpa [markAll] using h, by simpa [markAll] using hk, fun u hu => by simp at hu⟩
    | succ j ih =>
      intro hj
      obtain ⟨u, hu⟩ : ∃ u, (slice.usesAt l k)[j]? = some u := ⟨_, List.getElem?_eq_getElem (by omega)⟩
      have := (ih (by omega)).step hv hu
      rw [List.take_add_one, hu, markAll_append]
      exact this
  have := h1 _ (Nat.le_refl _)
  rw [List.take_length] at this
  exact this.finish
theorem mark_none {l : List Api.DLet} {n : Int} {k : Nat} {x : Api.DLet} (h : lastBelow l n k = none) (bs : List Bool) : markAll bs (readBy l k x n) = bs := by rw [read_none h]; rfl
theorem mark_some {l : List Api.DLet} {n : Int} {k j : Nat} {x : Api.DLet} (h : lastBelow l n k = some j) (ho : x.Op < 3) (bs : List Bool) : markAll bs (readBy l k x n) = bs.set j true := by rw [read_some h ho]; rfl
theorem pick_mark {l : List Api.DLet} {bs : List Bool} {q n : Nat} {us : List Int} (h : ∀ u ∈ us, 0 ≤ u ∧ u < (q : Int)) : pickFrom l (markAll bs us) q n = pickFrom l bs q n := by
  induction us generalizing bs with
  | nil => rfl
  | cons u us ih =>
    have hu := h u (List.mem_cons_self ..)
    show pickFrom l (markAll (bs.set u.toNat true) us) q n = _
    rw [ih (fun v hv => h v (List.mem_cons_of_mem _ hv)), pickFrom_set (by omega)]
/-- A round of the document's walk. -/
theorem round_true {l : List Api.DLet} {i k : Nat} {x : Api.DLet} {bs : List Bool} (hi : i < l.length) (hk : k ≤ i) (hx : l[k]? = some x) (h : slice.BackInv (depsOf (l.take (i + 1))) i (k + 1) bs) (hb : bs[k]? = some true) {bs' : List Bool} (he : markAll (markAll bs (readBy l k x x.A)) (readBy l k x x.B) = bs') :
    slice.BackInv (depsOf (l.take (i + 1))) i k bs' ∧ pickFrom l bs' k (i + 1) = x :: pickFrom l bs (k + 1) (i + 1) := by
  have hu : slice.usesAt (depsOf (l.take (i + 1))) k = readBy l k x x.A ++ readBy l k x x.B := by rw [uses_take (by omega) (by omega), uses_get hx]
  have hm := back_mark (deps_valid _) h hb
  rw [hu, markAll_append, he] at hm
  have hr : ∀ u ∈ readBy l k x x.A ++ readBy l k x x.B, 0 ≤ u ∧ u < (k : Int) := fun u hu => by rcases List.mem_append.1 hu with hu | hu <;> exact read_lt hu
  refine ⟨hm, ?_⟩
  have hp : pickFrom l bs' k (i + 1) = pickFrom l bs k (i + 1) := by
    rw [← he, ← markAll_append]; exact pick_mark hr
  rw [hp, pickFrom_true (by omega) hb hx]
theorem round_false {l : List Api.DLet} {i k : Nat} {bs : List Bool} (hk : k ≤ i) (h : slice.BackInv (depsOf (l.take (i + 1))) i (k + 1) bs) (hb : bs[k]? = some false) :
    slice.BackInv (depsOf (l.take (i + 1))) i k bs ∧ pickFrom l bs k (i + 1) = pickFrom l bs (k + 1) (i + 1) := ⟨h.down hb, pickFrom_false (by omega) hb⟩
theorem round_end {l : List Api.DLet} {i : Nat} {bs : List Bool} (hi : i < l.length) (h : slice.BackInv (depsOf (l.take (i + 1))) i 0 bs) : pickFrom l bs 0 (i + 1) = aloneOf l i := by
  rw [pickFrom_zero, slice.backOf_eq (deps_valid _) h, alone_eq hi]
theorem round_start {l : List Api.DLet} {i : Nat} (hi : i < l.length) : slice.BackInv (depsOf (l.take (i + 1))) i (i + 1) ((List.replicate (i + 1) false).set i true) ∧ pickFrom l ((List.replicate (i + 1) false).set i true) (i + 1) (i + 1) = [] := by
  have hlen : (l.take (i + 1)).length = i + 1 := by rw [List.length_take]; omega
  have := slice.BackInv.first (l := depsOf (l.take (i + 1))) (i := i) (by rw [deps_len, hlen]; omega)
  rw [deps_len, hlen] at this
  exact ⟨this, pickFrom_end _ _ _⟩
theorem readBy_three {l : List Api.DLet} {k : Nat} {x : Api.DLet} {n : Int} (h : x.Op = 3) : readBy l k x n = [] := read_op (by omega)
end Go.Proofs.Ytimlhjjdaggiiaa.line
