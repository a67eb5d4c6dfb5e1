/- PagesTells, plain: a number set in a version; a version dropped. -/
import Derived.Test.YtjlnaiiajlahgaaPagL
set_option linter.unusedVariables false
set_option linter.unusedSimpArgs false
namespace Go.Proofs.Ytjlnaiiajlahgaa.pag
open Go.Bk

theorem cnt_cons (x : Int) (l : List Int) (p : Int) : cnt (x :: l) p = (if x = p then 1 else 0) + cnt l p := by
  have := cnt_append [x] l p
  rw [cnt_one] at this
  exact this
/-- A row put in the place of another. -/
theorem cnt_set : ∀ (l : List (List Int)) (q : Nat) (r t : List Int) (p : Int), l[q]? = some r → cnt (l.set q t).flatten p + cnt r p = cnt l.flatten p + cnt t p
  | [], q, r, t, p, h => by simp at h
  | x :: l, 0, r, t, p, h => by
    simp at h
    subst h
    rw [List.set_cons_zero, List.flatten_cons, List.flatten_cons, cnt_append, cnt_append]
    omega
  | x :: l, q + 1, r, t, p, h => by
    have := cnt_set l q r t p (by simpa using h)
    rw [List.set_cons_succ, List.flatten_cons, List.flatten_cons, cnt_append, cnt_append]
    omega
theorem cnt_nonneg (l : List Int) (p : Int) : 0 ≤ cnt l p := (cnt_range l p).1
theorem cnt_take_le (l : List Int) (k : Nat) (p : Int) : cnt (l.take k) p ≤ cnt l p := by
  have := cnt_append (l.take k) (l.drop k) p
  rw [List.take_append_drop] at this
  have := cnt_nonneg (l.drop k) p
  omega
theorem cnt_row_le {l : List (List Int)} {q : Nat} {r : List Int} (h : l[q]? = some r) (p : Int) : cnt r p ≤ cnt l.flatten p := by
  have h1 := cnt_set l q r [] p h
  rw [cnt_nil] at h1
  have := cnt_nonneg (l.set q []).flatten p
  omega
theorem cnt_pos {l : List Int} {k : Nat} {p : Int} (h : l[k]? = some p) : 0 < cnt l p := by
  unfold cnt
  have : p ∈ l.filter (fun x => decide (x = p)) := List.mem_filter.2 ⟨List.mem_of_getElem? h, by simp⟩
  have := List.length_pos_of_mem this
  omega
theorem cnt_none {l : List Int} {p : Int} (h : ∀ x ∈ l, x ≠ p) : cnt l p = 0 := by
  unfold cnt
  rw [List.filter_eq_nil_iff.2 fun x hx => by simpa using h x hx]
  rfl
theorem flat_ok {P : Nat} {l : List (List Int)} (h : okRoots P l) : ∀ x ∈ l.flatten, okP P x := fun x hx => by
  obtain ⟨r, hr, hx⟩ := List.mem_flatten.1 hx
  exact (h r hr).2 x hx

/-! ### A version dropped -/
def dropU (s : Store) (r : List Int) (k : Nat) : List Int := (List.range s.pages.length).map fun (i : Nat) => cnt s.roots.flatten (i : Int) - cnt (r.take k) (i : Int)
def dropP (s : Store) (r : List Int) (k : Nat) : List Four := (List.range s.pages.length).map fun (i : Nat) => if cnt s.roots.flatten (i : Int) - cnt (r.take k) (i : Int) = 0 then zero4 else (s.pages[i]?).getD zero4
theorem dropU_len (s : Store) (r : List Int) (k : Nat) : (dropU s r k).length = s.pages.length := by unfold dropU; simp
theorem dropP_len (s : Store) (r : List Int) (k : Nat) : (dropP s r k).length = s.pages.length := by unfold dropP; simp
theorem dropU_at {s : Store} {r : List Int} {k i : Nat} (h : i < s.pages.length) : (dropU s r k)[i]? = some (cnt s.roots.flatten (i : Int) - cnt (r.take k) (i : Int)) := by unfold dropU; simp [h]
theorem dropP_at {s : Store} {r : List Int} {k i : Nat} (h : i < s.pages.length) : (dropP s r k)[i]? = some (if cnt s.roots.flatten (i : Int) - cnt (r.take k) (i : Int) = 0 then zero4 else (s.pages[i]?).getD zero4) := by unfold dropP; simp [h]
theorem right_kept {s : Store} (h : Right s) {i : Nat} (hi : i < s.pages.length) (hc : cnt s.roots.flatten (i : Int) = 0) : s.pages[i]? = some zero4 := by
  have := h.2.2 i hi
  unfold okPage at this
  rw [List.getElem?_eq_getElem hi] at this ⊢
  rw [this.2 hc]
theorem drop_zero {s : Store} (h : Right s) (r : List Int) : dropU s r 0 = s.uses ∧ dropP s r 0 = s.pages := by
  refine ⟨?_, ?_⟩
  · rw [← h.2.1]
    unfold dropU outOf
    refine List.map_congr_left fun i _ => ?_
    rw [List.take_zero, cnt_nil]
    omega
  · refine List.ext_getElem? fun i => ?_
    by_cases hi : i < s.pages.length
    · rw [dropP_at hi, List.take_zero, cnt_nil, Int.sub_zero]
      split
      · rename_i hc; exact (right_kept h hi hc).symm
      · rw [List.getElem?_eq_getElem hi]; rfl
    · rw [List.getElem?_eq_none (by rw [dropP_len]; omega), List.getElem?_eq_none (by omega)]
theorem drop_all {s : Store} {q : Nat} {r : List Int} (h : There s q r) : dropU s r 16 = (countedOf (dropped s q)).uses ∧ dropP s r 16 = (countedOf (dropped s q)).pages := by
  have hc : ∀ i : Nat, cnt s.roots.flatten (i : Int) - cnt (r.take 16) (i : Int) = cnt (dropped s q).roots.flatten (i : Int) := fun i => by
    have h1 := cnt_set s.roots q r [] (i : Int) h.at'
    rw [cnt_nil] at h1
    rw [List.take_of_length_le (by rw [h.len]; exact Nat.le_refl _)]
    show _ = cnt (s.roots.set q []).flatten _
    omega
  refine ⟨?_, ?_⟩
  · show _ = outOf s.pages.length _
    unfold dropU outOf
    exact List.map_congr_left fun i _ => hc i
  · show _ = keptTo (dropped s q) s.pages.length
    unfold dropP keptTo
    refine List.map_congr_left fun i _ => ?_
    rw [hc i]
    rfl
theorem cnt_take_succ {r : List Int} {k : Nat} {p : Int} (hp : r[k]? = some p) (i : Int) : cnt (r.take (k + 1)) i = cnt (r.take k) i + if p = i then 1 else 0 := by
  rw [List.take_add_one, hp, cnt_append]
  show _ + cnt [p] i = _
  rw [cnt_one]
theorem drop_skip {s : Store} {r : List Int} {k : Nat} {p : Int} (hp : r[k]? = some p) (hn : p < 0) : dropU s r (k + 1) = dropU s r k ∧ dropP s r (k + 1) = dropP s r k := by
  have h1 : ∀ i : Nat, cnt (r.take (k + 1)) (i : Int) = cnt (r.take k) (i : Int) := fun i => by rw [cnt_take_succ hp, if_neg (by omega)]; omega
  unfold dropU dropP
  exact ⟨List.map_congr_left fun i _ => by rw [h1], List.map_congr_left fun i _ => by rw [h1]⟩
theorem drop_step {s : Store} {q : Nat} {r : List Int} (h : There s q r) {k p : Nat} (hp : r[k]? = some (p : Int)) :
    p < s.pages.length ∧ ∃ u : Int, (dropU s r k)[p]? = some u ∧ 1 ≤ u ∧ u ≤ 640 ∧ dropU s r (k + 1) = (dropU s r k).set p (u - 1) ∧ (u - 1 = 0 → dropP s r (k + 1) = (dropP s r k).set p zero4) ∧ (u - 1 ≠ 0 → dropP s r (k + 1) = dropP s r k) := by
  have hpl : p < s.pages.length := by have := (h.ok _ (List.mem_of_getElem? hp)).2; omega
  have h1 : ∀ i : Nat, cnt (r.take (k + 1)) (i : Int) = cnt (r.take k) (i : Int) + if p = i then 1 else 0 := fun i => by
    rw [cnt_take_succ hp]
    by_cases e : p = i
    · rw [if_pos (by omega), if_pos e]
    · rw [if_neg (by omega), if_neg e]
  have h2 := cnt_take_le r (k + 1) (p : Int)
  have h3 := cnt_row_le h.at' (p : Int)
  have h4 := cnt_range s.roots.flatten (p : Int)
  have h5 := flat_len h.right.1
  have h6 := h.fewR
  have h7 := cnt_nonneg (r.take k) (p : Int)
  have h8 := h1 p
  rw [if_pos rfl] at h8
  refine ⟨hpl, _, dropU_at hpl, by omega, by omega, ?_, fun hz => ?_, fun hz => ?_⟩
  · refine List.ext_getElem? fun i => ?_
    by_cases hi : i < s.pages.length
    · by_cases e : p = i
      · subst e
        rw [List.getElem?_set_self (by rw [dropU_len]; exact hi), dropU_at hi, h8]
        congr 1
        omega
      · rw [List.getElem?_set_ne e, dropU_at hi, dropU_at hi, h1 i, if_neg e]
        simp
    · rw [List.getElem?_eq_none (by rw [dropU_len]; omega), List.getElem?_eq_none (by rw [List.length_set, dropU_len]; omega)]
  · refine List.ext_getElem? fun i => ?_
    by_cases hi : i < s.pages.length
    · by_cases e : p = i
      · subst e
        rw [List.getElem?_set_self (by rw [dropP_len]; exact hi), dropP_at hi, if_pos (by omega)]
      · rw [List.getElem?_set_ne e, dropP_at hi, dropP_at hi, h1 i, if_neg e]
        simp
    · rw [List.getElem?_eq_none (by rw [dropP_len]; omega), List.getElem?_eq_none (by rw [List.length_set, dropP_len]; omega)]
  · refine List.ext_getElem? fun i => ?_
    by_cases hi : i < s.pages.length
    · by_cases e : p = i
      · subst e
        rw [dropP_at hi, dropP_at hi, if_neg (by omega), if_neg (by omega)]
      · rw [dropP_at hi, dropP_at hi, h1 i, if_neg e]
        simp
    · rw [List.getElem?_eq_none (by rw [dropP_len]; omega), List.getElem?_eq_none (by rw [dropP_len]; omega)]

/-! ### A number set -/
def set4 (x : Four) (k : Nat) (v : Int) : Four := match k with
  | 0 => (v, x.2.1, x.2.2.1, x.2.2.2)
  | 1 => (x.1, v, x.2.2.1, x.2.2.2)
  | 2 => (x.1, x.2.1, v, x.2.2.2)
  | _ => (x.1, x.2.1, x.2.2.1, v)
def nPage (s : Store) (root at' v : Int) : Four := set4 (pageOf s root at') (at' % 4).toNat v
/-- The first page that nobody has. -/
def freeOf (l : List Int) : Nat := l.findIdx (fun u => decide (u = 0))
def putPage (l : List Four) (n : Nat) (p : Four) : List Four := if n < l.length then l.set n p else l ++ [p]
def newPages (s : Store) (p : Four) : List Four := if p = zero4 then s.pages else putPage s.pages (freeOf s.uses) p
def newNum (s : Store) (p : Four) : Int := if p = zero4 then -1 else (freeOf s.uses : Nat)
def newUses (s : Store) (p : Four) : List Int := if p = zero4 ∨ freeOf s.uses < s.uses.length then s.uses else s.uses ++ [0]
/-- Pages, row, uses behind the first half. -/
def half (s : Store) (root at' v : Int) : List Four × List Int × List Int :=
  if getOf s root at' = v then (s.pages, rowAt s root, s.uses)
  else (newPages s (nPage s root at' v), (rowAt s root).set (at' / 4).toNat (newNum s (nPage s root at' v)), newUses s (nPage s root at' v))
def incTo (u r : List Int) (k : Nat) : List Int := (List.range u.length).map fun (i : Nat) => (u[i]?).getD 0 + cnt (r.take k) (i : Int)
/-- The first version that is dropped. -/
def emptyAt (l : List (List Int)) : Nat := l.findIdx (fun r => decide (r = []))
def newRoots (l : List (List Int)) (r : List Int) : List (List Int) := if emptyAt l < l.length then l.set (emptyAt l) r else l ++ [r]
def setOf (s : Store) (root at' v : Int) : Store × Int × Int :=
  if 400 < (half s root at' v).1.length ∨ 40 < (newRoots s.roots (half s root at' v).2.1).length then (⟨[], [], []⟩, 0, 2)
  else (⟨(half s root at' v).1, incTo (half s root at' v).2.2 (half s root at' v).2.1 16, newRoots s.roots (half s root at' v).2.1⟩, (emptyAt s.roots : Nat), 0)
theorem findIdx_spec {α : Type} (p : α → Bool) : ∀ l : List α, l.findIdx p ≤ l.length ∧ (∀ i x, i < l.findIdx p → l[i]? = some x → p x = false) ∧ ∀ x, l[l.findIdx p]? = some x → p x = true
  | [] => by simp
  | y :: l => by
    obtain ⟨h1, h2, h3⟩ := findIdx_spec p l
    rw [List.findIdx_cons]
    cases hy : p y with
    | true => exact ⟨by simp, fun i x hi => by simp at hi, fun x hx => by simp at hx; subst hx; exact hy⟩
    | false =>
      refine ⟨by simp; omega, fun i x hi hx => ?_, fun x hx => h3 x (by simpa using hx)⟩
      cases i with
      | zero => simp at hx; subst hx; exact hy
      | succ i => exact h2 i x (by have hi2 : i + 1 < l.findIdx p + 1 := hi; omega) (by simpa using hx)
theorem findIdx_is {α : Type} {p : α → Bool} {l : List α} {n : Nat} (h : ∀ i x, i < n → l[i]? = some x → p x = false) (hn : ∀ x, l[n]? = some x → p x = true) (hl : n ≤ l.length) : l.findIdx p = n := by
  obtain ⟨h1, h2, h3⟩ := findIdx_spec p l
  rcases Nat.lt_trichotomy (l.findIdx p) n with hlt | he | hgt
  · have hx : l[l.findIdx p]? = some _ := List.getElem?_eq_getElem (by omega)
    have e1 := h3 _ hx
    have e2 := h _ _ hlt hx
    rw [e1] at e2
    cases e2
  · exact he
  · have hx : l[n]? = some _ := List.getElem?_eq_getElem (by omega)
    have e1 := h2 _ _ hgt hx
    have e2 := hn _ hx
    rw [e1] at e2
    cases e2
theorem newRoots_cnt {P : Nat} {l : List (List Int)} (r : List Int) (p : Int) : cnt (newRoots l r).flatten p = cnt l.flatten p + cnt r p := by
  obtain ⟨h1, h2, h3⟩ := findIdx_spec (fun r => decide (r = ([] : List Int))) l
  unfold newRoots
  split
  · rename_i h
    have hx : l[emptyAt l]? = some _ := List.getElem?_eq_getElem h
    have h4 := cnt_set l (emptyAt l) _ r p hx
    have h5 := h3 _ hx
    rw [of_decide_eq_true h5, cnt_nil] at h4
    omega
  · rw [List.flatten_append, cnt_append]
    simp
theorem newRoots_len (l : List (List Int)) (r : List Int) : (newRoots l r).length = if emptyAt l < l.length then l.length else l.length + 1 := by
  unfold newRoots
  split <;> simp
theorem newPages_len (s : Store) (p : Four) (h : s.uses.length = s.pages.length) : (newPages s p).length = (newUses s p).length := by
  unfold newPages newUses putPage
  by_cases h0 : p = zero4
  · simp [h0, h]
  · by_cases h1 : freeOf s.uses < s.uses.length
    · have h1' := h1
      rw [h] at h1'
      simp [h0, h1, h1', h]
    · have h1' := h1
      rw [h] at h1'
      simp [h0, h1, h1', h]
theorem right_len {s : Store} (h : Right s) : s.uses.length = s.pages.length := by rw [← h.2.1, outOf_len]
theorem half_len {s : Store} {q : Nat} {r : List Int} (h : There s q r) (at' v : Int) : (half s (q : Int) at' v).1.length = (half s (q : Int) at' v).2.2.length := by
  have hl := right_len h.right
  unfold half
  split
  · exact hl.symm
  · exact newPages_len s _ hl
theorem rowAt_nat {s : Store} {q : Nat} {r : List Int} (h : There s q r) : rowAt s (q : Int) = r := by
  unfold rowAt
  rw [show ((q : Int)).toNat = q by omega, h.at']
  rfl
theorem uses_at {s : Store} (h : Right s) {i : Nat} (hi : i < s.pages.length) : s.uses[i]? = some (cnt s.roots.flatten (i : Int)) := by
  rw [← h.2.1, outOf_at hi]
theorem cnt_top {s : Store} (h : Right s) {i : Nat} (hi : s.pages.length ≤ i) : cnt s.roots.flatten (i : Int) = 0 :=
  cnt_none fun x hx => by have := (flat_ok h.1 x hx).2; omega
theorem half_uses {s : Store} {q : Nat} {r : List Int} (h : There s q r) (at' v : Int) {i : Nat} (hi : i < (half s (q : Int) at' v).2.2.length) : (half s (q : Int) at' v).2.2[i]? = some (cnt s.roots.flatten (i : Int)) := by
  have hl := right_len h.right
  have h0 : ∀ i, i < s.uses.length → s.uses[i]? = some (cnt s.roots.flatten (i : Int)) := fun i hi => uses_at h.right (by omega)
  unfold half at hi ⊢
  split at hi
  · rename_i hg
    rw [if_pos hg]
    exact h0 i hi
  · rename_i hg
    rw [if_neg hg]
    show (newUses s _)[i]? = _
    change i < (newUses s _).length at hi
    unfold newUses at hi ⊢
    split at hi
    · rename_i hc
      rw [if_pos hc]
      exact h0 i hi
    · rename_i hc
      rw [if_neg hc]
      by_cases hi2 : i < s.uses.length
      · rw [List.getElem?_append_left hi2]
        exact h0 i hi2
      · have hi3 : i = s.uses.length := by simp at hi; omega
        subst hi3
        rw [List.getElem?_append_right (Nat.le_refl _), cnt_top h.right (by omega)]
        simp
/-- A page that nobody has is nothing, still. -/
theorem half_pages {s : Store} {q : Nat} {r : List Int} (h : There s q r) {at' v : Int} (ha : 0 ≤ at' ∧ at' < 64) {i : Nat} (hi : i < (half s (q : Int) at' v).1.length) (hc : cnt s.roots.flatten (i : Int) = 0) (hr : cnt (half s (q : Int) at' v).2.1 (i : Int) = 0) : (half s (q : Int) at' v).1[i]? = some zero4 := by
  have h0 : ∀ i : Nat, i < s.pages.length → cnt s.roots.flatten (i : Int) = 0 → s.pages[i]? = some zero4 := fun i hi hc => right_kept h.right hi hc
  have hl := right_len h.right
  unfold half at hi hr ⊢
  split at hi
  · rename_i hg
    rw [if_pos hg]
    exact h0 i hi hc
  · rename_i hg
    rw [if_neg hg] at hr ⊢
    show (newPages s _)[i]? = _
    change i < (newPages s _).length at hi
    change cnt ((rowAt s (q : Int)).set (at' / 4).toNat (newNum s _)) (i : Int) = 0 at hr
    rw [rowAt_nat h] at hr
    have hrn := cnt_pos (l := r.set (at' / 4).toNat (newNum s (nPage s (q : Int) at' v))) (k := (at' / 4).toNat) (p := newNum s (nPage s (q : Int) at' v)) (List.getElem?_set_self (by rw [h.len]; omega))
    unfold newPages at hi ⊢
    split at hi
    · rename_i hz
      rw [if_pos hz]
      exact h0 i hi hc
    · rename_i hz
      rw [if_neg hz]
      have hn : newNum s (nPage s (q : Int) at' v) = (freeOf s.uses : Nat) := by unfold newNum; rw [if_neg hz]
      rw [hn] at hrn hr
      have hne : i ≠ freeOf s.uses := fun e => by subst e; omega
      have hf := (findIdx_spec (fun u => decide (u = (0 : Int))) s.uses).1
      change freeOf s.uses ≤ _ at hf
      unfold putPage at hi ⊢
      split at hi
      · rename_i hp
        rw [if_pos hp, List.getElem?_set_ne (fun e => hne e.symm)]
        exact h0 i (by simpa using hi) hc
      · rename_i hp
        rw [if_neg hp]
        have : i < s.pages.length := by simp at hi; omega
        rw [List.getElem?_append_left this]
        exact h0 i this hc
theorem half_row {s : Store} {q : Nat} {r : List Int} (h : There s q r) (at' v : Int) : (half s (q : Int) at' v).2.1.length = 16 := by
  unfold half
  split
  · show (rowAt s _).length = _; rw [rowAt_nat h, h.len]
  · show ((rowAt s _).set _ _).length = _; rw [List.length_set, rowAt_nat h, h.len]
/-- What the document counts is what the program keeps. -/
theorem set_same {s : Store} {q : Nat} {r : List Int} (h : There s q r) {at' v : Int} (ha : 0 ≤ at' ∧ at' < 64) :
    countedOf ⟨(half s (q : Int) at' v).1, [], newRoots s.roots (half s (q : Int) at' v).2.1⟩ = ⟨(half s (q : Int) at' v).1, incTo (half s (q : Int) at' v).2.2 (half s (q : Int) at' v).2.1 16, newRoots s.roots (half s (q : Int) at' v).2.1⟩ := by
  have hl := half_len h at' v
  have hr := half_row h at' v
  unfold countedOf
  congr 1
  · refine List.ext_getElem? fun i => ?_
    show (keptTo _ (half s (q : Int) at' v).1.length)[i]? = (half s (q : Int) at' v).1[i]?
    by_cases hi : i < (half s (q : Int) at' v).1.length
    · unfold keptTo
      rw [List.getElem?_map, List.getElem?_range hi]
      show some (if cnt (newRoots s.roots (half s (q : Int) at' v).2.1).flatten (i : Int) = 0 then zero4 else ((half s (q : Int) at' v).1[i]?).getD zero4) = _
      split
      · rename_i hc
        rw [newRoots_cnt (P := 0)] at hc
        have h1 := cnt_nonneg s.roots.flatten (i : Int)
        have h2 := cnt_nonneg (half s (q : Int) at' v).2.1 (i : Int)
        rw [half_pages h ha hi (by omega) (by omega)]
      · rw [List.getElem?_eq_getElem hi]
        rfl
    · rw [List.getElem?_eq_none (by rw [keptTo_len]; omega), List.getElem?_eq_none (by omega)]
  · unfold outOf incTo
    show List.map _ (List.range (half s (q : Int) at' v).1.length) = _
    rw [hl]
    refine List.map_congr_left fun i hi => ?_
    rw [List.mem_range] at hi
    rw [half_uses h at' v hi]
    show cnt (newRoots s.roots (half s (q : Int) at' v).2.1).flatten (i : Int) = _
    rw [newRoots_cnt (P := 0), List.take_of_length_le (by omega)]
    rfl
end Go.Proofs.Ytjlnaiiajlahgaa.pag
