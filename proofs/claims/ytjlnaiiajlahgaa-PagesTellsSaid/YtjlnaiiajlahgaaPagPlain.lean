/- PagesTells, plain: a store of versions: counted, right or not. -/
import Derived.Test.YtjlnaiiajlahgaaArr4
set_option linter.unusedVariables false
set_option linter.unusedSimpArgs false
namespace Go.Proofs.Ytjlnaiiajlahgaa.pag
open Go.Bk

structure Store where
  pages : List Four
  uses : List Int
  roots : List (List Int)
def zero4 : Four := (0, 0, 0, 0)
instance : DecidableEq Four := inferInstance
/-- How often. -/
def cnt (l : List Int) (p : Int) : Int := ((l.filter (fun x => decide (x = p))).length : Nat)
theorem cnt_nil (p : Int) : cnt [] p = 0 := rfl
theorem cnt_append (l m : List Int) (p : Int) : cnt (l ++ m) p = cnt l p + cnt m p := by unfold cnt; rw [List.filter_append, List.length_append]; omega
theorem cnt_one (x p : Int) : cnt [x] p = if x = p then 1 else 0 := by
  unfold cnt
  by_cases h : x = p
  · rw [if_pos h, List.filter_cons_of_pos (by simpa using h)]; rfl
  · rw [if_neg h, List.filter_cons_of_neg (by simpa using h)]; rfl
theorem cnt_range (l : List Int) (p : Int) : 0 ≤ cnt l p ∧ cnt l p ≤ l.length := by
  unfold cnt
  have := List.length_filter_le (fun x => decide (x = p)) l
  omega
/-- The table of the counts. -/
def outOf (P : Nat) (l : List Int) : List Int := (List.range P).map fun (j : Nat) => cnt l (j : Int)
theorem outOf_len (P : Nat) (l : List Int) : (outOf P l).length = P := by unfold outOf; simp
theorem outOf_at {P : Nat} {l : List Int} {j : Nat} (h : j < P) : (outOf P l)[j]? = some (cnt l (j : Int)) := by unfold outOf; simp [h]
theorem outOf_none {P : Nat} {l : List Int} : outOf P (l ++ [-1]) = outOf P l := by
  unfold outOf
  refine List.map_congr_left fun j _ => ?_
  rw [cnt_append, cnt_one, if_neg (by omega)]
  omega
theorem outOf_more {P : Nat} {l : List Int} {p : Nat} (h : p < P) : outOf P (l ++ [(p : Int)]) = (outOf P l).set p (cnt l (p : Int) + 1) := by
  refine List.ext_getElem? fun j => ?_
  by_cases hj : j < P
  · rw [outOf_at hj]
    by_cases e : p = j
    · subst e
      rw [List.getElem?_set_self (by rw [outOf_len]; exact hj), cnt_append, cnt_one, if_pos rfl]
    · rw [List.getElem?_set_ne e, outOf_at hj, cnt_append, cnt_one, if_neg (by omega)]
      simp
  · rw [List.getElem?_eq_none (by rw [outOf_len]; omega), List.getElem?_eq_none (by rw [List.length_set, outOf_len]; omega)]
def okP (P : Nat) (p : Int) : Prop := -1 ≤ p ∧ p < (P : Int)
instance (P : Nat) (p : Int) : Decidable (okP P p) := by unfold okP; infer_instance
def okRow (P : Nat) (r : List Int) : Prop := (r.length = 0 ∨ r.length = 16) ∧ ∀ p ∈ r, okP P p
instance (P : Nat) (r : List Int) : Decidable (okRow P r) := by unfold okRow; infer_instance
def okRoots (P : Nat) (l : List (List Int)) : Prop := ∀ r ∈ l, okRow P r
instance (P : Nat) (l : List (List Int)) : Decidable (okRoots P l) := by unfold okRoots; infer_instance
/-- Page i is nothing just where nobody has it. -/
def okPage (s : Store) (i : Nat) : Prop := match s.pages[i]? with
  | some x => x = zero4 ↔ cnt s.roots.flatten (i : Int) = 0
  | none => True
instance (s : Store) (i : Nat) : Decidable (okPage s i) := by unfold okPage; split <;> infer_instance
def Right (s : Store) : Prop := okRoots s.pages.length s.roots ∧ outOf s.pages.length s.roots.flatten = s.uses ∧ ∀ i, i < s.pages.length → okPage s i
instance (s : Store) : Decidable (Right s) := by unfold Right; infer_instance
def chk (s : Store) : Int := if 400 < s.pages.length ∨ 40 < s.roots.length then 2 else if Right s then 0 else 3
theorem flat_len {P : Nat} {l : List (List Int)} (h : okRoots P l) : l.flatten.length ≤ 16 * l.length := by
  induction l with
  | nil => simp
  | cons r l ih =>
    have h1 := (h r (List.mem_cons_self ..)).1
    have h2 := ih fun x hx => h x (List.mem_cons_of_mem _ hx)
    rw [List.flatten_cons, List.length_append, List.length_cons]
    omega
/-- What was counted up to number k of row i. -/
def seen (l : List (List Int)) (i k : Nat) : List Int := (l.take i).flatten ++ ((l[i]?).getD []).take k
theorem seen_zero (l : List (List Int)) : seen l 0 0 = [] := by unfold seen; simp
theorem seen_row {l : List (List Int)} {i : Nat} {r : List Int} (h : l[i]? = some r) : seen l i r.length = seen l (i + 1) 0 := by
  have hi := (List.getElem?_eq_some_iff.1 h).1
  unfold seen
  rw [h, Option.getD_some, List.take_length, List.take_zero, List.append_nil, List.take_add_one, h]
  simp
theorem seen_next {l : List (List Int)} {i k : Nat} {r : List Int} {p : Int} (h : l[i]? = some r) (hp : r[k]? = some p) : seen l i (k + 1) = seen l i k ++ [p] := by
  unfold seen
  rw [h, Option.getD_some, List.take_add_one, hp, List.append_assoc]
  rfl
theorem seen_all (l : List (List Int)) : seen l l.length 0 = l.flatten := by unfold seen; simp
/-- No such version. -/
def bad (s : Store) (root : Int) : Bool := decide (root < 0) || (decide ((s.roots.length : Int) ≤ root) || decide ((s.roots[root.toNat]?).getD [] = []))
def thrs (s : Store) (l : List Int) : Int := if chk s ≠ 0 then chk s else if l.any (bad s) then 5 else 0
def ask (s : Store) (root at' : Int) : Int := if thrs s [root] ≠ 0 then thrs s [root] else if at' < 0 ∨ 64 ≤ at' then 1 else 0
theorem bad_false {s : Store} {root : Int} (h : bad s root = false) : ∃ (q : Nat) (r : List Int), root = q ∧ s.roots[q]? = some r ∧ r ≠ [] := by
  unfold bad at h
  simp only [Bool.or_eq_false_iff, decide_eq_false_iff_not] at h
  obtain ⟨h1, h2, h3⟩ := h
  refine ⟨root.toNat, (s.roots[root.toNat]?).getD [], by omega, ?_, h3⟩
  rw [List.getElem?_eq_getElem (by omega)]
  rfl
theorem chk_zero {s : Store} (h : chk s = 0) : s.pages.length ≤ 400 ∧ s.roots.length ≤ 40 ∧ Right s := by
  unfold chk at h
  split at h
  · omega
  · rename_i hn
    split at h
    · rename_i hr; exact ⟨by omega, by omega, hr⟩
    · omega
theorem thrs_zero {s : Store} {l : List Int} (h : thrs s l = 0) : chk s = 0 ∧ ∀ x ∈ l, bad s x = false := by
  unfold thrs at h
  split at h
  · omega
  · rename_i hc
    split at h
    · omega
    · rename_i ha
      refine ⟨by omega, fun x hx => ?_⟩
      cases hb : bad s x with
      | false => rfl
      | true => exact absurd (List.any_eq_true.2 ⟨x, hx, hb⟩) ha
/-- What a version that is there is. -/
structure There (s : Store) (q : Nat) (r : List Int) : Prop where
  at' : s.roots[q]? = some r
  len : r.length = 16
  ok : ∀ p ∈ r, okP s.pages.length p
  right : Right s
  fewP : s.pages.length ≤ 400
  fewR : s.roots.length ≤ 40
theorem there_of {s : Store} {root : Int} (h1 : chk s = 0) (h2 : bad s root = false) : ∃ (q : Nat) (r : List Int), root = q ∧ There s q r := by
  obtain ⟨q, r, h3, h4, h5⟩ := bad_false h2
  obtain ⟨k1, k2, k3⟩ := chk_zero h1
  have hr := k3.1 r (List.mem_of_getElem? h4)
  refine ⟨q, r, h3, h4, ?_, hr.2, k3, k1, k2⟩
  rcases hr.1 with h | h
  · exact absurd (List.eq_nil_of_length_eq_zero h) h5
  · exact h
/-- Number k of four. -/
def part4 (x : Four) (k : Nat) : Int := match k with
  | 0 => x.1
  | 1 => x.2.1
  | 2 => x.2.2.1
  | _ => x.2.2.2
/-- A page, by what a version says. -/
def pageP (s : Store) (p : Int) : Four := if 0 ≤ p then (s.pages[p.toNat]?).getD zero4 else zero4
def rowAt (s : Store) (root : Int) : List Int := (s.roots[root.toNat]?).getD []
def pageOf (s : Store) (root at' : Int) : Four := pageP s (((rowAt s root)[(at' / 4).toNat]?).getD (-1))
def getOf (s : Store) (root at' : Int) : Int := part4 (pageOf s root at') (at' % 4).toNat
def sharedOf (r t : List Int) : Nat → Int
  | 0 => 0
  | k + 1 => match r[k]?, t[k]? with
    | some p, some q => sharedOf r t k + (if 0 ≤ p ∧ p = q then 1 else 0)
    | _, _ => sharedOf r t k
end Go.Proofs.Ytjlnaiiajlahgaa.pag
