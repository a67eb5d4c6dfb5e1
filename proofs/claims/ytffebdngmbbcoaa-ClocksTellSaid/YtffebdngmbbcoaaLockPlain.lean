/- LockupOrders, plain: what a thread has; the pairs; sorted, each once. -/
import Derived.Test.YtffebdngmbbcoaaTy
set_option linter.unusedVariables false
set_option linter.unusedSimpArgs false
namespace Go.Proofs.Ytffebdngmbbcoaa.lock
open Go.Bk

/-- What a thread has, after one more event of its own. -/
def upd (e : Api.Event) (own : List Int) : List Int := if e.Kind = 13 then (if e.A ∈ own then own else own ++ [e.A]) else if e.Kind = 14 then own.erase e.A else own
def heldStep (t : Int) (own : List Int) (e : Api.Event) : List Int := if e.Thread = t then upd e own else own
def held (l : List Api.Event) (t : Int) : List Int := l.foldl (heldStep t) []
theorem held_snoc (l : List Api.Event) (e : Api.Event) (t : Int) : held (l ++ [e]) t = if e.Thread = t then upd e (held l t) else held l t := by
  unfold held; rw [List.foldl_append]; rfl
theorem upd_nodup {e : Api.Event} {own : List Int} (h : own.Nodup) : (upd e own).Nodup := by
  unfold upd
  split
  · split
    · exact h
    · rename_i hn
      rw [List.nodup_append]
      exact ⟨h, by simp, fun a ha b hb => by simp at hb; subst hb; intro e; subst e; exact hn ha⟩
  · split
    · exact h.erase _
    · exact h
theorem snoc_induction {α : Type} {P : List α → Prop} (h0 : P []) (h1 : ∀ l x, P l → P (l ++ [x])) (l : List α) : P l := by
  have : ∀ m : List α, P m.reverse := fun m => by
    induction m with
    | nil => exact h0
    | cons x m ih => rw [List.reverse_cons]; exact h1 _ _ ih
  have := this l.reverse
  rwa [List.reverse_reverse] at this
theorem held_nodup (l : List Api.Event) (t : Int) : (held l t).Nodup := by
  induction l using snoc_induction with
  | h0 => simp [held]
  | h1 l e ih => rw [held_snoc]; split; exact upd_nodup ih; exact ih
theorem upd_len (e : Api.Event) (own : List Int) : (upd e own).length ≤ own.length + 1 := by
  unfold upd
  split
  · split <;> simp
  · split
    · have := List.length_erase_le (a := e.A) (l := own); omega
    · omega
theorem held_len (l : List Api.Event) (t : Int) : (held l t).length ≤ l.length := by
  induction l using snoc_induction with
  | h0 => simp [held]
  | h1 l e ih =>
    rw [held_snoc, List.length_append, List.length_cons, List.length_nil]
    split
    · have := upd_len e (held l t); omega
    · omega
/-- The document's way to tell it. -/
def hasStep (t a : Int) (has : Bool) (e : Api.Event) : Bool := if e.Thread = t ∧ e.A = a ∧ e.Kind = 14 then false else if e.Thread = t ∧ e.A = a ∧ e.Kind = 13 then true else has
def hasAt (l : List Api.Event) (t a : Int) : Bool := l.foldl (hasStep t a) false
theorem hasAt_snoc (l : List Api.Event) (e : Api.Event) (t a : Int) : hasAt (l ++ [e]) t a = hasStep t a (hasAt l t a) e := by
  unfold hasAt; rw [List.foldl_append]; rfl
theorem hasAt_held (l : List Api.Event) (t a : Int) : hasAt l t a = decide (a ∈ held l t) := by
  induction l using snoc_induction with
  | h0 => simp [hasAt, held]
  | h1 l e ih =>
    rw [hasAt_snoc, held_snoc, ih]
    unfold hasStep
    have hnd := held_nodup l t
    by_cases ht : e.Thread = t
    · simp only [ht, true_and, if_true]
      unfold upd
      by_cases h13 : e.Kind = 13
      · simp only [h13, if_true]
        by_cases ha : e.A = a
        · subst ha
          simp
          split <;> simp [*]
        · simp [ha]
          split <;> simp [*]
          intro e'; exact absurd e'.symm ha
      · by_cases h14 : e.Kind = 14
        · simp only [h14]
          by_cases ha : e.A = a
          · subst ha
            simp [hnd.mem_erase_iff]
          · simp [ha, hnd.mem_erase_iff]
            intro _ e'; exact absurd e'.symm ha
        · simp [h13, h14]
    · simp [ht]
/-- The pairs in the order in which they are met. -/
def pairsOf (own : List Int) (a : Int) : List Api.DPair := (own.filter (fun n => decide (n ≠ a))).map (fun n => ⟨n, a⟩)
def pairStep (hd : List Api.Event) (e : Api.Event) : List Api.DPair := if e.Kind = 13 then pairsOf (held hd e.Thread) e.A else []
def outTo (l : List Api.Event) : Nat → List Api.DPair
  | 0 => []
  | n + 1 => outTo l n ++ (match l[n]? with | some e => pairStep (l.take n) e | none => [])
def Orders (l : List Api.Event) (a b : Int) : Prop := ∃ (i : Nat) (e : Api.Event), l[i]? = some e ∧ e.Kind = 13 ∧ e.A = b ∧ a ≠ b ∧ a ∈ held (l.take i) e.Thread
theorem mem_outTo {l : List Api.Event} {p : Api.DPair} : ∀ {n : Nat}, p ∈ outTo l n ↔ ∃ (i : Nat) (e : Api.Event), i < n ∧ l[i]? = some e ∧ e.Kind = 13 ∧ e.A = p.J ∧ p.I ≠ p.J ∧ p.I ∈ held (l.take i) e.Thread
  | 0 => by simp [outTo]
  | n + 1 => by
    rw [outTo, List.mem_append, mem_outTo]
    constructor
    · rintro (⟨i, e, hi, h⟩ | h)
      · exact ⟨i, e, by omega, h⟩
      · cases hn : l[n]? with
        | none => rw [hn] at h; simp at h
        | some e =>
          rw [hn] at h
          simp only [pairStep] at h
          split at h
          · rename_i h13
            simp only [pairsOf, List.mem_map, List.mem_filter, decide_eq_true_eq] at h
            obtain ⟨a, ⟨h1, h2⟩, rfl⟩ := h
            exact ⟨n, e, by omega, hn, h13, rfl, h2, h1⟩
          · simp at h
    · rintro ⟨i, e, hi, h1, h2, h3, h4, h5⟩
      by_cases hin : i < n
      · exact .inl ⟨i, e, hin, h1, h2, h3, h4, h5⟩
      · obtain rfl : i = n := by omega
        right
        rw [h1]
        simp only [pairStep, h2, if_true, pairsOf, List.mem_map, List.mem_filter, decide_eq_true_eq]
        exact ⟨p.I, ⟨h5, by rw [h3]; exact h4⟩, by rw [h3]⟩
theorem mem_out {l : List Api.Event} {p : Api.DPair} : p ∈ outTo l l.length ↔ Orders l p.I p.J := by
  rw [mem_outTo]
  constructor
  · rintro ⟨i, e, _, h⟩; exact ⟨i, e, h⟩
  · rintro ⟨i, e, h1, h⟩; exact ⟨i, e, (List.getElem?_eq_some_iff.1 h1).1, h1, h⟩
theorem pairsOf_len (own : List Int) (a : Int) : (pairsOf own a).length ≤ own.length := by
  unfold pairsOf; rw [List.length_map]; exact List.length_filter_le _ _
theorem outTo_len (l : List Api.Event) : ∀ n, (outTo l n).length ≤ n * l.length
  | 0 => by simp [outTo]
  | n + 1 => by
    rw [outTo, List.length_append]
    have ih := outTo_len l n
    have : (match l[n]? with | some e => pairStep (l.take n) e | none => ([] : List Api.DPair)).length ≤ l.length := by
      cases l[n]? with
      | none => simp
      | some e =>
        simp only [pairStep]
        split
        · have h1 := pairsOf_len (held (l.take n) e.Thread) e.A
          have h2 := held_len (l.take n) e.Thread
          have h3 : (l.take n).length ≤ l.length := by rw [List.length_take]; omega
          omega
        · simp
    rw [Nat.add_mul]
    omega
section
variable {α : Type} [DecidableEq α]
/-- Of the first n those that are not as the one ahead. -/
def compactTo (l : List α) : Nat → List α
  | 0 => []
  | n + 1 => match l[n]? with
    | some x => if 0 < n ∧ l[n - 1]? = some x then compactTo l n else compactTo l n ++ [x]
    | none => compactTo l n
theorem compactTo_succ {l : List α} {n : Nat} {x : α} (h : l[n]? = some x) : compactTo l (n + 1) = if 0 < n ∧ l[n - 1]? = some x then compactTo l n else compactTo l n ++ [x] := by
  rw [compactTo, h]
theorem compactTo_len (l : List α) : ∀ n, (compactTo l n).length ≤ n
  | 0 => Nat.le_refl _
  | n + 1 => by
    have ih := compactTo_len l n
    rw [compactTo]
    split
    · split
      · omega
      · rw [List.length_append]; simp; omega
    · omega
/-- Of a sorted list: the same elements, each once, rising. -/
theorem compactTo_sorted {lt : α → α → Prop} (hirr : ∀ x, ¬ lt x x) (htr : ∀ x y z, lt x y → lt y z → lt x z) {l : List α} (hs : ∀ (i : Nat) x y, l[i]? = some x → l[i + 1]? = some y → x = y ∨ lt x y) :
    ∀ n, n ≤ l.length → (compactTo l n).Pairwise lt ∧ (∀ x, x ∈ compactTo l n ↔ x ∈ l.take n) ∧ (∀ x, 0 < n → l[n - 1]? = some x → (compactTo l n).getLast? = some x)
  | 0, _ => by simp [compactTo]
  | n + 1, hn => by
    obtain ⟨ih1, ih2, ih3⟩ := compactTo_sorted hirr htr hs n (by omega)
    obtain ⟨x, hx⟩ : ∃ x, l[n]? = some x := ⟨_, List.getElem?_eq_getElem (by omega)⟩
    rw [compactTo_succ hx]
    have ht : l.take (n + 1) = l.take n ++ [x] := by rw [List.take_add_one, hx]; rfl
    by_cases h : 0 < n ∧ l[n - 1]? = some x
    · rw [if_pos h]
      refine ⟨ih1, fun y => ?_, fun y _ hy => ?_⟩
      · rw [ih2, ht, List.mem_append, List.mem_singleton]
        constructor
        · exact .inl
        · rintro (h1 | rfl)
          · exact h1
          · rw [List.mem_iff_getElem?]
            exact ⟨n - 1, by rw [List.getElem?_take_of_lt (by omega)]; exact h.2⟩
      · rw [show n + 1 - 1 = n by omega, hx] at hy
        injection hy with hy
        subst hy
        exact ih3 _ h.1 h.2
    · rw [if_neg h]
      refine ⟨?_, fun y => ?_, fun y _ hy => ?_⟩
      · rw [List.pairwise_append]
        refine ⟨ih1, by simp, fun a ha b hb => ?_⟩
        simp at hb
        subst hb
        by_cases h0 : 0 < n
        · obtain ⟨z, hz⟩ : ∃ z, l[n - 1]? = some z := ⟨_, List.getElem?_eq_getElem (by omega)⟩
          have hzx : lt z b := by
            rcases hs (n - 1) z b hz (by rw [show n - 1 + 1 = n by omega]; exact hx) with h1 | h1
            · subst h1; exact absurd ⟨h0, hz⟩ h
            · exact h1
          have hl := ih3 z h0 hz
          obtain ⟨m, hm⟩ : ∃ m, compactTo l n = m ++ [z] := by
            have := List.getLast?_eq_some_iff.1 hl
            exact this
          rw [hm] at ih1 ha
          rw [List.pairwise_append] at ih1
          rcases List.mem_append.1 ha with h1 | h1
          · exact htr _ _ _ (ih1.2.2 a h1 z (by simp)) hzx
          · simp at h1; subst h1; exact hzx
        · obtain rfl : n = 0 := by omega
          simp [compactTo] at ha
      · rw [List.mem_append, ih2, ht, List.mem_append]
      · rw [show n + 1 - 1 = n by omega, hx] at hy
        rw [List.getLast?_append]
        simpa using hy
end
/-- cmp.Compare, cmp.Or: pairs by I, then by J. -/
def cmp3 (a b : Int) : Int := if a < b then -1 else if b < a then 1 else 0
def cmpPair (x y : Api.DPair) : Int := if cmp3 x.I y.I ≠ 0 then cmp3 x.I y.I else cmp3 x.J y.J
def ltPair (x y : Api.DPair) : Prop := x.I < y.I ∨ x.I = y.I ∧ x.J < y.J
theorem cmpPair_lt (x y : Api.DPair) : decide (cmpPair x y < 0) = true ↔ ltPair x y := by
  rw [decide_eq_true_eq]
  unfold cmpPair cmp3 ltPair
  by_cases h1 : x.I < y.I
  · simp [h1]
  · by_cases h2 : y.I < x.I
    · simp [h1, h2]; omega
    · have h3 : x.I = y.I := by omega
      simp only [h1, h2, if_false, h3]
      by_cases h4 : x.J < y.J
      · simp [h4]
      · by_cases h5 : y.J < x.J
        · simp [h4, h5]
        · simp [h4, h5]
def sortPairs (l : List Api.DPair) : List Api.DPair := l.mergeSort fun x y => !(decide (cmpPair y x < 0))
theorem sortPairs_sorted (l : List Api.DPair) : (sortPairs l).Pairwise (fun x y => ¬ ltPair y x) := by
  have h := List.pairwise_mergeSort (le := fun x y => !(decide (cmpPair y x < 0))) (fun a b c h1 h2 => by
    simp only [Bool.not_eq_true', Bool.eq_false_iff, ne_eq, cmpPair_lt] at h1 h2 ⊢
    unfold ltPair at *
    omega) (fun a b => by
    rw [Bool.or_eq_true]
    simp only [Bool.not_eq_true', Bool.eq_false_iff, ne_eq, cmpPair_lt]
    unfold ltPair
    omega) l
  refine List.Pairwise.imp (fun {a b} h => ?_) h
  simp only [Bool.not_eq_true', Bool.eq_false_iff, ne_eq, cmpPair_lt] at h
  exact h
theorem sortPairs_mem (l : List Api.DPair) (p : Api.DPair) : p ∈ sortPairs l ↔ p ∈ l := (List.mergeSort_perm l _).mem_iff
theorem sortPairs_len (l : List Api.DPair) : (sortPairs l).length = l.length := (List.mergeSort_perm l _).length_eq
def orderOf (l : List Api.Event) : List Api.DPair := compactTo (sortPairs (outTo l l.length)) (sortPairs (outTo l l.length)).length
theorem orderOf_spec (l : List Api.Event) : (orderOf l).Pairwise ltPair ∧ ∀ p, p ∈ orderOf l ↔ Orders l p.I p.J := by
  have h := compactTo_sorted (lt := ltPair) (fun x => by unfold ltPair; omega) (fun x y z => by unfold ltPair; omega) (l := sortPairs (outTo l l.length)) (fun i x y hx hy => by
    have hs := sortPairs_sorted (outTo l l.length)
    have hlt := (List.getElem?_eq_some_iff.1 hy).1
    have hlt0 := (List.getElem?_eq_some_iff.1 hx).1
    have h1 := List.pairwise_iff_getElem.1 hs i (i + 1) hlt0 hlt (by omega)
    have e1 := (List.getElem?_eq_some_iff.1 hx).2
    have e2 := (List.getElem?_eq_some_iff.1 hy).2
    rw [e1, e2] at h1
    by_cases he : x = y
    · exact .inl he
    · right
      have hne : ¬ (x.I = y.I ∧ x.J = y.J) := fun ⟨ha, hb⟩ => he (by cases x; cases y; simp_all)
      unfold ltPair at *
      omega) _ (Nat.le_refl _)
  refine ⟨h.1, fun p => ?_⟩
  rw [show p ∈ orderOf l ↔ _ from h.2.1 p, List.take_length, sortPairs_mem, mem_out]
end Go.Proofs.Ytffebdngmbbcoaa.lock
