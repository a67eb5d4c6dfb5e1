/- HeatTurns, plain: which loops are hot: a rising list of heads, and the steps. -/
import Derived.Test.YtjlnaiiajlahgaaTy
import Derived.Test.YtjlnaiiajlahgaaRise
set_option linter.unusedVariables false
set_option linter.unusedSimpArgs false
namespace Go.Proofs.Ytjlnaiiajlahgaa.heat

open Go.Bk

def hlt (a b : Api.THead) : Prop := a.Fn < b.Fn ∨ a.Fn = b.Fn ∧ a.At < b.At
instance (a b : Api.THead) : Decidable (hlt a b) := by unfold hlt; infer_instance
def isK (fn at' : Int) (x : Api.THead) : Bool := decide (x.Fn = fn ∧ x.At = at')
def cur (l : List Api.THead) (fn at' : Int) : Option Api.THead := l.find? (isK fn at')
def Srt (l : List Api.THead) : Prop := l.Pairwise hlt
/-- A head laid in its place, or in the place of the one that was there. -/
def put (x : Api.THead) : List Api.THead → List Api.THead
  | [] => [x]
  | y :: l => if hlt y x then y :: put x l else if isK x.Fn x.At y then x :: l else x :: y :: l
theorem isK_iff {fn at' : Int} {x : Api.THead} : isK fn at' x = true ↔ x.Fn = fn ∧ x.At = at' := by unfold isK; exact decide_eq_true_iff
theorem isK_self (x : Api.THead) : isK x.Fn x.At x = true := isK_iff.2 ⟨rfl, rfl⟩
theorem cur_put (x : Api.THead) (fn at' : Int) : ∀ l, cur (put x l) fn at' = if x.Fn = fn ∧ x.At = at' then some x else cur l fn at'
  | [] => by
    unfold cur put
    by_cases h : x.Fn = fn ∧ x.At = at'
    · rw [if_pos h, List.find?_cons_of_pos (isK_iff.2 h)]
    · rw [if_neg h, List.find?_cons_of_neg (fun e => h (isK_iff.1 e))]
  | y :: l => by
    have ih := cur_put x fn at' l
    rw [put]
    split
    · rename_i hlt'
      by_cases hy : isK fn at' y = true
      · have hy2 := isK_iff.1 hy
        have h : ¬ (x.Fn = fn ∧ x.At = at') := fun h => by unfold hlt at hlt'; omega
        unfold cur
        rw [if_neg h, List.find?_cons_of_pos hy, List.find?_cons_of_pos hy]
      · unfold cur at *
        rw [List.find?_cons_of_neg hy, ih, List.find?_cons_of_neg hy]
    · split
      · rename_i hk
        have hk := isK_iff.1 hk
        by_cases h : x.Fn = fn ∧ x.At = at'
        · unfold cur; rw [if_pos h, List.find?_cons_of_pos (isK_iff.2 h)]
        · unfold cur
          rw [if_neg h, List.find?_cons_of_neg (fun e => h (isK_iff.1 e)), List.find?_cons_of_neg (fun e => h (by have := isK_iff.1 e; omega))]
      · by_cases h : x.Fn = fn ∧ x.At = at'
        · unfold cur; rw [if_pos h, List.find?_cons_of_pos (isK_iff.2 h)]
        · unfold cur; rw [if_neg h, List.find?_cons_of_neg (fun e => h (isK_iff.1 e))]
theorem mem_put {x y : Api.THead} : ∀ {l}, y ∈ put x l → y = x ∨ y ∈ l
  | [], h => by simp [put] at h; exact .inl h
  | z :: l, h => by
    rw [put] at h
    split at h
    · rcases List.mem_cons.1 h with h | h
      · exact .inr (by simp [h])
      · rcases mem_put h with h | h
        · exact .inl h
        · exact .inr (List.mem_cons_of_mem _ h)
    · split at h
      · rcases List.mem_cons.1 h with h | h
        · exact .inl h
        · exact .inr (List.mem_cons_of_mem _ h)
      · rcases List.mem_cons.1 h with h | h
        · exact .inl h
        · exact .inr h
theorem put_srt (x : Api.THead) : ∀ {l}, Srt l → Srt (put x l)
  | [], _ => by simp [put, Srt]
  | y :: l, h => by
    unfold Srt at *
    rw [List.pairwise_cons] at h
    have ih := put_srt x (l := l) h.2
    unfold Srt at ih
    rw [put]
    split
    · rename_i hyx
      rw [List.pairwise_cons]
      refine ⟨fun z hz => ?_, ih⟩
      rcases mem_put hz with e | hz
      · subst e; exact hyx
      · exact h.1 z hz
    · rename_i hyx
      split
      · rename_i hk
        have hk := isK_iff.1 hk
        rw [List.pairwise_cons]
        refine ⟨fun z hz => ?_, h.2⟩
        have := h.1 z hz
        unfold hlt at *
        omega
      · rename_i hk
        have hk : ¬ (y.Fn = x.Fn ∧ y.At = x.At) := fun e => hk (isK_iff.2 e)
        have hxy : hlt x y := by unfold hlt at *; omega
        rw [List.pairwise_cons, List.pairwise_cons]
        refine ⟨fun z hz => ?_, h⟩
        rcases List.mem_cons.1 hz with e | hz
        · subst e; exact hxy
        · have := h.1 z hz
          unfold hlt at *
          omega
/-- Where it lies, or would. -/
def posn (l : List Api.THead) (fn at' : Int) : Nat := (l.takeWhile fun y => decide (y.Fn < fn ∨ y.Fn = fn ∧ y.At < at')).length
theorem posn_le (l : List Api.THead) (fn at' : Int) : posn l fn at' ≤ l.length := (List.takeWhile_prefix _).length_le
theorem posn_cons_lt {y : Api.THead} {l : List Api.THead} {fn at' : Int} (h : y.Fn < fn ∨ y.Fn = fn ∧ y.At < at') : posn (y :: l) fn at' = posn l fn at' + 1 := by
  unfold posn; simp [List.takeWhile_cons, h]
theorem posn_cons_ge {y : Api.THead} {l : List Api.THead} {fn at' : Int} (h : ¬ (y.Fn < fn ∨ y.Fn = fn ∧ y.At < at')) : posn (y :: l) fn at' = 0 := by
  unfold posn; simp only [List.takeWhile_cons]; rw [if_neg (by simpa using h)]; rfl
theorem posn_before {fn at' : Int} : ∀ {l : List Api.THead} {i : Nat} {y : Api.THead}, l[i]? = some y → i < posn l fn at' → (y.Fn < fn ∨ y.Fn = fn ∧ y.At < at')
  | [], i, y, h, _ => by simp at h
  | z :: l, i, y, h, hi => by
    by_cases hz : z.Fn < fn ∨ z.Fn = fn ∧ z.At < at'
    · rw [posn_cons_lt hz] at hi
      cases i with
      | zero => simp at h; subst h; exact hz
      | succ i => rw [List.getElem?_cons_succ] at h; exact posn_before h (by omega)
    · rw [posn_cons_ge hz] at hi; omega
theorem posn_at {fn at' : Int} : ∀ {l : List Api.THead} {y : Api.THead}, l[posn l fn at']? = some y → ¬ (y.Fn < fn ∨ y.Fn = fn ∧ y.At < at')
  | [], y, h => by simp at h
  | z :: l, y, h => by
    by_cases hz : z.Fn < fn ∨ z.Fn = fn ∧ z.At < at'
    · rw [posn_cons_lt hz, List.getElem?_cons_succ] at h; exact posn_at h
    · rw [posn_cons_ge hz] at h; simp at h; subst h; exact hz
/-- In a rising list each place stands once. -/
theorem at_posn {l : List Api.THead} (hs : Srt l) {i : Nat} {y : Api.THead} (h : l[i]? = some y) : i = posn l y.Fn y.At := by
  refine Nat.le_antisymm (Nat.le_of_not_lt fun hlt' => ?_) (Nat.le_of_not_lt fun hlt' => ?_)
  · have hil := (List.getElem?_eq_some_iff.1 h).1
    obtain ⟨z, hz⟩ : ∃ z, l[posn l y.Fn y.At]? = some z := ⟨_, List.getElem?_eq_getElem (by omega)⟩
    have h1 := posn_at hz
    have h2 := List.pairwise_iff_getElem.1 hs (posn l y.Fn y.At) i (by omega) hil hlt'
    rw [(List.getElem?_eq_some_iff.1 hz).2, (List.getElem?_eq_some_iff.1 h).2] at h2
    unfold hlt at h2
    omega
  · have := posn_before h hlt'
    omega
theorem cur_iff {l : List Api.THead} (hs : Srt l) {fn at' : Int} {x : Api.THead} : cur l fn at' = some x ↔ l[posn l fn at']? = some x ∧ x.Fn = fn ∧ x.At = at' := by
  unfold cur
  constructor
  · intro h
    have hk := isK_iff.1 (List.find?_some h)
    obtain ⟨i, hi⟩ := List.getElem?_of_mem (List.mem_of_find?_eq_some h)
    have := at_posn hs hi
    rw [hk.1, hk.2] at this
    exact ⟨this ▸ hi, hk⟩
  · rintro ⟨h, rfl, rfl⟩
    cases hf : l.find? (isK x.Fn x.At) with
    | none =>
      rw [List.find?_eq_none] at hf
      exact absurd (isK_self x) (hf x (List.mem_of_getElem? h))
    | some y =>
      have hk := isK_iff.1 (List.find?_some hf)
      obtain ⟨i, hi⟩ := List.getElem?_of_mem (List.mem_of_find?_eq_some hf)
      have := at_posn hs hi
      rw [hk.1, hk.2] at this
      rw [this, h] at hi
      exact hi.symm
theorem put_set {l : List Api.THead} (hs : Srt l) {x y : Api.THead} (h : cur l x.Fn x.At = some y) : put x l = l.set (posn l x.Fn x.At) x := by
  induction l with
  | nil => simp [cur] at h
  | cons z l ih =>
    have hs2 := List.pairwise_cons.1 hs
    rw [put]
    by_cases hz : hlt z x
    · rw [if_pos hz, posn_cons_lt hz, List.set_cons_succ]
      congr 1
      refine ih hs2.2 ?_
      unfold cur at h ⊢
      rwa [List.find?_cons_of_neg (fun e => by have := isK_iff.1 e; unfold hlt at hz; omega)] at h
    · rw [if_neg hz, posn_cons_ge hz, List.set_cons_zero, if_pos]
      obtain ⟨h1, h2⟩ := (cur_iff hs).1 h
      rw [posn_cons_ge hz] at h1
      simp at h1
      subst h1
      exact isK_iff.2 h2
theorem put_new {l : List Api.THead} {x : Api.THead} (h : cur l x.Fn x.At = none) : put x l = l.take (posn l x.Fn x.At) ++ x :: l.drop (posn l x.Fn x.At) := by
  induction l with
  | nil => simp [put, posn]
  | cons z l ih =>
    have hzk : ¬ isK x.Fn x.At z = true := fun e => by unfold cur at h; rw [List.find?_cons_of_pos e] at h; cases h
    rw [put]
    by_cases hz : hlt z x
    · rw [if_pos hz, posn_cons_lt hz, List.take_succ_cons, List.drop_succ_cons, List.cons_append]
      congr 1
      refine ih ?_
      unfold cur at h ⊢
      rwa [List.find?_cons_of_neg hzk] at h
    · rw [if_neg hz, if_neg hzk, posn_cons_ge hz]; rfl
/-- A turn of a head: it, and what is told. -/
def bump (x : Api.THead) : Api.THead × Int :=
  if x.Is = 0 then if x.Limit ≤ x.Count + 1 then ({ x with Count := x.Count + 1, Is := 1 }, 1) else ({ x with Count := x.Count + 1 }, 0)
  else if x.Is = 1 then (x, 0) else (x, x.Is)
def newH (hot fn at' : Int) : Api.THead := ⟨fn, at', 0, hot, 0, 0⟩
def worse (x : Api.THead) : Api.THead := { x with Fails := x.Fails + 1, Count := 0, Limit := 2 * x.Limit, Is := if 3 ≤ x.Fails + 1 then 3 else 0 }
def turnL (hot : Int) (l : List Api.THead) (fn at' : Int) : List Api.THead × Int :=
  if fn < 0 ∨ 60 ≤ fn ∨ at' < 0 ∨ 600 ≤ at' then (l, -1) else
  match cur l fn at' with
  | some x => (put (bump x).1 l, (bump x).2)
  | none => if 100 ≤ l.length then (l, -2) else (put (bump (newH hot fn at')).1 l, (bump (newH hot fn at')).2)
def takenL (l : List Api.THead) (fn at' : Int) (good : Bool) : List Api.THead × Int :=
  match cur l fn at' with
  | none => (l, 5)
  | some x => if x.Is ≠ 1 then (l, 8) else if good then (put { x with Is := 2 } l, 0) else (put (worse x) l, 0)
/-- What holds of each head. -/
def Good (x : Api.THead) : Prop := 0 ≤ x.Fn ∧ x.Fn < 60 ∧ 0 ≤ x.At ∧ x.At < 600 ∧ 0 ≤ x.Fails ∧ x.Fails ≤ 3 ∧ 1 ≤ x.Limit ∧ (x.Fails = 0 → x.Limit ≤ 1000) ∧ (x.Fails = 1 → x.Limit ≤ 2000) ∧ (x.Fails = 2 → x.Limit ≤ 4000) ∧ x.Limit ≤ 8000 ∧ 0 ≤ x.Count ∧ x.Count ≤ x.Limit ∧ 0 ≤ x.Is ∧ x.Is ≤ 3 ∧ (x.Is = 0 → x.Count < x.Limit) ∧ (x.Is ≤ 1 → x.Fails ≤ 2)
theorem bump_key (x : Api.THead) : (bump x).1.Fn = x.Fn ∧ (bump x).1.At = x.At := by
  unfold bump
  split
  · split <;> exact ⟨rfl, rfl⟩
  · split <;> exact ⟨rfl, rfl⟩
theorem bump_good {x : Api.THead} (h : Good x) : Good (bump x).1 := by
  unfold bump
  split
  · split
    · unfold Good at *; dsimp only; omega
    · unfold Good at *; dsimp only; omega
  · split
    · exact h
    · exact h
theorem bump_eq {x : Api.THead} (h : Good x) : bump x = if 1 < x.Is then (x, x.Is) else if x.Is = 0 then if x.Count + 1 = x.Limit then ({ x with Count := x.Count + 1, Is := 1 }, 1) else ({ x with Count := x.Count + 1 }, 0) else (x, 0) := by
  unfold bump
  unfold Good at h
  by_cases h0 : x.Is = 0
  · have h3 : ¬ 1 < x.Is := by omega
    simp only [if_pos h0, if_neg h3]
    by_cases h1 : x.Count + 1 = x.Limit
    · have h2 : x.Limit ≤ x.Count + 1 := by omega
      simp only [if_pos h2, if_pos h1]
    · have h2 : ¬ x.Limit ≤ x.Count + 1 := by omega
      simp only [if_neg h2, if_neg h1]
  · by_cases h1 : x.Is = 1
    · have h3 : ¬ 1 < x.Is := by omega
      simp only [if_neg h0, if_pos h1, if_neg h3]
    · have h3 : 1 < x.Is := by omega
      simp only [if_neg h0, if_neg h1, if_pos h3]
theorem worse_good {x : Api.THead} (h : Good x) (h1 : x.Is = 1) : Good (worse x) := by
  unfold worse Good at *
  dsimp only
  split <;> omega
theorem worse_three {x : Api.THead} (h : Good x) (h1 : x.Is = 1) : (3 ≤ x.Fails + 1 ↔ x.Fails + 1 = 3) := by unfold Good at h; omega
theorem new_good {hot fn at' : Int} (h : 1 ≤ hot) (h2 : hot ≤ 1000) (h3 : ¬ (fn < 0 ∨ 60 ≤ fn ∨ at' < 0 ∨ 600 ≤ at')) : Good (newH hot fn at') := by unfold newH Good; dsimp only; omega
structure Inv (l : List Api.THead) : Prop where
  srt : Srt l
  good : ∀ x ∈ l, Good x
  few : l.length ≤ 100
theorem put_len {x : Api.THead} {l : List Api.THead} (hs : Srt l) : (put x l).length = if (cur l x.Fn x.At).isSome then l.length else l.length + 1 := by
  cases h : cur l x.Fn x.At with
  | some y => rw [put_set hs h]; simp
  | none =>
    rw [put_new h, if_neg (by simp), List.length_append, List.length_cons, List.length_take, List.length_drop]
    have := posn_le l x.Fn x.At
    omega
theorem Inv.put {l : List Api.THead} (h : Inv l) {x : Api.THead} (hx : Good x) (hl : (cur l x.Fn x.At).isSome = true ∨ l.length < 100) : Inv (put x l) := by
  refine ⟨put_srt x h.srt, fun y hy => ?_, ?_⟩
  · rcases mem_put hy with e | hy
    · subst e; exact hx
    · exact h.good y hy
  · have := h.few
    rw [put_len h.srt]
    split
    · omega
    · rcases hl with hl | hl
      · contradiction
      · omega
theorem cur_good {l : List Api.THead} (h : Inv l) {fn at' : Int} {x : Api.THead} (hx : cur l fn at' = some x) : Good x ∧ x.Fn = fn ∧ x.At = at' :=
  ⟨h.good x (List.mem_of_find?_eq_some hx), isK_iff.1 (List.find?_some hx)⟩
theorem turn_inv {hot : Int} (h1 : 1 ≤ hot) (h2 : hot ≤ 1000) {l : List Api.THead} (h : Inv l) (fn at' : Int) : Inv (turnL hot l fn at').1 := by
  unfold turnL
  split
  · exact h
  · rename_i hr
    split
    · rename_i x hx
      obtain ⟨g, e1, e2⟩ := cur_good h hx
      exact h.put (bump_good g) (.inl (by rw [(bump_key x).1, (bump_key x).2, e1, e2, hx]; rfl))
    · split
      · exact h
      · exact h.put (bump_good (new_good h1 h2 hr)) (.inr (by omega))
theorem taken_inv {l : List Api.THead} (h : Inv l) (fn at' : Int) (good : Bool) : Inv (takenL l fn at' good).1 := by
  unfold takenL
  split
  · exact h
  · rename_i x hx
    obtain ⟨g, e1, e2⟩ := cur_good h hx
    split
    · exact h
    · rename_i h1
      split
      · refine h.put ?_ (.inl (by show (cur l x.Fn x.At).isSome = true; rw [e1, e2, hx]; rfl))
        unfold Good at *
        dsimp only
        omega
      · exact h.put (worse_good g (by omega)) (.inl (by show (cur l x.Fn x.At).isSome = true; rw [e1, e2, hx]; rfl))
/-- A call: what it tells, and what is then. -/
def stepL (hot : Int) (l : List Api.THead) (fn at' k : Int) : List Api.THead × Int := if k ≠ 0 then takenL l fn at' (decide (k = 1)) else turnL hot l fn at'
theorem step_inv {hot : Int} (h1 : 1 ≤ hot) (h2 : hot ≤ 1000) {l : List Api.THead} (h : Inv l) (fn at' k : Int) : Inv (stepL hot l fn at' k).1 := by
  unfold stepL
  split
  · exact taken_inv h _ _ _
  · exact turn_inv h1 h2 h _ _
/-- The heads in whatever order, sorted: the list itself. -/
theorem sorted_is {l s : List Api.THead} (hl : Srt l) (hs : s.Pairwise fun x y => ¬ hlt y x) (hn : s.Pairwise fun x y => x ≠ y) (hm : ∀ x, x ∈ s ↔ x ∈ l) : s = l := by
  refine rising_ext (lt := hlt) (fun x => by unfold hlt; omega) (fun x y => by unfold hlt; omega) ?_ hl hm
  have hb := List.Pairwise.and hs hn
  refine List.Pairwise.imp_of_mem (fun {a b} ha hb' h => ?_) hb
  have h1 := (hm a).1 ha
  have h2 := (hm b).1 hb'
  obtain ⟨i, hi⟩ := List.getElem?_of_mem h1
  obtain ⟨j, hj⟩ := List.getElem?_of_mem h2
  have hne : ¬ (a.Fn = b.Fn ∧ a.At = b.At) := fun e => h.2 (by
    have e1 := at_posn hl hi
    have e2 := at_posn hl hj
    rw [e.1, e.2] at e1
    rw [← e1.trans e2.symm.symm.symm] at hj
    · rw [hi] at hj; exact Option.some.inj hj)
  have := h.1
  unfold hlt at *
  omega
end Go.Proofs.Ytjlnaiiajlahgaa.heat
