/- What was in a slot: what both sides compute, in plain words. -/
import Derived.Test.YtfdpannanpipdaaTy
set_option linter.unusedVariables false
set_option linter.unusedSimpArgs false
namespace Go.Proofs.Ytfdpannanpipdaa.watch
open Go.Bk

def isRW (x : Api.Event) : Bool := decide (x.Kind = 3) || decide (x.Kind = 4)
def isAt (x : Api.Event) (k c s : Int) : Bool := decide (x.Kind = k) && decide (x.A = c) && decide (x.B = s)
def hits (x : Api.Event) (c s : Int) : Bool := isAt x 3 c s || isAt x 4 c s
theorem hits_eq (x : Api.Event) (c s : Int) : hits x c s = (isRW x && (decide (x.A = c) && decide (x.B = s))) := by
  unfold hits isAt isRW
  cases decide (x.Kind = 3) <;> cases decide (x.Kind = 4) <;> cases decide (x.A = c) <;> cases decide (x.B = s) <;> rfl
def errE (n : Nat) (at' : Int) : Int := if 200 < n then 2 else if at' < 0 ∨ (n : Int) < at' then 1 else 0
def lastW (l : List Api.Event) (c s : Int) : Nat → Option Nat
  | 0 => none
  | k + 1 => match l[k]? with
    | some x => if isAt x 4 c s then some k else lastW l c s k
    | none => lastW l c s k
theorem lastW_succ {l : List Api.Event} {k : Nat} {x : Api.Event} (h : l[k]? = some x) (c s : Int) : lastW l c s (k + 1) = if isAt x 4 c s then some k else lastW l c s k := by rw [lastW, h]
theorem lastW_lt {l : List Api.Event} {c s : Int} : ∀ {k j : Nat}, lastW l c s k = some j → j < k
  | 0, j, h => by cases h
  | k + 1, j, h => by
    rw [lastW] at h
    split at h
    · split at h
      · cases h; omega
      · have := lastW_lt h; omega
    · have := lastW_lt h; omega
def known (l : List Api.Event) (c s : Int) : Nat → Option Api.Val
  | 0 => none
  | k + 1 => match l[k]? with
    | some x => if hits x c s then some x.Val else known l c s k
    | none => known l c s k
theorem known_succ {l : List Api.Event} {k : Nat} {x : Api.Event} (h : l[k]? = some x) (c s : Int) : known l c s (k + 1) = if hits x c s then some x.Val else known l c s k := by rw [known, h]
def firstIn (c s : Int) : List Api.Event → Option Api.Val
  | [] => none
  | x :: r => if isAt x 4 c s then some x.Old else if isAt x 3 c s then some x.Val else firstIn c s r
def valueOf (l : List Api.Event) (c s : Int) (n : Nat) : Option Api.Val := (known l c s n).or (firstIn c s (l.drop n))
theorem firstIn_drop {l : List Api.Event} {k : Nat} {x : Api.Event} (h : l[k]? = some x) (c s : Int) : firstIn c s (l.drop k) = if isAt x 4 c s then some x.Old else if isAt x 3 c s then some x.Val else firstIn c s (l.drop (k + 1)) := by
  obtain ⟨hk, e⟩ := List.getElem?_eq_some_iff.1 h
  rw [List.drop_eq_getElem_cons hk, e, firstIn]
theorem firstIn_end {l : List Api.Event} {k : Nat} (h : l.length ≤ k) (c s : Int) : firstIn c s (l.drop k) = none := by rw [List.drop_eq_nil_of_le h]; rfl
theorem at_both {x : Api.Event} {c s : Int} (h : isAt x 4 c s = true) : isAt x 3 c s = false := by
  unfold isAt at h ⊢
  simp at h ⊢
  omega
def writesTo (l : List Api.Event) (c s : Int) : Nat → List Int
  | 0 => []
  | k + 1 => match l[k]? with
    | some x => if isAt x 4 c s then writesTo l c s k ++ [(k : Int)] else writesTo l c s k
    | none => writesTo l c s k
theorem writesTo_succ {l : List Api.Event} {k : Nat} {x : Api.Event} (h : l[k]? = some x) (c s : Int) : writesTo l c s (k + 1) = if isAt x 4 c s then writesTo l c s k ++ [(k : Int)] else writesTo l c s k := by rw [writesTo, h]
theorem writesTo_len (l : List Api.Event) (c s : Int) : ∀ k, (writesTo l c s k).length ≤ k
  | 0 => by simp [writesTo]
  | k + 1 => by
    rw [writesTo]
    have := writesTo_len l c s k
    split
    · split <;> simp <;> omega
    · omega
def told (x : Api.Event) : Api.Val := if x.Kind = 4 then x.Old else x.Val
def bad (l : List Api.Event) (i : Nat) : Bool := match l[i]? with
  | some x => isRW x && (match known l x.A x.B i with
    | some v => !decide (v = told x)
    | none => false)
  | none => false
theorem bad_at {l : List Api.Event} {i : Nat} {x : Api.Event} (h : l[i]? = some x) : bad l i = (isRW x && (match known l x.A x.B i with | some v => !decide (v = told x) | none => false)) := by unfold bad; rw [h]
def wholeOf (l : List Api.Event) : Int := match (List.range l.length).find? (bad l) with
  | some i => (i : Int)
  | none => -1
theorem wholeOf_at {l : List Api.Event} {k : Nat} (hk : k < l.length) (h : ∀ j, j < k → bad l j = false) (hb : bad l k = true) : wholeOf l = k := by
  unfold wholeOf
  have : (List.range l.length).find? (bad l) = some k := by
    rw [List.find?_eq_some_iff_getElem]
    exact ⟨hb, k, by simpa using hk, by simp, fun i hi => by simp [h i hi]⟩
  rw [this]
theorem wholeOf_none {l : List Api.Event} (h : ∀ j, j < l.length → bad l j = false) : wholeOf l = -1 := by
  unfold wholeOf
  have : (List.range l.length).find? (bad l) = none := by
    rw [List.find?_eq_none]
    intro x hx
    simp at hx
    simp [h x hx]
  rw [this]
def noneBad (l : List Api.Event) (k : Nat) : Prop := ∀ j, j < k → bad l j = false
theorem noneBad.succ {l : List Api.Event} {k : Nat} (h : noneBad l k) (hb : bad l k = false) : noneBad l (k + 1) := fun j hj => by
  by_cases e : j = k
  · rw [e]; exact hb
  · exact h j (by omega)
theorem wholeOf_ge (l : List Api.Event) : -1 ≤ wholeOf l := by
  unfold wholeOf
  split <;> omega
/-- What a map of slots holds behind k events. -/
abbrev valV (v : Api.Val) : Value := .agg #[.int .i64 v.Kind, .int .i64 v.N]
def slots (l : List Api.Event) (k : Nat) (s : Int × Int) : Option Value := (known l s.1 s.2 k).map valV
theorem slots_skip {l : List Api.Event} {k : Nat} {x : Api.Event} (h : l[k]? = some x) (hr : isRW x = false) (s : Int × Int) : slots l k s = slots l (k + 1) s := by
  unfold slots
  rw [known_succ h, hits_eq, hr]
  rfl
theorem slots_put {l : List Api.Event} {k : Nat} {x : Api.Event} (h : l[k]? = some x) (hr : isRW x = true) (s : Int × Int) : (if s = (x.A, x.B) then some (valV x.Val) else slots l k s) = slots l (k + 1) s := by
  unfold slots
  rw [known_succ h, hits_eq, hr]
  by_cases e : s = (x.A, x.B)
  · subst e; simp
  · rw [if_neg e]
    have : (decide (x.A = s.1) && decide (x.B = s.2)) = false := by
      rw [Bool.and_eq_false_iff]
      by_cases h1 : x.A = s.1
      · right; simp; intro h2; exact e (by rw [h1, h2])
      · left; simp [h1]
    simp [this]
end Go.Proofs.Ytfdpannanpipdaa.watch
