/- Lines that put: what the document says of them, in plain Lean. No program is named here. -/
import Derived.Test.YtimlhjjdaggiiaaTy
import Derived.Test.YtimlhjjdaggiiaaFuncs
set_option linter.unusedVariables false
set_option linter.unusedSimpArgs false
namespace Go.Proofs.Ytimlhjjdaggiiaa.line
open Go.Bk Go.RowKit

def bad (x : Api.DLet) : Bool := decide (x.Op < 0) || decide (3 < x.Op)
def errOf (l : List Api.DLet) (i : Int) : Int := if 200 < l.length then 2 else if l.any bad then 7 else if 0 ≤ i ∧ i < l.length then 0 else 1
theorem errOf_large {l : List Api.DLet} {i : Int} (h : 200 < l.length) : errOf l i = 2 := if_pos h
theorem errOf_kind {l : List Api.DLet} {i : Int} (h : ¬ 200 < l.length) (hb : l.any bad = true) : errOf l i = 7 := by unfold errOf; rw [if_neg h, if_pos hb]
theorem errOf_arg {l : List Api.DLet} {i : Int} (h : ¬ 200 < l.length) (hb : l.any bad = false) (hi : ¬ (0 ≤ i ∧ i < l.length)) : errOf l i = 1 := by unfold errOf; rw [if_neg h, if_neg (by rw [hb]; simp), if_neg hi]
theorem errOf_ok {l : List Api.DLet} {i : Int} (h : ¬ 200 < l.length) (hb : l.any bad = false) (hi : 0 ≤ i ∧ i < l.length) : errOf l i = 0 := by unfold errOf; rw [if_neg h, if_neg (by rw [hb]; simp), if_pos hi]
theorem errOf_zero {l : List Api.DLet} {i : Int} (h : errOf l i = 0) : l.length ≤ 200 ∧ l.any bad = false ∧ 0 ≤ i ∧ i < l.length := by
  unfold errOf at h
  split at h
  · omega
  · split at h
    · omega
    · split at h
      · next h1 h2 h3 => exact ⟨by omega, by simpa using h2, h3⟩
      · omega
theorem any_of_at {l : List Api.DLet} {k : Nat} {x : Api.DLet} (h : l[k]? = some x) (hb : bad x = true) : l.any bad = true := List.any_eq_true.2 ⟨x, List.mem_of_getElem? h, hb⟩
theorem not_any_of {l : List Api.DLet} (h : firstTo bad l l.length) : l.any bad = false := by
  rw [← Bool.not_eq_true]; intro ha
  obtain ⟨x, hx, hb⟩ := List.any_eq_true.1 ha
  obtain ⟨k, hk⟩ := List.getElem?_of_mem hx
  have := h k x (List.getElem?_eq_some_iff.1 hk).1 hk
  rw [hb] at this; cases this

/-- The last line ahead of place k that puts into n. -/
def lastBelow (l : List Api.DLet) (n : Int) : Nat → Option Nat
  | 0 => none
  | k + 1 => if (l[k]?).map (·.To) = some n then some k else lastBelow l n k
def lastInt (l : List Api.DLet) (n : Int) (k : Nat) : Int := ((lastBelow l n k).map Int.ofNat).getD (-1)
theorem lastBelow_lt {l : List Api.DLet} {n : Int} {k j : Nat} (h : lastBelow l n k = some j) : j < k := by
  induction k with
  | zero => cases h
  | succ k ih =>
    unfold lastBelow at h
    split at h
    · injection h with h; omega
    · have := ih h; omega
theorem lastBelow_hit {l : List Api.DLet} {n : Int} {k : Nat} {x : Api.DLet} (h : l[k]? = some x) (hx : x.To = n) : lastBelow l n (k + 1) = some k := by
  unfold lastBelow; rw [h, if_pos (by rw [← hx]; rfl)]
theorem lastBelow_miss {l : List Api.DLet} {n : Int} {k : Nat} {x : Api.DLet} (h : l[k]? = some x) (hx : x.To ≠ n) : lastBelow l n (k + 1) = lastBelow l n k := by
  rw [lastBelow, h, if_neg (by intro e; injection e with e; exact hx e)]

/-- What one line puts, of what it reads. -/
def opVal (x : Api.DLet) (a b : Int) : Int :=
  if x.Op = 0 then IntKind.i64.wrap (a + b) else if x.Op = 1 then IntKind.i64.wrap (a - b) else if x.Op = 2 then IntKind.i64.wrap (a * b) else x.A
def look (l : List Api.DLet) (vs : List Int) (k : Nat) (n : Int) : Int := ((lastBelow l n k).map fun j => vs.getD j 0).getD 0
/-- What the first k lines put. -/
def vals (l : List Api.DLet) : Nat → List Int
  | 0 => []
  | k + 1 => vals l k ++ [match l[k]? with | some x => opVal x (look l (vals l k) k x.A) (look l (vals l k) k x.B) | none => 0]
theorem vals_len (l : List Api.DLet) (k : Nat) : (vals l k).length = k := by
  induction k with
  | zero => rfl
  | succ k ih => simp [vals, ih]
theorem vals_succ {l : List Api.DLet} {k : Nat} {x : Api.DLet} (h : l[k]? = some x) : vals l (k + 1) = vals l k ++ [opVal x (look l (vals l k) k x.A) (look l (vals l k) k x.B)] := by rw [vals, h]
/-- What the variables hold ahead of line k. -/
def env (l : List Api.DLet) (k : Nat) (n : Int) : Option Int := (lastBelow l n k).map fun j => (vals l k).getD j 0
theorem look_env (l : List Api.DLet) (k : Nat) (n : Int) : look l (vals l k) k n = (env l k n).getD 0 := rfl
theorem env_succ {l : List Api.DLet} {k : Nat} {x : Api.DLet} (h : l[k]? = some x) (n : Int) :
    env l (k + 1) n = if n = x.To then some (opVal x ((env l k x.A).getD 0) ((env l k x.B).getD 0)) else env l k n := by
  unfold env
  by_cases hn : n = x.To
  · rw [if_pos hn, lastBelow_hit h hn.symm, vals_succ h]
    simp [List.getD, vals_len, look]
  · rw [if_neg hn, lastBelow_miss h (fun e => hn e.symm)]
    cases hl : lastBelow l n k with
    | none => rfl
    | some j =>
      have := lastBelow_lt hl
      simp only [Option.map_some]
      rw [vals_succ h]
      simp [List.getD, List.getElem?_append_left, vals_len, this]
/-- What is put at a place. -/
def runOf (l : List Api.DLet) (i : Nat) : Int := (vals l (i + 1)).getD i 0
theorem runOf_env {l : List Api.DLet} {i : Nat} {x : Api.DLet} (h : l[i]? = some x) : (env l (i + 1) x.To).getD 0 = runOf l i := by
  unfold env runOf
  rw [lastBelow_hit h rfl]
  rfl

/-- Whom a line reads. -/
def readBy (l : List Api.DLet) (k : Nat) (x : Api.DLet) (n : Int) : List Int := if x.Op < 3 then ((lastBelow l n k).map Int.ofNat).toList else []
def depAt (l : List Api.DLet) (k : Nat) (x : Api.DLet) : Api.DDep := { Uses := readBy l k x x.A ++ readBy l k x x.B }
end Go.Proofs.Ytimlhjjdaggiiaa.line
