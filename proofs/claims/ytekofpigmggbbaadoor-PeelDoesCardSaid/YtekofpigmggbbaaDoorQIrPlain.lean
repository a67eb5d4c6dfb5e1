/- Plain: the table of instructions. -/
import Derived.Test.YtekofpigmggbbaaDoorQTy
set_option linter.unusedVariables false
set_option linter.unusedSimpArgs false
namespace Go.Proofs.YtekofpigmggbbaaDoor.ir
open Go.Bk

structure Form where
  asks : Int
  low : Int
  high : Int
  k : Bool
  tells : Bool
  exit : Int
def formV (f : Form) : Value := .agg #[.int .i64 f.asks, .int .i64 f.low, .int .i64 f.high, .bool f.k, .bool f.tells, .int .i64 f.exit]
/-- The row of an operation, and whether there is one. -/
def formOf (op : Int) : Form × Bool :=
  if op = 1 then (⟨0, 0, 1073741824, false, true, 0⟩, true)
  else if op = 2 then (⟨0, 0, 0, true, true, 0⟩, true)
  else if op = 3 then (⟨0, 0, 0, false, true, 0⟩, true)
  else if op = 4 then (⟨1, 0, 6, false, false, 2⟩, true)
  else if op = 5 then (⟨1, 0, 1, false, false, 2⟩, true)
  else if op = 6 then (⟨1, 0, 0, true, false, 2⟩, true)
  else if op = 7 then (⟨2, 3, 10, false, true, 1⟩, true)
  else if op = 8 then (⟨1, 11, 12, false, true, 1⟩, true)
  else if op = 9 then (⟨1, 1, 7, false, false, 2⟩, true)
  else if op = 10 then (⟨1, 0, 99, false, true, 0⟩, true)
  else if op = 11 then (⟨2, 0, 99, false, false, 0⟩, true)
  else if op = 12 then (⟨2, 1, 1073741824, false, false, 2⟩, true)
  else if op = 13 then (⟨2, 0, 0, false, true, 2⟩, true)
  else if op = 14 then (⟨3, 0, 0, false, false, 2⟩, true)
  else if op = 15 then (⟨1, 0, 0, false, true, 0⟩, true)
  else if op = 16 then (⟨0, 1, 3, false, true, 2⟩, true)
  else if op = 17 then (⟨2, 0, 0, false, false, 1⟩, true)
  else if op = 18 then (⟨0, 0, 0, false, true, 2⟩, true)
  else if op = 19 then (⟨0, 1, 1073741824, false, false, 2⟩, true)
  else (⟨0, 0, 0, false, false, 0⟩, false)
/-- Has it a value? -/
def tellsOf (op : Int) : Bool := (formOf op).1.tells
theorem tellsOf_eq (op : Int) : tellsOf op = decide (op ∈ [(1 : Int), 2, 3, 7, 8, 10, 13, 15, 16, 18]) := by
  have h : (op < 1 ∨ 19 < op) ∨ op = 1 ∨ op = 2 ∨ op = 3 ∨ op = 4 ∨ op = 5 ∨ op = 6 ∨ op = 7 ∨ op = 8 ∨ op = 9 ∨ op = 10 ∨ op = 11 ∨ op = 12 ∨ op = 13 ∨ op = 14 ∨ op = 15 ∨ op = 16 ∨ op = 17 ∨ op = 18 ∨ op = 19 := by omega
  rcases h with h | rfl | rfl | rfl | rfl | rfl | rfl | rfl | rfl | rfl | rfl | rfl | rfl | rfl | rfl | rfl | rfl | rfl | rfl | rfl
  · unfold tellsOf formOf
    rw [if_neg (show ¬ op = 1 by omega), if_neg (show ¬ op = 2 by omega), if_neg (show ¬ op = 3 by omega), if_neg (show ¬ op = 4 by omega), if_neg (show ¬ op = 5 by omega), if_neg (show ¬ op = 6 by omega), if_neg (show ¬ op = 7 by omega), if_neg (show ¬ op = 8 by omega), if_neg (show ¬ op = 9 by omega), if_neg (show ¬ op = 10 by omega), if_neg (show ¬ op = 11 by omega), if_neg (show ¬ op = 12 by omega), if_neg (show ¬ op = 13 by omega), if_neg (show ¬ op = 14 by omega), if_neg (show ¬ op = 15 by omega), if_neg (show ¬ op = 16 by omega), if_neg (show ¬ op = 17 by omega), if_neg (show ¬ op = 18 by omega), if_neg (show ¬ op = 19 by omega)]
    simp
    omega
  all_goals decide
theorem formOf_else {op : Int} (h : op < 1 ∨ 19 < op) : formOf op = (⟨0, 0, 0, false, false, 0⟩, false) := by
  unfold formOf
  rw [if_neg (show ¬ op = 1 by omega), if_neg (show ¬ op = 2 by omega), if_neg (show ¬ op = 3 by omega), if_neg (show ¬ op = 4 by omega), if_neg (show ¬ op = 5 by omega), if_neg (show ¬ op = 6 by omega), if_neg (show ¬ op = 7 by omega), if_neg (show ¬ op = 8 by omega), if_neg (show ¬ op = 9 by omega), if_neg (show ¬ op = 10 by omega), if_neg (show ¬ op = 11 by omega), if_neg (show ¬ op = 12 by omega), if_neg (show ¬ op = 13 by omega), if_neg (show ¬ op = 14 by omega), if_neg (show ¬ op = 15 by omega), if_neg (show ¬ op = 16 by omega), if_neg (show ¬ op = 17 by omega), if_neg (show ¬ op = 18 by omega), if_neg (show ¬ op = 19 by omega)]
/-- How many values it asks. -/
theorem asks_cases (op : Int) : (formOf op).2 = false ∧ (formOf op).1.asks = 0 ∨ (formOf op).2 = true ∧ ((formOf op).1.asks = 0 ∨ (formOf op).1.asks = 1 ∨ (formOf op).1.asks = 2 ∨ (formOf op).1.asks = 3) := by
  have h : (op < 1 ∨ 19 < op) ∨ op = 1 ∨ op = 2 ∨ op = 3 ∨ op = 4 ∨ op = 5 ∨ op = 6 ∨ op = 7 ∨ op = 8 ∨ op = 9 ∨ op = 10 ∨ op = 11 ∨ op = 12 ∨ op = 13 ∨ op = 14 ∨ op = 15 ∨ op = 16 ∨ op = 17 ∨ op = 18 ∨ op = 19 := by omega
  rcases h with h | rfl | rfl | rfl | rfl | rfl | rfl | rfl | rfl | rfl | rfl | rfl | rfl | rfl | rfl | rfl | rfl | rfl | rfl | rfl
  · unfold formOf
    rw [if_neg (show ¬ op = 1 by omega), if_neg (show ¬ op = 2 by omega), if_neg (show ¬ op = 3 by omega), if_neg (show ¬ op = 4 by omega), if_neg (show ¬ op = 5 by omega), if_neg (show ¬ op = 6 by omega), if_neg (show ¬ op = 7 by omega), if_neg (show ¬ op = 8 by omega), if_neg (show ¬ op = 9 by omega), if_neg (show ¬ op = 10 by omega), if_neg (show ¬ op = 11 by omega), if_neg (show ¬ op = 12 by omega), if_neg (show ¬ op = 13 by omega), if_neg (show ¬ op = 14 by omega), if_neg (show ¬ op = 15 by omega), if_neg (show ¬ op = 16 by omega), if_neg (show ¬ op = 17 by omega), if_neg (show ¬ op = 18 by omega), if_neg (show ¬ op = 19 by omega)]
    simp
  all_goals decide
/-- The values that an instruction asks. -/
def asksOf (x : Api.TIns) : List Int := [x.A, x.B, x.C].take (formOf x.Op).1.asks.toNat
end Go.Proofs.YtekofpigmggbbaaDoor.ir
