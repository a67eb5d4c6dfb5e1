/- Equality of arrays of four ints, as the walk asks it. -/
import Derived.Test.YtjlnaiiajlahgaaArr4
import Derived.Test.YtjlnaiiajlahgaaTy
import Derived.ChangeKeysEq
import Derived.Laws.StructEq
set_option linter.unusedVariables false
set_option linter.unusedSimpArgs false
namespace Go.Proofs.Ytjlnaiiajlahgaa
open Go.Bk Go.RowKit

def same4 (x y : Four) : Bool := x.1 == y.1 && (x.2.1 == y.2.1 && (x.2.2.1 == y.2.2.1 && x.2.2.2 == y.2.2.2))
theorem same4_eq (x y : Four) : same4 x y = decide (x = y) := by
  obtain ⟨a, b, c, d⟩ := x
  obtain ⟨a', b', c', d'⟩ := y
  unfold same4
  rw [Bool.eq_iff_iff]
  simp
theorem run_equalIn4 (d : Nat) (w : World) (a b c e a' b' c' e' : Int) : (Op.equalIn (d + 2) 64 (.agg #[.int .i64 a, .int .i64 b, .int .i64 c, .int .i64 e]) (.agg #[.int .i64 a', .int .i64 b', .int .i64 c', .int .i64 e'])).run Try.prog w = .ok (same4 (a, b, c, e) (a', b', c', e')) w := by
  obtain ⟨i, hi⟩ : ∃ i, Try.prog.info? 3 = some i := by
    have := Try.info3
    cases h : Try.prog.info? 3 with
    | none => rw [h] at this; cases this
    | some i => exact ⟨i, rfl⟩
  rw [run_equalIn_array (d := d + 1) w _ _ Try.underlying64 hi]
  have hc : Try.prog.cellsOf 3 = 1 := by kernel_rfl
  rw [hc]
  have hag : ∀ w, (isAgg 3).run Try.prog w = .ok false w := fun w => by first | exact Try.isAgg3 w | kernel_rfl
  simp [List.range, List.range.loop, Op.eqItems, part, hag, run_equalIn_int (h := Try.underlying3), same4]
  by_cases h1 : a = a'
  · by_cases h2 : b = b'
    · by_cases h3 : c = c'
      · by_cases h4 : e = e' <;> simp [h1, h2, h3, h4]
      · simp [h1, h2, h3]
    · simp [h1, h2]
  · simp [h1]
theorem run_equal4 (w : World) (a b c e a' b' c' e' : Int) : (Op.equal 64 (.agg #[.int .i64 a, .int .i64 b, .int .i64 c, .int .i64 e]) (.agg #[.int .i64 a', .int .i64 b', .int .i64 c', .int .i64 e'])).run Try.prog w = .ok (same4 (a, b, c, e) (a', b', c', e')) w := run_equalIn4 9998 w a b c e a' b' c' e'
theorem run_eql4 (w : World) (a b c e a' b' c' e' : Int) : (binOp .eql 64 (.agg #[.int .i64 a, .int .i64 b, .int .i64 c, .int .i64 e]) (.agg #[.int .i64 a', .int .i64 b', .int .i64 c', .int .i64 e'])).run Try.prog w = .ok (.bool (same4 (a, b, c, e) (a', b', c', e'))) w := by
  simp only [binOp]
  simp [run_equal4 w a b c e a' b' c' e']
theorem run_neq4 (w : World) (a b c e a' b' c' e' : Int) : (binOp .neq 64 (.agg #[.int .i64 a, .int .i64 b, .int .i64 c, .int .i64 e]) (.agg #[.int .i64 a', .int .i64 b', .int .i64 c', .int .i64 e'])).run Try.prog w = .ok (.bool (!same4 (a, b, c, e) (a', b', c', e'))) w := by
  simp only [binOp]
  simp [run_equal4 w a b c e a' b' c' e']
theorem index4_0 (w : World) (x0 x1 x2 x3 : Int) : (Instr.index 64 (.agg #[.int .i64 x0, .int .i64 x1, .int .i64 x2, .int .i64 x3]) (.int .i64 0)).run Try.prog w = .ok (.int .i64 x0) w := by kernel_rfl
theorem index4_1 (w : World) (x0 x1 x2 x3 : Int) : (Instr.index 64 (.agg #[.int .i64 x0, .int .i64 x1, .int .i64 x2, .int .i64 x3]) (.int .i64 1)).run Try.prog w = .ok (.int .i64 x1) w := by kernel_rfl
theorem index4_2 (w : World) (x0 x1 x2 x3 : Int) : (Instr.index 64 (.agg #[.int .i64 x0, .int .i64 x1, .int .i64 x2, .int .i64 x3]) (.int .i64 2)).run Try.prog w = .ok (.int .i64 x2) w := by kernel_rfl
theorem index4_3 (w : World) (x0 x1 x2 x3 : Int) : (Instr.index 64 (.agg #[.int .i64 x0, .int .i64 x1, .int .i64 x2, .int .i64 x3]) (.int .i64 3)).run Try.prog w = .ok (.int .i64 x3) w := by kernel_rfl
end Go.Proofs.Ytjlnaiiajlahgaa
