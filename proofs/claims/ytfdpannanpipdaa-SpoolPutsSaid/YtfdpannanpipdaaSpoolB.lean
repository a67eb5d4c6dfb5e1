/- The document's errors, sums and comparisons, walked. -/
import Derived.Test.YtfdpannanpipdaaSpoolA
set_option linter.unusedVariables false
set_option linter.unusedSimpArgs false
namespace Go.Proofs.Ytfdpannanpipdaa.spool
open Go.Bk Go.RowKit

set_option maxRecDepth 100000 in
theorem serr_low {w : World} {K N : Int} (h : K < 0) :
    Calls Try.prog 73 #[.agg #[.int .i64 K, .int .i64 N]] w fun e w' => e = .returned (.int .i64 7) ∧ Below w.heap.size w w' := by
  have f : decide (K < 0) = true := by simp [h]
  go_enter Try.func73, Try.ntmps73
  go_wp2_with fail
  go_ret
  exact ⟨rfl, (Below.refl _ _).alloc (Nat.le_refl _) _⟩
set_option maxRecDepth 100000 in
theorem serr_high {w : World} {K N : Int} (h : 4 < K) :
    Calls Try.prog 73 #[.agg #[.int .i64 K, .int .i64 N]] w fun e w' => e = .returned (.int .i64 7) ∧ Below w.heap.size w w' := by
  have f : decide (K < 0) = false := by simp; omega
  have f2 : decide (4 < K) = true := by simp [h]
  go_enter Try.func73, Try.ntmps73
  go_wp2_with fail
  go_ret
  exact ⟨rfl, (Below.refl _ _).alloc (Nat.le_refl _) _⟩
set_option maxRecDepth 100000 in
theorem serr_0g {w : World} {N : Int} (h : N = 0) :
    Calls Try.prog 73 #[.agg #[.int .i64 0, .int .i64 N]] w fun e w' => e = .returned (.int .i64 0) ∧ Below w.heap.size w w' := by
  subst h
  go_enter Try.func73, Try.ntmps73
  go_wp2_with fail
  go_ret
  exact ⟨rfl, (Below.refl _ _).alloc (Nat.le_refl _) _⟩
set_option maxRecDepth 100000 in
theorem serr_0b {w : World} {N : Int} (h : N ≠ 0) :
    Calls Try.prog 73 #[.agg #[.int .i64 0, .int .i64 N]] w fun e w' => e = .returned (.int .i64 1) ∧ Below w.heap.size w w' := by
  have f : (N != 0) = true := by simp [h]
  go_enter Try.func73, Try.ntmps73
  go_wp2_with fail
  go_ret
  exact ⟨rfl, (Below.refl _ _).alloc (Nat.le_refl _) _⟩
set_option maxRecDepth 100000 in
theorem serr_1g {w : World} {N : Int} (h : 0 ≤ N ∧ N ≤ 1) :
    Calls Try.prog 73 #[.agg #[.int .i64 1, .int .i64 N]] w fun e w' => e = .returned (.int .i64 0) ∧ Below w.heap.size w w' := by
  go_enter Try.func73, Try.ntmps73
  go_wp2_with (with_reducible refine (between_true h.1 h.2).mono ?_; rintro e w1 ⟨rfl, rfl⟩)
  go_ret
  exact ⟨rfl, (Below.refl _ _).alloc (Nat.le_refl _) _⟩
set_option maxRecDepth 100000 in
theorem serr_1b {w : World} {N : Int} (h : N < 0 ∨ 1 < N) :
    Calls Try.prog 73 #[.agg #[.int .i64 1, .int .i64 N]] w fun e w' => e = .returned (.int .i64 1) ∧ Below w.heap.size w w' := by
  go_enter Try.func73, Try.ntmps73
  go_wp2_with (with_reducible refine (between_false h).mono ?_; rintro e w1 ⟨rfl, rfl⟩)
  go_ret
  exact ⟨rfl, (Below.refl _ _).alloc (Nat.le_refl _) _⟩
set_option maxRecDepth 100000 in
theorem serr_2g {w : World} {N : Int} (h : -2147483648 ≤ N ∧ N ≤ 2147483647) :
    Calls Try.prog 73 #[.agg #[.int .i64 2, .int .i64 N]] w fun e w' => e = .returned (.int .i64 0) ∧ Below w.heap.size w w' := by
  go_enter Try.func73, Try.ntmps73
  go_wp2_with (with_reducible refine (between_true h.1 h.2).mono ?_; rintro e w1 ⟨rfl, rfl⟩)
  go_ret
  exact ⟨rfl, (Below.refl _ _).alloc (Nat.le_refl _) _⟩
set_option maxRecDepth 100000 in
theorem serr_2b {w : World} {N : Int} (h : N < -2147483648 ∨ 2147483647 < N) :
    Calls Try.prog 73 #[.agg #[.int .i64 2, .int .i64 N]] w fun e w' => e = .returned (.int .i64 1) ∧ Below w.heap.size w w' := by
  go_enter Try.func73, Try.ntmps73
  go_wp2_with (with_reducible refine (between_false h).mono ?_; rintro e w1 ⟨rfl, rfl⟩)
  go_ret
  exact ⟨rfl, (Below.refl _ _).alloc (Nat.le_refl _) _⟩
set_option maxRecDepth 100000 in
theorem serr_4g {w : World} {N : Int} (h : 0 ≤ N ∧ N ≤ 299) :
    Calls Try.prog 73 #[.agg #[.int .i64 4, .int .i64 N]] w fun e w' => e = .returned (.int .i64 0) ∧ Below w.heap.size w w' := by
  go_enter Try.func73, Try.ntmps73
  go_wp2_with (with_reducible refine (between_true h.1 h.2).mono ?_; rintro e w1 ⟨rfl, rfl⟩)
  go_ret
  exact ⟨rfl, (Below.refl _ _).alloc (Nat.le_refl _) _⟩
set_option maxRecDepth 100000 in
theorem serr_4b {w : World} {N : Int} (h : N < 0 ∨ 299 < N) :
    Calls Try.prog 73 #[.agg #[.int .i64 4, .int .i64 N]] w fun e w' => e = .returned (.int .i64 1) ∧ Below w.heap.size w w' := by
  go_enter Try.func73, Try.ntmps73
  go_wp2_with (with_reducible refine (between_false h).mono ?_; rintro e w1 ⟨rfl, rfl⟩)
  go_ret
  exact ⟨rfl, (Below.refl _ _).alloc (Nat.le_refl _) _⟩
set_option maxRecDepth 100000 in
theorem serr_3 {w : World} {N : Int} :
    Calls Try.prog 73 #[.agg #[.int .i64 3, .int .i64 N]] w fun e w' => e = .returned (.int .i64 0) ∧ Below w.heap.size w w' := by
  go_enter Try.func73, Try.ntmps73
  go_wp2_with fail
  go_ret
  exact ⟨rfl, (Below.refl _ _).alloc (Nat.le_refl _) _⟩
theorem serr_any {w : World} {v : Api.Val} :
    Calls Try.prog 73 #[.agg #[.int .i64 v.Kind, .int .i64 v.N]] w fun e w' => e = .returned (.int .i64 (rightOf v)) ∧ Below w.heap.size w w' := by
  obtain ⟨K, N⟩ := v
  dsimp only
  unfold rightOf
  dsimp only
  have h : K < 0 ∨ 4 < K ∨ K = 0 ∨ K = 1 ∨ K = 2 ∨ K = 3 ∨ K = 4 := by omega
  rcases h with h | h | rfl | rfl | rfl | rfl | rfl
  · rw [if_pos (by omega)]; exact serr_low h
  · rw [if_pos (by omega)]; exact serr_high h
  · rw [if_neg (by omega)]
    by_cases h : N = 0
    · rw [if_neg (by omega)]; exact serr_0g h
    · rw [if_pos (by omega)]; exact serr_0b h
  · rw [if_neg (by omega)]
    by_cases h : 0 ≤ N ∧ N ≤ 1
    · rw [if_neg (by omega)]; exact serr_1g h
    · rw [if_pos (by omega)]; exact serr_1b (by omega)
  · rw [if_neg (by omega)]
    by_cases h : -2147483648 ≤ N ∧ N ≤ 2147483647
    · rw [if_neg (by omega)]; exact serr_2g h
    · rw [if_pos (by omega)]; exact serr_2b (by omega)
  · rw [if_neg (by omega), if_neg (by omega)]; exact serr_3
  · rw [if_neg (by omega)]
    by_cases h : 0 ≤ N ∧ N ≤ 299
    · rw [if_neg (by omega)]; exact serr_4g h
    · rw [if_pos (by omega)]; exact serr_4b (by omega)

def rsumRel (w : World) (xs : List UInt8) (v n : Value) (w' : World) : Prop := ∃ k : Nat, k ≤ xs.length ∧ v = .int .i64 k ∧ n = .int .i64 (sumOf (xs.take k)) ∧ Quiet w w'

set_option maxRecDepth 100000 in
theorem rsum_any {S : Nat → Prop} {w : World} {a : Option Addr} {c : Nat} {xs : List UInt8} (h : Arr S w a xs) :
    Calls Try.prog 113 #[.slice a xs.length c] w fun e w' => e = .returned (.int .i64 (sumOf xs)) ∧ Quiet w w' := by
  have hm := h.small
  unfold maxLen at hm
  go_enter Try.func113, Try.ntmps113
  go_wp2
  go_loopw [4, 3] (rsumRel w xs) (fun i _ _ => xs.length - (intOf i).toNat)
  case atStart => exact ⟨0, Nat.zero_le _, rfl, rfl, Quiet.refl _⟩
  case round =>
    obtain ⟨k, hk, rfl, rfl, hq⟩ := hrel
    have HQ := Lib.hid hq
    have h' := h.keep (w' := wr) (fun b _ => hq.heap b)
    clear hq h
    by_cases hlt : k < xs.length
    · obtain ⟨y, hy⟩ : ∃ y, xs[k]? = some y := ⟨_, List.getElem?_eq_getElem hlt⟩
      have HY := Lib.hid hy
      obtain ⟨b1, o1, rfl, -, q1⟩ := arr_byte h' hy
      have hn := sum_lt (xs.take k)
      have HS : Hid (sumOf (xs.take (k + 1)) = sumStep (sumOf (xs.take k)) y) := fold_take hy
      clear h' hy
      generalize sumOf (xs.take k) = n at hn HS ⊢
      go_wp2
      go_roundw
      case rel => exact ⟨k + 1, by omega, by go_num, by rw [HS.out, sum_step_ref hn], HQ.out⟩
      case measure => simp [intOf]; omega
    · go_wp2
      go_ret
      exact ⟨by rw [List.take_of_length_le (by omega)]; rfl, HQ.out⟩
end Go.Proofs.Ytfdpannanpipdaa.spool
