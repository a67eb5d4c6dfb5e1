/- check, reached and their likes in the document's answer, walked. -/
import Derived.Test.YtimlhjjdaggiiaaSame
import Derived.Test.YtimlhjjdaggiiaaWalkPlain
set_option linter.unusedVariables false
set_option linter.unusedSimpArgs false
namespace Go.Proofs.Ytimlhjjdaggiiaa.walk
open Go.Bk Go.RowKit

set_option maxRecDepth 100000 in
theorem check_any {S : Nat → Prop} {w : World} {a : Option Addr} {c : Nat} {l : List Api.DMark} {i how : Int} (h : Arr S w a l) :
    Calls Try.prog 84 #[.slice a l.length c, .int .i64 i, .int .i64 how] w fun e w' => e = .returned (.int .i64 (errOf l.length i how)) ∧ w = w' := by
  have hm := h.small
  unfold maxLen at hm
  go_enter Try.func84, Try.ntmps84
  go_wp2
  all_goals
    go_ret
    exact ⟨by (first | (simp [errOf]; done) | (simp [errOf]; omega) | (go_light; simp_all [errOf]; done) | (go_light; simp_all [errOf]; omega) | (go_light; simp_all [errOf]; grind) | (go_light; rw [Bool.eq_iff_iff]; simp_all [errOf]; done)), rfl⟩

set_option maxRecDepth 100000 in
theorem werr_any {S : Nat → Prop} {w : World} {a : Option Addr} {c : Nat} {l : List Api.DMark} {i how : Int} (h : Arr S w a l) :
    Calls Try.prog 32 #[.slice a l.length c, .int .i64 i, .int .i64 how] w fun e w' => e = .returned (.int .i64 (errOf l.length i how)) ∧ w = w' := by
  have hm := h.small
  unfold maxLen at hm
  go_enter Try.func32, Try.ntmps32
  go_wp2_with (go_at_call 61; (with_reducible refine (between_any _ _ _ _).mono ?_); rintro e w' ⟨rfl, rfl⟩)
  all_goals
    go_ret
    exact ⟨by (first | (simp [errOf]; done) | (simp [errOf]; omega) | (go_light; simp_all [errOf]; done) | (go_light; simp_all [errOf]; omega) | (go_light; simp_all [errOf]; grind) | (go_light; rw [Bool.eq_iff_iff]; simp_all [errOf]; done)), rfl⟩

set_option maxRecDepth 100000 in
theorem reached_any {w : World} {x y : Api.DMark} {how : Int} :
    Calls Try.prog 85 #[.agg #[.int .i64 x.Thread, .int .i64 x.Deep, .int .i64 x.Line], .agg #[.int .i64 y.Thread, .int .i64 y.Deep, .int .i64 y.Line], .int .i64 how] w
      fun e w' => e = .returned (.bool (rchI x y how)) ∧ Below w.heap.size w w' := by
  obtain ⟨t1, d1, l1⟩ := x
  obtain ⟨t2, d2, l2⟩ := y
  go_enter Try.func85, Try.ntmps85
  go_wp2
  all_goals
    go_ret
    refine ⟨?_, ((Below.refl _ _).alloc (Nat.le_refl _) _).alloc (by simp) _⟩
    (first | (simp [rchI]; done) | (simp [rchI]; omega) | (go_light; simp_all [rchI]; done) | (go_light; simp_all [rchI]; omega) | (go_light; simp_all [rchI]; grind) | (go_light; rw [Bool.eq_iff_iff]; simp_all [rchI]; done))

set_option maxRecDepth 100000 in
theorem rreached_any {w : World} {x y : Api.DMark} {how : Int} :
    Calls Try.prog 33 #[.agg #[.int .i64 x.Thread, .int .i64 x.Deep, .int .i64 x.Line], .agg #[.int .i64 y.Thread, .int .i64 y.Deep, .int .i64 y.Line], .int .i64 how] w
      fun e w' => e = .returned (.bool (rchR x y how)) ∧ Below w.heap.size w w' := by
  obtain ⟨t1, d1, l1⟩ := x
  obtain ⟨t2, d2, l2⟩ := y
  go_enter Try.func33, Try.ntmps33
  go_wp2
  all_goals
    go_ret
    refine ⟨?_, ((Below.refl _ _).alloc (Nat.le_refl _) _).alloc (by simp) _⟩
    (first | (simp [rchR]; done) | (simp [rchR]; omega) | (go_light; simp_all [rchR]; done) | (go_light; simp_all [rchR]; omega) | (go_light; simp_all [rchR]; grind) | (go_light; rw [Bool.eq_iff_iff]; simp_all [rchR]; done))
end Go.Proofs.Ytimlhjjdaggiiaa.walk
