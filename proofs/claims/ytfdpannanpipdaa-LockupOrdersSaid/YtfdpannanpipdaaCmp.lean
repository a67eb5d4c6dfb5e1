/- cmp.Compare, cmp.Or at ints, and the order of pairs (lockup.byPair): what the sort asks of it. -/
import Derived.Test.YtfdpannanpipdaaFuncs
import Derived.Test.YtfdpannanpipdaaLockPlain
import Derived.Deep.QuietTactic
import Derived.StillTailTactics
import Derived.Sort.Grow
set_option linter.unusedVariables false
set_option linter.unusedSimpArgs false
namespace Go.Proofs.Ytfdpannanpipdaa.lock
open Go.Bk Go.RowKit Go.Sort

theorem isNaN_any (w : World) (x : Int) : Calls Try.prog 138 #[.int .i64 x] w fun e w' => e = .returned (.bool false) ∧ w = w' := by
  go_enter Try.func138, Try.ntmps138
  go_wp2
  go_ret
  exact ⟨by simp, rfl⟩
theorem compare_any (w : World) (x y : Int) : Calls Try.prog 123 #[.int .i64 x, .int .i64 y] w fun e w' => e = .returned (.int .i64 (cmp3 x y)) ∧ w = w' := by
  have HC : Hid (∀ x w, Calls Try.prog 138 #[.int .i64 x] w fun e w' => e = .returned (.bool false) ∧ w = w') := fun x w => isNaN_any w x
  by_cases h1 : x < y
  · have HR : Hid (cmp3 x y = -1) := by show _ = _; unfold cmp3; rw [if_pos h1]
    go_enter Try.func123, Try.ntmps123
    go_wp2_with (go_at_call 138; (with_reducible refine (HC.out _ _).mono ?_); rintro e w' ⟨rfl, rfl⟩)
    go_ret
    exact ⟨by rw [HR.out]; rfl, rfl⟩
  · by_cases h2 : y < x
    · have HR : Hid (cmp3 x y = 1) := by show _ = _; unfold cmp3; rw [if_neg h1, if_pos h2]
      go_enter Try.func123, Try.ntmps123
      go_wp2_with (go_at_call 138; (with_reducible refine (HC.out _ _).mono ?_); rintro e w' ⟨rfl, rfl⟩)
      go_ret
      exact ⟨by rw [HR.out]; rfl, rfl⟩
    · have HR : Hid (cmp3 x y = 0) := by show _ = _; unfold cmp3; rw [if_neg h1, if_neg h2]
      go_enter Try.func123, Try.ntmps123
      go_wp2_with (go_at_call 138; (with_reducible refine (HC.out _ _).mono ?_); rintro e w' ⟨rfl, rfl⟩)
      go_ret
      exact ⟨by rw [HR.out]; rfl, rfl⟩

def orRel (w : World) (x y : Int) (i : Value) (w' : World) : Prop := ∃ k : Nat, k ≤ 2 ∧ i = .int .i64 k ∧ (0 < k → x = 0) ∧ (1 < k → y = 0) ∧ w = w'
def or2 (x y : Int) : Int := if x ≠ 0 then x else y
set_option maxRecDepth 100000 in
theorem or_any {w : World} {g c : Nat} {x y : Int} (h0 : w.cell? ⟨g, 0, none⟩ = some (.int .i64 x)) (h1 : w.cell? ⟨g, 1, none⟩ = some (.int .i64 y)) :
    Calls Try.prog 134 #[.slice (some ⟨g, 0, none⟩) 2 c] w fun e w' => e = .returned (.int .i64 (or2 x y)) ∧ w = w' := by
  go_enter Try.func134, Try.ntmps134
  go_wp2
  go_loopw [8] (orRel w x y) (fun i _ => 2 - (intOf i).toNat)
  case atStart => exact ⟨0, by omega, rfl, fun h => by omega, fun h => by omega, rfl⟩
  case round =>
    obtain ⟨k, hk, rfl, hx, hy, rfl⟩ := hrel
    have hk3 : k = 0 ∨ k = 1 ∨ k = 2 := by omega
    rcases hk3 with rfl | rfl | rfl
    · clear hx hy
      by_cases hx : x = 0
      · have HX := Lib.hid hx
        have hd : (x == 0) = false ∨ True := .inr trivial
        clear hd
        subst hx
        go_wp2
        go_roundw
        case rel => exact ⟨1, by omega, rfl, fun _ => rfl, fun h => by omega, by trivial⟩
        case measure => simp [intOf]
      · have hd : (x == 0) = false := by simpa using hx
        have HR : Hid (or2 x y = x) := by show _ = _; unfold or2; rw [if_pos hx]
        clear hx
        go_wp2
        go_ret
        exact ⟨by rw [HR.out]; rfl, rfl⟩
    · have hx := hx (by omega)
      subst hx
      clear hy
      by_cases hy : y = 0
      · subst hy
        go_wp2
        go_roundw
        case rel => exact ⟨2, by omega, rfl, fun _ => rfl, fun _ => rfl, by trivial⟩
        case measure => simp [intOf]
      · have hd : (y == 0) = false := by simpa using hy
        clear hy
        go_wp2
        go_ret
        exact ⟨rfl, rfl⟩
    · have hx := hx (by omega)
      have hy := hy (by omega)
      subst hx hy
      go_wp2
      go_ret
      exact ⟨rfl, rfl⟩
theorem cmpPair_or (x y : Api.DPair) : cmpPair x y = or2 (cmp3 x.I y.I) (cmp3 x.J y.J) := rfl
set_option maxRecDepth 100000 in
set_option maxHeartbeats 1000000 in
theorem byPair_any (w : World) (x y : Api.DPair) : Calls Try.prog 107 #[.agg #[.int .i64 x.I, .int .i64 x.J], .agg #[.int .i64 y.I, .int .i64 y.J]] w fun e w' => e = .returned (.int .i64 (cmpPair x y)) ∧ ∃ q os', w' = grow (w.drewN q) os' := by
  rw [cmpPair_or]
  have HC : Hid (∀ x y w, Calls Try.prog 123 #[.int .i64 x, .int .i64 y] w fun e w' => e = .returned (.int .i64 (cmp3 x y)) ∧ w' = w) := fun x y w => (compare_any w x y).mono fun e w' h => ⟨h.1, h.2.symm⟩
  go_enter Try.func107, Try.ntmps107
  go_wp2_with fail
  refine cut_wp (fun wz => (wz.cell? ⟨w.heap.size, 0, none⟩ = some (.int .i64 x.I) ∧ wz.cell? ⟨w.heap.size, 1, none⟩ = some (.int .i64 x.J) ∧ wz.cell? ⟨w.heap.size + 1, 0, none⟩ = some (.int .i64 y.I) ∧ wz.cell? ⟨w.heap.size + 1, 1, none⟩ = some (.int .i64 y.J)) ∧ ∃ os', wz = grow w os') ⟨?_, ?_⟩ ?_
  · go_light
    simp
  · exact ⟨_, by rw [alloc_eq_grow, alloc_eq_grow, grow_grow]⟩
  rintro wz ⟨⟨c0, c1, c2, c3⟩, hos⟩
  have HOS := Lib.hid hos
  clear hos
  go_still_tail 10, (by kernel_rfl)
  still_call (HC.out _ _ _)
  repeat still_step
  still_call (HC.out _ _ _)
  repeat still_step
  refine wpStill_nil ?_
  change wpList _ _ _ _ _ wz.drew
  have HO : Hid (∀ o, Calls Try.prog 134 #[.slice (some ⟨wz.heap.size, 0, none⟩) 2 2] (wz.alloc (.cells #[.int .i64 (cmp3 x.I y.I), .int .i64 (cmp3 x.J y.J)] o)).drew fun e w' => e = .returned (.int .i64 (or2 (cmp3 x.I y.I) (cmp3 x.J y.J))) ∧ (wz.alloc (.cells #[.int .i64 (cmp3 x.I y.I), .int .i64 (cmp3 x.J y.J)] o)).drew = w') := fun o => or_any ((blk_new wz [.int .i64 (cmp3 x.I y.I), .int .i64 (cmp3 x.J y.J)] o).cell (j := 0) rfl) ((blk_new wz [.int .i64 (cmp3 x.I y.I), .int .i64 (cmp3 x.J y.J)] o).cell (j := 1) rfl)
  clear c0 c1 c2 c3
  go_wp2_with (go_at_call 134; (with_reducible refine (HO.out _).mono ?_); rintro e w' ⟨rfl, rfl⟩)
  go_ret
  obtain ⟨os', rfl⟩ := HOS.out
  exact ⟨rfl, 1, os' ++ #[_], by rw [alloc_eq_grow, ← grow_grow]; rfl⟩
end Go.Proofs.Ytfdpannanpipdaa.lock
