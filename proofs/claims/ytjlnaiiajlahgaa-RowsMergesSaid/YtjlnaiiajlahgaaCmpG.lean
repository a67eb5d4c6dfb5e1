/- cmp.Compare, cmp.Or at ints, walked. -/
import Derived.Test.YtjlnaiiajlahgaaFuncsG
import Derived.Test.YtjlnaiiajlahgaaCmp3
import Derived.Deep.QuietTactic
import Derived.StillTailTactics
import Derived.Sort.Grow
set_option linter.unusedVariables false
set_option linter.unusedSimpArgs false
namespace Go.Proofs.Ytjlnaiiajlahgaa.lock
open Go.Bk Go.RowKit Go.Sort

theorem isNaN_any (w : World) (x : Int) : Calls Try.prog 61 #[.int .i64 x] w fun e w' => e = .returned (.bool false) ∧ w = w' := by
  go_enter Try.func61, Try.ntmps61
  go_wp2
  go_ret
  exact ⟨by simp, rfl⟩
theorem compare_any (w : World) (x y : Int) : Calls Try.prog 52 #[.int .i64 x, .int .i64 y] w fun e w' => e = .returned (.int .i64 (cmp3 x y)) ∧ w = w' := by
  have HC : Hid (∀ x w, Calls Try.prog 61 #[.int .i64 x] w fun e w' => e = .returned (.bool false) ∧ w = w') := fun x w => isNaN_any w x
  by_cases h1 : x < y
  · have HR : Hid (cmp3 x y = -1) := by show _ = _; unfold cmp3; rw [if_pos h1]
    go_enter Try.func52, Try.ntmps52
    go_wp2_with (go_at_call 61; (with_reducible refine (HC.out _ _).mono ?_); rintro e w' ⟨rfl, rfl⟩)
    go_ret
    exact ⟨by rw [HR.out]; rfl, rfl⟩
  · by_cases h2 : y < x
    · have HR : Hid (cmp3 x y = 1) := by show _ = _; unfold cmp3; rw [if_neg h1, if_pos h2]
      go_enter Try.func52, Try.ntmps52
      go_wp2_with (go_at_call 61; (with_reducible refine (HC.out _ _).mono ?_); rintro e w' ⟨rfl, rfl⟩)
      go_ret
      exact ⟨by rw [HR.out]; rfl, rfl⟩
    · have HR : Hid (cmp3 x y = 0) := by show _ = _; unfold cmp3; rw [if_neg h1, if_neg h2]
      go_enter Try.func52, Try.ntmps52
      go_wp2_with (go_at_call 61; (with_reducible refine (HC.out _ _).mono ?_); rintro e w' ⟨rfl, rfl⟩)
      go_ret
      exact ⟨by rw [HR.out]; rfl, rfl⟩

def orRel (w : World) (x y : Int) (i : Value) (w' : World) : Prop := ∃ k : Nat, k ≤ 2 ∧ i = .int .i64 k ∧ (0 < k → x = 0) ∧ (1 < k → y = 0) ∧ w = w'
def or2 (x y : Int) : Int := if x ≠ 0 then x else y
set_option maxRecDepth 100000 in
theorem or_any {w : World} {g c : Nat} {x y : Int} (h0 : w.cell? ⟨g, 0, none⟩ = some (.int .i64 x)) (h1 : w.cell? ⟨g, 1, none⟩ = some (.int .i64 y)) :
    Calls Try.prog 51 #[.slice (some ⟨g, 0, none⟩) 2 c] w fun e w' => e = .returned (.int .i64 (or2 x y)) ∧ w = w' := by
  go_enter Try.func51, Try.ntmps51
  go_wp2
  go_loopw [8] (orRel w x y) (fun i _ => 2 - (intOf i).toNat)
  case atStart => exact ⟨0, by omega, rfl, fun h => by omega, fun h => by omega, rfl⟩
  case round =>
    obtain ⟨k, hk, rfl, hx, hy, rfl⟩ := hrel
    have hk3 : k = 0 ∨ k = 1 ∨ k = 2 := by omega
    rcases hk3 with rfl | rfl | rfl
    · clear hx hy
      by_cases hx : x = 0
      · have HX := Lib.hid hx
        have hd : (x == 0) = false ∨ True := .inr trivial
        clear hd
        subst hx
        go_wp2
        go_roundw
        case rel => exact ⟨1, by omega, rfl, fun _ => rfl, fun h => by omega, by trivial⟩
        case measure => simp [intOf]
      · have hd : (x == 0) = false := by simpa using hx
        have HR : Hid (or2 x y = x) := by show _ = _; unfold or2; rw [if_pos hx]
        clear hx
        go_wp2
        go_ret
        exact ⟨by rw [HR.out]; rfl, rfl⟩
    · have hx := hx (by omega)
      subst hx
      clear hy
      by_cases hy : y = 0
      · subst hy
        go_wp2
        go_roundw
        case rel => exact ⟨2, by omega, rfl, fun _ => rfl, fun _ => rfl, by trivial⟩
        case measure => simp [intOf]
      · have hd : (y == 0) = false := by simpa using hy
        clear hy
        go_wp2
        go_ret
        exact ⟨rfl, rfl⟩
    · have hx := hx (by omega)
      have hy := hy (by omega)
      subst hx hy
      go_wp2
      go_ret
      exact ⟨rfl, rfl⟩
end Go.Proofs.Ytjlnaiiajlahgaa.lock
