/- backstitchref2.Eq at ints: lists that are one. -/
import Derived.Test.YtjlnaiiajlahgaaFuncsG
import Derived.Deep.QuietTactic
set_option linter.unusedVariables false
set_option linter.unusedSimpArgs false
namespace Go.Proofs.Ytjlnaiiajlahgaa
open Go.Bk Go.RowKit

set_option maxRecDepth 100000 in
theorem eqi_true {S1 S2 : Nat → Prop} {w : World} {a1 a2 : Option Addr} {c1 c2 n : Nat} {xs : List Int} (hn : xs.length = n) (h1 : Arr S1 w a1 xs) (h2 : Arr S2 w a2 xs) :
    Calls Try.prog 27 #[.slice a1 n c1, .slice a2 n c2] w fun e w' => e = .returned (.bool true) ∧ w = w' := by
  have hm1 := h1.small
  rw [hn] at hm1
  unfold maxLen at hm1
  have H1 := Lib.hid hn
  clear hn
  have hb : ((n : Int) != (n : Int)) = false := by simp
  go_enter Try.func27, Try.ntmps27
  go_wp2_with fail
  go_loopw [14] (fun i w' => ∃ k : Nat, k ≤ n ∧ i = .int .i64 k ∧ w = w') (fun i _ => n - (intOf i).toNat)
  case atStart => exact ⟨0, Nat.zero_le _, rfl, rfl⟩
  case round =>
    obtain ⟨k, hk, rfl, rfl⟩ := hrel
    by_cases hlt : k < n
    · obtain ⟨x, hx⟩ : ∃ x, xs[k]? = some x := ⟨_, List.getElem?_eq_getElem (by have := H1.out; omega)⟩
      obtain ⟨b1, o1, rfl, -, q1, -⟩ := arr_int h1 hx
      obtain ⟨b2, o2, rfl, -, q2, -⟩ := arr_int h2 hx
      have hee : (x != x) = false := by simp
      clear hx h1 h2
      go_wp2
      go_roundw
      case rel => exact ⟨k + 1, by omega, by go_num, by trivial⟩
      case measure => simp [intOf]; omega
    · clear h1 h2
      go_wp2
      go_ret
      exact ⟨rfl, rfl⟩
end Go.Proofs.Ytjlnaiiajlahgaa
