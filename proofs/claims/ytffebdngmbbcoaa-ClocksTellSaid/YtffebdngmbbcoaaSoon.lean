/- The law's 'soon' (the first events of a list), walked. -/
import Derived.Test.YtffebdngmbbcoaaFuncsG
import Derived.Test.YtffebdngmbbcoaaSlices
import Derived.Test.YtffebdngmbbcoaaMin
set_option linter.unusedVariables false
set_option linter.unusedSimpArgs false
namespace Go.Bk
open Go.RowKit Go.ChangeShapes Go.WideShapes Go.Deep
theorem ArgRead.cap {P : Program} {W : World} {T E : TypeId} {a : Option Addr} {n c : Nat} (ht : P.underlying T = some (.slice E)) (h : ArgRead P W T (.slice a n c)) : c ≤ maxLen := by
  obtain ⟨H, enc, base, d, p, hv, ⟨k, hd⟩⟩ := h
  rcases open_slice ht hd with ⟨h1, _⟩ | ⟨a', len, cap, m, k2, D, Pl, h1, _, hl, hm, _⟩
  · simp [Value.cells] at h1
    obtain ⟨_, _, rfl⟩ := h1
    exact Nat.zero_le _
  · simp [Value.cells] at h1
    obtain ⟨_, _, rfl⟩ := h1
    exact hm
end Go.Bk
namespace Go.Proofs.Ytffebdngmbbcoaa
open Go.Bk Go.RowKit

theorem min_if (n m : Nat) : (if (m : Int) < (n : Int) then (m : Int) else (n : Int)) = ((min n m : Nat) : Int) := by split <;> omega
theorem soon_any (w : World) (a : Option Addr) (n c m : Nat) (hnc : n ≤ c) (hc : c ≤ maxLen) :
    Calls Try.prog 22 #[.slice a n c, .int .i64 (m : Nat)] w fun e w' => e = .returned (.slice a (min n m) c) ∧ w = w' := by
  unfold maxLen at hc
  obtain ⟨q, hq⟩ : ∃ q, q = min n m := ⟨_, rfl⟩
  have HI : Hid ((if (m : Int) < (n : Int) then (m : Int) else (n : Int)) = (q : Int)) := by show _ = _; rw [hq]; exact min_if n m
  have hq2 : q ≤ c := by omega
  have HR := fun w => run_slice_to (P := Try.prog) Try.underlying50 (z := 12) (by kernel_rfl) a n c q hq2 (by omega) w
  rw [← hq]
  clear hq
  go_enter Try.func22, Try.ntmps22
  go_wp2_with (with_reducible refine wp_min_int rfl rfl rfl rfl HI.out ?_)
  go_ret
  exact ⟨rfl, rfl⟩
end Go.Proofs.Ytffebdngmbbcoaa
