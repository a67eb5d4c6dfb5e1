/- SameRows of two lists of lists that are one, walked. -/
import Derived.Test.YtimlhjjdaggiiaaSame
import Derived.Test.YtimlhjjdaggiiaaMore
set_option linter.unusedVariables false
set_option linter.unusedSimpArgs false
namespace Go.Proofs.Ytimlhjjdaggiiaa
open Go.Bk Go.RowKit

set_option maxRecDepth 100000 in
theorem same_rows_refl {S1 S2 : Nat → Prop} {w : World} {a1 a2 : Option Addr} {c1 c2 : Nat} {xs : List (List Int)} (h1 : Arr S1 w a1 xs) (h2 : Arr S2 w a2 xs) :
    Calls Try.prog 25 #[.slice a1 xs.length c1, .slice a2 xs.length c2] w fun e w' => e = .returned (.bool true) ∧ Quiet w w' := by
  have hm := h1.small
  unfold maxLen at hm
  obtain ⟨n, hn⟩ : ∃ n, n = xs.length := ⟨_, rfl⟩
  rw [← hn] at hm; rw [← hn]
  have HN := Lib.hid hn
  clear hn
  go_enter Try.func25, Try.ntmps25
  go_wp2_with fail
  go_loopw [5] (fun i w' => ∃ k : Nat, k ≤ n ∧ i = .int .i64 k ∧ Quiet w w') (fun i _ => n - (intOf i).toNat)
  case atStart => exact ⟨0, Nat.zero_le _, rfl, Quiet.refl _⟩
  case round =>
    obtain ⟨k, hk, rfl, hq⟩ := hrel
    have h1' := h1.keep (w' := wr) (fun b _ => hq.heap b)
    have h2' := h2.keep (w' := wr) (fun b _ => hq.heap b)
    have HQ := Lib.hid hq
    clear hq
    by_cases hlt : k < n
    · obtain ⟨x, hx⟩ : ∃ x, xs[k]? = some x := ⟨_, List.getElem?_eq_getElem (by have := HN.out; omega)⟩
      obtain ⟨b1, o1, cs1, rfl, -, ⟨d1, e1, rfl, -, -, g1⟩, q1⟩ := h1'.at hx
      obtain ⟨b2, o2, cs2, rfl, -, ⟨d2, e2, rfl, -, -, g2⟩, q2⟩ := h2'.at hx
      replace q1 : wr.cell? ⟨b1, o1 + k, none⟩ = some (.slice d1 x.length e1) := by simpa [show Rep.sz (List Int) = 1 from rfl] using q1 0 Nat.zero_lt_one
      replace q2 : wr.cell? ⟨b2, o2 + k, none⟩ = some (.slice d2 x.length e2) := by simpa [show Rep.sz (List Int) = 1 from rfl] using q2 0 Nat.zero_lt_one
      have hs : ∀ m, Calls Try.prog 17 #[.slice d1 x.length e1, .slice d2 x.length e2] (wr.drewN m) fun e w' => e = .returned (.bool true) ∧ Quiet (wr.drewN m) w' := fun m => same_ints_refl (Arr.keep (w := wr) (fun _ _ => rfl) g1) (Arr.keep (w := wr) (fun _ _ => rfl) g2)
      have HS := Lib.hid hs
      clear h1 h2 h1' h2' hx g1 g2 hs
      go_wp2_with fail
      first | (refine wp_region_quiet_lit (by kernel_rfl) (by kernel_rfl) ?_; (repeat (go_big_quiet_step ((go_at_call 17; exact quiet_of (HS.out _))))); refine wpQuiet_nil ?_; intro _ hw'; obtain ⟨nq, hw''⟩ := hw'; subst hw'')
      go_wp2_with fail
      go_roundw
      case rel => exact ⟨k + 1, by omega, by go_num, HQ.out.more _⟩
      case measure => simp [intOf] <;> omega
    · clear h1 h2 h1' h2'
      go_wp2_with fail
      go_ret
      exact ⟨rfl, HQ.out⟩
end Go.Proofs.Ytimlhjjdaggiiaa
