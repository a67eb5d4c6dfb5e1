/- SchedNormals: the search in a sorted row, walked. -/
import Derived.Test.YtfdpannanpipdaaNormB
set_option linter.unusedVariables false
set_option linter.unusedSimpArgs false
namespace Go.Proofs.Ytfdpannanpipdaa.norm
open Go.Bk Go.RowKit

def bsRel (w : World) (x : Int) (xs : List Int) (n : Nat) (i j h : Value) (w' : World) : Prop :=
  ∃ p q : Nat, p ≤ q ∧ q ≤ n ∧ p ≤ cnt x xs ∧ cnt x xs ≤ q ∧ i = .int .i64 p ∧ j = .int .i64 q ∧ w = w'

set_option maxRecDepth 100000 in
set_option maxHeartbeats 1000000 in
theorem bsearch_any {S : Nat → Prop} {w : World} {a : Option Addr} {c n : Nat} {xs : List Int} {x : Int} (hn : xs.length = n) (h : Arr S w a xs) (hs : Srt xs) (hl : n ≤ 1000000) :
    Calls Try.prog 101 #[.slice a n c, .int .i64 x] w fun e w' => (∃ b, e = .returned (.tuple #[.int .i64 (cnt x xs : Nat), .bool b])) ∧ w = w' := by
  have HN := Lib.hid hn
  have HS := Lib.hid (fun k y => cnt_spec (x := x) hs k y)
  have hcl := cnt_le x xs
  rw [hn] at hcl
  obtain ⟨C, hC⟩ : ∃ C, cnt x xs = C := ⟨_, rfl⟩
  rw [hC] at hcl HS ⊢
  have HC := Lib.hid hC
  clear hC hn hs
  go_enter Try.func101, Try.ntmps101
  go_wp2_with fail
  go_loopw [7, 8, 9] (bsRel w x xs n) (fun i j _ _ => (intOf j).toNat - (intOf i).toNat)
  case atStart => exact ⟨0, n, Nat.zero_le _, Nat.le_refl _, Nat.zero_le _, by rw [HC.out]; exact hcl, rfl, rfl, rfl⟩
  case round =>
    obtain ⟨p, q, hpq, hqn, hpc, hcq, rfl, rfl, rfl⟩ := hrel
    rw [HC.out] at hpc hcq
    by_cases hlt : p < q
    · obtain ⟨m, hm⟩ : ∃ m, (p + q) / 2 = m := ⟨_, rfl⟩
      have hmp : p ≤ m ∧ m < q := by omega
      have hmq : m < n := by omega
      have hw1 : IntKind.i64.wrap ((p : Int) + (q : Int)) = ((p + q : Nat) : Int) := by rw [IntKind.wrap_i64]; omega
      obtain ⟨y, hy⟩ := get_lt HN.out hmq
      obtain ⟨b, off, rfl, -, q1, hyi⟩ := arr_int h hy
      have hsp := HS.out m y hy
      clear h
      have hu1 : IntKind.u64.wrap ((p + q : Nat) : Int) = ((p + q : Nat) : Int) := by simp [IntKind.wrap, IntKind.bits, IntKind.signed]; omega
      have HY := Lib.hid hy
      clear hy
      by_cases hyx : y < x
      · have hdy : decide (y < x) = true := by simp [hyx]
        have hmc := hsp.1 hyx
        clear hsp hyx
        go_wp2
        refine ⟨⟨m + 1, q, by omega, hqn, by rw [HC.out]; omega, by rw [HC.out]; exact hcq, by congr 1; omega, rfl, rfl⟩, ?_⟩
        simp [intOf]; omega
      · have hdy : decide (y < x) = false := by simpa using hyx
        have hmc : ¬ m < C := fun h => hyx (hsp.2 h)
        clear hsp hyx
        go_wp2
        refine ⟨⟨p, m, by omega, by omega, by rw [HC.out]; exact hpc, by rw [HC.out]; omega, rfl, by congr 1; omega, rfl⟩, ?_⟩
        simp [intOf]; omega
    · obtain rfl : p = q := by omega
      obtain rfl : p = C := by omega
      clear hlt
      by_cases hpn : p < n
      · have hdn : decide ((p : Int) < (n : Int)) = true := by simp; omega
        obtain ⟨y, hy⟩ := get_lt HN.out hpn
        obtain ⟨b, off, rfl, -, q1, hyi⟩ := arr_int h hy
        clear h hy
        by_cases he : y = x
        · subst he
          have hye : (y == y) = true := by simp
          go_wp2
          go_ret2
          exact ⟨⟨_, rfl⟩, rfl⟩
        · have hye : (y == x) = false := by simpa using he
          clear he
          go_wp2
          go_ret2
          exact ⟨⟨_, rfl⟩, rfl⟩
      · obtain rfl : p = n := by omega
        clear hpn
        go_wp2
        go_ret2
        exact ⟨⟨_, rfl⟩, rfl⟩
end Go.Proofs.Ytfdpannanpipdaa.norm
