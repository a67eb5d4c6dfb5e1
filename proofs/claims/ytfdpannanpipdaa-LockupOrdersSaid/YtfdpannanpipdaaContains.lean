/- slices.Index and slices.Contains at ints, walked. -/
import Derived.Test.YtfdpannanpipdaaFuncs
set_option linter.unusedVariables false
set_option linter.unusedSimpArgs false
namespace Go.Proofs.Ytfdpannanpipdaa.has
open Go.Bk Go.RowKit

theorem notin_succ {xs : List Int} {k : Nat} {x y : Int} (h : x ∉ xs.take k) (hy : xs[k]? = some y) (hne : y ≠ x) : x ∉ xs.take (k + 1) := by
  rw [List.take_add_one, hy]
  simp only [Option.toList, List.mem_append, List.mem_singleton, not_or]
  exact ⟨h, fun e => hne e.symm⟩
theorem notin_all {xs : List Int} {x : Int} (h : x ∉ xs.take xs.length) : x ∉ xs := by rwa [List.take_of_length_le (Nat.le_refl _)] at h
set_option maxRecDepth 100000 in
theorem index_any {S : Nat → Prop} {w : World} {a : Option Addr} {c n : Nat} {xs : List Int} {x : Int} (hn : xs.length = n) (h : Arr S w a xs) :
    Calls Try.prog 104 #[.slice a n c, .int .i64 x] w fun e w' => (∃ r : Int, e = .returned (.int .i64 r) ∧ (0 ≤ r ↔ x ∈ xs)) ∧ w = w' := by
  have hm := h.small
  rw [hn] at hm
  unfold maxLen at hm
  have HN := Lib.hid hn
  clear hn
  go_enter Try.func104, Try.ntmps104
  go_wp2
  go_loopw [8] (fun i w' => ∃ k : Nat, k ≤ n ∧ i = .int .i64 k ∧ x ∉ xs.take k ∧ w = w') (fun i _ => n - (intOf i).toNat)
  case atStart => exact ⟨0, Nat.zero_le _, rfl, by simp, rfl⟩
  case round =>
    obtain ⟨k, hk, rfl, hni, rfl⟩ := hrel
    have HNI := Lib.hid hni
    clear hni
    by_cases hlt : k < n
    · obtain ⟨y, hy⟩ : ∃ y, xs[k]? = some y := ⟨_, List.getElem?_eq_getElem (by have := HN.out; omega)⟩
      obtain ⟨b1, o1, rfl, -, q1, hi⟩ := arr_int h hy
      have HY := Lib.hid hy
      clear hy h hi
      by_cases he : x = y
      · have he2 : (x == y) = true := by simpa using he
        have HE := Lib.hid he
        clear he
        go_wp2
        go_ret
        exact ⟨⟨k, rfl, ⟨fun _ => by rw [HE.out]; exact List.mem_of_getElem? HY.out, fun _ => by omega⟩⟩, rfl⟩
      · have he2 : (x == y) = false := by simpa using he
        have HE := Lib.hid he
        clear he
        go_wp2
        go_roundw
        case rel => exact ⟨k + 1, by omega, by go_num, notin_succ HNI.out HY.out (fun e => HE.out e.symm), by trivial⟩
        case measure => simp [intOf]; omega
    · obtain rfl : k = n := by omega
      go_wp2
      go_ret
      have h1 := HNI.out
      rw [← HN.out] at h1
      exact ⟨⟨-1, rfl, ⟨fun e => by omega, fun e => absurd e (notin_all h1)⟩⟩, rfl⟩

set_option maxRecDepth 100000 in
theorem contains_any {S : Nat → Prop} {w : World} {a : Option Addr} {c n : Nat} {xs : List Int} {x : Int} (hn : xs.length = n) (h : Arr S w a xs) :
    Calls Try.prog 115 #[.slice a n c, .int .i64 x] w fun e w' => e = .returned (.bool (decide (x ∈ xs))) ∧ w = w' := by
  have HC := Lib.hid (index_any (c := c) (x := x) hn h)
  clear h hn
  go_enter Try.func115, Try.ntmps115
  go_wp2_with fail
  refine HC.out.mono ?_
  rintro e w' ⟨⟨r, rfl, hr⟩, rfl⟩
  have HR := Lib.hid hr
  clear hr
  go_wp2_with fail
  go_ret
  exact ⟨by
    have := HR.out
    by_cases h : x ∈ xs
    · have h0 := this.2 h
      simp [h, h0]
    · have h0 : ¬ 0 ≤ r := fun e => h (this.1 e)
      simp [h]; omega, rfl⟩
theorem contains_at {S : Nat → Prop} {w : World} {a : Option Addr} {c n : Nat} {xs : List Int} {x : Int} (hn : xs.length = n) (h : Arr S w a xs) :
    Calls Try.prog 115 #[.slice a n c, .int .i64 x] w fun e w' => e = .returned (.bool (xs.contains x)) ∧ w = w' :=
  (contains_any hn h).mono fun e w' ⟨he, hw⟩ => ⟨by rw [he]; congr 2; rw [Bool.eq_iff_iff, List.contains_iff_mem]; simp, hw⟩
end Go.Proofs.Ytfdpannanpipdaa.has
