/- The errors of lines, and the last line that puts into a variable, walked. -/
import Derived.Test.YtimlhjjdaggiiaaLinePlain
import Derived.Test.YtimlhjjdaggiiaaSame
set_option linter.unusedVariables false
set_option linter.unusedSimpArgs false
namespace Go.Proofs.Ytimlhjjdaggiiaa.line
open Go.Bk Go.RowKit

abbrev letV (x : Api.DLet) : Value := .agg #[.int .i64 x.To, .int .i64 x.Op, .int .i64 x.A, .int .i64 x.B]
set_option maxRecDepth 100000 in
theorem rightFn_any {w : World} {x : Api.DLet} :
    Calls Try.prog 146 #[letV x] w fun e w' => e = .returned (.bool (bad x)) ∧ Grow w w' := by
  unfold letV
  by_cases h0 : x.Op < 0
  · have hd : decide (x.Op < 0) = true := by simp [h0]
    have HE : Hid (bad x = true) := by show _ = _; simp [bad]; omega
    clear h0
    go_enter Try.func146, Try.ntmps146
    go_wp2_with fail
    go_ret
    exact ⟨by rw [HE.out]; rfl, (Below.refl _ _).alloc (Nat.le_refl _) _⟩
  · have hd : decide (x.Op < 0) = false := by simpa using h0
    by_cases h1 : 3 < x.Op
    · have hd2 : decide (3 < x.Op) = true := by simp [h1]
      have HE : Hid (bad x = true) := by show _ = _; simp [bad]; omega
      clear h0 h1
      go_enter Try.func146, Try.ntmps146
      go_wp2_with fail
      go_ret
      exact ⟨by rw [HE.out]; rfl, (Below.refl _ _).alloc (Nat.le_refl _) _⟩
    · have hd2 : decide (3 < x.Op) = false := by simpa using h1
      have HE : Hid (bad x = false) := by show _ = _; simp [bad]; omega
      clear h0 h1
      go_enter Try.func146, Try.ntmps146
      go_wp2_with fail
      go_ret
      exact ⟨by rw [HE.out]; rfl, (Below.refl _ _).alloc (Nat.le_refl _) _⟩

theorem lastDown {l : List Api.DLet} {n : Int} {k j : Nat} {x : Api.DLet} (h : lastBelow l n k = lastBelow l n (j + 1)) (hx : l[j]? = some x) (hn : x.To ≠ n) : lastBelow l n k = lastBelow l n j := by rw [h, lastBelow_miss hx hn]

set_option maxRecDepth 100000 in
theorem last_any {S : Nat → Prop} {w : World} {a : Option Addr} {c : Nat} {l : List Api.DLet} {k : Nat} {n : Int} (h : Arr S w a l) (hk : k ≤ l.length) (hn : I64 n) :
    Calls Try.prog 121 #[.slice a l.length c, .int .i64 k, .int .i64 n] w fun e w' => e = .returned (.int .i64 (lastInt l n k)) ∧ w = w' := by
  have hm := h.small
  unfold maxLen at hm
  have hw0 : IntKind.i64.wrap ((k : Int) - 1) = (k : Int) - 1 := IntWalk.i64_in _ (by omega)
  go_enter Try.func121, Try.ntmps121
  go_wp2
  go_loopw [7] (fun i w' => ∃ j : Nat, j ≤ k ∧ i = .int .i64 ((j : Int) - 1) ∧ lastBelow l n k = lastBelow l n j ∧ w = w') (fun i _ => (intOf i + 1).toNat)
  case atStart => exact ⟨k, Nat.le_refl _, rfl, rfl, rfl⟩
  case round =>
    obtain ⟨j, hj, rfl, hl, rfl⟩ := hrel
    have HL := Lib.hid hl
    have h' := h
    clear hl
    cases j with
    | zero =>
      clear h'
      have hd : decide (0 ≤ ((0 : Nat) : Int) - 1) = false := by decide
      go_wp2
      go_ret
      exact ⟨by unfold lastInt; rw [HL.out]; rfl, rfl⟩
    | succ j =>
      rw [show ((j + 1 : Nat) : Int) - 1 = (j : Int) by omega]
      obtain ⟨x, hx⟩ : ∃ x, l[j]? = some x := ⟨_, List.getElem?_eq_getElem (by omega)⟩
      obtain ⟨b, off, rfl, -, q1, q2, q3, q4, g1, g2, g3, g4⟩ := api_DLet_elem h' hx
      have HX := Lib.hid hx
      have hwj : IntKind.i64.wrap ((j : Int) - 1) = (j : Int) - 1 := IntWalk.i64_in _ (by omega)
      clear h' hx
      by_cases hxn : x.To = n
      · have hb : (x.To == n) = true := by simpa using hxn
        have HH : Hid (lastInt l n k = j) := by show _ = _; unfold lastInt; rw [HL.out, lastBelow_hit HX.out hxn]; rfl
        clear hxn
        go_wp2
        go_ret
        exact ⟨by rw [HH.out]; rfl, rfl⟩
      · have hb : (x.To == n) = false := by simpa using hxn
        have HH := Lib.hid (lastDown HL.out HX.out hxn)
        clear hxn
        go_wp2
        go_roundw
        case rel => exact ⟨j, by omega, by go_num, HH.out, by trivial⟩
        case measure => simp [intOf] <;> omega

set_option maxRecDepth 100000 in
theorem rerr_any {S : Nat → Prop} {w : World} {a : Option Addr} {c : Nat} {l : List Api.DLet} {i : Int} (h : Arr S w a l) (hi : I64 i) :
    Calls Try.prog 54 #[.slice a l.length c, .int .i64 i] w fun e w' => e = .returned (.int .i64 (errOf l i)) ∧ Quiet w w' := by
  have hm := h.small
  unfold maxLen at hm
  by_cases hl : 200 < l.length
  · have HE := Lib.hid (errOf_large (i := i) hl)
    go_enter Try.func54, Try.ntmps54
    go_wp2
    go_ret
    exact ⟨by rw [HE.out]; rfl, Quiet.refl _⟩
  have HL := Lib.hid hl
  obtain ⟨n, hn⟩ : ∃ n, n = l.length := ⟨_, rfl⟩
  rw [← hn] at hm hl; rw [← hn]
  have HN := Lib.hid hn
  have hl' : n ≤ 200 := by omega
  have hwn : IntKind.i64.wrap ((n : Int) - 1) = (n : Int) - 1 := IntWalk.i64_in _ (by omega)
  clear hn hl
  go_enter Try.func54, Try.ntmps54
  go_wp2
  go_loopw [5] (fun i w' => ∃ k : Nat, k ≤ n ∧ i = .int .i64 k ∧ firstTo bad l k ∧ Quiet w w') (fun i _ => n - (intOf i).toNat)
  case atStart => exact ⟨0, Nat.zero_le _, rfl, fun j x hj => by omega, Quiet.refl _⟩
  case round =>
    obtain ⟨k, hk, rfl, hok, hq⟩ := hrel
    have HQ := Lib.hid hq; have HO := Lib.hid hok
    have h' := h.keep (w' := wr) (fun b _ => hq.heap b)
    clear hok hq
    by_cases hlt : k < n
    · obtain ⟨x, hx⟩ : ∃ y, l[k]? = some y := ⟨_, List.getElem?_eq_getElem (by have := HN.out; omega)⟩
      obtain ⟨b, off, rfl, -, q1, q2, q3, q4, g1, g2, g3, g4⟩ := api_DLet_elem h' hx
      have HX := Lib.hid hx
      clear h' hx
      by_cases hub : 0 ≤ x.Op ∧ x.Op ≤ 3
      · have HB : Hid (bad x = false) := by show _ = _; simp [bad]; omega
        go_wp2_with (with_reducible refine (between_true hub.1 hub.2).mono ?_; rintro e w' ⟨rfl, rfl⟩)
        go_roundw
        case rel => exact ⟨k + 1, by omega, by go_num, HO.out.succ HX.out HB.out, HQ.out⟩
        case measure => simp [intOf] <;> omega
      · have hub' : x.Op < 0 ∨ 3 < x.Op := by omega
        have HB : Hid (bad x = true) := by show _ = _; simp [bad]; omega
        clear hub
        go_wp2_with (with_reducible refine (between_false hub').mono ?_; rintro e w' ⟨rfl, rfl⟩)
        go_ret
        exact ⟨by rw [errOf_kind HL.out (any_of_at HX.out HB.out)]; rfl, HQ.out⟩
    · obtain rfl : k = n := by omega
      have HA : Hid (l.any bad = false) := not_any_of (by rw [← HN.out]; exact HO.out)
      clear h'
      by_cases hub : 0 ≤ i ∧ i ≤ (k : Int) - 1
      · have HE : Hid (errOf l i = 0) := errOf_ok HL.out HA.out (by rw [← HN.out]; omega)
        go_wp2_with (with_reducible refine (between_true hub.1 hub.2).mono ?_; rintro e w' ⟨rfl, rfl⟩)
        go_ret
        exact ⟨by rw [HE.out]; rfl, HQ.out⟩
      · have hub' : i < 0 ∨ (k : Int) - 1 < i := by omega
        have HE : Hid (errOf l i = 1) := errOf_arg HL.out HA.out (by rw [← HN.out]; omega)
        clear hub
        go_wp2_with (with_reducible refine (between_false hub').mono ?_; rintro e w' ⟨rfl, rfl⟩)
        go_ret
        exact ⟨by rw [HE.out]; rfl, HQ.out⟩
end Go.Proofs.Ytimlhjjdaggiiaa.line
