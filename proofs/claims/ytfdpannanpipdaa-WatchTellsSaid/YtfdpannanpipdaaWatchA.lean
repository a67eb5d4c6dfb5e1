/- What was in a slot: the small askers, walked. -/
import Derived.Test.YtfdpannanpipdaaWatchPlain
import Derived.Test.YtfdpannanpipdaaSame
import Derived.Test.YtfdpannanpipdaaMapG
import Derived.RegionTactic
import Derived.ChangeAlike
set_option linter.unusedVariables false
set_option linter.unusedSimpArgs false
namespace Go.Proofs.Ytfdpannanpipdaa.watch
open Go.Bk Go.RowKit

abbrev evV (x : Api.Event) : Value := .agg #[.int .i64 x.Kind, .int .i64 x.Step, .int .i64 x.Thread, .int .i64 x.Fn, .int .i64 x.At, .int .i64 x.Line, .int .i64 x.A, .int .i64 x.B, .int .i64 x.Val.Kind, .int .i64 x.Val.N, .int .i64 x.Old.Kind, .int .i64 x.Old.N]
abbrev slotV (c s : Int) : Value := .agg #[.int .i64 c, .int .i64 s]

theorem check_any (w : World) (a : Option Addr) (n c : Nat) (p : Int) (hn : n ≤ 9223372036854775807) :
    Calls Try.prog 63 #[.slice a n c, .int .i64 p] w fun e w' => e = .returned (.int .i64 (errE n p)) ∧ w = w' := by
  go_enter Try.func63, Try.ntmps63
  go_wp2
  all_goals
    go_ret
    exact ⟨by (first | (simp [errE]; done) | (simp [errE]; omega) | (go_light; simp_all [errE]; done) | (go_light; simp_all [errE]; omega) | (go_light; simp_all [errE]; grind) | (go_light; rw [Bool.eq_iff_iff]; simp_all [errE]; done)), rfl⟩
theorem eventErr_any (w : World) (a : Option Addr) (n c : Nat) (p : Int) (hn : n ≤ 9223372036854775807) :
    Calls Try.prog 15 #[.slice a n c, .int .i64 p] w fun e w' => e = .returned (.int .i64 (errE n p)) ∧ w = w' := by
  by_cases h : 200 < n
  · go_enter Try.func15, Try.ntmps15
    have hd : decide (200 < (n : Int)) = true := decide_eq_true (by omega)
    go_wp2
    go_ret
    exact ⟨by (first | (simp [errE]; done) | (simp [errE]; omega) | (go_light; simp_all [errE]; done) | (go_light; simp_all [errE]; omega) | (go_light; simp_all [errE]; grind) | (go_light; rw [Bool.eq_iff_iff]; simp_all [errE]; done)), rfl⟩
  · have hd : decide (200 < (n : Int)) = false := decide_eq_false (by omega)
    by_cases h2 : p < 0 ∨ (n : Int) < p
    · have HF := Lib.hid (between_false (w := w) (x := p) (lo := 0) (hi := n) h2)
      go_enter Try.func15, Try.ntmps15
      go_wp2_with (with_reducible refine HF.out.mono ?_; rintro e w' ⟨rfl, rfl⟩)
      go_ret
      exact ⟨by (first | (simp [errE]; done) | (simp [errE]; omega) | (go_light; simp_all [errE]; done) | (go_light; simp_all [errE]; omega) | (go_light; simp_all [errE]; grind) | (go_light; rw [Bool.eq_iff_iff]; simp_all [errE]; done)), rfl⟩
    · have HF := Lib.hid (between_true (w := w) (x := p) (lo := 0) (hi := n) (by omega) (by omega))
      go_enter Try.func15, Try.ntmps15
      go_wp2_with (with_reducible refine HF.out.mono ?_; rintro e w' ⟨rfl, rfl⟩)
      go_ret
      exact ⟨by (first | (simp [errE]; done) | (simp [errE]; omega) | (go_light; simp_all [errE]; done) | (go_light; simp_all [errE]; omega) | (go_light; simp_all [errE]; grind) | (go_light; rw [Bool.eq_iff_iff]; simp_all [errE]; done)), rfl⟩
theorem isAt_any (w : World) (x : Api.Event) (k c s : Int) :
    Calls Try.prog 19 #[evV x, .int .i64 k, .int .i64 c, .int .i64 s] w fun e w' => e = .returned (.bool (isAt x k c s)) ∧ Below w.heap.size w w' := by
  unfold evV
  by_cases h1 : x.Kind = k <;> by_cases h2 : x.A = c <;> by_cases h3 : x.B = s
  all_goals
    go_enter Try.func19, Try.ntmps19
    go_wp2
    go_ret
    exact ⟨by simp [isAt, h1, h2, h3], (Below.refl _ _).alloc (Nat.le_refl _) _⟩

set_option maxRecDepth 100000 in
theorem of_any (w : World) (x : Api.Event) :
    Calls Try.prog 65 #[evV x] w fun e w' => e = .returned (.tuple #[slotV x.A x.B, .bool (isRW x)]) ∧ Below w.heap.size w w' := by
  have HB : Hid (Below w.heap.size w (((w.alloc (.cells #[.int .i64 x.Kind, .int .i64 x.Step, .int .i64 x.Thread, .int .i64 x.Fn, .int .i64 x.At, .int .i64 x.Line, .int .i64 x.A, .int .i64 x.B, .int .i64 x.Val.Kind, .int .i64 x.Val.N, .int .i64 x.Old.Kind, .int .i64 x.Old.N] 41)).alloc (.cells #[.int .i64 x.A, .int .i64 x.B] 108)).drew)) :=
    Go.Bk.Below.drewN (((Below.refl _ _).alloc (Nat.le_refl _) _).alloc (by simp) _) 1
  unfold evV slotV
  by_cases h1 : x.Kind = 3
  · have g1 : (x.Kind == 3) = true := by simpa using h1
    have HR : Hid (isRW x = true) := by show _ = _; simp [isRW, h1]
    clear h1
    go_enter Try.func65, Try.ntmps65
    go_wp2
    go_region
    all_goals
      go_wp2
      rw [HR.out]
      exact bodyPost_ret (v := .tuple #[.agg #[.int .i64 x.A, .int .i64 x.B], .bool true]) (by simp [results, Try.results65, go_sem]) rfl ⟨rfl, HB.out⟩
  · have g1 : (x.Kind == 3) = false := by simpa using h1
    by_cases h2 : x.Kind = 4
    · have g2 : (x.Kind == 4) = true := by simpa using h2
      have HR : Hid (isRW x = true) := by show _ = _; simp [isRW, h2]
      clear h1 h2
      go_enter Try.func65, Try.ntmps65
      go_wp2
      go_region
      all_goals
        go_wp2
        rw [HR.out]
        exact bodyPost_ret (v := .tuple #[.agg #[.int .i64 x.A, .int .i64 x.B], .bool true]) (by simp [results, Try.results65, go_sem]) rfl ⟨rfl, HB.out⟩
    · have g2 : (x.Kind == 4) = false := by simpa using h2
      have HR : Hid (isRW x = false) := by show _ = _; simp [isRW, h1, h2]
      clear h1 h2
      go_enter Try.func65, Try.ntmps65
      go_wp2
      go_region
      all_goals
        go_wp2
        rw [HR.out]
        exact bodyPost_ret (v := .tuple #[.agg #[.int .i64 x.A, .int .i64 x.B], .bool false]) (by simp [results, Try.results65, go_sem]) rfl ⟨rfl, HB.out⟩

set_option maxRecDepth 100000 in
theorem writes_any (w : World) (c s : Int) (x : Api.Event) :
    Calls Try.prog 66 #[slotV c s, evV x] w fun e w' => e = .returned (.bool (isAt x 4 c s)) ∧ Below w.heap.size w w' := by
  have HO : Hid (∀ w, Calls Try.prog 65 #[evV x] w fun e w' => e = .returned (.tuple #[slotV x.A x.B, .bool (isRW x)]) ∧ Below w.heap.size w w') := fun w => of_any w x
  unfold evV slotV at *
  go_enter Try.func66, Try.ntmps66
  go_wp2_with fail
  refine (HO.out _).mono ?_
  rintro e w1 ⟨rfl, hb⟩
  have HB : Hid (Below w.heap.size w w1) := (((Below.refl _ _).alloc (Nat.le_refl _) _).alloc (by simp) _).trans (hb.mono (by simp; omega))
  have hc := below_cells' hb
  have hz := hb.size
  simp at hz
  have hal : ∀ (o : Obj) (b k : Nat), b < w1.heap.size → (w1.alloc o).cell? ⟨b, k, none⟩ = w1.cell? ⟨b, k, none⟩ := fun o b k h => (Below.refl _ _ |>.alloc (Nat.le_refl _) o).cell (p := ⟨b, k, none⟩) h
  have q0 : ∀ o, (w1.alloc o).cell? ⟨w.heap.size, 0, none⟩ = some (.int .i64 c) := fun o => (hal o _ _ (by omega)).trans ((hc _ _ (by simp; omega)).trans (by simp))
  have q1 : ∀ o, (w1.alloc o).cell? ⟨w.heap.size, 1, none⟩ = some (.int .i64 s) := fun o => (hal o _ _ (by omega)).trans ((hc _ _ (by simp; omega)).trans (by simp))
  have q2 : ∀ o, (w1.alloc o).cell? ⟨w.heap.size + 1, 0, none⟩ = some (.int .i64 x.Kind) := fun o => (hal o _ _ (by omega)).trans ((hc _ _ (by simp)).trans (by simp))
  clear hc hb HO hal
  cases h0 : isRW x <;> by_cases hA : x.A = c <;> by_cases hB : x.B = s <;> by_cases h3 : x.Kind = 4
  all_goals first
    | (exfalso; simp [isRW, h3] at h0; done)
    | (have HR := Lib.hid h0; clear h0
       go_wp2_with fail
       go_ret
       exact ⟨by simp [isAt, hA, hB, h3], HB.out.alloc HB.out.size _⟩)
end Go.Proofs.Ytfdpannanpipdaa.watch
