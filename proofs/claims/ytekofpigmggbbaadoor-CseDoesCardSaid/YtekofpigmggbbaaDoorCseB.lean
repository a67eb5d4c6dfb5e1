/- R.alike: walked. -/
import Derived.Test.YtekofpigmggbbaaDoorCsePlainB
import Derived.Deep.DrawnRows
set_option linter.unusedVariables false
set_option linter.unusedSimpArgs false
namespace Go.Proofs.YtekofpigmggbbaaDoor.cse
open Go.Bk Go.RowKit Go.Proofs.YtekofpigmggbbaaDoor.ir Go.Proofs.YtekofpigmggbbaaDoor.chk Go.Proofs.YtekofpigmggbbaaDoor.cut
attribute [local go_sem ↓] Go.wp_at_zero Go.wp_at_succ

set_option maxRecDepth 100000 in
set_option maxHeartbeats 4000000 in
theorem ralike_any {S : Nat → Prop} {w : World} {T : Array Value} {t : Api.TTrace} (ht : Rep.cells S w T.toList t) (i k : Int) (x y : Api.TIns) :
    Calls Tryd.prog 41 #[.agg T, .int .i64 i, .int .i64 k, .agg #[.int .i64 x.Op, .int .i64 x.A, .int .i64 x.B, .int .i64 x.C, .int .i64 x.N, .int .i64 x.Exit, .int .i64 x.K.Kind, .int .i64 x.K.N], .agg #[.int .i64 y.Op, .int .i64 y.A, .int .i64 y.B, .int .i64 y.C, .int .i64 y.N, .int .i64 y.Exit, .int .i64 y.K.Kind, .int .i64 y.K.N]] w fun e w' => e = .returned (.bool (alikeB x y (decide (i < t.Loop)) (decide (k < t.Loop)))) ∧ Below w.heap.size w w' := by
  obtain ⟨w1, hw1⟩ : ∃ w1, w1 = ((w.alloc (.cells T 34)).alloc (.cells #[.int .i64 x.Op, .int .i64 x.A, .int .i64 x.B, .int .i64 x.C, .int .i64 x.N, .int .i64 x.Exit, .int .i64 x.K.Kind, .int .i64 x.K.N] 43)).alloc (.cells #[.int .i64 y.Op, .int .i64 y.A, .int .i64 y.B, .int .i64 y.C, .int .i64 y.N, .int .i64 y.Exit, .int .i64 y.K.Kind, .int .i64 y.K.N] 43) := ⟨_, rfl⟩
  obtain ⟨rT, rX, rY, hb1⟩ := rows3 w T #[.int .i64 x.Op, .int .i64 x.A, .int .i64 x.B, .int .i64 x.C, .int .i64 x.N, .int .i64 x.Exit, .int .i64 x.K.Kind, .int .i64 x.K.N] #[.int .i64 y.Op, .int .i64 y.A, .int .i64 y.B, .int .i64 y.C, .int .i64 y.N, .int .i64 y.Exit, .int .i64 y.K.Kind, .int .i64 y.K.N] _ _ _ w1 hw1
  have t2 := rT.cell (loop_cell ht)
  have x0 := rX.cell (j := 0) rfl; have x1 := rX.cell (j := 1) rfl; have x2 := rX.cell (j := 2) rfl; have x4 := rX.cell (j := 4) rfl; have x6 := rX.cell (j := 6) rfl; have x7 := rX.cell (j := 7) rfl
  have y0 := rY.cell (j := 0) rfl; have y1 := rY.cell (j := 1) rfl; have y2 := rY.cell (j := 2) rfl; have y4 := rY.cell (j := 4) rfl; have y6 := rY.cell (j := 6) rfl; have y7 := rY.cell (j := 7) rfl
  have lT := rT.lt; have lX := rX.lt; have lY := rY.lt
  have HRX := Lib.hid rX; have HRY := Lib.hid rY; have HB1 := Lib.hid hb1
  obtain ⟨s, hs⟩ : ∃ s, s = decide (x.N ∈ [(3 : Int), 5, 8]) := ⟨_, rfl⟩
  have hsw : s = decide (swaps x.N) := by rw [hs, Bool.eq_iff_iff, decide_eq_true_eq, decide_eq_true_eq]; unfold swaps; simp
  have HH : Hid (∀ w, Calls Tryd.prog 32 #[.slice (some ⟨w.heap.size, 0, none⟩) 3 3, .int .i64 x.N] (w.alloc (.cells #[.int .i64 3, .int .i64 5, .int .i64 8] 3)) fun e w' => e = .returned (.bool s) ∧ Below w.heap.size w w') := fun w => by
    rw [hs]
    exact (has_any (S := fun _ => True) (xs := [3, 5, 8]) ((blk_new w _ _).arr (zs := [3, 5, 8]) (by unfold I64; simp) (by simp [maxLen]) trivial)).mono fun e w' ⟨he, hq⟩ => ⟨he, below_of_has hq⟩
  obtain ⟨r, hr⟩ : ∃ r, r = alikeB x y (decide (i < t.Loop)) (decide (k < t.Loop)) := ⟨_, rfl⟩
  rw [← hr]
  obtain ⟨L, hL⟩ : ∃ L, L = t.Loop := ⟨_, rfl⟩
  rw [← hL] at t2 hr
  clear hs rT rX rY hb1 ht hL
  by_cases c0 : x.Op = y.Op
  case neg =>
    have f0 : (x.Op != y.Op) = true := by simp [c0]
    have HE : Hid (r = false) := by show _ = _; rw [hr]; unfold alikeB; simp [c0]
    clear hr hsw c0
    go_enter Tryd.func41, Tryd.ntmps41
    go_upto_region 1 with fail
    rw [show ((w.alloc (.cells T 34)).alloc (.cells #[.int .i64 x.Op, .int .i64 x.A, .int .i64 x.B, .int .i64 x.C, .int .i64 x.N, .int .i64 x.Exit, .int .i64 x.K.Kind, .int .i64 x.K.N] 43)).alloc (.cells #[.int .i64 y.Op, .int .i64 y.A, .int .i64 y.B, .int .i64 y.C, .int .i64 y.N, .int .i64 y.Exit, .int .i64 y.K.Kind, .int .i64 y.K.N] 43) = w1 from hw1.symm]
    clear hw1
    go_wp2_with fail
    go_ret
    exact ⟨by rw [HE.out]; rfl, HB1.out⟩

  have f0 : (x.Op != y.Op) = false := by simp [c0]
  by_cases c2 : x.Op = 2
  · as_aux_lemma =>
      have c0y : y.Op = 2 := by rw [← c0, c2]
      by_cases k1 : x.K.Kind = y.K.Kind
      · skip
        by_cases k2 : x.K.N = y.K.N
        · skip
          have e2 : (x.Op == 2) = true := by simp [c2]
          have e3 : (x.Op == 3) = false := by simp [c2]
          have e1 : (x.Op == 1) = false := by simp [c2]
          have e8 : (x.Op == 8) = false := by simp [c2]
          have e7 : (x.Op == 7) = false := by simp [c2]
          have g1 : (x.K.Kind == y.K.Kind) = true := by simp [k1]
          have g2 : (x.K.N == y.K.N) = true := by simp [k2]
          have hk : x.K = y.K := by obtain ⟨_, _, _, _, _, _, ⟨_, _⟩⟩ := x; obtain ⟨_, _, _, _, _, _, ⟨_, _⟩⟩ := y; simp at k1 k2 ⊢; exact ⟨k1, k2⟩
          have HE : Hid (r = true) := by show _ = _; rw [hr]; unfold alikeB; simp [c0, c0y, hk]
          clear hr hsw c0 c0y c2 k1 k2 hk
          go_enter Tryd.func41, Tryd.ntmps41
          go_upto_region 1 with fail
          rw [show ((w.alloc (.cells T 34)).alloc (.cells #[.int .i64 x.Op, .int .i64 x.A, .int .i64 x.B, .int .i64 x.C, .int .i64 x.N, .int .i64 x.Exit, .int .i64 x.K.Kind, .int .i64 x.K.N] 43)).alloc (.cells #[.int .i64 y.Op, .int .i64 y.A, .int .i64 y.B, .int .i64 y.C, .int .i64 y.N, .int .i64 y.Exit, .int .i64 y.K.Kind, .int .i64 y.K.N] 43) = w1 from hw1.symm]
          clear hw1
          go_wp2_with fail
          go_ret
          exact ⟨by rw [HE.out]; rfl, HB1.out⟩
        · skip
          have e2 : (x.Op == 2) = true := by simp [c2]
          have e3 : (x.Op == 3) = false := by simp [c2]
          have e1 : (x.Op == 1) = false := by simp [c2]
          have e8 : (x.Op == 8) = false := by simp [c2]
          have e7 : (x.Op == 7) = false := by simp [c2]
          have g1 : (x.K.Kind == y.K.Kind) = true := by simp [k1]
          have g2 : (x.K.N == y.K.N) = false := by simp [k2]
          have hk : x.K ≠ y.K := fun h => k2 (by rw [h])
          have HE : Hid (r = false) := by show _ = _; rw [hr]; unfold alikeB; simp [c0, c0y, hk]
          clear hr hsw c0 c0y c2 k1 k2 hk
          go_enter Tryd.func41, Tryd.ntmps41
          go_upto_region 1 with fail
          rw [show ((w.alloc (.cells T 34)).alloc (.cells #[.int .i64 x.Op, .int .i64 x.A, .int .i64 x.B, .int .i64 x.C, .int .i64 x.N, .int .i64 x.Exit, .int .i64 x.K.Kind, .int .i64 x.K.N] 43)).alloc (.cells #[.int .i64 y.Op, .int .i64 y.A, .int .i64 y.B, .int .i64 y.C, .int .i64 y.N, .int .i64 y.Exit, .int .i64 y.K.Kind, .int .i64 y.K.N] 43) = w1 from hw1.symm]
          clear hw1
          go_wp2_with fail
          go_ret
          exact ⟨by rw [HE.out]; rfl, HB1.out⟩
      · skip
        have e2 : (x.Op == 2) = true := by simp [c2]
        have e3 : (x.Op == 3) = false := by simp [c2]
        have e1 : (x.Op == 1) = false := by simp [c2]
        have e8 : (x.Op == 8) = false := by simp [c2]
        have e7 : (x.Op == 7) = false := by simp [c2]
        have g1 : (x.K.Kind == y.K.Kind) = false := by simp [k1]
        have hk : x.K ≠ y.K := fun h => k1 (by rw [h])
        have HE : Hid (r = false) := by show _ = _; rw [hr]; unfold alikeB; simp [c0, c0y, hk]
        clear hr hsw c0 c0y c2 k1 hk
        go_enter Tryd.func41, Tryd.ntmps41
        go_upto_region 1 with fail
        rw [show ((w.alloc (.cells T 34)).alloc (.cells #[.int .i64 x.Op, .int .i64 x.A, .int .i64 x.B, .int .i64 x.C, .int .i64 x.N, .int .i64 x.Exit, .int .i64 x.K.Kind, .int .i64 x.K.N] 43)).alloc (.cells #[.int .i64 y.Op, .int .i64 y.A, .int .i64 y.B, .int .i64 y.C, .int .i64 y.N, .int .i64 y.Exit, .int .i64 y.K.Kind, .int .i64 y.K.N] 43) = w1 from hw1.symm]
        clear hw1
        go_wp2_with fail
        go_ret
        exact ⟨by rw [HE.out]; rfl, HB1.out⟩
  have n2 := c2; clear c2
  by_cases c3 : x.Op = 3
  · as_aux_lemma =>
      have c0y : y.Op = 3 := by rw [← c0, c3]
      have e2 : (x.Op == 2) = false := by simp [c3]
      have e3 : (x.Op == 3) = true := by simp [c3]
      have e1 : (x.Op == 1) = false := by simp [c3]
      have e8 : (x.Op == 8) = false := by simp [c3]
      have e7 : (x.Op == 7) = false := by simp [c3]
      have HE : Hid (r = true) := by show _ = _; rw [hr]; unfold alikeB; simp [c0, c0y]
      clear hr hsw c0 c0y c3
      go_enter Tryd.func41, Tryd.ntmps41
      go_upto_region 1 with fail
      rw [show ((w.alloc (.cells T 34)).alloc (.cells #[.int .i64 x.Op, .int .i64 x.A, .int .i64 x.B, .int .i64 x.C, .int .i64 x.N, .int .i64 x.Exit, .int .i64 x.K.Kind, .int .i64 x.K.N] 43)).alloc (.cells #[.int .i64 y.Op, .int .i64 y.A, .int .i64 y.B, .int .i64 y.C, .int .i64 y.N, .int .i64 y.Exit, .int .i64 y.K.Kind, .int .i64 y.K.N] 43) = w1 from hw1.symm]
      clear hw1
      go_wp2_with fail
      go_ret
      exact ⟨by rw [HE.out]; rfl, HB1.out⟩
  have n3 := c3; clear c3
  by_cases c1 : x.Op = 1
  · as_aux_lemma =>
      have c0y : y.Op = 1 := by rw [← c0, c1]
      have e2 : (x.Op == 2) = false := by simp [c1]
      have e3 : (x.Op == 3) = false := by simp [c1]
      have e1 : (x.Op == 1) = true := by simp [c1]
      have e8 : (x.Op == 8) = false := by simp [c1]
      have e7 : (x.Op == 7) = false := by simp [c1]
      by_cases k1 : x.N = y.N
      · skip
        have g1 : (x.N == y.N) = true := by simp [k1]
        cases ha : decide (i < L) with
        | false =>
          cases hb : decide (k < L) with
          | false =>
            have HE : Hid (r = true) := by show _ = _; rw [hr]; unfold alikeB; simp [c0, c0y, k1, ha, hb]
            clear hr hsw c0 c0y c1 k1
            go_enter Tryd.func41, Tryd.ntmps41
            go_upto_region 1 with fail
            rw [show ((w.alloc (.cells T 34)).alloc (.cells #[.int .i64 x.Op, .int .i64 x.A, .int .i64 x.B, .int .i64 x.C, .int .i64 x.N, .int .i64 x.Exit, .int .i64 x.K.Kind, .int .i64 x.K.N] 43)).alloc (.cells #[.int .i64 y.Op, .int .i64 y.A, .int .i64 y.B, .int .i64 y.C, .int .i64 y.N, .int .i64 y.Exit, .int .i64 y.K.Kind, .int .i64 y.K.N] 43) = w1 from hw1.symm]
            clear hw1
            go_wp2_with fail
            go_ret
            exact ⟨by rw [HE.out]; rfl, HB1.out⟩
          | true =>
            have HE : Hid (r = false) := by show _ = _; rw [hr]; unfold alikeB; simp [c0, c0y, k1, ha, hb]
            clear hr hsw c0 c0y c1 k1
            go_enter Tryd.func41, Tryd.ntmps41
            go_upto_region 1 with fail
            rw [show ((w.alloc (.cells T 34)).alloc (.cells #[.int .i64 x.Op, .int .i64 x.A, .int .i64 x.B, .int .i64 x.C, .int .i64 x.N, .int .i64 x.Exit, .int .i64 x.K.Kind, .int .i64 x.K.N] 43)).alloc (.cells #[.int .i64 y.Op, .int .i64 y.A, .int .i64 y.B, .int .i64 y.C, .int .i64 y.N, .int .i64 y.Exit, .int .i64 y.K.Kind, .int .i64 y.K.N] 43) = w1 from hw1.symm]
            clear hw1
            go_wp2_with fail
            go_ret
            exact ⟨by rw [HE.out]; rfl, HB1.out⟩
        | true =>
          cases hb : decide (k < L) with
          | false =>
            have HE : Hid (r = false) := by show _ = _; rw [hr]; unfold alikeB; simp [c0, c0y, k1, ha, hb]
            clear hr hsw c0 c0y c1 k1
            go_enter Tryd.func41, Tryd.ntmps41
            go_upto_region 1 with fail
            rw [show ((w.alloc (.cells T 34)).alloc (.cells #[.int .i64 x.Op, .int .i64 x.A, .int .i64 x.B, .int .i64 x.C, .int .i64 x.N, .int .i64 x.Exit, .int .i64 x.K.Kind, .int .i64 x.K.N] 43)).alloc (.cells #[.int .i64 y.Op, .int .i64 y.A, .int .i64 y.B, .int .i64 y.C, .int .i64 y.N, .int .i64 y.Exit, .int .i64 y.K.Kind, .int .i64 y.K.N] 43) = w1 from hw1.symm]
            clear hw1
            go_wp2_with fail
            go_ret
            exact ⟨by rw [HE.out]; rfl, HB1.out⟩
          | true =>
            have HE : Hid (r = true) := by show _ = _; rw [hr]; unfold alikeB; simp [c0, c0y, k1, ha, hb]
            clear hr hsw c0 c0y c1 k1
            go_enter Tryd.func41, Tryd.ntmps41
            go_upto_region 1 with fail
            rw [show ((w.alloc (.cells T 34)).alloc (.cells #[.int .i64 x.Op, .int .i64 x.A, .int .i64 x.B, .int .i64 x.C, .int .i64 x.N, .int .i64 x.Exit, .int .i64 x.K.Kind, .int .i64 x.K.N] 43)).alloc (.cells #[.int .i64 y.Op, .int .i64 y.A, .int .i64 y.B, .int .i64 y.C, .int .i64 y.N, .int .i64 y.Exit, .int .i64 y.K.Kind, .int .i64 y.K.N] 43) = w1 from hw1.symm]
            clear hw1
            go_wp2_with fail
            go_ret
            exact ⟨by rw [HE.out]; rfl, HB1.out⟩
      · skip
        have g1 : (x.N == y.N) = false := by simp [k1]
        have HE : Hid (r = false) := by show _ = _; rw [hr]; unfold alikeB; simp [c0, c0y, k1]
        clear hr hsw c0 c0y c1 k1
        go_enter Tryd.func41, Tryd.ntmps41
        go_upto_region 1 with fail
        rw [show ((w.alloc (.cells T 34)).alloc (.cells #[.int .i64 x.Op, .int .i64 x.A, .int .i64 x.B, .int .i64 x.C, .int .i64 x.N, .int .i64 x.Exit, .int .i64 x.K.Kind, .int .i64 x.K.N] 43)).alloc (.cells #[.int .i64 y.Op, .int .i64 y.A, .int .i64 y.B, .int .i64 y.C, .int .i64 y.N, .int .i64 y.Exit, .int .i64 y.K.Kind, .int .i64 y.K.N] 43) = w1 from hw1.symm]
        clear hw1
        go_wp2_with fail
        go_ret
        exact ⟨by rw [HE.out]; rfl, HB1.out⟩
  have n1 := c1; clear c1
  by_cases c8 : x.Op = 8
  · as_aux_lemma =>
      have c0y : y.Op = 8 := by rw [← c0, c8]
      have e2 : (x.Op == 2) = false := by simp [c8]
      have e3 : (x.Op == 3) = false := by simp [c8]
      have e1 : (x.Op == 1) = false := by simp [c8]
      have e8 : (x.Op == 8) = true := by simp [c8]
      have e7 : (x.Op == 7) = false := by simp [c8]
      by_cases k1 : x.N = y.N
      · skip
        by_cases k2 : x.A = y.A
        · skip
          have g1 : (x.N == y.N) = true := by simp [k1]
          have g2 : (x.A == y.A) = true := by simp [k2]
          have HE : Hid (r = true) := by show _ = _; rw [hr]; unfold alikeB; simp [c0, c0y, k1, k2]
          clear hr hsw c0 c0y c8 k1 k2
          go_enter Tryd.func41, Tryd.ntmps41
          go_upto_region 1 with fail
          rw [show ((w.alloc (.cells T 34)).alloc (.cells #[.int .i64 x.Op, .int .i64 x.A, .int .i64 x.B, .int .i64 x.C, .int .i64 x.N, .int .i64 x.Exit, .int .i64 x.K.Kind, .int .i64 x.K.N] 43)).alloc (.cells #[.int .i64 y.Op, .int .i64 y.A, .int .i64 y.B, .int .i64 y.C, .int .i64 y.N, .int .i64 y.Exit, .int .i64 y.K.Kind, .int .i64 y.K.N] 43) = w1 from hw1.symm]
          clear hw1
          go_wp2_with fail
          go_ret
          exact ⟨by rw [HE.out]; rfl, HB1.out⟩
        · skip
          have g1 : (x.N == y.N) = true := by simp [k1]
          have g2 : (x.A == y.A) = false := by simp [k2]
          have HE : Hid (r = false) := by show _ = _; rw [hr]; unfold alikeB; simp [c0, c0y, k1, k2]
          clear hr hsw c0 c0y c8 k1 k2
          go_enter Tryd.func41, Tryd.ntmps41
          go_upto_region 1 with fail
          rw [show ((w.alloc (.cells T 34)).alloc (.cells #[.int .i64 x.Op, .int .i64 x.A, .int .i64 x.B, .int .i64 x.C, .int .i64 x.N, .int .i64 x.Exit, .int .i64 x.K.Kind, .int .i64 x.K.N] 43)).alloc (.cells #[.int .i64 y.Op, .int .i64 y.A, .int .i64 y.B, .int .i64 y.C, .int .i64 y.N, .int .i64 y.Exit, .int .i64 y.K.Kind, .int .i64 y.K.N] 43) = w1 from hw1.symm]
          clear hw1
          go_wp2_with fail
          go_ret
          exact ⟨by rw [HE.out]; rfl, HB1.out⟩
      · skip
        have g1 : (x.N == y.N) = false := by simp [k1]
        have HE : Hid (r = false) := by show _ = _; rw [hr]; unfold alikeB; simp [c0, c0y, k1]
        clear hr hsw c0 c0y c8 k1
        go_enter Tryd.func41, Tryd.ntmps41
        go_upto_region 1 with fail
        rw [show ((w.alloc (.cells T 34)).alloc (.cells #[.int .i64 x.Op, .int .i64 x.A, .int .i64 x.B, .int .i64 x.C, .int .i64 x.N, .int .i64 x.Exit, .int .i64 x.K.Kind, .int .i64 x.K.N] 43)).alloc (.cells #[.int .i64 y.Op, .int .i64 y.A, .int .i64 y.B, .int .i64 y.C, .int .i64 y.N, .int .i64 y.Exit, .int .i64 y.K.Kind, .int .i64 y.K.N] 43) = w1 from hw1.symm]
        clear hw1
        go_wp2_with fail
        go_ret
        exact ⟨by rw [HE.out]; rfl, HB1.out⟩
  have n8 := c8; clear c8
  by_cases c7 : x.Op = 7
  · as_aux_lemma =>
      have c0y : y.Op = 7 := by rw [← c0, c7]
      have e2 : (x.Op == 2) = false := by simp [c7]
      have e3 : (x.Op == 3) = false := by simp [c7]
      have e1 : (x.Op == 1) = false := by simp [c7]
      have e8 : (x.Op == 8) = false := by simp [c7]
      have e7 : (x.Op == 7) = true := by simp [c7]
      by_cases k1 : x.N = y.N
      · skip
        by_cases k2 : x.A = y.A
        · skip
          by_cases k3 : x.B = y.B
          · skip
            have g1 : (x.N == y.N) = true := by simp [k1]
            have g2 : (x.A == y.A) = true := by simp [k2]
            have g3 : (x.B == y.B) = true := by simp [k3]
            have HE : Hid (r = true) := by show _ = _; rw [hr]; unfold alikeB; simp [c0, c0y, k1, k2, k3]
            clear hr hsw c0 c0y c7 k1 k2 k3
            go_enter Tryd.func41, Tryd.ntmps41
            go_upto_region 1 with fail
            rw [show ((w.alloc (.cells T 34)).alloc (.cells #[.int .i64 x.Op, .int .i64 x.A, .int .i64 x.B, .int .i64 x.C, .int .i64 x.N, .int .i64 x.Exit, .int .i64 x.K.Kind, .int .i64 x.K.N] 43)).alloc (.cells #[.int .i64 y.Op, .int .i64 y.A, .int .i64 y.B, .int .i64 y.C, .int .i64 y.N, .int .i64 y.Exit, .int .i64 y.K.Kind, .int .i64 y.K.N] 43) = w1 from hw1.symm]
            clear hw1
            go_wp2_with fail
            go_ret
            exact ⟨by rw [HE.out]; rfl, HB1.out⟩
          · skip
            cases hsv : s with
            | false =>
              have g1 : (x.N == y.N) = true := by simp [k1]
              have g2 : (x.A == y.A) = true := by simp [k2]
              have g3 : (x.B == y.B) = false := by simp [k3]
              subst hsv
              have hn0 : ¬ swaps x.N := by simpa using hsw.symm
              have hn : ¬ swaps y.N := by rw [← k1]; exact hn0
              clear hn0
              have HE : Hid (r = false) := by show _ = _; rw [hr]; unfold alikeB; simp [c0, c0y, k1, k3, hn]
              clear hr hsw c0 c0y c7 k1 k2 k3 hn
              go_enter Tryd.func41, Tryd.ntmps41
              go_upto_region 1 with fail
              rw [show ((w.alloc (.cells T 34)).alloc (.cells #[.int .i64 x.Op, .int .i64 x.A, .int .i64 x.B, .int .i64 x.C, .int .i64 x.N, .int .i64 x.Exit, .int .i64 x.K.Kind, .int .i64 x.K.N] 43)).alloc (.cells #[.int .i64 y.Op, .int .i64 y.A, .int .i64 y.B, .int .i64 y.C, .int .i64 y.N, .int .i64 y.Exit, .int .i64 y.K.Kind, .int .i64 y.K.N] 43) = w1 from hw1.symm]
              clear hw1
              go_wp2_with (go_at_call 32; (with_reducible refine (HH.out _).mono ?_); rintro e w3 ⟨rfl, hb3⟩; have HB3 := Lib.hid (HB1.out.trans (hb3.mono HB1.out.size)); have rx3 := HRX.out.keep (hb3.block _ HRX.out.lt); have ry3 := HRY.out.keep (hb3.block _ HRY.out.lt); have z1 := rx3.cell (j := 1) rfl; have z2 := rx3.cell (j := 2) rfl; have u1 := ry3.cell (j := 1) rfl; have u2 := ry3.cell (j := 2) rfl; have l3 := rx3.lt; have m3 := ry3.lt; clear hb3 rx3 ry3)
              go_ret
              exact ⟨by rw [HE.out]; rfl, HB3.out⟩
            | true =>
              by_cases k5 : x.A = y.B
              · skip
                by_cases k6 : x.B = y.A
                · skip
                  have g1 : (x.N == y.N) = true := by simp [k1]
                  have g2 : (x.A == y.A) = true := by simp [k2]
                  have g3 : (x.B == y.B) = false := by simp [k3]
                  subst hsv
                  have hn0 : swaps x.N := by simpa using hsw.symm
                  have hn : swaps y.N := by rw [← k1]; exact hn0
                  clear hn0
                  have g5 : (x.A == y.B) = true := by simp [k5]
                  have g6 : (x.B == y.A) = true := by simp [k6]
                  have HE : Hid (r = true) := by show _ = _; rw [hr]; unfold alikeB; simp [c0, c0y, k1, k3, hn, k5, k6]
                  clear hr hsw c0 c0y c7 k1 k2 k3 hn k5 k6
                  go_enter Tryd.func41, Tryd.ntmps41
                  go_upto_region 1 with fail
                  rw [show ((w.alloc (.cells T 34)).alloc (.cells #[.int .i64 x.Op, .int .i64 x.A, .int .i64 x.B, .int .i64 x.C, .int .i64 x.N, .int .i64 x.Exit, .int .i64 x.K.Kind, .int .i64 x.K.N] 43)).alloc (.cells #[.int .i64 y.Op, .int .i64 y.A, .int .i64 y.B, .int .i64 y.C, .int .i64 y.N, .int .i64 y.Exit, .int .i64 y.K.Kind, .int .i64 y.K.N] 43) = w1 from hw1.symm]
                  clear hw1
                  go_wp2_with (go_at_call 32; (with_reducible refine (HH.out _).mono ?_); rintro e w3 ⟨rfl, hb3⟩; have HB3 := Lib.hid (HB1.out.trans (hb3.mono HB1.out.size)); have rx3 := HRX.out.keep (hb3.block _ HRX.out.lt); have ry3 := HRY.out.keep (hb3.block _ HRY.out.lt); have z1 := rx3.cell (j := 1) rfl; have z2 := rx3.cell (j := 2) rfl; have u1 := ry3.cell (j := 1) rfl; have u2 := ry3.cell (j := 2) rfl; have l3 := rx3.lt; have m3 := ry3.lt; clear hb3 rx3 ry3)
                  go_ret
                  exact ⟨by rw [HE.out]; rfl, HB3.out⟩
                · skip
                  have g1 : (x.N == y.N) = true := by simp [k1]
                  have g2 : (x.A == y.A) = true := by simp [k2]
                  have g3 : (x.B == y.B) = false := by simp [k3]
                  subst hsv
                  have hn0 : swaps x.N := by simpa using hsw.symm
                  have hn : swaps y.N := by rw [← k1]; exact hn0
                  clear hn0
                  have g5 : (x.A == y.B) = true := by simp [k5]
                  have g6 : (x.B == y.A) = false := by simp [k6]
                  have HE : Hid (r = false) := by show _ = _; rw [hr]; unfold alikeB; simp [c0, c0y, k1, k3, hn, k5, k6]
                  clear hr hsw c0 c0y c7 k1 k2 k3 hn k5 k6
                  go_enter Tryd.func41, Tryd.ntmps41
                  go_upto_region 1 with fail
                  rw [show ((w.alloc (.cells T 34)).alloc (.cells #[.int .i64 x.Op, .int .i64 x.A, .int .i64 x.B, .int .i64 x.C, .int .i64 x.N, .int .i64 x.Exit, .int .i64 x.K.Kind, .int .i64 x.K.N] 43)).alloc (.cells #[.int .i64 y.Op, .int .i64 y.A, .int .i64 y.B, .int .i64 y.C, .int .i64 y.N, .int .i64 y.Exit, .int .i64 y.K.Kind, .int .i64 y.K.N] 43) = w1 from hw1.symm]
                  clear hw1
                  go_wp2_with (go_at_call 32; (with_reducible refine (HH.out _).mono ?_); rintro e w3 ⟨rfl, hb3⟩; have HB3 := Lib.hid (HB1.out.trans (hb3.mono HB1.out.size)); have rx3 := HRX.out.keep (hb3.block _ HRX.out.lt); have ry3 := HRY.out.keep (hb3.block _ HRY.out.lt); have z1 := rx3.cell (j := 1) rfl; have z2 := rx3.cell (j := 2) rfl; have u1 := ry3.cell (j := 1) rfl; have u2 := ry3.cell (j := 2) rfl; have l3 := rx3.lt; have m3 := ry3.lt; clear hb3 rx3 ry3)
                  go_ret
                  exact ⟨by rw [HE.out]; rfl, HB3.out⟩
              · skip
                have g1 : (x.N == y.N) = true := by simp [k1]
                have g2 : (x.A == y.A) = true := by simp [k2]
                have g3 : (x.B == y.B) = false := by simp [k3]
                subst hsv
                have hn0 : swaps x.N := by simpa using hsw.symm
                have hn : swaps y.N := by rw [← k1]; exact hn0
                clear hn0
                have g5 : (x.A == y.B) = false := by simp [k5]
                have HE : Hid (r = false) := by show _ = _; rw [hr]; unfold alikeB; simp [c0, c0y, k1, k3, hn, k5]
                clear hr hsw c0 c0y c7 k1 k2 k3 hn k5
                go_enter Tryd.func41, Tryd.ntmps41
                go_upto_region 1 with fail
                rw [show ((w.alloc (.cells T 34)).alloc (.cells #[.int .i64 x.Op, .int .i64 x.A, .int .i64 x.B, .int .i64 x.C, .int .i64 x.N, .int .i64 x.Exit, .int .i64 x.K.Kind, .int .i64 x.K.N] 43)).alloc (.cells #[.int .i64 y.Op, .int .i64 y.A, .int .i64 y.B, .int .i64 y.C, .int .i64 y.N, .int .i64 y.Exit, .int .i64 y.K.Kind, .int .i64 y.K.N] 43) = w1 from hw1.symm]
                clear hw1
                go_wp2_with (go_at_call 32; (with_reducible refine (HH.out _).mono ?_); rintro e w3 ⟨rfl, hb3⟩; have HB3 := Lib.hid (HB1.out.trans (hb3.mono HB1.out.size)); have rx3 := HRX.out.keep (hb3.block _ HRX.out.lt); have ry3 := HRY.out.keep (hb3.block _ HRY.out.lt); have z1 := rx3.cell (j := 1) rfl; have z2 := rx3.cell (j := 2) rfl; have u1 := ry3.cell (j := 1) rfl; have u2 := ry3.cell (j := 2) rfl; have l3 := rx3.lt; have m3 := ry3.lt; clear hb3 rx3 ry3)
                go_ret
                exact ⟨by rw [HE.out]; rfl, HB3.out⟩
        · skip
          cases hsv : s with
          | false =>
            have g1 : (x.N == y.N) = true := by simp [k1]
            have g2 : (x.A == y.A) = false := by simp [k2]
            subst hsv
            have hn0 : ¬ swaps x.N := by simpa using hsw.symm
            have hn : ¬ swaps y.N := by rw [← k1]; exact hn0
            clear hn0
            have HE : Hid (r = false) := by show _ = _; rw [hr]; unfold alikeB; simp [c0, c0y, k1, k2, hn]
            clear hr hsw c0 c0y c7 k1 k2 hn
            go_enter Tryd.func41, Tryd.ntmps41
            go_upto_region 1 with fail
            rw [show ((w.alloc (.cells T 34)).alloc (.cells #[.int .i64 x.Op, .int .i64 x.A, .int .i64 x.B, .int .i64 x.C, .int .i64 x.N, .int .i64 x.Exit, .int .i64 x.K.Kind, .int .i64 x.K.N] 43)).alloc (.cells #[.int .i64 y.Op, .int .i64 y.A, .int .i64 y.B, .int .i64 y.C, .int .i64 y.N, .int .i64 y.Exit, .int .i64 y.K.Kind, .int .i64 y.K.N] 43) = w1 from hw1.symm]
            clear hw1
            go_wp2_with (go_at_call 32; (with_reducible refine (HH.out _).mono ?_); rintro e w3 ⟨rfl, hb3⟩; have HB3 := Lib.hid (HB1.out.trans (hb3.mono HB1.out.size)); have rx3 := HRX.out.keep (hb3.block _ HRX.out.lt); have ry3 := HRY.out.keep (hb3.block _ HRY.out.lt); have z1 := rx3.cell (j := 1) rfl; have z2 := rx3.cell (j := 2) rfl; have u1 := ry3.cell (j := 1) rfl; have u2 := ry3.cell (j := 2) rfl; have l3 := rx3.lt; have m3 := ry3.lt; clear hb3 rx3 ry3)
            go_ret
            exact ⟨by rw [HE.out]; rfl, HB3.out⟩
          | true =>
            by_cases k5 : x.A = y.B
            · skip
              by_cases k6 : x.B = y.A
              · skip
                have g1 : (x.N == y.N) = true := by simp [k1]
                have g2 : (x.A == y.A) = false := by simp [k2]
                subst hsv
                have hn0 : swaps x.N := by simpa using hsw.symm
                have hn : swaps y.N := by rw [← k1]; exact hn0
                clear hn0
                have g5 : (x.A == y.B) = true := by simp [k5]
                have g6 : (x.B == y.A) = true := by simp [k6]
                have HE : Hid (r = true) := by show _ = _; rw [hr]; unfold alikeB; simp [c0, c0y, k1, k2, hn, k5, k6]
                clear hr hsw c0 c0y c7 k1 k2 hn k5 k6
                go_enter Tryd.func41, Tryd.ntmps41
                go_upto_region 1 with fail
                rw [show ((w.alloc (.cells T 34)).alloc (.cells #[.int .i64 x.Op, .int .i64 x.A, .int .i64 x.B, .int .i64 x.C, .int .i64 x.N, .int .i64 x.Exit, .int .i64 x.K.Kind, .int .i64 x.K.N] 43)).alloc (.cells #[.int .i64 y.Op, .int .i64 y.A, .int .i64 y.B, .int .i64 y.C, .int .i64 y.N, .int .i64 y.Exit, .int .i64 y.K.Kind, .int .i64 y.K.N] 43) = w1 from hw1.symm]
                clear hw1
                go_wp2_with (go_at_call 32; (with_reducible refine (HH.out _).mono ?_); rintro e w3 ⟨rfl, hb3⟩; have HB3 := Lib.hid (HB1.out.trans (hb3.mono HB1.out.size)); have rx3 := HRX.out.keep (hb3.block _ HRX.out.lt); have ry3 := HRY.out.keep (hb3.block _ HRY.out.lt); have z1 := rx3.cell (j := 1) rfl; have z2 := rx3.cell (j := 2) rfl; have u1 := ry3.cell (j := 1) rfl; have u2 := ry3.cell (j := 2) rfl; have l3 := rx3.lt; have m3 := ry3.lt; clear hb3 rx3 ry3)
                go_ret
                exact ⟨by rw [HE.out]; rfl, HB3.out⟩
              · skip
                have g1 : (x.N == y.N) = true := by simp [k1]
                have g2 : (x.A == y.A) = false := by simp [k2]
                subst hsv
                have hn0 : swaps x.N := by simpa using hsw.symm
                have hn : swaps y.N := by rw [← k1]; exact hn0
                clear hn0
                have g5 : (x.A == y.B) = true := by simp [k5]
                have g6 : (x.B == y.A) = false := by simp [k6]
                have k2b : ¬ y.B = y.A := by rw [← k5]; exact k2
                have HE : Hid (r = false) := by show _ = _; rw [hr]; unfold alikeB; simp [c0, c0y, k1, k2b, hn, k5, k6]
                clear hr hsw c0 c0y c7 k1 k2 hn k5 k6 k2b
                go_enter Tryd.func41, Tryd.ntmps41
                go_upto_region 1 with fail
                rw [show ((w.alloc (.cells T 34)).alloc (.cells #[.int .i64 x.Op, .int .i64 x.A, .int .i64 x.B, .int .i64 x.C, .int .i64 x.N, .int .i64 x.Exit, .int .i64 x.K.Kind, .int .i64 x.K.N] 43)).alloc (.cells #[.int .i64 y.Op, .int .i64 y.A, .int .i64 y.B, .int .i64 y.C, .int .i64 y.N, .int .i64 y.Exit, .int .i64 y.K.Kind, .int .i64 y.K.N] 43) = w1 from hw1.symm]
                clear hw1
                go_wp2_with (go_at_call 32; (with_reducible refine (HH.out _).mono ?_); rintro e w3 ⟨rfl, hb3⟩; have HB3 := Lib.hid (HB1.out.trans (hb3.mono HB1.out.size)); have rx3 := HRX.out.keep (hb3.block _ HRX.out.lt); have ry3 := HRY.out.keep (hb3.block _ HRY.out.lt); have z1 := rx3.cell (j := 1) rfl; have z2 := rx3.cell (j := 2) rfl; have u1 := ry3.cell (j := 1) rfl; have u2 := ry3.cell (j := 2) rfl; have l3 := rx3.lt; have m3 := ry3.lt; clear hb3 rx3 ry3)
                go_ret
                exact ⟨by rw [HE.out]; rfl, HB3.out⟩
            · skip
              have g1 : (x.N == y.N) = true := by simp [k1]
              have g2 : (x.A == y.A) = false := by simp [k2]
              subst hsv
              have hn0 : swaps x.N := by simpa using hsw.symm
              have hn : swaps y.N := by rw [← k1]; exact hn0
              clear hn0
              have g5 : (x.A == y.B) = false := by simp [k5]
              have HE : Hid (r = false) := by show _ = _; rw [hr]; unfold alikeB; simp [c0, c0y, k1, k2, hn, k5]
              clear hr hsw c0 c0y c7 k1 k2 hn k5
              go_enter Tryd.func41, Tryd.ntmps41
              go_upto_region 1 with fail
              rw [show ((w.alloc (.cells T 34)).alloc (.cells #[.int .i64 x.Op, .int .i64 x.A, .int .i64 x.B, .int .i64 x.C, .int .i64 x.N, .int .i64 x.Exit, .int .i64 x.K.Kind, .int .i64 x.K.N] 43)).alloc (.cells #[.int .i64 y.Op, .int .i64 y.A, .int .i64 y.B, .int .i64 y.C, .int .i64 y.N, .int .i64 y.Exit, .int .i64 y.K.Kind, .int .i64 y.K.N] 43) = w1 from hw1.symm]
              clear hw1
              go_wp2_with (go_at_call 32; (with_reducible refine (HH.out _).mono ?_); rintro e w3 ⟨rfl, hb3⟩; have HB3 := Lib.hid (HB1.out.trans (hb3.mono HB1.out.size)); have rx3 := HRX.out.keep (hb3.block _ HRX.out.lt); have ry3 := HRY.out.keep (hb3.block _ HRY.out.lt); have z1 := rx3.cell (j := 1) rfl; have z2 := rx3.cell (j := 2) rfl; have u1 := ry3.cell (j := 1) rfl; have u2 := ry3.cell (j := 2) rfl; have l3 := rx3.lt; have m3 := ry3.lt; clear hb3 rx3 ry3)
              go_ret
              exact ⟨by rw [HE.out]; rfl, HB3.out⟩
      · skip
        have g1 : (x.N == y.N) = false := by simp [k1]
        have HE : Hid (r = false) := by show _ = _; rw [hr]; unfold alikeB; simp [c0, c0y, k1]
        clear hr hsw c0 c0y c7 k1
        go_enter Tryd.func41, Tryd.ntmps41
        go_upto_region 1 with fail
        rw [show ((w.alloc (.cells T 34)).alloc (.cells #[.int .i64 x.Op, .int .i64 x.A, .int .i64 x.B, .int .i64 x.C, .int .i64 x.N, .int .i64 x.Exit, .int .i64 x.K.Kind, .int .i64 x.K.N] 43)).alloc (.cells #[.int .i64 y.Op, .int .i64 y.A, .int .i64 y.B, .int .i64 y.C, .int .i64 y.N, .int .i64 y.Exit, .int .i64 y.K.Kind, .int .i64 y.K.N] 43) = w1 from hw1.symm]
        clear hw1
        go_wp2_with fail
        go_ret
        exact ⟨by rw [HE.out]; rfl, HB1.out⟩
  have n7 := c7; clear c7
  have e2 : (x.Op == 2) = false := by simpa using n2
  have e3 : (x.Op == 3) = false := by simpa using n3
  have e1 : (x.Op == 1) = false := by simpa using n1
  have e8 : (x.Op == 8) = false := by simpa using n8
  have e7 : (x.Op == 7) = false := by simpa using n7
  have m2 : y.Op ≠ 2 := by rw [← c0]; exact n2
  have m3 : y.Op ≠ 3 := by rw [← c0]; exact n3
  have m1 : y.Op ≠ 1 := by rw [← c0]; exact n1
  have m8 : y.Op ≠ 8 := by rw [← c0]; exact n8
  have m7 : y.Op ≠ 7 := by rw [← c0]; exact n7
  have HE : Hid (r = false) := by show _ = _; rw [hr]; unfold alikeB; simp [c0, m2, m3, m1, m8, m7]
  clear hr hsw c0 m2 m3 m1 m8 m7 n2 n3 n1 n8 n7
  go_enter Tryd.func41, Tryd.ntmps41
  go_upto_region 1 with fail
  rw [show ((w.alloc (.cells T 34)).alloc (.cells #[.int .i64 x.Op, .int .i64 x.A, .int .i64 x.B, .int .i64 x.C, .int .i64 x.N, .int .i64 x.Exit, .int .i64 x.K.Kind, .int .i64 x.K.N] 43)).alloc (.cells #[.int .i64 y.Op, .int .i64 y.A, .int .i64 y.B, .int .i64 y.C, .int .i64 y.N, .int .i64 y.Exit, .int .i64 y.K.Kind, .int .i64 y.K.N] 43) = w1 from hw1.symm]
  clear hw1
  go_wp2_with fail
  go_ret
  exact ⟨by rw [HE.out]; rfl, HB1.out⟩
end Go.Proofs.YtekofpigmggbbaaDoor.cse
