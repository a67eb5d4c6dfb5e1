/- The law SchedPacks, walked: the two answers are one. -/
import Derived.Test.YtimlhjjdaggiiaaSchedD
set_option linter.unusedVariables false
set_option linter.unusedSimpArgs false
namespace Go.Proofs.Ytimlhjjdaggiiaa.sched
open Go.Bk Go.RowKit

set_option maxRecDepth 100000 in
set_option maxHeartbeats 1000000 in
theorem schedPacks_walk (W : World) (args : Array Value) (h : ArgsRead Try.prog W [22, 114] args.toList) :
    Calls Try.prog 14 args W fun e W' => e = .returned (.bool true) ∧ Below W.heap.size W W' := by
  obtain ⟨v0, v1, rfl, r0, r1⟩ := h.two
  obtain ⟨a, xs, c, rfl, hc, hnil, h1⟩ := r0.slice Try.underlying22 Try.opens22
  obtain ⟨a2, l, c2, rfl, hc2, hnil2, h2⟩ := r1.slice Try.underlying114 Try.opens114
  clear r0 r1 h hnil hnil2 hc hc2
  go_enter Try.func14, Try.ntmps14
  go_wp2_with fail
  refine (pack_any h1 (fun _ h => h)).mono ?_
  rintro e w1 ⟨⟨b1, d1, rfl, k1⟩, hb1⟩
  have h1 := h1.keep (w' := w1) (keep_of_below hb1)
  have h2 := h2.keep (w' := w1) (keep_of_below hb1)
  have H1 := Lib.hid hb1; have K1 := Lib.hid k1
  clear hb1 k1
  go_wp2_with fail
  refine (rpack_any h1 (fun b hb => Nat.lt_of_lt_of_le hb H1.out.size)).mono ?_
  rintro e w2 ⟨⟨b2, d2, rfl, k2⟩, hb2⟩
  have hs12 := hb2.size
  have h2 := h2.keep (w' := w2) (fun b hb => hb2.block b (Nat.lt_of_lt_of_le hb H1.out.size))
  have H2 := Lib.hid (mild_grow.trans H1.out hb2); have K1 := Lib.hid (K1.out.later hb2); have K2 := Lib.hid k2
  clear hb2 k2 H1 h1
  go_wp2_with fail
  refine (unpack_any h2 (fun b hb => Nat.lt_of_lt_of_le hb H2.out.size)).mono ?_
  rintro e w3 ⟨⟨b3, d3, rfl, k3⟩, hb3⟩
  have h2 := h2.keep (w' := w3) (fun b hb => hb3.block b (Nat.lt_of_lt_of_le hb H2.out.size))
  have H3 := Lib.hid (mild_grow.trans H2.out hb3); have K1 := Lib.hid (K1.out.still (fun b hb => Nat.lt_of_lt_of_le hb.2 (hs12)) hb3)
  have K2 := Lib.hid (K2.out.later hb3); have K3 := Lib.hid k3
  have hs23 := hb3.size
  clear hb3 k3 H2
  go_wp2_with fail
  refine (runpack_any h2 (fun b hb => Nat.lt_of_lt_of_le hb H3.out.size)).mono ?_
  rintro e w4 ⟨⟨b4, d4, rfl, k4⟩, hb4⟩
  have H4 := Lib.hid (mild_grow.trans H3.out hb4)
  have K1 := Lib.hid (K1.out.still (fun b hb => Nat.lt_of_lt_of_le hb.2 (Nat.le_trans hs12 hs23)) hb4)
  have K2 := Lib.hid (K2.out.still (fun b hb => Nat.lt_of_lt_of_le hb.2 hs23) hb4)
  have K3 := Lib.hid (K3.out.later hb4); have K4 := Lib.hid k4
  have hR : (packOf xs).1.length ≤ 200 := by
    unfold packOf
    split
    · simp
    · split
      · exact Nat.le_trans (rle_len xs) (by omega)
      · simp
  clear hb4 k4 H3 h2 hs12 hs23
  generalize (packOf xs).1 = R at *
  generalize (packOf xs).2 = E at *
  generalize (unpackOf none l []).1 = U at *
  generalize (unpackOf none l []).2 = V at *
  obtain ⟨n, hn⟩ : ∃ n, n = R.length := ⟨_, rfl⟩
  rw [← hn] at hR ⊢
  have HN := Lib.hid hn
  clear hn
  go_wp2
  go_loopw [13] (fun i w' => ∃ k : Nat, k ≤ n ∧ i = .int .i64 k ∧ Quiet w4 w') (fun i _ => n - (intOf i).toNat)
  case atStart => exact ⟨0, Nat.zero_le _, rfl, Quiet.refl _⟩
  case round =>
    obtain ⟨k, hk, rfl, hq⟩ := hrel
    have HQ := Lib.hid hq
    have g1 := K1.out.keep (w' := wr) (fun b _ => hq.heap b)
    have g2 := K2.out.keep (w' := wr) (fun b _ => hq.heap b)
    clear hq
    by_cases hlt : k < n
    · obtain ⟨r, hr⟩ : ∃ y, R[k]? = some y := ⟨_, List.getElem?_eq_getElem (by have := HN.out; omega)⟩
      obtain ⟨c1, o1, rfl, -, q1, q2, -, -⟩ := api_DRun_elem g1 hr
      obtain ⟨c2, o2, rfl, -, q3, q4, -, -⟩ := api_DRun_elem g2 hr
      obtain ⟨T, M⟩ := r
      dsimp only at q1 q2 q3 q4
      clear hr g1 g2
      go_wp2
      first | (refine wp_region_quiet_lit (by kernel_rfl) (by kernel_rfl) ?_; (repeat (go_big_quiet_step (fail))); refine wpQuiet_nil ?_; intro _ hw'; obtain ⟨nq, hw''⟩ := hw'; subst hw'')
      go_wp2
      go_roundw
      case rel => exact ⟨k + 1, by omega, by go_num, HQ.out.more _⟩
      case measure => simp [intOf]; omega
    · clear g1 g2
      have g3 := K3.out.keep (w' := wr) (fun b _ => HQ.out.heap b)
      have g4 := K4.out.keep (w' := wr) (fun b _ => HQ.out.heap b)
      go_wp2_with (with_reducible refine (same_ints_refl g3 g4).mono ?_; rintro e w5 ⟨rfl, hq5⟩)
      all_goals
        go_ret
        exact ⟨by simp, H4.out.trans ((HQ.out.trans hq5).below _)⟩
end Go.Proofs.Ytimlhjjdaggiiaa.sched
