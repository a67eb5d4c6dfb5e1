/- The law LockupRings, walked: the two answers are one. -/
import Derived.Test.YtimlhjjdaggiiaaRankB
set_option linter.unusedVariables false
set_option linter.unusedSimpArgs false
namespace Go.Proofs.Ytimlhjjdaggiiaa.rank
open Go.Bk Go.RowKit Go.Proofs.Ytimlhjjdaggiiaa.ring

theorem arr_fit {S : Nat → Prop} {w : World} {a : Option Addr} {xs ys : List Int} (h : Arr S w a xs) (e : xs = ys) : Arr S w a ys := e ▸ h
theorem same_ints_at {S1 S2 : Nat → Prop} {w : World} {a1 a2 : Option Addr} {c1 c2 n1 n2 : Nat} {xs : List Int} (h1 : Arr S1 w a1 xs) (h2 : Arr S2 w a2 xs) (e1 : xs.length = n1) (e2 : xs.length = n2) :
    Calls Try.prog 17 #[.slice a1 n1 c1, .slice a2 n2 c2] w fun e w' => e = .returned (.bool true) ∧ Quiet w w' := by
  subst e1; subst e2; exact same_ints_refl h1 h2

set_option maxRecDepth 100000 in
set_option maxHeartbeats 1000000 in
theorem lockupRings_walk (W : World) (args : Array Value) (h : ArgsRead Try.prog W [81, 82] args.toList) :
    Calls Try.prog 9 args W fun e W' => e = .returned (.bool true) ∧ Below W.heap.size W W' := by
  obtain ⟨v0, v1, rfl, r0, r1⟩ := h.two
  obtain ⟨a, l, c, rfl, hc, hnil, h1⟩ := r0.slice Try.underlying81 Try.opens81
  obtain ⟨a2, p, c2, rfl, hc2, hnil2, h2⟩ := r1.slice Try.underlying82 Try.opens82
  clear r0 r1 h hnil hnil2 hc hc2
  have hm2 := h2.small
  unfold maxLen at hm2
  obtain ⟨n, hn⟩ : ∃ n, l.length = n := ⟨_, rfl⟩
  obtain ⟨m, hm⟩ : ∃ m, p.length = m := ⟨_, rfl⟩
  rw [hm] at hm2
  rw [hn, hm]
  have HN := Lib.hid hn; have HM := Lib.hid hm
  have HA : Hid (∀ w', Below W.heap.size W w' → Arr (· < W.heap.size) w' a l) := fun w' hb => h1.keep (fun b hb' => hb.block b hb')
  have HP : Hid (∀ w', Below W.heap.size W w' → Arr (· < W.heap.size) w' a2 p) := fun w' hb => h2.keep (fun b hb' => hb.block b hb')
  have HC1 := Lib.hid (ring_any (c := c) hn h1 (fun _ h => h))
  clear hn hm h1 h2
  go_enter Try.func9, Try.ntmps9
  go_wp2_with fail
  refine HC1.out.mono ?_
  rintro e w1 ⟨a3, c3, rfl, k3, hb1⟩
  have H1 := Lib.hid hb1; have K3 := Lib.hid k3
  have hs1 := hb1.size
  clear hb1 k3 HC1
  go_wp2_with fail
  refine (rank_any (c := c2) HM.out (HP.out _ H1.out) (fun b hb => Nat.lt_of_lt_of_le hb hs1)).mono ?_
  rintro e w2 ⟨a4, c4, rfl, k4, hb2⟩
  have hs2 := hb2.size
  have H2 := Lib.hid (H1.out.trans (hb2.mono hs1)); have K3 := Lib.hid (K3.out.keep (fun b hb => hb2.block b hb.2)); have K4 := Lib.hid k4
  clear hb2 k4 H1
  go_wp2_with fail
  refine (ringErr_any (c := c) HN.out (HA.out _ H2.out)).mono ?_
  rintro e w3 ⟨rfl, hq3⟩
  have H3 := Lib.hid (H2.out.trans (hq3.below _)); have K3 := Lib.hid (K3.out.keep (fun b _ => hq3.heap b)); have K4 := Lib.hid (K4.out.keep (fun b _ => hq3.heap b))
  have hs3 := (hq3.below w2.heap.size).size
  have hW3 : W.heap.size ≤ w3.heap.size := by omega
  clear hq3 H2
  have HRL : Hid (errOf l = 0 → ringRes l = ringOf l) := by show _ → _; intro he; unfold ringRes; rw [if_pos he]
  have HRN : Hid (errOf l ≠ 0 → ringRes l = []) := by show _ → _; intro he; unfold ringRes; rw [if_neg he]
  obtain ⟨q, hq⟩ : ∃ q, (ringRes l).length = q := ⟨_, rfl⟩
  rw [hq]
  have HQ := Lib.hid hq
  clear hq
  obtain ⟨dq, hdq⟩ : ∃ dq, dq = decide (0 < q) := ⟨_, rfl⟩
  have hq1 : decide (0 < (q : Int)) = dq := by rw [hdq]; simp
  have hdd : (dq == dq) = true := by simp
  rw [← hdq]
  have HDQ := Lib.hid hdq
  clear hdq
  by_cases hl : 200 < m
  · have hd1 : decide (200 < (m : Int)) = true := decide_eq_true (by omega)
    have HR : Hid (rankRes p = ([], false)) := by show _ = _; unfold rankRes; rw [if_pos (by rw [HM.out]; exact hl)]
    have HE : Hid (rankErr p = 2) := by show _ = _; unfold rankErr; rw [if_pos (by rw [HM.out]; exact hl)]
    rw [HR.out] at K4 ⊢
    rw [HE.out]
    by_cases he : errOf l = 0
    · have HLR := Lib.hid (lockRing_any (c := c) HN.out (HA.out _ H3.out) (fun b hb => Nat.lt_of_lt_of_le hb hW3) he)
      have HRR := Lib.hid (HRL.out he)
      have HQ2 : Hid ((ringOf l).length = q) := by show _ = _; rw [← HRR.out]; exact HQ.out
      rw [he]
      clear he
      go_wp2_with fail
      refine HLR.out.mono ?_
      rintro e w4 ⟨a5, c5, rfl, k5, hb4⟩
      have hs4 := hb4.size
      have H4 := Lib.hid (H3.out.trans (hb4.mono hW3)); have K3 := Lib.hid (K3.out.keep (fun b hb => hb4.block b (by omega))); have K5 := Lib.hid (arr_fit k5 HRR.out.symm)
      have K4 := Lib.hid (K4.out.keep (fun b hb => hb4.block b (by omega)))
      rw [HQ2.out]
      clear hb4 k5 HLR
      go_wp2_with fail
      refine (same_ints_at K3.out K5.out HQ.out HQ.out).mono ?_
      rintro e w5 ⟨rfl, hq5⟩
      have H5 := Lib.hid (H4.out.trans (hq5.below _))
      have K4 := Lib.hid (K4.out.keep (fun b _ => hq5.heap b))
      clear hq5
      go_wp2_with fail
      refine (same_ints_at (xs := []) K4.out (Arr.nil (fun _ => False) _ _) rfl rfl).mono ?_
      rintro e w6 ⟨rfl, hq6⟩
      have H6 := Lib.hid (H5.out.trans (hq6.below _))
      clear hq6
      go_wp2_with fail
      go_ret
      exact ⟨rfl, H6.out⟩
    · have he0 : (errOf l == 0) = false := by simpa using he
      have HRR := Lib.hid (HRN.out he)
      have hq0 : 0 = q := by rw [← HQ.out, HRR.out]; rfl
      have hdf : dq = false := by rw [HDQ.out, ← hq0]; simp
      subst hdf
      subst hq0
      have K5 : Hid (Arr (fun b => b < w3.heap.size) w3 none (ringRes l)) := by show Arr _ _ _ _; rw [HRR.out]; exact Arr.nil _ _ _
      have H4 := Lib.hid H3.out
      obtain ⟨w4, hw4⟩ : ∃ w4, w4 = w3 := ⟨_, rfl⟩
      have hs4 : w3.heap.size ≤ w4.heap.size := by rw [hw4]; exact Nat.le_refl _
      rw [← hw4] at K3 K4 K5 H4 ⊢
      clear hw4 he
      go_wp2_with fail
      refine (same_ints_at K3.out K5.out HQ.out HQ.out).mono ?_
      rintro e w5 ⟨rfl, hq5⟩
      have H5 := Lib.hid (H4.out.trans (hq5.below _))
      have K4 := Lib.hid (K4.out.keep (fun b _ => hq5.heap b))
      clear hq5
      go_wp2_with fail
      refine (same_ints_at (xs := []) K4.out (Arr.nil (fun _ => False) _ _) rfl rfl).mono ?_
      rintro e w6 ⟨rfl, hq6⟩
      have H6 := Lib.hid (H5.out.trans (hq6.below _))
      clear hq6
      go_wp2_with fail
      go_ret
      exact ⟨rfl, H6.out⟩
  · have hd1 : decide (200 < (m : Int)) = false := decide_eq_false (by omega)
    have HR : Hid (rankRes p = rankOf p) := by show _ = _; unfold rankRes; rw [if_neg (by rw [HM.out]; exact hl)]
    have HE : Hid (rankErr p = 0) := by show _ = _; unfold rankErr; rw [if_neg (by rw [HM.out]; exact hl)]
    rw [HR.out] at K4 ⊢
    rw [HE.out]
    by_cases he : errOf l = 0
    · have HLR := Lib.hid (lockRing_any (c := c) HN.out (HA.out _ H3.out) (fun b hb => Nat.lt_of_lt_of_le hb hW3) he)
      have HRR := Lib.hid (HRL.out he)
      have HQ2 : Hid ((ringOf l).length = q) := by show _ = _; rw [← HRR.out]; exact HQ.out
      rw [he]
      clear he
      go_wp2_with fail
      refine HLR.out.mono ?_
      rintro e w4 ⟨a5, c5, rfl, k5, hb4⟩
      have hs4 := hb4.size
      have H4 := Lib.hid (H3.out.trans (hb4.mono hW3)); have K3 := Lib.hid (K3.out.keep (fun b hb => hb4.block b (by omega))); have K5 := Lib.hid (arr_fit k5 HRR.out.symm)
      have K4 := Lib.hid (K4.out.keep (fun b hb => hb4.block b (by omega)))
      rw [HQ2.out]
      clear hb4 k5 HLR
      go_wp2_with fail
      refine (lockRank_any (c := c2) HM.out (HP.out _ H4.out) (fun b hb => Nat.lt_of_lt_of_le hb (Nat.le_trans hW3 hs4)) (by omega)).mono ?_
      rintro e w7 ⟨a7, c7, rfl, k7, hb7⟩
      have H7 := Lib.hid (H4.out.trans (hb7.mono (Nat.le_trans hW3 hs4)))
      have K3 := Lib.hid (K3.out.keep (fun b hb => hb7.block b (by omega))); have K4 := Lib.hid (K4.out.keep (fun b hb => hb7.block b (by omega))); have K5 := Lib.hid (K5.out.keep (fun b hb => hb7.block b (by omega))); have K7 := Lib.hid k7
      clear hb7 k7
      have hRd : ((rankOf p).2 == (rankOf p).2) = true := by simp
      obtain ⟨R, hRR⟩ : ∃ R, R = rankOf p := ⟨_, rfl⟩
      rw [← hRR] at K4 K7 hRd ⊢
      clear hRR HR
      obtain ⟨R1, R2⟩ := R
      dsimp only at K4 K7 hRd ⊢
      go_wp2_with fail
      refine (same_ints_at K3.out K5.out HQ.out HQ.out).mono ?_
      rintro e w5 ⟨rfl, hq5⟩
      have H5 := Lib.hid (H7.out.trans (hq5.below _))
      have K4 := Lib.hid (K4.out.keep (fun b _ => hq5.heap b)); have K7 := Lib.hid (K7.out.keep (fun b _ => hq5.heap b))
      clear hq5
      go_wp2_with fail
      refine (same_ints_at K4.out K7.out rfl rfl).mono ?_
      rintro e w6 ⟨rfl, hq6⟩
      have H6 := Lib.hid (H5.out.trans (hq6.below _))
      clear hq6
      go_wp2_with fail
      go_ret
      exact ⟨rfl, H6.out⟩
    · have he0 : (errOf l == 0) = false := by simpa using he
      have HRR := Lib.hid (HRN.out he)
      have hq0 : 0 = q := by rw [← HQ.out, HRR.out]; rfl
      have hdf : dq = false := by rw [HDQ.out, ← hq0]; simp
      subst hdf
      subst hq0
      have K5 : Hid (Arr (fun b => b < w3.heap.size) w3 none (ringRes l)) := by show Arr _ _ _ _; rw [HRR.out]; exact Arr.nil _ _ _
      have H4 := Lib.hid H3.out
      obtain ⟨w4, hw4⟩ : ∃ w4, w4 = w3 := ⟨_, rfl⟩
      have hs4 : w3.heap.size ≤ w4.heap.size := by rw [hw4]; exact Nat.le_refl _
      rw [← hw4] at K3 K4 K5 H4 ⊢
      clear hw4 he
      go_wp2_with fail
      refine (lockRank_any (c := c2) HM.out (HP.out _ H4.out) (fun b hb => Nat.lt_of_lt_of_le hb (Nat.le_trans hW3 hs4)) (by omega)).mono ?_
      rintro e w7 ⟨a7, c7, rfl, k7, hb7⟩
      have H7 := Lib.hid (H4.out.trans (hb7.mono (Nat.le_trans hW3 hs4)))
      have K3 := Lib.hid (K3.out.keep (fun b hb => hb7.block b (by omega))); have K4 := Lib.hid (K4.out.keep (fun b hb => hb7.block b (by omega))); have K5 := Lib.hid (K5.out.keep (fun b hb => hb7.block b (by omega))); have K7 := Lib.hid k7
      clear hb7 k7
      have hRd : ((rankOf p).2 == (rankOf p).2) = true := by simp
      obtain ⟨R, hRR⟩ : ∃ R, R = rankOf p := ⟨_, rfl⟩
      rw [← hRR] at K4 K7 hRd ⊢
      clear hRR HR
      obtain ⟨R1, R2⟩ := R
      dsimp only at K4 K7 hRd ⊢
      go_wp2_with fail
      refine (same_ints_at K3.out K5.out HQ.out HQ.out).mono ?_
      rintro e w5 ⟨rfl, hq5⟩
      have H5 := Lib.hid (H7.out.trans (hq5.below _))
      have K4 := Lib.hid (K4.out.keep (fun b _ => hq5.heap b)); have K7 := Lib.hid (K7.out.keep (fun b _ => hq5.heap b))
      clear hq5
      go_wp2_with fail
      refine (same_ints_at K4.out K7.out rfl rfl).mono ?_
      rintro e w6 ⟨rfl, hq6⟩
      have H6 := Lib.hid (H5.out.trans (hq6.below _))
      clear hq6
      go_wp2_with fail
      go_ret
      exact ⟨rfl, H6.out⟩
end Go.Proofs.Ytimlhjjdaggiiaa.rank
