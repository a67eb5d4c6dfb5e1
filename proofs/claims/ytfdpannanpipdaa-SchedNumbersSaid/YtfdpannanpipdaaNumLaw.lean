/- The law SchedNumbers, walked. -/
import Derived.Test.YtfdpannanpipdaaNumI
import Derived.Test.YtfdpannanpipdaaSame
set_option linter.unusedVariables false
set_option linter.unusedSimpArgs false
namespace Go.Proofs.Ytfdpannanpipdaa.num
open Go.Bk Go.RowKit

theorem same_ints_len {S1 S2 : Nat → Prop} {w : World} {a1 a2 : Option Addr} {c1 c2 n : Nat} {xs : List Int} (hn : xs.length = n) (h1 : Arr S1 w a1 xs) (h2 : Arr S2 w a2 xs) :
    Calls Try.prog 20 #[.slice a1 n c1, .slice a2 n c2] w fun e w' => e = .returned (.bool true) ∧ Quiet w w' := hn ▸ same_ints_refl h1 h2

set_option maxRecDepth 100000 in
set_option maxHeartbeats 4000000 in
theorem schedNumbers_walk (W : World) (args : Array Value) (h : ArgsRead Try.prog W [30, 3, 30] args.toList) :
    Calls Try.prog 5 args W fun e W' => e = .returned (.bool true) ∧ Below W.heap.size W W' := by
  obtain ⟨v0, v1, v2, rfl, r0, r1, r2⟩ := h.three
  obtain ⟨a, l, c, rfl, hc, hnil, hl⟩ := r0.slice Try.underlying30 Try.opens30
  obtain ⟨N, rfl, hN⟩ := r1.int Try.underlying3
  obtain ⟨a2, l2, c2, rfl, hc2, hnil2, hl2⟩ := r2.slice Try.underlying30 Try.opens30
  clear r0 r1 r2 h
  obtain ⟨n, hn⟩ : ∃ n, l.length = n := ⟨_, rfl⟩
  obtain ⟨n2, hn2⟩ : ∃ n, l2.length = n := ⟨_, rfl⟩
  rw [hn] at hc ⊢
  rw [hn2] at hc2 ⊢
  have HA : Hid (∀ W', Below W.heap.size W W' → Arr (· < W.heap.size) W' a l) := fun W' hW => hl.keep (fun b hb => hW.block b hb)
  have HA2 : Hid (∀ W', Below W.heap.size W W' → Arr (· < W.heap.size) W' a2 l2) := fun W' hW => hl2.keep (fun b hb => hW.block b hb)
  have HN := Lib.hid hn
  have HN2 := Lib.hid hn2
  have HCO := Lib.hid (Count_any (c := c) hn (HA.out _ (Below.refl _ _)))
  clear hn hn2 hl hl2
  obtain ⟨C, hC⟩ : ∃ C, countOf l = C := ⟨_, rfl⟩
  have HC := Lib.hid hC
  rw [hC] at HCO
  clear hC
  go_enter Try.func5, Try.ntmps5
  go_wp2_with fail
  refine HCO.out.mono ?_
  rintro e w' ⟨rfl, rfl⟩
  go_wp2_with fail
  refine (nth_any (c := c) HN.out (HA.out _ (Below.refl _ _)) (fun b h => h) hnil hN).mono ?_
  rintro e w1 ⟨RN, hRN, ⟨a3, c3, rfl, ha3⟩, hb1⟩
  have HB1 := Lib.hid hb1
  have HRN := Lib.hid hRN
  have HA3 : Hid (∀ W', Below w1.heap.size w1 W' → Arr (fun _ => True) W' a3 RN.1) := fun W' hW => (ha3.keep fun b hb => hW.block b hb.2).mono fun _ _ => trivial
  clear hb1 hRN ha3
  obtain ⟨O, E1⟩ := RN
  dsimp only at HA3
  dsimp only
  obtain ⟨no, hno⟩ : ∃ n, O.length = n := ⟨_, rfl⟩
  rw [hno]
  have HNO := Lib.hid hno
  clear hno
  go_wp2_with fail
  refine (rank_any (c := c) (c2 := c2) HN.out (HA.out _ HB1.out) (fun b h => Nat.lt_of_lt_of_le h HB1.out.size) hnil HN2.out (HA2.out _ HB1.out) (fun b h => Nat.lt_of_lt_of_le h HB1.out.size)).mono ?_
  rintro e w2 ⟨rfl, hb2⟩
  have HB2 := Lib.hid (HB1.out.trans (hb2.mono HB1.out.size))
  have HB12 := Lib.hid hb2
  clear hb2
  obtain ⟨⟨K, E2⟩, hK⟩ : ∃ Q, rankOf l l2 = Q := ⟨_, rfl⟩
  rw [hK]
  have HK := Lib.hid hK
  clear hK
  go_wp2_with fail
  refine (partsErr_any (c := c) HN.out (HA.out _ HB2.out)).mono ?_
  rintro e w' ⟨rfl, rfl⟩
  by_cases h0 : perr l = 0
  · obtain ⟨qs, rfl, h8, h12⟩ := perr_zero h0
    have hC1 : C = (((ways qs : Nat) : Int), 0) := by have := HC.out; unfold countOf at this; rw [if_pos h0, toNats] at this; exact this.symm
    subst hC1
    have hw := ways_small h12
    have HQ : Hid (qs.length = n) := by have := HN.out; rwa [ints_len] at this
    have HRN2 : Hid (if N < 0 ∨ ((ways qs : Nat) : Int) ≤ N then ((O, E1) : List Int × Int) = ([], 1) else ∃ o, NthIs qs N.toNat o ∧ ((O, E1) : List Int × Int) = (ints o, 0)) := by have := HRN.out; unfold NthAns at this; rw [if_neg (by simp [h0]), toNats] at this; exact this
    have HK2 : Hid (((K, E2) : Int × Int) = match rk qs l2 with | none => ((0 : Int), (3 : Int)) | some r => ((r : Int), 0)) := by have := HK.out; unfold rankOf at this; rw [if_neg (by simp [h0]), toNats] at this; exact this.symm
    rw [h0]
    clear HC HK HRN HCO h0
    dsimp only
    go_wp2_with fail
    refine (ways_at HQ.out (HA.out _ HB2.out) hc h12).mono ?_
    rintro e w' ⟨rfl, rfl⟩
    by_cases hbad : N < 0 ∨ ((ways qs : Nat) : Int) ≤ N
    · have hO1 := HRN2.out
      rw [if_pos hbad] at hO1
      injection hO1 with o1 o2
      subst o1 o2
      have hno : no = 0 := HNO.out.symm
      subst hno
      by_cases hneg : N < 0
      · by_cases hl2 : 12 < n2
        · have hrk : rk qs l2 = none := by
            cases hr : rk qs l2 with
            | none => rfl
            | some r => have := rk_len _ _ _ hr; have := HN2.out; omega
          have hKE := HK2.out
          rw [hrk] at hKE
          injection hKE with k1 k2
          subst k1 k2
          clear hrk
          go_wp2_with fail
          refine (same_ints_refl (xs := ([] : List Int)) (HA3.out _ HB12.out) (Arr.nil (fun _ => True) _ none)).mono ?_
          rintro e w3 ⟨rfl, hq⟩
          have HB3 := Lib.hid (HB2.out.trans (hq.below _))
          clear hq
          go_wp2_with fail
          go_ret
          exact ⟨by simp, HB3.out⟩
        · have HRK := Lib.hid (rrank_any l2 qs _ _ w2 a a2 c n c2 n2 HQ.out HN2.out (HA.out _ HB2.out) (fun b h => Nat.lt_of_lt_of_le h HB2.out.size) hnil hc (by have := HQ.out; omega) h12 (HA2.out _ HB2.out) (fun b h => Nat.lt_of_lt_of_le h HB2.out.size) hc2 (by omega))
          have hKE := HK2.out
          cases hr : rk qs l2 with
          | none =>
            have hri : rkI qs l2 = -1 := by unfold rkI; rw [hr]
            rw [hr] at hKE
            injection hKE with k1 k2
            subst k1 k2
            clear hr
            go_wp2_with fail
            refine HRK.out.mono ?_
            rintro e w4 ⟨rfl, hb4⟩
            rw [hri]
            have HB4 := Lib.hid (HB2.out.trans (hb4.mono HB2.out.size))
            have HB14 := Lib.hid (HB12.out.trans (hb4.mono HB12.out.size))
            clear hb4
            go_wp2_with fail
            refine (same_ints_refl (xs := ([] : List Int)) (HA3.out _ HB14.out) (Arr.nil (fun _ => True) _ none)).mono ?_
            rintro e w3 ⟨rfl, hq⟩
            have HB3 := Lib.hid (HB4.out.trans (hq.below _))
            clear hq
            go_wp2_with fail
            go_ret
            exact ⟨by simp, HB3.out⟩
          | some r =>
            have hri : rkI qs l2 = (r : Int) := by unfold rkI; rw [hr]
            have hrn : ¬ (r : Int) < 0 := by omega
            rw [hr] at hKE
            injection hKE with k1 k2
            subst k1 k2
            clear hr
            go_wp2_with fail
            refine HRK.out.mono ?_
            rintro e w4 ⟨rfl, hb4⟩
            rw [hri]
            have HB4 := Lib.hid (HB2.out.trans (hb4.mono HB2.out.size))
            have HB14 := Lib.hid (HB12.out.trans (hb4.mono HB12.out.size))
            clear hb4
            go_wp2_with fail
            refine (same_ints_refl (xs := ([] : List Int)) (HA3.out _ HB14.out) (Arr.nil (fun _ => True) _ none)).mono ?_
            rintro e w3 ⟨rfl, hq⟩
            have HB3 := Lib.hid (HB4.out.trans (hq.below _))
            clear hq
            go_wp2_with fail
            go_ret
            exact ⟨by simp, HB3.out⟩
      · have hge : ((ways qs : Nat) : Int) ≤ N := by omega
        by_cases hl2 : 12 < n2
        · have hrk : rk qs l2 = none := by
            cases hr : rk qs l2 with
            | none => rfl
            | some r => have := rk_len _ _ _ hr; have := HN2.out; omega
          have hKE := HK2.out
          rw [hrk] at hKE
          injection hKE with k1 k2
          subst k1 k2
          clear hrk
          go_wp2_with fail
          refine (same_ints_refl (xs := ([] : List Int)) (HA3.out _ HB12.out) (Arr.nil (fun _ => True) _ none)).mono ?_
          rintro e w3 ⟨rfl, hq⟩
          have HB3 := Lib.hid (HB2.out.trans (hq.below _))
          clear hq
          go_wp2_with fail
          go_ret
          exact ⟨by simp, HB3.out⟩
        · have HRK := Lib.hid (rrank_any l2 qs _ _ w2 a a2 c n c2 n2 HQ.out HN2.out (HA.out _ HB2.out) (fun b h => Nat.lt_of_lt_of_le h HB2.out.size) hnil hc (by have := HQ.out; omega) h12 (HA2.out _ HB2.out) (fun b h => Nat.lt_of_lt_of_le h HB2.out.size) hc2 (by omega))
          have hKE := HK2.out
          cases hr : rk qs l2 with
          | none =>
            have hri : rkI qs l2 = -1 := by unfold rkI; rw [hr]
            rw [hr] at hKE
            injection hKE with k1 k2
            subst k1 k2
            clear hr
            go_wp2_with fail
            refine HRK.out.mono ?_
            rintro e w4 ⟨rfl, hb4⟩
            rw [hri]
            have HB4 := Lib.hid (HB2.out.trans (hb4.mono HB2.out.size))
            have HB14 := Lib.hid (HB12.out.trans (hb4.mono HB12.out.size))
            clear hb4
            go_wp2_with fail
            refine (same_ints_refl (xs := ([] : List Int)) (HA3.out _ HB14.out) (Arr.nil (fun _ => True) _ none)).mono ?_
            rintro e w3 ⟨rfl, hq⟩
            have HB3 := Lib.hid (HB4.out.trans (hq.below _))
            clear hq
            go_wp2_with fail
            go_ret
            exact ⟨by simp, HB3.out⟩
          | some r =>
            have hri : rkI qs l2 = (r : Int) := by unfold rkI; rw [hr]
            have hrn : ¬ (r : Int) < 0 := by omega
            rw [hr] at hKE
            injection hKE with k1 k2
            subst k1 k2
            clear hr
            go_wp2_with fail
            refine HRK.out.mono ?_
            rintro e w4 ⟨rfl, hb4⟩
            rw [hri]
            have HB4 := Lib.hid (HB2.out.trans (hb4.mono HB2.out.size))
            have HB14 := Lib.hid (HB12.out.trans (hb4.mono HB12.out.size))
            clear hb4
            go_wp2_with fail
            refine (same_ints_refl (xs := ([] : List Int)) (HA3.out _ HB14.out) (Arr.nil (fun _ => True) _ none)).mono ?_
            rintro e w3 ⟨rfl, hq⟩
            have HB3 := Lib.hid (HB4.out.trans (hq.below _))
            clear hq
            go_wp2_with fail
            go_ret
            exact ⟨by simp, HB3.out⟩
    · obtain ⟨M, rfl⟩ : ∃ M : Nat, N = M := ⟨N.toNat, by omega⟩
      have hge : ¬ ((ways qs : Nat) : Int) ≤ (M : Int) := by omega
      have hO1 := HRN2.out
      rw [if_neg hbad] at hO1
      obtain ⟨o, ho, hO2⟩ := hO1
      rw [Int.toNat_natCast] at ho
      injection hO2 with o1 o2
      subst o1 o2
      obtain ⟨c2', hw2⟩ : ∃ c2', c2' = c := ⟨c, rfl⟩
      clear hw2
      have hn8 : n ≤ 8 := by have := HQ.out; omega
      have hmw : M < ways qs := by omega
      have hMN : ¬ (M : Int) < 0 := by omega
      have hd0 : decide ((M : Int) < 0) = false := decide_eq_false hMN
      have hd1 : decide (((ways qs : Nat) : Int) ≤ (M : Int)) = false := decide_eq_false hge
      clear hbad HRN2 c2'
      go_wp2_with fail
      refine (rnth_any qs.sum qs _ w2 a c n M rfl HQ.out (HA.out _ HB2.out) (fun b h => Nat.lt_of_lt_of_le h HB2.out.size) hnil hc hn8 h12 hmw).mono ?_
      rintro e w7 ⟨o', v7, ho', rfl, hown7, hb7⟩
      obtain rfl := NthIs.unique ho ho'
      obtain ⟨a7, c7, rfl, hc7, hnil7, ha7⟩ := own_len hown7 HNO.out
      have HA7 : Hid (∀ W', Below w7.heap.size w7 W' → Arr (fun _ => True) W' a7 (ints o)) := fun W' hW => (ha7.keep fun b hb => hW.block b hb.2).mono fun _ _ => trivial
      have HB7 := Lib.hid (HB2.out.trans (hb7.mono HB2.out.size))
      have HB17 := Lib.hid (HB12.out.trans (hb7.mono HB12.out.size))
      clear hb7 ha7 hown7 ho' ho hc7 hnil7
      by_cases hl2 : 12 < n2
      · have hrk : rk qs l2 = none := by
          cases hr : rk qs l2 with
          | none => rfl
          | some r => have := rk_len _ _ _ hr; have := HN2.out; omega
        have hKE := HK2.out
        rw [hrk] at hKE
        injection hKE with k1 k2
        subst k1 k2
        clear hrk
        go_wp2_with fail
        refine (same_ints_len HNO.out (HA3.out _ HB17.out) (HA7.out _ (Below.refl _ _))).mono ?_
        rintro e w3 ⟨rfl, hq⟩
        have HB3 := Lib.hid (HB7.out.trans (hq.below _))
        clear hq
        go_wp2_with fail
        go_ret
        exact ⟨by simp, HB3.out⟩
      · have HRK := Lib.hid (rrank_any l2 qs _ _ w7 a a2 c n c2 n2 HQ.out HN2.out (HA.out _ HB7.out) (fun b h => Nat.lt_of_lt_of_le h HB7.out.size) hnil hc (by have := HQ.out; omega) h12 (HA2.out _ HB7.out) (fun b h => Nat.lt_of_lt_of_le h HB7.out.size) hc2 (by omega))
        have hKE := HK2.out
        cases hr : rk qs l2 with
        | none =>
          have hri : rkI qs l2 = -1 := by unfold rkI; rw [hr]
          rw [hr] at hKE
          injection hKE with k1 k2
          subst k1 k2
          clear hr
          go_wp2_with fail
          refine HRK.out.mono ?_
          rintro e w4 ⟨rfl, hb4⟩
          rw [hri]
          have HB4 := Lib.hid (HB7.out.trans (hb4.mono HB7.out.size))
          have HB74 := Lib.hid hb4
          have HB14 := Lib.hid (HB17.out.trans (hb4.mono HB17.out.size))
          clear hb4
          go_wp2_with fail
          refine (same_ints_len HNO.out (HA3.out _ HB14.out) (HA7.out _ HB74.out)).mono ?_
          rintro e w3 ⟨rfl, hq⟩
          have HB3 := Lib.hid (HB4.out.trans (hq.below _))
          clear hq
          go_wp2_with fail
          go_ret
          exact ⟨by simp, HB3.out⟩
        | some r =>
          have hri : rkI qs l2 = (r : Int) := by unfold rkI; rw [hr]
          have hrn : ¬ (r : Int) < 0 := by omega
          rw [hr] at hKE
          injection hKE with k1 k2
          subst k1 k2
          clear hr
          go_wp2_with fail
          refine HRK.out.mono ?_
          rintro e w4 ⟨rfl, hb4⟩
          rw [hri]
          have HB4 := Lib.hid (HB7.out.trans (hb4.mono HB7.out.size))
          have HB74 := Lib.hid hb4
          have HB14 := Lib.hid (HB17.out.trans (hb4.mono HB17.out.size))
          clear hb4
          go_wp2_with fail
          refine (same_ints_len HNO.out (HA3.out _ HB14.out) (HA7.out _ HB74.out)).mono ?_
          rintro e w3 ⟨rfl, hq⟩
          have HB3 := Lib.hid (HB4.out.trans (hq.below _))
          clear hq
          go_wp2_with fail
          go_ret
          exact ⟨by simp, HB3.out⟩
  · have hC1 : C = (0, perr l) := by have := HC.out; unfold countOf at this; rw [if_neg h0] at this; exact this.symm
    have hK1 : ((K, E2) : Int × Int) = (0, perr l) := by have := HK.out; unfold rankOf at this; rw [if_pos h0] at this; exact this.symm
    have hO1 : ((O, E1) : List Int × Int) = ([], perr l) := by have := HRN.out; unfold NthAns at this; rw [if_pos h0] at this; exact this
    injection hK1 with k1 k2
    injection hO1 with o1 o2
    subst hC1 k1 k2 o1 o2
    have hd : decide (perr l = 0) = false := decide_eq_false h0
    have hno : no = 0 := HNO.out.symm
    subst hno
    obtain ⟨E, hE⟩ : ∃ E, perr l = E := ⟨_, rfl⟩
    rw [hE] at hd h0 ⊢
    clear HC HK HRN hE HCO
    dsimp only
    go_wp2_with fail
    refine (same_ints_refl (xs := ([] : List Int)) (HA3.out _ HB12.out) (Arr.nil (fun _ => True) _ none)).mono ?_
    rintro e w3 ⟨rfl, hq⟩
    have HB3 := Lib.hid (HB2.out.trans (hq.below _))
    clear hq
    go_wp2_with fail
    go_ret
    exact ⟨by simp, HB3.out⟩
end Go.Proofs.Ytfdpannanpipdaa.num
