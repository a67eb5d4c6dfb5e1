/- Interleavings counted: the document's Ways, walked. -/
import Derived.Test.YtfdpannanpipdaaNumB
import Derived.Test.YtfdpannanpipdaaSlices
set_option linter.unusedVariables false
set_option linter.unusedSimpArgs false
namespace Go.Proofs.Ytfdpannanpipdaa.num
open Go.Bk Go.RowKit

theorem ways_zero {qs : List Nat} (h : qs.sum = 0) : ways qs = 1 := by
  have h1 := ways_le qs
  have h2 := ways_pos qs
  rw [h] at h1
  have : fac 0 = 1 := rfl
  omega
theorem sum_pos_succ {qs : List Nat} {k q : Nat} (h : qs[k]? = some q) : decide ((qs.take (k + 1)).sum ≠ 0) = (decide ((qs.take k).sum ≠ 0) || decide (q ≠ 0)) := by
  rw [take_succ_sum h]
  by_cases h1 : (qs.take k).sum = 0 <;> by_cases h2 : q = 0 <;> simp [h1, h2] <;> omega
def someRel (w : World) (qs : List Nat) (s i : Value) (w' : World) : Prop :=
  ∃ k : Nat, k ≤ qs.length ∧ i = .int .i64 k ∧ s = .bool (decide ((qs.take k).sum ≠ 0)) ∧ w = w'
def allRel (w : World) (qs : List Nat) (s i : Value) (w' : World) : Prop :=
  ∃ k : Nat, k ≤ qs.length ∧ i = .int .i64 k ∧ s = .int .i64 ((qs.take k).sum : Nat) ∧ w = w'
def goRel (w : World) (s p : Nat) (out j : Value) (w' : World) : Prop :=
  ∃ i : Nat, i ≤ p ∧ j = .int .i64 ((i + 1 : Nat) : Int) ∧ out = .int .i64 ((pas s i : Nat) : Int) ∧ w = w'

set_option maxRecDepth 100000 in
set_option maxHeartbeats 2000000 in
theorem ways_any {S : Nat → Prop} : ∀ (qs : List Nat) (w : World) (a : Option Addr) (c n : Nat) (hn : qs.length = n) (h : Arr S w a (ints qs)) (hc : n ≤ c) (hs : qs.sum ≤ 12),
    Calls Try.prog 29 #[.slice a n c] w fun e w' => e = .returned (.int .i64 (ways qs : Nat)) ∧ w = w' := by
  intro qs
  induction qs with
  | nil => 
    intro w a c n hn h hc hs
    subst hn
    have hsm := h.small
    unfold maxLen at hsm
    clear h
    go_enter Try.func29, Try.ntmps29
    go_wp2_with fail
    go_loopw [4, 5] (someRel w []) (fun _ _ _ => 0)
    case atStart => exact ⟨0, Nat.zero_le _, rfl, rfl, rfl⟩
    case round =>
      obtain ⟨k, hk, rfl, rfl, rfl⟩ := hrel
      obtain rfl : k = 0 := by simpa using hk
      simp only [List.take_nil, List.sum_nil, ne_eq, not_true, decide_false]
      go_wp2_with fail
      go_ret
      exact ⟨rfl, rfl⟩
  | cons p ps ih =>
    intro w a c n hn h hc hs
    have hsm := h.small
    rw [ints_len, hn] at hsm
    unfold maxLen at hsm
    have HN := Lib.hid hn
    have HIH := Lib.hid ih
    clear ih
    obtain ⟨qs, hqs⟩ : ∃ qs, qs = p :: ps := ⟨_, rfl⟩
    rw [← hqs] at HN hs h
    rw [← hqs]
    have HQ := Lib.hid hqs
    clear hn hqs
    go_enter Try.func29, Try.ntmps29
    go_wp2_with fail
    go_loopw [4, 5] (someRel w qs) (fun _ i _ => qs.length - (intOf i).toNat)
    case atStart => exact ⟨0, Nat.zero_le _, rfl, by simp, rfl⟩
    case round =>
      obtain ⟨k, hk, rfl, rfl, rfl⟩ := hrel
      have h' := h
      clear h
      by_cases hlt : k < qs.length
      · have hlt2 := hlt
        rw [HN.out] at hlt2
        obtain ⟨q, hq⟩ : ∃ x, qs[k]? = some x := ⟨_, List.getElem?_eq_getElem hlt⟩
        obtain ⟨b1, o1, rfl, -, q1, hi⟩ := arr_int h' (ints_get hq)
        have HT := Lib.hid (sum_pos_succ hq)
        obtain ⟨B, hB⟩ : ∃ B, decide ((qs.take k).sum ≠ 0) = B := ⟨_, rfl⟩
        rw [hB] at HT
        rw [hB]
        clear h' hq hB
        by_cases hp : 0 < q
        · have hq0 : decide (q ≠ 0) = true := decide_eq_true (by omega)
          rw [hq0, Bool.or_true] at HT
          clear hq0
          go_wp2_with fail
          go_roundw
          case rel => exact ⟨k + 1, hlt, by go_num, by rw [HT.out], rfl⟩
          case measure => simp [intOf]; omega
        · have hq0 : decide (q ≠ 0) = false := decide_eq_false (by omega)
          rw [hq0, Bool.or_false] at HT
          clear hq0
          go_wp2_with fail
          go_roundw
          case rel => exact ⟨k + 1, hlt, by go_num, by rw [HT.out], rfl⟩
          case measure => simp [intOf]; omega
      · have hkn : k = qs.length := by omega
        have hkn2 := hkn
        rw [HN.out] at hkn2
        rw [hkn, List.take_length]
        by_cases h0 : qs.sum = 0
        · have HW := Lib.hid (ways_zero h0)
          have hd : decide (qs.sum ≠ 0) = false := by simp [h0]
          rw [hd]
          clear h' hkn hlt hd h0
          rw [HN.out]
          go_wp2_with fail
          go_ret
          exact ⟨by rw [HW.out]; rfl, rfl⟩
        · have hd : decide (qs.sum ≠ 0) = true := by simp [h0]
          rw [hd]
          clear hkn hlt hd
          rw [HN.out]
          obtain ⟨b0, o0, rfl, hS0, q0, ip⟩ := arr_int h' (show (ints qs)[0]? = some (p : Int) by rw [HQ.out]; rfl)
          rw [Nat.add_zero] at q0
          go_wp2_with fail
          obtain ⟨wo, rfl⟩ : ∃ wo : World, wo = w := ⟨_, rfl⟩
          go_loopw [6, 7] (allRel wo qs) (fun _ i _ => qs.length - (intOf i).toNat)
          case atStart => exact ⟨0, Nat.zero_le _, rfl, by simp, rfl⟩
          case round =>
            obtain ⟨k, hk, rfl, rfl, rfl⟩ := hrel
            by_cases hlt : k < qs.length
            · have hlt2 := hlt
              rw [HN.out] at hlt2
              obtain ⟨q, hq⟩ : ∃ x, qs[k]? = some x := ⟨_, List.getElem?_eq_getElem hlt⟩
              obtain ⟨b1, o1, he, -, q1, hi⟩ := arr_int h' (ints_get hq)
              obtain ⟨rfl, rfl⟩ : b0 = b1 ∧ o0 = o1 := by simpa using he
              have HT := Lib.hid (take_succ_sum hq)
              have hts := take_sum_le qs (k + 1)
              rw [HT.out] at hts
              clear h' hq he
              obtain ⟨s, hs2⟩ : ∃ s, (qs.take k).sum = s := ⟨_, rfl⟩
              rw [hs2] at HT hts
              rw [hs2]
              clear hs2
              go_wp2_with fail
              go_roundw
              case rel => exact ⟨k + 1, hlt, by go_num, by rw [HT.out]; go_num, rfl⟩
              case measure => simp [intOf]; omega
            · have hkn : k = qs.length := by omega
              rw [hkn, List.take_length]
              clear hlt hkn hk
              have hsum : qs.sum = p + ps.sum := by rw [HQ.out]; rfl
              have HSM := Lib.hid hsum
              have hsl : ps.sum + p ≤ 12 := by omega
              have hps : ints ps = (ints qs).drop 1 := by rw [HQ.out]; rfl
              have hpl : ps.length = n - 1 := by rw [← HN.out, HQ.out]; simp
              have hn1 : 1 ≤ n := by rw [← HN.out, HQ.out]; simp
              obtain ⟨a1, ha1⟩ : ∃ a', a' = (if c = 1 then (some ⟨b0, o0, none⟩ : Option Addr) else some ⟨b0, o0 + 1, none⟩) := ⟨_, rfl⟩
              have HA1 : Hid (Arr S wo a1 (ints ps)) := by show Arr _ _ _ _; rw [ha1, hps]; simpa [show Rep.sz Int = 1 from rfl, Addr.add_lit] using h'.from c 1 (by rw [ints_len, HN.out]; exact hn1) (by rw [ints_len, HN.out]; exact hc)
              have HPL := Lib.hid hpl
              have HW1 : Hid (ways qs = pas ps.sum p * ways ps) := by show _ = _; rw [HQ.out]; rfl
              have hwl := ways_small hs
              have HWB : Hid (ways ps ≤ 479001600) := ways_small (by omega)
              have HPB : Hid (∀ j, ps.sum + j ≤ 12 → pas ps.sum j ≤ 479001600) := fun j hj => by
                have := pas_fac ps.sum j
                have h1 : pas ps.sum j ≤ fac (ps.sum + j) := by rw [← this, Nat.mul_assoc]; exact Nat.le_mul_of_pos_right _ (Nat.mul_pos (fac_pos _) (fac_pos _))
                exact Nat.le_trans h1 (fac12 ▸ fac_mono hj)
              rw [HW1.out] at hwl
              rw [HN.out, HSM.out]
              have HIH2 := Lib.hid (HIH.out wo a1 (c - 1) (n - 1) hpl HA1.out (by omega) (by omega))
              rw [ha1] at HIH2
              clear hsum hps hpl ha1 h' HIH HA1
              obtain ⟨s, hs2⟩ : ∃ s, ps.sum = s := ⟨_, rfl⟩
              rw [hs2] at hwl hsl HPB
              rw [hs2]
              have HS2 := Lib.hid hs2
              clear hs2 hs h0
              go_wp2_with fail
              obtain ⟨wp, rfl⟩ : ∃ wp : World, wp = wo := ⟨_, rfl⟩
              go_loopw [3, 8] (goRel wp s p) (fun _ j _ => p + 1 - (intOf j).toNat)
              case atStart => exact ⟨0, Nat.zero_le _, rfl, by simp [pas], rfl⟩
              case round =>
                obtain ⟨i, hi, rfl, rfl, rfl⟩ := hrel
                by_cases hq : i + 1 ≤ p
                · have hb0 := HPB.out i (by omega)
                  have hb1 := HPB.out (i + 1) (by omega)
                  have HD := Lib.hid (step_div 1 s i)
                  rw [Nat.one_mul, Nat.one_mul] at HD
                  obtain ⟨V, hV⟩ : ∃ V, pas s i = V := ⟨_, rfl⟩
                  rw [hV] at HD hb0
                  rw [hV]
                  clear hV
                  go_wp2_with fail
                  go_roundw
                  case rel => exact ⟨i + 1, hq, by go_num, by rw [show (p : Int) + s - p + ((i : Int) + 1) = (s : Int) + i + 1 by omega, num_step HD.out hb0 hb1 (by omega)], rfl⟩
                  case measure => simp [intOf]; omega
                · obtain rfl : i = p := by omega
                  have HW2 : Hid (wrap64 ((pas s i : Int) * (ways ps : Int)) = ((pas s i * ways ps : Nat) : Int)) := by
                    show _ = _
                    rw [← Int.natCast_mul, IntWalk.wrap64_in _ (by omega)]
                  by_cases hc1 : c = 1
                  · have HI : Hid (Calls Try.prog 29 #[.slice (some ⟨b0, o0, none⟩) (n - 1) (0 : Nat)] wp fun e w' => e = .returned (.int .i64 (ways ps : Nat)) ∧ wp = w') := by
                      have := HIH2.out
                      rw [if_pos hc1, hc1] at this
                      exact this
                    clear HIH2
                    go_wp2_with fail
                    refine HI.out.mono ?_
                    rintro e w' ⟨rfl, rfl⟩
                    clear HI
                    go_wp2_with fail
                    go_ret
                    refine ⟨?_, rfl⟩
                    rw [HW1.out, HS2.out, Int.natCast_mul]
                    rfl
                  · have HI : Hid (Calls Try.prog 29 #[.slice (some ⟨b0, o0 + 1, none⟩) (n - 1) (c - 1)] wp fun e w' => e = .returned (.int .i64 (ways ps : Nat)) ∧ wp = w') := by
                      have := HIH2.out
                      rw [if_neg hc1] at this
                      exact this
                    clear HIH2
                    go_wp2_with fail
                    refine HI.out.mono ?_
                    rintro e w' ⟨rfl, rfl⟩
                    clear HI
                    go_wp2_with fail
                    go_ret
                    refine ⟨?_, rfl⟩
                    rw [HW1.out, HS2.out, Int.natCast_mul]
                    rfl
end Go.Proofs.Ytfdpannanpipdaa.num
