/- Interleavings counted: the program's count, walked. -/
import Derived.Test.YtfdpannanpipdaaNumA
set_option linter.unusedVariables false
set_option linter.unusedSimpArgs false
namespace Go.Proofs.Ytfdpannanpipdaa.num
open Go.Bk Go.RowKit

def ints (qs : List Nat) : List Int := qs.map fun (q : Nat) => (q : Int)
theorem ints_len (qs : List Nat) : (ints qs).length = qs.length := by simp [ints]
theorem ints_get {qs : List Nat} {k q : Nat} (h : qs[k]? = some q) : (ints qs)[k]? = some (q : Int) := by simp [ints, h]
theorem ints_sum (qs : List Nat) : (ints qs).sum = (qs.sum : Int) := by
  induction qs with
  | nil => rfl
  | cons q qs ih => show (q : Int) + (ints qs).sum = ((q + qs.sum : Nat) : Int); rw [ih]; omega
theorem ints_of {l : List Int} (h : ∀ x ∈ l, 0 ≤ x) : ∃ qs, l = ints qs := by
  refine ⟨l.map Int.toNat, ?_⟩
  unfold ints
  rw [List.map_map]
  conv => lhs; rw [← List.map_id l]
  refine List.map_congr_left fun x hx => ?_
  have := h x hx
  simp; omega
theorem perr_zero {l : List Int} (h : perr l = 0) : ∃ qs, l = ints qs ∧ qs.length ≤ 8 ∧ qs.sum ≤ 12 := by
  unfold perr at h
  split at h
  · cases h
  · split at h
    · cases h
    · split at h
      · cases h
      · rename_i h1 h2 h3
        obtain ⟨qs, rfl⟩ := ints_of fun x hx => by
          rcases Int.lt_or_le x 0 with h | h
          · exact absurd ⟨x, hx, h⟩ h2
          · exact h
        rw [ints_len] at h1
        rw [ints_sum] at h3
        exact ⟨qs, rfl, by omega, by omega⟩
theorem take_succ_sum {qs : List Nat} {k q : Nat} (h : qs[k]? = some q) : (qs.take (k + 1)).sum = (qs.take k).sum + q := by
  rw [List.take_add_one, h]; simp
theorem take_sum_le (qs : List Nat) (k : Nat) : (qs.take k).sum ≤ qs.sum := by
  have : (qs.take k).sum + (qs.drop k).sum = qs.sum := by rw [← List.sum_append, List.take_append_drop]
  omega
theorem cnt_succ {qs : List Nat} {k q : Nat} (h : qs[k]? = some q) : cnt 0 (qs.take (k + 1)) = cnt 0 (qs.take k) * pas (qs.take k).sum q := by
  rw [List.take_add_one, h]
  simp [cnt_append, cnt]
theorem cnt_part (xs : List Nat) (j : Nat) (h : xs.sum + j ≤ 12) : cnt 0 xs * pas xs.sum j ≤ 479001600 := by
  have : cnt 0 (xs ++ [j]) = cnt 0 xs * pas xs.sum j := by simp [cnt_append, cnt]
  rw [← this, cnt_ways]
  exact ways_small (by simp; omega)

theorem num_step {V s i T : Nat} (h : V * (s + i + 1) / (i + 1) = T) (hV : V ≤ 479001600) (hT : T ≤ 479001600) (hs : s + i + 1 ≤ 12) :
    wrap64 ((wrap64 ((V : Int) * ((s : Int) + i + 1))).tdiv ((i : Int) + 1)) = (T : Int) := by
  have h1 : V * (s + i + 1) ≤ 479001600 * 12 := Nat.mul_le_mul hV hs
  have e1 : (V : Int) * ((s : Int) + i + 1) = ((V * (s + i + 1) : Nat) : Int) := by
    rw [Int.natCast_mul]; rfl
  rw [e1, IntWalk.wrap64_in ((V * (s + i + 1) : Nat) : Int) (by omega), show (i : Int) + 1 = ((i + 1 : Nat) : Int) by omega, ← Int.ofNat_tdiv, h, IntWalk.wrap64_in _ (by omega)]
def countRel (w : World) (qs : List Nat) (out all i : Value) (w' : World) : Prop :=
  ∃ k : Nat, k ≤ qs.length ∧ i = .int .i64 k ∧ all = .int .i64 ((qs.take k).sum : Nat) ∧ out = .int .i64 (cnt 0 (qs.take k) : Nat) ∧ w = w'
def inRel (w : World) (P s q : Nat) (out all j : Value) (w' : World) : Prop :=
  ∃ i : Nat, i ≤ q ∧ j = .int .i64 ((i + 1 : Nat) : Int) ∧ all = .int .i64 ((s + i : Nat) : Int) ∧ out = .int .i64 ((P * pas s i : Nat) : Int) ∧ w = w'

set_option maxRecDepth 100000 in
set_option maxHeartbeats 1000000 in
theorem count_any {S : Nat → Prop} {w : World} {a : Option Addr} {c n : Nat} {qs : List Nat} (hn : qs.length = n) (h : Arr S w a (ints qs)) (hs : qs.sum ≤ 12) :
    Calls Try.prog 76 #[.slice a n c] w fun e w' => e = .returned (.int .i64 (ways qs : Nat)) ∧ w = w' := by
  have hsm := h.small
  rw [ints_len, hn] at hsm
  unfold maxLen at hsm
  have HN := Lib.hid hn
  obtain ⟨R, hR⟩ : ∃ R, R = ways qs := ⟨_, rfl⟩
  rw [← hR]
  have HR : Hid (R = cnt 0 qs) := by show _ = _; rw [hR, cnt_ways]
  clear hR hn
  go_enter Try.func76, Try.ntmps76
  go_wp2_with fail
  go_loopw [3, 4, 10] (countRel w qs) (fun _ _ i _ => qs.length - (intOf i).toNat)
  case atStart => exact ⟨0, Nat.zero_le _, rfl, by simp, by simp [cnt], rfl⟩
  case round =>
    obtain ⟨k, hk, rfl, rfl, rfl, rfl⟩ := hrel
    have h' := h
    clear h
    by_cases hlt : k < qs.length
    · have hlt2 := hlt
      rw [HN.out] at hlt2
      obtain ⟨q, hq⟩ : ∃ x, qs[k]? = some x := ⟨_, List.getElem?_eq_getElem hlt⟩
      obtain ⟨b1, o1, rfl, -, q1, hi⟩ := arr_int h' (ints_get hq)
      have HT1 := Lib.hid (take_succ_sum hq)
      have HT2 := Lib.hid (cnt_succ hq)
      have hts := take_sum_le qs (k + 1)
      rw [HT1.out] at hts
      have HB : Hid (∀ j, (qs.take k).sum + j ≤ 12 → cnt 0 (qs.take k) * pas (qs.take k).sum j ≤ 479001600) := fun j hj => cnt_part _ j hj
      clear h' hq
      obtain ⟨P, hP⟩ : ∃ P, cnt 0 (qs.take k) = P := ⟨_, rfl⟩
      obtain ⟨s, hs2⟩ : ∃ s, (qs.take k).sum = s := ⟨_, rfl⟩
      rw [hP, hs2] at HT2
      rw [hs2] at HT1 hts
      rw [hP, hs2] at HB
      rw [hP, hs2]
      clear hP hs2
      go_wp2_with fail
      obtain ⟨wo, rfl⟩ : ∃ wo : World, wo = w := ⟨_, rfl⟩
      go_loopw [3, 4, 7] (inRel wo P s q) (fun _ _ j _ => q + 1 - (intOf j).toNat)
      case atStart => exact ⟨0, Nat.zero_le _, rfl, rfl, by simp [pas], rfl⟩
      case round =>
        obtain ⟨i, hi, rfl, rfl, rfl, rfl⟩ := hrel
        by_cases hq : i + 1 ≤ q
        · have hb0 := HB.out i (by omega)
          have hb1 := HB.out (i + 1) (by omega)
          have HD := Lib.hid (step_div P s i)
          obtain ⟨V, hV⟩ : ∃ V, P * pas s i = V := ⟨_, rfl⟩
          rw [hV] at HD hb0
          rw [hV]
          clear hV
          go_wp2_with fail
          go_roundw
          case rel => exact ⟨i + 1, hq, by go_num, by go_num, by rw [num_step HD.out hb0 hb1 (by omega)], rfl⟩
          case measure => simp [intOf]; omega
        · obtain rfl : i = q := by omega
          have hb0 := HB.out i (by omega)
          rw [← HT2.out] at hb0
          have e2 : P * pas s i = cnt 0 (qs.take (k + 1)) := HT2.out.symm
          have e1 : s + i = (qs.take (k + 1)).sum := HT1.out.symm
          rw [e1, e2]
          clear e1 e2 HB
          go_wp2_with fail
          go_roundw
          case rel => exact ⟨k + 1, hlt, by go_num, rfl, rfl, rfl⟩
          case measure => simp [intOf]; omega
    · have hkn : k = qs.length := by omega
      have hkn2 := hkn
      rw [HN.out] at hkn2
      have HTA : Hid (R = cnt 0 (qs.take k)) := by show _ = _; rw [hkn, List.take_length, HR.out]
      clear hkn h' hlt
      subst hkn2
      go_wp2_with fail
      go_ret
      exact ⟨by rw [HTA.out]; rfl, rfl⟩
end Go.Proofs.Ytfdpannanpipdaa.num
