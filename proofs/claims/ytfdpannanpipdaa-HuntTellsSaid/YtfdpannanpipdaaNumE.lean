/- Max at ints, and Count, walked. -/
import Derived.Test.YtfdpannanpipdaaNumD
import Derived.Test.YtfdpannanpipdaaAppKeep
set_option linter.unusedVariables false
set_option linter.unusedSimpArgs false
namespace Go.Proofs.Ytfdpannanpipdaa.num
open Go.Bk Go.RowKit

def maxI (l : List Int) : Int := l.foldl max 0
theorem maxI_succ {l : List Int} {k : Nat} {x : Int} (h : l[k]? = some x) : maxI (l.take (k + 1)) = max (maxI (l.take k)) x := by
  unfold maxI
  rw [List.take_add_one, h]
  simp
theorem foldMax (qs : List Nat) : ∀ m : Int, 0 ≤ m → (0 ≤ (ints qs).foldl max m) ∧ ((ints qs).foldl max m ≤ 0 ↔ m ≤ 0 ∧ qs.sum = 0) := by
  induction qs with
  | nil => intro m h; simpa [ints] using h
  | cons q qs ih =>
    intro m h
    have := ih (max m (q : Int)) (by omega)
    refine ⟨this.1, ?_⟩
    show (ints qs).foldl max (max m (q : Int)) ≤ 0 ↔ m ≤ 0 ∧ q + qs.sum = 0
    rw [this.2]
    omega
/-- What Max tells of what is left and a 0. -/
theorem maxI_left (qs : List Nat) : maxI (ints qs ++ [0]) ≤ 0 ↔ qs.sum = 0 := by
  unfold maxI
  rw [List.foldl_append]
  have := foldMax qs 0 (by omega)
  show max ((ints qs).foldl max 0) 0 ≤ 0 ↔ _
  omega
def maxRel (w : World) (l : List Int) (m i : Value) (w' : World) : Prop :=
  ∃ k : Nat, 1 ≤ k ∧ k ≤ l.length ∧ i = .int .i64 k ∧ m = .int .i64 (maxI (l.take k)) ∧ w = w'

set_option maxRecDepth 100000 in
set_option maxHeartbeats 1000000 in
theorem max_any {S : Nat → Prop} {w : World} {a : Option Addr} {c n : Nat} {l : List Int} (hn : l.length = n) (h : Arr S w a l) (h1 : 1 ≤ n) (hnn : ∀ x ∈ l, 0 ≤ x) :
    Calls Try.prog 78 #[.slice a n c] w fun e w' => e = .returned (.int .i64 (maxI l)) ∧ w = w' := by
  have hsm := h.small
  rw [hn] at hsm
  unfold maxLen at hsm
  have HN := Lib.hid hn
  have HNN := Lib.hid hnn
  obtain ⟨R, hR⟩ : ∃ R, R = maxI l := ⟨_, rfl⟩
  rw [← hR]
  have HR := Lib.hid hR
  clear hR hnn
  obtain ⟨x0, hx0⟩ : ∃ x, l[0]? = some x := ⟨_, List.getElem?_eq_getElem (by omega)⟩
  obtain ⟨b0, o0, rfl, -, q0, -⟩ := arr_int h hx0
  rw [Nat.add_zero] at q0
  have HX0 : Hid (maxI (l.take 1) = x0) := by
    have := maxI_succ hx0
    have h0 := HNN.out x0 (List.mem_of_getElem? hx0)
    show _ = _
    rw [this]
    simp [maxI]
    omega
  clear hn hx0
  go_enter Try.func78, Try.ntmps78
  go_wp2_with fail
  go_loopw [3, 4] (maxRel w l) (fun _ i _ => l.length - (intOf i).toNat)
  case atStart => exact ⟨1, Nat.le_refl _, by rw [HN.out]; exact h1, rfl, by rw [HX0.out], rfl⟩
  case round =>
    obtain ⟨k, hk1, hk, rfl, rfl, rfl⟩ := hrel
    by_cases hlt : k < l.length
    · have hlt2 := hlt
      rw [HN.out] at hlt2
      obtain ⟨x, hx⟩ : ∃ x, l[k]? = some x := ⟨_, List.getElem?_eq_getElem hlt⟩
      obtain ⟨b1, o1, he, -, q1, hi⟩ := arr_int h hx
      obtain ⟨rfl, rfl⟩ : b0 = b1 ∧ o0 = o1 := by simpa using he
      have HT := Lib.hid (maxI_succ hx)
      obtain ⟨M, hM⟩ : ∃ M, maxI (l.take k) = M := ⟨_, rfl⟩
      rw [hM] at HT
      rw [hM]
      clear he hx hM
      by_cases hc : M < x
      · have hm : max M x = x := by omega
        rw [hm] at HT
        go_wp2_with fail
        go_roundw
        case rel => exact ⟨k + 1, by omega, hlt, by go_num, by rw [HT.out], rfl⟩
        case measure => simp [intOf]; omega
      · have hm : max M x = M := by omega
        rw [hm] at HT
        go_wp2_with fail
        go_roundw
        case rel => exact ⟨k + 1, by omega, hlt, by go_num, by rw [HT.out], rfl⟩
        case measure => simp [intOf]; omega
    · have hkn : k = l.length := by omega
      have hkn2 := hkn
      rw [HN.out] at hkn2
      have HTA : Hid (R = maxI (l.take k)) := by show _ = _; rw [hkn, List.take_length, HR.out]
      clear hkn hlt
      subst hkn2
      go_wp2_with fail
      go_ret
      exact ⟨by rw [HTA.out]; rfl, rfl⟩

/-- What Count tells. -/
def countOf (l : List Int) : Int × Int := if perr l = 0 then (((ways (l.map Int.toNat) : Nat) : Int), 0) else (0, perr l)
theorem toNats (qs : List Nat) : (ints qs).map Int.toNat = qs := by
  unfold ints
  rw [List.map_map]
  exact (List.map_congr_left (fun q _ => rfl)).trans (List.map_id _)

set_option maxRecDepth 100000 in
set_option maxHeartbeats 1000000 in
theorem Count_any {S : Nat → Prop} {w : World} {a : Option Addr} {c n : Nat} {l : List Int} (hn : l.length = n) (h : Arr S w a l) :
    Calls Try.prog 25 #[.slice a n c] w fun e w' => e = .returned (.tuple #[.int .i64 (countOf l).1, .int .i64 (countOf l).2]) ∧ w = w' := by
  have HRI := Lib.hid (right_any (c := c) hn h)
  obtain ⟨R, hR⟩ : ∃ R, R = countOf l := ⟨_, rfl⟩
  rw [← hR]
  by_cases h0 : perr l = 0
  · have HR : Hid (R = (((ways (l.map Int.toNat) : Nat) : Int), 0)) := by show _ = _; rw [hR]; unfold countOf; rw [if_pos h0]
    obtain ⟨qs, rfl, h8, h12⟩ := perr_zero h0
    rw [h0] at HRI
    rw [toNats] at HR
    rw [ints_len] at hn
    have HC := Lib.hid (count_any (c := c) hn h h12)
    clear h0 hR h hn
    go_enter Try.func25, Try.ntmps25
    go_wp2_with fail
    refine HRI.out.mono ?_
    rintro e w' ⟨rfl, rfl⟩
    go_wp2_with fail
    refine HC.out.mono ?_
    rintro e w' ⟨rfl, rfl⟩
    go_wp2_with fail
    go_ret2
    exact ⟨by rw [HR.out]; rfl, rfl⟩
  · have HR : Hid (R = (0, perr l)) := by show _ = _; rw [hR]; unfold countOf; rw [if_neg h0]
    have hd : decide (perr l = 0) = false := decide_eq_false h0
    obtain ⟨E, hE⟩ : ∃ E, perr l = E := ⟨_, rfl⟩
    rw [hE] at HRI HR hd h0
    clear hR h hn hE
    go_enter Try.func25, Try.ntmps25
    go_wp2_with fail
    refine HRI.out.mono ?_
    rintro e w' ⟨rfl, rfl⟩
    go_wp2_with fail
    go_ret2
    exact ⟨by rw [HR.out]; rfl, rfl⟩
end Go.Proofs.Ytfdpannanpipdaa.num
