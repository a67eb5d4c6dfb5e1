/- slices.BinarySearch at ints, in a list that rises: the first place of what is not less, and whether it is there; walked. -/
import Derived.Test.YtffebdngmbbcoaaFuncsG
set_option linter.unusedVariables false
set_option linter.unusedSimpArgs false
namespace Go.Proofs.Ytffebdngmbbcoaa
open Go.Bk Go.RowKit

def firstGe (x : Int) (xs : List Int) : Nat := xs.findIdx fun y => decide (x ≤ y)
theorem firstGe_le (x : Int) (xs : List Int) : firstGe x xs ≤ xs.length := List.findIdx_le_length
theorem firstGe_spec {x : Int} {xs : List Int} (hs : xs.Pairwise (· < ·)) {k : Nat} {y : Int} (hy : xs[k]? = some y) : y < x ↔ k < firstGe x xs := by
  have hk : k < xs.length := (List.getElem?_eq_some_iff.1 hy).1
  have hyk : xs[k] = y := (List.getElem?_eq_some_iff.1 hy).2
  constructor
  · intro h
    refine Nat.lt_of_not_le fun hle => ?_
    have hf : firstGe x xs < xs.length := by omega
    have h1 := List.findIdx_getElem (xs := xs) (p := fun y => decide (x ≤ y)) (w := hf)
    have h2 : x ≤ xs[firstGe x xs] := of_decide_eq_true h1
    by_cases e : firstGe x xs = k
    · rw [← hyk] at h
      simp only [e] at h2
      omega
    · have := List.pairwise_iff_getElem.1 hs (firstGe x xs) k hf hk (by omega)
      omega
  · intro h
    have := List.not_of_lt_findIdx (xs := xs) (p := fun y => decide (x ≤ y)) h
    simp at this
    rw [hyk] at this
    omega
theorem mem_firstGe {x : Int} {xs : List Int} (hs : xs.Pairwise (· < ·)) : x ∈ xs ↔ xs[firstGe x xs]? = some x := by
  constructor
  · intro h
    obtain ⟨k, hk⟩ := List.getElem?_of_mem h
    have h1 : ¬ k < firstGe x xs := fun h => by have := (firstGe_spec hs hk).2 h; omega
    have hk' := (List.getElem?_eq_some_iff.1 hk).1
    have hf : firstGe x xs < xs.length := by omega
    have h2 : xs[firstGe x xs]? = some xs[firstGe x xs] := List.getElem?_eq_getElem hf
    have h3 : ¬ xs[firstGe x xs] < x := fun h => by have := (firstGe_spec hs h2).1 h; omega
    by_cases e : firstGe x xs = k
    · rw [e]; exact hk
    · have := List.pairwise_iff_getElem.1 hs (firstGe x xs) k hf hk' (by omega)
      have := (List.getElem?_eq_some_iff.1 hk).2
      omega
  · exact List.mem_of_getElem?
def bsRel (w : World) (x : Int) (xs : List Int) (n : Nat) (i j h : Value) (w' : World) : Prop :=
  ∃ p q : Nat, p ≤ q ∧ q ≤ n ∧ p ≤ firstGe x xs ∧ firstGe x xs ≤ q ∧ i = .int .i64 p ∧ j = .int .i64 q ∧ w = w'
theorem get_lt' {α : Type} {l : List α} {n k : Nat} (hn : l.length = n) (h : k < n) : ∃ x, l[k]? = some x := ⟨_, List.getElem?_eq_getElem (by omega)⟩
set_option maxRecDepth 100000 in
set_option maxHeartbeats 1000000 in
theorem bsearch_any {S : Nat → Prop} {w : World} {a : Option Addr} {c n : Nat} {xs : List Int} {x : Int} (hn : xs.length = n) (h : Arr S w a xs) (hs : xs.Pairwise (· < ·)) :
    Calls Try.prog 36 #[.slice a n c, .int .i64 x] w fun e w' => e = .returned (.tuple #[.int .i64 (firstGe x xs : Nat), .bool (decide (x ∈ xs))]) ∧ w = w' := by
  have hsm := h.small
  rw [hn] at hsm
  unfold maxLen at hsm
  have HN := Lib.hid hn
  have HS : Hid (∀ (k : Nat) (y : Int), xs[k]? = some y → (y < x ↔ k < firstGe x xs)) := fun k y hy => firstGe_spec hs hy
  have HMM := Lib.hid (mem_firstGe (x := x) hs)
  have hcl := firstGe_le x xs
  rw [hn] at hcl
  obtain ⟨C, hC⟩ : ∃ C, firstGe x xs = C := ⟨_, rfl⟩
  rw [hC] at hcl HS HMM ⊢
  have HC := Lib.hid hC
  clear hC hn hs
  go_enter Try.func36, Try.ntmps36
  go_wp2_with fail
  go_loopw [7, 8, 9] (bsRel w x xs n) (fun i j _ _ => (intOf j).toNat - (intOf i).toNat)
  case atStart => exact ⟨0, n, Nat.zero_le _, Nat.le_refl _, Nat.zero_le _, by rw [HC.out]; exact hcl, rfl, rfl, rfl⟩
  case round =>
    obtain ⟨p, q, hpq, hqn, hpc, hcq, rfl, rfl, rfl⟩ := hrel
    rw [HC.out] at hpc hcq
    by_cases hlt : p < q
    · obtain ⟨m, hm⟩ : ∃ m, (p + q) / 2 = m := ⟨_, rfl⟩
      have hmp : p ≤ m ∧ m < q := by omega
      have hmq : m < n := by omega
      obtain ⟨y, hy⟩ := get_lt' HN.out hmq
      obtain ⟨b, off, rfl, -, q1, hyi⟩ := arr_int h hy
      have hsp := HS.out m y hy
      clear h
      have hu1 : IntKind.u64.wrap (wrap64 ((p : Int) + (q : Int))) / 2 = ((m : Nat) : Int) := by
        unfold wrap64
        simp [IntKind.wrap, IntKind.bits, IntKind.signed]
        omega
      have HY := Lib.hid hy
      clear hy hm
      by_cases hyx : y < x
      · have hdy : decide (y < x) = true := by simp [hyx]
        have hmc := hsp.1 hyx
        clear hsp hyx
        go_wp2
        refine ⟨⟨m + 1, q, by omega, hqn, by rw [HC.out]; omega, by rw [HC.out]; exact hcq, by first | rfl | (congr 1; done) | (congr 1; omega), rfl, rfl⟩, ?_⟩
        simp [intOf]; omega
      · have hdy : decide (y < x) = false := by simpa using hyx
        have hmc : ¬ m < C := fun h => hyx (hsp.2 h)
        clear hsp hyx
        go_wp2
        refine ⟨⟨p, m, by omega, by omega, by rw [HC.out]; exact hpc, by rw [HC.out]; omega, rfl, by first | rfl | (congr 1; done) | (congr 1; omega), rfl⟩, ?_⟩
        simp [intOf]; omega
    · obtain rfl : p = q := by omega
      obtain rfl : p = C := by omega
      clear hlt
      by_cases hpn : p < n
      · have hdn : decide ((p : Int) < (n : Int)) = true := by simp; omega
        obtain ⟨y, hy⟩ := get_lt' HN.out hpn
        obtain ⟨b, off, rfl, -, q1, hyi⟩ := arr_int h hy
        have HY := Lib.hid hy
        clear h hy
        by_cases he : y = x
        · subst he
          have hye : (y == y) = true := by simp
          have HD : Hid (decide (y ∈ xs) = true) := decide_eq_true (List.mem_of_getElem? HY.out)
          go_wp2
          go_ret2
          exact ⟨by rw [HD.out]; rfl, rfl⟩
        · have hye : (y == x) = false := by simpa using he
          have HD : Hid (decide (x ∈ xs) = false) := decide_eq_false (fun hm => by
            have h1 := HMM.out.1 hm
            rw [HY.out] at h1
            exact he (Option.some.inj h1))
          clear he
          go_wp2
          go_ret2
          exact ⟨by rw [HD.out]; rfl, rfl⟩
      · obtain rfl : p = n := by omega
        have HD : Hid (decide (x ∈ xs) = false) := decide_eq_false (fun hm => by
          have h1 := (List.getElem?_eq_some_iff.1 (HMM.out.1 hm)).1
          rw [HN.out] at h1
          omega)
        clear hpn
        go_wp2
        go_ret2
        exact ⟨by rw [HD.out]; rfl, rfl⟩
end Go.Proofs.Ytffebdngmbbcoaa
