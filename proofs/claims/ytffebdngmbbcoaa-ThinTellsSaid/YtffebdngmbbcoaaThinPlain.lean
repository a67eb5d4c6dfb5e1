/- ThinTells, plain: which places are kept. -/
import Derived.Test.YtffebdngmbbcoaaSrt
set_option linter.unusedVariables false
set_option linter.unusedSimpArgs false
namespace Go.Proofs.Ytffebdngmbbcoaa.thin
open Go.Bk.srt

/-- What the program lays down by the first i powers. -/
def rawTo (n : Nat) : Nat → List Int
  | 0 => [0, (n : Int)]
  | i + 1 => rawTo n i ++ [((n - n % 2 ^ i : Nat) : Int), ((n - n % 2 ^ i - 2 ^ i : Nat) : Int)]
theorem rawTo_len (n : Nat) : ∀ i, (rawTo n i).length = 2 + 2 * i
  | 0 => rfl
  | i + 1 => by rw [rawTo, List.length_append, rawTo_len n i]; simp; omega
theorem mem_rawTo {n : Nat} {x : Int} : ∀ {i : Nat}, x ∈ rawTo n i ↔ x = 0 ∨ x = n ∨ ∃ j, j < i ∧ (x = ((n - n % 2 ^ j : Nat) : Int) ∨ x = ((n - n % 2 ^ j - 2 ^ j : Nat) : Int))
  | 0 => by simp [rawTo]
  | i + 1 => by
    rw [rawTo, List.mem_append, mem_rawTo]
    simp only [List.mem_cons, List.not_mem_nil, or_false]
    constructor
    · rintro ((h | h | ⟨j, hj, h⟩) | h)
      · exact .inl h
      · exact .inr (.inl h)
      · exact .inr (.inr ⟨j, by omega, h⟩)
      · exact .inr (.inr ⟨i, by omega, h⟩)
    · rintro (h | h | ⟨j, hj, h⟩)
      · exact .inl (.inl h)
      · exact .inl (.inr (.inl h))
      · by_cases e : j = i
        · subst e; exact .inr h
        · exact .inl (.inr (.inr ⟨j, by omega, h⟩))
/-- By the first i powers: is k one that is kept? -/
def hit (k n j : Nat) : Bool := decide (k % 2 ^ j = 0 ∧ n < k + 2 ^ j + 2 ^ j)
def hitTo (k n : Nat) : Nat → Bool
  | 0 => false
  | i + 1 => hitTo k n i || hit k n i
theorem hitTo_iff {k n : Nat} : ∀ {i : Nat}, hitTo k n i = true ↔ ∃ j, j < i ∧ hit k n j = true
  | 0 => by simp [hitTo]
  | i + 1 => by
    rw [hitTo, Bool.or_eq_true, hitTo_iff]
    constructor
    · rintro (⟨j, hj, h⟩ | h)
      · exact ⟨j, by omega, h⟩
      · exact ⟨i, by omega, h⟩
    · rintro ⟨j, hj, h⟩
      by_cases e : j = i
      · subst e; exact .inr h
      · exact .inl ⟨j, by omega, h⟩
/-- The number of powers of two that do not pass n. -/
def powsTo (n : Nat) : Nat → Nat
  | 0 => 0
  | f + 1 => if 2 ^ powsTo n f ≤ n then powsTo n f + 1 else powsTo n f
def pows (n : Nat) : Nat := powsTo n n
theorem powsTo_le (n : Nat) : ∀ f, ∀ j, j < powsTo n f → 2 ^ j ≤ n
  | 0, j, h => by simp [powsTo] at h
  | f + 1, j, h => by
    rw [powsTo] at h
    split at h
    · rename_i h1
      by_cases e : j = powsTo n f
      · subst e; exact h1
      · exact powsTo_le n f j (by omega)
    · exact powsTo_le n f j h
theorem powsTo_grow (n : Nat) : ∀ f, n < 2 ^ powsTo n f ∨ powsTo n f = f
  | 0 => .inr rfl
  | f + 1 => by
    rw [powsTo]
    rcases powsTo_grow n f with h | h
    · rw [if_neg (by omega)]; exact .inl h
    · split
      · exact .inr (by omega)
      · exact .inl (by omega)
theorem pows_gt (n : Nat) : n < 2 ^ pows n := by
  rcases powsTo_grow n n with h | h
  · exact h
  · unfold pows; rw [h]; exact Nat.lt_two_pow_self
theorem pows_le {n j : Nat} (h : j < pows n) : 2 ^ j ≤ n := powsTo_le n n j h
theorem pows_iff (n j : Nat) : j < pows n ↔ 2 ^ j ≤ n := by
  refine ⟨pows_le, fun h => ?_⟩
  have h1 := pows_gt n
  have h2 : 2 ^ j < 2 ^ pows n := by omega
  exact (Nat.pow_lt_pow_iff_right (by omega)).1 h2
theorem pows_13 {n : Nat} (h : n ≤ 4000) : pows n ≤ 12 := by
  refine Nat.le_of_not_lt fun h1 => ?_
  have := pows_le h1
  omega
def isKept (k n : Nat) : Bool := decide (k = 0 ∨ k = n) || hitTo k n (pows n)
def keptL (n : Nat) : List Int := ((List.range (n + 1)).filter fun k => isKept k n).map fun (k : Nat) => (k : Int)
theorem keptL_sorted (n : Nat) : (keptL n).Pairwise (· < ·) := by
  unfold keptL
  rw [List.pairwise_map]
  refine List.Pairwise.imp (R := fun a b : Nat => a < b) (fun {a b} h => by omega) ?_
  exact List.Pairwise.filter _ List.pairwise_lt_range
theorem mem_keptL {n : Nat} {x : Int} : x ∈ keptL n ↔ ∃ k : Nat, x = k ∧ k ≤ n ∧ isKept k n = true := by
  unfold keptL
  simp only [List.mem_map, List.mem_filter, List.mem_range]
  constructor
  · rintro ⟨k, ⟨h1, h2⟩, rfl⟩; exact ⟨k, rfl, by omega, h2⟩
  · rintro ⟨k, rfl, h1, h2⟩; exact ⟨k, ⟨by omega, h2⟩, rfl⟩
theorem hit_iff {k n j : Nat} (hk : k ≤ n) (hp : 2 ^ j ≤ n) : hit k n j = true ↔ k = n - n % 2 ^ j ∨ k = n - n % 2 ^ j - 2 ^ j := by
  unfold hit
  rw [decide_eq_true_eq]
  obtain ⟨p, hpe⟩ : ∃ p, p = 2 ^ j := ⟨_, rfl⟩
  have hp0 : 0 < p := by rw [hpe]; exact Nat.two_pow_pos j
  rw [← hpe] at hp ⊢
  have h1 := Nat.div_add_mod n p
  have h2 := Nat.mod_lt n hp0
  have h3 := Nat.div_add_mod k p
  obtain ⟨a, ha⟩ : ∃ a, a = n / p := ⟨_, rfl⟩
  obtain ⟨b, hb⟩ : ∃ b, b = k / p := ⟨_, rfl⟩
  rw [← ha] at h1
  rw [← hb] at h3
  have ha1 : 1 ≤ a := by rw [ha]; exact Nat.div_pos hp hp0
  constructor
  · rintro ⟨hk0, hk2⟩
    have hba : b ≤ a := by rw [hb, ha]; exact Nat.div_le_div_right hk
    have hab : a < b + 2 := by
      refine Nat.lt_of_not_le fun h => ?_
      have : p * (b + 2) ≤ p * a := Nat.mul_le_mul_left _ h
      rw [Nat.mul_add] at this
      omega
    have hcase : b = a ∨ b + 1 = a := by omega
    rcases hcase with rfl | rfl
    · left; omega
    · right
      have : p * (b + 1) = p * b + p := Nat.mul_succ _ _
      omega
  · have hm : p * 1 ≤ p * a := Nat.mul_le_mul_left _ ha1
    rintro (h | h)
    · have e : k = p * a := by omega
      refine ⟨by rw [e]; exact Nat.mul_mod_right _ _, by omega⟩
    · have e : k = p * (a - 1) := by
        have : p * (a - 1 + 1) = p * (a - 1) + p := Nat.mul_succ _ _
        rw [show a - 1 + 1 = a by omega] at this
        omega
      refine ⟨by rw [e]; exact Nat.mul_mod_right _ _, by omega⟩
/-- The program's list is the document's. -/
theorem setI_raw (n : Nat) : setI (rawTo n (pows n)) = keptL n := by
  refine setI_eq (keptL_sorted n) fun x => ?_
  rw [mem_rawTo, mem_keptL]
  unfold isKept
  constructor
  · rintro (rfl | rfl | ⟨j, hj, h⟩)
    · exact ⟨0, rfl, by omega, by simp⟩
    · exact ⟨n, rfl, by omega, by simp⟩
    · have hp := pows_le hj
      have hk : ∃ k : Nat, x = k ∧ k ≤ n ∧ (k = n - n % 2 ^ j ∨ k = n - n % 2 ^ j - 2 ^ j) := by
        rcases h with rfl | rfl
        · exact ⟨_, rfl, by omega, .inl rfl⟩
        · exact ⟨_, rfl, by omega, .inr rfl⟩
      obtain ⟨k, rfl, hk, h⟩ := hk
      refine ⟨k, rfl, hk, ?_⟩
      rw [Bool.or_eq_true]
      exact .inr (hitTo_iff.2 ⟨j, hj, (hit_iff hk hp).2 h⟩)
  · rintro ⟨k, rfl, hk, h⟩
    rw [Bool.or_eq_true] at h
    rcases h with h | h
    · rcases of_decide_eq_true h with rfl | rfl
      · exact .inl rfl
      · exact .inr (.inl rfl)
    · obtain ⟨j, hj, h⟩ := hitTo_iff.1 h
      refine .inr (.inr ⟨j, hj, ?_⟩)
      rcases (hit_iff hk (pows_le hj)).1 h with e | e
      · exact .inl (by rw [e])
      · exact .inr (by rw [e])
theorem keptL_len (n : Nat) : (keptL n).length ≤ n + 1 := by
  unfold keptL
  rw [List.length_map]
  exact Nat.le_trans (List.length_filter_le _ _) (by simp)
/-- The document's list, of the first i numbers. -/
def keptTo (n i : Nat) : List Int := ((List.range i).filter fun k => isKept k n).map fun (k : Nat) => (k : Int)
theorem keptTo_succ (n i : Nat) : keptTo n (i + 1) = keptTo n i ++ if isKept i n then [(i : Int)] else [] := by
  unfold keptTo
  rw [List.range_succ, List.filter_append, List.map_append]
  congr 1
  by_cases h : isKept i n <;> simp [h]
theorem keptTo_end (n : Nat) : keptTo n (n + 1) = keptL n := rfl
theorem keptTo_len (n i : Nat) : (keptTo n i).length ≤ i := by
  unfold keptTo
  rw [List.length_map]
  exact Nat.le_trans (List.length_filter_le _ _) (by simp)
end Go.Proofs.Ytffebdngmbbcoaa.thin
