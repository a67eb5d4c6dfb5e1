/- Interleavings, counted: plain. No program is named here. -/
import Derived.Test.YtfdpannanpipdaaLib
set_option linter.unusedVariables false
set_option linter.unusedSimpArgs false
namespace Go.Proofs.Ytfdpannanpipdaa.num
open Go.Bk

def fac : Nat → Nat
  | 0 => 1
  | n + 1 => fac n * (n + 1)
theorem fac_pos : ∀ n, 0 < fac n
  | 0 => Nat.one_pos
  | n + 1 => Nat.mul_pos (fac_pos n) (Nat.succ_pos n)
theorem fac_mono {m n : Nat} (h : m ≤ n) : fac m ≤ fac n := by
  induction n with
  | zero => obtain rfl : m = 0 := by omega
            exact Nat.le_refl _
  | succ n ih =>
    rcases Nat.lt_or_ge n m with hn | hn
    · obtain rfl : m = n + 1 := by omega
      exact Nat.le_refl _
    · exact Nat.le_trans (ih hn) (Nat.le_mul_of_pos_right _ (Nat.succ_pos n))
/-- How many ways k steps stand among m others. -/
def pas : Nat → Nat → Nat
  | _, 0 => 1
  | 0, _ + 1 => 1
  | m + 1, k + 1 => pas m (k + 1) + pas (m + 1) k
theorem pas_fac : ∀ m k, pas m k * fac k * fac m = fac (m + k)
  | m, 0 => by simp [pas, fac]
  | 0, k + 1 => by simp [pas, fac]
  | m + 1, k + 1 => by
    have h1 := pas_fac m (k + 1)
    have h2 := pas_fac (m + 1) k
    have e1 : pas (m + 1) (k + 1) * fac (k + 1) * fac (m + 1) = (pas m (k + 1) * fac (k + 1) * fac m) * (m + 1) + (pas (m + 1) k * fac k * fac (m + 1)) * (k + 1) := by
      rw [show pas (m + 1) (k + 1) = pas m (k + 1) + pas (m + 1) k from by rw [pas], Nat.add_mul, Nat.add_mul]
      congr 1
      · show _ * (fac m * (m + 1)) = _
        rw [Nat.mul_assoc (pas m (k + 1) * fac (k + 1))]
      · show pas (m + 1) k * (fac k * (k + 1)) * fac (m + 1) = _
        rw [← Nat.mul_assoc (pas (m + 1) k), Nat.mul_right_comm]
    rw [e1, h1, h2, show m + (k + 1) = m + k + 1 by omega, show m + 1 + k = m + k + 1 by omega, ← Nat.mul_add, show m + 1 + (k + 1) = (m + k + 1) + 1 by omega]
    rfl
theorem pas_step (m k : Nat) : pas m k * (m + k + 1) = pas m (k + 1) * (k + 1) := by
  have h1 := pas_fac m k
  have h2 := pas_fac m (k + 1)
  have hp : 0 < fac k * fac m := Nat.mul_pos (fac_pos _) (fac_pos _)
  refine Nat.eq_of_mul_eq_mul_right hp ?_
  have e1 : pas m k * (m + k + 1) * (fac k * fac m) = (pas m k * fac k * fac m) * (m + k + 1) := by
    rw [Nat.mul_right_comm, ← Nat.mul_assoc]
  have e2 : pas m (k + 1) * (k + 1) * (fac k * fac m) = pas m (k + 1) * fac (k + 1) * fac m := by
    show _ = pas m (k + 1) * (fac k * (k + 1)) * fac m
    rw [Nat.mul_assoc, ← Nat.mul_assoc (k + 1), Nat.mul_comm (k + 1) (fac k), ← Nat.mul_assoc]
  rw [e1, e2, h1, h2]
  rfl
theorem pas_pos (m k : Nat) : 0 < pas m k := by
  have := pas_fac m k
  rcases Nat.eq_zero_or_pos (pas m k) with h | h
  · rw [h] at this
    simp at this
    have := fac_pos (m + k)
    omega
  · exact h
theorem step_div (o m k : Nat) : o * pas m k * (m + k + 1) / (k + 1) = o * pas m (k + 1) := by
  rw [Nat.mul_assoc, pas_step, ← Nat.mul_assoc]
  exact Nat.mul_div_cancel _ (Nat.succ_pos k)
def facs : List Nat → Nat
  | [] => 1
  | q :: qs => fac q * facs qs
theorem facs_pos : ∀ qs, 0 < facs qs
  | [] => Nat.one_pos
  | q :: qs => Nat.mul_pos (fac_pos q) (facs_pos qs)
def ways : List Nat → Nat
  | [] => 1
  | q :: qs => pas qs.sum q * ways qs
theorem ways_facs : ∀ qs, ways qs * facs qs = fac qs.sum
  | [] => rfl
  | q :: qs => by
    have ih := ways_facs qs
    show pas qs.sum q * ways qs * (fac q * facs qs) = fac (q + qs.sum)
    rw [Nat.add_comm, ← pas_fac qs.sum q, ← ih, Nat.mul_assoc, ← Nat.mul_assoc (ways qs), Nat.mul_comm (ways qs) (fac q), Nat.mul_assoc (fac q), ← Nat.mul_assoc]
theorem ways_pos (qs : List Nat) : 0 < ways qs := by
  have := ways_facs qs
  rcases Nat.eq_zero_or_pos (ways qs) with h | h
  · rw [h] at this
    simp at this
    have := fac_pos qs.sum
    omega
  · exact h
theorem ways_le (qs : List Nat) : ways qs ≤ fac qs.sum := by
  rw [← ways_facs]
  exact Nat.le_mul_of_pos_right _ (facs_pos qs)
/-- What is counted behind s steps. -/
def cnt (s : Nat) : List Nat → Nat
  | [] => 1
  | q :: qs => pas s q * cnt (s + q) qs
theorem cnt_facs : ∀ (qs : List Nat) (s : Nat), cnt s qs * facs qs * fac s = fac (s + qs.sum)
  | [], s => by simp [cnt, facs]
  | q :: qs, s => by
    have ih := cnt_facs qs (s + q)
    show pas s q * cnt (s + q) qs * (fac q * facs qs) * fac s = fac (s + (q + qs.sum))
    rw [← Nat.add_assoc, ← ih, ← pas_fac s q]
    generalize pas s q = A
    generalize cnt (s + q) qs = B
    generalize fac q = C
    generalize facs qs = D
    generalize fac s = E
    rw [Nat.mul_right_comm A B, ← Nat.mul_assoc A C D]
    rw [Nat.mul_right_comm (A * C) D B, Nat.mul_assoc (A * C) B D, Nat.mul_comm (A * C) (B * D), Nat.mul_assoc (B * D)]
theorem cnt_ways (qs : List Nat) : cnt 0 qs = ways qs := by
  have h1 := cnt_facs qs 0
  have h2 := ways_facs qs
  rw [Nat.zero_add, ← h2] at h1
  simp only [fac, Nat.mul_one] at h1
  exact Nat.eq_of_mul_eq_mul_right (facs_pos qs) h1
theorem cnt_append : ∀ (xs ys : List Nat) (s : Nat), cnt s (xs ++ ys) = cnt s xs * cnt (s + xs.sum) ys
  | [], ys, s => by simp [cnt]
  | x :: xs, ys, s => by
    show pas s x * cnt (s + x) (xs ++ ys) = pas s x * cnt (s + x) xs * cnt (s + (x + xs.sum)) ys
    rw [cnt_append xs ys (s + x), Nat.mul_assoc, Nat.add_assoc]

/-! ### One step less -/
def dec (qs : List Nat) (k : Nat) : List Nat := qs.set k (qs.getD k 0 - 1)
def wo (qs : List Nat) (k : Nat) : Nat := if qs.getD k 0 = 0 then 0 else ways (dec qs k)
def pre (qs : List Nat) : Nat → Nat
  | 0 => 0
  | k + 1 => pre qs k + wo qs k
theorem dec_len (qs : List Nat) (k : Nat) : (dec qs k).length = qs.length := by simp [dec]
theorem dec_sum : ∀ (qs : List Nat) (k : Nat), qs.getD k 0 ≠ 0 → (dec qs k).sum + 1 = qs.sum
  | [], k, h => by simp at h
  | q :: qs, 0, h => by
    have : q ≠ 0 := h
    show (q - 1) + qs.sum + 1 = q + qs.sum
    omega
  | q :: qs, k + 1, h => by
    have := dec_sum qs k h
    show q + (dec qs k).sum + 1 = q + qs.sum
    omega
theorem dec_facs : ∀ (qs : List Nat) (k : Nat), qs.getD k 0 ≠ 0 → facs (dec qs k) * qs.getD k 0 = facs qs
  | [], k, h => by simp at h
  | q :: qs, 0, h => by
    obtain ⟨p, rfl⟩ : ∃ p, q = p + 1 := ⟨q - 1, by have : q ≠ 0 := h; omega⟩
    show fac p * facs qs * (p + 1) = fac p * (p + 1) * facs qs
    rw [Nat.mul_right_comm]
  | q :: qs, k + 1, h => by
    have := dec_facs qs k h
    show fac q * facs (dec qs k) * qs.getD k 0 = fac q * facs qs
    rw [Nat.mul_assoc, this]
theorem wo_facs (qs : List Nat) (k : Nat) : wo qs k * facs qs = fac (qs.sum - 1) * qs.getD k 0 := by
  unfold wo
  split
  · rename_i h
    rw [h]; simp
  · rename_i h
    have h1 := dec_facs qs k h
    have h2 := ways_facs (dec qs k)
    have h3 := dec_sum qs k h
    rw [← h1, ← Nat.mul_assoc, h2, show qs.sum - 1 = (dec qs k).sum by omega]
theorem sum_take_succ (qs : List Nat) (k : Nat) : (qs.take (k + 1)).sum = (qs.take k).sum + qs.getD k 0 := by
  rw [List.take_add_one, List.sum_append]
  congr 1
  rw [List.getD_eq_getElem?_getD]
  cases qs[k]? <;> simp
theorem pre_facs (qs : List Nat) : ∀ k, pre qs k * facs qs = fac (qs.sum - 1) * (qs.take k).sum
  | 0 => by simp [pre]
  | k + 1 => by
    show (pre qs k + wo qs k) * facs qs = _
    rw [Nat.add_mul, pre_facs qs k, wo_facs, ← Nat.mul_add, sum_take_succ]
theorem pre_all (qs : List Nat) (h : qs.sum ≠ 0) : pre qs qs.length = ways qs := by
  refine Nat.eq_of_mul_eq_mul_right (facs_pos qs) ?_
  rw [pre_facs, ways_facs, List.take_length]
  obtain ⟨s, hs⟩ : ∃ s, qs.sum = s + 1 := ⟨qs.sum - 1, by omega⟩
  rw [hs]; rfl
theorem pre_le {qs : List Nat} {i k : Nat} (h : i ≤ k) : pre qs i ≤ pre qs k := by
  induction k with
  | zero => obtain rfl : i = 0 := by omega
            exact Nat.le_refl _
  | succ k ih =>
    rcases Nat.lt_or_ge k i with h' | h'
    · obtain rfl : i = k + 1 := by omega
      exact Nat.le_refl _
    · exact Nat.le_trans (ih h') (Nat.le_add_right _ _)
theorem pre_zero {qs : List Nat} (h : qs.sum = 0) (k : Nat) : pre qs k = 0 := by
  have h1 := pre_facs qs k
  have h2 : (qs.take k).sum = 0 := by
    have : (qs.take k).sum + (qs.drop k).sum = qs.sum := by rw [← List.sum_append, List.take_append_drop]
    omega
  rw [h2, Nat.mul_zero] at h1
  rcases Nat.mul_eq_zero.1 h1 with h | h
  · exact h
  · have := facs_pos qs; omega
theorem pre_le_ways (qs : List Nat) {k : Nat} (hk : k ≤ qs.length) : pre qs k ≤ ways qs := by
  by_cases h : qs.sum = 0
  · rw [pre_zero h]; exact Nat.zero_le _
  · rw [← pre_all qs h]; exact pre_le hk
theorem sum_zero_iff (qs : List Nat) : qs.sum = 0 ↔ ∀ k, qs.getD k 0 = 0 := by
  constructor
  · intro h k
    have h1 : (qs.take (k + 1)).sum + (qs.drop (k + 1)).sum = qs.sum := by rw [← List.sum_append, List.take_append_drop]
    rw [sum_take_succ] at h1
    omega
  · intro h
    have : ∀ k, (qs.take k).sum = 0 := by
      intro k
      induction k with
      | zero => simp
      | succ k ih => rw [sum_take_succ, ih, h k]
    have := this qs.length
    rwa [List.take_length] at this

/-! ### The n-th, and the rank -/
def IsSel (qs : List Nat) (n k : Nat) : Prop := pre qs k ≤ n ∧ n < pre qs (k + 1)
theorem IsSel.unique {qs : List Nat} {n k1 k2 : Nat} (h1 : IsSel qs n k1) (h2 : IsSel qs n k2) : k1 = k2 := by
  rcases Nat.lt_trichotomy k1 k2 with h | h | h
  · have := pre_le (qs := qs) (show k1 + 1 ≤ k2 from h)
    have := h1.2; have := h2.1; omega
  · exact h
  · have := pre_le (qs := qs) (show k2 + 1 ≤ k1 from h)
    have := h2.2; have := h1.1; omega
theorem IsSel.pos {qs : List Nat} {n k : Nat} (h : IsSel qs n k) : qs.getD k 0 ≠ 0 := by
  intro h0
  have h1 := h.1
  have h2 : n < pre qs k + wo qs k := h.2
  unfold wo at h2
  rw [if_pos h0] at h2
  omega
theorem IsSel.lt {qs : List Nat} {n k : Nat} (h : IsSel qs n k) : k < qs.length := by
  have := h.pos
  rcases Nat.lt_or_ge k qs.length with hk | hk
  · exact hk
  · rw [List.getD_eq_getElem?_getD, List.getElem?_eq_none hk] at this
    simp at this
theorem IsSel.rest {qs : List Nat} {n k : Nat} (h : IsSel qs n k) : n - pre qs k < ways (dec qs k) := by
  have h1 := h.1
  have h2 : n < pre qs k + wo qs k := h.2
  unfold wo at h2
  rw [if_neg h.pos] at h2
  omega
inductive NthIs : List Nat → Nat → List Nat → Prop
  | done {qs n} : qs.sum = 0 → NthIs qs n []
  | step {qs n k out} : IsSel qs n k → NthIs (dec qs k) (n - pre qs k) out → NthIs qs n (k :: out)
theorem NthIs.unique {qs : List Nat} {n : Nat} {o1 o2 : List Nat} (h1 : NthIs qs n o1) (h2 : NthIs qs n o2) : o1 = o2 := by
  induction h1 generalizing o2 with
  | done h =>
    cases h2 with
    | done _ => rfl
    | step hs _ => exact absurd ((sum_zero_iff _).1 h _) hs.pos
  | step hs _ ih =>
    cases h2 with
    | done h => exact absurd ((sum_zero_iff _).1 h _) hs.pos
    | step hs2 h2 =>
      obtain rfl := hs.unique hs2
      rw [ih h2]
theorem sel_ex {qs : List Nat} {n : Nat} (h : qs.sum ≠ 0) (hn : n < ways qs) : ∃ k, IsSel qs n k := by
  rw [← pre_all qs h] at hn
  have : ∀ m, n < pre qs m → ∃ k, IsSel qs n k := by
    intro m
    induction m with
    | zero => intro h; exact absurd h (Nat.not_lt_zero _)
    | succ m ih =>
      intro h
      rcases Nat.lt_or_ge n (pre qs m) with h' | h'
      · exact ih h'
      · exact ⟨m, h', h⟩
  exact this _ hn
theorem nth_ex : ∀ (s : Nat) (qs : List Nat) (n : Nat), qs.sum = s → n < ways qs → ∃ out, NthIs qs n out
  | 0, qs, n, hs, _ => ⟨[], .done hs⟩
  | s + 1, qs, n, hs, hn => by
    obtain ⟨k, hk⟩ := sel_ex (by omega) hn
    have := dec_sum qs k hk.pos
    obtain ⟨out, ho⟩ := nth_ex s (dec qs k) (n - pre qs k) (by omega) hk.rest
    exact ⟨_, .step hk ho⟩
theorem NthIs.len {qs : List Nat} {n : Nat} {o : List Nat} (h : NthIs qs n o) : o.length = qs.sum := by
  induction h with
  | done h => simp [h]
  | step hs _ ih => have := dec_sum _ _ hs.pos; simp [ih]; omega

/-- The rank of a word, where it is one. -/
def rk : List Nat → List Int → Option Nat
  | qs, [] => if qs.sum = 0 then some 0 else none
  | qs, x :: l => if 0 ≤ x ∧ x < qs.length ∧ qs.getD x.toNat 0 ≠ 0 then (rk (dec qs x.toNat) l).map (· + pre qs x.toNat) else none
theorem rk_len : ∀ (l : List Int) (qs : List Nat) (n : Nat), rk qs l = some n → l.length = qs.sum
  | [], qs, n, h => by
    unfold rk at h
    split at h
    · rename_i h'; simp [h']
    · cases h
  | x :: l, qs, n, h => by
    unfold rk at h
    split at h
    · rename_i h'
      obtain ⟨m, hm, -⟩ := Option.map_eq_some_iff.1 h
      have := rk_len l _ m hm
      have := dec_sum qs _ h'.2.2
      simp; omega
    · cases h
theorem rk_lt : ∀ (l : List Int) (qs : List Nat) (n : Nat), rk qs l = some n → n < ways qs
  | [], qs, n, h => by
    unfold rk at h
    split at h
    · cases h; exact ways_pos _
    · cases h
  | x :: l, qs, n, h => by
    unfold rk at h
    split at h
    · rename_i h'
      obtain ⟨m, hm, rfl⟩ := Option.map_eq_some_iff.1 h
      have h1 := rk_lt l _ m hm
      have hs := dec_sum qs _ h'.2.2
      have h2 := pre_all qs (by omega)
      have h3 := pre_le (qs := qs) (show x.toNat + 1 ≤ qs.length by omega)
      have h4 : pre qs (x.toNat + 1) = pre qs x.toNat + ways (dec qs x.toNat) := by
        show pre qs x.toNat + wo qs x.toNat = _
        unfold wo
        rw [if_neg h'.2.2]
      show m + pre qs x.toNat < _
      omega
    · cases h
theorem fac12 : fac 12 = 479001600 := by decide
theorem ways_small {qs : List Nat} (h : qs.sum ≤ 12) : ways qs ≤ 479001600 := fac12 ▸ Nat.le_trans (ways_le qs) (fac_mono h)

/-! ### What parts may be -/
def perr (l : List Int) : Int := if 8 < l.length then 2 else if ∃ x ∈ l, x < 0 then 1 else if 12 < l.sum then 2 else 0
end Go.Proofs.Ytfdpannanpipdaa.num
