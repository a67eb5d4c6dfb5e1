/- ClocksTell, plain: what is ahead of an event; of each thread how many are. -/
import Derived.Test.YtffebdngmbbcoaaClkPlain
set_option linter.unusedVariables false
set_option linter.unusedSimpArgs false
namespace Go.Proofs.Ytffebdngmbbcoaa.clk
open Go.Bk Go.Proofs.Ytffebdngmbbcoaa.lock

theorem edgeB_lt {l : List Api.Event} {i j : Nat} (h : edgeB l i j = true) : i < j := (edgeB_iff.1 h).1
/-- Does n lead to j, in so many steps (or is it j)? -/
def reach (l : List Api.Event) : Nat → Nat → Nat → Bool
  | 0, j, n => decide (n = j)
  | f + 1, j, n => decide (n = j) || (List.range j).any fun i => edgeB l i j && reach l f i n
theorem reach_stable (l : List Api.Event) (n : Nat) : ∀ B j, j ≤ B → ∀ f g, j ≤ f → j ≤ g → reach l f j n = reach l g j n := by
  intro B
  induction B with
  | zero =>
    intro j hj f g _ _
    obtain rfl : j = 0 := by omega
    have h0 : ∀ f, reach l f 0 n = decide (n = 0) := fun f => by cases f <;> simp [reach]
    rw [h0, h0]
  | succ B ih =>
    intro j hj f g hf hg
    by_cases h0 : j = 0
    · subst h0
      have h0 : ∀ f, reach l f 0 n = decide (n = 0) := fun f => by cases f <;> simp [reach]
      rw [h0, h0]
    · obtain ⟨f, rfl⟩ : ∃ f', f = f' + 1 := ⟨f - 1, by omega⟩
      obtain ⟨g, rfl⟩ : ∃ g', g = g' + 1 := ⟨g - 1, by omega⟩
      rw [reach, reach]
      congr 1
      rw [Bool.eq_iff_iff, List.any_eq_true, List.any_eq_true]
      have key : ∀ i, i ∈ List.range j → reach l f i n = reach l g i n := fun i hi => by
        have := List.mem_range.1 hi
        exact ih i (by omega) f g (by omega) (by omega)
      constructor
      · rintro ⟨i, hi, h⟩; exact ⟨i, hi, by rw [← key i hi]; exact h⟩
      · rintro ⟨i, hi, h⟩; exact ⟨i, hi, by rw [key i hi]; exact h⟩
def past (l : List Api.Event) (j n : Nat) : Bool := reach l j j n
theorem past_iff {l : List Api.Event} {j n : Nat} : past l j n = true ↔ n = j ∨ ∃ i, edgeB l i j = true ∧ past l i n = true := by
  unfold past
  cases j with
  | zero =>
    simp only [reach, decide_eq_true_eq]
    constructor
    · exact .inl
    · rintro (h | ⟨i, h, -⟩)
      · exact h
      · have := edgeB_lt h; omega
  | succ j =>
    rw [reach, Bool.or_eq_true, decide_eq_true_eq, List.any_eq_true]
    refine or_congr Iff.rfl ?_
    constructor
    · rintro ⟨i, hi, h⟩
      rw [Bool.and_eq_true] at h
      have hi := List.mem_range.1 hi
      exact ⟨i, h.1, by rw [reach_stable l n j i (by omega) i j (Nat.le_refl _) (by omega)]; exact h.2⟩
    · rintro ⟨i, h1, h2⟩
      have hi := edgeB_lt h1
      refine ⟨i, List.mem_range.2 hi, ?_⟩
      rw [Bool.and_eq_true]
      exact ⟨h1, by rw [reach_stable l n j i (by omega) j i (by omega) (Nat.le_refl _)]; exact h2⟩
theorem past_refl (l : List Api.Event) (j : Nat) : past l j j = true := past_iff.2 (.inl rfl)
theorem past_le {l : List Api.Event} : ∀ B j n, j ≤ B → past l j n = true → n ≤ j := by
  intro B
  induction B with
  | zero =>
    intro j n hj h
    rcases past_iff.1 h with h | ⟨i, h1, -⟩
    · omega
    · have := edgeB_lt h1; omega
  | succ B ih =>
    intro j n hj h
    rcases past_iff.1 h with h | ⟨i, h1, h2⟩
    · omega
    · have := edgeB_lt h1
      have := ih i n (by omega) h2
      omega
theorem past_trans {l : List Api.Event} {n m : Nat} : ∀ B j, j ≤ B → past l j n = true → past l n m = true → past l j m = true := by
  intro B
  induction B with
  | zero =>
    intro j hj h h2
    rcases past_iff.1 h with h | ⟨i, h1, -⟩
    · subst h; exact h2
    · have := edgeB_lt h1; omega
  | succ B ih =>
    intro j hj h h2
    rcases past_iff.1 h with h | ⟨i, h1, h3⟩
    · subst h; exact h2
    · have := edgeB_lt h1
      exact past_iff.2 (.inr ⟨i, h1, ih i (by omega) h3 h2⟩)
/-- The first step: n itself, or by an edge out of n. -/
theorem past_out {l : List Api.Event} {n : Nat} : ∀ B j, j ≤ B → past l j n = true → n = j ∨ ∃ m, edgeB l n m = true ∧ past l j m = true := by
  intro B
  induction B with
  | zero =>
    intro j hj h
    rcases past_iff.1 h with h | ⟨i, h1, -⟩
    · exact .inl h
    · have := edgeB_lt h1; omega
  | succ B ih =>
    intro j hj h
    rcases past_iff.1 h with h | ⟨i, h1, h3⟩
    · exact .inl h
    · have := edgeB_lt h1
      rcases ih i (by omega) h3 with e | ⟨m, h4, h5⟩
      · subst e; exact .inr ⟨j, h1, past_refl l j⟩
      · exact .inr ⟨m, h4, past_trans j j (Nat.le_refl _) (past_iff.2 (.inr ⟨i, h1, past_refl l i⟩)) h5⟩
/-- Is it an event of the thread? -/
def thr (l : List Api.Event) (t : Int) (n : Nat) : Bool := match l[n]? with | some e => decide (e.Thread = t) | none => false
theorem thr_lt {l : List Api.Event} {t : Int} {n : Nat} (h : thr l t n = true) : n < l.length := by
  unfold thr at h
  split at h
  · rename_i e he; exact (List.getElem?_eq_some_iff.1 he).1
  · cases h
/-- Events of one thread are one behind the other. -/
theorem past_thread {l : List Api.Event} {t : Int} {m : Nat} (hm : thr l t m = true) : ∀ B n, n ≤ B → m ≤ n → thr l t n = true → past l n m = true := by
  intro B
  induction B with
  | zero =>
    intro n hn hmn hn2
    obtain rfl : m = n := by omega
    exact past_refl l m
  | succ B ih =>
    intro n hn hmn hn2
    by_cases e : m = n
    · subst e; exact past_refl l m
    · have hnl := thr_lt hn2
      have hml := thr_lt hm
      obtain ⟨b, hb⟩ : ∃ b, l[n]? = some b := ⟨_, List.getElem?_eq_getElem hnl⟩
      obtain ⟨a, ha⟩ : ∃ a, l[m]? = some a := ⟨_, List.getElem?_eq_getElem hml⟩
      have hbt : b.Thread = t := by unfold thr at hn2; rw [hb] at hn2; exact of_decide_eq_true hn2
      have hat : a.Thread = t := by unfold thr at hm; rw [ha] at hm; exact of_decide_eq_true hm
      cases hl : lastT l n t with
      | none =>
        exfalso
        -- the one at m would be told
        have h1 : ∀ k, m < k → k ≤ n → lastT l k t ≠ none := by
          intro k hk1 hk2
          induction k with
          | zero => omega
          | succ k ihk =>
            obtain ⟨x, hx⟩ : ∃ x, l[k]? = some x := ⟨_, List.getElem?_eq_getElem (by omega)⟩
            unfold lastT
            rw [lastP_succ hx]
            by_cases hxt : x.Thread = t
            · rw [if_pos (decide_eq_true hxt)]; simp
            · rw [if_neg (by simp [hxt])]
              have hmk : m ≠ k := fun e => by subst e; rw [ha] at hx; cases hx; exact hxt hat
              exact ihk (by omega) (by omega)
        exact h1 n (by omega) (Nat.le_refl _) hl
      | some i =>
        have hsp := (lastP_spec (by omega)).1 hl
        obtain ⟨hin, x, hx, hpx, hc⟩ := hsp
        have hxt : x.Thread = t := of_decide_eq_true hpx
        have hmi : m ≤ i := by
          refine Nat.le_of_not_lt fun h => ?_
          have := hc m h (by omega) a ha
          simp [hat] at this
        have hedge : edgeB l i n = true := edgeB_iff.2 ⟨hin, x, b, hx, hb, .inl ⟨by rw [hxt, hbt], by
          intro k h1 h2 e he hh
          have := hc k h1 h2 e he
          exact this (decide_eq_true (by rw [hh, hbt]))⟩⟩
        have hit : thr l t i = true := by unfold thr; rw [hx]; exact decide_eq_true hxt
        exact past_iff.2 (.inr ⟨i, hedge, ih i (by omega) hmi hit⟩)
/-- How many of the first N. -/
def cntP (p : Nat → Bool) : Nat → Nat
  | 0 => 0
  | n + 1 => cntP p n + if p n then 1 else 0
theorem cntP_mono {p q : Nat → Bool} : ∀ {N}, (∀ n, n < N → p n = true → q n = true) → cntP p N ≤ cntP q N
  | 0, _ => Nat.le_refl _
  | N + 1, h => by
    rw [cntP, cntP]
    have ih := cntP_mono (N := N) fun n hn => h n (by omega)
    by_cases hp : p N = true
    · rw [if_pos hp, if_pos (h N (by omega) hp)]; omega
    · rw [if_neg hp]; omega
theorem cntP_grow (p : Nat → Bool) {M : Nat} : ∀ {N}, M ≤ N → cntP p M ≤ cntP p N
  | 0, h => by obtain rfl : M = 0 := by omega
               exact Nat.le_refl _
  | N + 1, h => by
    by_cases e : M = N + 1
    · subst e; exact Nat.le_refl _
    · have := cntP_grow p (M := M) (N := N) (by omega)
      rw [cntP]; omega
theorem cntP_congr {p q : Nat → Bool} : ∀ {N}, (∀ n, n < N → p n = q n) → cntP p N = cntP q N
  | 0, _ => rfl
  | N + 1, h => by rw [cntP, cntP, cntP_congr (N := N) fun n hn => h n (by omega), h N (by omega)]
theorem cntP_cut {p q : Nat → Bool} {n : Nat} : ∀ {N}, (∀ m, m < N → p m = true → q m = true ∧ m < n) → cntP p N ≤ cntP q n
  | 0, _ => Nat.zero_le _
  | N + 1, h => by
    rw [cntP]
    by_cases hN : N < n
    · have ih := cntP_mono (p := p) (q := q) (N := N) fun m hm hp => (h m (by omega) hp).1
      have h1 := cntP_grow q (M := N + 1) (N := n) (by omega)
      rw [cntP] at h1
      by_cases hp : p N = true
      · rw [if_pos (h N (by omega) hp).1] at h1; rw [if_pos hp]; omega
      · rw [if_neg hp]
        have : 0 ≤ (if q N then 1 else 0) := Nat.zero_le _
        omega
    · have ih := cntP_cut (p := p) (q := q) (n := n) (N := N) fun m hm hp => h m (by omega) hp
      have hp : ¬ p N = true := fun hp => hN (h N (by omega) hp).2
      rw [if_neg hp]; omega
theorem cntP_le (p : Nat → Bool) : ∀ N, cntP p N ≤ N
  | 0 => Nat.le_refl _
  | N + 1 => by rw [cntP]; have := cntP_le p N; split <;> omega
/-- Of a thread how many events are ahead of j, itself among them. -/
def inT (l : List Api.Event) (j : Nat) (t : Int) (n : Nat) : Bool := past l j n && thr l t n
def cnt (l : List Api.Event) (j : Nat) (t : Int) : Nat := cntP (inT l j t) (j + 1)
theorem inT_down {l : List Api.Event} {j n m : Nat} {t : Int} (h : inT l j t n = true) (hm : thr l t m = true) (hmn : m ≤ n) : inT l j t m = true := by
  unfold inT at *
  rw [Bool.and_eq_true] at *
  exact ⟨past_trans j j (Nat.le_refl _) h.1 (past_thread hm n n (Nat.le_refl _) hmn h.2), hm⟩
theorem inT_iff {l : List Api.Event} {j n : Nat} {t : Int} (hn : thr l t n = true) : inT l j t n = true ↔ cntP (thr l t) n < cnt l j t := by
  unfold cnt
  constructor
  · intro h
    have hnj : n ≤ j := past_le j j n (Nat.le_refl _) (by unfold inT at h; rw [Bool.and_eq_true] at h; exact h.1)
    have h1 := cntP_grow (inT l j t) (M := n + 1) (N := j + 1) (by omega)
    have h2 := cntP_mono (p := thr l t) (q := inT l j t) (N := n + 1) fun m hm hp => inT_down h hp (by omega)
    rw [cntP, if_pos hn] at h2
    omega
  · intro h
    refine Classical.byContradiction fun hno => ?_
    have h1 := cntP_cut (p := inT l j t) (q := thr l t) (n := n) (N := j + 1) fun m _ hp => by
      have ht : thr l t m = true := by unfold inT at hp; rw [Bool.and_eq_true] at hp; exact hp.2
      refine ⟨ht, ?_⟩
      exact Nat.lt_of_not_le fun hle => hno (inT_down hp hn hle)
    omega
/-- The greatest of those that lead there, of the first i. -/
def mx (l : List Api.Event) (j : Nat) (t : Int) : Nat → Nat
  | 0 => 0
  | i + 1 => if edgeB l i j then max (mx l j t i) (cnt l i t) else mx l j t i
theorem lt_mx {l : List Api.Event} {j : Nat} {t : Int} {x : Nat} : ∀ {N}, x < mx l j t N ↔ ∃ i, i < N ∧ edgeB l i j = true ∧ x < cnt l i t
  | 0 => by simp [mx]
  | N + 1 => by
    rw [mx]
    have ih := lt_mx (l := l) (j := j) (t := t) (x := x) (N := N)
    by_cases he : edgeB l N j = true
    · rw [if_pos he]
      constructor
      · intro h
        by_cases h1 : x < mx l j t N
        · obtain ⟨i, hi, h2⟩ := ih.1 h1
          exact ⟨i, by omega, h2⟩
        · exact ⟨N, by omega, he, by omega⟩
      · rintro ⟨i, hi, h2, h3⟩
        by_cases e : i = N
        · subst e; omega
        · have := ih.2 ⟨i, by omega, h2, h3⟩; omega
    · rw [if_neg he]
      constructor
      · intro h
        obtain ⟨i, hi, h2⟩ := ih.1 h
        exact ⟨i, by omega, h2⟩
      · rintro ⟨i, hi, h2, h3⟩
        by_cases e : i = N
        · subst e; exact absurd h2 he
        · exact ih.2 ⟨i, by omega, h2, h3⟩
theorem cntP_rank (l : List Api.Event) (t : Int) (M : Nat) : ∀ N, cntP (fun m => thr l t m && decide (cntP (thr l t) m < M)) N = min M (cntP (thr l t) N)
  | 0 => by simp [cntP]
  | N + 1 => by
    rw [cntP, cntP_rank l t M N, cntP]
    by_cases ht : thr l t N = true
    · rw [if_pos ht]
      by_cases hM : cntP (thr l t) N < M
      · rw [if_pos (by rw [ht, decide_eq_true hM]; rfl)]; omega
      · rw [if_neg (by rw [ht, decide_eq_false hM]; simp)]; omega
    · rw [if_neg ht, if_neg (by simp [ht])]; omega
theorem mx_le {l : List Api.Event} {j : Nat} {t : Int} : ∀ {N}, N ≤ j → mx l j t N ≤ cntP (thr l t) j
  | 0, _ => Nat.zero_le _
  | N + 1, h => by
    rw [mx]
    have ih := mx_le (l := l) (j := j) (t := t) (N := N) (by omega)
    have h1 : cnt l N t ≤ cntP (thr l t) j := by
      unfold cnt
      have h2 := cntP_mono (p := inT l N t) (q := thr l t) (N := N + 1) fun m _ hp => by unfold inT at hp; rw [Bool.and_eq_true] at hp; exact hp.2
      have h3 := cntP_grow (thr l t) (M := N + 1) (N := j) h
      omega
    split <;> omega
/-- The program's way to it. -/
theorem cnt_mx (l : List Api.Event) (j : Nat) (t : Int) : cnt l j t = mx l j t j + if thr l t j then 1 else 0 := by
  have h1 : cnt l j t = cntP (inT l j t) j + if inT l j t j then 1 else 0 := rfl
  have h2 : inT l j t j = thr l t j := by unfold inT; rw [past_refl]; rfl
  rw [h1, h2]
  congr 1
  have h3 : cntP (inT l j t) j = cntP (fun m => thr l t m && decide (cntP (thr l t) m < mx l j t j)) j := by
    refine cntP_congr fun m hm => ?_
    rw [Bool.eq_iff_iff, Bool.and_eq_true, decide_eq_true_eq, lt_mx]
    unfold inT
    rw [Bool.and_eq_true]
    constructor
    · rintro ⟨hp, ht⟩
      refine ⟨ht, ?_⟩
      rcases past_iff.1 hp with e | ⟨i, hi, hpi⟩
      · omega
      · exact ⟨i, edgeB_lt hi, hi, (inT_iff ht).1 (by unfold inT; rw [hpi, ht]; rfl)⟩
    · rintro ⟨ht, i, hij, hi, hlt⟩
      refine ⟨?_, ht⟩
      have := (inT_iff ht).2 hlt
      unfold inT at this
      rw [Bool.and_eq_true] at this
      exact past_iff.2 (.inr ⟨i, hi, this.1⟩)
  rw [h3, cntP_rank]
  have := mx_le (l := l) (j := j) (t := t) (N := j) (Nat.le_refl _)
  omega
theorem mx_skip {l : List Api.Event} {j : Nat} {t : Int} {i : Nat} : ∀ {k}, i ≤ k → (∀ x, i ≤ x → x < k → edgeB l x j = false) → mx l j t k = mx l j t i
  | 0, h, _ => by obtain rfl : i = 0 := by omega
                  rfl
  | k + 1, h, hno => by
    by_cases e : i = k + 1
    · subst e; rfl
    · rw [mx, hno k (by omega) (by omega)]
      exact mx_skip (k := k) (by omega) fun x h1 h2 => hno x h1 (by omega)
theorem rowTo_skip {l : List Api.Event} {j : Nat} {i : Nat} : ∀ {k}, i ≤ k → (∀ x, i ≤ x → x < k → edgeB l x j = false) → rowTo l j k = rowTo l j i
  | 0, h, _ => by obtain rfl : i = 0 := by omega
                  rfl
  | k + 1, h, hno => by
    by_cases e : i = k + 1
    · subst e; rfl
    · rw [rowTo, hno k (by omega) (by omega), rowTo_skip (k := k) (by omega) fun x h1 h2 => hno x h1 (by omega)]
      simp
/-- The next edge of a row. -/
theorem next_edge (l : List Api.Event) (j : Nat) : ∀ d i, i + d = j → ∃ k, i ≤ k ∧ k ≤ j ∧ (∀ x, i ≤ x → x < k → edgeB l x j = false) ∧ (k = j ∨ edgeB l k j = true) := by
  intro d
  induction d with
  | zero => intro i hi; exact ⟨i, by omega, by omega, fun x h1 h2 => by omega, .inl (by omega)⟩
  | succ d ih =>
    intro i hi
    by_cases h : edgeB l i j = true
    · exact ⟨i, by omega, by omega, fun x h1 h2 => by omega, .inr h⟩
    · obtain ⟨k, h1, h2, h3, h4⟩ := ih (i + 1) (by omega)
      refine ⟨k, by omega, by omega, fun x hx1 hx2 => ?_, h4⟩
      by_cases e : x = i
      · subst e; simpa using h
      · exact h3 x (by omega) hx2
/-- Is one ahead of another? -/
def ahead (l : List Api.Event) (j n : Nat) : Bool := !decide (n = j) && past l j n
/-- What the document's way has found, when all above k were looked at (d of them). -/
def isD (l : List Api.Event) (j n : Nat) : Nat → Bool
  | 0 => false
  | d + 1 => isD l j n d || (edgeB l n (j - d) && past l j (j - d))
theorem isD_iff {l : List Api.Event} {j n : Nat} : ∀ {d}, d ≤ j + 1 → (isD l j n d = true ↔ ∃ m, m ≤ j ∧ j < m + d ∧ edgeB l n m = true ∧ past l j m = true)
  | 0, _ => by
    rw [isD]
    constructor
    · intro h; cases h
    · rintro ⟨m, h1, h2, -⟩; omega
  | d + 1, hd => by
    rw [isD, Bool.or_eq_true, isD_iff (by omega), Bool.and_eq_true]
    constructor
    · rintro (⟨m, h1, h2, h3⟩ | h)
      · exact ⟨m, h1, by omega, h3⟩
      · exact ⟨j - d, by omega, by omega, h⟩
    · rintro ⟨m, h1, h2, h3⟩
      by_cases e : m = j - d
      · subst e; exact .inr h3
      · exact .inl ⟨m, h1, by omega, h3⟩
theorem isD_all {l : List Api.Event} {j n : Nat} : isD l j n (j + 1) = ahead l j n := by
  rw [Bool.eq_iff_iff, isD_iff (Nat.le_refl _)]
  unfold ahead
  rw [Bool.and_eq_true, Bool.not_eq_true', decide_eq_false_iff_not]
  constructor
  · rintro ⟨m, h1, -, h3, h4⟩
    have := edgeB_lt h3
    have := past_le j j m (Nat.le_refl _) h4
    exact ⟨by omega, past_trans j j (Nat.le_refl _) h4 (past_iff.2 (.inr ⟨n, h3, past_refl l n⟩))⟩
  · rintro ⟨h1, h2⟩
    rcases past_out j j (Nat.le_refl _) h2 with e | ⟨m, h3, h4⟩
    · exact absurd e h1
    · have := past_le j j m (Nat.le_refl _) h4
      exact ⟨m, this, by omega, h3, h4⟩
/-- At its turn each one that leads there is marked. -/
theorem at_turn {l : List Api.Event} {j k d : Nat} (hk : k + d = j) : (isD l j k d || decide (k = j)) = past l j k := by
  rw [Bool.eq_iff_iff, Bool.or_eq_true, decide_eq_true_eq, isD_iff (by omega)]
  constructor
  · rintro (⟨m, h1, h2, h3, h4⟩ | e)
    · exact past_trans j j (Nat.le_refl _) h4 (past_iff.2 (.inr ⟨k, h3, past_refl l k⟩))
    · subst e; exact past_refl l k
  · intro h
    rcases past_out j j (Nat.le_refl _) h with e | ⟨m, h3, h4⟩
    · exact .inr e
    · have := edgeB_lt h3
      have := past_le j j m (Nat.le_refl _) h4
      exact .inl ⟨m, this, by omega, h3, h4⟩
/-- The program's test. -/
theorem before_iff {l : List Api.Event} {i j : Nat} {e : Api.Event} (hi : l[i]? = some e) (hij : i ≠ j) : cnt l i e.Thread ≤ cnt l j e.Thread ↔ ahead l j i = true := by
  have ht : thr l e.Thread i = true := by unfold thr; rw [hi]; exact decide_eq_true rfl
  have h1 : cnt l i e.Thread = cntP (thr l e.Thread) i + 1 := by
    unfold cnt
    have h2 : cntP (inT l i e.Thread) (i + 1) = cntP (thr l e.Thread) (i + 1) := cntP_congr fun m hm => by
      unfold inT
      by_cases hm2 : thr l e.Thread m = true
      · rw [hm2, past_thread hm2 i i (Nat.le_refl _) (by omega) ht]; rfl
      · simp [hm2]
    rw [h2, cntP, if_pos ht]
  rw [h1]
  have h3 := inT_iff (j := j) ht
  unfold inT at h3
  rw [ht, Bool.and_true] at h3
  unfold ahead
  rw [decide_eq_false hij, Bool.not_false, Bool.true_and, h3]
  omega
end Go.Proofs.Ytffebdngmbbcoaa.clk
