/- ClocksEdges, plain: what leads to an event: the document's truth, and the program's tables. -/
import Derived.Test.YtffebdngmbbcoaaLockPlain
set_option linter.unusedVariables false
set_option linter.unusedSimpArgs false
namespace Go.Proofs.Ytffebdngmbbcoaa.clk
open Go.Bk Go.Proofs.Ytffebdngmbbcoaa.lock

/-- None between two places. -/
def clear (l : List Api.Event) (i j : Nat) (p : Api.Event → Prop) : Prop := ∀ k, i < k → k < j → ∀ e, l[k]? = some e → ¬ p e
theorem clear_end (l : List Api.Event) (i : Nat) (p : Api.Event → Prop) : clear l i (i + 1) p := fun k h1 h2 => by omega
theorem clear_succ {l : List Api.Event} {i j : Nat} {p : Api.Event → Prop} {e : Api.Event} (hij : i < j) (he : l[j]? = some e) : clear l i (j + 1) p ↔ clear l i j p ∧ ¬ p e := by
  constructor
  · intro h
    exact ⟨fun k h1 h2 => h k h1 (by omega), h j hij (by omega) e he⟩
  · rintro ⟨h1, h2⟩ k hk1 hk2 x hx
    by_cases hkj : k = j
    · subst hkj; rw [he] at hx; cases hx; exact h2
    · exact h1 k hk1 (by omega) x hx
def Edge (l : List Api.Event) (i j : Nat) : Prop := i < j ∧ ∃ a b, l[i]? = some a ∧ l[j]? = some b ∧
  ((a.Thread = b.Thread ∧ clear l i j (fun e => e.Thread = b.Thread)) ∨ ((a.Kind = 11 ∧ a.A = b.Thread) ∧ clear l i j (fun e => e.Thread = b.Thread)) ∨
    ((a.Kind = 17 ∧ b.Kind = 12 ∧ b.A = a.Thread) ∧ clear l i j (fun e => e.Kind = 17 ∧ e.Thread = a.Thread)) ∨ ((a.Kind = 14 ∧ b.Kind = 13 ∧ a.A = b.A) ∧ clear l i j (fun e => e.Kind = 13 ∧ e.A = a.A)))
/-- The last one of which it holds. -/
def lastP (l : List Api.Event) (p : Api.Event → Bool) : Nat → Option Nat
  | 0 => none
  | k + 1 => match l[k]? with
    | some e => if p e then some k else lastP l p k
    | none => lastP l p k
theorem lastP_succ {l : List Api.Event} {k : Nat} {e : Api.Event} (he : l[k]? = some e) (p : Api.Event → Bool) : lastP l p (k + 1) = if p e then some k else lastP l p k := by rw [lastP, he]
theorem lastP_spec {l : List Api.Event} {p : Api.Event → Bool} {i : Nat} : ∀ {k : Nat}, k ≤ l.length → (lastP l p k = some i ↔ i < k ∧ ∃ a, l[i]? = some a ∧ p a = true ∧ clear l i k (fun e => p e = true))
  | 0, _ => by simp [lastP]
  | k + 1, hk => by
    obtain ⟨e, he⟩ : ∃ e, l[k]? = some e := ⟨_, List.getElem?_eq_getElem (by omega)⟩
    rw [lastP_succ he]
    by_cases hp : p e = true
    · rw [if_pos hp]
      constructor
      · intro h
        obtain rfl := Option.some.inj h
        exact ⟨by omega, e, he, hp, clear_end _ _ _⟩
      · rintro ⟨h1, a, ha, hpa, hc⟩
        by_cases hik : i = k
        · rw [hik]
        · exact absurd hp (hc k (by omega) (by omega) e he)
    · rw [if_neg hp, lastP_spec (by omega)]
      constructor
      · rintro ⟨h1, a, ha, hpa, hc⟩
        exact ⟨by omega, a, ha, hpa, (clear_succ h1 he).2 ⟨hc, hp⟩⟩
      · rintro ⟨h1, a, ha, hpa, hc⟩
        have hik : i ≠ k := fun e2 => by subst e2; rw [he] at ha; cases ha; exact hp hpa
        exact ⟨by omega, a, ha, hpa, ((clear_succ (by omega) he).1 hc).1⟩
/-- All of which 'add' holds, since the last of which 'clr' holds. -/
def since (l : List Api.Event) (add clr : Api.Event → Bool) : Nat → List Nat
  | 0 => []
  | k + 1 => match l[k]? with
    | some e => (if clr e then [] else since l add clr k) ++ if add e then [k] else []
    | none => since l add clr k
theorem since_succ {l : List Api.Event} {k : Nat} {e : Api.Event} (he : l[k]? = some e) (add clr : Api.Event → Bool) : since l add clr (k + 1) = (if clr e then [] else since l add clr k) ++ if add e then [k] else [] := by rw [since, he]
theorem since_spec {l : List Api.Event} {add clr : Api.Event → Bool} {i : Nat} : ∀ {k : Nat}, k ≤ l.length → (i ∈ since l add clr k ↔ i < k ∧ ∃ a, l[i]? = some a ∧ add a = true ∧ clear l i k (fun e => clr e = true))
  | 0, _ => by simp [since]
  | k + 1, hk => by
    obtain ⟨e, he⟩ : ∃ e, l[k]? = some e := ⟨_, List.getElem?_eq_getElem (by omega)⟩
    rw [since_succ he, List.mem_append]
    constructor
    · rintro (h | h)
      · by_cases hc : clr e = true
        · rw [if_pos hc] at h; simp at h
        · rw [if_neg hc, since_spec (by omega)] at h
          obtain ⟨h1, a, ha, hpa, hcl⟩ := h
          exact ⟨by omega, a, ha, hpa, (clear_succ h1 he).2 ⟨hcl, hc⟩⟩
      · by_cases ha : add e = true
        · rw [if_pos ha] at h
          simp at h
          subst h
          exact ⟨by omega, e, he, ha, clear_end _ _ _⟩
        · rw [if_neg ha] at h; simp at h
    · rintro ⟨h1, a, ha, hpa, hcl⟩
      by_cases hik : i = k
      · right
        subst hik
        rw [he] at ha
        cases ha
        rw [if_pos hpa]
        simp
      · left
        obtain ⟨h2, h3⟩ := (clear_succ (by omega) he).1 hcl
        rw [if_neg h3, since_spec (by omega)]
        exact ⟨by omega, a, ha, hpa, h2⟩
theorem since_len (l : List Api.Event) (add clr : Api.Event → Bool) : ∀ k, (since l add clr k).length ≤ k
  | 0 => by simp [since]
  | k + 1 => by
    have ih := since_len l add clr k
    rw [since]
    split
    · rw [List.length_append]
      have : (if add ‹Api.Event› then [k] else []).length ≤ 1 := by split <;> simp
      split
      · simp only [List.length_nil]; omega
      · omega
    · omega
theorem since_lt {l : List Api.Event} {add clr : Api.Event → Bool} {i k : Nat} (hk : k ≤ l.length) (h : i ∈ since l add clr k) : i < k := ((since_spec hk).1 h).1
/-- The program's tables: of each thread its last event; spawns of it since; its last end; of a lock: frees since its last lock. -/
def lastT (l : List Api.Event) (k : Nat) (t : Int) : Option Nat := lastP l (fun e => decide (e.Thread = t)) k
def spawnT (l : List Api.Event) (k : Nat) (t : Int) : List Nat := since l (fun e => decide (e.Kind = 11 ∧ e.A = t)) (fun e => decide (e.Thread = t)) k
def overT (l : List Api.Event) (k : Nat) (t : Int) : Option Nat := lastP l (fun e => decide (e.Kind = 17 ∧ e.Thread = t)) k
def freeT (l : List Api.Event) (k : Nat) (t : Int) : List Nat := since l (fun e => decide (e.Kind = 14 ∧ e.A = t)) (fun e => decide (e.Kind = 13 ∧ e.A = t)) k
def prs (is : List Nat) (j : Nat) : List Api.DPair := is.map fun (i : Nat) => (⟨(i : Int), (j : Int)⟩ : Api.DPair)
def outAt (l : List Api.Event) (k : Nat) (e : Api.Event) : List Api.DPair :=
  prs (lastT l k e.Thread).toList k ++ prs (spawnT l k e.Thread) k ++ (if e.Kind = 12 then prs (overT l k e.A).toList k else []) ++ (if e.Kind = 13 then prs (freeT l k e.A) k else [])
def outE (l : List Api.Event) : Nat → List Api.DPair
  | 0 => []
  | k + 1 => outE l k ++ match l[k]? with | some e => outAt l k e | none => []
theorem outE_succ {l : List Api.Event} {k : Nat} {e : Api.Event} (he : l[k]? = some e) : outE l (k + 1) = outE l k ++ outAt l k e := by rw [outE, he]
theorem mem_prs {is : List Nat} {j : Nat} {p : Api.DPair} : p ∈ prs is j ↔ ∃ i, i ∈ is ∧ p = ⟨(i : Int), (j : Int)⟩ := by
  unfold prs
  rw [List.mem_map]
  exact ⟨fun ⟨i, h1, h2⟩ => ⟨i, h1, h2.symm⟩, fun ⟨i, h1, h2⟩ => ⟨i, h1, h2.symm⟩⟩
theorem clear_congr {l : List Api.Event} {i j : Nat} {p q : Api.Event → Prop} (h : ∀ e, p e ↔ q e) : clear l i j p ↔ clear l i j q :=
  ⟨fun hc k h1 h2 e he => fun hq => hc k h1 h2 e he ((h e).2 hq), fun hc k h1 h2 e he => fun hp => hc k h1 h2 e he ((h e).1 hp)⟩
theorem mem_outAt {l : List Api.Event} {k : Nat} {e : Api.Event} (hk : k ≤ l.length) (he : l[k]? = some e) {p : Api.DPair} : p ∈ outAt l k e ↔ ∃ i : Nat, p = ⟨(i : Int), (k : Int)⟩ ∧ Edge l i k := by
  have h1 : ∀ i : Nat, i ∈ (lastT l k e.Thread).toList ↔ i < k ∧ ∃ a, l[i]? = some a ∧ a.Thread = e.Thread ∧ clear l i k (fun x => x.Thread = e.Thread) := fun i => by
    rw [Option.mem_toList]
    unfold lastT
    rw [lastP_spec hk]
    simp only [decide_eq_true_eq]
  have h2 : ∀ i : Nat, i ∈ spawnT l k e.Thread ↔ i < k ∧ ∃ a, l[i]? = some a ∧ (a.Kind = 11 ∧ a.A = e.Thread) ∧ clear l i k (fun x => x.Thread = e.Thread) := fun i => by
    unfold spawnT
    rw [since_spec hk]
    simp only [decide_eq_true_eq]
  have h3 : ∀ i : Nat, i ∈ (overT l k e.A).toList ↔ i < k ∧ ∃ a, l[i]? = some a ∧ (a.Kind = 17 ∧ a.Thread = e.A) ∧ clear l i k (fun x => x.Kind = 17 ∧ x.Thread = e.A) := fun i => by
    rw [Option.mem_toList]
    unfold overT
    rw [lastP_spec hk]
    simp only [decide_eq_true_eq]
  have h4 : ∀ i : Nat, i ∈ freeT l k e.A ↔ i < k ∧ ∃ a, l[i]? = some a ∧ (a.Kind = 14 ∧ a.A = e.A) ∧ clear l i k (fun x => x.Kind = 13 ∧ x.A = e.A) := fun i => by
    unfold freeT
    rw [since_spec hk]
    simp only [decide_eq_true_eq]
  unfold outAt
  rw [List.mem_append, List.mem_append, List.mem_append, mem_prs, mem_prs]
  constructor
  · rintro (((⟨i, hi, rfl⟩ | ⟨i, hi, rfl⟩) | h) | h)
    · obtain ⟨hik, a, ha, hc⟩ := (h1 i).1 hi
      exact ⟨i, rfl, hik, a, e, ha, he, .inl hc⟩
    · obtain ⟨hik, a, ha, hc⟩ := (h2 i).1 hi
      exact ⟨i, rfl, hik, a, e, ha, he, .inr (.inl hc)⟩
    · split at h
      · rename_i h12
        obtain ⟨i, hi, rfl⟩ := mem_prs.1 h
        obtain ⟨hik, a, ha, ⟨hk17, hta⟩, hc⟩ := (h3 i).1 hi
        refine ⟨i, rfl, hik, a, e, ha, he, .inr (.inr (.inl ⟨⟨hk17, h12, hta.symm⟩, ?_⟩))⟩
        rw [hta]; exact hc
      · simp at h
    · split at h
      · rename_i h13
        obtain ⟨i, hi, rfl⟩ := mem_prs.1 h
        obtain ⟨hik, a, ha, ⟨hk14, hta⟩, hc⟩ := (h4 i).1 hi
        refine ⟨i, rfl, hik, a, e, ha, he, .inr (.inr (.inr ⟨⟨hk14, h13, hta⟩, ?_⟩))⟩
        rw [hta]; exact hc
      · simp at h
  · rintro ⟨i, rfl, hik, a, b, ha, hb, hc⟩
    rw [he] at hb
    cases hb
    rcases hc with hc | hc | ⟨⟨q1, q2, q3⟩, hc⟩ | ⟨⟨q1, q2, q3⟩, hc⟩
    · exact .inl (.inl (.inl ⟨i, (h1 i).2 ⟨hik, a, ha, hc⟩, rfl⟩))
    · exact .inl (.inl (.inr ⟨i, (h2 i).2 ⟨hik, a, ha, hc⟩, rfl⟩))
    · refine .inl (.inr ?_)
      rw [if_pos q2]
      exact mem_prs.2 ⟨i, (h3 i).2 ⟨hik, a, ha, ⟨q1, q3.symm⟩, by rw [q3]; exact hc⟩, rfl⟩
    · refine .inr ?_
      rw [if_pos q2]
      exact mem_prs.2 ⟨i, (h4 i).2 ⟨hik, a, ha, ⟨q1, q3⟩, by rw [← q3]; exact hc⟩, rfl⟩
theorem mem_outE {l : List Api.Event} {p : Api.DPair} : ∀ {n : Nat}, n ≤ l.length → (p ∈ outE l n ↔ ∃ i j : Nat, j < n ∧ p = ⟨(i : Int), (j : Int)⟩ ∧ Edge l i j)
  | 0, _ => by simp [outE]
  | n + 1, hn => by
    obtain ⟨e, he⟩ : ∃ e, l[n]? = some e := ⟨_, List.getElem?_eq_getElem (by omega)⟩
    rw [outE_succ he, List.mem_append, mem_outE (by omega), mem_outAt (by omega) he]
    constructor
    · rintro (⟨i, j, hj, h⟩ | ⟨i, h⟩)
      · exact ⟨i, j, by omega, h⟩
      · exact ⟨i, n, by omega, h⟩
    · rintro ⟨i, j, hj, h⟩
      by_cases hjn : j = n
      · subst hjn; exact .inr ⟨i, h⟩
      · exact .inl ⟨i, j, by omega, h⟩
theorem prs_len (is : List Nat) (j : Nat) : (prs is j).length = is.length := by unfold prs; rw [List.length_map]
theorem outAt_len (l : List Api.Event) (k : Nat) (e : Api.Event) : (outAt l k e).length ≤ 2 + 2 * k := by
  unfold outAt
  rw [List.length_append, List.length_append, List.length_append, prs_len, prs_len]
  have h1 : (lastT l k e.Thread).toList.length ≤ 1 := by cases lastT l k e.Thread <;> simp
  have h2 : (spawnT l k e.Thread).length ≤ k := since_len _ _ _ _
  have h3 : (if e.Kind = 12 then prs (overT l k e.A).toList k else []).length ≤ 1 := by
    split
    · rw [prs_len]; cases overT l k e.A <;> simp
    · simp
  have h4 : (if e.Kind = 13 then prs (freeT l k e.A) k else []).length ≤ k := by
    split
    · rw [prs_len]; exact since_len _ _ _ _
    · simp
  omega
theorem outE_len (l : List Api.Event) (m : Nat) : ∀ n, n ≤ m → (outE l n).length ≤ n * (2 + 2 * m)
  | 0, _ => by simp [outE]
  | n + 1, h => by
    rw [outE, List.length_append, Nat.add_mul]
    have ih := outE_len l m n (by omega)
    have : (match l[n]? with | some e => outAt l n e | none => ([] : List Api.DPair)).length ≤ 2 + 2 * m := by
      split
      · have := outAt_len l n ‹_›; omega
      · simp
    omega
/-- The order of edges. -/
def cmpJ (x y : Api.DPair) : Int := if cmp3 x.J y.J ≠ 0 then cmp3 x.J y.J else cmp3 x.I y.I
def ltJ (x y : Api.DPair) : Prop := x.J < y.J ∨ x.J = y.J ∧ x.I < y.I
theorem cmpJ_lt (x y : Api.DPair) : decide (cmpJ x y < 0) = true ↔ ltJ x y := by
  have := cmpPair_lt ⟨x.J, x.I⟩ ⟨y.J, y.I⟩
  exact this
/-- Strictly rising lists with the same elements are one. -/
theorem rising_ext {α : Type} {lt : α → α → Prop} (hirr : ∀ x, ¬ lt x x) (hasym : ∀ x y, lt x y → ¬ lt y x) : ∀ {l m : List α}, l.Pairwise lt → m.Pairwise lt → (∀ x, x ∈ l ↔ x ∈ m) → l = m
  | [], [], _, _, _ => rfl
  | [], b :: m, _, _, h => by have := (h b).2 (by simp); simp at this
  | a :: l, [], _, _, h => by have := (h a).1 (by simp); simp at this
  | a :: l, b :: m, hl, hm, h => by
    rw [List.pairwise_cons] at hl hm
    have hab : a = b := by
      have h1 := (h a).1 (by simp)
      have h2 := (h b).2 (by simp)
      rcases List.mem_cons.1 h1 with e | h1
      · exact e
      · rcases List.mem_cons.1 h2 with e | h2
        · exact e.symm
        · exact absurd (hm.1 a h1) (hasym _ _ (hl.1 b h2))
    subst hab
    rw [rising_ext hirr hasym hl.2 hm.2 fun x => ?_]
    constructor
    · intro hx
      rcases List.mem_cons.1 ((h x).1 (List.mem_cons_of_mem _ hx)) with e | h2
      · subst e; exact absurd (hl.1 x hx) (hirr x)
      · exact h2
    · intro hx
      rcases List.mem_cons.1 ((h x).2 (List.mem_cons_of_mem _ hx)) with e | h2
      · subst e; exact absurd (hm.1 x hx) (hirr x)
      · exact h2
/-- The truth, reckoned. -/
def clr (l : List Api.Event) (i : Nat) (p : Api.Event → Bool) : Nat → Bool
  | 0 => true
  | k + 1 => clr l i p k && (!decide (i < k) || match l[k]? with | some e => !p e | none => true)
theorem clr_iff {l : List Api.Event} {i : Nat} {p : Api.Event → Bool} : ∀ {j : Nat}, clr l i p j = true ↔ clear l i j (fun e => p e = true)
  | 0 => by simp [clr, clear]
  | j + 1 => by
    rw [clr, Bool.and_eq_true, clr_iff]
    constructor
    · rintro ⟨h1, h2⟩ k hk1 hk2 e he hp
      by_cases hkj : k = j
      · subst hkj
        rw [he] at h2
        simp [hp] at h2
        omega
      · exact h1 k hk1 (by omega) e he hp
    · intro h
      refine ⟨fun k hk1 hk2 => h k hk1 (by omega), ?_⟩
      by_cases hij : i < j
      · cases he : l[j]? with
        | none => simp
        | some e =>
          have h1 : ¬ p e = true := h j hij (by omega) e he
          simp [h1]
      · simp [hij]
def edgeB (l : List Api.Event) (i j : Nat) : Bool := decide (i < j) && match l[i]?, l[j]? with
  | some a, some b => (decide (a.Thread = b.Thread) && clr l i (fun e => decide (e.Thread = b.Thread)) j) || (decide (a.Kind = 11 ∧ a.A = b.Thread) && clr l i (fun e => decide (e.Thread = b.Thread)) j) ||
      (decide (a.Kind = 17 ∧ b.Kind = 12 ∧ b.A = a.Thread) && clr l i (fun e => decide (e.Kind = 17 ∧ e.Thread = a.Thread)) j) || (decide (a.Kind = 14 ∧ b.Kind = 13 ∧ a.A = b.A) && clr l i (fun e => decide (e.Kind = 13 ∧ e.A = a.A)) j)
  | _, _ => false
theorem edgeB_iff {l : List Api.Event} {i j : Nat} : edgeB l i j = true ↔ Edge l i j := by
  unfold edgeB Edge
  rw [Bool.and_eq_true, decide_eq_true_eq]
  refine and_congr Iff.rfl ?_
  cases ha : l[i]? with
  | none => simp
  | some a =>
    cases hb : l[j]? with
    | none => simp
    | some b =>
      simp only [Bool.or_eq_true, Bool.and_eq_true, clr_iff, decide_eq_true_eq]
      constructor
      · rintro (((h | h) | h) | h)
        · exact ⟨a, b, rfl, rfl, .inl h⟩
        · exact ⟨a, b, rfl, rfl, .inr (.inl h)⟩
        · exact ⟨a, b, rfl, rfl, .inr (.inr (.inl h))⟩
        · exact ⟨a, b, rfl, rfl, .inr (.inr (.inr h))⟩
      · rintro ⟨a', b', e1, e2, h⟩
        cases e1; cases e2
        rcases h with h | h | h | h
        · exact .inl (.inl (.inl h))
        · exact .inl (.inl (.inr h))
        · exact .inl (.inr h)
        · exact .inr h
/-- The document's list of edges. -/
def rowTo (l : List Api.Event) (j : Nat) : Nat → List Api.DPair
  | 0 => []
  | i + 1 => rowTo l j i ++ if edgeB l i j then [⟨(i : Int), (j : Int)⟩] else []
def refTo (l : List Api.Event) : Nat → List Api.DPair
  | 0 => []
  | j + 1 => refTo l j ++ rowTo l j j
theorem mem_rowTo {l : List Api.Event} {j : Nat} {p : Api.DPair} : ∀ {n : Nat}, p ∈ rowTo l j n ↔ ∃ i : Nat, i < n ∧ p = ⟨(i : Int), (j : Int)⟩ ∧ edgeB l i j = true
  | 0 => by simp [rowTo]
  | n + 1 => by
    rw [rowTo, List.mem_append, mem_rowTo]
    constructor
    · rintro (⟨i, hi, h⟩ | h)
      · exact ⟨i, by omega, h⟩
      · split at h
        · rename_i he
          simp at h
          exact ⟨n, by omega, h, he⟩
        · simp at h
    · rintro ⟨i, hi, h, he⟩
      by_cases hin : i = n
      · subst hin
        right
        rw [if_pos he]
        simp [h]
      · exact .inl ⟨i, by omega, h, he⟩
theorem mem_refTo {l : List Api.Event} {p : Api.DPair} : ∀ {n : Nat}, p ∈ refTo l n ↔ ∃ i j : Nat, j < n ∧ p = ⟨(i : Int), (j : Int)⟩ ∧ Edge l i j
  | 0 => by simp [refTo]
  | n + 1 => by
    rw [refTo, List.mem_append, mem_refTo, mem_rowTo]
    constructor
    · rintro (⟨i, j, hj, h⟩ | ⟨i, hi, h, he⟩)
      · exact ⟨i, j, by omega, h⟩
      · exact ⟨i, n, by omega, h, edgeB_iff.1 he⟩
    · rintro ⟨i, j, hj, h, he⟩
      by_cases hjn : j = n
      · subst hjn
        exact .inr ⟨i, he.1, h, edgeB_iff.2 he⟩
      · exact .inl ⟨i, j, by omega, h, he⟩
theorem rowTo_rising (l : List Api.Event) (j : Nat) : ∀ n, (rowTo l j n).Pairwise ltJ
  | 0 => by simp [rowTo]
  | n + 1 => by
    rw [rowTo, List.pairwise_append]
    refine ⟨rowTo_rising l j n, by split <;> simp, fun x hx y hy => ?_⟩
    obtain ⟨i, hi, rfl, -⟩ := mem_rowTo.1 hx
    split at hy
    · simp at hy; subst hy
      exact .inr ⟨rfl, by show (i : Int) < (n : Int); omega⟩
    · simp at hy
theorem refTo_rising (l : List Api.Event) : ∀ n, (refTo l n).Pairwise ltJ
  | 0 => by simp [refTo]
  | n + 1 => by
    rw [refTo, List.pairwise_append]
    refine ⟨refTo_rising l n, rowTo_rising l n n, fun x hx y hy => ?_⟩
    obtain ⟨i, j, hj, rfl, -⟩ := mem_refTo.1 hx
    obtain ⟨i', hi', rfl, -⟩ := mem_rowTo.1 hy
    exact .inl (by show (j : Int) < (n : Int); omega)
/-- The program's list, sorted, each once: the document's. -/
theorem edges_eq (l : List Api.Event) (s : List Api.DPair) (hs : s.Pairwise (fun x y => ¬ ltJ y x)) (hm : ∀ p, p ∈ s ↔ p ∈ outE l l.length) : compactTo s s.length = refTo l l.length := by
  have h := compactTo_sorted (lt := ltJ) (fun x => by unfold ltJ; omega) (fun x y z => by unfold ltJ; omega) (l := s) (fun i x y hx hy => by
    have hlt := (List.getElem?_eq_some_iff.1 hy).1
    have hlt0 := (List.getElem?_eq_some_iff.1 hx).1
    have h1 := List.pairwise_iff_getElem.1 hs i (i + 1) hlt0 hlt (by omega)
    rw [(List.getElem?_eq_some_iff.1 hx).2, (List.getElem?_eq_some_iff.1 hy).2] at h1
    by_cases he : x = y
    · exact .inl he
    · right
      have hne : ¬ (x.J = y.J ∧ x.I = y.I) := fun ⟨ha, hb⟩ => he (by cases x; cases y; simp_all)
      unfold ltJ at *
      omega) _ (Nat.le_refl _)
  refine rising_ext (lt := ltJ) (fun x => by unfold ltJ; omega) (fun x y => by unfold ltJ; omega) h.1 (refTo_rising l _) fun p => ?_
  rw [show p ∈ compactTo s s.length ↔ _ from h.2.1 p, List.take_length, hm, mem_outE (Nat.le_refl _), mem_refTo]
end Go.Proofs.Ytffebdngmbbcoaa.clk
