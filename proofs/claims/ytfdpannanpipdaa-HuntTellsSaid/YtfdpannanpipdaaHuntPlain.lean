/- Plain: who is suspect, who is picked, and how the hunt goes on: it comes to an end. -/
import Derived.Test.YtfdpannanpipdaaSlicePlain
set_option linter.unusedVariables false
set_option linter.unusedSimpArgs false
namespace Go.Proofs.Ytfdpannanpipdaa.hunt
open Go.Bk Go.RowKit slice

/-! ### Lists of places -/
def filt (p : Nat → Bool) (q : Nat) : List Int := ((List.range q).filter p).map Int.ofNat
theorem filt_succ (p : Nat → Bool) (q : Nat) : filt p (q + 1) = filt p q ++ (if p q then [(q : Int)] else []) := by
  unfold filt
  rw [List.range_succ, List.filter_append, List.map_append]
  congr 1
  simp only [List.filter_cons, List.filter_nil]
  split <;> simp
theorem filt_len (p : Nat → Bool) (q : Nat) : (filt p q).length ≤ q := by
  unfold filt
  rw [List.length_map]
  exact Nat.le_trans (List.length_filter_le _ _) (by simp)
theorem filt_congr {p p' : Nat → Bool} {n : Nat} (h : ∀ k, k < n → p k = p' k) : filt p n = filt p' n := by
  unfold filt
  congr 1
  exact List.filter_congr (fun k hk => h k (by simpa using hk))
theorem filt_mem {p : Nat → Bool} {q : Nat} {x : Int} : x ∈ filt p q ↔ ∃ k : Nat, x = k ∧ k < q ∧ p k = true := by
  unfold filt
  simp only [List.mem_map, List.mem_filter, List.mem_range]
  constructor
  · rintro ⟨k, ⟨h1, h2⟩, rfl⟩; exact ⟨k, rfl, h1, h2⟩
  · rintro ⟨k, rfl, h1, h2⟩; exact ⟨k, ⟨h1, h2⟩, rfl⟩
theorem filt_contains {p : Nat → Bool} {q k : Nat} (hk : k < q) : (filt p q).contains (k : Int) = p k := by
  rw [Bool.eq_iff_iff, List.contains_iff_mem, filt_mem]
  constructor
  · rintro ⟨j, hj, -, hp⟩
    obtain rfl : k = j := by omega
    exact hp
  · intro h; exact ⟨k, rfl, hk, h⟩
theorem filt_filter (p : Nat → Bool) (r : Int → Bool) (q : Nat) : (filt p q).filter r = filt (fun k => p k && r (k : Int)) q := by
  induction q with
  | zero => rfl
  | succ q ih =>
    rw [filt_succ, filt_succ, List.filter_append, ih]
    congr 1
    cases hp : p q with
    | false => simp
    | true => cases hr : r (q : Int) <;> simp [hr]
theorem filt_lt {p p' : Nat → Bool} (h : ∀ k, p' k = true → p k = true) {n k0 : Nat} (h0 : k0 < n) (h1 : p k0 = true) (h2 : p' k0 = false) : (filt p' n).length < (filt p n).length := by
  have hle : ∀ n, (filt p' n).length ≤ (filt p n).length := by
    intro n
    induction n with
    | zero => simp [filt]
    | succ n ih =>
      rw [filt_succ, filt_succ, List.length_append, List.length_append]
      cases hp' : p' n with
      | false => simp; omega
      | true => rw [h n hp']; simp; exact ih
  induction n with
  | zero => omega
  | succ n ih =>
    rw [filt_succ, filt_succ, List.length_append, List.length_append]
    by_cases he : k0 = n
    · subst he
      rw [h1, h2]
      have := hle k0
      simp; omega
    · have := ih (by omega)
      cases hp' : p' n with
      | false => simp; omega
      | true => rw [h n hp']; simp; exact this

/-! ### Suspects -/
def sus (l : List Api.DDep) (b : Nat) (gs : List Nat) (n : Nat) : Bool := hangs l b n && gs.all fun g => !hangs l g n
def susL (l : List Api.DDep) (b : Nat) (gs : List Nat) : List Int := filt (sus l b gs) l.length
def backL (l : List Api.DDep) (i : Nat) : List Int := filt (fun n => hangs l i n) l.length
theorem reach_trans {l : List Api.DDep} {a b c : Nat} (h1 : slice.Reach l a b) (h2 : slice.Reach l b c) : slice.Reach l a c := by
  obtain ⟨k, hk⟩ := h1
  induction k generalizing a with
  | zero => obtain rfl : a = b := hk; exact h2
  | succ k ih =>
    obtain ⟨u, hu, hr⟩ := hk
    exact .step u hu (ih hr)
theorem hangs_trans {l : List Api.DDep} (hv : Valid l) {a b c : Nat} (h1 : hangs l a b = true) (h2 : hangs l b c = true) : hangs l a c = true :=
  (hangs_reach hv a c).2 (reach_trans ((hangs_reach hv a b).1 h1) ((hangs_reach hv b c).1 h2))
theorem hangs_le {l : List Api.DDep} (hv : Valid l) {a b : Nat} (h : hangs l a b = true) : b ≤ a := by
  rcases Nat.lt_or_ge a b with h1 | h1
  · rw [hangs_below hv h1] at h; cases h
  · exact h1
theorem hangs_self {l : List Api.DDep} (a : Nat) : hangs l a a = true := by rw [hangs_eq]; simp

/-! ### Who is picked -/
def part (l : List Api.DDep) (b : Nat) (gs : List Nat) (n q : Nat) : Nat := (filt (fun k => sus l b gs k && hangs l n k) q).length
def rest (l : List Api.DDep) (b : Nat) (gs : List Nat) (n q : Nat) : Nat := (filt (fun k => sus l b gs k && !hangs l n k) q).length
theorem part_rest (l : List Api.DDep) (b : Nat) (gs : List Nat) (n q : Nat) : part l b gs n q + rest l b gs n q = (filt (sus l b gs) q).length := by
  unfold part rest
  induction q with
  | zero => rfl
  | succ q ih =>
    rw [filt_succ, filt_succ, filt_succ, List.length_append, List.length_append, List.length_append, ← ih]
    cases h1 : sus l b gs q <;> cases h2 : hangs l n q <;> simp <;> omega
theorem part_succ (l : List Api.DDep) (b : Nat) (gs : List Nat) (n q : Nat) : part l b gs n (q + 1) = part l b gs n q + (if sus l b gs q && hangs l n q then 1 else 0) := by
  unfold part; rw [filt_succ, List.length_append]; split <;> simp
theorem rest_succ (l : List Api.DDep) (b : Nat) (gs : List Nat) (n q : Nat) : rest l b gs n (q + 1) = rest l b gs n q + (if sus l b gs q && !hangs l n q then 1 else 0) := by
  unfold rest; rw [filt_succ, List.length_append]; split <;> simp
theorem part_le (l : List Api.DDep) (b : Nat) (gs : List Nat) (n q : Nat) : part l b gs n q ≤ q := filt_len _ _
theorem rest_le (l : List Api.DDep) (b : Nat) (gs : List Nat) (n q : Nat) : rest l b gs n q ≤ q := filt_len _ _
def half (l : List Api.DDep) (b : Nat) (gs : List Nat) (n : Nat) : Nat := min (part l b gs n l.length) (rest l b gs n l.length)
theorem half_le (l : List Api.DDep) (b : Nat) (gs : List Nat) (n : Nat) : half l b gs n ≤ l.length := by
  have := part_le l b gs n l.length
  unfold half; omega
/-- Counted through what n hangs on. -/
theorem part_count (l : List Api.DDep) (b : Nat) (gs : List Nat) (n : Nat) : part l b gs n l.length = ((backL l n).filter fun k => (susL l b gs).contains k).length := by
  unfold part backL
  rw [filt_filter]
  congr 1
  refine filt_congr fun k hk => ?_
  unfold susL
  rw [filt_contains hk, Bool.and_comm]
def stepP (l : List Api.DDep) (b : Nat) (gs : List Nat) (st : Int × Int) (n : Nat) : Int × Int := if n ≠ b ∧ st.1 < half l b gs n then ((half l b gs n : Nat), (n : Nat)) else st
def pkTo (l : List Api.DDep) (b : Nat) (gs : List Nat) : Nat → Int × Int
  | 0 => (-1, -1)
  | q + 1 => if sus l b gs q then stepP l b gs (pkTo l b gs q) q else pkTo l b gs q
def pkF (l : List Api.DDep) (b : Nat) (gs : List Nat) (xs : List Int) : Int × Int := xs.foldl (fun st x => stepP l b gs st x.toNat) (-1, -1)
theorem pkF_snoc (l : List Api.DDep) (b : Nat) (gs : List Nat) (xs : List Int) (x : Int) : pkF l b gs (xs ++ [x]) = stepP l b gs (pkF l b gs xs) x.toNat := by simp [pkF]
theorem pkF_filt (l : List Api.DDep) (b : Nat) (gs : List Nat) (q : Nat) : pkF l b gs (filt (sus l b gs) q) = pkTo l b gs q := by
  induction q with
  | zero => rfl
  | succ q ih =>
    rw [filt_succ, pkTo]
    by_cases h : sus l b gs q = true
    · rw [if_pos h, if_pos h, pkF_snoc, ih, Int.toNat_natCast]
    · rw [if_neg h, if_neg h, List.append_nil, ih]
def pick (l : List Api.DDep) (b : Nat) (gs : List Nat) : Int := (pkTo l b gs l.length).2
theorem pick_eq (l : List Api.DDep) (b : Nat) (gs : List Nat) : (pkF l b gs (susL l b gs)).2 = pick l b gs := by unfold susL pick; rw [pkF_filt]
theorem stepP_range {l : List Api.DDep} {b : Nat} {gs : List Nat} {st : Int × Int} {n : Nat} (h1 : -1 ≤ st.1 ∧ st.1 ≤ l.length) (h2 : -1 ≤ st.2 ∧ st.2 < l.length) (hn : n < l.length) : (-1 ≤ (stepP l b gs st n).1 ∧ (stepP l b gs st n).1 ≤ l.length) ∧ (-1 ≤ (stepP l b gs st n).2 ∧ (stepP l b gs st n).2 < l.length) := by
  have := half_le l b gs n
  unfold stepP
  split
  · dsimp only; omega
  · exact ⟨h1, h2⟩
theorem pkF_range {l : List Api.DDep} {b : Nat} {gs : List Nat} (xs : List Int) (hl : 0 < l.length) (h : ∀ x ∈ xs, ∃ k : Nat, x = k ∧ k < l.length) : (-1 ≤ (pkF l b gs xs).1 ∧ (pkF l b gs xs).1 ≤ l.length) ∧ (-1 ≤ (pkF l b gs xs).2 ∧ (pkF l b gs xs).2 < l.length) := by
  have : ∀ (xs : List Int) (st : Int × Int), (∀ x ∈ xs, ∃ k : Nat, x = k ∧ k < l.length) → (-1 ≤ st.1 ∧ st.1 ≤ l.length) → (-1 ≤ st.2 ∧ st.2 < l.length) →
      (-1 ≤ (xs.foldl (fun st x => stepP l b gs st x.toNat) st).1 ∧ (xs.foldl (fun st x => stepP l b gs st x.toNat) st).1 ≤ l.length) ∧ (-1 ≤ (xs.foldl (fun st x => stepP l b gs st x.toNat) st).2 ∧ (xs.foldl (fun st x => stepP l b gs st x.toNat) st).2 < l.length) := by
    intro xs
    induction xs with
    | nil => intro st _ h1 h2; exact ⟨h1, h2⟩
    | cons x xs ih =>
      intro st hx h1 h2
      obtain ⟨k, rfl, hk⟩ := hx x (List.mem_cons_self ..)
      have := stepP_range (b := b) (gs := gs) h1 h2 (n := ((k : Int)).toNat) (by rw [Int.toNat_natCast]; exact hk)
      exact ih _ (fun x hx' => hx x (List.mem_cons_of_mem _ hx')) this.1 this.2
  exact this xs (-1, -1) h (by dsimp only; omega) (by dsimp only; omega)
theorem pkTo_spec (l : List Api.DDep) (b : Nat) (gs : List Nat) (q : Nat) : (pkTo l b gs q).2 = -1 ∨ ∃ p : Nat, (pkTo l b gs q).2 = p ∧ p < q ∧ sus l b gs p = true ∧ p ≠ b := by
  induction q with
  | zero => exact .inl rfl
  | succ q ih =>
    rw [pkTo]
    split
    · rename_i h
      unfold stepP
      split
      · rename_i h2; exact .inr ⟨q, rfl, by omega, h, h2.1⟩
      · rcases ih with ih | ⟨p, h1, h2, h3, h4⟩
        · exact .inl ih
        · exact .inr ⟨p, h1, by omega, h3, h4⟩
    · rcases ih with ih | ⟨p, h1, h2, h3, h4⟩
      · exact .inl ih
      · exact .inr ⟨p, h1, by omega, h3, h4⟩
theorem pick_spec {l : List Api.DDep} {b : Nat} {gs : List Nat} (h : 0 ≤ pick l b gs) : ∃ p : Nat, pick l b gs = p ∧ p < l.length ∧ sus l b gs p = true ∧ p ≠ b := by
  rcases pkTo_spec l b gs l.length with h1 | h1
  · unfold pick at h; omega
  · exact h1
theorem pick_ge (l : List Api.DDep) (b : Nat) (gs : List Nat) : -1 ≤ pick l b gs := by
  rcases pkTo_spec l b gs l.length with h1 | ⟨p, h1, -⟩
  · unfold pick; omega
  · unfold pick; omega

/-! ### The hunt -/
def nxt (l : List Api.DDep) (tr : Nat → Bool) (st : Nat × List Nat) : Nat × List Nat := if tr (pick l st.1 st.2).toNat then ((pick l st.1 st.2).toNat, st.2) else (st.1, st.2 ++ [(pick l st.1 st.2).toNat])
def seq (l : List Api.DDep) (tr : Nat → Bool) (st : Nat × List Nat) : Nat → Nat × List Nat
  | 0 => st
  | k + 1 => nxt l tr (seq l tr st k)
def goes (l : List Api.DDep) (tr : Nat → Bool) (st : Nat × List Nat) (k : Nat) : Prop := ∀ j, j < k → 0 ≤ pick l (seq l tr st j).1 (seq l tr st j).2
def Stops (l : List Api.DDep) (tr : Nat → Bool) (st : Nat × List Nat) (k : Nat) : Prop := goes l tr st k ∧ pick l (seq l tr st k).1 (seq l tr st k).2 < 0
theorem Stops.unique {l : List Api.DDep} {tr : Nat → Bool} {st : Nat × List Nat} {k k' : Nat} (h : Stops l tr st k) (h' : Stops l tr st k') : k = k' := by
  rcases Nat.lt_trichotomy k k' with h1 | h1 | h1
  · have := h'.1 k h1; have := h.2; omega
  · exact h1
  · have := h.1 k' h1; have := h'.2; omega
theorem goes.succ {l : List Api.DDep} {tr : Nat → Bool} {st : Nat × List Nat} {k : Nat} (h : goes l tr st k) (hp : 0 ≤ pick l (seq l tr st k).1 (seq l tr st k).2) : goes l tr st (k + 1) := fun j hj => by
  by_cases he : j = k
  · subst he; exact hp
  · exact h j (by omega)
structure Fine (l : List Api.DDep) (st : Nat × List Nat) : Prop where
  bad : st.1 < l.length
  good : ∀ g ∈ st.2, g < l.length
  is : sus l st.1 st.2 st.1 = true
theorem Fine.next {l : List Api.DDep} (hv : Valid l) (tr : Nat → Bool) {st : Nat × List Nat} (h : Fine l st) (hp : 0 ≤ pick l st.1 st.2) :
    Fine l (nxt l tr st) ∧ (susL l (nxt l tr st).1 (nxt l tr st).2).length < (susL l st.1 st.2).length := by
  obtain ⟨b, gs⟩ := st
  obtain ⟨p, hpp, hpl, hps, hpb⟩ := pick_spec hp
  dsimp only at hpp hps hpb h
  unfold nxt
  dsimp only
  rw [hpp, Int.toNat_natCast]
  have h1 := h.is
  dsimp only at h1
  unfold sus at h1 hps
  rw [Bool.and_eq_true] at h1 hps
  have hbp : p < b := by have := hangs_le hv hps.1; omega
  have hb : b < l.length := h.bad
  cases htr : tr p with
  | true =>
    rw [if_pos rfl]
    refine ⟨⟨hpl, h.good, ?_⟩, ?_⟩
    · show sus l p gs p = true
      unfold sus
      rw [hangs_self, Bool.true_and]
      exact hps.2
    · refine filt_lt (fun k hk => ?_) hb (k0 := b) ?_ ?_
      · show sus l b gs k = true
        have hk' : sus l p gs k = true := hk
        unfold sus at hk' ⊢
        rw [Bool.and_eq_true] at hk' ⊢
        exact ⟨hangs_trans hv hps.1 hk'.1, hk'.2⟩
      · exact h.is
      · show sus l p gs b = false
        unfold sus
        rw [hangs_below hv hbp, Bool.false_and]
  | false =>
    rw [if_neg (by simp)]
    have hall : ∀ k, ((gs ++ [p]).all fun g => !hangs l g k) = ((gs.all fun g => !hangs l g k) && !hangs l p k) := fun k => by simp [List.all_append]
    refine ⟨⟨hb, fun g hg => ?_, ?_⟩, ?_⟩
    · rcases List.mem_append.1 hg with hg | hg
      · exact h.good g hg
      · rw [List.mem_singleton.1 hg]; exact hpl
    · show sus l b (gs ++ [p]) b = true
      unfold sus
      rw [hall, hangs_below hv hbp, h1.1, h1.2]; rfl
    · refine filt_lt (fun k hk => ?_) hpl (k0 := p) ?_ ?_
      · show sus l b gs k = true
        have hk' : sus l b (gs ++ [p]) k = true := hk
        unfold sus at hk' ⊢
        rw [hall] at hk'
        simp only [Bool.and_eq_true] at hk' ⊢
        exact ⟨hk'.1, hk'.2.1⟩
      · show sus l b gs p = true
        unfold sus
        rw [hps.1, hps.2]; rfl
      · show sus l b (gs ++ [p]) p = false
        unfold sus
        rw [hall, hangs_self]; simp
theorem goes.fine {l : List Api.DDep} (hv : Valid l) {tr : Nat → Bool} {st : Nat × List Nat} (h : Fine l st) {k : Nat} (hg : goes l tr st k) : Fine l (seq l tr st k) ∧ (susL l (seq l tr st k).1 (seq l tr st k).2).length + k ≤ (susL l st.1 st.2).length := by
  induction k with
  | zero => exact ⟨h, Nat.le_refl _⟩
  | succ k ih =>
    obtain ⟨h1, h2⟩ := ih (fun j hj => hg j (by omega))
    obtain ⟨h3, h4⟩ := h1.next hv tr (hg k (by omega))
    exact ⟨h3, by show (susL l (nxt l tr (seq l tr st k)).1 (nxt l tr (seq l tr st k)).2).length + (k + 1) ≤ _; omega⟩
theorem seq_len (l : List Api.DDep) (tr : Nat → Bool) (st : Nat × List Nat) (k : Nat) : (seq l tr st k).2.length ≤ st.2.length + k := by
  induction k with
  | zero => exact Nat.le_refl _
  | succ k ih =>
    show (nxt l tr (seq l tr st k)).2.length ≤ _
    unfold nxt
    split
    · dsimp only; omega
    · dsimp only; rw [List.length_append, List.length_singleton]; omega
theorem goes.bound {l : List Api.DDep} (hv : Valid l) {tr : Nat → Bool} {st : Nat × List Nat} (h : Fine l st) {k : Nat} (hg : goes l tr st k) : k ≤ l.length := by
  have h1 := (hg.fine hv h).2
  have h2 := filt_len (sus l st.1 st.2) l.length
  have h3 : (susL l st.1 st.2).length ≤ l.length := h2
  omega
end Go.Proofs.Ytfdpannanpipdaa.hunt
