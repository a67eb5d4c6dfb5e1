/- The rank of all that stand in pairs: what both sides compute, in plain words. -/
import Derived.Test.YtimlhjjdaggiiaaRingPlain
set_option linter.unusedVariables false
set_option linter.unusedSimpArgs false
namespace Go.Proofs.Ytimlhjjdaggiiaa.rank
open Go.Bk Go.Proofs.Ytimlhjjdaggiiaa.ring

def addNew (xs : List Int) (x : Int) : List Int := if x ∈ xs then xs else xs ++ [x]
theorem mem_addNew {xs : List Int} {x y : Int} : y ∈ addNew xs x ↔ y ∈ xs ∨ y = x := by
  unfold addNew
  split
  · constructor
    · exact .inl
    · rintro (h | rfl)
      · exact h
      · assumption
  · simp
theorem addNew_nodup {xs : List Int} {x : Int} (h : xs.Nodup) : (addNew xs x).Nodup := by
  unfold addNew
  split
  · exact h
  · refine List.nodup_append.2 ⟨h, by simp, fun a ha b hb e => ?_⟩
    simp at hb
    subst hb; subst e
    exact ‹¬ _› ha
theorem addNew_len (xs : List Int) (x : Int) : (addNew xs x).length ≤ xs.length + 1 := by unfold addNew; split <;> simp
def namesTo (l : List Api.DPair) : Nat → List Int
  | 0 => []
  | k + 1 => match l[k]? with
    | some p => addNew (addNew (namesTo l k) p.I) p.J
    | none => namesTo l k
def names (l : List Api.DPair) : List Int := namesTo l l.length
theorem namesTo_succ {l : List Api.DPair} {k : Nat} {p : Api.DPair} (h : l[k]? = some p) : namesTo l (k + 1) = addNew (addNew (namesTo l k) p.I) p.J := by rw [namesTo, h]
theorem namesTo_nodup (l : List Api.DPair) : ∀ k, (namesTo l k).Nodup
  | 0 => by simp [namesTo]
  | k + 1 => by
    rw [namesTo]
    split
    · exact addNew_nodup (addNew_nodup (namesTo_nodup l k))
    · exact namesTo_nodup l k
theorem namesTo_len (l : List Api.DPair) : ∀ k, (namesTo l k).length ≤ 2 * k
  | 0 => by simp [namesTo]
  | k + 1 => by
    rw [namesTo]
    have := namesTo_len l k
    split
    · rename_i p _
      have h1 := addNew_len (namesTo l k) p.I
      have h2 := addNew_len (addNew (namesTo l k) p.I) p.J
      omega
    · omega
theorem mem_namesTo {l : List Api.DPair} {k i : Nat} {p : Api.DPair} (hp : l[i]? = some p) (hi : i < k) : p.I ∈ namesTo l k ∧ p.J ∈ namesTo l k := by
  induction k with
  | zero => omega
  | succ k ih =>
    rcases Nat.lt_or_ge i k with h | h
    · have := ih h
      rw [namesTo]
      split
      · exact ⟨mem_addNew.2 (.inl (mem_addNew.2 (.inl this.1))), mem_addNew.2 (.inl (mem_addNew.2 (.inl this.2)))⟩
      · exact this
    · obtain rfl : i = k := by omega
      rw [namesTo_succ hp]
      exact ⟨mem_addNew.2 (.inl (mem_addNew.2 (.inr rfl))), mem_addNew.2 (.inr rfl)⟩
theorem mem_names {l : List Api.DPair} {p : Api.DPair} (h : p ∈ l) : p.I ∈ names l ∧ p.J ∈ names l := by
  obtain ⟨i, hi⟩ := List.getElem?_of_mem h
  exact mem_namesTo hi (List.getElem?_eq_some_iff.1 hi).1

/-- How many pairs a number still waits for. -/
def cnt (l : List Api.DPair) (out : List Int) (n : Int) : Nat := l.countP fun p => p.J == n && !decide (p.I ∈ out)
def free (l : List Api.DPair) (out : List Int) (n : Int) : Bool := !decide (n ∈ out) && cnt l out n == 0
theorem cnt_le (l : List Api.DPair) (out : List Int) (n : Int) : cnt l out n ≤ l.length := List.countP_le_length
theorem cnt_zero {l : List Api.DPair} {out : List Int} {n : Int} : cnt l out n = 0 ↔ ∀ p ∈ l, p.J = n → p.I ∈ out := by
  unfold cnt
  rw [List.countP_eq_zero]
  constructor
  · intro h p hp hj
    have := h p hp
    simpa [hj] using this
  · intro h p hp
    by_cases hj : p.J = n
    · simp [hj, h p hp hj]
    · simp [hj]

/-- o is the least of those of which p holds. -/
def IsBest (o : Option Int) (p : Int → Prop) : Prop := (o = none ∧ ∀ x, ¬ p x) ∨ ∃ b, o = some b ∧ p b ∧ ∀ x, p x → b ≤ x
theorem IsBest.unique {o o' : Option Int} {p : Int → Prop} (h : IsBest o p) (h' : IsBest o' p) : o = o' := by
  rcases h with ⟨rfl, h⟩ | ⟨b, rfl, hb, h⟩ <;> rcases h' with ⟨rfl, h'⟩ | ⟨b', rfl, hb', h'⟩
  · rfl
  · exact absurd hb' (h _)
  · exact absurd hb (h' _)
  · have := h _ hb'; have := h' _ hb; congr 1; omega
theorem IsBest.congr {o : Option Int} {p q : Int → Prop} (h : IsBest o p) (e : ∀ x, p x ↔ q x) : IsBest o q := by
  rw [show q = p from funext fun x => propext (e x).symm]; exact h
def pick (o : Option Int) (x : Int) : Option Int := match o with
  | none => some x
  | some b => if x < b then some x else some b
theorem IsBest.pick {o : Option Int} {p : Int → Prop} (h : IsBest o p) (x : Int) : IsBest (pick o x) (fun y => p y ∨ y = x) := by
  rcases h with ⟨rfl, h⟩ | ⟨b, rfl, hb, h⟩
  · exact .inr ⟨x, rfl, .inr rfl, fun y hy => by rcases hy with hy | rfl; exact absurd hy (h _); exact Int.le_refl _⟩
  · by_cases hx : x < b
    · exact .inr ⟨x, by simp [rank.pick, hx], .inr rfl, fun y hy => by rcases hy with hy | rfl; have := h y hy; omega; exact Int.le_refl _⟩
    · exact .inr ⟨b, by simp [rank.pick, hx], .inl hb, fun y hy => by rcases hy with hy | rfl; exact h y hy; omega⟩
def bestIn (p : Int → Bool) (xs : List Int) : Option Int := xs.foldl (fun o x => if p x then pick o x else o) none
theorem bestIn_is (p : Int → Bool) (xs : List Int) : IsBest (bestIn p xs) (fun x => x ∈ xs ∧ p x = true) := by
  have key : ∀ (xs : List Int) (o : Option Int) (q : Int → Prop), IsBest o q → IsBest (xs.foldl (fun o x => if p x then pick o x else o) o) (fun x => q x ∨ (x ∈ xs ∧ p x = true)) := by
    intro xs
    induction xs with
    | nil => intro o q h; exact h.congr (fun x => by simp)
    | cons y ys ih =>
      intro o q h
      rw [List.foldl_cons]
      by_cases hy : p y = true
      · rw [if_pos hy]
        refine (ih _ _ (h.pick y)).congr fun x => ?_
        simp only [List.mem_cons]
        constructor
        · rintro ((h | rfl) | ⟨h1, h2⟩)
          · exact .inl h
          · exact .inr ⟨.inl rfl, hy⟩
          · exact .inr ⟨.inr h1, h2⟩
        · rintro (h | ⟨rfl | h1, h2⟩)
          · exact .inl (.inl h)
          · exact .inl (.inr rfl)
          · exact .inr ⟨h1, h2⟩
      · rw [if_neg hy]
        refine (ih _ _ h).congr fun x => ?_
        simp only [List.mem_cons]
        constructor
        · rintro (h | ⟨h1, h2⟩)
          · exact .inl h
          · exact .inr ⟨.inr h1, h2⟩
        · rintro (h | ⟨rfl | h1, h2⟩)
          · exact .inl h
          · exact absurd h2 hy
          · exact .inr ⟨h1, h2⟩
  refine (key xs none (fun _ => False) (.inl ⟨rfl, fun _ h => h⟩)).congr fun x => ?_
  simp
def best (l : List Api.DPair) (out : List Int) : Option Int := bestIn (free l out) (names l)
theorem best_is (l : List Api.DPair) (out : List Int) : IsBest (best l out) (fun x => x ∈ names l ∧ free l out x = true) := bestIn_is _ _

def rankGo (l : List Api.DPair) : Nat → List Int → List Int × Bool
  | 0, out => (out, true)
  | f + 1, out => if out.length < (names l).length then match best l out with
    | none => ([], false)
    | some b => rankGo l f (out ++ [b]) else (out, true)
def rankOf (l : List Api.DPair) : List Int × Bool := rankGo l ((names l).length + 1) []

/-- What stands in rank already: each once, of the names, and behind whatever it waits for. -/
structure OutOk (l : List Api.DPair) (out : List Int) : Prop where
  nodup : out.Nodup
  sub : ∀ x ∈ out, x ∈ names l
  closed : ∀ p ∈ l, p.J ∈ out → p.I ∈ out
theorem OutOk.nil (l : List Api.DPair) : OutOk l [] := ⟨by simp, by simp, by simp⟩
theorem OutOk.len {l : List Api.DPair} {out : List Int} (h : OutOk l out) : out.length ≤ (names l).length := nodup_sub h.nodup h.sub
theorem OutOk.all {l : List Api.DPair} {out : List Int} (h : OutOk l out) (hl : out.length = (names l).length) {x : Int} (hx : x ∈ names l) : x ∈ out := by
  refine Classical.byContradiction fun hn => ?_
  have := nodup_sub (xs := out ++ [x]) (ys := names l) (List.nodup_append.2 ⟨h.nodup, by simp, fun a ha b hb e => by simp at hb; subst hb; subst e; exact hn ha⟩) (fun y hy => by
    rcases List.mem_append.1 hy with h1 | h1
    · exact h.sub y h1
    · simp at h1; rw [h1]; exact hx)
  simp at this
  omega
theorem OutOk.more {l : List Api.DPair} {out : List Int} (h : OutOk l out) (hl : out.length < (names l).length) : ∃ x ∈ names l, x ∉ out := by
  refine Classical.byContradiction fun hn => ?_
  have := nodup_sub (xs := names l) (ys := out) (namesTo_nodup l _) (fun x hx => Classical.byContradiction fun h => hn ⟨x, hx, h⟩)
  omega
theorem OutOk.step {l : List Api.DPair} {out : List Int} {b : Int} (h : OutOk l out) (hb : best l out = some b) : OutOk l (out ++ [b]) ∧ b ∈ names l ∧ b ∉ out ∧ cnt l out b = 0 := by
  have hi := best_is l out
  rw [hb] at hi
  rcases hi with ⟨h1, -⟩ | ⟨b', h1, ⟨h2, h3⟩, -⟩
  · cases h1
  · cases h1
    simp only [free, Bool.and_eq_true, Bool.not_eq_true', decide_eq_false_iff_not, beq_iff_eq] at h3
    refine ⟨⟨List.nodup_append.2 ⟨h.nodup, by simp, fun a ha c hc e => by simp at hc; subst hc; subst e; exact h3.1 ha⟩, fun x hx => ?_, fun p hp hj => ?_⟩, h2, h3⟩
    · rcases List.mem_append.1 hx with h4 | h4
      · exact h.sub x h4
      · simp at h4; rw [h4]; exact h2
    · rcases List.mem_append.1 hj with h4 | h4
      · exact List.mem_append_left _ (h.closed p hp h4)
      · simp at h4; exact List.mem_append_left _ (cnt_zero.1 h3.2 p hp h4)

/-- Where the rank stands behind some rounds. -/
def RankAt (l : List Api.DPair) (R : List Int × Bool) (out : List Int) : Prop := OutOk l out ∧ rankGo l ((names l).length + 1 - out.length) out = R
theorem RankAt.zero (l : List Api.DPair) : RankAt l (rankOf l) [] := ⟨OutOk.nil l, rfl⟩
theorem RankAt.done {l : List Api.DPair} {R : List Int × Bool} {out : List Int} (h : RankAt l R out) (hl : out.length = (names l).length) : R = (out, true) := by
  rw [← h.2, show (names l).length + 1 - out.length = 0 + 1 by omega, rankGo, if_neg (by omega)]
theorem RankAt.none {l : List Api.DPair} {R : List Int × Bool} {out : List Int} (h : RankAt l R out) (hl : out.length < (names l).length) (hb : best l out = none) : R = ([], false) := by
  rw [← h.2, show (names l).length + 1 - out.length = ((names l).length - out.length) + 1 by omega, rankGo, if_pos hl, hb]
theorem RankAt.some {l : List Api.DPair} {R : List Int × Bool} {out : List Int} {b : Int} (h : RankAt l R out) (hl : out.length < (names l).length) (hb : best l out = some b) : RankAt l R (out ++ [b]) := by
  refine ⟨(h.1.step hb).1, ?_⟩
  have := h.2
  rw [show (names l).length + 1 - out.length = ((names l).length - out.length) + 1 by omega, rankGo, if_pos hl, hb] at this
  rw [← this, List.length_append]
  congr 1
  simp

/-! ### The counts, as the program keeps them -/

def fmap (l : List Api.DPair) (out : List Int) (n : Int) : Option Int := if n ∈ names l ∧ n ∉ out then some (cnt l out n : Int) else none
def cntJ (l : List Api.DPair) (k : Nat) (n : Int) : Nat := (l.take k).countP fun p => p.J == n
def gmap (l : List Api.DPair) (k : Nat) (n : Int) : Option Int := if n ∈ namesTo l k then some (cntJ l k n : Int) else none
theorem cntJ_succ {l : List Api.DPair} {k : Nat} {p : Api.DPair} (h : l[k]? = some p) (n : Int) : cntJ l (k + 1) n = cntJ l k n + (if p.J = n then 1 else 0) := by
  unfold cntJ
  rw [List.take_add_one, h]
  simp [List.countP_append, List.countP_cons]
theorem cntJ_none {l : List Api.DPair} {k : Nat} {n : Int} (h : n ∉ namesTo l k) : cntJ l k n = 0 := by
  unfold cntJ
  rw [List.countP_eq_zero]
  intro p hp hj
  simp at hj
  obtain ⟨i, hi⟩ := List.getElem?_of_mem hp
  have hlt := (List.getElem?_eq_some_iff.1 hi).1
  have hlk : i < k := by rw [List.length_take] at hlt; omega
  rw [List.getElem?_take_of_lt hlk] at hi
  exact h (by rw [← hj]; exact (mem_namesTo hi hlk).2)
theorem cntJ_le (l : List Api.DPair) (k : Nat) (n : Int) : cntJ l k n ≤ k := Nat.le_trans List.countP_le_length (by simp; omega)
theorem gmap_getD (l : List Api.DPair) (k : Nat) (n : Int) : (gmap l k n).getD 0 = (cntJ l k n : Int) := by
  unfold gmap
  split
  · rfl
  · rw [cntJ_none ‹_›]; rfl
/-- 'ahead[p.I] += 0; ahead[p.J]++'. -/
theorem gmap_succ {l : List Api.DPair} {k : Nat} {p : Api.DPair} (h : l[k]? = some p) (m : Int) :
    gmap l (k + 1) m = (fun m => if m = p.J then some (((fun m => if m = p.I then some (cntJ l k p.I : Int) else gmap l k m) p.J).getD 0 + 1) else (fun m => if m = p.I then some (cntJ l k p.I : Int) else gmap l k m) m) m := by
  dsimp only
  by_cases h1 : m = p.J
  · subst h1
    rw [if_pos rfl]
    unfold gmap
    rw [if_pos (by rw [namesTo_succ h]; exact mem_addNew.2 (.inr rfl)), cntJ_succ h, if_pos rfl]
    by_cases h2 : p.J = p.I
    · rw [if_pos h2, h2]; simp
    · rw [if_neg h2]
      have := gmap_getD l k p.J
      unfold gmap at this
      rw [this]; simp
  · rw [if_neg h1]
    unfold gmap
    have e0 : cntJ l (k + 1) m = cntJ l k m := by rw [cntJ_succ h, if_neg (fun e : p.J = m => h1 e.symm)]; rfl
    rw [e0, namesTo_succ h]
    by_cases h2 : m = p.I
    · subst h2
      rw [if_pos rfl, if_pos (mem_addNew.2 (.inl (mem_addNew.2 (.inr rfl))))]
    · rw [if_neg h2]
      have : m ∈ addNew (addNew (namesTo l k) p.I) p.J ↔ m ∈ namesTo l k := by simp [mem_addNew, h1, h2]
      simp only [this]
theorem fmap_start (l : List Api.DPair) (m : Int) : gmap l l.length m = fmap l [] m := by
  unfold gmap fmap
  have : cntJ l l.length m = cnt l [] m := by unfold cntJ cnt; rw [List.take_of_length_le (Nat.le_refl _)]; simp
  rw [this]
  simp [names]

/-- The counts while the pairs of what has just been ranked are struck off: the first k pairs are. -/
def decTo (l : List Api.DPair) (b : Int) (k : Nat) (n : Int) : Nat := (l.take k).countP fun p => p.I == b && p.J == n
def hmap (l : List Api.DPair) (out : List Int) (b : Int) (k : Nat) (n : Int) : Option Int := if n ∈ names l ∧ n ∉ out ++ [b] then some ((cnt l out n : Int) - (decTo l b k n : Int)) else none
theorem decTo_succ {l : List Api.DPair} {b : Int} {k : Nat} {p : Api.DPair} (h : l[k]? = some p) (n : Int) : decTo l b (k + 1) n = decTo l b k n + (if p.I = b ∧ p.J = n then 1 else 0) := by
  unfold decTo
  rw [List.take_add_one, h]
  simp [List.countP_append, List.countP_cons]
theorem decTo_le (l : List Api.DPair) (b : Int) (k : Nat) (n : Int) : decTo l b k n ≤ k := Nat.le_trans List.countP_le_length (by simp; omega)
theorem hmap_start (l : List Api.DPair) (out : List Int) (b m : Int) : (if m = b then none else fmap l out m) = hmap l out b 0 m := by
  unfold hmap fmap decTo
  by_cases h : m = b
  · subst h; simp
  · simp [h]
theorem hmap_skip {l : List Api.DPair} {out : List Int} {b : Int} {k : Nat} {p : Api.DPair} (h : l[k]? = some p) (hb : p.I ≠ b) (m : Int) : hmap l out b k m = hmap l out b (k + 1) m := by
  have e0 : decTo l b (k + 1) m = decTo l b k m := by rw [decTo_succ h, if_neg (fun e : p.I = b ∧ p.J = m => hb e.1)]; rfl
  unfold hmap
  rw [e0]
theorem hmap_step {l : List Api.DPair} {out : List Int} {b : Int} {k : Nat} {p : Api.DPair} (ho : OutOk l out) (hbo : b ∉ out) (hc : cnt l out b = 0) (h : l[k]? = some p) (hb : p.I = b) (m : Int) :
    (if m = p.J then some ((hmap l out b k p.J).getD 0 - 1) else hmap l out b k m) = hmap l out b (k + 1) m := by
  have hp := List.mem_of_getElem? h
  by_cases hm : m = p.J
  · subst hm
    have h1 : p.J ∈ names l := (mem_names hp).2
    have h2 : p.J ∉ out ++ [b] := fun e => by
      rcases List.mem_append.1 e with e | e
      · have := ho.closed p hp e
        rw [hb] at this
        exact hbo this
      · simp at e
        have := cnt_zero.1 hc p hp e
        rw [hb] at this
        exact hbo this
    unfold hmap
    rw [if_pos rfl, if_pos ⟨h1, h2⟩, if_pos ⟨h1, h2⟩, decTo_succ h, if_pos ⟨hb, rfl⟩]
    simp
    omega
  · have e0 : decTo l b (k + 1) m = decTo l b k m := by rw [decTo_succ h, if_neg (fun e : p.I = b ∧ p.J = m => hm e.2.symm)]; rfl
    unfold hmap
    rw [if_neg hm, e0]
theorem countP_split {α : Type} (l : List α) (p q r : α → Bool) (h : ∀ x ∈ l, (p x = true ↔ q x = true ∨ r x = true) ∧ ¬ (q x = true ∧ r x = true)) : l.countP p = l.countP q + l.countP r := by
  induction l with
  | nil => rfl
  | cons x t ih =>
    have h1 := h x (List.mem_cons_self ..)
    have h2 := ih (fun y hy => h y (List.mem_cons_of_mem _ hy))
    rw [List.countP_cons, List.countP_cons, List.countP_cons, h2]
    by_cases hq : q x = true
    · have hr : ¬ r x = true := fun e => h1.2 ⟨hq, e⟩
      rw [if_pos (h1.1.2 (.inl hq)), if_pos hq, if_neg hr]; omega
    · by_cases hr : r x = true
      · rw [if_pos (h1.1.2 (.inr hr)), if_neg hq, if_pos hr]; omega
      · rw [if_neg (fun e => by rcases h1.1.1 e with e | e; exact hq e; exact hr e), if_neg hq, if_neg hr]; omega
theorem hmap_end {l : List Api.DPair} {out : List Int} {b : Int} (hbo : b ∉ out) (m : Int) : hmap l out b l.length m = fmap l (out ++ [b]) m := by
  unfold hmap fmap
  have : cnt l out m = cnt l (out ++ [b]) m + decTo l b l.length m := by
    unfold cnt decTo
    rw [List.take_of_length_le (Nat.le_refl _)]
    refine countP_split _ _ _ _ fun p _ => ?_
    by_cases h1 : p.J = m <;> by_cases h2 : p.I ∈ out <;> by_cases h3 : p.I = b <;> simp [h1, h2, h3] <;> (try exact hbo) <;> (try (subst h3; exact hbo h2))
  rw [this]
  split
  · congr 1; omega
  · rfl
theorem hmap_small {l : List Api.DPair} {out : List Int} {b : Int} {k : Nat} (hl : l.length ≤ 200) (hk : k ≤ 200) (m : Int) : -200 ≤ (hmap l out b k m).getD 0 ∧ (hmap l out b k m).getD 0 ≤ 200 := by
  unfold hmap
  split
  · have := cnt_le l out m
    have := decTo_le l b k m
    simp
    omega
  · simp
theorem fmap_none {l : List Api.DPair} {out : List Int} (h : OutOk l out) (hl : out.length = (names l).length) (m : Int) : fmap l out m = none := by
  unfold fmap
  rw [if_neg]
  rintro ⟨h1, h2⟩
  exact h2 (h.all hl h1)
theorem fmap_some {l : List Api.DPair} {out : List Int} (h : OutOk l out) (hl : out.length < (names l).length) : ∃ m, (fmap l out m).isSome = true := by
  obtain ⟨x, h1, h2⟩ := h.more hl
  exact ⟨x, by unfold fmap; rw [if_pos ⟨h1, h2⟩]; rfl⟩
theorem fmap_free {l : List Api.DPair} {out : List Int} (m : Int) : fmap l out m = some 0 ↔ m ∈ names l ∧ free l out m = true := by
  unfold fmap free
  by_cases h1 : m ∈ names l <;> by_cases h2 : m ∈ out <;> simp [h1, h2]

/-! ### The reference's rounds -/

def freeTo (l : List Api.DPair) (out : List Int) (q : Nat) (x : Int) : Bool := !decide (x ∈ out) && (cnt (l.take q) out x == 0)
theorem freeTo_all {l : List Api.DPair} {out : List Int} {n : Nat} (hn : l.length = n) (x : Int) : freeTo l out n x = free l out x := by unfold freeTo free; rw [List.take_of_length_le (by omega)]
theorem freeTo_zero (l : List Api.DPair) (out : List Int) (x : Int) : freeTo l out 0 x = !decide (x ∈ out) := by simp [freeTo, cnt]
theorem cnt_take {l : List Api.DPair} {q : Nat} {p : Api.DPair} (h : l[q]? = some p) (out : List Int) (x : Int) : cnt (l.take (q + 1)) out x = cnt (l.take q) out x + (if p.J = x ∧ p.I ∉ out then 1 else 0) := by
  unfold cnt
  rw [List.take_add_one, h]
  simp [List.countP_append, List.countP_cons]
theorem freeTo_hit {l : List Api.DPair} {q : Nat} {p : Api.DPair} (h : l[q]? = some p) {out : List Int} {x : Int} (h1 : p.J = x) (h2 : p.I ∉ out) : freeTo l out (q + 1) x = false := by
  unfold freeTo
  rw [cnt_take h, if_pos ⟨h1, h2⟩]
  simp
theorem freeTo_miss {l : List Api.DPair} {q : Nat} {p : Api.DPair} (h : l[q]? = some p) {out : List Int} {x : Int} (h1 : ¬ (p.J = x ∧ p.I ∉ out)) : freeTo l out (q + 1) x = freeTo l out q x := by
  unfold freeTo
  rw [cnt_take h, if_neg h1, Nat.add_zero]
def bestTo (l : List Api.DPair) (out : List Int) (k : Nat) : Option Int := bestIn (free l out) ((names l).take k)
theorem bestTo_all {l : List Api.DPair} {out : List Int} {k : Nat} (h : (names l).length = k) : bestTo l out k = best l out := by unfold bestTo best; rw [List.take_of_length_le (by omega)]
theorem bestTo_succ {l : List Api.DPair} {out : List Int} {k : Nat} {x : Int} (h : (names l)[k]? = some x) : bestTo l out (k + 1) = if free l out x then pick (bestTo l out k) x else bestTo l out k := by
  unfold bestTo bestIn
  rw [List.take_add_one, h]
  simp
theorem bestTo_mem {l : List Api.DPair} {out : List Int} {k : Nat} {b : Int} (h : bestTo l out k = some b) : b ∈ names l := by
  have := bestIn_is (free l out) ((names l).take k)
  unfold bestTo at h
  rw [h] at this
  rcases this with ⟨h1, -⟩ | ⟨b', h1, ⟨h2, -⟩, -⟩
  · cases h1
  · cases h1; exact List.mem_of_mem_take h2
end Go.Proofs.Ytimlhjjdaggiiaa.rank
