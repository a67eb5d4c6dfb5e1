/- Plain: lists with patches laid, as the document has them. -/
import Derived.Test.YtimlhjjdaggiiaaTy
namespace Go.Proofs.Ytimlhjjdaggiiaa
open Go.Bk Go.RowKit

/-- The patches are in order, each inside. -/
def okTo (n : Int) (l : List Api.DPatch) (k : Nat) : Prop := ∀ i x, i < k → l[i]? = some x → 0 ≤ x.At ∧ x.At < n ∧ ∀ j y, j < i → l[j]? = some y → y.At < x.At

/-- The list with the first k patches laid. -/
def outTo (xs : List Int) (n : Nat) (l : List Api.DPatch) (k : Nat) : List Int := (l.take k).foldl (fun o p => o.set p.At.toNat p.Value) (xs.take n ++ List.replicate (n - xs.length) 0)

/-- What Patched answers. -/
structure PatchIs (xs : List Int) (n : Int) (l : List Api.DPatch) (out : List Int) (err : Int) : Prop where
  arg : n < 0 ∨ 20000 < n → out = [] ∧ err = 1
  good : 0 ≤ n → n ≤ 20000 → okTo n l l.length → out = outTo xs n.toNat l l.length ∧ err = 0
  form : 0 ≤ n → n ≤ 20000 → ¬ okTo n l l.length → out = [] ∧ err = 3

/-- The last place that was patched. -/
def lastIs (l : List Api.DPatch) (k : Nat) (z : Int) : Prop := (k = 0 ∧ z = -1) ∨ (0 < k ∧ ∃ y, l[k - 1]? = some y ∧ z = y.At)

theorem outTo_zero (xs : List Int) (n : Nat) (l : List Api.DPatch) : outTo xs n l 0 = xs.take n ++ List.replicate (n - xs.length) 0 := by simp [outTo]
theorem outTo_succ {xs : List Int} {n : Nat} {l : List Api.DPatch} {k : Nat} {x : Api.DPatch} (h : l[k]? = some x) : outTo xs n l (k + 1) = (outTo xs n l k).set x.At.toNat x.Value := by
  unfold outTo
  rw [List.take_add_one, h]
  simp
theorem outTo_length (xs : List Int) (n : Nat) (l : List Api.DPatch) (k : Nat) : (outTo xs n l k).length = n := by
  unfold outTo
  generalize l.take k = m
  have : ∀ (o : List Int), o.length = n → (m.foldl (fun o p => o.set p.At.toNat p.Value) o).length = n := by
    induction m with
    | nil => intro o h; simpa using h
    | cons p m ih => intro o h; simp only [List.foldl_cons]; exact ih _ (by simpa using h)
  exact this _ (by simp; omega)
theorem okTo_low {n : Int} {l : List Api.DPatch} {k : Nat} {z : Int} {x : Api.DPatch} (hl : lastIs l k z) (hk : k < l.length) (hx : l[k]? = some x) (h : x.At ≤ z) : ¬ okTo n l l.length := by
  intro hok
  obtain ⟨h1, h2, h3⟩ := hok k x hk hx
  rcases hl with ⟨rfl, rfl⟩ | ⟨hp, y, hy, rfl⟩
  · omega
  · have := h3 (k - 1) y (by omega) hy
    omega
theorem okTo_high {n : Int} {l : List Api.DPatch} {k : Nat} {x : Api.DPatch} (hk : k < l.length) (hx : l[k]? = some x) (h : n ≤ x.At) : ¬ okTo n l l.length := by
  intro hok
  have := hok k x hk hx
  omega
theorem okTo_succ {n : Int} {l : List Api.DPatch} {k : Nat} {z : Int} {x : Api.DPatch} (ho : okTo n l k) (hl : lastIs l k z) (hx : l[k]? = some x) (h1 : z < x.At) (h2 : x.At < n) : okTo n l (k + 1) := by
  intro i y hi hy
  by_cases he : i = k
  · subst he
    obtain rfl := Option.some.inj (hx.symm.trans hy)
    rcases hl with ⟨rfl, rfl⟩ | ⟨hp, y, hy', rfl⟩
    · exact ⟨by omega, h2, fun j y hj => by omega⟩
    · have h0 := ho (i - 1) y (by omega) hy'
      refine ⟨by omega, h2, fun j u hj hu => ?_⟩
      by_cases hj' : j = i - 1
      · subst hj'
        obtain rfl := Option.some.inj (hu.symm.trans hy')
        exact h1
      · have := h0.2.2 j u (by omega) hu
        omega
  · exact ho i y (by omega) hy
theorem okTo_step {n : Int} {l : List Api.DPatch} {k : Nat} {x : Api.DPatch} (ho : okTo n l k) (hx : l[k]? = some x) (h0 : 0 ≤ x.At) (h2 : x.At < n) (h1 : ∀ y, 0 < k → l[k - 1]? = some y → y.At < x.At) : okTo n l (k + 1) := by
  intro i y hi hy
  by_cases he : i = k
  · subst he
    obtain rfl := Option.some.inj (hx.symm.trans hy)
    refine ⟨h0, h2, fun j u hj hu => ?_⟩
    obtain ⟨v, hv⟩ : ∃ v, l[i - 1]? = some v := ⟨_, List.getElem?_eq_getElem (by have := (List.getElem?_eq_some_iff.1 hx).1; omega)⟩
    have hv1 := h1 v (by omega) hv
    by_cases hj' : j = i - 1
    · subst hj'
      obtain rfl := Option.some.inj (hu.symm.trans hv)
      exact hv1
    · have := (ho (i - 1) v (by omega) hv).2.2 j u (by omega) hu
      omega
  · exact ho i y (by omega) hy
theorem lastIs_nonneg {n : Int} {l : List Api.DPatch} {k : Nat} {z : Int} (ho : okTo n l k) (hl : lastIs l k z) : -1 ≤ z := by
  rcases hl with ⟨rfl, rfl⟩ | ⟨hp, y, hy, rfl⟩
  · omega
  · have := ho (k - 1) y (by omega) hy
    omega

theorem outTo_range {S1 S2 : Nat → Prop} {w : World} {a1 a2 : Option Addr} {xs : List Int} {l : List Api.DPatch} (h1 : Arr S1 w a1 xs) (h2 : Arr S2 w a2 l) (n k : Nat) : ∀ z ∈ outTo xs n l k, I64 z := by
  have hx : ∀ z ∈ xs, I64 z := fun z hz => by
    obtain ⟨i, hi⟩ := List.getElem?_of_mem hz
    obtain ⟨b, off, cs, _, _, ⟨_, h⟩, _⟩ := h1.at hi
    exact h
  have hl : ∀ p ∈ l, I64 p.Value := fun p hp => by
    obtain ⟨i, hi⟩ := List.getElem?_of_mem hp
    obtain ⟨b, off, _, _, _, _, _, h⟩ := api_DPatch_elem h2 hi
    exact h
  unfold outTo
  have : ∀ (m : List Api.DPatch) (o : List Int), (∀ p ∈ m, I64 p.Value) → (∀ z ∈ o, I64 z) → ∀ z ∈ m.foldl (fun o p => o.set p.At.toNat p.Value) o, I64 z := by
    intro m
    induction m with
    | nil => intro o _ h; simpa using h
    | cons p m ih =>
      intro o hm ho
      simp only [List.foldl_cons]
      refine ih _ (fun q hq => hm q (List.mem_cons_of_mem _ hq)) fun z hz => ?_
      rcases List.mem_or_eq_of_mem_set hz with h | h
      · exact ho z h
      · rw [h]; exact hm p (List.mem_cons_self ..)
  refine this _ _ (fun p hp => hl p (List.mem_of_mem_take hp)) fun z hz => ?_
  rcases List.mem_append.1 hz with h | h
  · exact hx z (List.mem_of_mem_take h)
  · rw [(List.mem_replicate.1 h).2]; unfold I64; omega

theorem outTo_at {xs : List Int} {n : Nat} {l : List Api.DPatch} : ∀ (k : Nat), okTo n l k → ∀ {t q : Nat} {x : Api.DPatch}, t < k → l[t]? = some x → x.At = q → (outTo xs n l k)[q]? = some x.Value
  | 0, _, t, q, x, ht, _, _ => by omega
  | k + 1, ho, t, q, x, ht, hx, hq => by
    by_cases hk : l[k]? = none
    · have h1 : l.length ≤ k := List.getElem?_eq_none_iff.1 hk
      have h2 : t < l.length := (List.getElem?_eq_some_iff.1 hx).1
      have e : outTo xs n l (k + 1) = outTo xs n l k := by unfold outTo; rw [List.take_of_length_le (l := l) (i := k + 1) (by omega), List.take_of_length_le (l := l) (i := k) (by omega)]
      rw [e]
      exact outTo_at k (fun i y hi hy => ho i y (by omega) hy) (by omega) hx hq
    · obtain ⟨y, hy⟩ := Option.ne_none_iff_exists'.1 hk
      have hoy := ho k y (by omega) hy
      rw [outTo_succ hy]
      by_cases he : t = k
      · subst he
        obtain rfl := Option.some.inj (hx.symm.trans hy)
        have : x.At.toNat = q := by omega
        rw [this, List.getElem?_set_self (by rw [outTo_length]; omega)]
      · have h1 := hoy.2.2 t x (by omega) hx
        rw [List.getElem?_set_ne (by omega)]
        exact outTo_at k (fun i y hi hy => ho i y (by omega) hy) (by omega) hx hq
theorem outTo_else {xs : List Int} {n : Nat} {l : List Api.DPatch} : ∀ (k : Nat), okTo n l k → ∀ {q : Nat}, q < n → (∀ t x, t < k → l[t]? = some x → x.At ≠ q) → (outTo xs n l k)[q]? = some (xs[q]?.getD 0)
  | 0, _, q, hq, _ => by
    rw [outTo_zero]
    by_cases h : q < xs.length
    · rw [List.getElem?_append_left (by simp; omega), List.getElem?_take, if_pos hq, List.getElem?_eq_getElem h]; rfl
    · rw [List.getElem?_append_right (by simp; omega), List.getElem?_replicate, List.getElem?_eq_none (by omega)]
      simp; omega
  | k + 1, ho, q, hq, hn => by
    by_cases hk : l[k]? = none
    · have h1 : l.length ≤ k := List.getElem?_eq_none_iff.1 hk
      have e : outTo xs n l (k + 1) = outTo xs n l k := by unfold outTo; rw [List.take_of_length_le (l := l) (i := k + 1) (by omega), List.take_of_length_le (l := l) (i := k) (by omega)]
      rw [e]
      exact outTo_else k (fun i y hi hy => ho i y (by omega) hy) hq (fun t x ht hx => hn t x (by omega) hx)
    · obtain ⟨y, hy⟩ := Option.ne_none_iff_exists'.1 hk
      have hoy := ho k y (by omega) hy
      have := hn k y (by omega) hy
      rw [outTo_succ hy, List.getElem?_set_ne (by omega)]
      exact outTo_else k (fun i y hi hy => ho i y (by omega) hy) hq (fun t x ht hx => hn t x (by omega) hx)

/-- How many patches lie ahead of q. -/
def aheadIs (l : List Api.DPatch) (q j : Nat) : Prop := j ≤ l.length ∧ ∀ t x, l[t]? = some x → (t < j ↔ x.At < (q : Int))
theorem aheadIs_hit {n : Int} {l : List Api.DPatch} {q j : Nat} {x : Api.DPatch} (ho : okTo n l l.length) (h : aheadIs l q j) (hx : l[j]? = some x) (he : x.At = q) : aheadIs l (q + 1) (j + 1) := by
  have hj : j < l.length := (List.getElem?_eq_some_iff.1 hx).1
  refine ⟨by omega, fun t y hy => ?_⟩
  have ht : t < l.length := (List.getElem?_eq_some_iff.1 hy).1
  have h1 := h.2 t y hy
  rcases Nat.lt_trichotomy t j with hlt | heq | hgt
  · omega
  · subst heq
    obtain rfl := Option.some.inj (hx.symm.trans hy)
    omega
  · have := (ho t y ht hy).2.2 j x hgt hx
    omega
theorem aheadIs_miss {n : Int} {l : List Api.DPatch} {q j : Nat} (ho : okTo n l l.length) (h : aheadIs l q j) (hx : ∀ x, l[j]? = some x → x.At ≠ q) : aheadIs l (q + 1) j := by
  refine ⟨h.1, fun t y hy => ?_⟩
  have ht : t < l.length := (List.getElem?_eq_some_iff.1 hy).1
  have h1 := h.2 t y hy
  rcases Nat.lt_trichotomy t j with hlt | heq | hgt
  · omega
  · subst heq
    have := hx y hy
    omega
  · obtain ⟨x, hxj⟩ : ∃ x, l[j]? = some x := ⟨_, List.getElem?_eq_getElem (by omega)⟩
    have := (ho t y ht hy).2.2 j x hgt hxj
    have := h.2 j x hxj
    have := hx x hxj
    omega
theorem aheadIs_else {n : Int} {l : List Api.DPatch} {q j : Nat} (ho : okTo n l l.length) (h : aheadIs l q j) (hx : ∀ x, l[j]? = some x → x.At ≠ q) : ∀ t x, t < l.length → l[t]? = some x → x.At ≠ q := by
  intro t y ht hy
  have h1 := h.2 t y hy
  rcases Nat.lt_trichotomy t j with hlt | heq | hgt
  · omega
  · subst heq; exact hx y hy
  · obtain ⟨x, hxj⟩ : ∃ x, l[j]? = some x := ⟨_, List.getElem?_eq_getElem (by omega)⟩
    have := (ho t y ht hy).2.2 j x hgt hxj
    have := h.2 j x hxj
    have := hx x hxj
    omega

end Go.Proofs.Ytimlhjjdaggiiaa
