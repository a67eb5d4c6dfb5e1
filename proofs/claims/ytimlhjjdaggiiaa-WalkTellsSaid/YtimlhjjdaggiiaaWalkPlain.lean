/- Plain: the ways through marks, as the document has them. -/
import Derived.Test.YtimlhjjdaggiiaaTy
set_option linter.unusedVariables false
set_option linter.unusedSimpArgs false
namespace Go.Proofs.Ytimlhjjdaggiiaa.walk
open Go.Bk

/-- The error of a place and a way, of n marks. -/
def errOf (n : Nat) (i how : Int) : Int := if 200 < (n : Int) then 2 else if i < 0 ∨ (n : Int) ≤ i ∨ how < 1 ∨ 4 < how then 1 else 0

def rchI (a b : Api.DMark) (how : Int) : Bool :=
  if how = 1 then true else if a.Thread ≠ b.Thread then false else if how = 2 then decide (b.Deep ≤ a.Deep) else if how = 3 then decide (b.Deep < a.Deep)
  else decide (b.Deep < a.Deep ∨ b.Deep = a.Deep ∧ b.Line ≠ a.Line)

def rchR (a b : Api.DMark) (how : Int) : Bool :=
  if how = 1 then true else decide (a.Thread = b.Thread ∧ (b.Deep < a.Deep ∨ how = 2 ∧ b.Deep = a.Deep ∨ how = 4 ∧ b.Deep = a.Deep ∧ a.Line ≠ b.Line))

theorem rch_same {a b : Api.DMark} {how : Int} (h1 : 1 ≤ how) (h4 : how ≤ 4) : rchI a b how = rchR a b how := by
  unfold rchI rchR
  obtain ⟨t1, d1, l1⟩ := a
  obtain ⟨t2, d2, l2⟩ := b
  have : how = 1 ∨ how = 2 ∨ how = 3 ∨ how = 4 := by omega
  rcases this with rfl | rfl | rfl | rfl
  · simp
  all_goals
    by_cases ht : t1 = t2
    · rw [Bool.eq_iff_iff]; simp [ht]; try omega
    · simp [ht]
/-- The first of the places from lo on, below hi, for which p holds. -/
def FirstIn (p : Nat → Bool) (lo hi : Nat) : Option Nat → Prop
  | some k => lo ≤ k ∧ k < hi ∧ p k = true ∧ ∀ j, lo ≤ j → j < k → p j = false
  | none => ∀ j, lo ≤ j → j < hi → p j = false
theorem FirstIn.unique {p : Nat → Bool} {lo hi : Nat} {a b : Option Nat} (ha : FirstIn p lo hi a) (hb : FirstIn p lo hi b) : a = b := by
  cases a with
  | none => cases b with
    | none => rfl
    | some k => obtain ⟨h1, h2, h3, _⟩ := hb; rw [ha k h1 h2] at h3; cases h3
  | some j => cases b with
    | none => obtain ⟨h1, h2, h3, _⟩ := ha; rw [hb j h1 h2] at h3; cases h3
    | some k =>
      obtain ⟨h1, h2, h3, h4⟩ := ha
      obtain ⟨g1, g2, g3, g4⟩ := hb
      rcases Nat.lt_trichotomy j k with h | h | h
      · rw [g4 j h1 h] at h3; cases h3
      · rw [h]
      · rw [h4 k g1 h] at g3; cases g3
/-- The last of the places below hi for which p holds. -/
def LastIn (p : Nat → Bool) (hi : Nat) : Option Nat → Prop
  | some k => k < hi ∧ p k = true ∧ ∀ j, k < j → j < hi → p j = false
  | none => ∀ j, j < hi → p j = false
theorem LastIn.unique {p : Nat → Bool} {hi : Nat} {a b : Option Nat} (ha : LastIn p hi a) (hb : LastIn p hi b) : a = b := by
  cases a with
  | none => cases b with
    | none => rfl
    | some k => obtain ⟨h1, h3, _⟩ := hb; rw [ha k h1] at h3; cases h3
  | some j => cases b with
    | none => obtain ⟨h1, h3, _⟩ := ha; rw [hb j h1] at h3; cases h3
    | some k =>
      obtain ⟨h1, h3, h4⟩ := ha
      obtain ⟨g1, g3, g4⟩ := hb
      rcases Nat.lt_trichotomy j k with h | h | h
      · rw [h4 k h g1] at g3; cases g3
      · rw [h]
      · rw [g4 j h h1] at h3; cases h3
/-- Reached from place i; reaches place i. -/
def fromAt (l : List Api.DMark) (x : Api.DMark) (how : Int) (k : Nat) : Bool := match l[k]? with | some y => rchR x y how | none => false
def toAt (l : List Api.DMark) (x : Api.DMark) (how : Int) (k : Nat) : Bool := match l[k]? with | some y => rchR y x how | none => false
theorem fromAt_eq {l : List Api.DMark} {x y : Api.DMark} {how : Int} {k : Nat} {b : Bool} (h1 : 1 ≤ how) (h4 : how ≤ 4) (hy : l[k]? = some y) (h : rchI x y how = b) : fromAt l x how k = b := by
  unfold fromAt; rw [hy]; simp only []; rw [← rch_same h1 h4]; exact h
theorem toAt_eq {l : List Api.DMark} {x y : Api.DMark} {how : Int} {k : Nat} {b : Bool} (h1 : 1 ≤ how) (h4 : how ≤ 4) (hy : l[k]? = some y) (h : rchI y x how = b) : toAt l x how k = b := by
  unfold toAt; rw [hy]; simp only []; rw [← rch_same h1 h4]; exact h
/-- A place and whether there is one. -/
def placeOf : Option Nat → Int × Bool
  | some k => (k, true)
  | none => (0, false)
/-- What Next, Last tell. -/
def NextIs (l : List Api.DMark) (i how : Int) (r : Option Nat) : Prop :=
  (errOf l.length i how ≠ 0 → r = none) ∧ (errOf l.length i how = 0 → ∃ x, l[i.toNat]? = some x ∧ FirstIn (fromAt l x how) (i.toNat + 1) l.length r)
def LastIs (l : List Api.DMark) (i how : Int) (r : Option Nat) : Prop :=
  (errOf l.length i how ≠ 0 → r = none) ∧ (errOf l.length i how = 0 → ∃ x, l[i.toNat]? = some x ∧ LastIn (toAt l x how) i.toNat r)
/-- A place, or -1. -/
def optI : Option Nat → Int
  | some k => k
  | none => -1
theorem FirstIn.skip {p : Nat → Bool} {lo k : Nat} {r : Option Nat} (h : FirstIn p lo k r) (hk : k < lo ∨ r ≠ none ∨ p k = false) : FirstIn p lo (k + 1) r := by
  cases r with
  | none =>
    intro j h1 h2
    by_cases hj : j = k
    · subst hj
      rcases hk with h | h | h
      · omega
      · exact absurd rfl h
      · exact h
    · exact h j h1 (by omega)
  | some m => exact ⟨h.1, by have := h.2.1; omega, h.2.2⟩
theorem FirstIn.hit {p : Nat → Bool} {lo k : Nat} (h : FirstIn p lo k none) (hk : lo ≤ k) (hp : p k = true) : FirstIn p lo (k + 1) (some k) :=
  ⟨hk, by omega, hp, fun j h1 h2 => h j h1 h2⟩
theorem LastIn.skip {p : Nat → Bool} {k : Nat} {r : Option Nat} (h : LastIn p k r) (hk : p k = false) : LastIn p (k + 1) r := by
  cases r with
  | none =>
    intro j h2
    by_cases hj : j = k
    · subst hj; exact hk
    · exact h j (by omega)
  | some m => exact ⟨by have := h.1; omega, h.2.1, fun j h1 h2 => by
      by_cases hj : j = k
      · subst hj; exact hk
      · exact h.2.2 j h1 (by omega)⟩
theorem LastIn.hit {p : Nat → Bool} {k : Nat} (hp : p k = true) : LastIn p (k + 1) (some k) :=
  ⟨by omega, hp, fun j h1 h2 => by omega⟩

/-- From k on to i the thread's places are no less deep, and k is one. -/
def topOk (l : List Api.DMark) (x : Api.DMark) (i k : Nat) : Prop := (∃ y, l[k]? = some y ∧ y.Thread = x.Thread) ∧ ∀ j y, k ≤ j → j ≤ i → l[j]? = some y → y.Thread = x.Thread → x.Deep ≤ y.Deep
def TopIs (l : List Api.DMark) (i : Int) (t : Int) : Prop :=
  (errOf l.length i 1 ≠ 0 → t = 0) ∧ (errOf l.length i 1 = 0 → ∃ x, l[i.toNat]? = some x ∧ ∃ k : Nat, t = k ∧ topOk l x i.toNat k ∧ ∀ j, j < k → ¬ topOk l x i.toNat j)
theorem topOk_self {l : List Api.DMark} {x : Api.DMark} {i : Nat} (h : l[i]? = some x) : topOk l x i i :=
  ⟨⟨x, h, rfl⟩, fun j y h1 h2 hy _ => by
    obtain rfl : j = i := by omega
    obtain rfl := Option.some.inj (h.symm.trans hy)
    omega⟩
theorem errOf_zero {n : Nat} {i how : Int} (h : errOf n i how = 0) : (n : Int) ≤ 200 ∧ 0 ≤ i ∧ i < n ∧ 1 ≤ how ∧ how ≤ 4 := by
  unfold errOf at h
  split at h
  · omega
  · split at h <;> omega
end Go.Proofs.Ytimlhjjdaggiiaa.walk
