/- General words: an int of a list read, worlds that calls may turn, the first of a list for which a truth holds. -/
import Derived.Test.YtekofpigmggbbaaDoorQTy
import Derived.Test.YtekofpigmggbbaaDoorQMem
import Derived.BigQuiet
import Derived.Outline
set_option linter.unusedVariables false
set_option linter.unusedSimpArgs false
namespace Go.Proofs.YtekofpigmggbbaaDoor
open Go.Bk Go.RowKit

theorem arr_int {S : Nat → Prop} {w : World} {a : Option Addr} {xs : List Int} (h : Arr S w a xs) {k : Nat} {x : Int} (hk : xs[k]? = some x) : ∃ (b off : Nat), a = some ⟨b, off, none⟩ ∧ S b ∧ w.cell? ⟨b, off + k, none⟩ = some (.int .i64 x) ∧ I64 x := by
  obtain ⟨b1, o1, cs1, rfl, hs, ⟨rfl, hi⟩, g1⟩ := h.at hk
  exact ⟨b1, o1, rfl, hs, by simpa [show Rep.sz Int = 1 from rfl] using g1 0 Nat.zero_lt_one, hi⟩

/-- A way in which calls may turn a world: nothing that was there is turned. -/
structure Mild (R : World → World → Prop) : Prop where
  refl : ∀ w, R w w
  trans : ∀ {a b c}, R a b → R b c → R a c
  below : ∀ {a b}, R a b → Below a.heap.size a b
def Grow (a b : World) : Prop := Below a.heap.size a b
theorem mild_eq : Mild (fun a b : World => a = b) := ⟨fun _ => rfl, fun h h' => h.trans h', fun h => h ▸ Below.refl _ _⟩
theorem mild_grow : Mild Grow := ⟨fun w => Below.refl _ _, fun {a b c} h h' => Below.trans h (Below.mono h' h.size), fun h => h⟩

def firstTo {α : Type} (p : α → Bool) (xs : List α) (k : Nat) : Prop := ∀ (j : Nat) (x : α), j < k → xs[j]? = some x → p x = false
theorem firstTo.succ {α : Type} {p : α → Bool} {xs : List α} {k : Nat} {y : α} (h : firstTo p xs k) (hy : xs[k]? = some y) (hp : p y = false) : firstTo p xs (k + 1) := fun j x hj hx => by
  by_cases hjk : j = k
  · subst hjk; rw [hy] at hx; exact Option.some.inj hx ▸ hp
  · exact h j x (by omega) hx
def findRes {α : Type} (p : α → Bool) (xs : List α) : Int := if xs.any p then (xs.findIdx p : Int) else -1
theorem findRes_at {α : Type} {p : α → Bool} {xs : List α} {k : Nat} {y : α} (h : firstTo p xs k) (hy : xs[k]? = some y) (hp : p y = true) : findRes p xs = k := by
  have hk : k < xs.length := (List.getElem?_eq_some_iff.1 hy).1
  have hyk : xs[k] = y := (List.getElem?_eq_some_iff.1 hy).2
  have ha : xs.any p = true := List.any_eq_true.2 ⟨y, List.mem_of_getElem? hy, hp⟩
  have hf : xs.findIdx p = k := by
    rw [List.findIdx_eq hk]
    refine ⟨by rw [hyk]; exact hp, fun j hj => ?_⟩
    exact h j _ hj (List.getElem?_eq_getElem (by omega))
  unfold findRes
  rw [if_pos ha, hf]
theorem findRes_none {α : Type} {p : α → Bool} {xs : List α} (h : firstTo p xs xs.length) : findRes p xs = -1 := by
  unfold findRes
  rw [if_neg]
  intro ha
  obtain ⟨y, hy, hp⟩ := List.any_eq_true.1 ha
  obtain ⟨j, hj⟩ := List.getElem?_of_mem hy
  have := h j y (List.getElem?_eq_some_iff.1 hj).1 hj
  rw [this] at hp; cases hp
theorem findRes_nonneg {α : Type} (p : α → Bool) (xs : List α) : decide (0 ≤ findRes p xs) = xs.any p := by
  unfold findRes
  by_cases h : xs.any p = true
  · rw [if_pos h, h]; simp
  · rw [if_neg h]; rw [Bool.not_eq_true] at h; rw [h]; simp
  
end Go.Proofs.YtekofpigmggbbaaDoor
