/- Without, walked; what is left, reckoned number by number; a copy of any list that came in. -/
import Derived.Test.YtimlhjjdaggiiaaSmallE
import Derived.Test.YtimlhjjdaggiiaaSame
set_option linter.unusedVariables false
set_option linter.unusedSimpArgs false
namespace Go.Proofs.Ytimlhjjdaggiiaa.small
open Go.Bk Go.RowKit

def wErr (n : Nat) (f t : Int) : Int := if 200 < n then 2 else if f < 0 ∨ t < f ∨ (n : Int) < t then 1 else 0
def WithoutOk (l : List Int) (f t : Nat) (w : World) (e : Ending) (w' : World) : Prop := ∃ a' c', e = .returned (.tuple #[.slice a' (l.take f ++ l.drop t).length c', .int .i64 0]) ∧ Arr (fun b => w.heap.size ≤ b ∧ b < w'.heap.size) w' a' (l.take f ++ l.drop t) ∧ Below w.heap.size w w'

set_option maxRecDepth 100000 in
theorem withoutT_ok {S : Nat → Prop} {w : World} {a : Option Addr} {c n f t : Nat} {l : List Int} (hn : l.length = n) (h : Arr S w a l) (hS : ∀ b, S b → b < w.heap.size) (hcap : n ≤ c) (hnil : a = none → c = 0) (hc : c ≤ 9223372036854775807) (hft : f ≤ t) (htn : t ≤ n) (hl : n ≤ 200) :
    Calls Try.prog 49 #[.slice a n c, .int .i64 f, .int .i64 t] w (WithoutOk l f t w) := by
  have HW := Lib.hid (without_any hn h hS hcap hnil hc hft htn hl)
  have d1 : decide (200 < (n : Int)) = false := decide_eq_false (by omega)
  have d2 : decide ((f : Int) < 0) = false := decide_eq_false (by omega)
  have d3 : decide (t < f) = false := decide_eq_false (by omega)
  have d4 : decide (n < t) = false := decide_eq_false (by omega)
  clear h hnil hn
  go_enter Try.func49, Try.ntmps49
  go_wp2_with fail
  refine HW.out.mono ?_
  rintro e w' ⟨v, rfl, ho, hb⟩
  obtain ⟨a', c', rfl, hc', hn', ha'⟩ := ho.arr; have HA := Lib.hid ha'; have HB := Lib.hid hb; clear ha' hb ho
  go_wp2_with fail
  go_ret2
  exact ⟨a', c', (by rw [List.length_append, List.length_take, List.length_drop]; rfl), HA.out.mono (fun b hb => hb.resolve_left id), HB.out⟩

set_option maxRecDepth 100000 in
theorem withoutT_bad {w : World} {a : Option Addr} {c n : Nat} {f t : Int} (h : wErr n f t ≠ 0) :
    Calls Try.prog 49 #[.slice a n c, .int .i64 f, .int .i64 t] w fun e w' => e = .returned (.tuple #[.slice none 0 0, .int .i64 (wErr n f t)]) ∧ w = w' := by
  by_cases h1 : 200 < n
  · have e1 : wErr n f t = 2 := by simp [wErr, h1]
    rw [e1]
    have d1 : decide (200 < (n : Int)) = true := decide_eq_true (by omega)
    clear h
    go_enter Try.func49, Try.ntmps49
    go_wp2
    go_ret2
    exact ⟨rfl, rfl⟩
  · have e1 : wErr n f t = 1 := by unfold wErr at h ⊢; rw [if_neg h1] at h ⊢; split at h; rw [if_pos ‹_›]; simp at h
    have h2 : f < 0 ∨ t < f ∨ (n : Int) < t := by
      unfold wErr at e1; rw [if_neg h1] at e1; split at e1; assumption; simp at e1
    rw [e1]
    have d1 : decide (200 < (n : Int)) = false := decide_eq_false (by omega)
    clear h e1
    by_cases g1 : f < 0
    · have d2 : decide (f < 0) = true := decide_eq_true g1
      go_enter Try.func49, Try.ntmps49
      go_wp2
      go_ret2
      exact ⟨rfl, rfl⟩
    have d2 : decide (f < 0) = false := decide_eq_false g1
    by_cases g2 : t < f
    · have d3 : decide (t < f) = true := decide_eq_true g2
      go_enter Try.func49, Try.ntmps49
      go_wp2
      go_ret2
      exact ⟨rfl, rfl⟩
    have d3 : decide (t < f) = false := decide_eq_false g2
    have d4 : decide ((n : Int) < t) = true := decide_eq_true (by omega)
    go_enter Try.func49, Try.ntmps49
    go_wp2
    go_ret2
    exact ⟨rfl, rfl⟩

/-- The first k numbers but those from f on below t. -/
def keepTo (l : List Int) (f t k : Nat) : List Int := l.take (min f k) ++ (l.take k).drop t
theorem keepTo_zero (l : List Int) (f t : Nat) : keepTo l f t 0 = [] := by simp [keepTo]
theorem keepTo_all {l : List Int} {f t n : Nat} (hn : l.length = n) (hf : f ≤ n) : keepTo l f t n = l.take f ++ l.drop t := by
  unfold keepTo
  rw [Nat.min_eq_left hf, List.take_of_length_le (by omega : l.length ≤ n)]
theorem keepTo_in {l : List Int} {f t k : Nat} {x : Int} (hft : f ≤ t) (hx : l[k]? = some x) (h : k < f ∨ t ≤ k) : keepTo l f t (k + 1) = keepTo l f t k ++ [x] := by
  have hk : k < l.length := (List.getElem?_eq_some_iff.1 hx).1
  unfold keepTo
  rcases h with h | h
  · rw [show min f (k + 1) = k + 1 by omega, show min f k = k by omega, List.drop_of_length_le (by simp; omega), List.drop_of_length_le (by simp; omega), List.take_add_one, hx]
    simp
  · rw [show min f (k + 1) = f by omega, show min f k = f by omega, List.take_add_one, hx, List.drop_append_of_le_length (by simp; omega), List.append_assoc]
    rfl
theorem keepTo_out {l : List Int} {f t k : Nat} (h1 : f ≤ k) (h2 : k < t) : keepTo l f t (k + 1) = keepTo l f t k := by
  unfold keepTo
  rw [show min f (k + 1) = f by omega, show min f k = f by omega, List.drop_of_length_le (by simp; omega), List.drop_of_length_le (by simp; omega)]
theorem keepTo_len (l : List Int) (f t k : Nat) : (keepTo l f t k).length ≤ 2 * l.length := by
  unfold keepTo
  simp
  omega
end Go.Proofs.Ytimlhjjdaggiiaa.small
