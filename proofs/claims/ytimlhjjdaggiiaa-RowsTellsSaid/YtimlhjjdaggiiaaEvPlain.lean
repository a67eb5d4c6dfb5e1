/- Plain: lists of events, and places in them. -/
import Derived.Test.YtimlhjjdaggiiaaTy
import Derived.Test.YtimlhjjdaggiiaaMore
set_option linter.unusedVariables false
set_option linter.unusedSimpArgs false
namespace Go.Proofs.Ytimlhjjdaggiiaa
open Go.Bk Go.RowKit

/-- An event as a value. -/
def evV (e : Api.Event) : Value := .agg #[.int .i64 e.Kind, .int .i64 e.Step, .int .i64 e.Thread, .int .i64 e.Fn, .int .i64 e.At, .int .i64 e.Line, .int .i64 e.A, .int .i64 e.B, .int .i64 e.Val.Kind, .int .i64 e.Val.N, .int .i64 e.Old.Kind, .int .i64 e.Old.N]
def evCells (e : Api.Event) : List Value := [.int .i64 e.Kind, .int .i64 e.Step, .int .i64 e.Thread, .int .i64 e.Fn, .int .i64 e.At, .int .i64 e.Line, .int .i64 e.A, .int .i64 e.B, .int .i64 e.Val.Kind, .int .i64 e.Val.N, .int .i64 e.Old.Kind, .int .i64 e.Old.N]
/-- The places up to q of which it holds. -/
def placesTo {α : Type} (p : α → Bool) (l : List α) (q : Nat) : List Int := ((List.range q).filter fun i => (l[i]?).any p).map Int.ofNat
theorem placesTo_succ {α : Type} {p : α → Bool} {l : List α} {q : Nat} {e : α} (h : l[q]? = some e) : placesTo p l (q + 1) = placesTo p l q ++ (if p e then [(q : Int)] else []) := by
  unfold placesTo
  rw [List.range_succ, List.filter_append, List.map_append]
  congr 1
  simp only [List.filter_cons, List.filter_nil, h, Option.any_some]
  split <;> simp
theorem placesTo_len {α : Type} (p : α → Bool) (l : List α) (q : Nat) : (placesTo p l q).length ≤ q := by
  unfold placesTo
  rw [List.length_map]
  exact Nat.le_trans (List.length_filter_le _ _) (by simp)
theorem placesTo_i64 {α : Type} {p : α → Bool} {l : List α} {q : Nat} (hq : q ≤ 1000000) : ∀ x ∈ placesTo p l q, I64 x := by
  intro x hx
  unfold placesTo at hx
  obtain ⟨k, hk, rfl⟩ := List.mem_map.1 hx
  have := (List.mem_filter.1 hk).1
  simp at this
  unfold I64
  simp
  omega
def evErr (l : List Api.Event) : Int := if 200 < l.length then 2 else 0
def placesRes {α : Type} (p : α → Bool) (l : List α) : List Int × Int := if 200 < l.length then ([], 2) else (placesTo p l l.length, 0)
/-- Kinds, counted. -/
def knd (e : Api.Event) : Int := if e.Kind < 0 ∨ 17 < e.Kind then 0 else e.Kind
theorem knd_lt (e : Api.Event) : 0 ≤ knd e ∧ knd e < 18 := by unfold knd; split <;> omega
def countTo (l : List Api.Event) (q : Nat) : List Int := (List.range 18).map fun (n : Nat) => (((l.take q).countP fun e => knd e == (n : Int) : Nat) : Int)
theorem countTo_len (l : List Api.Event) (q : Nat) : (countTo l q).length = 18 := by simp [countTo]
theorem countTo_get (l : List Api.Event) (q n : Nat) (h : n < 18) : (countTo l q)[n]? = some (((l.take q).countP fun e => knd e == (n : Int) : Nat) : Int) := by
  unfold countTo; rw [List.getElem?_map, List.getElem?_range h]; rfl
theorem countTo_zero (l : List Api.Event) : countTo l 0 = List.replicate 18 0 := by simp [countTo]; rfl
theorem countTo_succ {l : List Api.Event} {q : Nat} {e : Api.Event} (h : l[q]? = some e) {k : Nat} (hk : knd e = k) (c : Int) (hc : (countTo l q)[k]? = some c) : (countTo l q).set k (c + 1) = countTo l (q + 1) := by
  have hk18 : k < 18 := by have := knd_lt e; omega
  refine List.ext_getElem? fun n => ?_
  by_cases hn : n < 18
  · rw [countTo_get _ _ _ hn, List.take_add_one, h, List.countP_append]
    by_cases hkn : k = n
    · subst hkn
      rw [List.getElem?_set_self (by rw [countTo_len]; exact hn)]
      rw [countTo_get _ _ _ hn] at hc
      cases hc
      simp [hk]
    · rw [List.getElem?_set_ne hkn, countTo_get _ _ _ hn]
      have : (knd e == (n : Int)) = false := by rw [hk]; simp; omega
      simp [this]
  · rw [List.getElem?_eq_none (by rw [List.length_set, countTo_len]; omega), List.getElem?_eq_none (by rw [countTo_len]; omega)]
theorem countTo_le {l : List Api.Event} {q k : Nat} {c : Int} (hc : (countTo l q)[k]? = some c) : 0 ≤ c ∧ c ≤ q := by
  have hk : k < 18 := by have := (List.getElem?_eq_some_iff.1 hc).1; rwa [countTo_len] at this
  rw [countTo_get _ _ _ hk] at hc
  cases hc
  have := List.countP_le_length (p := fun e : Api.Event => knd e == (k : Int)) (l := l.take q)
  simp at this
  omega
def countRes (l : List Api.Event) : List Int × Int := if 200 < l.length then ([], 2) else (countTo l l.length, 0)
/-- Threads' places, thread by thread. -/
def thrTo (l : List Api.Event) (m q : Nat) : List (List Int) := (List.range m).map fun (t : Nat) => placesTo (fun e : Api.Event => e.Thread == (t : Int)) l q
theorem thrTo_len (l : List Api.Event) (m q : Nat) : (thrTo l m q).length = m := by simp [thrTo]
theorem thrTo_get {l : List Api.Event} {m q t : Nat} (h : t < m) : (thrTo l m q)[t]? = some (placesTo (fun e : Api.Event => e.Thread == (t : Int)) l q) := by unfold thrTo; rw [List.getElem?_map, List.getElem?_range h]; rfl
theorem thrTo_zero (l : List Api.Event) (m : Nat) : thrTo l m 0 = List.replicate m [] := by
  refine List.ext_getElem? fun n => ?_
  rw [List.getElem?_replicate]
  by_cases hn : n < m
  · rw [thrTo_get hn, if_pos hn]; rfl
  · rw [if_neg hn, List.getElem?_eq_none (by rw [thrTo_len]; omega)]
theorem thrTo_succ {l : List Api.Event} {m q t : Nat} {e : Api.Event} (h : l[q]? = some e) (ht : e.Thread = t) (htm : t < m) {x : List Int} (hx : (thrTo l m q)[t]? = some x) : (thrTo l m q).set t (x ++ [(q : Int)]) = thrTo l m (q + 1) := by
  refine List.ext_getElem? fun n => ?_
  by_cases hn : n < m
  · rw [thrTo_get hn, placesTo_succ h]
    by_cases htn : t = n
    · subst htn
      rw [List.getElem?_set_self (by rw [thrTo_len]; exact hn)]
      rw [thrTo_get hn] at hx
      cases hx
      simp [ht]
    · rw [List.getElem?_set_ne htn, thrTo_get hn]
      have : (e.Thread == (n : Int)) = false := by rw [ht]; simp; omega
      simp [this]
  · rw [List.getElem?_eq_none (by rw [List.length_set, thrTo_len]; omega), List.getElem?_eq_none (by rw [thrTo_len]; omega)]
theorem thrTo_skip {l : List Api.Event} {m q : Nat} {e : Api.Event} (h : l[q]? = some e) (ht : e.Thread < 0 ∨ (m : Int) ≤ e.Thread) : thrTo l m q = thrTo l m (q + 1) := by
  refine List.ext_getElem? fun n => ?_
  by_cases hn : n < m
  · rw [thrTo_get hn, thrTo_get hn, placesTo_succ h]
    have : (e.Thread == (n : Int)) = false := by simp; omega
    simp [this]
  · rw [List.getElem?_eq_none (by rw [thrTo_len]; omega), List.getElem?_eq_none (by rw [thrTo_len]; omega)]
def thrRes (l : List Api.Event) (m : Int) : List (List Int) × Int := if 200 < l.length then ([], 2) else if m < 0 ∨ 8 < m then ([], 1) else (thrTo l m.toNat l.length, 0)
end Go.Proofs.Ytimlhjjdaggiiaa
