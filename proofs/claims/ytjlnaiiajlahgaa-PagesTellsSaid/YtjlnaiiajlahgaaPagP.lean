/- PagesTells: the first page that nobody has, the first version that is dropped: walked. -/
import Derived.Test.YtjlnaiiajlahgaaPagO
set_option linter.unusedVariables false
set_option linter.unusedSimpArgs false
namespace Go.Proofs.Ytjlnaiiajlahgaa.pag
open Go.Bk Go.RowKit

def idxRes {α : Type} (p : α → Bool) (l : List α) : Int := if l.findIdx p < l.length then (l.findIdx p : Nat) else -1
theorem idxRes_at {α : Type} {p : α → Bool} {l : List α} {k : Nat} {y : α} (h : ∀ i x, i < k → l[i]? = some x → p x = false) (hk : l[k]? = some y) (hy : p y = true) : idxRes p l = (k : Nat) := by
  have hl : k < l.length := (List.getElem?_eq_some_iff.1 hk).1
  have e := findIdx_is h (fun x hx => by rw [hk] at hx; cases hx; exact hy) (Nat.le_of_lt hl)
  unfold idxRes
  rw [e, if_pos hl]
theorem idxRes_none {α : Type} {p : α → Bool} {l : List α} (h : ∀ i x, i < l.length → l[i]? = some x → p x = false) : idxRes p l = -1 := by
  have e := findIdx_is h (fun x hx => by simp at hx) (Nat.le_refl _)
  unfold idxRes
  rw [e, if_neg (Nat.lt_irrefl _)]
def firstRel {α : Type} (p : α → Bool) (l : List α) (w : World) (v8 : Value) (w' : World) : Prop := ∃ k : Nat, k ≤ l.length ∧ v8 = .int .i64 k ∧ (∀ i x, i < k → l[i]? = some x → p x = false) ∧ w = w'
set_option maxRecDepth 100000 in
theorem idx_any {S : Nat → Prop} {w : World} {a : Option Addr} {c n : Nat} {xs : List Int} (hn : xs.length = n) (h : Arr S w a xs) :
    Calls Try.prog 54 #[.slice a n c, .int .i64 0] w fun e w' => e = .returned (.int .i64 (idxRes (fun u => decide (u = 0)) xs)) ∧ w = w' := by
  have hm := h.small
  rw [hn] at hm
  unfold maxLen at hm
  have HN := Lib.hid hn
  clear hn
  go_enter Try.func54, Try.ntmps54
  go_wp2
  go_loopw [8] (fun i w' => firstRel (fun u => decide (u = 0)) xs w i w') (fun i _ => n - (intOf i).toNat)
  case atStart => exact ⟨0, Nat.zero_le _, rfl, fun i x hi => absurd hi (Nat.not_lt_zero _), rfl⟩
  case round =>
    obtain ⟨k, hk, rfl, hni, rfl⟩ := hrel
    rw [HN.out] at hk
    have HNI := Lib.hid hni
    clear hni
    by_cases hlt : k < n
    · obtain ⟨y, hy⟩ : ∃ y, xs[k]? = some y := ⟨_, List.getElem?_eq_getElem (by have := HN.out; omega)⟩
      obtain ⟨b1, o1, rfl, -, q1, hi⟩ := arr_int h hy
      have HY := Lib.hid hy
      clear hy h hi
      by_cases he : 0 = y
      · have he2 : ((0 : Int) == y) = true := by simpa using he
        have HE := Lib.hid he
        clear he
        go_wp2
        go_ret
        exact ⟨by rw [idxRes_at HNI.out HY.out (decide_eq_true HE.out.symm)]; rfl, rfl⟩
      · have he2 : ((0 : Int) == y) = false := by simpa using he
        have HE := Lib.hid he
        clear he
        go_wp2
        go_roundw
        case rel =>
          refine ⟨k + 1, by have := HN.out; omega, by go_num, fun i x hi hx => ?_, by trivial⟩
          by_cases e : i = k
          · subst e
            rw [HY.out] at hx
            cases hx
            exact decide_eq_false fun e => HE.out e.symm
          · exact HNI.out i x (by omega) hx
        case measure => simp [intOf]; omega
    · obtain rfl : k = n := by omega
      go_wp2
      go_ret
      exact ⟨by rw [idxRes_none (p := fun u => decide (u = (0 : Int))) (l := xs) (by rw [HN.out]; exact HNI.out)]; rfl, rfl⟩
set_option maxRecDepth 100000 in
theorem rootF_any {w : World} {a : Option Addr} {c n : Nat} : Calls Try.prog 56 #[.slice a n c] w fun e w' => e = .returned (.bool (decide (n = 0))) ∧ w = w' := by
  have hd : ((n : Int) == 0) = decide (n = 0) := by
    by_cases h : n = 0
    · simp [h]
    · simp [h]
  go_enter Try.func56, Try.ntmps56
  go_wp2
  go_ret
  exact ⟨rfl, rfl⟩
set_option maxRecDepth 100000 in
theorem idxF_any {S : Nat → Prop} {w : World} {a : Option Addr} {c n : Nat} {l : List (List Int)} (hn : l.length = n) (h : Arr S w a l) :
    Calls Try.prog 55 #[.slice a n c, .func (.func 56) #[] #[]] w fun e w' => e = .returned (.int .i64 (idxRes (fun r => decide (r = [])) l)) ∧ w = w' := by
  have hm := h.small
  rw [hn] at hm
  unfold maxLen at hm
  have HN := Lib.hid hn
  have HF : Hid (∀ (a : Option Addr) (m c : Nat) (w : World), Calls Try.prog 56 #[.slice a m c] w fun e w' => e = .returned (.bool (decide (m = 0))) ∧ w = w') := fun a m c w => rootF_any
  clear hn
  go_enter Try.func55, Try.ntmps55
  go_wp2
  go_loopw [8] (fun i w' => firstRel (fun r => decide (r = [])) l w i w') (fun i _ => n - (intOf i).toNat)
  case atStart => exact ⟨0, Nat.zero_le _, rfl, fun i x hi => absurd hi (Nat.not_lt_zero _), rfl⟩
  case round =>
    obtain ⟨k, hk, rfl, hni, rfl⟩ := hrel
    rw [HN.out] at hk
    have HNI := Lib.hid hni
    clear hni
    by_cases hlt : k < n
    · obtain ⟨y, hy⟩ : ∃ y, l[k]? = some y := ⟨_, List.getElem?_eq_getElem (by have := HN.out; omega)⟩
      obtain ⟨b1, o1, a', c', rfl, -, q0, -, -, -⟩ := row_elem h hy
      have HY := Lib.hid hy
      obtain ⟨m, hm⟩ : ∃ m, m = y.length := ⟨_, rfl⟩
      rw [← hm] at q0
      have HM := Lib.hid hm
      clear hy h hm
      by_cases he : m = 0
      · have he2 : decide (m = 0) = true := decide_eq_true he
        have HE := Lib.hid he
        clear he
        go_wp2_with (refine (HF.out _ _ _ _).mono ?_; rintro e w2 ⟨rfl, rfl⟩)
        go_ret
        exact ⟨by rw [idxRes_at HNI.out HY.out (decide_eq_true (List.eq_nil_of_length_eq_zero (HM.out.symm.trans HE.out)))]; rfl, rfl⟩
      · have he2 : decide (m = 0) = false := decide_eq_false he
        have HE := Lib.hid he
        clear he
        go_wp2_with (refine (HF.out _ _ _ _).mono ?_; rintro e w2 ⟨rfl, rfl⟩)
        go_roundw
        case rel =>
          refine ⟨k + 1, by have := HN.out; omega, by go_num, fun i x hi hx => ?_, by trivial⟩
          by_cases e : i = k
          · subst e
            rw [HY.out] at hx
            cases hx
            exact decide_eq_false fun e => HE.out (by rw [HM.out, e]; rfl)
          · exact HNI.out i x (by omega) hx
        case measure => simp [intOf]; omega
    · obtain rfl : k = n := by omega
      go_wp2
      go_ret
      exact ⟨by rw [idxRes_none (p := fun r => decide (r = ([] : List Int))) (l := l) (by rw [HN.out]; exact HNI.out)]; rfl, rfl⟩
end Go.Proofs.Ytjlnaiiajlahgaa.pag
