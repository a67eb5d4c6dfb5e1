/- LockupOrders: the reference's LockHas and LockOrders, walked. -/
import Derived.Test.YtfdpannanpipdaaFuncs
import Derived.Test.YtfdpannanpipdaaLockPlain
set_option linter.unusedVariables false
set_option linter.unusedSimpArgs false
namespace Go.Proofs.Ytfdpannanpipdaa.lock
open Go.Bk Go.RowKit

def hasRel (w : World) (l : List Api.Event) (t a : Int) (m : Nat) (v9 v10 : Value) (w' : World) : Prop := ∃ k : Nat, k ≤ m ∧ v10 = .int .i64 k ∧ v9 = .bool (hasAt (l.take k) t a) ∧ w = w'
theorem hasAt_succ {l : List Api.Event} {k : Nat} {x : Api.Event} (hx : l[k]? = some x) (t a : Int) : hasAt (l.take (k + 1)) t a = hasStep t a (hasAt (l.take k) t a) x := by
  rw [List.take_add_one, hx, ← hasAt_snoc]; rfl
set_option maxRecDepth 100000 in
set_option maxHeartbeats 1000000 in
theorem lockHas_any {S : Nat → Prop} {w : World} {ad : Option Addr} {c n m : Nat} {l : List Api.Event} {t a : Int} (hn : l.length = n) (h : Arr S w ad l) (hm : m ≤ n) :
    Calls Try.prog 109 #[.slice ad n c, .int .i64 t, .int .i64 a, .int .i64 m] w fun e w' => e = .returned (.bool (decide (a ∈ held (l.take m) t))) ∧ w = w' := by
  rw [← hasAt_held]
  have hsm := h.small
  rw [hn] at hsm
  unfold maxLen at hsm
  have HN := Lib.hid hn
  clear hn
  go_enter Try.func109, Try.ntmps109
  go_wp2
  go_loopw [9, 10] (hasRel w l t a m) (fun _ i _ => m - (intOf i).toNat)
  case atStart => exact ⟨0, Nat.zero_le _, rfl, rfl, rfl⟩
  case round =>
    obtain ⟨k, hk, rfl, rfl, rfl⟩ := hrel
    by_cases hlt : k < m
    · obtain ⟨x, hx⟩ : ∃ x, l[k]? = some x := ⟨_, List.getElem?_eq_getElem (by have := HN.out; omega)⟩
      have HS := Lib.hid (hasAt_succ hx t a)
      obtain ⟨b1, o1, rfl, -, q0, q1, q2, q3, q4, q5, q6, q7, q8, q9, q10, q11, -⟩ := api_Event_elem h hx
      have hkn : k < n := by omega
      clear hx h
      obtain ⟨H, hH⟩ : ∃ H, H = hasAt (l.take k) t a := ⟨_, rfl⟩
      rw [← hH] at HS ⊢
      clear hH
      have hcase : (x.Thread ≠ t) ∨ (x.Thread = t ∧ x.A ≠ a) ∨ (x.Thread = t ∧ x.A = a ∧ x.Kind = 13) ∨ (x.Thread = t ∧ x.A = a ∧ x.Kind = 14) ∨ (x.Thread = t ∧ x.A = a ∧ x.Kind ≠ 13 ∧ x.Kind ≠ 14) := by
        by_cases h1 : x.Thread = t <;> by_cases h2 : x.A = a <;> by_cases h3 : x.Kind = 13 <;> by_cases h4 : x.Kind = 14 <;> simp [h1, h2, h3, h4]
      rcases hcase with h1 | ⟨h1, h2⟩ | ⟨h1, h2, h3⟩ | ⟨h1, h2, h3⟩ | ⟨h1, h2, h3, h4⟩
      · have d1 : (x.Thread == t) = false := by simpa using h1
        have HR : Hid (hasStep t a H x = H) := by show _ = _; unfold hasStep; rw [if_neg (fun e => h1 e.1), if_neg (fun e => h1 e.1)]
        clear h1
        go_wp2
        go_roundw
        case rel => exact ⟨k + 1, by omega, by go_num, by rw [HS.out, HR.out], rfl⟩
        case measure => simp [intOf]; omega
      · have d1 : (x.Thread == t) = true := by simpa using h1
        have d2 : (x.A == a) = false := by simpa using h2
        have HR : Hid (hasStep t a H x = H) := by show _ = _; unfold hasStep; rw [if_neg (fun e => h2 e.2.1), if_neg (fun e => h2 e.2.1)]
        clear h1 h2
        go_wp2
        go_roundw
        case rel => exact ⟨k + 1, by omega, by go_num, by rw [HS.out, HR.out], rfl⟩
        case measure => simp [intOf]; omega
      · have d1 : (x.Thread == t) = true := by simpa using h1
        have d2 : (x.A == a) = true := by simpa using h2
        have d3 : (x.Kind == 13) = true := by simpa using h3
        have d4 : (x.Kind == 14) = false := by simp [h3]
        have HR : Hid (hasStep t a H x = true) := by show _ = _; unfold hasStep; rw [if_neg (fun e => by omega), if_pos ⟨h1, h2, h3⟩]
        clear h1 h2 h3
        go_wp2
        go_roundw
        case rel => exact ⟨k + 1, by omega, by go_num, by rw [HS.out, HR.out], rfl⟩
        case measure => simp [intOf]; omega
      · have d1 : (x.Thread == t) = true := by simpa using h1
        have d2 : (x.A == a) = true := by simpa using h2
        have d3 : (x.Kind == 13) = false := by simp [h3]
        have d4 : (x.Kind == 14) = true := by simp [h3]
        have HR : Hid (hasStep t a H x = false) := by show _ = _; unfold hasStep; rw [if_pos ⟨h1, h2, h3⟩]
        clear h1 h2 h3
        go_wp2
        go_roundw
        case rel => exact ⟨k + 1, by omega, by go_num, by rw [HS.out, HR.out], rfl⟩
        case measure => simp [intOf]; omega
      · have d1 : (x.Thread == t) = true := by simpa using h1
        have d2 : (x.A == a) = true := by simpa using h2
        have d3 : (x.Kind == 13) = false := by simpa using h3
        have d4 : (x.Kind == 14) = false := by simpa using h4
        have HR : Hid (hasStep t a H x = H) := by show _ = _; unfold hasStep; rw [if_neg (fun e => h4 e.2.2), if_neg (fun e => h3 e.2.2)]
        clear h1 h2 h3 h4
        go_wp2
        go_roundw
        case rel => exact ⟨k + 1, by omega, by go_num, by rw [HS.out, HR.out], rfl⟩
        case measure => simp [intOf]; omega
    · obtain rfl : k = m := by omega
      go_wp2
      go_ret
      exact ⟨rfl, rfl⟩

/-- Is the pair met at place k? -/
def ordAt (l : List Api.Event) (a b : Int) (k : Nat) : Prop := ∃ e, l[k]? = some e ∧ e.Kind = 13 ∧ e.A = b ∧ a ≠ b ∧ a ∈ held (l.take k) e.Thread
theorem orders_at (l : List Api.Event) (a b : Int) : Orders l a b ↔ ∃ k, k < l.length ∧ ordAt l a b k := by
  constructor
  · rintro ⟨i, e, h, hr⟩; exact ⟨i, (List.getElem?_eq_some_iff.1 h).1, e, h, hr⟩
  · rintro ⟨i, -, e, h, hr⟩; exact ⟨i, e, h, hr⟩
def ordB (l : List Api.Event) (a b : Int) : Bool := (List.range l.length).any fun k => match l[k]? with
  | some e => decide (e.Kind = 13 ∧ e.A = b ∧ a ≠ b ∧ a ∈ held (l.take k) e.Thread)
  | none => false
theorem ordB_iff {l : List Api.Event} {a b : Int} : ordB l a b = true ↔ Orders l a b := by
  unfold ordB
  rw [List.any_eq_true]
  constructor
  · rintro ⟨k, -, h⟩
    cases he : l[k]? with
    | none => rw [he] at h; cases h
    | some e => rw [he] at h; exact ⟨k, e, he, of_decide_eq_true h⟩
  · rintro ⟨k, e, he, h⟩
    refine ⟨k, List.mem_range.2 (List.getElem?_eq_some_iff.1 he).1, ?_⟩
    rw [he]
    exact decide_eq_true h
theorem ordB_true {l : List Api.Event} {a b : Int} (h : Orders l a b) : ordB l a b = true := ordB_iff.2 h
theorem ordB_false {l : List Api.Event} {a b : Int} (h : ¬ Orders l a b) : ordB l a b = false := by
  rw [Bool.eq_false_iff]
  exact fun e => h (ordB_iff.1 e)
def ordRel (w : World) (l : List Api.Event) (a b : Int) (n : Nat) (v7 : Value) (w' : World) : Prop := ∃ k : Nat, k ≤ n ∧ v7 = .int .i64 k ∧ (∀ j, j < k → ¬ ordAt l a b j) ∧ w = w'
set_option maxRecDepth 100000 in
set_option maxHeartbeats 1000000 in
theorem lockOrders_any {S : Nat → Prop} {w : World} {ad : Option Addr} {c n : Nat} {l : List Api.Event} {a b : Int} (hn : l.length = n) (h : Arr S w ad l) :
    Calls Try.prog 62 #[.slice ad n c, .int .i64 a, .int .i64 b] w fun e w' => e = .returned (.bool (ordB l a b)) ∧ w = w' := by
  have hsm := h.small
  rw [hn] at hsm
  unfold maxLen at hsm
  have HN := Lib.hid hn
  have HL : Hid (∀ t m, m ≤ n → Calls Try.prog 109 #[.slice ad n c, .int .i64 t, .int .i64 a, .int .i64 (m : Nat)] w fun e w' => e = .returned (.bool (decide (a ∈ held (l.take m) t))) ∧ w = w') := fun t m hm => lockHas_any hn h hm
  clear hn
  go_enter Try.func62, Try.ntmps62
  go_wp2
  go_loopw [7] (ordRel w l a b n) (fun i _ => n - (intOf i).toNat)
  case atStart => exact ⟨0, Nat.zero_le _, rfl, fun j hj => by omega, rfl⟩
  case round =>
    obtain ⟨k, hk, rfl, hno, rfl⟩ := hrel
    have HNO := Lib.hid hno
    clear hno
    by_cases hlt : k < n
    · obtain ⟨x, hx⟩ : ∃ x, l[k]? = some x := ⟨_, List.getElem?_eq_getElem (by have := HN.out; omega)⟩
      obtain ⟨b1, o1, rfl, -, q0, q1, q2, q3, q4, q5, q6, q7, q8, q9, q10, q11, -⟩ := api_Event_elem h hx
      have HX := Lib.hid hx
      clear hx h
      have HNEXT : Hid (¬ ordAt l a b k → ∀ j, j < k + 1 → ¬ ordAt l a b j) := fun h j hj => by
        by_cases e : j = k
        · subst e; exact h
        · exact HNO.out j (by omega)
      have hcase : (x.Kind ≠ 13) ∨ (x.Kind = 13 ∧ x.A ≠ b) ∨ (x.Kind = 13 ∧ x.A = b ∧ a = b) ∨ (x.Kind = 13 ∧ x.A = b ∧ a ≠ b ∧ a ∈ held (l.take k) x.Thread) ∨ (x.Kind = 13 ∧ x.A = b ∧ a ≠ b ∧ ¬ a ∈ held (l.take k) x.Thread) := by
        by_cases h1 : x.Kind = 13 <;> by_cases h2 : x.A = b <;> by_cases h3 : a = b <;> by_cases h4 : a ∈ held (l.take k) x.Thread <;> simp [h1, h2, h3, h4]
      rcases hcase with h1 | ⟨h1, h2⟩ | ⟨h1, h2, h3⟩ | ⟨h1, h2, h3, h4⟩ | ⟨h1, h2, h3, h4⟩
      · have d1 : (x.Kind == 13) = false := by simpa using h1
        have HR : Hid (¬ ordAt l a b k) := by rintro ⟨e, he, hh⟩; rw [HX.out] at he; cases he; exact h1 hh.1
        clear h1
        go_wp2
        go_roundw
        case rel => exact ⟨k + 1, by omega, by go_num, HNEXT.out HR.out, rfl⟩
        case measure => simp [intOf]; omega
      · have d1 : (x.Kind == 13) = true := by simpa using h1
        have d2 : (x.A == b) = false := by simpa using h2
        have HR : Hid (¬ ordAt l a b k) := by rintro ⟨e, he, hh⟩; rw [HX.out] at he; cases he; exact h2 hh.2.1
        clear h1 h2
        go_wp2
        go_roundw
        case rel => exact ⟨k + 1, by omega, by go_num, HNEXT.out HR.out, rfl⟩
        case measure => simp [intOf]; omega
      · have d1 : (x.Kind == 13) = true := by simpa using h1
        have d2 : (x.A == b) = true := by simpa using h2
        have d3 : (a != b) = false := by simpa using h3
        have HR : Hid (¬ ordAt l a b k) := by rintro ⟨e, he, hh⟩; exact hh.2.2.1 h3
        clear h1 h2 h3
        go_wp2
        go_roundw
        case rel => exact ⟨k + 1, by omega, by go_num, HNEXT.out HR.out, rfl⟩
        case measure => simp [intOf]; omega
      · have d1 : (x.Kind == 13) = true := by simpa using h1
        have d2 : (x.A == b) = true := by simpa using h2
        have d3 : (a != b) = true := by simpa using h3
        have HR : Hid (ordB l a b = true) := ordB_true ⟨k, x, HX.out, h1, h2, h3, h4⟩
        have HC := Lib.hid (HL.out x.Thread k (by omega))
        rw [decide_eq_true h4] at HC
        clear h1 h2 h3 h4
        go_wp2_with (go_at_call 109; (with_reducible refine HC.out.mono ?_); rintro e w' ⟨rfl, rfl⟩)
        go_ret
        exact ⟨by rw [HR.out]; rfl, rfl⟩
      · have d1 : (x.Kind == 13) = true := by simpa using h1
        have d2 : (x.A == b) = true := by simpa using h2
        have d3 : (a != b) = true := by simpa using h3
        have HR : Hid (¬ ordAt l a b k) := by rintro ⟨e, he, hh⟩; rw [HX.out] at he; cases he; exact h4 hh.2.2.2
        have HC := Lib.hid (HL.out x.Thread k (by omega))
        rw [decide_eq_false h4] at HC
        clear h1 h2 h3 h4
        go_wp2_with (go_at_call 109; (with_reducible refine HC.out.mono ?_); rintro e w' ⟨rfl, rfl⟩)
        go_roundw
        case rel => exact ⟨k + 1, by omega, by go_num, HNEXT.out HR.out, rfl⟩
        case measure => simp [intOf]; omega
    · obtain rfl : k = n := by omega
      go_wp2
      go_ret
      refine ⟨?_, rfl⟩
      rw [ordB_false]
      · rfl
      · rw [orders_at]
        rintro ⟨j, hj, hh⟩
        exact HNO.out j (by rw [← HN.out]; exact hj) hh
end Go.Proofs.Ytfdpannanpipdaa.lock
