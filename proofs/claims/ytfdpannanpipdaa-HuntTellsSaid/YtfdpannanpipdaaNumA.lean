/- What parts may be: both tests, walked. -/
import Derived.Test.YtfdpannanpipdaaNumPlain
import Derived.Test.YtfdpannanpipdaaFuncs
set_option linter.unusedVariables false
set_option linter.unusedSimpArgs false
namespace Go.Proofs.Ytfdpannanpipdaa.num
open Go.Bk Go.RowKit

theorem sumI_succ {l : List Int} {k : Nat} {x : Int} (h : l[k]? = some x) : (l.take (k + 1)).sum = (l.take k).sum + x := by
  rw [List.take_add_one, h]; simp
theorem mem_succ {l : List Int} {k : Nat} {x y : Int} (h : l[k]? = some x) : y ∈ l.take (k + 1) ↔ y ∈ l.take k ∨ y = x := by
  rw [List.take_add_one, h]; simp
theorem sumI_le {l : List Int} (h : ∀ x ∈ l, 0 ≤ x) {x : Int} (hx : x ∈ l) : x ≤ l.sum := by
  induction l with
  | nil => cases hx
  | cons y l ih =>
    have h0 : 0 ≤ l.sum := by
      have : ∀ l : List Int, (∀ x ∈ l, 0 ≤ x) → 0 ≤ l.sum := by
        intro l
        induction l with
        | nil => intro _; simp
        | cons z l ih => intro h; have := ih (fun x hx => h x (List.mem_cons_of_mem _ hx)); have := h z List.mem_cons_self; simp; omega
      exact this l (fun x hx => h x (List.mem_cons_of_mem _ hx))
    simp
    rcases List.mem_cons.1 hx with rfl | hx
    · omega
    · have := ih (fun x hx => h x (List.mem_cons_of_mem _ hx)) hx
      have := h y List.mem_cons_self
      omega
def rightRel (w : World) (l : List Int) (all i : Value) (w' : World) : Prop :=
  ∃ k : Nat, k ≤ l.length ∧ i = .int .i64 k ∧ (∀ x ∈ l.take k, 0 ≤ x) ∧ 0 ≤ (l.take k).sum ∧ all = .int .i64 (min (l.take k).sum 99) ∧ w = w'

set_option maxRecDepth 100000 in
set_option maxHeartbeats 1000000 in
theorem right_any {S : Nat → Prop} {w : World} {a : Option Addr} {c n : Nat} {l : List Int} (hn : l.length = n) (h : Arr S w a l) :
    Calls Try.prog 75 #[.slice a n c] w fun e w' => e = .returned (.int .i64 (perr l)) ∧ w = w' := by
  have hsm := h.small
  rw [hn] at hsm
  unfold maxLen at hsm
  have HN := Lib.hid hn
  obtain ⟨R, hR⟩ : ∃ R, R = perr l := ⟨_, rfl⟩
  rw [← hR]
  by_cases h8 : 8 < n
  · have HR : Hid (R = 2) := by show _ = _; rw [hR]; unfold perr; rw [if_pos (by rw [hn]; exact h8)]
    clear hR hn h
    go_enter Try.func75, Try.ntmps75
    go_wp2_with fail
    go_ret
    exact ⟨by rw [HR.out]; rfl, rfl⟩
  · have HR : Hid (R = if ∃ x ∈ l, x < 0 then 1 else if 12 < l.sum then 2 else 0) := by show _ = _; rw [hR]; unfold perr; rw [if_neg (by rw [hn]; exact h8)]
    clear hR hn
    go_enter Try.func75, Try.ntmps75
    go_wp2_with fail
    go_loopw [3, 11] (rightRel w l) (fun _ i _ => l.length - (intOf i).toNat)
    case atStart => exact ⟨0, Nat.zero_le _, rfl, by simp, by simp, rfl, rfl⟩
    case round =>
      obtain ⟨k, hk, rfl, hnn, hs0, rfl, rfl⟩ := hrel
      have HNN := Lib.hid hnn
      obtain ⟨s, hs⟩ : ∃ s, s = min (l.take k).sum 99 := ⟨_, rfl⟩
      have hs9 : s ≤ 99 := by omega
      have hs1 : 0 ≤ s := by omega
      rw [← hs]
      have HS := Lib.hid hs
      have h' := h
      clear hnn hs h
      by_cases hlt : k < l.length
      · have hlt2 := hlt
        rw [HN.out] at hlt2
        obtain ⟨x, hx⟩ : ∃ x, l[k]? = some x := ⟨_, List.getElem?_eq_getElem hlt⟩
        obtain ⟨b1, o1, rfl, -, q1, hi⟩ := arr_int h' hx
        have HX := Lib.hid hx
        unfold I64 at hi
        clear h' hx
        by_cases hneg : x < 0
        · have HRE : Hid (R = 1) := by
            show _ = _
            rw [HR.out, if_pos ⟨x, List.mem_of_getElem? HX.out, hneg⟩]
          go_wp2_with fail
          go_ret
          exact ⟨by rw [HRE.out]; rfl, rfl⟩
        · have HM2 : Hid (∀ y ∈ l.take (k + 1), 0 ≤ y) := fun y hy => by
            rcases (mem_succ HX.out).1 hy with h | rfl
            · exact HNN.out y h
            · omega
          have HSS := Lib.hid (sumI_succ HX.out)
          by_cases h99 : x ≤ 99
          · by_cases h2 : s + x ≤ 99
            · go_wp2_with fail
              go_roundw
              case rel => exact ⟨k + 1, hlt, by go_num, HM2.out, by rw [HSS.out]; omega, by have := HS.out; rw [HSS.out]; congr 1; omega, rfl⟩
              case measure => simp [intOf]; omega
            · go_wp2_with fail
              go_roundw
              case rel => exact ⟨k + 1, hlt, by go_num, HM2.out, by rw [HSS.out]; omega, by have := HS.out; rw [HSS.out]; congr 1; omega, rfl⟩
              case measure => simp [intOf]; omega
          · by_cases h2 : s + 99 ≤ 99
            · go_wp2_with fail
              go_roundw
              case rel => exact ⟨k + 1, hlt, by go_num, HM2.out, by rw [HSS.out]; omega, by have := HS.out; rw [HSS.out]; congr 1; omega, rfl⟩
              case measure => simp [intOf]; omega
            · go_wp2_with fail
              go_roundw
              case rel => exact ⟨k + 1, hlt, by go_num, HM2.out, by rw [HSS.out]; omega, by have := HS.out; rw [HSS.out]; congr 1; omega, rfl⟩
              case measure => simp [intOf]; omega
      · have hkn : k = l.length := by omega
        have hkn2 := hkn
        rw [HN.out] at hkn2
        have HTA : Hid (l.take k = l) := by show _ = _; rw [hkn, List.take_length]
        have hR2 : R = if 12 < s then 2 else 0 := by
          have := HS.out
          have hnn := HNN.out
          rw [HTA.out] at this hnn
          rw [HR.out, if_neg (by rintro ⟨x, hx, hx0⟩; have := hnn x hx; omega)]
          by_cases hb : 12 < l.sum
          · rw [if_pos hb, if_pos (by omega)]
          · rw [if_neg hb, if_neg (by omega)]
        have HR2 := Lib.hid hR2
        clear hR2 hkn h' hlt
        subst hkn2
        by_cases h12 : 12 < s
        · go_wp2_with fail
          go_ret
          exact ⟨by rw [HR2.out, if_pos h12]; rfl, rfl⟩
        · go_wp2_with fail
          go_ret
          exact ⟨by rw [HR2.out, if_neg (by omega)]; rfl, rfl⟩

def perrRel (w : World) (l : List Int) (large all i : Value) (w' : World) : Prop :=
  ∃ (k : Nat) (B : Bool) (A : Int), k ≤ l.length ∧ i = .int .i64 k ∧ large = .bool B ∧ all = .int .i64 A ∧ (∀ x ∈ l.take k, 0 ≤ x) ∧ 0 ≤ A ∧ A ≤ 12 * k ∧ (B = true → ∃ x ∈ l.take k, 12 < x) ∧ (B = false → A = (l.take k).sum) ∧ w = w'

set_option maxRecDepth 100000 in
set_option maxHeartbeats 1000000 in
theorem partsErr_any {S : Nat → Prop} {w : World} {a : Option Addr} {c n : Nat} {l : List Int} (hn : l.length = n) (h : Arr S w a l) :
    Calls Try.prog 28 #[.slice a n c] w fun e w' => e = .returned (.int .i64 (perr l)) ∧ w = w' := by
  have hsm := h.small
  rw [hn] at hsm
  unfold maxLen at hsm
  have HN := Lib.hid hn
  obtain ⟨R, hR⟩ : ∃ R, R = perr l := ⟨_, rfl⟩
  rw [← hR]
  by_cases h8 : 8 < n
  · have HR : Hid (R = 2) := by show _ = _; rw [hR]; unfold perr; rw [if_pos (by rw [hn]; exact h8)]
    clear hR hn h
    go_enter Try.func28, Try.ntmps28
    go_wp2_with fail
    go_ret
    exact ⟨by rw [HR.out]; rfl, rfl⟩
  · have HR : Hid (R = if ∃ x ∈ l, x < 0 then 1 else if 12 < l.sum then 2 else 0) := by show _ = _; rw [hR]; unfold perr; rw [if_neg (by rw [hn]; exact h8)]
    have hn8 : n ≤ 8 := by omega
    clear hR hn
    go_enter Try.func28, Try.ntmps28
    go_wp2_with fail
    go_loopw [3, 4, 5] (perrRel w l) (fun _ _ i _ => l.length - (intOf i).toNat)
    case atStart => exact ⟨0, false, 0, Nat.zero_le _, rfl, rfl, rfl, by simp, by simp, by simp, by simp, by simp, rfl⟩
    case round =>
      obtain ⟨k, B, A, hk, rfl, rfl, rfl, hnn, hA0, hA1, hB1, hB2, rfl⟩ := hrel
      have HNN := Lib.hid hnn
      have HB1 := Lib.hid hB1
      have HB2 := Lib.hid hB2
      have h' := h
      clear hnn h hB1 hB2
      by_cases hlt : k < l.length
      · have hlt2 := hlt
        rw [HN.out] at hlt2
        obtain ⟨x, hx⟩ : ∃ x, l[k]? = some x := ⟨_, List.getElem?_eq_getElem hlt⟩
        obtain ⟨b1, o1, rfl, -, q1, hi⟩ := arr_int h' hx
        have HX := Lib.hid hx
        unfold I64 at hi
        clear h' hx
        by_cases hneg : x < 0
        · have HRE : Hid (R = 1) := by
            show _ = _
            rw [HR.out, if_pos ⟨x, List.mem_of_getElem? HX.out, hneg⟩]
          go_wp2_with fail
          go_ret
          exact ⟨by rw [HRE.out]; rfl, rfl⟩
        · have HM2 : Hid (∀ y ∈ l.take (k + 1), 0 ≤ y) := fun y hy => by
            rcases (mem_succ HX.out).1 hy with h | rfl
            · exact HNN.out y h
            · omega
          have HSS := Lib.hid (sumI_succ HX.out)
          have hup : ∀ P : Int → Prop, (∃ y ∈ l.take k, P y) → ∃ y ∈ l.take (k + 1), P y := fun P ⟨y, hy, hp⟩ => ⟨y, (mem_succ HX.out).2 (.inl hy), hp⟩
          have HUP := Lib.hid hup
          clear hup
          cases B with
          | true =>
            go_wp2_with fail
            go_roundw
            case rel => exact ⟨k + 1, true, A, hlt, by go_num, rfl, rfl, HM2.out, hA0, by omega, fun _ => HUP.out _ (HB1.out rfl), (fun h => by cases h), rfl⟩
            case measure => simp [intOf]; omega
          | false =>
            by_cases h12 : 12 < x
            · go_wp2_with fail
              go_roundw
              case rel => exact ⟨k + 1, true, A, hlt, by go_num, rfl, rfl, HM2.out, hA0, by omega, fun _ => ⟨x, (mem_succ HX.out).2 (.inr rfl), h12⟩, (fun h => by cases h), rfl⟩
              case measure => simp [intOf]; omega
            · go_wp2_with fail
              go_roundw
              case rel => exact ⟨k + 1, false, A + x, hlt, by go_num, rfl, rfl, HM2.out, by omega, by omega, (fun h => by cases h), fun _ => by rw [HSS.out, HB2.out rfl], rfl⟩
              case measure => simp [intOf]; omega
      · have hkn : k = l.length := by omega
        have hkn2 := hkn
        rw [HN.out] at hkn2
        have HTA : Hid (l.take k = l) := by show _ = _; rw [hkn, List.take_length]
        have hR1 : R = if 12 < l.sum then 2 else 0 := by
          have hnn := HNN.out
          rw [HTA.out] at hnn
          rw [HR.out, if_neg (by rintro ⟨x, hx, hx0⟩; have := hnn x hx; omega)]
        have HR1 := Lib.hid hR1
        clear hR1 hkn h' hlt
        subst hkn2
        cases B with
        | true =>
          have HR2 : Hid (R = 2) := by
            show _ = _
            obtain ⟨x, hx, hx12⟩ := HB1.out rfl
            have := sumI_le HNN.out hx
            rw [HTA.out] at this
            rw [HR1.out, if_pos (by omega)]
          go_wp2_with fail
          go_ret
          exact ⟨by rw [HR2.out]; rfl, rfl⟩
        | false =>
          have HS : Hid (l.sum = A) := by show _ = _; rw [HB2.out rfl, HTA.out]
          by_cases h12 : 12 < A
          · go_wp2_with fail
            go_ret
            exact ⟨by rw [HR1.out, HS.out, if_pos h12]; rfl, rfl⟩
          · go_wp2_with fail
            go_ret
            exact ⟨by rw [HR1.out, HS.out, if_neg (by omega)]; rfl, rfl⟩
end Go.Proofs.Ytfdpannanpipdaa.num
