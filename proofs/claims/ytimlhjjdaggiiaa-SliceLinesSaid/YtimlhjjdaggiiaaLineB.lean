/- right of lines, walked: IndexFunc and ContainsFunc of lines. -/
import Derived.Test.YtimlhjjdaggiiaaLineA
set_option linter.unusedVariables false
set_option linter.unusedSimpArgs false
namespace Go.Proofs.Ytimlhjjdaggiiaa.line
open Go.Bk Go.RowKit

set_option maxRecDepth 100000 in
theorem indexFuncL_any {R : World → World → Prop} (hR : Mild R) {S : Nat → Prop} {w : World} {a : Option Addr} {c : Nat} {xs : List Api.DLet} {F : FuncId} {caps : Array Value} {p : Api.DLet → Bool} (h : Arr S w a xs) (hS : ∀ b, S b → b < w.heap.size)
    (hF : ∀ (y : Value) (w : World), (callFunc F (#[y] ++ caps)).run Try.prog w = .ok (.enter F (#[y] ++ caps)) w)
    (hp : ∀ (y : Api.DLet) (wx : World), R w wx → Calls Try.prog F (#[letV y] ++ caps) wx fun e w' => e = .returned (.bool (p y)) ∧ R wx w') :
    Calls Try.prog 155 #[.slice a xs.length c, .func (.func F) #[] caps] w fun e w' => e = .returned (.int .i64 (findRes p xs)) ∧ R w w' := by
  have hm := h.small
  unfold maxLen at hm
  have HP := Lib.hid hp
  clear hp
  go_enter Try.func155, Try.ntmps155
  go_wp2
  go_loopw [8] (fun i w' => ∃ k : Nat, k ≤ xs.length ∧ i = .int .i64 k ∧ firstTo p xs k ∧ R w w') (fun i _ => xs.length - (intOf i).toNat)
  case atStart => exact ⟨0, Nat.zero_le _, rfl, fun j x hj => by omega, hR.refl _⟩
  case round =>
    obtain ⟨k, hk, rfl, hfi, hq⟩ := hrel
    have h' := h.keep (w' := wr) (fun b hb => (hR.below hq).block b (hS b hb))
    have HQ := Lib.hid hq; have HFI := Lib.hid hfi
    clear hq hfi
    by_cases hlt : k < xs.length
    · obtain ⟨y, hy⟩ : ∃ y, xs[k]? = some y := ⟨_, List.getElem?_eq_getElem hlt⟩
      obtain ⟨b, off, rfl, -, q1, q2, q3, q4, g1, g2, g3, g4⟩ := api_DLet_elem h' hy
      have HY := Lib.hid hy
      clear hy h h'
      go_wp2_with fail
      refine (HP.out y _ HQ.out).mono ?_
      rintro e w2 ⟨rfl, hq2⟩
      have HQ2 := Lib.hid (hR.trans HQ.out hq2)
      clear hq2
      cases hpy : p y with
      | true =>
        have HPY := Lib.hid hpy
        clear hpy
        go_wp2
        go_ret
        exact ⟨by rw [findRes_at HFI.out HY.out HPY.out]; rfl, HQ2.out⟩
      | false =>
        have HPY := Lib.hid hpy
        clear hpy
        go_wp2
        go_roundw
        case rel => exact ⟨k + 1, by omega, by go_num, HFI.out.succ HY.out HPY.out, HQ2.out⟩
        case measure => simp [intOf] <;> omega
    · obtain rfl : k = xs.length := by omega
      go_wp2
      go_ret
      exact ⟨by rw [findRes_none HFI.out]; rfl, HQ.out⟩

set_option maxRecDepth 100000 in
theorem containsFuncL_any {R : World → World → Prop} (hR : Mild R) {S : Nat → Prop} {w : World} {a : Option Addr} {c : Nat} {xs : List Api.DLet} {F : FuncId} {caps : Array Value} {p : Api.DLet → Bool} (h : Arr S w a xs) (hS : ∀ b, S b → b < w.heap.size)
    (hF : ∀ (y : Value) (w : World), (callFunc F (#[y] ++ caps)).run Try.prog w = .ok (.enter F (#[y] ++ caps)) w)
    (hp : ∀ (y : Api.DLet) (wx : World), R w wx → Calls Try.prog F (#[letV y] ++ caps) wx fun e w' => e = .returned (.bool (p y)) ∧ R wx w') :
    Calls Try.prog 145 #[.slice a xs.length c, .func (.func F) #[] caps] w fun e w' => e = .returned (.bool (xs.any p)) ∧ R w w' := by
  have HP := Lib.hid (indexFuncL_any hR (c := c) h hS hF hp)
  clear hp hF
  go_enter Try.func145, Try.ntmps145
  go_wp2_with (with_reducible refine HP.out.mono ?_; rintro e w' ⟨rfl, hq⟩)
  go_ret
  exact ⟨by rw [← findRes_nonneg]; rfl, hq⟩

set_option maxRecDepth 100000 in
theorem right_any {S : Nat → Prop} {w : World} {a : Option Addr} {c : Nat} {l : List Api.DLet} {i : Int} (h : Arr S w a l) (hS : ∀ b, S b → b < w.heap.size) (hi : I64 i) :
    Calls Try.prog 118 #[.slice a l.length c, .int .i64 i] w fun e w' => e = .returned (.int .i64 (errOf l i)) ∧ Grow w w' := by
  have hm := h.small
  unfold maxLen at hm
  by_cases hl : 200 < l.length
  · have HE := Lib.hid (errOf_large (i := i) hl)
    go_enter Try.func118, Try.ntmps118
    go_wp2
    go_ret
    exact ⟨by rw [HE.out]; rfl, Below.refl _ _⟩
  have HL := Lib.hid hl
  have hdl : decide ((200 : Int) < (l.length : Int)) = false := by simp; omega
  have HC := Lib.hid (containsFuncL_any (p := bad) (F := 146) (caps := #[]) mild_grow (c := c) h hS (fun y w => Try.call146 _ _) (fun y wx _ => rightFn_any))
  clear hl h
  cases hb : l.any bad with
  | true =>
    have HE := Lib.hid (errOf_kind (i := i) HL.out hb)
    have HB := Lib.hid hb
    clear hb
    go_enter Try.func118, Try.ntmps118
    go_wp2_with (with_reducible refine HC.out.mono ?_; rintro e w' ⟨rfl, hq⟩; rw [HB.out])
    go_ret
    exact ⟨by rw [HE.out]; rfl, hq⟩
  | false =>
    have HB := Lib.hid hb
    clear hb
    by_cases h0 : i < 0
    · have hd : decide (i < 0) = true := by simp [h0]
      have HE := Lib.hid (errOf_arg (i := i) HL.out HB.out (by omega))
      clear h0
      go_enter Try.func118, Try.ntmps118
      go_wp2_with (with_reducible refine HC.out.mono ?_; rintro e w' ⟨rfl, hq⟩; rw [HB.out])
      go_ret
      exact ⟨by rw [HE.out]; rfl, hq⟩
    · have hd : decide (i < 0) = false := by simpa using h0
      by_cases h1 : (l.length : Int) ≤ i
      · have hd2 : decide ((l.length : Int) ≤ i) = true := by simp [h1]
        have HE := Lib.hid (errOf_arg (i := i) HL.out HB.out (by omega))
        clear h0 h1
        go_enter Try.func118, Try.ntmps118
        go_wp2_with (with_reducible refine HC.out.mono ?_; rintro e w' ⟨rfl, hq⟩; rw [HB.out])
        go_ret
        exact ⟨by rw [HE.out]; rfl, hq⟩
      · have hd2 : decide ((l.length : Int) ≤ i) = false := by simpa using h1
        have HE := Lib.hid (errOf_ok (i := i) HL.out HB.out (by omega))
        clear h0 h1
        go_enter Try.func118, Try.ntmps118
        go_wp2_with (with_reducible refine HC.out.mono ?_; rintro e w' ⟨rfl, hq⟩; rw [HB.out])
        go_ret
        exact ⟨by rw [HE.out]; rfl, hq⟩
end Go.Proofs.Ytimlhjjdaggiiaa.line
