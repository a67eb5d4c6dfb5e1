/- IndexFunc and ContainsFunc of a list of events, at whatever predicate that turns nothing that was there. -/
import Derived.Test.YtffebdngmbbcoaaFuncsG
set_option linter.unusedVariables false
set_option linter.unusedSimpArgs false
namespace Go.Proofs.Ytffebdngmbbcoaa.evs
open Go.Bk Go.RowKit

abbrev evC (x : Api.Event) : List Value := [.int .i64 x.Kind, .int .i64 x.Step, .int .i64 x.Thread, .int .i64 x.Fn, .int .i64 x.At, .int .i64 x.Line, .int .i64 x.A, .int .i64 x.B, .int .i64 x.Val.Kind, .int .i64 x.Val.N, .int .i64 x.Old.Kind, .int .i64 x.Old.N]

set_option maxRecDepth 100000 in
theorem indexFunc_any {R : World → World → Prop} (hR : Mild R) {S : Nat → Prop} {w : World} {a : Option Addr} {c : Nat} {xs : List Api.Event} {F : FuncId} {caps : Array Value} {p : Api.Event → Bool} (h : Arr S w a xs) (hS : ∀ b, S b → b < w.heap.size)
    (hF : ∀ (y : Api.Event) (w : World), (callFunc F (#[.agg (evC y).toArray] ++ caps)).run Try.prog w = .ok (.enter F (#[.agg (evC y).toArray] ++ caps)) w)
    (hp : ∀ (y : Api.Event) (wx : World), y ∈ xs → R w wx → Calls Try.prog F (#[.agg (evC y).toArray] ++ caps) wx fun e w' => e = .returned (.bool (p y)) ∧ R wx w') :
    Calls Try.prog 67 #[.slice a xs.length c, .func (.func F) #[] caps] w fun e w' => e = .returned (.int .i64 (findRes p xs)) ∧ R w w' := by
  have hm := h.small
  unfold maxLen at hm
  have HP := Lib.hid hp
  clear hp
  go_enter Try.func67, Try.ntmps67
  go_wp2
  go_loopw [8] (fun i w' => ∃ k : Nat, k ≤ xs.length ∧ i = .int .i64 k ∧ firstTo p xs k ∧ R w w') (fun i _ => xs.length - (intOf i).toNat)
  case atStart => exact ⟨0, Nat.zero_le _, rfl, fun j x hj => by omega, hR.refl _⟩
  case round =>
    obtain ⟨k, hk, rfl, hfi, hq⟩ := hrel
    have h' := h.keep (w' := wr) (fun b hb => (hR.below hq).block b (hS b hb))
    have HQ := Lib.hid hq; have HFI := Lib.hid hfi
    clear hq hfi
    by_cases hlt : k < xs.length
    · obtain ⟨y, hy⟩ : ∃ y, xs[k]? = some y := ⟨_, List.getElem?_eq_getElem hlt⟩
      obtain ⟨b1, o1, rfl, -, q0, q1, q2, q3, q4, q5, q6, q7, q8, q9, q10, q11, -⟩ := api_Event_elem h' hy
      have HY := Lib.hid hy
      clear hy h h'
      go_wp2_with fail
      refine (HP.out y _ (List.mem_of_getElem? HY.out) HQ.out).mono ?_
      rintro e w2 ⟨rfl, hq2⟩
      have HQ2 := Lib.hid (hR.trans HQ.out hq2)
      clear hq2
      cases hpy : p y with
      | true =>
        have HPY := Lib.hid hpy
        clear hpy
        go_wp2
        go_ret
        exact ⟨by rw [findRes_at HFI.out HY.out HPY.out]; rfl, HQ2.out⟩
      | false =>
        have HPY := Lib.hid hpy
        clear hpy
        go_wp2
        go_roundw
        case rel => exact ⟨k + 1, by omega, by go_num, HFI.out.succ HY.out HPY.out, HQ2.out⟩
        case measure => simp [intOf]; omega
    · obtain rfl : k = xs.length := by omega
      go_wp2
      go_ret
      exact ⟨by rw [findRes_none HFI.out]; rfl, HQ.out⟩

set_option maxRecDepth 100000 in
theorem containsFunc_any {R : World → World → Prop} (hR : Mild R) {S : Nat → Prop} {w : World} {a : Option Addr} {c : Nat} {xs : List Api.Event} {F : FuncId} {caps : Array Value} {p : Api.Event → Bool} (h : Arr S w a xs) (hS : ∀ b, S b → b < w.heap.size)
    (hF : ∀ (y : Api.Event) (w : World), (callFunc F (#[.agg (evC y).toArray] ++ caps)).run Try.prog w = .ok (.enter F (#[.agg (evC y).toArray] ++ caps)) w)
    (hp : ∀ (y : Api.Event) (wx : World), y ∈ xs → R w wx → Calls Try.prog F (#[.agg (evC y).toArray] ++ caps) wx fun e w' => e = .returned (.bool (p y)) ∧ R wx w') :
    Calls Try.prog 50 #[.slice a xs.length c, .func (.func F) #[] caps] w fun e w' => e = .returned (.bool (xs.any p)) ∧ R w w' := by
  have HP := Lib.hid (indexFunc_any hR (c := c) h hS hF hp)
  clear hp hF
  go_enter Try.func50, Try.ntmps50
  go_wp2_with (with_reducible refine HP.out.mono ?_; rintro e w' ⟨rfl, hq⟩)
  go_ret
  exact ⟨by rw [← findRes_nonneg]; rfl, hq⟩
end Go.Proofs.Ytffebdngmbbcoaa.evs
