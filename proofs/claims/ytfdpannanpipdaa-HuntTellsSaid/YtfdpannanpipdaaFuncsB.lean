/- IndexFunc and ContainsFunc of a list of lists of truths, at whatever predicate that turns nothing. -/
import Derived.Test.YtfdpannanpipdaaFuncs
set_option linter.unusedVariables false
set_option linter.unusedSimpArgs false
namespace Go.Proofs.Ytfdpannanpipdaa
open Go.Bk Go.RowKit

set_option maxRecDepth 100000 in
theorem indexFuncB_any {R : World → World → Prop} (hR : Mild R) {S : Nat → Prop} {w : World} {a : Option Addr} {c : Nat} {xs : List (List Bool)} {F : FuncId} {caps : Array Value} {p : List Bool → Bool} (h : Arr S w a xs) (hS : ∀ b, S b → b < w.heap.size)
    (hF : ∀ (y : Value) (w : World), (callFunc F (#[y] ++ caps)).run Try.prog w = .ok (.enter F (#[y] ++ caps)) w)
    (hp : ∀ (y : List Bool) (a' : Option Addr) (c' : Nat) (wx : World), y ∈ xs → Arr S wx a' y → R w wx → Calls Try.prog F (#[.slice a' y.length c'] ++ caps) wx fun e w' => e = .returned (.bool (p y)) ∧ R wx w') :
    Calls Try.prog 167 #[.slice a xs.length c, .func (.func F) #[] caps] w fun e w' => e = .returned (.int .i64 (findRes p xs)) ∧ R w w' := by
  have hm := h.small
  unfold maxLen at hm
  have HP := Lib.hid hp
  clear hp
  go_enter Try.func167, Try.ntmps167
  go_wp2
  go_loopw [8] (fun i w' => ∃ k : Nat, k ≤ xs.length ∧ i = .int .i64 k ∧ firstTo p xs k ∧ R w w') (fun i _ => xs.length - (intOf i).toNat)
  case atStart => exact ⟨0, Nat.zero_le _, rfl, fun j x hj => by omega, hR.refl _⟩
  case round =>
    obtain ⟨k, hk, rfl, hfi, hq⟩ := hrel
    have h' := h.keep (w' := wr) (fun b hb => (hR.below hq).block b (hS b hb))
    have HQ := Lib.hid hq; have HFI := Lib.hid hfi
    clear hq hfi
    by_cases hlt : k < xs.length
    · obtain ⟨y, hy⟩ : ∃ y, xs[k]? = some y := ⟨_, List.getElem?_eq_getElem hlt⟩
      obtain ⟨b1, o1, cs1, rfl, -, ⟨a', c', rfl, -, -, hi⟩, q1⟩ := h'.at hy
      replace q1 : wr.cell? ⟨b1, o1 + k, none⟩ = some (.slice a' y.length c') := by simpa [show Rep.sz (List Bool) = 1 from rfl] using q1 0 Nat.zero_lt_one
      have HY := Lib.hid hy; have HI := Lib.hid hi
      clear hy h h' hi
      go_wp2_with fail
      refine (HP.out y _ _ _ (List.mem_of_getElem? HY.out) HI.out HQ.out).mono ?_
      rintro e w2 ⟨rfl, hq2⟩
      have HQ2 := Lib.hid (hR.trans HQ.out hq2)
      clear hq2
      cases hpy : p y with
      | true =>
        have HPY := Lib.hid hpy
        clear hpy
        go_wp2
        go_ret
        exact ⟨by rw [findRes_at HFI.out HY.out HPY.out]; rfl, HQ2.out⟩
      | false =>
        have HPY := Lib.hid hpy
        clear hpy
        go_wp2
        go_roundw
        case rel => exact ⟨k + 1, by omega, by go_num, HFI.out.succ HY.out HPY.out, HQ2.out⟩
        case measure => simp [intOf]; omega
    · obtain rfl : k = xs.length := by omega
      go_wp2
      go_ret
      exact ⟨by rw [findRes_none HFI.out]; rfl, HQ.out⟩

set_option maxRecDepth 100000 in
theorem containsFuncB_any {R : World → World → Prop} (hR : Mild R) {S : Nat → Prop} {w : World} {a : Option Addr} {c : Nat} {xs : List (List Bool)} {F : FuncId} {caps : Array Value} {p : List Bool → Bool} (h : Arr S w a xs) (hS : ∀ b, S b → b < w.heap.size)
    (hF : ∀ (y : Value) (w : World), (callFunc F (#[y] ++ caps)).run Try.prog w = .ok (.enter F (#[y] ++ caps)) w)
    (hp : ∀ (y : List Bool) (a' : Option Addr) (c' : Nat) (wx : World), y ∈ xs → Arr S wx a' y → R w wx → Calls Try.prog F (#[.slice a' y.length c'] ++ caps) wx fun e w' => e = .returned (.bool (p y)) ∧ R wx w') :
    Calls Try.prog 163 #[.slice a xs.length c, .func (.func F) #[] caps] w fun e w' => e = .returned (.bool (xs.any p)) ∧ R w w' := by
  have HP := Lib.hid (indexFuncB_any hR (c := c) h hS hF hp)
  clear hp hF
  go_enter Try.func163, Try.ntmps163
  go_wp2_with (with_reducible refine HP.out.mono ?_; rintro e w' ⟨rfl, hq⟩)
  go_ret
  exact ⟨by rw [← findRes_nonneg]; rfl, hq⟩
end Go.Proofs.Ytfdpannanpipdaa
