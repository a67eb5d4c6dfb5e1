/- IndexFunc and ContainsFunc of lists of instructions and of registers set, at whatever predicate that turns nothing that was there (printed by tools/gen_funcsv.py). -/
import Derived.Test.YtiiekmipcjpheaaDoorFuncsG
import Derived.Test.YtiiekmipcjpheaaDoorTy
set_option linter.unusedVariables false
set_option linter.unusedSimpArgs false
namespace Go.Proofs.YtiiekmipcjpheaaDoor.funs
open Go.Bk Go.RowKit

set_option maxRecDepth 100000 in
theorem indexT_any {R : World → World → Prop} (hR : Mild R) {S : Nat → Prop} {w : World} {a : Option Addr} {c n : Nat} {xs : List Api.TIns} {F : FuncId} {caps : Array Value} {p : Api.TIns → Bool} (hn : xs.length = n) (h : Arr S w a xs) (hS : ∀ b, S b → b < w.heap.size)
    (hF : ∀ (ar : Array Value) (w : World), (callFunc F ar).run Tryd.prog w = .ok (.enter F ar) w)
    (hp : ∀ (y : Api.TIns) (wx : World), y ∈ xs → R w wx → Calls Tryd.prog F (#[.agg #[.int .i64 y.Op, .int .i64 y.A, .int .i64 y.B, .int .i64 y.C, .int .i64 y.N, .int .i64 y.Exit, .int .i64 y.K.Kind, .int .i64 y.K.N]] ++ caps) wx fun e w' => e = .returned (.bool (p y)) ∧ R wx w') :
    Calls Tryd.prog 152 #[.slice a n c, .func (.func F) #[] caps] w fun e w' => e = .returned (.int .i64 (findRes p xs)) ∧ R w w' := by
  have hm := h.small
  rw [hn] at hm
  unfold maxLen at hm
  have HN := Lib.hid hn
  have HP := Lib.hid hp
  clear hp hn
  go_enter Tryd.func152, Tryd.ntmps152
  go_wp2
  go_loopw [8] (fun i w' => ∃ k : Nat, k ≤ n ∧ i = .int .i64 k ∧ firstTo p xs k ∧ R w w') (fun i _ => n - (intOf i).toNat)
  case atStart => exact ⟨0, Nat.zero_le _, rfl, fun j x hj => by omega, hR.refl _⟩
  case round =>
    obtain ⟨k, hk, rfl, hfi, hq⟩ := hrel
    have h' := h.keep (w' := wr) (fun b hb => (hR.below hq).block b (hS b hb))
    have HQ := Lib.hid hq; have HFI := Lib.hid hfi
    clear hq hfi
    by_cases hlt : k < n
    · obtain ⟨y, hy⟩ : ∃ y, xs[k]? = some y := ⟨_, List.getElem?_eq_getElem (by rw [HN.out]; exact hlt)⟩
      obtain ⟨b1, o1, rfl, -, q0, q1, q2, q3, q4, q5, q6, q7, -⟩ := api_TIns_elem h' hy
      have HY := Lib.hid hy
      clear hy h h'
      go_wp2_with fail
      refine (HP.out y _ (List.mem_of_getElem? HY.out) HQ.out).mono ?_
      rintro e w2 ⟨rfl, hq2⟩
      have HQ2 := Lib.hid (hR.trans HQ.out hq2)
      clear hq2
      cases hpy : p y with
      | true =>
        have HPY := Lib.hid hpy
        clear hpy
        go_wp2
        go_ret
        exact ⟨by rw [findRes_at HFI.out HY.out HPY.out]; rfl, HQ2.out⟩
      | false =>
        have HPY := Lib.hid hpy
        clear hpy
        go_wp2
        go_roundw
        case rel => exact ⟨k + 1, by omega, by go_num, HFI.out.succ HY.out HPY.out, HQ2.out⟩
        case measure => simp [intOf]; omega
    · obtain rfl : k = xs.length := by have := HN.out; omega
      go_wp2
      go_ret
      exact ⟨by rw [findRes_none HFI.out]; rfl, HQ.out⟩
set_option maxRecDepth 100000 in
theorem containsT_any {R : World → World → Prop} (hR : Mild R) {S : Nat → Prop} {w : World} {a : Option Addr} {c n : Nat} {xs : List Api.TIns} {F : FuncId} {caps : Array Value} {p : Api.TIns → Bool} (hn : xs.length = n) (h : Arr S w a xs) (hS : ∀ b, S b → b < w.heap.size)
    (hF : ∀ (ar : Array Value) (w : World), (callFunc F ar).run Tryd.prog w = .ok (.enter F ar) w)
    (hp : ∀ (y : Api.TIns) (wx : World), y ∈ xs → R w wx → Calls Tryd.prog F (#[.agg #[.int .i64 y.Op, .int .i64 y.A, .int .i64 y.B, .int .i64 y.C, .int .i64 y.N, .int .i64 y.Exit, .int .i64 y.K.Kind, .int .i64 y.K.N]] ++ caps) wx fun e w' => e = .returned (.bool (p y)) ∧ R wx w') :
    Calls Tryd.prog 135 #[.slice a n c, .func (.func F) #[] caps] w fun e w' => e = .returned (.bool (xs.any p)) ∧ R w w' := by
  have HP := Lib.hid (indexT_any hR (c := c) hn h hS hF hp)
  clear hp hF
  go_enter Tryd.func135, Tryd.ntmps135
  go_wp2_with (with_reducible refine HP.out.mono ?_; rintro e w' ⟨rfl, hq⟩)
  go_ret
  exact ⟨by rw [← findRes_nonneg]; rfl, hq⟩

set_option maxRecDepth 100000 in
theorem indexE_any {R : World → World → Prop} (hR : Mild R) {S : Nat → Prop} {w : World} {a : Option Addr} {c n : Nat} {xs : List Api.TSet} {F : FuncId} {caps : Array Value} {p : Api.TSet → Bool} (hn : xs.length = n) (h : Arr S w a xs) (hS : ∀ b, S b → b < w.heap.size)
    (hF : ∀ (ar : Array Value) (w : World), (callFunc F ar).run Tryd.prog w = .ok (.enter F ar) w)
    (hp : ∀ (y : Api.TSet) (wx : World), y ∈ xs → R w wx → Calls Tryd.prog F (#[.agg #[.int .i64 y.Reg, .int .i64 y.Val]] ++ caps) wx fun e w' => e = .returned (.bool (p y)) ∧ R wx w') :
    Calls Tryd.prog 134 #[.slice a n c, .func (.func F) #[] caps] w fun e w' => e = .returned (.int .i64 (findRes p xs)) ∧ R w w' := by
  have hm := h.small
  rw [hn] at hm
  unfold maxLen at hm
  have HN := Lib.hid hn
  have HP := Lib.hid hp
  clear hp hn
  go_enter Tryd.func134, Tryd.ntmps134
  go_wp2
  go_loopw [8] (fun i w' => ∃ k : Nat, k ≤ n ∧ i = .int .i64 k ∧ firstTo p xs k ∧ R w w') (fun i _ => n - (intOf i).toNat)
  case atStart => exact ⟨0, Nat.zero_le _, rfl, fun j x hj => by omega, hR.refl _⟩
  case round =>
    obtain ⟨k, hk, rfl, hfi, hq⟩ := hrel
    have h' := h.keep (w' := wr) (fun b hb => (hR.below hq).block b (hS b hb))
    have HQ := Lib.hid hq; have HFI := Lib.hid hfi
    clear hq hfi
    by_cases hlt : k < n
    · obtain ⟨y, hy⟩ : ∃ y, xs[k]? = some y := ⟨_, List.getElem?_eq_getElem (by rw [HN.out]; exact hlt)⟩
      obtain ⟨b1, o1, rfl, -, q0, q1, -⟩ := api_TSet_elem h' hy
      have HY := Lib.hid hy
      clear hy h h'
      go_wp2_with fail
      refine (HP.out y _ (List.mem_of_getElem? HY.out) HQ.out).mono ?_
      rintro e w2 ⟨rfl, hq2⟩
      have HQ2 := Lib.hid (hR.trans HQ.out hq2)
      clear hq2
      cases hpy : p y with
      | true =>
        have HPY := Lib.hid hpy
        clear hpy
        go_wp2
        go_ret
        exact ⟨by rw [findRes_at HFI.out HY.out HPY.out]; rfl, HQ2.out⟩
      | false =>
        have HPY := Lib.hid hpy
        clear hpy
        go_wp2
        go_roundw
        case rel => exact ⟨k + 1, by omega, by go_num, HFI.out.succ HY.out HPY.out, HQ2.out⟩
        case measure => simp [intOf]; omega
    · obtain rfl : k = xs.length := by have := HN.out; omega
      go_wp2
      go_ret
      exact ⟨by rw [findRes_none HFI.out]; rfl, HQ.out⟩
set_option maxRecDepth 100000 in
theorem containsE_any {R : World → World → Prop} (hR : Mild R) {S : Nat → Prop} {w : World} {a : Option Addr} {c n : Nat} {xs : List Api.TSet} {F : FuncId} {caps : Array Value} {p : Api.TSet → Bool} (hn : xs.length = n) (h : Arr S w a xs) (hS : ∀ b, S b → b < w.heap.size)
    (hF : ∀ (ar : Array Value) (w : World), (callFunc F ar).run Tryd.prog w = .ok (.enter F ar) w)
    (hp : ∀ (y : Api.TSet) (wx : World), y ∈ xs → R w wx → Calls Tryd.prog F (#[.agg #[.int .i64 y.Reg, .int .i64 y.Val]] ++ caps) wx fun e w' => e = .returned (.bool (p y)) ∧ R wx w') :
    Calls Tryd.prog 103 #[.slice a n c, .func (.func F) #[] caps] w fun e w' => e = .returned (.bool (xs.any p)) ∧ R w w' := by
  have HP := Lib.hid (indexE_any hR (c := c) hn h hS hF hp)
  clear hp hF
  go_enter Tryd.func103, Tryd.ntmps103
  go_wp2_with (with_reducible refine HP.out.mono ?_; rintro e w' ⟨rfl, hq⟩)
  go_ret
  exact ⟨by rw [← findRes_nonneg]; rfl, hq⟩
end Go.Proofs.YtiiekmipcjpheaaDoor.funs
