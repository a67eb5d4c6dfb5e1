/- IndexFunc and ContainsFunc of lists of values, texts, numbers, functions, at whatever predicate that turns nothing that was there (printed by tools/gen_funcsv.py). -/
import Derived.Test.YtekofpigmggbbaaDoorQFuncsG
import Derived.Test.YtekofpigmggbbaaDoorQTy
set_option linter.unusedVariables false
set_option linter.unusedSimpArgs false
namespace Go.Proofs.YtekofpigmggbbaaDoor.funs
open Go.Bk Go.RowKit

theorem arr_string {S : Nat → Prop} {w : World} {a : Option Addr} {xs : List ByteArray} (h : Arr S w a xs) {k : Nat} {x : ByteArray} (hk : xs[k]? = some x) : ∃ (b off : Nat), a = some ⟨b, off, none⟩ ∧ S b ∧ w.cell? ⟨b, off + k, none⟩ = some (.string x) := by
  obtain ⟨b, off, cs, ha, hb, ⟨rfl, -⟩, hj⟩ := h.at hk
  exact ⟨b, off, ha, hb, by have := hj 0 (by show 0 < 1; omega); simpa [show Rep.sz ByteArray = 1 from rfl] using this⟩

set_option maxRecDepth 100000 in
theorem indexV_any {R : World → World → Prop} (hR : Mild R) {S : Nat → Prop} {w : World} {a : Option Addr} {c n : Nat} {xs : List Api.Val} {F : FuncId} {caps : Array Value} {p : Api.Val → Bool} (hn : xs.length = n) (h : Arr S w a xs) (hS : ∀ b, S b → b < w.heap.size)
    (hF : ∀ (ar : Array Value) (w : World), (callFunc F ar).run Tryd.prog w = .ok (.enter F ar) w)
    (hp : ∀ (y : Api.Val) (wx : World), y ∈ xs → R w wx → Calls Tryd.prog F (#[.agg #[.int .i64 y.Kind, .int .i64 y.N]] ++ caps) wx fun e w' => e = .returned (.bool (p y)) ∧ R wx w') :
    Calls Tryd.prog 142 #[.slice a n c, .func (.func F) #[] caps] w fun e w' => e = .returned (.int .i64 (findRes p xs)) ∧ R w w' := by
  have hm := h.small
  rw [hn] at hm
  unfold maxLen at hm
  have HN := Lib.hid hn
  have HP := Lib.hid hp
  clear hp hn
  go_enter Tryd.func142, Tryd.ntmps142
  go_wp2
  go_loopw [8] (fun i w' => ∃ k : Nat, k ≤ n ∧ i = .int .i64 k ∧ firstTo p xs k ∧ R w w') (fun i _ => n - (intOf i).toNat)
  case atStart => exact ⟨0, Nat.zero_le _, rfl, fun j x hj => by omega, hR.refl _⟩
  case round =>
    obtain ⟨k, hk, rfl, hfi, hq⟩ := hrel
    have h' := h.keep (w' := wr) (fun b hb => (hR.below hq).block b (hS b hb))
    have HQ := Lib.hid hq; have HFI := Lib.hid hfi
    clear hq hfi
    by_cases hlt : k < n
    · obtain ⟨y, hy⟩ : ∃ y, xs[k]? = some y := ⟨_, List.getElem?_eq_getElem (by rw [HN.out]; exact hlt)⟩
      obtain ⟨b1, o1, rfl, -, q0, q1, -⟩ := api_Val_elem h' hy
      have HY := Lib.hid hy
      clear hy h h'
      go_wp2_with fail
      refine (HP.out y _ (List.mem_of_getElem? HY.out) HQ.out).mono ?_
      rintro e w2 ⟨rfl, hq2⟩
      have HQ2 := Lib.hid (hR.trans HQ.out hq2)
      clear hq2
      cases hpy : p y with
      | true =>
        have HPY := Lib.hid hpy
        clear hpy
        go_wp2
        go_ret
        exact ⟨by rw [findRes_at HFI.out HY.out HPY.out]; rfl, HQ2.out⟩
      | false =>
        have HPY := Lib.hid hpy
        clear hpy
        go_wp2
        go_roundw
        case rel => exact ⟨k + 1, by omega, by go_num, HFI.out.succ HY.out HPY.out, HQ2.out⟩
        case measure => simp [intOf]; omega
    · obtain rfl : k = xs.length := by have := HN.out; omega
      go_wp2
      go_ret
      exact ⟨by rw [findRes_none HFI.out]; rfl, HQ.out⟩
set_option maxRecDepth 100000 in
theorem containsV_any {R : World → World → Prop} (hR : Mild R) {S : Nat → Prop} {w : World} {a : Option Addr} {c n : Nat} {xs : List Api.Val} {F : FuncId} {caps : Array Value} {p : Api.Val → Bool} (hn : xs.length = n) (h : Arr S w a xs) (hS : ∀ b, S b → b < w.heap.size)
    (hF : ∀ (ar : Array Value) (w : World), (callFunc F ar).run Tryd.prog w = .ok (.enter F ar) w)
    (hp : ∀ (y : Api.Val) (wx : World), y ∈ xs → R w wx → Calls Tryd.prog F (#[.agg #[.int .i64 y.Kind, .int .i64 y.N]] ++ caps) wx fun e w' => e = .returned (.bool (p y)) ∧ R wx w') :
    Calls Tryd.prog 110 #[.slice a n c, .func (.func F) #[] caps] w fun e w' => e = .returned (.bool (xs.any p)) ∧ R w w' := by
  have HP := Lib.hid (indexV_any hR (c := c) hn h hS hF hp)
  clear hp hF
  go_enter Tryd.func110, Tryd.ntmps110
  go_wp2_with (with_reducible refine HP.out.mono ?_; rintro e w' ⟨rfl, hq⟩)
  go_ret
  exact ⟨by rw [← findRes_nonneg]; rfl, hq⟩

set_option maxRecDepth 100000 in
theorem indexS_any {R : World → World → Prop} (hR : Mild R) {S : Nat → Prop} {w : World} {a : Option Addr} {c n : Nat} {xs : List ByteArray} {F : FuncId} {caps : Array Value} {p : ByteArray → Bool} (hn : xs.length = n) (h : Arr S w a xs) (hS : ∀ b, S b → b < w.heap.size)
    (hF : ∀ (ar : Array Value) (w : World), (callFunc F ar).run Tryd.prog w = .ok (.enter F ar) w)
    (hp : ∀ (y : ByteArray) (wx : World), y ∈ xs → R w wx → Calls Tryd.prog F (#[.string y] ++ caps) wx fun e w' => e = .returned (.bool (p y)) ∧ R wx w') :
    Calls Tryd.prog 140 #[.slice a n c, .func (.func F) #[] caps] w fun e w' => e = .returned (.int .i64 (findRes p xs)) ∧ R w w' := by
  have hm := h.small
  rw [hn] at hm
  unfold maxLen at hm
  have HN := Lib.hid hn
  have HP := Lib.hid hp
  clear hp hn
  go_enter Tryd.func140, Tryd.ntmps140
  go_wp2
  go_loopw [8] (fun i w' => ∃ k : Nat, k ≤ n ∧ i = .int .i64 k ∧ firstTo p xs k ∧ R w w') (fun i _ => n - (intOf i).toNat)
  case atStart => exact ⟨0, Nat.zero_le _, rfl, fun j x hj => by omega, hR.refl _⟩
  case round =>
    obtain ⟨k, hk, rfl, hfi, hq⟩ := hrel
    have h' := h.keep (w' := wr) (fun b hb => (hR.below hq).block b (hS b hb))
    have HQ := Lib.hid hq; have HFI := Lib.hid hfi
    clear hq hfi
    by_cases hlt : k < n
    · obtain ⟨y, hy⟩ : ∃ y, xs[k]? = some y := ⟨_, List.getElem?_eq_getElem (by rw [HN.out]; exact hlt)⟩
      obtain ⟨b1, o1, rfl, -, q0⟩ := arr_string h' hy
      have HY := Lib.hid hy
      clear hy h h'
      go_wp2_with fail
      refine (HP.out y _ (List.mem_of_getElem? HY.out) HQ.out).mono ?_
      rintro e w2 ⟨rfl, hq2⟩
      have HQ2 := Lib.hid (hR.trans HQ.out hq2)
      clear hq2
      cases hpy : p y with
      | true =>
        have HPY := Lib.hid hpy
        clear hpy
        go_wp2
        go_ret
        exact ⟨by rw [findRes_at HFI.out HY.out HPY.out]; rfl, HQ2.out⟩
      | false =>
        have HPY := Lib.hid hpy
        clear hpy
        go_wp2
        go_roundw
        case rel => exact ⟨k + 1, by omega, by go_num, HFI.out.succ HY.out HPY.out, HQ2.out⟩
        case measure => simp [intOf]; omega
    · obtain rfl : k = xs.length := by have := HN.out; omega
      go_wp2
      go_ret
      exact ⟨by rw [findRes_none HFI.out]; rfl, HQ.out⟩
set_option maxRecDepth 100000 in
theorem containsS_any {R : World → World → Prop} (hR : Mild R) {S : Nat → Prop} {w : World} {a : Option Addr} {c n : Nat} {xs : List ByteArray} {F : FuncId} {caps : Array Value} {p : ByteArray → Bool} (hn : xs.length = n) (h : Arr S w a xs) (hS : ∀ b, S b → b < w.heap.size)
    (hF : ∀ (ar : Array Value) (w : World), (callFunc F ar).run Tryd.prog w = .ok (.enter F ar) w)
    (hp : ∀ (y : ByteArray) (wx : World), y ∈ xs → R w wx → Calls Tryd.prog F (#[.string y] ++ caps) wx fun e w' => e = .returned (.bool (p y)) ∧ R wx w') :
    Calls Tryd.prog 105 #[.slice a n c, .func (.func F) #[] caps] w fun e w' => e = .returned (.bool (xs.any p)) ∧ R w w' := by
  have HP := Lib.hid (indexS_any hR (c := c) hn h hS hF hp)
  clear hp hF
  go_enter Tryd.func105, Tryd.ntmps105
  go_wp2_with (with_reducible refine HP.out.mono ?_; rintro e w' ⟨rfl, hq⟩)
  go_ret
  exact ⟨by rw [← findRes_nonneg]; rfl, hq⟩

set_option maxRecDepth 100000 in
theorem indexI_any {R : World → World → Prop} (hR : Mild R) {S : Nat → Prop} {w : World} {a : Option Addr} {c n : Nat} {xs : List Int} {F : FuncId} {caps : Array Value} {p : Int → Bool} (hn : xs.length = n) (h : Arr S w a xs) (hS : ∀ b, S b → b < w.heap.size)
    (hF : ∀ (ar : Array Value) (w : World), (callFunc F ar).run Tryd.prog w = .ok (.enter F ar) w)
    (hp : ∀ (y : Int) (wx : World), y ∈ xs → R w wx → Calls Tryd.prog F (#[.int .i64 y] ++ caps) wx fun e w' => e = .returned (.bool (p y)) ∧ R wx w') :
    Calls Tryd.prog 94 #[.slice a n c, .func (.func F) #[] caps] w fun e w' => e = .returned (.int .i64 (findRes p xs)) ∧ R w w' := by
  have hm := h.small
  rw [hn] at hm
  unfold maxLen at hm
  have HN := Lib.hid hn
  have HP := Lib.hid hp
  clear hp hn
  go_enter Tryd.func94, Tryd.ntmps94
  go_wp2
  go_loopw [8] (fun i w' => ∃ k : Nat, k ≤ n ∧ i = .int .i64 k ∧ firstTo p xs k ∧ R w w') (fun i _ => n - (intOf i).toNat)
  case atStart => exact ⟨0, Nat.zero_le _, rfl, fun j x hj => by omega, hR.refl _⟩
  case round =>
    obtain ⟨k, hk, rfl, hfi, hq⟩ := hrel
    have h' := h.keep (w' := wr) (fun b hb => (hR.below hq).block b (hS b hb))
    have HQ := Lib.hid hq; have HFI := Lib.hid hfi
    clear hq hfi
    by_cases hlt : k < n
    · obtain ⟨y, hy⟩ : ∃ y, xs[k]? = some y := ⟨_, List.getElem?_eq_getElem (by rw [HN.out]; exact hlt)⟩
      obtain ⟨b1, o1, rfl, -, q0, -⟩ := arr_int h' hy
      have HY := Lib.hid hy
      clear hy h h'
      go_wp2_with fail
      refine (HP.out y _ (List.mem_of_getElem? HY.out) HQ.out).mono ?_
      rintro e w2 ⟨rfl, hq2⟩
      have HQ2 := Lib.hid (hR.trans HQ.out hq2)
      clear hq2
      cases hpy : p y with
      | true =>
        have HPY := Lib.hid hpy
        clear hpy
        go_wp2
        go_ret
        exact ⟨by rw [findRes_at HFI.out HY.out HPY.out]; rfl, HQ2.out⟩
      | false =>
        have HPY := Lib.hid hpy
        clear hpy
        go_wp2
        go_roundw
        case rel => exact ⟨k + 1, by omega, by go_num, HFI.out.succ HY.out HPY.out, HQ2.out⟩
        case measure => simp [intOf]; omega
    · obtain rfl : k = xs.length := by have := HN.out; omega
      go_wp2
      go_ret
      exact ⟨by rw [findRes_none HFI.out]; rfl, HQ.out⟩
set_option maxRecDepth 100000 in
theorem containsI_any {R : World → World → Prop} (hR : Mild R) {S : Nat → Prop} {w : World} {a : Option Addr} {c n : Nat} {xs : List Int} {F : FuncId} {caps : Array Value} {p : Int → Bool} (hn : xs.length = n) (h : Arr S w a xs) (hS : ∀ b, S b → b < w.heap.size)
    (hF : ∀ (ar : Array Value) (w : World), (callFunc F ar).run Tryd.prog w = .ok (.enter F ar) w)
    (hp : ∀ (y : Int) (wx : World), y ∈ xs → R w wx → Calls Tryd.prog F (#[.int .i64 y] ++ caps) wx fun e w' => e = .returned (.bool (p y)) ∧ R wx w') :
    Calls Tryd.prog 50 #[.slice a n c, .func (.func F) #[] caps] w fun e w' => e = .returned (.bool (xs.any p)) ∧ R w w' := by
  have HP := Lib.hid (indexI_any hR (c := c) hn h hS hF hp)
  clear hp hF
  go_enter Tryd.func50, Tryd.ntmps50
  go_wp2_with (with_reducible refine HP.out.mono ?_; rintro e w' ⟨rfl, hq⟩)
  go_ret
  exact ⟨by rw [← findRes_nonneg]; rfl, hq⟩

set_option maxRecDepth 100000 in
theorem indexF_any {R : World → World → Prop} (hR : Mild R) {S : Nat → Prop} {w : World} {a : Option Addr} {c n : Nat} {xs : List Api.Fn} {F : FuncId} {caps : Array Value} {p : Api.Fn → Bool} (hn : xs.length = n) (h : Arr S w a xs) (hS : ∀ b, S b → b < w.heap.size)
    (hF : ∀ (ar : Array Value) (w : World), (callFunc F ar).run Tryd.prog w = .ok (.enter F ar) w)
    (hp : ∀ (y : Api.Fn) (cs : List Value) (wx : World), y ∈ xs → Rep.cells S wx cs y → R w wx → Calls Tryd.prog F (#[.agg cs.toArray] ++ caps) wx fun e w' => e = .returned (.bool (p y)) ∧ R wx w') :
    Calls Tryd.prog 113 #[.slice a n c, .func (.func F) #[] caps] w fun e w' => e = .returned (.int .i64 (findRes p xs)) ∧ R w w' := by
  have hm := h.small
  rw [hn] at hm
  unfold maxLen at hm
  have HN := Lib.hid hn
  have HP := Lib.hid hp
  clear hp hn
  go_enter Tryd.func113, Tryd.ntmps113
  go_wp2
  go_loopw [8] (fun i w' => ∃ k : Nat, k ≤ n ∧ i = .int .i64 k ∧ firstTo p xs k ∧ R w w') (fun i _ => n - (intOf i).toNat)
  case atStart => exact ⟨0, Nat.zero_le _, rfl, fun j x hj => by omega, hR.refl _⟩
  case round =>
    obtain ⟨k, hk, rfl, hfi, hq⟩ := hrel
    have h' := h.keep (w' := wr) (fun b hb => (hR.below hq).block b (hS b hb))
    have HQ := Lib.hid hq; have HFI := Lib.hid hfi
    clear hq hfi
    by_cases hlt : k < n
    · obtain ⟨y, hy⟩ : ∃ y, xs[k]? = some y := ⟨_, List.getElem?_eq_getElem (by rw [HN.out]; exact hlt)⟩
      obtain ⟨b1, o1, a3, c3, a4, c4, rfl, -, q0, q1, q2, q3, q4, k0, k1, k2, k3⟩ := api_Fn_elem h' hy
      have HRC : Hid (Rep.cells S wr [.int .i64 y.Params, .int .i64 y.Regs, .bool y.Gen, .slice a3 y.Caught.length c3, .slice a4 y.Code.length c4] y) := ⟨_, _, ⟨rfl, k0⟩, ⟨_, _, ⟨rfl, k1⟩, ⟨_, _, rfl, ⟨_, _, ⟨_, _, rfl, k2⟩, ⟨_, _, rfl, k3⟩, rfl⟩, rfl⟩, rfl⟩, rfl⟩
      clear k2 k3
      have HY := Lib.hid hy
      clear hy h h'
      go_wp2_with fail
      refine (HP.out y _ _ (List.mem_of_getElem? HY.out) HRC.out HQ.out).mono ?_
      rintro e w2 ⟨rfl, hq2⟩
      have HQ2 := Lib.hid (hR.trans HQ.out hq2)
      clear hq2
      cases hpy : p y with
      | true =>
        have HPY := Lib.hid hpy
        clear hpy
        go_wp2
        go_ret
        exact ⟨by rw [findRes_at HFI.out HY.out HPY.out]; rfl, HQ2.out⟩
      | false =>
        have HPY := Lib.hid hpy
        clear hpy
        go_wp2
        go_roundw
        case rel => exact ⟨k + 1, by omega, by go_num, HFI.out.succ HY.out HPY.out, HQ2.out⟩
        case measure => simp [intOf]; omega
    · obtain rfl : k = xs.length := by have := HN.out; omega
      go_wp2
      go_ret
      exact ⟨by rw [findRes_none HFI.out]; rfl, HQ.out⟩
set_option maxRecDepth 100000 in
theorem containsF_any {R : World → World → Prop} (hR : Mild R) {S : Nat → Prop} {w : World} {a : Option Addr} {c n : Nat} {xs : List Api.Fn} {F : FuncId} {caps : Array Value} {p : Api.Fn → Bool} (hn : xs.length = n) (h : Arr S w a xs) (hS : ∀ b, S b → b < w.heap.size)
    (hF : ∀ (ar : Array Value) (w : World), (callFunc F ar).run Tryd.prog w = .ok (.enter F ar) w)
    (hp : ∀ (y : Api.Fn) (cs : List Value) (wx : World), y ∈ xs → Rep.cells S wx cs y → R w wx → Calls Tryd.prog F (#[.agg cs.toArray] ++ caps) wx fun e w' => e = .returned (.bool (p y)) ∧ R wx w') :
    Calls Tryd.prog 71 #[.slice a n c, .func (.func F) #[] caps] w fun e w' => e = .returned (.bool (xs.any p)) ∧ R w w' := by
  have HP := Lib.hid (indexF_any hR (c := c) hn h hS hF hp)
  clear hp hF
  go_enter Tryd.func71, Tryd.ntmps71
  go_wp2_with (with_reducible refine HP.out.mono ?_; rintro e w' ⟨rfl, hq⟩)
  go_ret
  exact ⟨by rw [← findRes_nonneg]; rfl, hq⟩
end Go.Proofs.YtekofpigmggbbaaDoor.funs
