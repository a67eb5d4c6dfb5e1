/- IndexFunc and ContainsFunc of lists of instructions and of registers set, at whatever predicate that turns nothing that was there (printed by tools/gen_funcsv.py). -/
import Derived.Test.YtekofpigmggbbaaDoorQFuncsG
import Derived.Test.YtekofpigmggbbaaDoorQTy
set_option linter.unusedVariables false
set_option linter.unusedSimpArgs false
namespace Go.Proofs.YtekofpigmggbbaaDoor.funs
open Go.Bk Go.RowKit

set_option maxRecDepth 100000 in
theorem indexT_any {R : World → World → Prop} (hR : Mild R) {S : Nat → Prop} {w : World} {a : Option Addr} {c n : Nat} {xs : List Api.TIns} {F : FuncId} {caps : Array Value} {p : Api.TIns → Bool} (hn : xs.length = n) (h : Arr S w a xs) (hS : ∀ b, S b → b < w.heap.size)
    (hF : ∀ (ar : Array Value) (w : World), (callFunc F ar).run Tryd.prog w = .ok (.enter F ar) w)
    (hp : ∀ (y : Api.TIns) (wx : World), y ∈ xs → R w wx → Calls Tryd.prog F (#[.agg #[.int .i64 y.Op, .int .i64 y.A, .int .i64 y.B, .int .i64 y.C, .int .i64 y.N, .int .i64 y.Exit, .int .i64 y.K.Kind, .int .i64 y.K.N]] ++ caps) wx fun e w' => e = .returned (.bool (p y)) ∧ R wx w') :
    Calls Tryd.prog 152 #[.slice a n c, .func (.func F) #[] caps] w fun e w' => e = .returned (.int .i64 (findRes p xs)) ∧ R w w' := by
  have hm := h.small
  rw [hn] at hm
  unfold maxLen at hm
  have HN := Lib.hid hn
  have HP := Lib.hid hp
  clear hp hn
  go_enter Tryd.func152, Tryd.ntmps152
  go_wp2
  go_loopw [8] (fun i w' => ∃ k : Nat, k ≤ n ∧ i = .int .i64 k ∧ firstTo p xs k ∧ R w w') (fun i _ => n - (intOf i).toNat)
  case atStart => exact ⟨0, Nat.zero_le _, rfl, fun j x hj => by omega, hR.refl _⟩
  case round =>
    obtain ⟨k, hk, rfl, hfi, hq⟩ := hrel
    have h' := h.keep (w' := wr) (fun b hb => (hR.below hq).block b (hS b hb))
    have HQ := Lib.hid hq; have HFI := Lib.hid hfi
    clear hq hfi
    by_cases hlt : k < n
    · obtain ⟨y, hy⟩ : ∃ y, xs[k]? = some y := ⟨_, List.getElem?_eq_getElem (by rw [HN.out]; exact hlt)⟩
      obtain ⟨b1, o1, rfl, -, q0, q1, q2, q3, q4, q5, q6, q7, -⟩ := api_TIns_elem h' hy
      have HY := Lib.hid hy
      clear hy h h'
      go_wp2_with fail
      refine (HP.out y _ (List.mem_of_getElem? HY.out) HQ.out).mono ?_
      rintro e w2 ⟨rfl, hq2⟩
      have HQ2 := Lib.hid (hR.trans HQ.out hq2)
      clear hq2
      cases hpy : p y with
      | true =>
        have HPY := Lib.hid hpy
        clear hpy
        go_wp2
        go_ret
        exact ⟨by rw [findRes_at HFI.out HY.out HPY.out]; rfl, HQ2.out⟩
      | false =>
        have HPY := Lib.hid hpy
        clear hpy
        go_wp2
        go_roundw
        case rel => exact ⟨k + 1, by omega, by go_num, HFI.out.succ HY.out HPY.out, HQ2.out⟩
        case measure => simp [intOf]; omega
    · obtain rfl : k = xs.length := by have := HN.out; omega
      go_wp2
      go_ret
      exact ⟨by rw [findRes_none HFI.out]; rfl, HQ.out⟩
set_option maxRecDepth 100000 in
theorem containsT_any {R : World → World → Prop} (hR : Mild R) {S : Nat → Prop} {w : World} {a : Option Addr} {c n : Nat} {xs : List Api.TIns} {F : FuncId} {caps : Array Value} {p : Api.TIns → Bool} (hn : xs.length = n) (h : Arr S w a xs) (hS : ∀ b, S b → b < w.heap.size)
    (hF : ∀ (ar : Array Value) (w : World), (callFunc F ar).run Tryd.prog w = .ok (.enter F ar) w)
    (hp : ∀ (y : Api.TIns) (wx : World), y ∈ xs → R w wx → Calls Tryd.prog F (#[.agg #[.int .i64 y.Op, .int .i64 y.A, .int .i64 y.B, .int .i64 y.C, .int .i64 y.N, .int .i64 y.Exit, .int .i64 y.K.Kind, .int .i64 y.K.N]] ++ caps) wx fun e w' => e = .returned (.bool (p y)) ∧ R wx w') :
    Calls Tryd.prog 131 #[.slice a n c, .func (.func F) #[] caps] w fun e w' => e = .returned (.bool (xs.any p)) ∧ R w w' := by
  have HP := Lib.hid (indexT_any hR (c := c) hn h hS hF hp)
  clear hp hF
  go_enter Tryd.func131, Tryd.ntmps131
  go_wp2_with (with_reducible refine HP.out.mono ?_; rintro e w' ⟨rfl, hq⟩)
  go_ret
  exact ⟨by rw [← findRes_nonneg]; rfl, hq⟩

set_option maxRecDepth 100000 in
theorem indexE_any {R : World → World → Prop} (hR : Mild R) {S : Nat → Prop} {w : World} {a : Option Addr} {c n : Nat} {xs : List Api.TSet} {F : FuncId} {caps : Array Value} {p : Api.TSet → Bool} (hn : xs.length = n) (h : Arr S w a xs) (hS : ∀ b, S b → b < w.heap.size)
    (hF : ∀ (ar : Array Value) (w : World), (callFunc F ar).run Tryd.prog w = .ok (.enter F ar) w)
    (hp : ∀ (y : Api.TSet) (wx : World), y ∈ xs → R w wx → Calls Tryd.prog F (#[.agg #[.int .i64 y.Reg, .int .i64 y.Val]] ++ caps) wx fun e w' => e = .returned (.bool (p y)) ∧ R wx w') :
    Calls Tryd.prog 130 #[.slice a n c, .func (.func F) #[] caps] w fun e w' => e = .returned (.int .i64 (findRes p xs)) ∧ R w w' := by
  have hm := h.small
  rw [hn] at hm
  unfold maxLen at hm
  have HN := Lib.hid hn
  have HP := Lib.hid hp
  clear hp hn
  go_enter Tryd.func130, Tryd.ntmps130
  go_wp2
  go_loopw [8] (fun i w' => ∃ k : Nat, k ≤ n ∧ i = .int .i64 k ∧ firstTo p xs k ∧ R w w') (fun i _ => n - (intOf i).toNat)
  case atStart => exact ⟨0, Nat.zero_le _, rfl, fun j x hj => by omega, hR.refl _⟩
  case round =>
    obtain ⟨k, hk, rfl, hfi, hq⟩ := hrel
    have h' := h.keep (w' := wr) (fun b hb => (hR.below hq).block b (hS b hb))
    have HQ := Lib.hid hq; have HFI := Lib.hid hfi
    clear hq hfi
    by_cases hlt : k < n
    · obtain ⟨y, hy⟩ : ∃ y, xs[k]? = some y := ⟨_, List.getElem?_eq_getElem (by rw [HN.out]; exact hlt)⟩
      obtain ⟨b1, o1, rfl, -, q0, q1, -⟩ := api_TSet_elem h' hy
      have HY := Lib.hid hy
      clear hy h h'
      go_wp2_with fail
      refine (HP.out y _ (List.mem_of_getElem? HY.out) HQ.out).mono ?_
      rintro e w2 ⟨rfl, hq2⟩
      have HQ2 := Lib.hid (hR.trans HQ.out hq2)
      clear hq2
      cases hpy : p y with
      | true =>
        have HPY := Lib.hid hpy
        clear hpy
        go_wp2
        go_ret
        exact ⟨by rw [findRes_at HFI.out HY.out HPY.out]; rfl, HQ2.out⟩
      | false =>
        have HPY := Lib.hid hpy
        clear hpy
        go_wp2
        go_roundw
        case rel => exact ⟨k + 1, by omega, by go_num, HFI.out.succ HY.out HPY.out, HQ2.out⟩
        case measure => simp [intOf]; omega
    · obtain rfl : k = xs.length := by have := HN.out; omega
      go_wp2
      go_ret
      exact ⟨by rw [findRes_none HFI.out]; rfl, HQ.out⟩
set_option maxRecDepth 100000 in
theorem containsE_any {R : World → World → Prop} (hR : Mild R) {S : Nat → Prop} {w : World} {a : Option Addr} {c n : Nat} {xs : List Api.TSet} {F : FuncId} {caps : Array Value} {p : Api.TSet → Bool} (hn : xs.length = n) (h : Arr S w a xs) (hS : ∀ b, S b → b < w.heap.size)
    (hF : ∀ (ar : Array Value) (w : World), (callFunc F ar).run Tryd.prog w = .ok (.enter F ar) w)
    (hp : ∀ (y : Api.TSet) (wx : World), y ∈ xs → R w wx → Calls Tryd.prog F (#[.agg #[.int .i64 y.Reg, .int .i64 y.Val]] ++ caps) wx fun e w' => e = .returned (.bool (p y)) ∧ R wx w') :
    Calls Tryd.prog 91 #[.slice a n c, .func (.func F) #[] caps] w fun e w' => e = .returned (.bool (xs.any p)) ∧ R w w' := by
  have HP := Lib.hid (indexE_any hR (c := c) hn h hS hF hp)
  clear hp hF
  go_enter Tryd.func91, Tryd.ntmps91
  go_wp2_with (with_reducible refine HP.out.mono ?_; rintro e w' ⟨rfl, hq⟩)
  go_ret
  exact ⟨by rw [← findRes_nonneg]; rfl, hq⟩
end Go.Proofs.YtekofpigmggbbaaDoor.funs

namespace Go.Proofs.YtekofpigmggbbaaDoor.has
open Go.Bk Go.RowKit

theorem notin_succ {xs : List Int} {k : Nat} {x y : Int} (h : x ∉ xs.take k) (hy : xs[k]? = some y) (hne : y ≠ x) : x ∉ xs.take (k + 1) := by
  rw [List.take_add_one, hy]
  simp only [Option.toList, List.mem_append, List.mem_singleton, not_or]
  exact ⟨h, fun e => hne e.symm⟩
theorem notin_all {xs : List Int} {x : Int} (h : x ∉ xs.take xs.length) : x ∉ xs := by rwa [List.take_of_length_le (Nat.le_refl _)] at h
set_option maxRecDepth 100000 in
theorem index_any {S : Nat → Prop} {w : World} {a : Option Addr} {c n : Nat} {xs : List Int} {x : Int} (hn : xs.length = n) (h : Arr S w a xs) :
    Calls Tryd.prog 153 #[.slice a n c, .int .i64 x] w fun e w' => (∃ r : Int, e = .returned (.int .i64 r) ∧ (0 ≤ r ↔ x ∈ xs)) ∧ w = w' := by
  have hm := h.small
  rw [hn] at hm
  unfold maxLen at hm
  have HN := Lib.hid hn
  clear hn
  go_enter Tryd.func153, Tryd.ntmps153
  go_wp2
  go_loopw [8] (fun i w' => ∃ k : Nat, k ≤ n ∧ i = .int .i64 k ∧ x ∉ xs.take k ∧ w = w') (fun i _ => n - (intOf i).toNat)
  case atStart => exact ⟨0, Nat.zero_le _, rfl, by simp, rfl⟩
  case round =>
    obtain ⟨k, hk, rfl, hni, rfl⟩ := hrel
    have HNI := Lib.hid hni
    clear hni
    by_cases hlt : k < n
    · obtain ⟨y, hy⟩ : ∃ y, xs[k]? = some y := ⟨_, List.getElem?_eq_getElem (by have := HN.out; omega)⟩
      obtain ⟨b1, o1, rfl, -, q1, hi⟩ := arr_int h hy
      have HY := Lib.hid hy
      clear hy h hi
      by_cases he : x = y
      · have he2 : (x == y) = true := by simpa using he
        have HE := Lib.hid he
        clear he
        go_wp2
        go_ret
        exact ⟨⟨k, rfl, ⟨fun _ => by rw [HE.out]; exact List.mem_of_getElem? HY.out, fun _ => by omega⟩⟩, rfl⟩
      · have he2 : (x == y) = false := by simpa using he
        have HE := Lib.hid he
        clear he
        go_wp2
        go_roundw
        case rel => exact ⟨k + 1, by omega, by go_num, notin_succ HNI.out HY.out (fun e => HE.out e.symm), by trivial⟩
        case measure => simp [intOf]; omega
    · obtain rfl : k = n := by omega
      go_wp2
      go_ret
      have h1 := HNI.out
      rw [← HN.out] at h1
      exact ⟨⟨-1, rfl, ⟨fun e => by omega, fun e => absurd e (notin_all h1)⟩⟩, rfl⟩

set_option maxRecDepth 100000 in
theorem contains_any {S : Nat → Prop} {w : World} {a : Option Addr} {c n : Nat} {xs : List Int} {x : Int} (hn : xs.length = n) (h : Arr S w a xs) :
    Calls Tryd.prog 133 #[.slice a n c, .int .i64 x] w fun e w' => e = .returned (.bool (decide (x ∈ xs))) ∧ w = w' := by
  have HC := Lib.hid (index_any (c := c) (x := x) hn h)
  clear h hn
  go_enter Tryd.func133, Tryd.ntmps133
  go_wp2_with fail
  refine HC.out.mono ?_
  rintro e w' ⟨⟨r, rfl, hr⟩, rfl⟩
  have HR := Lib.hid hr
  clear hr
  go_wp2_with fail
  go_ret
  exact ⟨by
    have := HR.out
    by_cases h : x ∈ xs
    · have h0 := this.2 h
      simp [h, h0]
    · have h0 : ¬ 0 ≤ r := fun e => h (this.1 e)
      simp [h]; omega, rfl⟩
theorem contains_at {S : Nat → Prop} {w : World} {a : Option Addr} {c n : Nat} {xs : List Int} {x : Int} (hn : xs.length = n) (h : Arr S w a xs) :
    Calls Tryd.prog 133 #[.slice a n c, .int .i64 x] w fun e w' => e = .returned (.bool (xs.contains x)) ∧ w = w' :=
  (contains_any hn h).mono fun e w' ⟨he, hw⟩ => ⟨by rw [he]; congr 2; rw [Bool.eq_iff_iff, List.contains_iff_mem]; simp, hw⟩
end Go.Proofs.YtekofpigmggbbaaDoor.has
