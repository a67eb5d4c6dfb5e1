/- Alone of lines, and the document's, walked. -/
import Derived.Test.YtimlhjjdaggiiaaLineG
set_option linter.unusedVariables false
set_option linter.unusedSimpArgs false
namespace Go.Proofs.Ytimlhjjdaggiiaa.line
open Go.Bk Go.RowKit

theorem own_box {α : Type} [Rep α] {S : Nat → Prop} {w : World} {B g : Nat} {e : TypeId} {cs : List Value} {x : α} (hg : B ≤ g) (hb : Blk w g e cs) (hc : Rep.cells S w cs x) : Own S w B e (.slice (some ⟨g, 0, none⟩) 1 1) [x] := by
  have hl : cs.length = Rep.sz α := Rep.len hc
  refine ⟨[cs], rfl, fun k y ds hy hd => ?_, by simp [hl], .inr ⟨g, 1, cs.toArray, rfl, hg, hb, Nat.le_refl _, by simp [maxLen], by simp [hl], ?_⟩⟩
  · have hk : k = 0 := by have := (List.getElem?_eq_some_iff.1 hy).1; simp at this; exact this
    subst hk
    simp at hy hd
    subst hy hd
    exact hc
  · rw [List.take_of_length_le (by simp [hl])]; simp

def aloneRes (l : List Api.DLet) (i : Int) : List Api.DLet × Int := (if errOf l i = 0 then aloneOf l i.toNat else [], errOf l i)
def aloneRel (w : World) (l : List Api.DLet) (bs : List Bool) (m : Nat) (out i : Value) (w' : World) : Prop :=
  ∃ k : Nat, k ≤ m ∧ i = .int .i64 k ∧ Own (fun _ => False) w' w.heap.size 112 out (pickTo l bs k) ∧ Below w.heap.size w w'

theorem uses_any_m {S : Nat → Prop} {w : World} {a : Option Addr} {c m : Nat} {l : List Api.DLet} (hm : m = l.length) (h : Arr S w a l) (hS : ∀ b, S b → b < w.heap.size) (hlen : m ≤ 200) :
    Calls Try.prog 120 #[.slice a m c] w (RetL w (depsOf l)) := by subst hm; exact uses_any h hS hlen
theorem back_any_m {w w' : World} {a : Option Addr} {c m : Nat} {l : List Api.DDep} {i : Nat} (hm : l.length = m) (h : Arr (Fresh w w') w' a l) (hv : slice.Valid l) (hi : i < m) (hlen : m ≤ 200) :
    Calls Try.prog 99 #[.slice a m c, .int .i64 i] w' (RetL w' (slice.backOf l i)) := by subst hm; exact slice.back_any h (fun b hb => hb.2) hv hi hlen

set_option maxRecDepth 100000 in
set_option maxHeartbeats 1000000 in
theorem alone_any {S : Nat → Prop} {w : World} {a : Option Addr} {c : Nat} {l : List Api.DLet} {i : Int} (h : Arr S w a l) (hS : ∀ b, S b → b < w.heap.size) (hi : I64 i) :
    Calls Try.prog 53 #[.slice a l.length c, .int .i64 i] w (RetLE w (aloneRes l i)) := by
  have HR := Lib.hid (right_any (c := c) (i := i) h hS hi)
  by_cases he : errOf l i = 0
  case neg =>
    have hd : (errOf l i == 0) = false := by simpa using he
    have HE := Lib.hid he
    clear he
    go_enter Try.func53, Try.ntmps53
    go_wp2_with (with_reducible refine HR.out.mono ?_; rintro e w' ⟨rfl, hq⟩)
    go_ret2
    exact .err (by unfold aloneRes; rw [if_neg HE.out]) hq
  have hd : (errOf l i == 0) = true := by simpa using he
  obtain ⟨hlen, -, h0, h1⟩ := errOf_zero he
  have HE := Lib.hid he
  clear he
  obtain ⟨n, rfl⟩ : ∃ n : Nat, i = n := ⟨i.toNat, by omega⟩
  have hn : n < l.length := by omega
  have hbl : (slice.backOf (depsOf l) n).length = l.length := by simp [slice.backOf, deps_len]
  have hdl := deps_len l
  obtain ⟨m, hm⟩ : ∃ m, m = l.length := ⟨_, rfl⟩
  obtain ⟨bs, hbs⟩ : ∃ bs, bs = slice.backOf (depsOf l) n := ⟨_, rfl⟩
  have HRES : Hid (aloneRes l n = (pickTo l bs m, 0)) := by
    show _ = _
    rw [aloneRes, HE.out, if_pos rfl, Int.toNat_natCast, hbs, hm]; rfl
  rw [← hm] at hlen hn hbl hdl
  have HM := Lib.hid hm; have HBS := Lib.hid hbs; have HBL := Lib.hid hbl; have HDL := Lib.hid hdl
  have HS2 : Hid (∀ w1, Grow w w1 → Arr S w1 a l ∧ ∀ b, S b → b < w1.heap.size) := fun w1 hg => ⟨h.keep (fun b hb => hg.block b (hS b hb)), fun b hb => Nat.lt_of_lt_of_le (hS b hb) hg.size⟩
  rw [← hm] at HR; rw [← hm]
  clear hm hbs hbl hdl h0 h1
  go_enter Try.func53, Try.ntmps53
  go_wp2_with (with_reducible refine HR.out.mono ?_; rintro e w1 ⟨rfl, hq⟩; rw [HE.out]; have HQ1 := Lib.hid hq; clear hq)
  refine (uses_any_m HM.out (HS2.out _ HQ1.out).1 (HS2.out _ HQ1.out).2 hlen).mono ?_
  rintro e w2 ⟨⟨a2, c2, rfl, ha2, -, -⟩, hq⟩
  have HA2 := Lib.hid ha2; have HQ2 := Lib.hid (HQ1.out.trans (hq.mono HQ1.out.size))
  rw [HDL.out]
  clear ha2 hq
  go_wp2_with fail
  refine (back_any_m HDL.out HA2.out (deps_valid l) hn hlen).mono ?_
  rintro e w3 ⟨⟨a3, c3, rfl, ha3, -, -⟩, hq⟩
  have HQ3 := Lib.hid (HQ2.out.trans (hq.mono HQ2.out.size))
  rw [← HBS.out] at ha3
  rw [HBL.out]
  have HA3 := Lib.hid ha3
  clear ha3 hq
  go_wp2_with fail
  have hbs3 := HQ3.out.size
  go_loopw [7, 21] (aloneRel w3 l bs m) (fun _ i _ => m - (intOf i).toNat)
  case atStart => exact ⟨0, Nat.zero_le _, rfl, Own.nil _ _ _ _, Below.refl _ _⟩
  case round =>
    obtain ⟨k, hk, rfl, hown, hb⟩ := hrel
    have HO := Lib.hid hown; have HB := Lib.hid hb
    have hbs := hb.size
    have HW : Hid (Below w.heap.size w wr) := HQ3.out.trans (hb.mono hbs3)
    have h' := h.keep (w' := wr) (fun b hb' => HW.out.block b (hS b hb'))
    have hA := HA3.out.keep (w' := wr) (fun b hb' => hb.block b hb'.2)
    clear hown hb
    by_cases hlt : k < m
    · obtain ⟨x, hx⟩ : ∃ x, l[k]? = some x := ⟨_, List.getElem?_eq_getElem (by have := HM.out; omega)⟩
      obtain ⟨b, off, rfl, hSb, q1, q2, q3, q4, g1, g2, g3, g4⟩ := api_DLet_elem h' hx
      obtain ⟨y, hy⟩ : ∃ y, bs[k]? = some y := ⟨_, List.getElem?_eq_getElem (by rw [HBS.out, HBL.out]; exact hlt)⟩
      obtain ⟨b2, o2, rfl, -, p1⟩ := arr_bool hA hy
      have HP := Lib.hid (pickTo_succ l bs k)
      have hpl := pickTo_len l bs k
      cases y with
      | false =>
        have HN : Hid (pickTo l bs (k + 1) = pickTo l bs k) := by show _ = _; rw [HP.out, sel_false hy]; simp
        clear h' h hx hA hy
        go_wp2_with fail
        go_roundw
        case rel => exact ⟨k + 1, by omega, by go_num, by rw [HN.out]; exact HO.out, HB.out⟩
        case measure => simp [intOf] <;> omega
      | true =>
        have HN : Hid (pickTo l bs (k + 1) = pickTo l bs k ++ [x]) := by show _ = _; rw [HP.out, sel_true hy hx]; simp
        clear h' h hx hA hy
        go_wp2_with ((at_builtin; with_reducible refine Try.wp_app104 rfl rfl rfl rfl rfl (by first | rfl | simp) (HO.out) (api_DLet_cells_mk g1 g2 g3 g4) (fun _ h => h.elim) (by omega) (by exact hbs) fun v' w' hown' hg' => ?_); have HN' := Lib.hid hown'; have HG := Lib.hid hg'; clear hown' hg')
        go_roundw
        case rel => exact ⟨k + 1, by omega, by go_num, by rw [HN.out]; exact HN'.out, HB.out.grown HG.out hbs (fun r hr => (HO.out.lt r hr).1)⟩
        case measure => simp [intOf] <;> omega
    · obtain rfl : k = m := by omega
      obtain ⟨va, vc, rfl, hcap, hnil, ha⟩ := HO.out.arr
      have HA4 := Lib.hid ha
      clear h' h hA ha
      go_wp2_with fail
      go_ret2
      exact .ok HRES.out HW.out (HA4.out.mono (fun b hb => ⟨Nat.le_trans hbs3 (hb.elim False.elim (·.1)), hb.elim False.elim (·.2)⟩)) hcap hnil
end Go.Proofs.Ytimlhjjdaggiiaa.line
