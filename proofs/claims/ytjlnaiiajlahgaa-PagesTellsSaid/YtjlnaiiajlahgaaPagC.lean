/- PagesTells: there, asked: walked. -/
import Derived.Test.YtjlnaiiajlahgaaPagB
set_option linter.unusedVariables false
set_option linter.unusedSimpArgs false
namespace Go.Proofs.Ytjlnaiiajlahgaa.pag
open Go.Bk Go.RowKit

def CodePost (w : World) (c : Int) (e : Ending) (w' : World) : Prop := e = .returned (.int .i64 c) ∧ RowKit.Below w.heap.size w w'
set_option maxRecDepth 100000 in
set_option maxHeartbeats 1000000 in
theorem there_any {S S2 : Nat → Prop} {w : World} {aP aU aR aL : Option Addr} {nP nU nR cP cU cR nL cL : Nat} {s : Store} {l : List Int} (h : StAt S w aP aU aR nP nU nR s) (hS : ∀ b, S b → b < w.heap.size) (hl : l.length = nL) (hA : Arr S2 w aL l) (hS2 : ∀ b, S2 b → b < w.heap.size) :
    Calls Try.prog 36 #[stV aP aU aR nP nU nR cP cU cR, .slice aL nL cL] w (CodePost w (thrs s l)) := by
  have HST : Hid (∀ w', RowKit.Below w.heap.size w w' → StAt S w' aP aU aR nP nU nR s) := fun w' hb => h.below hS hb
  have HAL : Hid (∀ w', RowKit.Below w.heap.size w w' → Arr S2 w' aL l) := fun w' hb => hA.keep (fun b hb' => hb.block b (hS2 b hb'))
  have HL : Hid (s.roots.length = nR ∧ l.length = nL) := ⟨h.lenR, hl⟩
  have hsm := hA.small
  rw [hl] at hsm
  unfold maxLen at hsm
  have hsR := h.roots.small
  rw [h.lenR] at hsR
  unfold maxLen at hsR
  have HB0 : Hid (RowKit.Below w.heap.size w (w.alloc (.cells #[.slice aP nP cP, .slice aU nU cU, .slice aR nR cR] 26))) := (RowKit.Below.refl _ _).alloc (Nat.le_refl _) _
  have HC := Lib.hid (check_any (cP := cP) (cU := cU) (cR := cR) (HST.out _ HB0.out) (fun b hb => Nat.lt_of_lt_of_le (hS b hb) HB0.out.size))
  have HBX : Hid (∀ w', RowKit.Below (w.alloc (.cells #[.slice aP nP cP, .slice aU nU cU, .slice aR nR cR] 26)).heap.size (w.alloc (.cells #[.slice aP nP cP, .slice aU nU cU, .slice aR nR cR] 26)) w' → w'.cell? ⟨w.heap.size, 0, none⟩ = some (.slice aP nP cP) ∧ w'.cell? ⟨w.heap.size, 1, none⟩ = some (.slice aU nU cU) ∧ w'.cell? ⟨w.heap.size, 2, none⟩ = some (.slice aR nR cR)) := fun w' hb => box_cells hb
  clear h hS hl hA hS2
  by_cases hc : chk s = 0
  case neg =>
    have d1 : (chk s != 0) = true := by simp [hc]
    have HT : Hid (thrs s l = chk s) := by show _ = _; unfold thrs; rw [if_pos hc]
    clear hc
    go_enter Try.func36, Try.ntmps36
    go_wp2_with (go_at_call 16; (with_reducible refine HC.out.mono ?_); rintro e w1 ⟨rfl, hb1⟩; have HB := Lib.hid (HB0.out.trans (hb1.mono HB0.out.size)); clear hb1)
    go_ret
    exact ⟨by rw [HT.out]; rfl, HB.out⟩
  case pos =>
  rw [show ChkPost (w.alloc (.cells #[.slice aP nP cP, .slice aU nU cU, .slice aR nR cR] 26)) s = fun e w' => e = .returned (.int .i64 0) ∧ RowKit.Below (w.alloc (.cells #[.slice aP nP cP, .slice aU nU cU, .slice aR nR cR] 26)).heap.size (w.alloc (.cells #[.slice aP nP cP, .slice aU nU cU, .slice aR nR cR] 26)) w' from by unfold ChkPost; rw [hc]] at HC
  have HT : Hid (thrs s l = if l.any (bad s) then 5 else 0) := by show _ = _; unfold thrs; rw [if_neg (by simp [hc])]
  clear hc
  go_enter Try.func36, Try.ntmps36
  go_wp2_with (go_at_call 16; (with_reducible refine HC.out.mono ?_); rintro e w1 ⟨rfl, hb1⟩; have HB := Lib.hid (HB0.out.trans (hb1.mono HB0.out.size)); (obtain ⟨x0, x1, x2⟩ := HBX.out w1 hb1); have HX2 := Lib.hid x2; clear hb1 x0 x1 x2)
  go_loopw [15] (fun v w' => ∃ i : Nat, i ≤ nL ∧ v = .int .i64 i ∧ (∀ j x, j < i → l[j]? = some x → bad s x = false) ∧ w' = w1) (fun i _ => nL - (intOf i).toNat)
  case atStart => exact ⟨0, Nat.zero_le _, rfl, fun j x hj => absurd hj (Nat.not_lt_zero _), rfl⟩
  case round =>
  obtain ⟨i, hi, rfl, hok, hw⟩ := hrel
  obtain rfl : wr = w1 := hw
  have HOK := Lib.hid hok
  have x2 := HX2.out
  by_cases hin : i < nL
  case neg =>
    have HF : Hid (thrs s l = 0) := by
      show _ = _
      rw [HT.out, if_neg]
      intro ha
      obtain ⟨x, hx, hb⟩ := List.any_eq_true.1 ha
      obtain ⟨j, hj⟩ := List.getElem?_of_mem hx
      have := hok j x (by have := (List.getElem?_eq_some_iff.1 hj).1; have := HL.out.2; omega) hj
      rw [this] at hb
      cases hb
    clear hok
    go_wp2_with fail
    go_ret
    exact ⟨by rw [HF.out]; rfl, HB.out⟩
  case pos =>
  obtain ⟨x, hx⟩ : ∃ x, l[i]? = some x := ⟨_, List.getElem?_eq_getElem (by rw [HL.out.2]; exact hin)⟩
  have HX := Lib.hid hx
  obtain ⟨b1, o1, rfl, -, p0, -⟩ := arr_int (HAL.out _ HB.out) hx
  have HBAD : Hid (bad s x = true → thrs s l = 5) := fun hb => by rw [HT.out, if_pos (List.any_eq_true.2 ⟨x, List.mem_of_getElem? HX.out, hb⟩)]
  clear hok hx
  by_cases h1 : x < 0
  · have d1 : decide (x < 0) = true := decide_eq_true h1
    have HF := Lib.hid (HBAD.out (by unfold bad; rw [d1]; rfl))
    clear h1
    go_wp2_with fail
    go_ret
    exact ⟨by rw [HF.out]; rfl, HB.out⟩
  have d1 : decide (x < 0) = false := decide_eq_false h1
  by_cases h2 : (nR : Int) ≤ x
  · have d2 : decide ((nR : Int) ≤ x) = true := decide_eq_true h2
    have HF := Lib.hid (HBAD.out (by unfold bad; rw [d1, HL.out.1, d2]; rfl))
    clear h1 h2
    go_wp2_with fail
    go_ret
    exact ⟨by rw [HF.out]; rfl, HB.out⟩
  have d2 : decide ((nR : Int) ≤ x) = false := decide_eq_false h2
  obtain ⟨q, rfl⟩ : ∃ q : Nat, x = (q : Int) := ⟨x.toNat, by omega⟩
  have hq : q < nR := by omega
  obtain ⟨r, hr⟩ : ∃ r, s.roots[q]? = some r := ⟨_, List.getElem?_eq_getElem (by rw [HL.out.1]; exact hq)⟩
  obtain ⟨b2, o2, a', c', rfl, -, q0, -, -, -⟩ := row_elem (HST.out _ HB.out).roots hr
  obtain ⟨m, hm⟩ : ∃ m, m = r.length := ⟨_, rfl⟩
  rw [← hm] at q0
  have hqq : ((q : Int)).toNat = q := by omega
  by_cases hm0 : m = 0
  · have HF := Lib.hid (HBAD.out (by unfold bad; rw [hqq, hr]; simp [List.eq_nil_of_length_eq_zero (hm.symm.trans hm0)]))
    have d3 : ((m : Int) == 0) = true := by simp [hm0]
    clear h1 h2 hr hm hm0 hqq d1
    go_wp2_with fail
    go_ret
    exact ⟨by rw [HF.out]; rfl, HB.out⟩
  · have HG : Hid (bad s (q : Int) = false) := by
      show _ = _
      unfold bad
      rw [hqq, hr, HL.out.1]
      simp
      refine ⟨by omega, fun e => hm0 (by rw [hm, e]; rfl)⟩
    have d3 : ((m : Int) == 0) = false := by simp; exact hm0
    clear h1 h2 hr hm hm0 hqq d1
    go_wp2_with fail
    go_roundw
    case rel => exact ⟨i + 1, by omega, by go_num, fun j x hj hx => if e : j = i then by subst e; rw [HX.out] at hx; obtain rfl := Option.some.inj hx; exact HG.out else HOK.out j x (by omega) hx, by trivial⟩
    case measure => simp [intOf]; omega
end Go.Proofs.Ytjlnaiiajlahgaa.pag
