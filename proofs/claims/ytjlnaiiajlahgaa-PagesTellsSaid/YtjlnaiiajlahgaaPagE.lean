/- PagesTells: Shared: walked. -/
import Derived.Test.YtjlnaiiajlahgaaPagD
set_option linter.unusedVariables false
set_option linter.unusedSimpArgs false
namespace Go.Proofs.Ytjlnaiiajlahgaa.pag
open Go.Bk Go.RowKit

def shRes (s : Store) (a b : Int) : Int × Int := if thrs s [a, b] ≠ 0 then (0, thrs s [a, b]) else (sharedOf (rowAt s a) (rowAt s b) 16, 0)
theorem sharedOf_range (r t : List Int) : ∀ k, 0 ≤ sharedOf r t k ∧ sharedOf r t k ≤ k
  | 0 => by simp [sharedOf]
  | k + 1 => by
    have := sharedOf_range r t k
    rw [sharedOf]
    split
    · split <;> omega
    · omega
theorem sharedOf_succ {r t : List Int} {k : Nat} {p q : Int} (h1 : r[k]? = some p) (h2 : t[k]? = some q) : sharedOf r t (k + 1) = sharedOf r t k + (if 0 ≤ p ∧ p = q then 1 else 0) := by rw [sharedOf, h1, h2]
theorem rowAt_there {s : Store} {q : Nat} {r : List Int} (h : There s q r) : rowAt s (q : Int) = r := by unfold rowAt; rw [show ((q : Int)).toNat = q by omega, h.at']; rfl
set_option maxRecDepth 100000 in
set_option maxHeartbeats 1000000 in
theorem shared_any {S : Nat → Prop} {w : World} {aP aU aR : Option Addr} {nP nU nR cP cU cR : Nat} {s : Store} {a b : Int} (h : StAt S w aP aU aR nP nU nR s) (hS : ∀ b, S b → b < w.heap.size) (ha : I64 a) (hb : I64 b) :
    Calls Try.prog 9 #[stV aP aU aR nP nU nR cP cU cR, .int .i64 a, .int .i64 b] w fun e w' => e = .returned (.tuple #[.int .i64 (shRes s a b).1, .int .i64 (shRes s a b).2]) ∧ RowKit.Below w.heap.size w w' := by
  have HB0 : Hid (RowKit.Below w.heap.size w ((w.alloc (.cells #[.slice aP nP cP, .slice aU nU cU, .slice aR nR cR] 26)).alloc (.cells #[.int .i64 a, .int .i64 b] 3))) := ((RowKit.Below.refl _ _).alloc (Nat.le_refl _) _).alloc (by simp) _
  have hsz : (w.alloc (.cells #[.slice aP nP cP, .slice aU nU cU, .slice aR nR cR] 26)).heap.size = w.heap.size + 1 := by simp
  have hbk := blk_new (w.alloc (.cells #[.slice aP nP cP, .slice aU nU cU, .slice aR nR cR] 26)) [.int .i64 a, .int .i64 b] 3
  rw [hsz] at hbk
  have HC : Hid (Calls Try.prog 36 #[stV aP aU aR nP nU nR cP cU cR, .slice (some ⟨w.heap.size + 1, 0, none⟩) 2 2] ((w.alloc (.cells #[.slice aP nP cP, .slice aU nU cU, .slice aR nR cR] 26)).alloc (.cells #[.int .i64 a, .int .i64 b] 3)) (CodePost _ (thrs s [a, b]))) :=
    there_any (S2 := fun b => b = w.heap.size + 1) (h.below hS HB0.out) (fun b hb => Nat.lt_of_lt_of_le (hS b hb) HB0.out.size) rfl (arr_ints (zs := [a, b]) hbk (by simp [maxLen]) rfl (fun z hz => by simp at hz; rcases hz with rfl | rfl; exact ha; exact hb)) (fun b hb => by subst hb; exact hbk.lt)
  have HBX : Hid (∀ w', RowKit.Below ((w.alloc (.cells #[.slice aP nP cP, .slice aU nU cU, .slice aR nR cR] 26)).alloc (.cells #[.int .i64 a, .int .i64 b] 3)).heap.size ((w.alloc (.cells #[.slice aP nP cP, .slice aU nU cU, .slice aR nR cR] 26)).alloc (.cells #[.int .i64 a, .int .i64 b] 3)) w' → w'.cell? ⟨w.heap.size, 2, none⟩ = some (.slice aR nR cR)) := fun w' hb =>
    (box_cells (((RowKit.Below.refl _ _).alloc (Nat.le_refl _) _).trans (hb.mono (by simp)))).2.2
  have HST : Hid (∀ w', RowKit.Below w.heap.size w w' → StAt S w' aP aU aR nP nU nR s) := fun w' hb => h.below hS hb
  have HLR := Lib.hid h.lenR
  clear h hS ha hb hsz hbk
  obtain ⟨c, hc⟩ : ∃ c, c = thrs s [a, b] := ⟨_, rfl⟩
  rw [← hc] at HC
  by_cases h0 : c = 0
  case neg =>
    have HR : Hid (shRes s a b = (0, c)) := by show _ = _; unfold shRes; rw [← hc, if_pos h0]
    have d1 : (c != 0) = true := by simp [h0]
    clear h0 hc
    go_enter Try.func9, Try.ntmps9
    go_wp2_with (go_at_call 36; (with_reducible refine HC.out.mono ?_); rintro e w1 ⟨rfl, hb1⟩; have HB := Lib.hid (HB0.out.trans (hb1.mono HB0.out.size)); clear hb1)
    go_ret2
    rw [HR.out]
    exact ⟨rfl, HB.out⟩
  case pos =>
  subst h0
  obtain ⟨hc0, hcb⟩ := thrs_zero hc.symm
  obtain ⟨q, r, rfl, hT⟩ := there_of hc0 (hcb a (by simp))
  obtain ⟨q2, t, rfl, hT2⟩ := there_of hc0 (hcb b (by simp))
  have HR : Hid (shRes s q q2 = (sharedOf r t 16, 0)) := by show _ = _; unfold shRes; rw [← hc, if_neg (by simp), rowAt_there hT, rowAt_there hT2]
  have HT := Lib.hid hT; have HT2 := Lib.hid hT2
  have hq : q < nR := by rw [← HLR.out]; exact (List.getElem?_eq_some_iff.1 hT.at').1
  have hq2 : q2 < nR := by rw [← HLR.out]; exact (List.getElem?_eq_some_iff.1 hT2.at').1
  have HRW : Hid (∀ w', RowKit.Below w.heap.size w w' → ∃ b1 o1 a' c' a2 c2 , aR = some ⟨b1, o1, none⟩ ∧ w'.cell? ⟨b1, o1 + q, none⟩ = some (.slice a' 16 c') ∧ w'.cell? ⟨b1, o1 + q2, none⟩ = some (.slice a2 16 c2) ∧ Arr S w' a' r ∧ Arr S w' a2 t) := by
    intro w' hb
    obtain ⟨b1, o1, a', c', e1, -, k1, -, -, k2⟩ := row_elem (HST.out w' hb).roots HT.out.at'
    obtain ⟨b2, o2, a2, c2, e2, -, k3, -, -, k4⟩ := row_elem (HST.out w' hb).roots HT2.out.at'
    rw [e1] at e2
    injection e2 with e2
    injection e2 with e2 e3
    subst e2 e3
    rw [HT.out.len] at k1
    rw [HT2.out.len] at k3
    exact ⟨b1, o1, a', c', a2, c2, e1, k1, k3, k2, k4⟩
  clear hc hc0 hcb hT hT2
  go_enter Try.func9, Try.ntmps9
  go_upto_region 5 with (go_at_call 36; (with_reducible refine HC.out.mono ?_); rintro e w1 ⟨rfl, hb1⟩; have HB := Lib.hid (HB0.out.trans (hb1.mono HB0.out.size)); have x2 := HBX.out w1 hb1; clear hb1)
  obtain ⟨b1, o1, a', c', a2, c2, rfl, k1, k3, k2, k4⟩ := HRW.out _ HB.out
  have HA1 := Lib.hid k2; have HA2 := Lib.hid k4
  have HK3 := Lib.hid k3; have HX2 := Lib.hid x2
  clear HRW HC HBX k2 k4
  go_wp2_with fail
  clear k1 k3 x2
  go_loopw [9, 26] (fun v n w' => ∃ i : Nat, i ≤ 16 ∧ n = .int .i64 i ∧ v = .int .i64 (sharedOf r t i) ∧ w' = w1) (fun _ i _ => 16 - (intOf i).toNat)
  case atStart => exact ⟨0, Nat.zero_le _, rfl, rfl, rfl⟩
  case round =>
  obtain ⟨i, hi, rfl, rfl, hw⟩ := hrel
  obtain rfl : wr = w1 := hw
  by_cases hin : i < 16
  case neg =>
    have hie : i = 16 := by omega
    subst hie
    go_wp2_with fail
    go_ret2
    rw [HR.out]
    exact ⟨rfl, HB.out⟩
  case pos =>
  obtain ⟨x, hx⟩ : ∃ x, r[i]? = some x := ⟨_, List.getElem?_eq_getElem (by rw [HT.out.len]; exact hin)⟩
  obtain ⟨y, hy⟩ : ∃ y, t[i]? = some y := ⟨_, List.getElem?_eq_getElem (by rw [HT2.out.len]; exact hin)⟩
  obtain ⟨b3, o3, rfl, -, p0, -⟩ := arr_int HA1.out hx
  obtain ⟨b4, o4, rfl, -, p1, -⟩ := arr_int HA2.out hy
  have HS := Lib.hid (sharedOf_succ hx hy)
  have hsr := sharedOf_range r t i
  have hs1 := hsr.1; have hs2 := hsr.2
  have k3 := HK3.out; have x2 := HX2.out
  obtain ⟨m, hm⟩ : ∃ m, m = sharedOf r t i := ⟨_, rfl⟩
  rw [← hm] at hs1 hs2 ⊢
  have HM := Lib.hid hm
  clear hx hy hsr hm
  by_cases h1 : 0 ≤ x
  case neg =>
    have d1 : decide (0 ≤ x) = false := decide_eq_false h1
    have HE : Hid (sharedOf r t (i + 1) = m) := by show _ = _; rw [HS.out, if_neg (by omega), HM.out]; omega
    clear h1
    go_wp2_with fail
    go_roundw
    case rel => exact ⟨i + 1, by omega, by go_num, by rw [HE.out], by trivial⟩
    case measure => simp [intOf]; omega
  have d1 : decide (0 ≤ x) = true := decide_eq_true h1
  by_cases h2 : x = y
  · have d2 : (x == y) = true := by simp [h2]
    have HE : Hid (sharedOf r t (i + 1) = m + 1) := by show _ = _; rw [HS.out, if_pos ⟨h1, h2⟩, HM.out]
    clear h1 h2
    go_wp2_with fail
    go_roundw
    case rel => exact ⟨i + 1, by omega, by go_num, by rw [HE.out], by trivial⟩
    case measure => simp [intOf]; omega
  · have d2 : (x == y) = false := by simp [h2]
    have HE : Hid (sharedOf r t (i + 1) = m) := by show _ = _; rw [HS.out, if_neg (fun h => h2 h.2), HM.out]; omega
    clear h1 h2
    go_wp2_with fail
    go_roundw
    case rel => exact ⟨i + 1, by omega, by go_num, by rw [HE.out], by trivial⟩
    case measure => simp [intOf]; omega
end Go.Proofs.Ytjlnaiiajlahgaa.pag
