/- PagesTells: the document's PagesThere: walked. -/
import Derived.Test.YtjlnaiiajlahgaaPagG
set_option linter.unusedVariables false
set_option linter.unusedSimpArgs false
namespace Go.Proofs.Ytjlnaiiajlahgaa.pag
open Go.Bk Go.RowKit

theorem thrs_one {s : Store} {root : Int} (h : chk s = 0) : thrs s [root] = if bad s root then 5 else 0 := by
  unfold thrs
  rw [if_neg (by simp [h])]
  simp
set_option maxRecDepth 100000 in
set_option maxHeartbeats 1000000 in
theorem pthere_any {S : Nat → Prop} {w : World} {aP aU aR : Option Addr} {nP nU nR cP cU cR : Nat} {s : Store} {root : Int} (h : StAt S w aP aU aR nP nU nR s) (hS : ∀ b, S b → b < w.heap.size) :
    Calls Try.prog 11 #[stV aP aU aR nP nU nR cP cU cR, .int .i64 root] w (CodePost w (thrs s [root])) := by
  have HST : Hid (∀ w', RowKit.Below w.heap.size w w' → StAt S w' aP aU aR nP nU nR s) := fun w' hb => h.below hS hb
  have HLR := Lib.hid h.lenR
  have hsR := h.roots.small
  rw [h.lenR] at hsR
  unfold maxLen at hsR
  have HB0 : Hid (RowKit.Below w.heap.size w (w.alloc (.cells #[.slice aP nP cP, .slice aU nU cU, .slice aR nR cR] 26))) := (RowKit.Below.refl _ _).alloc (Nat.le_refl _) _
  have HC := Lib.hid (pcheck_any (cP := cP) (cU := cU) (cR := cR) (HST.out _ HB0.out) (fun b hb => Nat.lt_of_lt_of_le (hS b hb) HB0.out.size))
  have HBX : Hid (∀ w', RowKit.Below (w.alloc (.cells #[.slice aP nP cP, .slice aU nU cU, .slice aR nR cR] 26)).heap.size (w.alloc (.cells #[.slice aP nP cP, .slice aU nU cU, .slice aR nR cR] 26)) w' → w'.cell? ⟨w.heap.size, 0, none⟩ = some (.slice aP nP cP) ∧ w'.cell? ⟨w.heap.size, 1, none⟩ = some (.slice aU nU cU) ∧ w'.cell? ⟨w.heap.size, 2, none⟩ = some (.slice aR nR cR)) := fun w' hb => box_cells hb
  clear h hS
  obtain ⟨c, hc⟩ : ∃ c, c = chk s := ⟨_, rfl⟩
  rw [← hc] at HC
  by_cases h0 : c = 0
  case neg =>
    have d1 : (c == 0) = false := by simp [h0]
    have HT : Hid (thrs s [root] = c) := by show _ = _; unfold thrs; rw [← hc, if_pos h0]
    clear h0 hc
    go_enter Try.func11, Try.ntmps11
    go_wp2_with (go_at_call 10; (with_reducible refine HC.out.mono ?_); rintro e w1 ⟨rfl, hb1⟩; have HB := Lib.hid (HB0.out.trans (hb1.mono HB0.out.size)); clear hb1)
    go_ret
    exact ⟨by rw [HT.out]; rfl, HB.out⟩
  case pos =>
  subst h0
  have HT : Hid (thrs s [root] = if bad s root then 5 else 0) := thrs_one hc.symm
  clear hc
  by_cases hin : 0 ≤ root ∧ root < (nR : Int)
  case neg =>
    have HF : Hid (thrs s [root] = 5) := by
      show _ = _
      rw [HT.out, if_pos]
      unfold bad
      rw [HLR.out]
      simp only [Bool.or_eq_true, decide_eq_true_eq]
      omega
    have HBT : Hid (∀ w, Calls Try.prog 37 #[.int .i64 root, .int .i64 0, .int .i64 ((nR : Int) - 1)] w fun e w' => e = .returned (.bool false) ∧ w = w') := fun w => between_false (by omega)
    clear hin
    go_enter Try.func11, Try.ntmps11
    go_wp2_with (first
      | (go_at_call 10; (with_reducible refine HC.out.mono ?_); rintro e w1 ⟨rfl, hb1⟩; have HB := Lib.hid (HB0.out.trans (hb1.mono HB0.out.size)); (obtain ⟨x0, x1, x2⟩ := HBX.out w1 hb1); clear hb1)
      | (go_at_call 37; (with_reducible refine (HBT.out _).mono ?_); rintro e w' ⟨rfl, rfl⟩))
    go_ret
    exact ⟨by rw [HF.out]; rfl, HB.out⟩
  case pos =>
  have HBT : Hid (∀ w, Calls Try.prog 37 #[.int .i64 root, .int .i64 0, .int .i64 ((nR : Int) - 1)] w fun e w' => e = .returned (.bool true) ∧ w = w') := fun w => between_true (by omega) (by omega)
  obtain ⟨q, rfl⟩ : ∃ q : Nat, root = (q : Int) := ⟨root.toNat, by omega⟩
  have hq : q < nR := by omega
  obtain ⟨r, hr⟩ : ∃ r, s.roots[q]? = some r := ⟨_, List.getElem?_eq_getElem (by rw [HLR.out]; exact hq)⟩
  obtain ⟨b1, o1, a', c', rfl, -, -⟩ := row_elem (HST.out _ HB0.out).roots hr
  have HQ : Hid (∀ w', RowKit.Below w.heap.size w w' → ∃ a' c', w'.cell? ⟨b1, o1 + q, none⟩ = some (.slice a' r.length c')) := fun w' hb => by
    obtain ⟨b2, o2, a2, c2, e, -, k, -⟩ := row_elem (HST.out _ hb).roots hr
    injection e with e; injection e with e1 e2
    subst e1 e2
    exact ⟨a2, c2, k⟩
  obtain ⟨m, hm⟩ : ∃ m, m = r.length := ⟨_, rfl⟩
  rw [← hm] at HQ
  have hqq : ((q : Int)).toNat = q := by omega
  have hF : thrs s [(q : Int)] = if m = 0 then 5 else 0 := by
    rw [HT.out]
    unfold bad
    rw [hqq, hr, HLR.out]
    by_cases h0 : m = 0
    · rw [if_pos h0, if_pos]
      simp [List.eq_nil_of_length_eq_zero (hm.symm.trans h0)]
    · rw [if_neg h0, if_neg]
      simp
      refine ⟨by omega, fun e => h0 (by rw [hm, e]; rfl)⟩
  have HF := Lib.hid hF
  clear hin hr hm hqq hF
  by_cases hm0 : m = 0
  · have d3 : ((m : Int) == 0) = true := by simp [hm0]
    have HG : Hid (thrs s [(q : Int)] = 5) := by show _ = _; rw [HF.out, if_pos hm0]
    clear hm0
    go_enter Try.func11, Try.ntmps11
    go_wp2_with (first
      | (go_at_call 10; (with_reducible refine HC.out.mono ?_); rintro e w1 ⟨rfl, hb1⟩; have HB := Lib.hid (HB0.out.trans (hb1.mono HB0.out.size)); (obtain ⟨x0, x1, x2⟩ := HBX.out w1 hb1); (obtain ⟨a2, c2, q0⟩ := HQ.out w1 HB.out); clear hb1)
      | (go_at_call 37; (with_reducible refine (HBT.out _).mono ?_); rintro e w' ⟨rfl, rfl⟩))
    go_ret
    exact ⟨by rw [HG.out]; rfl, HB.out⟩
  · have d3 : ((m : Int) == 0) = false := by simp; exact hm0
    have HG : Hid (thrs s [(q : Int)] = 0) := by show _ = _; rw [HF.out, if_neg hm0]
    clear hm0
    go_enter Try.func11, Try.ntmps11
    go_wp2_with (first
      | (go_at_call 10; (with_reducible refine HC.out.mono ?_); rintro e w1 ⟨rfl, hb1⟩; have HB := Lib.hid (HB0.out.trans (hb1.mono HB0.out.size)); (obtain ⟨x0, x1, x2⟩ := HBX.out w1 hb1); (obtain ⟨a2, c2, q0⟩ := HQ.out w1 HB.out); clear hb1)
      | (go_at_call 37; (with_reducible refine (HBT.out _).mono ?_); rintro e w' ⟨rfl, rfl⟩))
    go_ret
    exact ⟨by rw [HG.out]; rfl, HB.out⟩
end Go.Proofs.Ytjlnaiiajlahgaa.pag
