/- PagesTells: Check: walked. -/
import Derived.Test.YtjlnaiiajlahgaaPagA
import Derived.Test.YtjlnaiiajlahgaaEqualI
import Derived.Test.YtjlnaiiajlahgaaEq4
set_option linter.unusedVariables false
set_option linter.unusedSimpArgs false
namespace Go.Proofs.Ytjlnaiiajlahgaa.pag
open Go.Bk Go.RowKit

theorem chk_large {s : Store} (h : 400 < s.pages.length ∨ 40 < s.roots.length) : chk s = 2 := by unfold chk; rw [if_pos h]
theorem chk_form {s : Store} (h : ¬ (400 < s.pages.length ∨ 40 < s.roots.length)) (h2 : ¬ Right s) : chk s = 3 := by unfold chk; rw [if_neg h, if_neg h2]
theorem chk_ok {s : Store} (h : ¬ (400 < s.pages.length ∨ 40 < s.roots.length)) (h2 : Right s) : chk s = 0 := by unfold chk; rw [if_neg h, if_pos h2]
def ChkPost (w : World) (s : Store) (e : Ending) (w' : World) : Prop := e = .returned (.int .i64 (chk s)) ∧ RowKit.Below w.heap.size w w'
set_option maxRecDepth 100000 in
set_option maxHeartbeats 1000000 in
theorem check_any {S : Nat → Prop} {w : World} {aP aU aR : Option Addr} {nP nU nR cP cU cR : Nat} {s : Store} (h : StAt S w aP aU aR nP nU nR s) (hS : ∀ b, S b → b < w.heap.size) :
    Calls Try.prog 16 #[stV aP aU aR nP nU nR cP cU cR] w (ChkPost w s) := by
  have hsP := h.pages.small; have hsR := h.roots.small
  rw [h.lenP] at hsP; rw [h.lenR] at hsR
  unfold maxLen at hsP hsR
  have HST : Hid (∀ w', RowKit.Below w.heap.size w w' → StAt S w' aP aU aR nP nU nR s) := fun w' hb => h.below hS hb
  have HL : Hid (s.pages.length = nP ∧ s.uses.length = nU ∧ s.roots.length = nR) := ⟨h.lenP, h.lenU, h.lenR⟩
  have HSS : Hid (∀ b, S b → b < w.heap.size) := hS
  clear h hS
  by_cases hp : 400 < nP
  · have d1 : decide ((400 : Int) < (nP : Int)) = true := decide_eq_true (by omega)
    have HC : Hid (chk s = 2) := chk_large (.inl (by rw [HL.out.1]; exact hp))
    clear hp
    go_enter Try.func16, Try.ntmps16
    go_wp2_with fail
    go_ret
    exact ⟨by rw [HC.out]; rfl, (RowKit.Below.refl _ _).alloc (Nat.le_refl _) _⟩
  have d1 : decide ((400 : Int) < (nP : Int)) = false := decide_eq_false (by omega)
  by_cases hr : 40 < nR
  · have d2 : decide ((40 : Int) < (nR : Int)) = true := decide_eq_true (by omega)
    have HC : Hid (chk s = 2) := chk_large (.inr (by rw [HL.out.2.2]; exact hr))
    clear hp hr
    go_enter Try.func16, Try.ntmps16
    go_wp2_with fail
    go_ret
    exact ⟨by rw [HC.out]; rfl, (RowKit.Below.refl _ _).alloc (Nat.le_refl _) _⟩
  have d2 : decide ((40 : Int) < (nR : Int)) = false := decide_eq_false (by omega)
  have HLG : Hid (¬ (400 < s.pages.length ∨ 40 < s.roots.length)) := by show ¬ _; rw [HL.out.1, HL.out.2.2]; omega
  have HBX : Hid (∀ w', RowKit.Below (w.alloc (.cells #[.slice aP nP cP, .slice aU nU cU, .slice aR nR cR] 26)).heap.size (w.alloc (.cells #[.slice aP nP cP, .slice aU nU cU, .slice aR nR cR] 26)) w' → w'.cell? ⟨w.heap.size, 0, none⟩ = some (.slice aP nP cP) ∧ w'.cell? ⟨w.heap.size, 1, none⟩ = some (.slice aU nU cU) ∧ w'.cell? ⟨w.heap.size, 2, none⟩ = some (.slice aR nR cR)) := fun w' hb => box_cells hb
  have HB0 : Hid (RowKit.Below w.heap.size w (w.alloc (.cells #[.slice aP nP cP, .slice aU nU cU, .slice aR nR cR] 26))) := (RowKit.Below.refl _ _).alloc (Nat.le_refl _) _
  have HU := Lib.hid (uses_any (cP := cP) (cU := cU) (cR := cR) (HST.out _ HB0.out) (fun b hb => Nat.lt_of_lt_of_le (HSS.out b hb) HB0.out.size) (by omega) (by omega))
  go_enter Try.func16, Try.ntmps16
  go_wp2_with fail
  refine HU.out.mono ?_
  rintro e w1 (⟨hok, a, c, rfl, har, hb1⟩ | ⟨hok, a, c, n, rfl, hb1⟩)
  case inr =>
    have HC : Hid (chk s = 3) := chk_form HLG.out fun h => hok h.1
    have HB := Lib.hid (HB0.out.trans (hb1.mono HB0.out.size))
    clear hok hb1
    go_wp2_with fail
    go_ret
    exact ⟨by rw [HC.out]; rfl, HB.out⟩
  case inl =>
  have HB := Lib.hid (HB0.out.trans (hb1.mono HB0.out.size))
  obtain ⟨x0, x1, x2⟩ := HBX.out w1 hb1
  have HST1 := Lib.hid (HST.out w1 HB.out)
  have HOK := Lib.hid hok; have HAR := Lib.hid har
  have HEQ := Lib.hid (equal_any (n1 := nP) (c1 := c) (c2 := cU) (by rw [outOf_len]; exact HL.out.1) HL.out.2.1 har HST1.out.uses)
  rw [HL.out.1]
  clear hok har hb1
  by_cases heq : outOf s.pages.length s.roots.flatten = s.uses
  case neg =>
    have HC : Hid (chk s = 3) := chk_form HLG.out fun h => heq h.2.1
    have de : decide (outOf s.pages.length s.roots.flatten = s.uses) = false := decide_eq_false heq
    rw [de] at HEQ
    clear heq de
    go_wp2_with (go_at_call 41; (with_reducible refine HEQ.out.mono ?_); rintro e w2 ⟨rfl, hq⟩; have HB2 := Lib.hid (HB.out.trans (hq.below _)); clear hq)
    go_ret
    exact ⟨by rw [HC.out]; rfl, HB2.out⟩
  case pos =>
  have HEE := Lib.hid heq
  have de : decide (outOf s.pages.length s.roots.flatten = s.uses) = true := decide_eq_true heq
  rw [de] at HEQ
  clear heq de
  have HBQ : Hid (∀ w2, Quiet w1 w2 → w2.cell? ⟨w.heap.size, 0, none⟩ = some (.slice aP nP cP)) := fun w2 hq => (hq.cell _).trans x0
  go_wp2_with (go_at_call 41; (with_reducible refine HEQ.out.mono ?_); rintro e w2 ⟨rfl, hq⟩; have HB2 := Lib.hid (HB.out.trans (hq.below _)); have HQ2 := Lib.hid hq; have x0' := HBQ.out w2 hq; clear hq)
  clear HEQ HBQ HU x0 x1 x2 x0'
  go_loopw [34] (fun v w' => ∃ i : Nat, i ≤ nP ∧ v = .int .i64 i ∧ (∀ j, j < i → okPage s j) ∧ RowKit.Below w2.heap.size w2 w') (fun i _ => nP - (intOf i).toNat)
  case atStart => exact ⟨0, Nat.zero_le _, rfl, fun j hj => absurd hj (Nat.not_lt_zero _), RowKit.Below.refl _ _⟩
  case round =>
  obtain ⟨i, hi, rfl, hok, hbel⟩ := hrel
  have HOKP := Lib.hid hok
  have HBW := Lib.hid (HB2.out.trans (hbel.mono HB2.out.size))
  by_cases hin : i < nP
  case neg =>
    have HC : Hid (chk s = 0) := chk_ok HLG.out ⟨HOK.out, HEE.out, fun j hj => HOKP.out j (by rw [HL.out.1] at hj; omega)⟩
    clear hok hbel
    go_wp2_with fail
    go_ret
    exact ⟨by rw [HC.out]; rfl, HBW.out⟩
  case pos =>
  obtain ⟨x, hx⟩ : ∃ x, s.pages[i]? = some x := ⟨_, List.getElem?_eq_getElem (by rw [HL.out.1]; exact hin)⟩
  obtain ⟨x0, x1, x2, x3⟩ := x
  obtain ⟨b1, o1, rfl, -, p0, p1, p2, p3, -⟩ := int4_elem (HST.out _ HBW.out).pages hx
  dsimp only at p0 p1 p2 p3
  have hc := outOf_at (P := s.pages.length) (l := s.roots.flatten) (j := i) (by rw [HL.out.1]; exact hin)
  obtain ⟨cc, hcc⟩ : ∃ cc, cc = cnt s.roots.flatten (i : Int) := ⟨_, rfl⟩
  rw [← hcc] at hc
  have hb0 := hbel.alloc hbel.size (.cells #[.int .i64 x0, .int .i64 x1, .int .i64 x2, .int .i64 x3] 64)
  have HB3 := Lib.hid hb0
  obtain ⟨b2, o2, rfl, -, m0, -⟩ := arr_int (HAR.out.keep (w' := wr.alloc (.cells #[.int .i64 x0, .int .i64 x1, .int .i64 x2, .int .i64 x3] 64)) (fun b hb => (hb0.block b (by rw [show w2.heap.size = w1.heap.size from by obtain ⟨k, hk⟩ := HQ2.out.ex; rw [hk]; rfl]; exact hb.2)).trans (HQ2.out.heap b))) hc
  have hxp : okPage s i ↔ ((x0, x1, x2, x3) = zero4 ↔ cc = 0) := by unfold okPage; rw [hx, ← hcc]
  clear hok hbel hb0 hc hx hcc
  have heq4 := run_eql4
  by_cases hz : ((x0, x1, x2, x3) : Four) = zero4
  · have h4 : same4 (x0, x1, x2, x3) (0, 0, 0, 0) = true := by rw [same4_eq]; exact decide_eq_true hz
    by_cases hcz : cc = 0
    · have dc : (cc == 0) = true := by simp [hcz]
      have HOKP2 : Hid (okPage s i) := hxp.2 ⟨fun _ => hcz, fun _ => hz⟩
      clear hcz hxp hz
      go_wp2_with fail
      go_quiet (fail)
      go_wp2_with fail
      go_roundw
      case rel => exact ⟨i + 1, by omega, by go_num, fun j hj => if e : j = i then e ▸ HOKP2.out else HOKP.out j (by omega), Go.Bk.Below.drewN HB3.out _⟩
      case measure => simp [intOf]; omega
    · have dc : (cc == 0) = false := by simp [hcz]
      have HOKP2 : Hid (¬ okPage s i) := fun h => hcz ((hxp.1 h).1 hz)
      clear hcz hxp hz
      go_wp2_with fail
      go_quiet (fail)
      go_wp2_with fail
      go_ret
      have hn : chk s = 3 := chk_form HLG.out fun h => HOKP2.out (h.2.2 i (by rw [HL.out.1]; exact hin))
      exact ⟨by rw [hn]; rfl, Go.Bk.Below.drewN ((HB2.out.trans (HB3.out.mono HB2.out.size))) _⟩
  · have h4 : same4 (x0, x1, x2, x3) (0, 0, 0, 0) = false := by rw [same4_eq]; exact decide_eq_false hz
    by_cases hcz : cc = 0
    · have dc : (cc == 0) = true := by simp [hcz]
      have HOKP2 : Hid (¬ okPage s i) := fun h => hz ((hxp.1 h).2 hcz)
      clear hcz hxp hz
      go_wp2_with fail
      go_quiet (fail)
      go_wp2_with fail
      go_ret
      have hn : chk s = 3 := chk_form HLG.out fun h => HOKP2.out (h.2.2 i (by rw [HL.out.1]; exact hin))
      exact ⟨by rw [hn]; rfl, Go.Bk.Below.drewN ((HB2.out.trans (HB3.out.mono HB2.out.size))) _⟩
    · have dc : (cc == 0) = false := by simp [hcz]
      have HOKP2 : Hid (okPage s i) := hxp.2 ⟨fun h => absurd h hz, fun h => absurd h hcz⟩
      clear hcz hxp hz
      go_wp2_with fail
      go_quiet (fail)
      go_wp2_with fail
      go_roundw
      case rel => exact ⟨i + 1, by omega, by go_num, fun j hj => if e : j = i then e ▸ HOKP2.out else HOKP.out j (by omega), Go.Bk.Below.drewN HB3.out _⟩
      case measure => simp [intOf]; omega
end Go.Proofs.Ytjlnaiiajlahgaa.pag
