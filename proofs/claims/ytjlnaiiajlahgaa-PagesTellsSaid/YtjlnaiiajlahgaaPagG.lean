/- PagesTells: the document's PagesCheck: walked. -/
import Derived.Test.YtjlnaiiajlahgaaPagF
import Derived.Test.YtjlnaiiajlahgaaSame
import Derived.Deep.QuietTactic
set_option linter.unusedVariables false
set_option linter.unusedSimpArgs false
namespace Go.Proofs.Ytjlnaiiajlahgaa.pag
open Go.Bk Go.RowKit

theorem not_right_uses {s : Store} (h : s.uses.length ≠ s.pages.length) : ¬ Right s := fun hr => h (by rw [← hr.2.1, outOf_len])
theorem not_right_row {s : Store} {r : List Int} (h : r ∈ s.roots) (h2 : ¬ okRow s.pages.length r) : ¬ Right s := fun hr => h2 (hr.1 r h)
theorem right_of {s : Store} (h1 : okRoots s.pages.length s.roots) (h0 : s.uses.length = s.pages.length) (h2 : ∀ i, i < s.pages.length → s.uses[i]? = some (cnt s.roots.flatten (i : Int)) ∧ okPage s i) : Right s := by
  refine ⟨h1, List.ext_getElem? fun i => ?_, fun i hi => (h2 i hi).2⟩
  by_cases hi : i < s.pages.length
  · rw [outOf_at hi, (h2 i hi).1]
  · rw [List.getElem?_eq_none (by rw [outOf_len]; omega), List.getElem?_eq_none (by omega)]
theorem right_at {s : Store} (h : Right s) {i : Nat} (hi : i < s.pages.length) : s.uses[i]? = some (cnt s.roots.flatten (i : Int)) := by rw [← h.2.1, outOf_at hi]
theorem short_of {P : Nat} {s : Store} (h : okRoots P s.roots) (h2 : s.roots.length ≤ 40) : Short s := ⟨by omega, fun r hr => by have := (h r hr).1; omega⟩
def cRel (w1 : World) (s : Store) (nR : Nat) (v3 : Value) (w' : World) : Prop := ∃ i : Nat, i ≤ nR ∧ v3 = .int .i64 i ∧ (∀ j r, j < i → s.roots[j]? = some r → okRow s.pages.length r) ∧ Quiet w1 w'
def dRel (w1 : World) (nP : Nat) (r : List Int) (v4 : Value) (w' : World) : Prop := ∃ k : Nat, k ≤ r.length ∧ v4 = .int .i64 k ∧ (∀ j p, j < k → r[j]? = some p → okP nP p) ∧ Quiet w1 w'
set_option maxRecDepth 100000 in
set_option maxHeartbeats 4000000 in
theorem pcheck_any {S : Nat → Prop} {w : World} {aP aU aR : Option Addr} {nP nU nR cP cU cR : Nat} {s : Store} (h : StAt S w aP aU aR nP nU nR s) (hS : ∀ b, S b → b < w.heap.size) :
    Calls Try.prog 10 #[stV aP aU aR nP nU nR cP cU cR] w (CodePost w (chk s)) := by
  have hsP := h.pages.small; have hsR := h.roots.small; have hsU := h.uses.small
  rw [h.lenP] at hsP; rw [h.lenR] at hsR; rw [h.lenU] at hsU
  unfold maxLen at hsP hsR hsU
  have HL : Hid (s.pages.length = nP ∧ s.uses.length = nU ∧ s.roots.length = nR) := ⟨h.lenP, h.lenU, h.lenR⟩
  have HB0 : Hid (RowKit.Below w.heap.size w (w.alloc (.cells #[.slice aP nP cP, .slice aU nU cU, .slice aR nR cR] 26))) := (RowKit.Below.refl _ _).alloc (Nat.le_refl _) _
  have HSS : Hid (∀ b, S b → b < (w.alloc (.cells #[.slice aP nP cP, .slice aU nU cU, .slice aR nR cR] 26)).heap.size) := fun b hb => Nat.lt_of_lt_of_le (hS b hb) HB0.out.size
  have hbx := blk_new w [.slice aP nP cP, .slice aU nU cU, .slice aR nR cR] 26
  have HST : Hid (StAt S (w.alloc (.cells #[.slice aP nP cP, .slice aU nU cU, .slice aR nR cR] 26)) aP aU aR nP nU nR s) := h.below hS HB0.out
  clear h hS
  by_cases hp : 400 < nP
  · have d1 : decide ((400 : Int) < (nP : Int)) = true := decide_eq_true (by omega)
    have HC : Hid (chk s = 2) := chk_large (.inl (by rw [HL.out.1]; exact hp))
    clear hp hbx
    go_enter Try.func10, Try.ntmps10
    go_wp2_with fail
    go_ret
    exact ⟨by rw [HC.out]; rfl, HB0.out⟩
  have d1 : decide ((400 : Int) < (nP : Int)) = false := decide_eq_false (by omega)
  by_cases hr : 40 < nR
  · have d2 : decide ((40 : Int) < (nR : Int)) = true := decide_eq_true (by omega)
    have HC : Hid (chk s = 2) := chk_large (.inr (by rw [HL.out.2.2]; exact hr))
    clear hp hr hbx
    go_enter Try.func10, Try.ntmps10
    go_wp2_with fail
    go_ret
    exact ⟨by rw [HC.out]; rfl, HB0.out⟩
  have d2 : decide ((40 : Int) < (nR : Int)) = false := decide_eq_false (by omega)
  have HLG : Hid (¬ (400 < s.pages.length ∨ 40 < s.roots.length)) := by show ¬ _; rw [HL.out.1, HL.out.2.2]; omega
  by_cases hu : nU = nP
  case neg =>
    have d3 : ((nU : Int) != (nP : Int)) = true := by simp; omega
    have HC : Hid (chk s = 3) := chk_form HLG.out (not_right_uses (by rw [HL.out.1, HL.out.2.1]; exact hu))
    clear hp hr hu hbx
    go_enter Try.func10, Try.ntmps10
    go_wp2_with fail
    go_ret
    exact ⟨by rw [HC.out]; rfl, HB0.out⟩
  subst hu
  have d3 : ((nU : Int) != (nU : Int)) = false := by simp
  have HP40 : Hid (nU ≤ 400 ∧ nR ≤ 40) := ⟨by omega, by omega⟩
  have hu4 : nU ≤ 400 := by omega
  have hr4 : nR ≤ 40 := by omega
  clear hp hr hsP hsR hsU
  go_enter Try.func10, Try.ntmps10
  go_wp2_with fail
  generalize w.alloc (.cells #[.slice aP nU cP, .slice aU nU cU, .slice aR nR cR] 26) = w1 at *
  have HBX := Lib.hid hbx
  have HQX : Hid (∀ w', Quiet w1 w' → w'.cell? ⟨w.heap.size, 0, none⟩ = some (.slice aP nU cP) ∧ w'.cell? ⟨w.heap.size, 1, none⟩ = some (.slice aU nU cU) ∧ w'.cell? ⟨w.heap.size, 2, none⟩ = some (.slice aR nR cR)) := fun w' hq =>
    ⟨(hq.cell _).trans (hbx.cell (j := 0) rfl), (hq.cell _).trans (hbx.cell (j := 1) rfl), (hq.cell _).trans (hbx.cell (j := 2) rfl)⟩
  have HSQ : Hid (∀ w', Quiet w1 w' → StAt S w' aP aU aR nU nU nR s) := fun w' hq => HST.out.keep (fun b _ => hq.heap b)
  clear hbx
  go_loopw [3] (fun v w' => cRel w1 s nR v w') (fun i _ => nR - (intOf i).toNat)
  case atStart => exact ⟨0, Nat.zero_le _, rfl, fun j r hj => absurd hj (Nat.not_lt_zero _), Quiet.refl _⟩
  case round =>
  obtain ⟨i, hi, rfl, hok, hq⟩ := hrel
  have HOK := Lib.hid hok; have HQ := Lib.hid hq
  obtain ⟨x0, x1, x2⟩ := HQX.out _ hq
  by_cases hin : i < nR
  case neg =>
    have HRO : Hid (okRoots s.pages.length s.roots) := fun r hr => by
      obtain ⟨j, hj⟩ := List.getElem?_of_mem hr
      exact HOK.out j r (by have := (List.getElem?_eq_some_iff.1 hj).1; have := HL.out.2.2; omega) hj
    have HSH := Lib.hid (short_of HRO.out (by rw [HL.out.2.2]; exact HP40.out.2))
    obtain ⟨w2, hw2⟩ : ∃ w2 : World, w2 = wr := ⟨_, rfl⟩
    have HSZ : Hid (w2.heap.size = w1.heap.size) := by obtain ⟨nn, hnn⟩ := HQ.out.ex; show _ = _; rw [hw2, hnn]; rfl
    rw [← hw2] at HQ x0 x1 x2 ⊢
    clear hok hq hw2
    go_wp2_with fail
    have HXB : Hid (∀ w', RowKit.Below w2.heap.size w2 w' → w'.cell? ⟨w.heap.size, 0, none⟩ = some (.slice aP nU cP) ∧ w'.cell? ⟨w.heap.size, 1, none⟩ = some (.slice aU nU cU) ∧ w'.cell? ⟨w.heap.size, 2, none⟩ = some (.slice aR nR cR)) := fun w' hb => by
      have hk := HBX.out.keep ((hb.block w.heap.size (by rw [HSZ.out]; exact HBX.out.lt)).trans (HQ.out.heap _))
      exact ⟨hk.cell (j := 0) rfl, hk.cell (j := 1) rfl, hk.cell (j := 2) rfl⟩
    have HSB : Hid (∀ w', RowKit.Below w2.heap.size w2 w' → StAt S w' aP aU aR nU nU nR s) := fun w' hb => (HSQ.out _ HQ.out).below (fun b hb' => by rw [HSZ.out]; exact HSS.out b hb') hb
    clear x0 x1 x2
    go_loopw [5] (fun v w' => ∃ i : Nat, i ≤ nU ∧ v = .int .i64 i ∧ (∀ j, j < i → s.uses[j]? = some (cnt s.roots.flatten (j : Int)) ∧ okPage s j) ∧ RowKit.Below w2.heap.size w2 w') (fun i _ => nU - (intOf i).toNat)
    case atStart => exact ⟨0, Nat.zero_le _, rfl, fun j hj => absurd hj (Nat.not_lt_zero _), RowKit.Below.refl _ _⟩
    case round =>
    obtain ⟨t, ht, rfl, hall, hbel⟩ := hrel
    have HALL := Lib.hid hall; have HBE := Lib.hid hbel
    have HBW : Hid (∀ w', RowKit.Below w2.heap.size w2 w' → RowKit.Below w.heap.size w w') := fun w' hb => by
      refine HB0.out.trans ((HQ.out.below w1.heap.size).trans (hb.mono (by rw [HSZ.out]; exact Nat.le_refl _)) |>.mono HB0.out.size)
    obtain ⟨x0, x1, x2⟩ := HXB.out _ hbel
    by_cases htn : t < nU
    case neg =>
      have HC : Hid (chk s = 0) := chk_ok HLG.out (right_of HRO.out (by rw [HL.out.1, HL.out.2.1]) fun j hj => HALL.out j (by rw [HL.out.1] at hj; omega))
      clear hall hbel
      go_wp2_with fail
      go_ret
      exact ⟨by rw [HC.out]; rfl, HBW.out _ HBE.out⟩
    case pos =>
    have hst := HSB.out _ hbel
    obtain ⟨x, hx⟩ : ∃ x, s.pages[t]? = some x := ⟨_, List.getElem?_eq_getElem (by rw [HL.out.1]; exact htn)⟩
    obtain ⟨u, hu⟩ : ∃ u, s.uses[t]? = some u := ⟨_, List.getElem?_eq_getElem (by rw [HL.out.2.1]; exact htn)⟩
    have HPU := Lib.hid (puses_any (cP := cP) (cU := cU) (cR := cR) (p := (t : Int)) hst (fun b hb' => Nat.lt_of_lt_of_le (by rw [HSZ.out]; exact HSS.out b hb' : b < w2.heap.size) hbel.size) HSH.out)
    obtain ⟨c, hc⟩ : ∃ c, c = cnt s.roots.flatten (t : Int) := ⟨_, rfl⟩
    rw [← hc] at HPU
    have HXP : Hid (okPage s t ↔ (x = zero4 ↔ c = 0)) := by show _ ↔ _; unfold okPage; rw [hx, ← hc]
    have HUU : Hid (s.uses[t]? = some u) := hu
    have HCC := Lib.hid hc
    have HNR : Hid (¬ (u = c ∧ okPage s t) → ¬ Right s) := fun h hr => h (by
      have h1 := right_at hr (i := t) (by rw [HL.out.1]; exact htn)
      rw [HUU.out, ← HCC.out] at h1
      exact ⟨Option.some.inj h1, hr.2.2 t (by rw [HL.out.1]; exact htn)⟩)
    obtain ⟨y0, y1, y2, y3⟩ := x
    have HFA : Hid (∀ w', RowKit.Below w2.heap.size w2 w' → ∃ b1 o1 b2 o2, aP = some ⟨b1, o1, none⟩ ∧ aU = some ⟨b2, o2, none⟩ ∧ w'.cell? ⟨b1, o1 + t * 4, none⟩ = some (.int .i64 y0) ∧ w'.cell? ⟨b1, o1 + t * 4 + 1, none⟩ = some (.int .i64 y1) ∧ w'.cell? ⟨b1, o1 + t * 4 + 2, none⟩ = some (.int .i64 y2) ∧ w'.cell? ⟨b1, o1 + t * 4 + 3, none⟩ = some (.int .i64 y3) ∧ w'.cell? ⟨b2, o2 + t, none⟩ = some (.int .i64 u)) := fun w' hb => by
      obtain ⟨b1, o1, e1, -, k0, k1, k2, k3, -⟩ := int4_elem (HSB.out _ hb).pages hx
      obtain ⟨b2, o2, e2, -, k4, -⟩ := arr_int (HSB.out _ hb).uses HUU.out
      exact ⟨b1, o1, b2, o2, e1, e2, k0, k1, k2, k3, k4⟩
    obtain ⟨b1, o1, b2, o2, rfl, rfl, -⟩ := HFA.out _ hbel
    have HFB : Hid (∀ w', RowKit.Below w2.heap.size w2 w' → w'.cell? ⟨b1, o1 + t * 4, none⟩ = some (.int .i64 y0) ∧ w'.cell? ⟨b1, o1 + t * 4 + 1, none⟩ = some (.int .i64 y1) ∧ w'.cell? ⟨b1, o1 + t * 4 + 2, none⟩ = some (.int .i64 y2) ∧ w'.cell? ⟨b1, o1 + t * 4 + 3, none⟩ = some (.int .i64 y3) ∧ w'.cell? ⟨b2, o2 + t, none⟩ = some (.int .i64 u)) := fun w' hb => by
      obtain ⟨b3, o3, b4, o4, e1, e2, k⟩ := HFA.out w' hb
      injection e1 with e1; injection e1 with e1 e3; injection e2 with e2; injection e2 with e2 e4
      subst e1 e3 e2 e4
      exact k
    clear hst hx hu hc hall hbel HFA
    have hz : ∃ zb : Bool, decide (((y0, y1, y2, y3) : Four) = zero4) = zb := ⟨_, rfl⟩
    have hcase : ((y0 == 0) = false ∧ ((y0, y1, y2, y3) : Four) ≠ zero4) ∨ ((y0 == 0) = true ∧ (y1 == 0) = false ∧ ((y0, y1, y2, y3) : Four) ≠ zero4) ∨ ((y0 == 0) = true ∧ (y1 == 0) = true ∧ (y2 == 0) = false ∧ ((y0, y1, y2, y3) : Four) ≠ zero4) ∨ ((y0 == 0) = true ∧ (y1 == 0) = true ∧ (y2 == 0) = true ∧ (y3 == 0) = false ∧ ((y0, y1, y2, y3) : Four) ≠ zero4) ∨ ((y0 == 0) = true ∧ (y1 == 0) = true ∧ (y2 == 0) = true ∧ (y3 == 0) = true ∧ ((y0, y1, y2, y3) : Four) = zero4) := by
      simp only [beq_iff_eq, beq_eq_false_iff_ne, zero4, Prod.mk.injEq, ne_eq]
      omega
    clear hz
    by_cases huc : u = c
    case neg =>
      have du : (u != c) = true := by simp [huc]
      have HC : Hid (chk s = 3) := chk_form HLG.out (HNR.out fun h => huc h.1)
      clear huc
      rcases hcase with ⟨f0, -⟩ | ⟨f0, f1, -⟩ | ⟨f0, f1, f2, -⟩ | ⟨f0, f1, f2, f3, -⟩ | ⟨f0, f1, f2, f3, -⟩
      all_goals
        go_wp2_with (go_at_call 38; (with_reducible refine HPU.out.mono ?_); rintro e w3 ⟨rfl, hb3⟩; have hb4 := HBE.out.trans (hb3.mono HBE.out.size); have HB4 := Lib.hid hb4; (obtain ⟨z0, z1, z2⟩ := HXB.out w3 hb4); (obtain ⟨k0, k1, k2, k3, k4⟩ := HFB.out w3 hb4); clear hb3 hb4)
        go_ret
        exact ⟨by rw [HC.out]; rfl, HBW.out _ HB4.out⟩
    have du : (u != c) = false := by simp [huc]
    by_cases hcz : c = 0
    · have dc : (c == 0) = true := by simp [hcz]
      have HNZ : Hid (((y0, y1, y2, y3) : Four) ≠ zero4 → chk s = 3) := fun h => chk_form HLG.out (HNR.out fun h2 => h ((HXP.out.1 h2.2).2 hcz))
      have HZZ : Hid (((y0, y1, y2, y3) : Four) = zero4 → okPage s t) := fun h => HXP.out.2 ⟨fun _ => hcz, fun _ => h⟩
      have HUE := Lib.hid huc
      clear huc hcz
      rcases hcase with ⟨f0, hne⟩ | ⟨f0, f1, hne⟩ | ⟨f0, f1, f2, hne⟩ | ⟨f0, f1, f2, f3, hne⟩ | ⟨f0, f1, f2, f3, heq⟩
      case inr.inr.inr.inr =>
        have HG := Lib.hid (HZZ.out heq)
        clear heq
        go_wp2_with (go_at_call 38; (with_reducible refine HPU.out.mono ?_); rintro e w3 ⟨rfl, hb3⟩; have hb4 := HBE.out.trans (hb3.mono HBE.out.size); have HB4 := Lib.hid hb4; (obtain ⟨z0, z1, z2⟩ := HXB.out w3 hb4); (obtain ⟨k0, k1, k2, k3, k4⟩ := HFB.out w3 hb4); clear hb3 hb4)
        go_roundw
        case rel => exact ⟨t + 1, by omega, by go_num, fun j hj => if e : j = t then by subst e; exact ⟨by rw [HUU.out, HUE.out, HCC.out], HG.out⟩ else HALL.out j (by omega), HB4.out⟩
        case measure => simp [intOf]; omega
      all_goals
        have HC := Lib.hid (HNZ.out hne)
        clear hne
        go_wp2_with (go_at_call 38; (with_reducible refine HPU.out.mono ?_); rintro e w3 ⟨rfl, hb3⟩; have hb4 := HBE.out.trans (hb3.mono HBE.out.size); have HB4 := Lib.hid hb4; (obtain ⟨z0, z1, z2⟩ := HXB.out w3 hb4); (obtain ⟨k0, k1, k2, k3, k4⟩ := HFB.out w3 hb4); clear hb3 hb4)
        go_ret
        exact ⟨by rw [HC.out]; rfl, HBW.out _ HB4.out⟩
    · have dc : (c == 0) = false := by simp [hcz]
      have HNZ : Hid (((y0, y1, y2, y3) : Four) = zero4 → chk s = 3) := fun h => chk_form HLG.out (HNR.out fun h2 => hcz ((HXP.out.1 h2.2).1 h))
      have HZZ : Hid (((y0, y1, y2, y3) : Four) ≠ zero4 → okPage s t) := fun h => HXP.out.2 ⟨fun e => absurd e h, fun e => absurd e hcz⟩
      have HUE := Lib.hid huc
      clear huc hcz
      rcases hcase with ⟨f0, hne⟩ | ⟨f0, f1, hne⟩ | ⟨f0, f1, f2, hne⟩ | ⟨f0, f1, f2, f3, hne⟩ | ⟨f0, f1, f2, f3, heq⟩
      case inr.inr.inr.inr =>
        have HC := Lib.hid (HNZ.out heq)
        clear heq
        go_wp2_with (go_at_call 38; (with_reducible refine HPU.out.mono ?_); rintro e w3 ⟨rfl, hb3⟩; have hb4 := HBE.out.trans (hb3.mono HBE.out.size); have HB4 := Lib.hid hb4; (obtain ⟨z0, z1, z2⟩ := HXB.out w3 hb4); (obtain ⟨k0, k1, k2, k3, k4⟩ := HFB.out w3 hb4); clear hb3 hb4)
        go_ret
        exact ⟨by rw [HC.out]; rfl, HBW.out _ HB4.out⟩
      all_goals
        have HG := Lib.hid (HZZ.out hne)
        clear hne
        go_wp2_with (go_at_call 38; (with_reducible refine HPU.out.mono ?_); rintro e w3 ⟨rfl, hb3⟩; have hb4 := HBE.out.trans (hb3.mono HBE.out.size); have HB4 := Lib.hid hb4; (obtain ⟨z0, z1, z2⟩ := HXB.out w3 hb4); (obtain ⟨k0, k1, k2, k3, k4⟩ := HFB.out w3 hb4); clear hb3 hb4)
        go_roundw
        case rel => exact ⟨t + 1, by omega, by go_num, fun j hj => if e : j = t then by subst e; exact ⟨by rw [HUU.out, HUE.out, HCC.out], HG.out⟩ else HALL.out j (by omega), HB4.out⟩
        case measure => simp [intOf]; omega
  case pos =>
  obtain ⟨r, hr⟩ : ∃ r, s.roots[i]? = some r := ⟨_, List.getElem?_eq_getElem (by rw [HL.out.2.2]; exact hin)⟩
  have HR := Lib.hid hr
  have HRR : Hid (∀ w', Quiet w1 w' → ∃ b1 o1 a' c', aR = some ⟨b1, o1, none⟩ ∧ w'.cell? ⟨b1, o1 + i, none⟩ = some (.slice a' r.length c')) := fun w' hq => by
    obtain ⟨b1, o1, a', c', e, -, k, -⟩ := row_elem (HSQ.out w' hq).roots hr
    exact ⟨b1, o1, a', c', e, k⟩
  obtain ⟨b1, o1, a', c', rfl, -, q0, hlc, hn', harr⟩ := row_elem (HSQ.out _ hq).roots hr
  have HQR : Hid (∀ w', Quiet w1 w' → w'.cell? ⟨b1, o1 + i, none⟩ = some (.slice a' r.length c') ∧ Arr S w' a' r) := fun w' hq' => by
    obtain ⟨n1, hn1⟩ := hq.ex
    obtain ⟨n2, hn2⟩ := hq'.ex
    have hh : ∀ b : Nat, w'.heap[b]? = wr.heap[b]? := fun b => by rw [hn1, hn2]; rfl
    exact ⟨(World.cell?_of_block (hh b1)).trans q0, harr.keep (fun b _ => hh b)⟩
  obtain ⟨m, hm⟩ : ∃ m, m = r.length := ⟨_, rfl⟩
  rw [← hm] at q0 HQR
  have HM := Lib.hid hm
  have HNR : Hid (¬ okRow s.pages.length r → chk s = 3) := fun h => chk_form HLG.out (not_right_row (List.mem_of_getElem? HR.out) h)
  clear hr harr hlc hn' hok hq hm HRR
  by_cases hm0 : m = 0
  · subst hm0
    have HN : Hid (∀ j r', j < i + 1 → s.roots[j]? = some r' → okRow s.pages.length r') := fun j r' hj hr' => by
      by_cases e : j = i
      · subst e
        rw [HR.out] at hr'
        obtain rfl := Option.some.inj hr'
        exact ⟨.inl HM.out.symm, fun p hp => by rw [List.eq_nil_of_length_eq_zero HM.out.symm] at hp; simp at hp⟩
      · exact HOK.out j r' (by omega) hr'
    go_wp2_with fail
    go_loopw [4] (fun v w' => v = .int .i64 0 ∧ Quiet w1 w') (fun _ _ => 0)
    case atStart => exact ⟨rfl, HQ.out⟩
    case round =>
    obtain ⟨rfl, hq2⟩ := hrel
    have HQ2 := Lib.hid hq2
    obtain ⟨x0', x1', x2'⟩ := HQX.out _ hq2
    have q1 := (HQR.out _ hq2).1
    clear hq2 x0 x1 x2 q0
    go_wp2_with fail
    go_roundw
    case rel => exact ⟨i + 1, by omega, by go_num, HN.out, HQ2.out⟩
    case measure => simp [intOf]; omega
  by_cases hm16 : m = 16
  case neg =>
    have HC := Lib.hid (HNR.out fun h => by have := h.1; have := HM.out; omega)
    have e1 : ((m : Int) != 0) = true := by simp; omega
    have e2 : ((m : Int) != 16) = true := by simp; omega
    clear hm0 hm16
    go_wp2_with fail
    go_ret
    exact ⟨by rw [HC.out]; rfl, HB0.out.trans ((HQ.out.below w1.heap.size).mono HB0.out.size)⟩
  case pos =>
  subst hm16
  clear hm0
  go_wp2_with fail
  clear x0 x1 x2 q0
  go_loopw [4] (fun v w' => dRel w1 nU r v w') (fun k _ => 16 - (intOf k).toNat)
  case atStart => exact ⟨0, Nat.zero_le _, rfl, fun j p hj => absurd hj (Nat.not_lt_zero _), HQ.out⟩
  case round =>
  obtain ⟨k, hk, rfl, hokp, hq2⟩ := hrel
  rw [← HM.out] at hk
  have HOKP := Lib.hid hokp; have HQ2 := Lib.hid hq2
  obtain ⟨x0, x1, x2⟩ := HQX.out _ hq2
  obtain ⟨q1, har⟩ := HQR.out _ hq2
  by_cases hkm : k < 16
  case neg =>
    have hk16 : k = 16 := by omega
    have HN : Hid (∀ j r', j < i + 1 → s.roots[j]? = some r' → okRow s.pages.length r') := fun j r' hj hr' => by
      by_cases e : j = i
      · subst e
        rw [HR.out] at hr'
        obtain rfl := Option.some.inj hr'
        refine ⟨.inr HM.out.symm, fun p hp => ?_⟩
        obtain ⟨j2, hj2⟩ := List.getElem?_of_mem hp
        rw [HL.out.1]
        exact HOKP.out j2 p (by rw [hk16, HM.out]; exact (List.getElem?_eq_some_iff.1 hj2).1) hj2
      · exact HOK.out j r' (by omega) hr'
    clear hokp hq2 har
    go_wp2_with fail
    go_roundw
    case rel => exact ⟨i + 1, by omega, by go_num, HN.out, HQ2.out⟩
    case measure => simp [intOf]; omega
  case pos =>
  obtain ⟨p, hp⟩ : ∃ p, r[k]? = some p := ⟨_, List.getElem?_eq_getElem (by rw [← HM.out]; exact hkm)⟩
  obtain ⟨b2, o2, rfl, -, y0, i0⟩ := arr_int har hp
  have HP := Lib.hid hp
  by_cases hok2 : okP nU p
  · have HBT : Hid (∀ w, Calls Try.prog 37 #[.int .i64 p, .int .i64 (-1), .int .i64 ((nU : Int) - 1)] w fun e w' => e = .returned (.bool true) ∧ w = w') := fun w => between_true hok2.1 (by have := hok2.2; omega)
    have HOK3 : Hid (∀ j p', j < k + 1 → r[j]? = some p' → okP nU p') := fun j p' hj hp' => by
      by_cases e : j = k
      · subst e
        rw [HP.out] at hp'
        obtain rfl := Option.some.inj hp'
        exact hok2
      · exact HOKP.out j p' (by omega) hp'
    clear hokp hq2 har hp hok2
    go_wp2_with fail
    first | (refine wp_region_quiet_lit (by kernel_rfl) (by kernel_rfl) ?_; (repeat (go_big_quiet_step ((go_at_call 37; exact quiet_of_eq (HBT.out _))))); refine wpQuiet_nil ?_; intro _ hw'; obtain ⟨nq, hw''⟩ := hw'; subst hw'')
    go_wp2_with fail
    go_roundw
    case rel => exact ⟨k + 1, by rw [← HM.out]; omega, by go_num, HOK3.out, HQ2.out.more _⟩
    case measure => simp [intOf]; omega
  · have HBT : Hid (∀ w, Calls Try.prog 37 #[.int .i64 p, .int .i64 (-1), .int .i64 ((nU : Int) - 1)] w fun e w' => e = .returned (.bool false) ∧ w = w') := fun w => between_false (by unfold okP at hok2; omega)
    have HC := Lib.hid (HNR.out fun h => hok2 (by have := h.2 p (List.mem_of_getElem? HP.out); rw [HL.out.1] at this; exact this))
    clear hokp hq2 har hp hok2
    go_wp2_with fail
    first | (refine wp_region_quiet_lit (by kernel_rfl) (by kernel_rfl) ?_; (repeat (go_big_quiet_step ((go_at_call 37; exact quiet_of_eq (HBT.out _))))); refine wpQuiet_nil ?_; intro _ hw'; obtain ⟨nq, hw''⟩ := hw'; subst hw'')
    go_wp2_with fail
    go_ret
    exact ⟨by rw [HC.out]; rfl, HB0.out.trans (((HQ2.out.more _).below w1.heap.size).mono HB0.out.size)⟩
end Go.Proofs.Ytjlnaiiajlahgaa.pag
