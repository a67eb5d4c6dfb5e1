/- PagesTells: the document's PagesGet, PagesShared: walked. -/
import Derived.Test.YtjlnaiiajlahgaaPagH
set_option linter.unusedVariables false
set_option linter.unusedSimpArgs false
namespace Go.Proofs.Ytjlnaiiajlahgaa.pag
open Go.Bk Go.RowKit

theorem four_at {S : Nat → Prop} {w : World} {a : Option Addr} {l : List Four} {k j : Nat} {x : Four} (h : Arr S w a l) (hk : l[k]? = some x) (hj : j < 4) : ∃ b o, a = some ⟨b, o, none⟩ ∧ S b ∧ w.cell? ⟨b, o + k * 4 + j, none⟩ = some (.int .i64 (part4 x j)) ∧ I64 (part4 x j) := by
  obtain ⟨b, o, e, hb, k0, k1, k2, k3, i0, i1, i2, i3⟩ := int4_elem h hk
  refine ⟨b, o, e, hb, ?_⟩
  rcases (show j = 0 ∨ j = 1 ∨ j = 2 ∨ j = 3 by omega) with rfl | rfl | rfl | rfl
  · exact ⟨k0, i0⟩
  · exact ⟨k1, i1⟩
  · exact ⟨k2, i2⟩
  · exact ⟨k3, i3⟩
theorem part4_zero (j : Nat) : part4 zero4 j = 0 := by unfold part4; split <;> rfl
set_option maxRecDepth 100000 in
set_option maxHeartbeats 1000000 in
theorem pget_any {S : Nat → Prop} {w : World} {aP aU aR : Option Addr} {nP nU nR cP cU cR : Nat} {s : Store} {q : Nat} {r : List Int} {at' : Int} (h : StAt S w aP aU aR nP nU nR s) (hS : ∀ b, S b → b < w.heap.size) (hT : There s q r) (h1 : 0 ≤ at') (h2 : at' < 64) :
    Calls Try.prog 12 #[stV aP aU aR nP nU nR cP cU cR, .int .i64 q, .int .i64 at'] w (CodePost w (getOf s q at')) := by
  obtain ⟨k, j, e1, e2, hk, hj, e3, e4⟩ := quo4 h1 h2
  obtain ⟨b1, o1, a', c', rfl, hS1, q0, hlc, -, har⟩ := row_elem h.roots hT.at'
  obtain ⟨p, hp⟩ : ∃ p, r[k]? = some p := ⟨_, List.getElem?_eq_getElem (by rw [hT.len]; exact hk)⟩
  obtain ⟨b2, o2, rfl, hS2, p0, -⟩ := arr_int har hp
  rw [hT.len] at q0 hlc
  have hrow : getOf s q at' = part4 (pageP s p) j := by
    unfold getOf pageOf
    rw [rowAt_there hT, e3, hp, e4]
    rfl
  have hqr : q < nR := by rw [← h.lenR]; exact (List.getElem?_eq_some_iff.1 hT.at').1
  have hb1 := hS _ hS1; have hb2 := hS _ hS2
  have hok := hT.ok p (List.mem_of_getElem? hp)
  unfold okP at hok
  rw [h.lenP] at hok
  have HBB : Hid (RowKit.Below w.heap.size w (w.alloc (.cells #[.slice aP nP cP, .slice aU nU cU, .slice (some ⟨b1, o1, none⟩) nR cR] 26))) := (RowKit.Below.refl _ _).alloc (Nat.le_refl _) _
  by_cases hp0 : p < 0
  · have d1 : decide (p < 0) = true := decide_eq_true hp0
    have HF : Hid (getOf s q at' = 0) := by show _ = _; rw [hrow]; unfold pageP; rw [if_neg (by omega), part4_zero]
    clear h hS hT hrow hp hok hp0 har e3 e4
    go_enter Try.func12, Try.ntmps12
    go_wp2_with fail
    go_ret
    exact ⟨by rw [HF.out]; rfl, HBB.out⟩
  · have d1 : decide (p < 0) = false := decide_eq_false hp0
    obtain ⟨z, rfl⟩ : ∃ z : Nat, p = (z : Int) := ⟨p.toNat, by omega⟩
    obtain ⟨x, hx⟩ : ∃ x, s.pages[z]? = some x := ⟨_, List.getElem?_eq_getElem (by rw [h.lenP]; omega)⟩
    obtain ⟨b3, o3, rfl, hS3, y0, -⟩ := four_at h.pages hx hj
    have hb3 := hS _ hS3
    have HF : Hid (getOf s q at' = part4 x j) := by show _ = _; rw [hrow]; unfold pageP; rw [if_pos (by omega), show ((z : Int)).toNat = z by omega, hx]; rfl
    have hzp : z < nP := by omega
    clear h hS hT hrow hp hok hp0 har e3 e4
    go_enter Try.func12, Try.ntmps12
    go_wp2_with fail
    go_ret
    exact ⟨by rw [HF.out]; rfl, HBB.out⟩
set_option maxRecDepth 100000 in
set_option maxHeartbeats 1000000 in
theorem pshared_any {S : Nat → Prop} {w : World} {aP aU aR : Option Addr} {nP nU nR cP cU cR : Nat} {s : Store} {q q2 : Nat} {r t : List Int} (h : StAt S w aP aU aR nP nU nR s) (hS : ∀ b, S b → b < w.heap.size) (hT : There s q r) (hT2 : There s q2 t) :
    Calls Try.prog 15 #[stV aP aU aR nP nU nR cP cU cR, .int .i64 q, .int .i64 q2] w (CodePost w (sharedOf r t 16)) := by
  have HB0 : Hid (RowKit.Below w.heap.size w (w.alloc (.cells #[.slice aP nP cP, .slice aU nU cU, .slice aR nR cR] 26))) := (RowKit.Below.refl _ _).alloc (Nat.le_refl _) _
  have hbx := blk_new w [.slice aP nP cP, .slice aU nU cU, .slice aR nR cR] 26
  have hst := h.below hS HB0.out
  have hq : q < nR := by rw [← h.lenR]; exact (List.getElem?_eq_some_iff.1 hT.at').1
  have hq2 : q2 < nR := by rw [← h.lenR]; exact (List.getElem?_eq_some_iff.1 hT2.at').1
  obtain ⟨b1, o1, a', c', rfl, -, k1, -, -, k2⟩ := row_elem hst.roots hT.at'
  obtain ⟨b2, o2, a2, c2, e2, -, k3, -, -, k4⟩ := row_elem hst.roots hT2.at'
  injection e2 with e2
  injection e2 with e2 e3
  subst e2 e3
  rw [hT.len] at k1
  rw [hT2.len] at k3
  have HT := Lib.hid hT; have HT2 := Lib.hid hT2
  have HOK : Hid (∀ p ∈ r, -1 ≤ p) := fun p hp => (hT.ok p hp).1
  clear h hS hT hT2 hst
  go_enter Try.func15, Try.ntmps15
  go_wp2_with fail
  generalize w.alloc (.cells #[.slice aP nP cP, .slice aU nU cU, .slice (some ⟨b1, o1, none⟩) nR cR] 26) = w1 at *
  have HQX : Hid (∀ w', Quiet w1 w' → w'.cell? ⟨w.heap.size, 2, none⟩ = some (.slice (some ⟨b1, o1, none⟩) nR cR) ∧ w'.cell? ⟨b1, o1 + q, none⟩ = some (.slice a' 16 c') ∧ w'.cell? ⟨b1, o1 + q2, none⟩ = some (.slice a2 16 c2) ∧ Arr S w' a' r ∧ Arr S w' a2 t) := fun w' hq =>
    ⟨(hq.cell _).trans (hbx.cell (j := 2) rfl), (hq.cell _).trans k1, (hq.cell _).trans k3, k2.keep (fun b _ => hq.heap b), k4.keep (fun b _ => hq.heap b)⟩
  clear hbx k1 k2 k3 k4
  go_loopw [7, 8] (fun n v w' => ∃ i : Nat, i ≤ 16 ∧ v = .int .i64 i ∧ n = .int .i64 (sharedOf r t i) ∧ Quiet w1 w') (fun _ i _ => 16 - (intOf i).toNat)
  case atStart => exact ⟨0, Nat.zero_le _, rfl, rfl, Quiet.refl _⟩
  case round =>
  obtain ⟨i, hi, rfl, rfl, hq⟩ := hrel
  have HQ := Lib.hid hq
  by_cases hin : i < 16
  case neg =>
    have hie : i = 16 := by omega
    subst hie
    clear hq
    go_wp2_with fail
    go_ret
    exact ⟨rfl, HB0.out.trans ((HQ.out.below w1.heap.size).mono HB0.out.size)⟩
  case pos =>
  obtain ⟨x2, k1, k3, k2, k4⟩ := HQX.out _ hq
  obtain ⟨x, hx⟩ : ∃ x, r[i]? = some x := ⟨_, List.getElem?_eq_getElem (by rw [HT.out.len]; exact hin)⟩
  obtain ⟨y, hy⟩ : ∃ y, t[i]? = some y := ⟨_, List.getElem?_eq_getElem (by rw [HT2.out.len]; exact hin)⟩
  obtain ⟨b3, o3, rfl, -, p0, -⟩ := arr_int k2 hx
  obtain ⟨b4, o4, rfl, -, p1, -⟩ := arr_int k4 hy
  have HS := Lib.hid (sharedOf_succ hx hy)
  have hsr := sharedOf_range r t i
  have hs1 := hsr.1; have hs2 := hsr.2
  have hx1 := HOK.out x (List.mem_of_getElem? hx)
  obtain ⟨m, hm⟩ : ∃ m, m = sharedOf r t i := ⟨_, rfl⟩
  rw [← hm] at hs1 hs2 ⊢
  have HM := Lib.hid hm
  clear hx hy hsr hm k2 k4 hq
  by_cases h1 : x = -1
  · have d1 : (x != -1) = false := by simp [h1]
    have HE : Hid (sharedOf r t (i + 1) = m) := by show _ = _; rw [HS.out, if_neg (by omega), HM.out]; omega
    clear h1 hx1
    go_wp2_with fail
    go_quiet (fail)
    go_wp2_with fail
    go_roundw
    case rel => exact ⟨i + 1, by omega, by go_num, by rw [HE.out], HQ.out.more _⟩
    case measure => simp [intOf]; omega
  have d1 : (x != -1) = true := by simp [h1]
  by_cases h2 : x = y
  · have d2 : (x == y) = true := by simp [h2]
    have HE : Hid (sharedOf r t (i + 1) = m + 1) := by show _ = _; rw [HS.out, if_pos ⟨by omega, h2⟩, HM.out]
    clear h1 h2 hx1
    go_wp2_with fail
    go_quiet (fail)
    go_wp2_with fail
    go_roundw
    case rel => exact ⟨i + 1, by omega, by go_num, by rw [HE.out], HQ.out.more _⟩
    case measure => simp [intOf]; omega
  · have d2 : (x == y) = false := by simp [h2]
    have HE : Hid (sharedOf r t (i + 1) = m) := by show _ = _; rw [HS.out, if_neg (fun h => h2 h.2), HM.out]; omega
    clear h1 h2 hx1
    go_wp2_with fail
    go_quiet (fail)
    go_wp2_with fail
    go_roundw
    case rel => exact ⟨i + 1, by omega, by go_num, by rw [HE.out], HQ.out.more _⟩
    case measure => simp [intOf]; omega
end Go.Proofs.Ytjlnaiiajlahgaa.pag
