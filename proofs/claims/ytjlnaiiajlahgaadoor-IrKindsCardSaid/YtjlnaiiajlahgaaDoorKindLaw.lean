/- may; the law IrKinds: walked. -/
import Derived.Test.YtjlnaiiajlahgaaDoorKindC
import Derived.Test.YtjlnaiiajlahgaaDoorIrred
import Derived.Test.YtjlnaiiajlahgaaDoorDoor
set_option linter.unusedVariables false
set_option linter.unusedSimpArgs false
namespace Go.Proofs.YtjlnaiiajlahgaaDoor.chk
open Go.Bk Go.RowKit Go.Proofs.YtjlnaiiajlahgaaDoor.ir

/-- Check of code, of a program as it is handed over. -/
theorem pcheck_any {S : Nat → Prop} {w : World} {P : Array Value} {p : Api.Prog} (hp : Rep.cells S w P.toList p) (hS : ∀ b, S b → b < w.heap.size) (hA : cod.Asc w) :
    Calls Tryd.prog 25 #[.agg P] w fun e w' => e = .returned (.int .i64 (cod.codeChk p)) ∧ Below w.heap.size w w' := by
  obtain ⟨a0, c0, a1, c1, a2, c2, e, ⟨l0, n0, h0⟩, ⟨l1, n1, h1⟩, l2, n2, h2⟩ := api_Prog_cells_eq hp
  have hP : P = #[.slice a0 p.Fns.length c0, .slice a1 p.Consts.length c1, .slice a2 p.Texts.length c2] := by
    apply Array.ext'
    simpa using e
  rw [hP]
  exact cod.check_any ⟨h0, h1, h2, rfl, rfl, rfl, fun h => by have := n2 h; omega⟩ hS hA l2
theorem kinds_known {p : Api.Prog} {t : Api.TTrace} (h : traceChk p t = 0) : ∀ x ∈ t.Ins, x.Op = 2 → 0 ≤ x.K.Kind := by
  intro x hx h2
  unfold traceChk at h
  split at h
  · exact absurd h (by decide)
  split at h
  · exact absurd h (by decide)
  rename_i f hf
  split at h
  · exact absurd h (by decide)
  split at h
  · rename_i h4; exact absurd h h4
  rename_i h4
  have h4 : insTo f.Regs f.Code.length t.Ins t.Exits t.Ins.length = 0 := Decidable.not_not.1 h4
  obtain ⟨k, hk⟩ := List.getElem?_of_mem hx
  have hl := (List.getElem?_eq_some_iff.1 hk).1
  have h5 : insTo f.Regs f.Code.length t.Ins t.Exits (k + 1) = 0 := by
    apply Decidable.not_not.1
    intro hn
    exact hn ((insTo_stop f.Regs f.Code.length t.Ins hn (show k + 1 ≤ t.Ins.length by omega)).symm.trans h4)
  have h6 : insC f.Regs f.Code.length t.Ins t.Exits k = 0 := by
    have h7 : (if insTo f.Regs f.Code.length t.Ins t.Exits k = 0 then insC f.Regs f.Code.length t.Ins t.Exits k else insTo f.Regs f.Code.length t.Ins t.Exits k) = 0 := h5
    split at h7
    · exact h7
    · rename_i h8; exact absurd h7 h8
  unfold insC at h6
  rw [hk] at h6
  dsimp only at h6
  split at h6
  · exact absurd h6 (by decide)
  split at h6
  · exact absurd h6 (by decide)
  rename_i h8
  have h9 : insOk f.Regs f.Code.length t.Ins t.Exits x k = true := by simpa using h8
  unfold insOk at h9
  simp only [Bool.and_eq_true] at h9
  have h10 := h9.2.2.1
  unfold keepOk at h10
  rw [h2] at h10
  rw [if_pos (by decide)] at h10
  simp only [Bool.and_eq_true] at h10
  have h11 := h10.1
  unfold cod.right at h11
  refine Decidable.byContradiction fun hneg => ?_
  repeat rw [if_neg (by omega)] at h11
  exact absurd h11 (by decide)
set_option maxRecDepth 100000 in
set_option maxHeartbeats 2000000 in
theorem lmay_any {S : Nat → Prop} {w : World} {P T : Array Value} {p : Api.Prog} {t : Api.TTrace} (hp : Rep.cells S w P.toList p) (ht : Rep.cells S w T.toList t) (hS : ∀ b, S b → b < w.heap.size) (hA : cod.Asc w) :
    Calls Tryd.prog 14 #[.agg P, .agg T] w fun e w' => e = .returned (.bool (decide (cod.codeChk p = 0 ∧ traceChk p t = 0))) ∧ Below w.heap.size w w' := by
  obtain ⟨a0, nF, c0, hP⟩ := pin_of hp
  obtain ⟨aI, nI, cI, hT⟩ := tin_of ht
  have hsP := hP.size
  have hsT := hT.size
  obtain ⟨w1, hw1⟩ : ∃ w1, w1 = (w.alloc (.cells P 52)).alloc (.cells T 29) := ⟨_, rfl⟩
  obtain ⟨rP, rT, hb1, hz1⟩ := rows2 w P T _ _ w1 hw1
  have HCE : Hid (∀ W, Below w1.heap.size w1 W → Row W w.heap.size 52 P ∧ Row W (w.heap.size + 1) 29 T ∧ Rep.cells S W P.toList p ∧ Rep.cells S W T.toList t ∧ (∀ b, S b → b < W.heap.size) ∧ Below w.heap.size w W ∧ cod.Asc W) := fun W hb => by
    have hbw : Below w.heap.size w W := hb1.trans (hb.mono hb1.size)
    have hk : ∀ b, S b → W.heap[b]? = w.heap[b]? := fun b hb' => hbw.block b (hS b hb')
    exact ⟨rP.keep (hb.block _ rP.lt), rT.keep (hb.block _ rT.lt), Rep.keep hk hp, Rep.keep hk ht, fun b hb' => Nat.lt_of_lt_of_le (hS b hb') hbw.size, hbw, hA.keep hbw⟩
  have HRP : Hid (∀ W, Below w1.heap.size w1 W → Row W w.heap.size 52 P) := fun W hb => (HCE.out W hb).1
  have HRT : Hid (∀ W, Below w1.heap.size w1 W → Row W (w.heap.size + 1) 29 T) := fun W hb => (HCE.out W hb).2.1
  have HB0 : Hid (Below w1.heap.size w1 w1) := Below.refl _ _
  obtain ⟨res, hres⟩ : ∃ r, r = decide (cod.codeChk p = 0 ∧ traceChk p t = 0) := ⟨_, rfl⟩
  rw [← hres]
  obtain ⟨c, hc⟩ : ∃ c, c = cod.codeChk p := ⟨_, rfl⟩
  have HCC : Hid (∀ W, Below w1.heap.size w1 W → Calls Tryd.prog 25 #[.agg P] W fun e w' => e = .returned (.int .i64 c) ∧ Below w1.heap.size w1 w') := fun W hb => by
    obtain ⟨k1, k2, k3, k4, k5, k6, k7⟩ := HCE.out W hb
    rw [hc]
    exact (pcheck_any k3 k5 k7).mono fun e w' ⟨he, hb'⟩ => ⟨he, hb.trans (hb'.mono hb.size)⟩
  by_cases hc0 : c = 0
  · obtain ⟨q, hq⟩ : ∃ q, q = traceChk p t := ⟨_, rfl⟩
    have HRC : Hid (∀ W, Below w1.heap.size w1 W → Calls Tryd.prog 27 #[.agg P, .agg T] W fun e w' => e = .returned (.int .i64 q) ∧ Below w1.heap.size w1 w') := fun W hb => by
      obtain ⟨k1, k2, k3, k4, k5, k6, k7⟩ := HCE.out W hb
      rw [hq]
      exact (rcheck_any k3 k4 k5 (by rw [← hc]; exact hc0)).mono fun e w' ⟨he, hb'⟩ => ⟨he, hb.trans (hb'.mono hb.size)⟩
    have HF : Hid (res = (q == 0)) := by
      show _ = _
      rw [hres, ← hc, ← hq, Bool.eq_iff_iff]
      simp [hc0]
    clear hres hq hp ht hP hT hS hA rP rT hb1 hz1
    subst hc0
    clear hc
    obtain ⟨b, hb⟩ : ∃ b, (q == 0) = b := ⟨_, rfl⟩
    rw [hb] at HF
    cases b
    all_goals
      go_enter Tryd.func14, Tryd.ntmps14
      go_upto_region 1 with fail
      rw [← hw1]
      clear hw1
      go_wp2_with (first
        | (go_at_call 25; (with_reducible refine (HCC.out _ HB0.out).mono ?_); rintro e w2 ⟨rfl, hb2⟩; have HB2 := Lib.hid hb2; clear hb2)
        | (go_at_call 27; (with_reducible refine (HRC.out _ HB2.out).mono ?_); rintro e w3 ⟨rfl, hb3⟩; have HB3 := Lib.hid hb3; clear hb3)
        | (with_reducible refine ldP rfl rfl rfl (HRP.out _ HB0.out) hsP ?_)
        | (with_reducible refine ldP rfl rfl rfl (HRP.out _ HB2.out) hsP ?_)
        | (with_reducible refine ldT rfl rfl rfl (HRT.out _ HB2.out) hsT ?_))
      go_ret
      exact ⟨by rw [HF.out]; rfl, (HCE.out _ HB3.out).2.2.2.2.2.1⟩
  · have e0 : (c == 0) = false := by simpa using hc0
    have HF : Hid (res = false) := by
      show _ = _
      rw [hres, ← hc]
      simp [hc0]
    clear hres hc hp ht hP hT hS hA rP rT hb1 hz1 hc0
    go_enter Tryd.func14, Tryd.ntmps14
    go_upto_region 1 with fail
    rw [← hw1]
    clear hw1
    go_wp2_with (first
      | (go_at_call 25; (with_reducible refine (HCC.out _ HB0.out).mono ?_); rintro e w2 ⟨rfl, hb2⟩; have HB2 := Lib.hid hb2; clear hb2)
      | (with_reducible refine ldP rfl rfl rfl (HRP.out _ HB0.out) hsP ?_))
    go_ret
    exact ⟨by rw [HF.out]; rfl, (HCE.out _ HB2.out).2.2.2.2.2.1⟩
set_option maxRecDepth 100000 in
set_option maxHeartbeats 2000000 in
theorem irKinds_walk (W : World) (args : Array Value) (h : ArgsRead Tryd.prog W [52, 29, 3, 3] args.toList) (hL : laidMetH Tryd.prog laidL W) :
    Calls Tryd.prog 5 args W fun e W' => e = .returned (.bool true) ∧ Below W.heap.size W W' := by
  obtain ⟨v0, v1, v2, v3, rfl, r0, r1, r2, r3⟩ := h.four
  obtain ⟨cp, p, rfl, hp⟩ := r0.struct Tryd.underlying52 Tryd.opens52
  obtain ⟨ct, t, rfl, ht⟩ := r1.struct Tryd.underlying29 Tryd.opens29
  obtain ⟨a, rfl, -⟩ := r2.int Tryd.underlying3
  obtain ⟨b, rfl, -⟩ := r3.int Tryd.underlying3
  have hA := asc_of_laid hL
  obtain ⟨S, hS, hp, ht⟩ : ∃ S : Nat → Prop, (∀ b, S b → b < W.heap.size) ∧ Rep.cells S W cp p ∧ Rep.cells S W ct t := ⟨_, fun b hb => hb, hp, ht⟩
  obtain ⟨P, rfl⟩ : ∃ P : Array Value, cp = P.toList := ⟨cp.toArray, by simp⟩
  obtain ⟨T, rfl⟩ : ∃ T : Array Value, ct = T.toList := ⟨ct.toArray, by simp⟩
  rw [show P.toList.toArray = P by simp, show T.toList.toArray = T by simp]
  obtain ⟨a0, nF, c0, hP⟩ := pin_of hp
  obtain ⟨aI, nI, cI, hT⟩ := tin_of ht
  have hsP := hP.size
  have hsT := hT.size
  obtain ⟨w1, hw1⟩ : ∃ w1, w1 = (W.alloc (.cells P 52)).alloc (.cells T 29) := ⟨_, rfl⟩
  obtain ⟨rP, rT, hb1, hz1⟩ := rows2 W P T _ _ w1 hw1
  have HCE : Hid (∀ d : Drift w1, Row d.val W.heap.size 52 P ∧ Row d.val (W.heap.size + 1) 29 T ∧ Rep.cells S d.val P.toList p ∧ Rep.cells S d.val T.toList t ∧ (∀ b, S b → b < d.val.heap.size) ∧ cod.Asc d.val) := fun d => by
    have hb := d.below
    have hbw : Below W.heap.size W d.val := hb1.trans (hb.mono hb1.size)
    have hk : ∀ b, S b → d.val.heap[b]? = W.heap[b]? := fun b hb' => hbw.block b (hS b hb')
    exact ⟨rP.keep (hb.block _ rP.lt), rT.keep (hb.block _ rT.lt), Rep.keep hk hp, Rep.keep hk ht, fun b hb' => Nat.lt_of_lt_of_le (hS b hb') hbw.size, hA.keep hbw⟩
  have HRP : Hid (∀ W', (∃ d : Drift w1, W' = d.val) → Row W' W.heap.size 52 P) := fun W' ⟨d, hd⟩ => by rw [hd]; exact (HCE.out d).1
  have HRT : Hid (∀ W', (∃ d : Drift w1, W' = d.val) → Row W' (W.heap.size + 1) 29 T) := fun W' ⟨d, hd⟩ => by rw [hd]; exact (HCE.out d).2.1
  obtain ⟨m, hm⟩ : ∃ m, m = decide (cod.codeChk p = 0 ∧ traceChk p t = 0) := ⟨_, rfl⟩
  have HM : Hid (∀ d : Drift w1, Calls Tryd.prog 14 #[.agg P, .agg T] d.val fun e w' => e = .returned (.bool m) ∧ Below d.val.heap.size d.val w') := fun d => by
    obtain ⟨k1, k2, k3, k4, k5, k6⟩ := HCE.out d
    rw [hm]
    exact lmay_any k3 k4 k5 k6
  have HIR : Hid (∀ d : Drift w1, Calls Tryd.prog 9 #[] d.val fun e w' => e = .returned (.bool true) ∧ Below d.val.heap.size d.val w') := fun d => irred_any
  obtain ⟨x, hx⟩ : ∃ x, x = kindG t.Ins (fun _ => -1) (a.toNat + 1) a b := ⟨_, rfl⟩
  obtain ⟨y, hy⟩ : ∃ y, y = kindG t.Ins (fun k => k) (a.toNat + 1) a b := ⟨_, rfl⟩
  have HK1 : Hid (∀ d : Drift w1, Calls Tryd.prog 15 #[.agg T, .int .i64 a, .int .i64 b] d.val fun e w' => e = .returned (.int .i64 x) ∧ Below d.val.heap.size d.val w') := fun d => by
    obtain ⟨k1, k2, k3, k4, k5, k6⟩ := HCE.out d
    rw [hx]
    exact kind_any _ S _ T t k4 k5 a b (Or.inl (by omega))
  have HK2 : Hid (∀ d : Drift w1, Calls Tryd.prog 16 #[.agg T, .int .i64 a, .int .i64 b] d.val fun e w' => e = .returned (.int .i64 y) ∧ Below d.val.heap.size d.val w') := fun d => by
    obtain ⟨k1, k2, k3, k4, k5, k6⟩ := HCE.out d
    rw [hy]
    exact rkind_any _ S _ T t k4 k5 a b (Or.inl (by omega))
  have HXY : Hid (m = true → x = y) := fun h => by
    rw [hx, hy]
    rw [hm] at h
    exact kind_same (kinds_known (of_decide_eq_true h).2) _ _ _
  have hsz : W.heap.size ≤ w1.heap.size := hb1.size
  have HB1 := Lib.hid hb1
  clear hP hT hp ht hS hA rP rT hb1 hz1 hx hy hm HCE h r0 r1 r2 r3 hL
  cases m with
  | false =>
    clear HXY
    go_enter Tryd.func5, Tryd.ntmps5
    go_upto_region 1 with fail
    rw [← hw1]
    clear hw1
    first | (refine wp_region_drift_lit (by kernel_rfl) (by kernel_rfl) (fun hdr => ?_); (repeat (first | go_big_quiet_skip | (go_big_quiet_want; (first | ((first | (with_reducible refine qldP rfl rfl HRP.out hsP ?_) | (with_reducible refine qldT rfl rfl HRT.out hsT ?_)); simp only [Act.put, List.setIfInBounds_toArray, List.set_cons_succ, List.set_cons_zero]) | go_big_quiet_op); (first | go_big_quiet_on | go_big_quiet_call ((first | (go_at_call 9; with_reducible exact drift_of (HIR.out _)) | (go_at_call 14; with_reducible exact drift_of (HM.out _)) | (go_at_call 15; with_reducible exact drift_of (HK1.out _)) | (go_at_call 16; with_reducible exact drift_of (HK2.out _)))))))); refine wpQuiet_nil ?_; intro wq hw'; obtain ⟨⟨wd, hbd⟩, hw''⟩ := hw'; dsimp only at hw''; subst wq; clear hdr)
    go_wp2
    go_ret
    exact ⟨rfl, HB1.out.trans (hbd.mono hsz)⟩
  | true =>
    obtain rfl := HXY.out rfl
    have hee : (x == x) = true := by simp
    go_enter Tryd.func5, Tryd.ntmps5
    go_upto_region 1 with fail
    rw [← hw1]
    clear hw1
    first | (refine wp_region_drift_lit (by kernel_rfl) (by kernel_rfl) (fun hdr => ?_); (repeat (first | go_big_quiet_skip | (go_big_quiet_want; (first | ((first | (with_reducible refine qldP rfl rfl HRP.out hsP ?_) | (with_reducible refine qldT rfl rfl HRT.out hsT ?_)); simp only [Act.put, List.setIfInBounds_toArray, List.set_cons_succ, List.set_cons_zero]) | go_big_quiet_op); (first | go_big_quiet_on | go_big_quiet_call ((first | (go_at_call 9; with_reducible exact drift_of (HIR.out _)) | (go_at_call 14; with_reducible exact drift_of (HM.out _)) | (go_at_call 15; with_reducible exact drift_of (HK1.out _)) | (go_at_call 16; with_reducible exact drift_of (HK2.out _)))))))); refine wpQuiet_nil ?_; intro wq hw'; obtain ⟨⟨wd, hbd⟩, hw''⟩ := hw'; dsimp only at hw''; subst wq; clear hdr)
    go_wp2
    go_ret
    exact ⟨rfl, HB1.out.trans (hbd.mono hsz)⟩
end Go.Proofs.YtjlnaiiajlahgaaDoor.chk
