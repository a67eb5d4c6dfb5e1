/- ir.checker: right, walked. -/
import Derived.Test.YtekofpigmggbbaaDoorQIcB
set_option linter.unusedVariables false
set_option linter.unusedSimpArgs false
namespace Go.Proofs.YtekofpigmggbbaaDoor.chk
open Go.Bk Go.RowKit Go.Proofs.YtekofpigmggbbaaDoor.ir

theorem prevR_next {l : List Api.TSet} {k : Nat} {y : Api.TSet} (hy : l[k]? = some y) : prevR l (k + 1) = y.Reg := by
  unfold prevR
  rw [if_neg (by omega)]
  simp [hy]
theorem prevC_next {l : List Api.TMake} {k : Nat} {y : Api.TMake} (hy : l[k]? = some y) : prevC l (k + 1) = y.Cell := by
  unfold prevC
  rw [if_neg (by omega)]
  simp [hy]
theorem setC_at {regs : Int} {ins : List Api.TIns} {at' : Int} {l : List Api.TSet} {k : Nat} {y : Api.TSet} (hy : l[k]? = some y) : setC regs ins at' l k = (decide (prevR l k < y.Reg) && (decide (y.Reg < regs) && valAt ins y.Val at')) := by
  unfold setC; rw [hy]
theorem makeC_at {ins : List Api.TIns} {at' : Int} {l : List Api.TMake} {k : Nat} {y : Api.TMake} (hy : l[k]? = some y) : makeC ins at' l k = (decide (prevC l k < y.Cell) && makeOk ins at' y) := by
  unfold makeC; rw [hy]
theorem allTo_next {c : Nat → Bool} {k : Nat} (h : allTo c k = true) (h2 : c k = true) : allTo c (k + 1) = true := by
  show (allTo c k && c k) = true
  rw [h, h2]; rfl
set_option maxRecDepth 100000 in
set_option maxHeartbeats 1000000 in
theorem cright_any {S : Nat → Prop} {w : World} {C X : Array Value} {f : Api.Fn} {t : Api.TTrace} {x : Api.TExit} {a4 : Option Addr} {c4 : Nat} {aI : Option Addr} {nI cI : Nat} {aE : Option Addr} {nE cE : Nat} {a2 a3 : Option Addr} {nS c2 nM c3 : Nat} (hi : KIn S w C f t a4 c4 aI nI cI aE nE cE) (hX : XIn S w X x a2 a3 nS c2 nM c3) (hS : ∀ b, S b → b < w.heap.size) (at' : Int) :
    Calls Tryd.prog 84 #[.agg C, .agg X, .int .i64 at'] w fun e w' => e = .returned (.bool (exitOk f.Regs f.Code.length t.Ins x at')) ∧ Below w.heap.size w w' := by
  obtain ⟨w1, hw1⟩ : ∃ w1, w1 = (w.alloc (.cells C 140)).alloc (.cells X 32) := ⟨_, rfl⟩
  obtain ⟨rC, rX, hb1, hz1⟩ := rows2 w C X _ _ w1 hw1
  have HCE : Hid (∀ W, Below w1.heap.size w1 W → Row W w.heap.size 140 C ∧ Row W (w.heap.size + 1) 32 X ∧ KIn S W C f t a4 c4 aI nI cI aE nE cE ∧ XIn S W X x a2 a3 nS c2 nM c3 ∧ (∀ b, S b → b < W.heap.size) ∧ Below w.heap.size w W) := fun W hb => by
    have hbw : Below w.heap.size w W := hb1.trans (hb.mono hb1.size)
    have hk : ∀ b, S b → W.heap[b]? = w.heap[b]? := fun b hb' => hbw.block b (hS b hb')
    exact ⟨rC.keep (hb.block _ rC.lt), rX.keep (hb.block _ rX.lt), hi.keep hk, ⟨hX.size, hX.c0, hX.c1, hX.c2, hX.c3, hX.sets.keep hk, hX.makes.keep hk, hX.lenS, hX.lenM, hX.fewS, hX.fewM⟩, fun b hb' => Nat.lt_of_lt_of_le (hS b hb') hbw.size, hbw⟩
  have hsC := hi.size
  have HB0 : Hid (Below w1.heap.size w1 w1) := Below.refl _ _
  obtain ⟨nO, hnO⟩ : ∃ n, n = f.Code.length := ⟨_, rfl⟩
  obtain ⟨gs, hgs⟩ : ∃ r, r = f.Regs := ⟨_, rfl⟩
  obtain ⟨res, hres⟩ : ∃ r, r = exitOk f.Regs f.Code.length t.Ins x at' := ⟨_, rfl⟩
  rw [← hres]
  have HE : Hid (res = (placeOk nO x && (allTo (setC gs t.Ins at' x.Sets) nS && allTo (makeC t.Ins at' x.Makes) nM))) := by
    show _ = _
    rw [hres, hnO, hgs, ← hX.lenS, ← hX.lenM]; rfl
  have HRW : Hid (∀ W, Below w1.heap.size w1 W → Row W w.heap.size 140 C) := fun W hb => (HCE.out W hb).1
  have HCL : Hid (∀ W, Below w1.heap.size w1 W → W.cell? ⟨w.heap.size + 1, 0, none⟩ = some (.int .i64 x.At) ∧ W.cell? ⟨w.heap.size + 1, 1, none⟩ = some (.int .i64 x.Steps) ∧ W.cell? ⟨w.heap.size + 1, 2, none⟩ = some (.slice a2 nS c2) ∧ W.cell? ⟨w.heap.size + 1, 3, none⟩ = some (.slice a3 nM c3) ∧ w.heap.size + 1 < W.heap.size ∧ W.cell? ⟨w.heap.size, 1, none⟩ = some (.int .i64 gs) ∧ W.cell? ⟨w.heap.size, 4, none⟩ = some (.slice a4 nO c4) ∧ w.heap.size < W.heap.size) := fun W hb => by
    obtain ⟨k1, k2, k3, k4, k5, k6⟩ := HCE.out W hb
    rw [hnO, hgs]
    exact ⟨k2.cell k4.c0, k2.cell k4.c1, k2.cell k4.c2, k2.cell k4.c3, k2.lt, k1.cell k3.regs, k1.cell k3.code, k1.lt⟩
  have HVL : Hid (∀ W v, Below w1.heap.size w1 W → Calls Tryd.prog 127 #[.agg C, .int .i64 v, .int .i64 at'] W fun e w' => e = .returned (.bool (valAt t.Ins v at')) ∧ Below w1.heap.size w1 w') := fun W v hb => by
    obtain ⟨k1, k2, k3, k4, k5, k6⟩ := HCE.out W hb
    exact (cvalue_any k3 k5 v at').mono fun e w' ⟨he, hb'⟩ => ⟨he, hb.trans (hb'.mono hb.size)⟩
  have hnO9 : nO ≤ 9223372036854775807 := hnO ▸ hi.fewC
  have hnS9 := hX.fewS; have hnM9 := hX.fewM
  obtain ⟨x0, x1, x2, x3, lX, g1, g4, lC⟩ := HCL.out w1 HB0.out
  clear hi hX hS rC rX hb1 hres hnO hgs
  go_enter Tryd.func84, Tryd.ntmps84
  go_upto_region 1 with fail
  rw [← hw1]
  clear hw1 hz1
  have key : (decide (x.At < 0) = true ∨ (decide (x.At < 0) = false ∧ decide ((nO : Int) ≤ x.At) = true) ∨ (decide (x.At < 0) = false ∧ decide ((nO : Int) ≤ x.At) = false ∧ decide (x.Steps < 0) = true) ∨ (decide (x.At < 0) = false ∧ decide ((nO : Int) ≤ x.At) = false ∧ decide (x.Steps < 0) = false ∧ decide (200 < x.Steps) = true)) ∨
      (decide (x.At < 0) = false ∧ decide ((nO : Int) ≤ x.At) = false ∧ decide (x.Steps < 0) = false ∧ decide (200 < x.Steps) = false) := by
    simp only [decide_eq_true_eq, decide_eq_false_iff_not]
    omega
  rcases key with key | ⟨e1, e2, e3, e4⟩
  · have HF : Hid (res = false) := by
      show _ = _
      rw [HE.out]
      simp only [decide_eq_true_eq, decide_eq_false_iff_not] at key
      unfold placeOk
      rcases key with h | h | h | h
      · rw [show decide (0 ≤ x.At) = false from decide_eq_false (by omega)]; rfl
      · rw [show decide (x.At < (nO : Int)) = false from decide_eq_false (by omega)]; simp
      · rw [show decide (0 ≤ x.Steps) = false from decide_eq_false (by omega)]; simp
      · rw [show decide (x.Steps ≤ 200) = false from decide_eq_false (by omega)]; simp
    rcases key with e1 | ⟨e1, e2⟩ | ⟨e1, e2, e3⟩ | ⟨e1, e2, e3, e4⟩
    all_goals
      go_wp2_with fail
      go_ret
      exact ⟨by rw [HF.out]; rfl, (HCE.out _ HB0.out).2.2.2.2.2⟩
  · have HE2 : Hid (res = (allTo (setC gs t.Ins at' x.Sets) nS && allTo (makeC t.Ins at' x.Makes) nM)) := by
      show _ = _
      rw [HE.out]
      simp only [decide_eq_true_eq, decide_eq_false_iff_not] at e1 e2 e3 e4
      have : placeOk nO x = true := by
        unfold placeOk
        rw [show decide (0 ≤ x.At) = true from decide_eq_true (by omega), show decide (x.At < (nO : Int)) = true from decide_eq_true (by omega), show decide (0 ≤ x.Steps) = true from decide_eq_true (by omega), show decide (x.Steps ≤ 200) = true from decide_eq_true (by omega)]
        rfl
      rw [this, Bool.true_and]
    clear HE
    go_wp2_with fail
    clear e1 e2 e3 e4 x0 x1 x2 x3 lX g1 g4 lC
    go_loopw [7, 37] (fun s7 i wr => ∃ k : Nat, k ≤ nS ∧ i = .int .i64 k ∧ s7 = .int .i64 (prevR x.Sets k) ∧ allTo (setC gs t.Ins at' x.Sets) k = true ∧ Below w1.heap.size w1 wr) (fun _ i _ => nS - (intOf i).toNat)
    case atStart => exact ⟨0, Nat.zero_le _, rfl, rfl, rfl, HB0.out⟩
    case round =>
      obtain ⟨k, hk, rfl, rfl, hall, hbr⟩ := hrel
      have HBR := Lib.hid hbr; have HAL := Lib.hid hall
      obtain ⟨k1, k2, k3, k4, k5, k6⟩ := HCE.out wr hbr
      obtain ⟨x0, x1, x2, x3, lX, g1, g4, lC⟩ := HCL.out wr hbr
      obtain ⟨p, hp⟩ : ∃ p, p = prevR x.Sets k := ⟨_, rfl⟩
      rw [← hp]
      by_cases hlt : k < nS
      · obtain ⟨y, hy⟩ : ∃ y, x.Sets[k]? = some y := ⟨_, List.getElem?_eq_getElem (by rw [k4.lenS]; exact hlt)⟩
        obtain ⟨bs, os, rfl, hSb, y0, y1, -, -⟩ := api_TSet_elem k4.sets hy
        have hbs := k5 bs hSb
        obtain ⟨w5, hw5⟩ : ∃ w5, w5 = wr.alloc (.cells #[.int .i64 y.Reg, .int .i64 y.Val] 98) := ⟨_, rfl⟩
        have hb5 : Below wr.heap.size wr w5 := by rw [hw5]; exact cod.below_al2 _
        have HB5 : Hid (Below w1.heap.size w1 w5) := hbr.trans (hb5.mono hbr.size)
        have hrow := row_new wr #[.int .i64 y.Reg, .int .i64 y.Val] 98
        rw [← hw5] at hrow
        have HROW := Lib.hid hrow
        obtain ⟨vb, hvb⟩ : ∃ b, b = valAt t.Ins y.Val at' := ⟨_, rfl⟩
        have HC : Hid (setC gs t.Ins at' x.Sets k = (decide (p < y.Reg) && (decide (y.Reg < gs) && vb))) := by show _ = _; rw [hp, hvb]; exact setC_at hy
        have HV : Hid (∀ W, Below w1.heap.size w1 W → Calls Tryd.prog 127 #[.agg C, .int .i64 y.Val, .int .i64 at'] W fun e w' => e = .returned (.bool vb) ∧ Below w1.heap.size w1 w') := fun W hb => by rw [hvb]; exact HVL.out W _ hb
        have HV5 : Hid (Calls Tryd.prog 127 #[.agg C, .int .i64 y.Val, .int .i64 at'] w5 fun e w' => e = .returned (.bool vb) ∧ Below w5.heap.size w5 w') := by
          obtain ⟨m1, m2, m3, m4, m5, m6⟩ := HCE.out w5 HB5.out
          rw [hvb]
          exact cvalue_any m3 m5 _ _
        have HN : Hid (prevR x.Sets (k + 1) = y.Reg) := prevR_next hy
        clear hy hSb hall hbr k1 k2 k3 k4 k5 k6 hb5 hrow hp hvb
        go_upto_region 7 with fail
        rw [← hw5]
        clear hw5 y0 y1 hbs x0 x1 x2 x3 lX g1 g4 lC
        obtain ⟨x0, x1, x2, x3, lX, g1, g4, lC⟩ := HCL.out w5 HB5.out
        have z0 := HROW.out.cell (j := 0) rfl; have z1 := HROW.out.cell (j := 1) rfl; have lR := HROW.out.lt
        generalize wr.heap.size = gR at HROW z0 z1 lR ⊢
        have key : (decide (y.Reg ≤ p) = true ∨ (decide (y.Reg ≤ p) = false ∧ decide (gs ≤ y.Reg) = true)) ∨ (decide (y.Reg ≤ p) = false ∧ decide (gs ≤ y.Reg) = false) := by
          simp only [decide_eq_true_eq, decide_eq_false_iff_not]
          omega
        rcases key with key | ⟨e1, e2⟩
        · have HF : Hid (res = false) := by
            show _ = _
            have : setC gs t.Ins at' x.Sets k = false := by
              rw [HC.out]
              simp only [decide_eq_true_eq, decide_eq_false_iff_not] at key
              rcases key with h | h
              · rw [show decide (p < y.Reg) = false from decide_eq_false (by omega)]; rfl
              · rw [show decide (y.Reg < gs) = false from decide_eq_false (by omega)]; simp
            rw [HE2.out, allTo_false this hlt]; rfl
          rcases key with e1 | ⟨e1, e2⟩
          all_goals
            go_wp2_with fail
            go_ret
            exact ⟨by rw [HF.out]; rfl, (HCE.out _ HB5.out).2.2.2.2.2⟩
        · have HC2 : Hid (setC gs t.Ins at' x.Sets k = vb) := by
            show _ = _
            simp only [decide_eq_true_eq, decide_eq_false_iff_not] at e1 e2
            rw [HC.out, show decide (p < y.Reg) = true from decide_eq_true (by omega), show decide (y.Reg < gs) = true from decide_eq_true (by omega)]
            rfl
          cases vb with
          | false =>
            have HF : Hid (res = false) := by show _ = _; rw [HE2.out, allTo_false HC2.out hlt]; rfl
            go_wp2_with (first
              | (with_reducible refine ldC rfl rfl rfl (HRW.out _ HB5.out) hsC ?_)
              | (go_at_call 127; (with_reducible refine HV5.out.mono ?_); rintro e w6 ⟨rfl, hb6⟩; have HB6 := Lib.hid hb6; clear hb6))
            go_ret
            exact ⟨by rw [HF.out]; rfl, (HCE.out _ (HB5.out.trans (HB6.out.mono HB5.out.size))).2.2.2.2.2⟩
          | true =>
            have HAN : Hid (allTo (setC gs t.Ins at' x.Sets) (k + 1) = true) := allTo_next HAL.out HC2.out
            go_wp2_with (first
              | (with_reducible refine ldC rfl rfl rfl (HRW.out _ HB5.out) hsC ?_)
              | (go_at_call 127; (with_reducible refine HV5.out.mono ?_); rintro e w6 ⟨rfl, hb6⟩; have HB6 := Lib.hid hb6; have r6 := HROW.out.keep (hb6.block _ HROW.out.lt); have v0 := r6.cell (j := 0) rfl; have v1 := r6.lt; clear hb6 r6))
            go_roundw
            case rel => exact ⟨k + 1, by omega, by go_num, by rw [HN.out], HAN.out, HB5.out.trans (HB6.out.mono HB5.out.size)⟩
            case measure => simp [intOf]; omega
      · obtain rfl : k = nS := by omega
        have HE3 : Hid (res = allTo (makeC t.Ins at' x.Makes) nM) := by show _ = _; rw [HE2.out, HAL.out]; rfl
        clear hall hbr k1 k2 k3 k4 k5 k6 hp
        go_wp2_with fail
        clear x0 x1 x2 x3 lX g1 g4 lC
        go_loopw [7, 67] (fun s7 i wv => ∃ j : Nat, j ≤ nM ∧ i = .int .i64 j ∧ s7 = .int .i64 (prevC x.Makes j) ∧ allTo (makeC t.Ins at' x.Makes) j = true ∧ Below w1.heap.size w1 wv) (fun _ i _ => nM - (intOf i).toNat)
        case atStart => exact ⟨0, Nat.zero_le _, rfl, rfl, rfl, HBR.out⟩
        case round =>
          obtain ⟨wv, rfl⟩ : ∃ wv : World, wv = wr := ⟨_, rfl⟩
          obtain ⟨j, hj, rfl, rfl, hall, hbr⟩ := hrel
          have HBV := Lib.hid hbr; have HAV := Lib.hid hall
          obtain ⟨k1, k2, k3, k4, k5, k6⟩ := HCE.out wv hbr
          obtain ⟨x0, x1, x2, x3, lX, g1, g4, lC⟩ := HCL.out wv hbr
          obtain ⟨p, hp⟩ : ∃ p, p = prevC x.Makes j := ⟨_, rfl⟩
          rw [← hp]
          by_cases hlt : j < nM
          · obtain ⟨m, hm⟩ : ∃ m, x.Makes[j]? = some m := ⟨_, List.getElem?_eq_getElem (by rw [k4.lenM]; exact hlt)⟩
            obtain ⟨bm, om, aV, dV, rfl, hSm, y0, y1, y2, y3, -, -, -, hv⟩ := api_TMake_elem k4.makes hm
            obtain ⟨nV, hnV⟩ : ∃ n, n = m.Vals.length := ⟨_, rfl⟩
            have hbm := k5 bm hSm
            rw [← hnV] at y3
            obtain ⟨w5, hw5⟩ : ∃ w5, w5 = wv.alloc (.cells #[.int .i64 m.Cell, .int .i64 m.Kind, .int .i64 m.Num, .slice aV nV dV] 100) := ⟨_, rfl⟩
            have hb5 : Below wv.heap.size wv w5 := by rw [hw5]; exact cod.below_al2 _
            have HB5 : Hid (Below w1.heap.size w1 w5) := hbr.trans (hb5.mono hbr.size)
            have hrow := row_new wv #[.int .i64 m.Cell, .int .i64 m.Kind, .int .i64 m.Num, .slice aV nV dV] 100
            rw [← hw5] at hrow
            have HROW := Lib.hid hrow
            obtain ⟨mb, hmb⟩ : ∃ b, b = makeOk t.Ins at' m := ⟨_, rfl⟩
            have HC : Hid (makeC t.Ins at' x.Makes j = (decide (p < m.Cell) && mb)) := by show _ = _; rw [hp, hmb]; exact makeC_at hm
            have HV5 : Hid (Calls Tryd.prog 128 #[.agg C, .agg #[.int .i64 m.Cell, .int .i64 m.Kind, .int .i64 m.Num, .slice aV nV dV], .int .i64 at'] w5 fun e w' => e = .returned (.bool mb) ∧ Below w5.heap.size w5 w') := by
              obtain ⟨m1, m2, m3, m4, m5, m6⟩ := HCE.out w5 HB5.out
              rw [hmb, hnV]
              exact cmake_any m3 m5 (hv.2.2.keep fun b hb => hb5.block b (k5 b hb)) m5 _
            have HN : Hid (prevC x.Makes (j + 1) = m.Cell) := prevC_next hm
            clear hm hSm hall hbr k1 k2 k3 k4 k5 k6 hb5 hrow hp hmb hnV hv
            go_upto_region 15 with fail
            rw [← hw5]
            clear hw5 y0 y1 y2 y3 hbm x0 x1 x2 x3 lX g1 g4 lC
            have z0 := HROW.out.cell (j := 0) rfl; have z1 := HROW.out.cell (j := 1) rfl; have z2 := HROW.out.cell (j := 2) rfl; have z3 := HROW.out.cell (j := 3) rfl; have lR := HROW.out.lt
            generalize wv.heap.size = gR at HROW z0 z1 z2 z3 lR ⊢
            by_cases hpm : m.Cell ≤ p
            · have e1 : decide (m.Cell ≤ p) = true := decide_eq_true hpm
              have HF : Hid (res = false) := by
                show _ = _
                have : makeC t.Ins at' x.Makes j = false := by
                  rw [HC.out, show decide (p < m.Cell) = false from decide_eq_false (by omega)]; rfl
                rw [HE3.out, allTo_false this hlt]
              clear hpm
              go_wp2_with fail
              go_ret
              exact ⟨by rw [HF.out]; rfl, (HCE.out _ HB5.out).2.2.2.2.2⟩
            · have e1 : decide (m.Cell ≤ p) = false := decide_eq_false hpm
              have HC2 : Hid (makeC t.Ins at' x.Makes j = mb) := by
                show _ = _
                rw [HC.out, show decide (p < m.Cell) = true from decide_eq_true (by omega)]
                rfl
              clear hpm
              cases mb with
              | false =>
                have HF : Hid (res = false) := by show _ = _; rw [HE3.out, allTo_false HC2.out hlt]
                go_wp2_with (first
                  | (with_reducible refine ldC rfl rfl rfl (HRW.out _ HB5.out) hsC ?_)
                  | (go_at_call 128; (with_reducible refine HV5.out.mono ?_); rintro e w6 ⟨rfl, hb6⟩; have HB6 := Lib.hid hb6; clear hb6))
                go_ret
                exact ⟨by rw [HF.out]; rfl, (HCE.out _ (HB5.out.trans (HB6.out.mono HB5.out.size))).2.2.2.2.2⟩
              | true =>
                have HAN : Hid (allTo (makeC t.Ins at' x.Makes) (j + 1) = true) := allTo_next HAV.out HC2.out
                go_wp2_with (first
                  | (with_reducible refine ldC rfl rfl rfl (HRW.out _ HB5.out) hsC ?_)
                  | (go_at_call 128; (with_reducible refine HV5.out.mono ?_); rintro e w6 ⟨rfl, hb6⟩; have HB6 := Lib.hid hb6; have r6 := HROW.out.keep (hb6.block _ HROW.out.lt); have v0 := r6.cell (j := 0) rfl; have v1 := r6.lt; clear hb6 r6))
                go_roundw
                case rel => exact ⟨j + 1, by omega, by go_num, by rw [HN.out], HAN.out, HB5.out.trans (HB6.out.mono HB5.out.size)⟩
                case measure => simp [intOf]; omega
          · obtain rfl : j = nM := by omega
            have HF : Hid (res = true) := by show _ = _; rw [HE3.out, HAV.out]
            clear hall hbr k1 k2 k3 k4 k5 k6 hp
            go_wp2_with fail
            go_ret
            exact ⟨by rw [HF.out]; rfl, (HCE.out _ HBV.out).2.2.2.2.2⟩
end Go.Proofs.YtekofpigmggbbaaDoor.chk
