/- ir.bare, ir.checker: make, walked. -/
import Derived.Test.YtekofpigmggbbaaDoorQIcA
set_option linter.unusedVariables false
set_option linter.unusedSimpArgs false
namespace Go.Proofs.YtekofpigmggbbaaDoor.chk
open Go.Bk Go.RowKit Go.Proofs.YtekofpigmggbbaaDoor.ir

theorem valAt_true {ins : List Api.TIns} {v at' : Int} (h : valAt ins v at' = true) : ∃ (k : Nat) (x : Api.TIns), v = k ∧ (k : Int) < at' ∧ ins[k]? = some x := by
  unfold valAt at h
  split at h
  · rename_i hc
    obtain ⟨k, rfl⟩ : ∃ k : Nat, v = k := ⟨v.toNat, by omega⟩
    exact ⟨k, _, rfl, hc.2.1, List.getElem?_eq_getElem (by omega)⟩
  · cases h
set_option maxRecDepth 100000 in
set_option maxHeartbeats 1000000 in
theorem cmake_any {S R : Nat → Prop} {w : World} {C : Array Value} {f : Api.Fn} {t : Api.TTrace} {a4 : Option Addr} {c4 : Nat} {aI : Option Addr} {nI cI : Nat} {aE : Option Addr} {nE cE : Nat} (hi : KIn S w C f t a4 c4 aI nI cI aE nE cE) (hS : ∀ b, S b → b < w.heap.size)
    {m : Api.TMake} {av : Option Addr} {cv : Nat} (hl : Arr R w av m.Vals) (hR : ∀ b, R b → b < w.heap.size) (at' : Int) :
    Calls Tryd.prog 128 #[.agg C, .agg #[.int .i64 m.Cell, .int .i64 m.Kind, .int .i64 m.Num, .slice av m.Vals.length cv], .int .i64 at'] w fun e w' => e = .returned (.bool (makeOk t.Ins at' m)) ∧ Below w.heap.size w w' := by
  obtain ⟨nV, hnV⟩ : ∃ n, n = m.Vals.length := ⟨_, rfl⟩
  rw [← hnV]
  obtain ⟨w1, hw1⟩ : ∃ w1, w1 = (w.alloc (.cells C 140)).alloc (.cells #[.int .i64 m.Cell, .int .i64 m.Kind, .int .i64 m.Num, .slice av nV cv] 100) := ⟨_, rfl⟩
  obtain ⟨rC, rM, hb1, hz1⟩ := rows2 w C #[.int .i64 m.Cell, .int .i64 m.Kind, .int .i64 m.Num, .slice av nV cv] _ _ w1 hw1
  have HCE : Hid (∀ W, Below w1.heap.size w1 W → Row W w.heap.size 140 C ∧ KIn S W C f t a4 c4 aI nI cI aE nE cE ∧ (∀ b, S b → b < W.heap.size) ∧ Arr R W av m.Vals ∧ (∀ b, R b → b < W.heap.size) ∧ Below w.heap.size w W ∧ Row W (w.heap.size + 1) 100 #[.int .i64 m.Cell, .int .i64 m.Kind, .int .i64 m.Num, .slice av nV cv]) := fun W hb => by
    have hbw : Below w.heap.size w W := hb1.trans (hb.mono hb1.size)
    exact ⟨rC.keep (hb.block _ rC.lt), hi.keep fun b hb' => hbw.block b (hS b hb'), fun b hb' => Nat.lt_of_lt_of_le (hS b hb') hbw.size, hl.keep fun b hb' => hbw.block b (hR b hb'), fun b hb' => Nat.lt_of_lt_of_le (hR b hb') hbw.size, hbw, rM.keep (hb.block _ rM.lt)⟩
  have hsC := hi.size
  have HB0 : Hid (Below w1.heap.size w1 w1) := Below.refl _ _
  obtain ⟨res, hres⟩ : ∃ r, r = makeOk t.Ins at' m := ⟨_, rfl⟩
  rw [← hres]
  obtain ⟨bv, hbv⟩ : ∃ b, b = valAt t.Ins m.Cell at' := ⟨_, rfl⟩
  obtain ⟨ba, hba⟩ : ∃ b, b = m.Vals.all fun v => valAt t.Ins v at' := ⟨_, rfl⟩
  have HM : Hid (res = (bv && (decide (opAt t.Ins m.Cell = 18) && ((decide (1 ≤ m.Kind) && decide (m.Kind ≤ 3)) && (decide (0 ≤ m.Num) && ((decide (m.Num = 0) || decide (m.Kind = 1)) && (decide (nV ≤ 100) && ba))))))) := by
    show _ = _
    rw [hres, hbv, hba, hnV]; rfl
  have HV : Hid (∀ W, Below w1.heap.size w1 W → Calls Tryd.prog 127 #[.agg C, .int .i64 m.Cell, .int .i64 at'] W fun e w' => e = .returned (.bool bv) ∧ Below w1.heap.size w1 w') := fun W hb => by
    obtain ⟨k1, k2, k3, k4, k5, k6, k7⟩ := HCE.out W hb
    rw [hbv]
    exact (cvalue_any k2 k3 _ at').mono fun e w' ⟨he, hb'⟩ => ⟨he, hb.trans (hb'.mono hb.size)⟩
  have HA : Hid (∀ W, Below w1.heap.size w1 W → Calls Tryd.prog 126 #[.agg C, .slice av nV cv, .int .i64 at'] W fun e w' => e = .returned (.bool ba) ∧ Below w1.heap.size w1 w') := fun W hb => by
    obtain ⟨k1, k2, k3, k4, k5, k6, k7⟩ := HCE.out W hb
    rw [hba, hnV]
    exact (cvalues_any k2 k3 k4 k5 at').mono fun e w' ⟨he, hb'⟩ => ⟨he, hb.trans (hb'.mono hb.size)⟩
  have HRW : Hid (∀ W, Below w1.heap.size w1 W → Row W w.heap.size 140 C) := fun W hb => (HCE.out W hb).1
  have HCL : Hid (∀ W, Below w1.heap.size w1 W → W.cell? ⟨w.heap.size + 1, 0, none⟩ = some (.int .i64 m.Cell) ∧ W.cell? ⟨w.heap.size + 1, 1, none⟩ = some (.int .i64 m.Kind) ∧ W.cell? ⟨w.heap.size + 1, 2, none⟩ = some (.int .i64 m.Num) ∧ W.cell? ⟨w.heap.size + 1, 3, none⟩ = some (.slice av nV cv) ∧ w.heap.size + 1 < W.heap.size ∧ W.cell? ⟨w.heap.size, 8, none⟩ = some (.slice aI nI cI) ∧ w.heap.size < W.heap.size) := fun W hb => by
    obtain ⟨k1, k2, k3, k4, k5, k6, k7⟩ := HCE.out W hb
    exact ⟨k7.cell (j := 0) rfl, k7.cell (j := 1) rfl, k7.cell (j := 2) rfl, k7.cell (j := 3) rfl, k7.lt, k1.cell k2.cI, k1.lt⟩
  obtain ⟨m0, m1, m2, m3, lM, m8, lC⟩ := HCL.out w1 HB0.out
  have hn100 : nV ≤ 9223372036854775807 := by have := hl.small; unfold maxLen at this; omega
  cases bv with
  | false =>
    have HF : Hid (res = false) := by show _ = _; rw [HM.out]; rfl
    clear HM hi hS hl hR rC rM hb1 hres hbv hba hz1 hnV
    go_enter Tryd.func128, Tryd.ntmps128
    go_upto_region 1 with fail
    rw [← hw1]
    clear hw1
    go_wp2_with (first
      | (with_reducible refine ldC rfl rfl rfl (HRW.out _ HB0.out) hsC ?_)
      | (go_at_call 127; (with_reducible refine (HV.out _ HB0.out).mono ?_); rintro e w2 ⟨rfl, hb2⟩; have HB2 := Lib.hid hb2; clear hb2))
    go_ret
    exact ⟨by rw [HF.out]; rfl, (HCE.out _ HB2.out).2.2.2.2.2.1⟩
  | true =>
    obtain ⟨k, x, hk, hka, hx⟩ := valAt_true hbv.symm
    have hkn : (k : Int) < (nI : Int) := by rw [← hi.lenI]; have := (List.getElem?_eq_some_iff.1 hx).1; omega
    have hop : opAt t.Ins m.Cell = x.Op := by unfold opAt; rw [hk]; simp [hx]
    rw [hop] at HM
    rw [hk] at HV HCL m0
    obtain ⟨b, off, rfl, hb, -⟩ := arr_ins_op hi.ins hx
    have HY : Hid (∀ W, Below w1.heap.size w1 W → W.cell? ⟨b, off + k * 8, none⟩ = some (.int .i64 x.Op) ∧ b < W.heap.size) := fun W hb' => by
      obtain ⟨k1, k2, k3, k4, k5, k6, k7⟩ := HCE.out W hb'
      obtain ⟨b', off', e, -, h⟩ := arr_ins_op k2.ins hx
      obtain ⟨rfl, rfl⟩ : b = b' ∧ off = off' := by injection e with e; injection e with e1 e2; exact ⟨e1, e2⟩
      exact ⟨h, k3 b hb⟩
    rw [hk] at hw1 ⊢
    clear hi hS hl hR rC rM hb1 hres hbv hba hz1 hnV hk hka hx hop hb
    rcases (show (x.Op != 18) = true ∨ (x.Op != 18) = false by cases (x.Op != 18) <;> simp) with e18 | e18
    · have HF : Hid (res = false) := by
        show _ = _
        rw [HM.out, show decide (x.Op = 18) = false by simpa using e18]; rfl
      clear HM
      go_enter Tryd.func128, Tryd.ntmps128
      go_upto_region 1 with fail
      rw [← hw1]
      clear hw1
      go_wp2_with (first
        | (with_reducible refine ldC rfl rfl rfl (HRW.out _ HB0.out) hsC ?_)
        | (go_at_call 127; (with_reducible refine (HV.out _ HB0.out).mono ?_); rintro e w2 ⟨rfl, hb2⟩; have HB2 := Lib.hid hb2; clear hb2; obtain ⟨n0, n1, n2, n3, nM, n8, nC⟩ := HCL.out _ HB2.out; obtain ⟨y0, yl⟩ := HY.out _ HB2.out)
        | (with_reducible refine ldC rfl rfl rfl (HRW.out _ HB2.out) hsC ?_)
        | (go_at_call 126; (with_reducible refine (HA.out _ HB2.out).mono ?_); rintro e w3 ⟨rfl, hb3⟩; have HB3 := Lib.hid hb3; clear hb3))
      go_ret
      exact ⟨by rw [HF.out]; rfl, (HCE.out _ HB2.out).2.2.2.2.2.1⟩
    · have HM2 : Hid (res = ((decide (1 ≤ m.Kind) && decide (m.Kind ≤ 3)) && (decide (0 ≤ m.Num) && ((decide (m.Num = 0) || decide (m.Kind = 1)) && (decide (nV ≤ 100) && ba))))) := by
        show _ = _
        rw [HM.out, show decide (x.Op = 18) = true by simpa using e18]; rfl
      clear HM
      have key : (decide (m.Kind < 1) = true ∨ (decide (m.Kind < 1) = false ∧ decide (3 < m.Kind) = true) ∨ (decide (m.Kind < 1) = false ∧ decide (3 < m.Kind) = false ∧ decide (m.Num < 0) = true) ∨ (decide (m.Kind < 1) = false ∧ decide (3 < m.Kind) = false ∧ decide (m.Num < 0) = false ∧ decide (0 < m.Num) = true ∧ (m.Kind != 1) = true)) ∨
          ((decide (m.Kind < 1) = false ∧ decide (3 < m.Kind) = false ∧ decide (m.Num < 0) = false) ∧ (decide (0 < m.Num) = false ∨ (decide (0 < m.Num) = true ∧ (m.Kind != 1) = false))) := by
        simp only [decide_eq_true_eq, decide_eq_false_iff_not, bne_iff_ne, bne_eq_false_iff_eq, ne_eq]
        omega
      rcases key with key | ⟨⟨e1, e2, e3⟩, key⟩
      · have HF : Hid (res = false) := by
          show _ = _
          rw [HM2.out]
          simp only [decide_eq_true_eq, decide_eq_false_iff_not, bne_iff_ne, bne_eq_false_iff_eq, ne_eq] at key
          rcases key with h | h | h | h
          · rw [show decide (1 ≤ m.Kind) = false from decide_eq_false (by omega)]; rfl
          · rw [show decide (m.Kind ≤ 3) = false from decide_eq_false (by omega)]; simp
          · rw [show decide (0 ≤ m.Num) = false from decide_eq_false (by omega)]; simp
          · rw [show decide (m.Num = 0) = false from decide_eq_false (by omega), show decide (m.Kind = 1) = false from decide_eq_false (by omega)]; simp
        clear HM2 HA
        rcases key with e1 | ⟨e1, e2⟩ | ⟨e1, e2, e3⟩ | ⟨e1, e2, e3, e4, e5⟩
        all_goals
          go_enter Tryd.func128, Tryd.ntmps128
          go_upto_region 1 with fail
          rw [← hw1]
          clear hw1
          go_wp2_with (first
            | (with_reducible refine ldC rfl rfl rfl (HRW.out _ HB0.out) hsC ?_)
            | (go_at_call 127; (with_reducible refine (HV.out _ HB0.out).mono ?_); rintro e w2 ⟨rfl, hb2⟩; have HB2 := Lib.hid hb2; clear hb2; obtain ⟨n0, n1, n2, n3, nM, n8, nC⟩ := HCL.out _ HB2.out; obtain ⟨y0, yl⟩ := HY.out _ HB2.out))
          go_ret
          exact ⟨by rw [HF.out]; rfl, (HCE.out _ HB2.out).2.2.2.2.2.1⟩
      · have HM3 : Hid (res = (decide (nV ≤ 100) && ba)) := by
          show _ = _
          simp only [decide_eq_true_eq, decide_eq_false_iff_not, bne_iff_ne, bne_eq_false_iff_eq, ne_eq] at key e1 e2 e3
          rw [HM2.out, show decide (1 ≤ m.Kind) = true from decide_eq_true (by omega), show decide (m.Kind ≤ 3) = true from decide_eq_true (by omega), show decide (0 ≤ m.Num) = true from decide_eq_true (by omega)]
          rw [show (decide (m.Num = 0) || decide (m.Kind = 1)) = true by simp only [Bool.or_eq_true, decide_eq_true_eq]; omega]
          simp
        clear HM2
        by_cases h100 : nV ≤ 100
        · have d1 : decide ((nV : Int) ≤ 100) = true := decide_eq_true (by omega)
          have d2 : decide (nV ≤ 100) = true := decide_eq_true h100
          have HF : Hid (res = ba) := by show _ = _; rw [HM3.out, d2]; rfl
          clear HM3 h100
          rcases key with e4 | ⟨e4, e5⟩
          all_goals
            go_enter Tryd.func128, Tryd.ntmps128
            go_upto_region 1 with fail
            rw [← hw1]
            clear hw1
            go_wp2_with (first
              | (with_reducible refine ldC rfl rfl rfl (HRW.out _ HB0.out) hsC ?_)
              | (go_at_call 127; (with_reducible refine (HV.out _ HB0.out).mono ?_); rintro e w2 ⟨rfl, hb2⟩; have HB2 := Lib.hid hb2; clear hb2; obtain ⟨n0, n1, n2, n3, nM, n8, nC⟩ := HCL.out _ HB2.out; obtain ⟨y0, yl⟩ := HY.out _ HB2.out)
              | (with_reducible refine ldC rfl rfl rfl (HRW.out _ HB2.out) hsC ?_)
              | (go_at_call 126; (with_reducible refine (HA.out _ HB2.out).mono ?_); rintro e w3 ⟨rfl, hb3⟩; have HB3 := Lib.hid hb3; clear hb3))
            go_ret
            exact ⟨by rw [HF.out]; rfl, (HCE.out _ HB3.out).2.2.2.2.2.1⟩
        · have d1 : decide ((nV : Int) ≤ 100) = false := decide_eq_false (by omega)
          have d2 : decide (nV ≤ 100) = false := decide_eq_false h100
          have HF : Hid (res = false) := by show _ = _; rw [HM3.out, d2]; rfl
          clear HM3 h100 HA
          rcases key with e4 | ⟨e4, e5⟩
          all_goals
            go_enter Tryd.func128, Tryd.ntmps128
            go_upto_region 1 with fail
            rw [← hw1]
            clear hw1
            go_wp2_with (first
              | (with_reducible refine ldC rfl rfl rfl (HRW.out _ HB0.out) hsC ?_)
              | (go_at_call 127; (with_reducible refine (HV.out _ HB0.out).mono ?_); rintro e w2 ⟨rfl, hb2⟩; have HB2 := Lib.hid hb2; clear hb2; obtain ⟨n0, n1, n2, n3, nM, n8, nC⟩ := HCL.out _ HB2.out; obtain ⟨y0, yl⟩ := HY.out _ HB2.out))
            go_ret
            exact ⟨by rw [HF.out]; rfl, (HCE.out _ HB2.out).2.2.2.2.2.1⟩
end Go.Proofs.YtekofpigmggbbaaDoor.chk
