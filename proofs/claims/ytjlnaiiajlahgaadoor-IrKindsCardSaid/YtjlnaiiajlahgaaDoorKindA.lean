/- ir.own, ir.Kind: walked. -/
import Derived.Test.YtjlnaiiajlahgaaDoorKindPlain
import Derived.Test.YtjlnaiiajlahgaaDoorChkE
set_option linter.unusedVariables false
set_option linter.unusedSimpArgs false
namespace Go.Proofs.YtjlnaiiajlahgaaDoor.chk
open Go.Bk Go.RowKit Go.Proofs.YtjlnaiiajlahgaaDoor.ir

theorem tins_all {S : Nat → Prop} {w : World} {b o : Nat} {xs : List Api.TIns} (h : Arr S w (some ⟨b, o, none⟩) xs) {k : Nat} {x : Api.TIns} (hk : xs[k]? = some x) :
    w.cell? ⟨b, o + k * 8, none⟩ = some (.int .i64 x.Op) ∧ w.cell? ⟨b, o + k * 8 + 1, none⟩ = some (.int .i64 x.A) ∧ w.cell? ⟨b, o + k * 8 + 2, none⟩ = some (.int .i64 x.B) ∧ w.cell? ⟨b, o + k * 8 + 3, none⟩ = some (.int .i64 x.C) ∧ w.cell? ⟨b, o + k * 8 + 4, none⟩ = some (.int .i64 x.N) ∧ w.cell? ⟨b, o + k * 8 + 5, none⟩ = some (.int .i64 x.Exit) ∧ w.cell? ⟨b, o + k * 8 + 6, none⟩ = some (.int .i64 x.K.Kind) ∧ w.cell? ⟨b, o + k * 8 + 7, none⟩ = some (.int .i64 x.K.N) := by
  obtain ⟨b2, o2, he, -, h0, h1, h2, h3, h4, h5, h6, h7, -⟩ := api_TIns_elem h hk
  injection he with he
  injection he with e1 e2
  subst e1 e2
  exact ⟨h0, h1, h2, h3, h4, h5, h6, h7⟩
set_option maxRecDepth 100000 in
set_option maxHeartbeats 1000000 in
theorem own_any {S : Nat → Prop} {w : World} {T : Array Value} {t : Api.TTrace} {k : Nat} {x : Api.TIns} {r : Int} (ht : Rep.cells S w T.toList t) (hS : ∀ b, S b → b < w.heap.size) (hx : t.Ins[k]? = some x)
    (hr : ∀ W, Below w.heap.size w W → Calls Tryd.prog 15 #[.agg T, .int .i64 x.A, .int .i64 k] W fun e w' => e = .returned (.int .i64 r) ∧ Below W.heap.size W w') :
    Calls Tryd.prog 44 #[.agg T, .int .i64 k] w fun e w' => e = .returned (.int .i64 (ownK r x)) ∧ Below w.heap.size w w' := by
  obtain ⟨aI, nI, cI, hT⟩ := tin_of ht
  have hsT := hT.size
  have hlI : (k : Int) < (nI : Int) := by have := (List.getElem?_eq_some_iff.1 hx).1; rw [hT.len] at this; omega
  obtain ⟨w1, hw1⟩ : ∃ w1, w1 = w.alloc (.cells T 29) := ⟨_, rfl⟩
  have hb1 : Below w.heap.size w w1 := by rw [hw1]; exact cod.below_al2 _
  have r1 := row_new w T 29
  rw [← hw1] at r1
  obtain ⟨bi, oi, he, hSi⟩ : ∃ bi oi, aI = some ⟨bi, oi, none⟩ ∧ S bi := by
    obtain ⟨b, o, h1, h2, -⟩ := api_TIns_elem hT.ins hx
    exact ⟨b, o, h1, h2⟩
  subst he
  obtain ⟨i0, i1, i2, i3, i4, i5, i6, i7⟩ := tins_all (hT.ins.keep (w' := w1) fun b hb => hb1.block b (hS b hb)) hx
  have hbi : bi < w1.heap.size := Nat.lt_of_lt_of_le (hS bi hSi) hb1.size
  obtain ⟨op, iA, iB, iC, iN, iE, ⟨kK, kN⟩⟩ := x
  dsimp only at i0 i1 i2 i3 i4 i5 i6 i7 hr
  obtain ⟨w2, hw2⟩ : ∃ w2, w2 = w1.alloc (.cells #[.int .i64 op, .int .i64 iA, .int .i64 iB, .int .i64 iC, .int .i64 iN, .int .i64 iE, .int .i64 kK, .int .i64 kN] 66) := ⟨_, rfl⟩
  have h12 : Below w1.heap.size w1 w2 := by rw [hw2]; exact cod.below_al2 _
  have r2 := row_new w1 #[.int .i64 op, .int .i64 iA, .int .i64 iB, .int .i64 iC, .int .i64 iN, .int .i64 iE, .int .i64 kK, .int .i64 kN] 66
  rw [← hw2] at r2
  have HB2 : Hid (Below w.heap.size w w2) := hb1.trans (h12.mono hb1.size)
  have HRT : Hid (Row w2 w.heap.size 29 T) := r1.keep (h12.block _ r1.lt)
  have HKR : Hid (Calls Tryd.prog 15 #[.agg T, .int .i64 iA, .int .i64 k] w2 fun e w' => e = .returned (.int .i64 r) ∧ Below w.heap.size w w') := (hr w2 HB2.out).mono fun e w' ⟨he, hb⟩ => ⟨he, HB2.out.trans (hb.mono HB2.out.size)⟩
  have q3 := r1.cell hT.c3
  have l1 := r1.lt
  have z0 := r2.cell (j := 0) rfl; have z1 := r2.cell (j := 1) rfl; have z4 := r2.cell (j := 4) rfl; have z6 := r2.cell (j := 6) rfl
  have l2 := r2.lt
  clear ht hS hx hr hT hb1 r1 hSi h12 r2
  go_enter Tryd.func44, Tryd.ntmps44
  go_upto_region 1 with fail
  rw [← hw1]
  clear hw1
  go_upto_region 2 with fail
  rw [← hw2]
  clear hw2 q3 l1 i0 i1 i2 i3 i4 i5 i6 i7 hbi
  generalize w1.heap.size = gI at z0 z1 z4 z6 l2 ⊢
  have HO : Hid (ownK r ⟨op, iA, iB, iC, iN, iE, ⟨kK, kN⟩⟩ = if op = 2 then kK
  else if op = 15 then 2
  else if op = 16 ∨ op = 18 then 5
  else if op = 7 ∨ op = 8 then
    if (8 ≤ iN ∧ iN ≤ 10 ∧ op = 7) ∨ (iN = 11 ∧ op = 8) then 1
    else if r = 2 ∨ r = 3 then r
    else -1
  else -1) := rfl
  obtain ⟨res, hres⟩ : ∃ q, q = ownK r ⟨op, iA, iB, iC, iN, iE, ⟨kK, kN⟩⟩ := ⟨_, rfl⟩
  have HRS := Lib.hid hres.symm
  rw [← hres] at HO
  clear hres
  by_cases o2 : op = 2
  · have HF : Hid (res = kK) := by show _ = _; rw [HO.out, if_pos o2]
    subst o2
    go_wp2_with fail
    go_ret
    exact ⟨by rw [HRS.out, HF.out]; rfl, HB2.out⟩
  have n2 : (op == 2) = false := by simpa using o2
  by_cases o15 : op = 15
  · have HF : Hid (res = 2) := by show _ = _; rw [HO.out, if_neg o2, if_pos o15]
    subst o15
    go_wp2_with fail
    go_ret
    exact ⟨by rw [HRS.out, HF.out]; rfl, HB2.out⟩
  have n15 : (op == 15) = false := by simpa using o15
  by_cases o16 : op = 16 ∨ op = 18
  · have HF : Hid (res = 5) := by show _ = _; rw [HO.out, if_neg o2, if_neg o15, if_pos o16]
    rcases o16 with rfl | rfl
    all_goals
      go_wp2_with fail
      go_ret
      exact ⟨by rw [HRS.out, HF.out]; rfl, HB2.out⟩
  have n16 : (op == 16) = false := by simp; omega
  have n18 : (op == 18) = false := by simp; omega
  by_cases o7 : op = 7 ∨ op = 8
  · have HO2 : Hid (res = if (8 ≤ iN ∧ iN ≤ 10 ∧ op = 7) ∨ (iN = 11 ∧ op = 8) then 1 else if r = 2 ∨ r = 3 then r else -1) := by show _ = _; rw [HO.out, if_neg o2, if_neg o15, if_neg o16, if_pos o7]
    clear HO n2 n15 n16 n18
    -- where the test says no
    have HNO : Hid (¬ ((8 ≤ iN ∧ iN ≤ 10 ∧ op = 7) ∨ (iN = 11 ∧ op = 8)) → res = if r = 2 ∨ r = 3 then r else -1) := fun h => by rw [HO2.out, if_neg h]
    have HYES : Hid (((8 ≤ iN ∧ iN ≤ 10 ∧ op = 7) ∨ (iN = 11 ∧ op = 8)) → res = 1) := fun h => by rw [HO2.out, if_pos h]
    have key : ((op = 7 ∧ decide (8 ≤ iN) = true ∧ decide (iN ≤ 10) = true) ∨ (op = 8 ∧ (iN == 11) = true ∧ decide (8 ≤ iN) = true ∧ decide (iN ≤ 10) = false)) ∨
        ((op = 7 ∧ decide (8 ≤ iN) = false ∧ (iN == 11) = false) ∨ (op = 7 ∧ decide (8 ≤ iN) = true ∧ decide (iN ≤ 10) = false ∧ (iN == 11) = false) ∨ (op = 7 ∧ decide (8 ≤ iN) = true ∧ decide (iN ≤ 10) = false ∧ (iN == 11) = true) ∨
         (op = 8 ∧ decide (8 ≤ iN) = false ∧ (iN == 11) = false) ∨ (op = 8 ∧ decide (8 ≤ iN) = true ∧ decide (iN ≤ 10) = false ∧ (iN == 11) = false) ∨ (op = 8 ∧ decide (8 ≤ iN) = true ∧ decide (iN ≤ 10) = true ∧ (iN == 11) = false)) := by
      simp only [decide_eq_true_eq, decide_eq_false_iff_not, beq_iff_eq, beq_eq_false_iff_ne, ne_eq]
      omega
    rcases key with hy | hn
    · have HF : Hid (res = 1) := by
        refine HYES.out ?_
        simp only [decide_eq_true_eq, decide_eq_false_iff_not, beq_iff_eq, beq_eq_false_iff_ne, ne_eq] at hy
        omega
      clear HYES HNO HO2 o7 o2 o15 o16
      rcases hy with ⟨rfl, e1, e2⟩ | ⟨rfl, e0, e1, e2⟩
      all_goals
        go_wp2_with fail
        go_ret
        exact ⟨by rw [HRS.out, HF.out]; rfl, HB2.out⟩
    · have HF : Hid (res = if r = 2 ∨ r = 3 then r else -1) := by
        refine HNO.out ?_
        simp only [decide_eq_true_eq, decide_eq_false_iff_not, beq_iff_eq, beq_eq_false_iff_ne, ne_eq] at hn
        omega
      clear HYES HNO HO2 o7 o2 o15 o16
      have hr3 : (r = 2) ∨ ((r == 2) = false ∧ r = 3) ∨ ((r == 2) = false ∧ (r == 3) = false) := by
        simp only [beq_eq_false_iff_ne, ne_eq]
        omega
      rcases hr3 with rfl | ⟨q1, rfl⟩ | ⟨q1, q2⟩
      · have HF2 : Hid (res = 2) := by show _ = _; rw [HF.out]; rfl
        rcases hn with ⟨rfl, e1, e2⟩ | ⟨rfl, e1, e2, e3⟩ | ⟨rfl, e1, e2, e3⟩ | ⟨rfl, e1, e2⟩ | ⟨rfl, e1, e2, e3⟩ | ⟨rfl, e1, e2, e3⟩
        all_goals
          go_wp2_with (first
            | (with_reducible refine ldT rfl rfl rfl HRT.out hsT ?_)
            | (go_at_call 15; (with_reducible refine HKR.out.mono ?_); rintro e w3 ⟨rfl, hb3⟩; have HB3 := Lib.hid hb3; clear hb3))
          go_ret
          exact ⟨by rw [HRS.out, HF2.out]; rfl, HB3.out⟩
      · have HF2 : Hid (res = 3) := by show _ = _; rw [HF.out]; rfl
        rcases hn with ⟨rfl, e1, e2⟩ | ⟨rfl, e1, e2, e3⟩ | ⟨rfl, e1, e2, e3⟩ | ⟨rfl, e1, e2⟩ | ⟨rfl, e1, e2, e3⟩ | ⟨rfl, e1, e2, e3⟩
        all_goals
          go_wp2_with (first
            | (with_reducible refine ldT rfl rfl rfl HRT.out hsT ?_)
            | (go_at_call 15; (with_reducible refine HKR.out.mono ?_); rintro e w3 ⟨rfl, hb3⟩; have HB3 := Lib.hid hb3; clear hb3))
          go_ret
          exact ⟨by rw [HRS.out, HF2.out]; rfl, HB3.out⟩
      · have HF2 : Hid (res = -1) := by
          show _ = _
          rw [HF.out, if_neg (by simp only [beq_eq_false_iff_ne, ne_eq] at q1 q2; omega)]
        rcases hn with ⟨rfl, e1, e2⟩ | ⟨rfl, e1, e2, e3⟩ | ⟨rfl, e1, e2, e3⟩ | ⟨rfl, e1, e2⟩ | ⟨rfl, e1, e2, e3⟩ | ⟨rfl, e1, e2, e3⟩
        all_goals
          go_wp2_with (first
            | (with_reducible refine ldT rfl rfl rfl HRT.out hsT ?_)
            | (go_at_call 15; (with_reducible refine HKR.out.mono ?_); rintro e w3 ⟨rfl, hb3⟩; have HB3 := Lib.hid hb3; clear hb3))
          go_ret
          exact ⟨by rw [HRS.out, HF2.out]; rfl, HB3.out⟩
  · have HF : Hid (res = -1) := by show _ = _; rw [HO.out, if_neg o2, if_neg o15, if_neg o16, if_neg o7]
    have n7 : (op == 7) = false := by simp; omega
    have n8 : (op == 8) = false := by simp; omega
    clear HO o2 o15 o16 o7
    go_wp2_with fail
    go_ret
    exact ⟨by rw [HRS.out, HF.out]; rfl, HB2.out⟩
end Go.Proofs.YtjlnaiiajlahgaaDoor.chk
