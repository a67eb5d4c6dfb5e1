/- The document's said, whole: walked. -/
import Derived.Test.YtiiekmipcjpheaaDoorFctD
set_option linter.unusedVariables false
set_option linter.unusedSimpArgs false
namespace Go.Proofs.YtiiekmipcjpheaaDoor.fct
open Go.Bk Go.RowKit Go.Proofs.YtiiekmipcjpheaaDoor.ir Go.Proofs.YtiiekmipcjpheaaDoor.chk Go.Proofs.YtiiekmipcjpheaaDoor.cut
attribute [local go_sem ↓] Go.wp_at_zero Go.wp_at_succ

/-- What is known behind the boxes of a trace, a number, an instruction. -/
structure FR (S : Nat → Prop) (w : World) (T : Array Value) (t : Api.TTrace) (x : Api.TIns) (aI : Option Addr) (i : Nat) (W : World) : Prop where
  rt : Row W w.heap.size 34 T
  ri : W.cell? ⟨w.heap.size + 1, 0, none⟩ = some (.int .i64 i)
  lr : w.heap.size + 1 < W.heap.size
  rx : Row W (w.heap.size + 2) 48 #[.int .i64 x.Op, .int .i64 x.A, .int .i64 x.B, .int .i64 x.C, .int .i64 x.N, .int .i64 x.Exit, .int .i64 x.K.Kind, .int .i64 x.K.N]
  rep : Rep.cells S W T.toList t
  dom : ∀ b, S b → b < W.heap.size
  ins : Arr S W aI t.Ins
  below : Below w.heap.size w W
theorem FR.call {S : Nat → Prop} {w W W' : World} {T : Array Value} {t : Api.TTrace} {x : Api.TIns} {aI : Option Addr} {i : Nat} (h : FR S w T t x aI i W) (hb : Below W.heap.size W W') : FR S w T t x aI i W' :=
  have hk : ∀ b, S b → W'.heap[b]? = W.heap[b]? := fun b hb' => hb.block b (h.dom b hb')
  ⟨h.rt.keep (hb.block _ h.rt.lt), (hb.cell (p := ⟨w.heap.size + 1, 0, none⟩) h.lr).trans h.ri, Nat.lt_of_lt_of_le h.lr hb.size, h.rx.keep (hb.block _ h.rx.lt), Rep.keep hk h.rep, fun b hb' => Nat.lt_of_lt_of_le (h.dom b hb') hb.size, h.ins.keep hk, h.below.trans (hb.mono h.below.size)⟩
/-- What the first k tell of the shape. -/
def isS (t : Api.TTrace) (x : Api.TIns) (lo k : Nat) : Bool := (lastS t.Ins x lo k).getD false
set_option maxRecDepth 100000 in
set_option maxHeartbeats 4000000 in
theorem rsaid_any {S : Nat → Prop} {w : World} {T : Array Value} {t : Api.TTrace} (ht : Rep.cells S w T.toList t) (hS : ∀ b, S b → b < w.heap.size) (hr : RightT t) (hkd : KindsR t.Ins) {i : Nat} {x : Api.TIns} (hx : t.Ins[i]? = some x) :
    Calls Tryd.prog 79 #[.agg T, .int .i64 i] w fun e w' => e = .returned (.bool (saidB t i x)) ∧ Below w.heap.size w w' := by
  obtain ⟨aI, nI, cI, hT, hcap⟩ := tcap_of ht
  have hI9 := hT.few
  have hsT := hT.size
  have hi : i < nI := by rw [← hT.len]; exact (List.getElem?_eq_some_iff.1 hx).1
  obtain ⟨lp, hlp⟩ : ∃ lp : Nat, t.Loop = lp := ⟨t.Loop.toNat, by have := hr.loop.1; omega⟩
  have hln : lp ≤ nI := by rw [← hT.len]; have := hr.loop.2; omega
  obtain ⟨w1, hw1⟩ : ∃ w1, w1 = (w.alloc (.cells T 34)).alloc (.cells #[.int .i64 (i : Int)] 3) := ⟨_, rfl⟩
  obtain ⟨w2, hw2⟩ : ∃ w2, w2 = w1.alloc (.cells #[.int .i64 x.Op, .int .i64 x.A, .int .i64 x.B, .int .i64 x.C, .int .i64 x.N, .int .i64 x.Exit, .int .i64 x.K.Kind, .int .i64 x.K.N] 48) := ⟨_, rfl⟩
  obtain ⟨r1, r2, r3, hb2⟩ := rows3 w T #[.int .i64 (i : Int)] #[.int .i64 x.Op, .int .i64 x.A, .int .i64 x.B, .int .i64 x.C, .int .i64 x.N, .int .i64 x.Exit, .int .i64 x.K.Kind, .int .i64 x.K.N] _ _ _ w2 (by rw [hw2, hw1])
  obtain ⟨q1, q2, hb1, hz1⟩ := rows2 w T #[.int .i64 (i : Int)] _ _ w1 hw1
  have hk1 : ∀ b, S b → w1.heap[b]? = w.heap[b]? := fun b hb' => hb1.block b (hS b hb')
  have hk2 : ∀ b, S b → w2.heap[b]? = w.heap[b]? := fun b hb' => hb2.block b (hS b hb')
  have hfr : FR S w T t x aI i w2 := ⟨r1, r2.cell rfl, r2.lt, r3, Rep.keep hk2 ht, fun b hb' => Nat.lt_of_lt_of_le (hS b hb') hb2.size, hT.ins.keep hk2, hb2⟩
  have HFR := Lib.hid hfr
  have HB0 : Hid (Below w2.heap.size w2 w2) := Below.refl _ _
  have HC3 := Lib.hid hT.c3; have HLI := Lib.hid hT.len; have HLP := Lib.hid hlp
  have HC2 : Hid (T.toList[2]? = some (.int .i64 lp)) := by show _ = _; rw [← hlp]; exact loop_cell ht
  have HX := Lib.hid hx
  have HZ1 : Hid (w1.heap.size = w.heap.size + 2) := hz1
  obtain ⟨tw, htw⟩ : ∃ b, b = twinB t.Ins i x := ⟨_, rfl⟩
  have HAH : Hid (Calls Tryd.prog 119 #[.func (.func 120) #[] #[.pointer (some ⟨w.heap.size + 2, 0, none⟩)], .pointer (some ⟨w.heap.size + 1, 0, none⟩), .pointer (some ⟨w.heap.size, 0, none⟩)] w2 fun e w' => e = .returned (.bool tw) ∧ Below w2.heap.size w2 w') := by
    rw [htw]
    exact rahead_any hfr.ri hfr.lr hfr.rt hfr.rep hfr.dom hfr.rx (by rw [hT.len]; omega)
  obtain ⟨k, hk⟩ : ∃ k, k = kd t x.A i := ⟨_, rfl⟩
  have HKL : Hid (k ≤ 6) := by show _ ≤ _; rw [hk]; exact kind_le hkd _ _ _
  have HKD : Hid (∀ W, Below w2.heap.size w2 W → Calls Tryd.prog 121 #[.agg T, .int .i64 x.A, .int .i64 i] W fun e w' => e = .returned (.int .i64 k) ∧ Below W.heap.size W w') := fun W hb => by
    rw [hk, ← kd_same hkd]
    exact rkind_any _ S _ T t (hfr.call hb).rep (hfr.call hb).dom x.A i (Or.inl (by omega))
  obtain ⟨m, hm3, hmk, htk, hml⟩ := cut.asks_nat x
  have HVA : Hid (∀ W, Calls Tryd.prog 38 #[.int .i64 x.Op] W fun e w' => e = .returned (.int .i64 (m : Int)) ∧ Below W.heap.size W w') := fun W => by have := values_any W x.Op; rwa [hmk] at this
  have HMK := Lib.hid hmk
  obtain ⟨lo, hlo⟩ : ∃ lo, lo = fromP t i := ⟨_, rfl⟩
  obtain ⟨g, hg⟩ : ∃ g, g = growsB t := ⟨_, rfl⟩
  have HG := Lib.hid hg
  have HLO : Hid (lo = if lp ≤ i ∧ g = true then lp else 0) := by
    show _ = _
    rw [hlo, hg]
    unfold fromP
    rw [hlp]
    simp only [Int.toNat_natCast, Int.ofNat_le]
  obtain ⟨sh, hsh⟩ : ∃ b, b = shapedB t i x := ⟨_, rfl⟩
  have HSHB : Hid (sh = isS t x lo i) := by show _ = _; rw [hsh, hlo]; rfl
  obtain ⟨r, hr'⟩ : ∃ r, r = saidB t i x := ⟨_, rfl⟩
  rw [← hr']
  have HRR : Hid (r = if x.Op = 4 then decide (k = x.N)
    else if x.Op = 5 then truthB k x tw
    else if x.Op = 6 ∨ x.Op = 19 then tw
    else if x.Op = 9 then (if x.N = 1 then sh else tw || newB t.Ins x)
    else false) := by show _ = _; rw [hr', hk, htw, hsh]; rfl
  have HAS : Hid (x.Op = 9 → ∃ (j : Nat) (y : Api.TIns), x.A = j ∧ j < nI ∧ t.Ins[j]? = some y ∧ newB t.Ins x = ((y.Op == 16) && (y.N == x.N))) := fun h9 => by
    have hin : x.A ∈ asksOf x := by
      unfold asksOf
      rw [h9]
      simp [formOf]
    obtain ⟨j, y, h1, h2, h3, -⟩ := valAt_iff.1 (hr.asks i x hx x.A hin)
    refine ⟨j, y, h1, by rw [← hT.len]; exact (List.getElem?_eq_some_iff.1 h3).1, h3, ?_⟩
    unfold newB
    rw [h1, Int.toNat_natCast, h3]
    dsimp only
    rw [Bool.eq_iff_iff]
    simp
  obtain ⟨a9, ha9⟩ : ∃ a9, a9 = (if cI = lp then aI else aI.map (·.add (lp * 8))) := ⟨_, rfl⟩
  have hsl : ∀ W : World, (Instr.slice 27 (.slice aI nI cI) (some (.int .i64 (lp : Int))) none none).run Tryd.prog W = .ok (.slice a9 (nI - lp) (cI - lp)) W := fun W => by rw [ha9]; exact run_slice_tail (P := Tryd.prog) Tryd.underlying27 (z := 8) (by kernel_rfl) aI nI cI lp hln hcap W
  have HA9 : Hid (∀ W, Below w2.heap.size w2 W → Arr S W a9 (t.Ins.drop lp)) := fun W hb => by rw [ha9]; exact Arr.from (hfr.call hb).ins cI lp (by rw [HLI.out]; exact hln) (by rw [HLI.out]; exact hcap)
  have HEND : Hid (∀ W, Below w2.heap.size w2 W → Below w.heap.size w W) := fun W hb => HFR.out.below.trans (hb.mono HFR.out.below.size)
  have ri1 := q2.cell (j := 0) rfl
  have li1 := q2.lt
  have t31 := q1.cell hT.c3
  have lT1 := q1.lt
  obtain ⟨bi, oi, haI, hSi, i0, i1, i2, i3, i4, i5, i6, i7, -⟩ := api_TIns_elem (hT.ins.keep hk1) hx
  have hbi : bi < w1.heap.size := Nat.lt_of_lt_of_le (hS bi hSi) hb1.size
  have hii : (i : Int) < (nI : Int) := by omega
  rw [haI] at t31
  have HAI := Lib.hid haI
  clear hr' hk htw hsh hlo hg hT hS ht hx hr hkd hb1 hb2 hk1 hk2 q1 q2 r1 r2 r3 hfr hmk htk hml hlp ha9 hSi haI hz1
  go_enter Tryd.func79, Tryd.ntmps79
  go_upto_region 1 with fail
  rw [← hw1]
  clear hw1
  go_upto_region 2 with fail
  rw [← hw2, HZ1.out]
  clear hw2 ri1 li1 t31 lT1 i0 i1 i2 i3 i4 i5 i6 i7 hbi
  go_upto_region 5 with (go_at_call 119; (with_reducible refine HAH.out.mono ?_); rintro e w3 ⟨rfl, hb3⟩; have HB3 := Lib.hid hb3; clear hb3)
  have x0 := (HFR.out.call HB3.out).rx.cell (j := 0) rfl; have x1 := (HFR.out.call HB3.out).rx.cell (j := 1) rfl; have x2 := (HFR.out.call HB3.out).rx.cell (j := 2) rfl; have x4 := (HFR.out.call HB3.out).rx.cell (j := 4) rfl
  have lx := (HFR.out.call HB3.out).rx.lt; have ri := (HFR.out.call HB3.out).ri; have t3 := (HFR.out.call HB3.out).rt.cell HC3.out; have t2 := (HFR.out.call HB3.out).rt.cell HC2.out; have lT := (HFR.out.call HB3.out).rt.lt; have HRT := Lib.hid (HFR.out.call HB3.out).rt
  go_upto_if 27 with (go_at_call 38; (with_reducible refine (HVA.out _).mono ?_); rintro e w4 ⟨rfl, hb4⟩; have HB4 := Lib.hid (HB3.out.trans (hb4.mono HB3.out.size)); clear hb4)
  clear x0 x1 x2 x4 lx ri t3 t2 lT HRT
  have x0 := (HFR.out.call HB4.out).rx.cell (j := 0) rfl; have x1 := (HFR.out.call HB4.out).rx.cell (j := 1) rfl; have x2 := (HFR.out.call HB4.out).rx.cell (j := 2) rfl; have x4 := (HFR.out.call HB4.out).rx.cell (j := 4) rfl
  have lx := (HFR.out.call HB4.out).rx.lt; have ri := (HFR.out.call HB4.out).ri; have t3 := (HFR.out.call HB4.out).rt.cell HC3.out; have t2 := (HFR.out.call HB4.out).rt.cell HC2.out; have lT := (HFR.out.call HB4.out).rt.lt; have HRT := Lib.hid (HFR.out.call HB4.out).rt
  obtain ⟨kk, hkk⟩ : ∃ kk, kk = if 0 < m then k else -1 := ⟨_, rfl⟩
  have HKK := Lib.hid hkk
  clear hkk
  go_cut [8] (fun s8 W => s8 = .int .i64 kk ∧ Below w2.heap.size w2 W)
  case first =>
    as_aux_lemma =>
      by_cases hm0 : 0 < m
      · have d0 : decide ((0 : Int) < (m : Int)) = true := decide_eq_true (by omega)
        have d0' : decide (0 < m) = true := decide_eq_true hm0
        have HK2 : Hid (kk = k) := by show _ = _; rw [HKK.out, if_pos hm0]
        clear hm0
        go_wp2_with (first
          | (with_reducible refine ldT rfl rfl rfl HRT.out hsT ?_)
          | (go_at_call 121; (with_reducible refine (HKD.out _ HB4.out).mono ?_); rintro e w5 ⟨rfl, hb5⟩; have HB5 := Lib.hid (HB4.out.trans (hb5.mono HB4.out.size)); clear hb5))
        all_goals first
          | (exfalso; have hh := of_decide_eq_true d0'; omega)
          | (go_meet; exact ⟨by rw [HK2.out], HB5.out⟩)
      · have d0 : decide ((0 : Int) < (m : Int)) = false := decide_eq_false (by omega)
        have d0' : decide (0 < m) = false := decide_eq_false hm0
        have HK2 : Hid (kk = -1) := by show _ = _; rw [HKK.out, if_neg hm0]
        clear hm0
        go_wp2_with fail
        all_goals first
          | (exfalso; have hh := of_decide_eq_false d0'; omega)
          | (go_meet; exact ⟨by rw [HK2.out], HB4.out⟩)
  case rest =>
    obtain ⟨rfl, hb5⟩ := hcut
    obtain ⟨w5, hw5⟩ : ∃ w5 : World, w5 = wc := ⟨_, rfl⟩
    rw [← hw5] at hb5 ⊢
    have HB5 := Lib.hid hb5
    clear hw5 hb5
    clear x0 x1 x2 x4 lx ri t3 t2 lT HRT
    have x0 := (HFR.out.call HB5.out).rx.cell (j := 0) rfl; have x1 := (HFR.out.call HB5.out).rx.cell (j := 1) rfl; have x2 := (HFR.out.call HB5.out).rx.cell (j := 2) rfl; have x4 := (HFR.out.call HB5.out).rx.cell (j := 4) rfl
    have lx := (HFR.out.call HB5.out).rx.lt; have ri := (HFR.out.call HB5.out).ri; have t3 := (HFR.out.call HB5.out).rt.cell HC3.out; have t2 := (HFR.out.call HB5.out).rt.cell HC2.out; have lT := (HFR.out.call HB5.out).rt.lt; have HRT := Lib.hid (HFR.out.call HB5.out).rt
    by_cases h4 : x.Op = 4
    · as_aux_lemma =>
        have ho := h4
        have hkk : kk = k := by rw [HKK.out, if_pos (by have := HMK.out; rw [h4] at this; have h5 : (formOf 4).1.asks = 1 := rfl; omega)]
        have HF : Hid (r = (kk == x.N)) := by show _ = _; rw [HRR.out, if_pos h4, hkk]; rfl
        clear hkk
        have o4 : (x.Op == 4) = true := by simp [ho]
        have o5 : (x.Op == 5) = false := by simp [ho]
        have o6 : (x.Op == 6) = false := by simp [ho]
        have o19 : (x.Op == 19) = false := by simp [ho]
        have o9 : (x.Op == 9) = false := by simp [ho]
        (try clear h4); (try clear h5); (try clear h6); (try clear h19); (try clear h9); (try clear ho)
        go_wp2_with fail
        go_ret
        exact ⟨by rw [HF.out]; rfl, HEND.out _ HB5.out⟩
    by_cases h5 : x.Op = 5
    · as_aux_lemma =>
        have ho := h5
        have hkk : kk = k := by rw [HKK.out, if_pos (by have := HMK.out; rw [h5] at this; have h5 : (formOf 5).1.asks = 1 := rfl; omega)]
        have HF5 : Hid (r = (((kk == 0) && (x.N == 0)) || ((decide (2 ≤ kk) && (x.N == 1)) || tw))) := by
          show _ = _
          rw [HRR.out, if_neg (by omega), if_pos h5, hkk]
          unfold truthB
          rw [show decide (k ≤ 6) = true from decide_eq_true HKL.out, Bool.true_and]
          rfl
        clear hkk
        have o4 : (x.Op == 4) = false := by simp [ho]
        have o5 : (x.Op == 5) = true := by simp [ho]
        have o6 : (x.Op == 6) = false := by simp [ho]
        have o19 : (x.Op == 19) = false := by simp [ho]
        have o9 : (x.Op == 9) = false := by simp [ho]
        (try clear h4); (try clear h5); (try clear h6); (try clear h19); (try clear h9); (try clear ho)
        cases tw with
        | true =>
          have HF : Hid (r = true) := by show _ = _; rw [HF5.out]; simp
          go_wp2_with fail
          go_ret
          exact ⟨by rw [HF.out]; rfl, HEND.out _ HB5.out⟩
        | false =>
          cases c0 : (kk == 0) with
          | true =>
            cases n0 : (x.N == 0) with
            | true =>
              have HF : Hid (r = true) := by show _ = _; rw [HF5.out, c0, n0]; rfl
              go_wp2_with fail
              go_ret
              exact ⟨by rw [HF.out]; rfl, HEND.out _ HB5.out⟩
            | false =>
              have c2 : decide (2 ≤ kk) = false := by rw [decide_eq_false_iff_not]; have := beq_iff_eq.1 c0; omega
              have HF : Hid (r = false) := by show _ = _; rw [HF5.out, c0, n0, c2]; rfl
              go_wp2_with fail
              go_ret
              exact ⟨by rw [HF.out]; rfl, HEND.out _ HB5.out⟩
          | false =>
            cases c2 : decide (2 ≤ kk) with
            | true =>
              cases n1 : (x.N == 1) with
              | true =>
                have HF : Hid (r = true) := by show _ = _; rw [HF5.out, c0, c2, n1]; rfl
                go_wp2_with fail
                all_goals first
                  | (exfalso; have hh := of_decide_eq_true c2; omega)
                  | (go_ret; exact ⟨by rw [HF.out]; rfl, HEND.out _ HB5.out⟩)
              | false =>
                have HF : Hid (r = false) := by show _ = _; rw [HF5.out, c0, c2, n1]; rfl
                go_wp2_with fail
                all_goals first
                  | (exfalso; have hh := of_decide_eq_true c2; omega)
                  | (go_ret; exact ⟨by rw [HF.out]; rfl, HEND.out _ HB5.out⟩)
            | false =>
              have HF : Hid (r = false) := by show _ = _; rw [HF5.out, c0, c2]; rfl
              go_wp2_with fail
              all_goals first
                | (exfalso; have hh := of_decide_eq_false c2; omega)
                | (go_ret; exact ⟨by rw [HF.out]; rfl, HEND.out _ HB5.out⟩)
    by_cases h6 : x.Op = 6
    · as_aux_lemma =>
        have ho := h6
        have o4 : (x.Op == 4) = false := by simp [ho]
        have o5 : (x.Op == 5) = false := by simp [ho]
        have o6 : (x.Op == 6) = true := by simp [ho]
        have o19 : (x.Op == 19) = false := by simp [ho]
        have o9 : (x.Op == 9) = false := by simp [ho]
        have HF : Hid (r = tw) := by show _ = _; rw [HRR.out]; rw [if_neg (by omega), if_neg (by omega), if_pos (.inl h6)]
        (try clear h4); (try clear h5); (try clear h6); (try clear h19); (try clear h9); (try clear ho)
        go_wp2_with fail
        go_ret
        exact ⟨by rw [HF.out]; rfl, HEND.out _ HB5.out⟩
    by_cases h19 : x.Op = 19
    · as_aux_lemma =>
        have ho := h19
        have o4 : (x.Op == 4) = false := by simp [ho]
        have o5 : (x.Op == 5) = false := by simp [ho]
        have o6 : (x.Op == 6) = false := by simp [ho]
        have o19 : (x.Op == 19) = true := by simp [ho]
        have o9 : (x.Op == 9) = false := by simp [ho]
        have HF : Hid (r = tw) := by show _ = _; rw [HRR.out]; rw [if_neg (by omega), if_neg (by omega), if_pos (.inr h19)]
        (try clear h4); (try clear h5); (try clear h6); (try clear h19); (try clear h9); (try clear ho)
        go_wp2_with fail
        go_ret
        exact ⟨by rw [HF.out]; rfl, HEND.out _ HB5.out⟩
    by_cases h9 : x.Op = 9
    · by_cases n1 : x.N = 1
      · as_aux_lemma =>
          have ho := h9
          have HF9 : Hid (r = sh) := by show _ = _; rw [HRR.out, if_neg (by omega), if_neg (by omega), if_neg (by omega), if_pos h9, if_pos n1]
          have o4 : (x.Op == 4) = false := by simp [ho]
          have o5 : (x.Op == 5) = false := by simp [ho]
          have o6 : (x.Op == 6) = false := by simp [ho]
          have o19 : (x.Op == 19) = false := by simp [ho]
          have o9 : (x.Op == 9) = true := by simp [ho]
          have d1 : (x.N != 1) = false := by simp [n1]
          clear n1
          (try clear h4); (try clear h5); (try clear h6); (try clear h19); (try clear h9); (try clear ho)
          go_upto_region 18 with fail
          clear x0 x1 x2 x4 lx ri t3 t2 lT HRT
          have x0 := (HFR.out.call HB5.out).rx.cell (j := 0) rfl; have x1 := (HFR.out.call HB5.out).rx.cell (j := 1) rfl; have x2 := (HFR.out.call HB5.out).rx.cell (j := 2) rfl; have x4 := (HFR.out.call HB5.out).rx.cell (j := 4) rfl
          have lx := (HFR.out.call HB5.out).rx.lt; have ri := (HFR.out.call HB5.out).ri; have t3 := (HFR.out.call HB5.out).rt.cell HC3.out; have t2 := (HFR.out.call HB5.out).rt.cell HC2.out; have lT := (HFR.out.call HB5.out).rt.lt; have HRT := Lib.hid (HFR.out.call HB5.out).rt
          go_upto_region 20 with fail
          clear x0 x1 x2 x4 lx ri t3 t2 lT HRT
          go_loopw [9, 100] (fun s9 s100 W => ∃ j : Nat, j ≤ nI - lp ∧ s9 = .bool (((t.Ins.drop lp).take j).any fun y => decide (y.Op = 12)) ∧ s100 = .int .i64 j ∧ Below w2.heap.size w2 W) (fun _ s100 _ => (nI - lp) - (intOf s100).toNat)
          case atStart => exact ⟨0, Nat.zero_le _, rfl, rfl, HB5.out⟩
          case round =>
            obtain ⟨j, hj, rfl, rfl, hbr⟩ := hrel
            have HBR := Lib.hid hbr
            by_cases hlt : j < nI - lp
            · as_aux_lemma =>
                obtain ⟨y, hy⟩ : ∃ y, (t.Ins.drop lp)[j]? = some y := ⟨_, List.getElem?_eq_getElem (by rw [List.length_drop, HLI.out]; exact hlt)⟩
                obtain ⟨bi, oi, ha9, hSi, i0, i1, i2, i3, i4, i5, i6, i7, -⟩ := api_TIns_elem (HA9.out wr hbr) hy
                have hbi := (HFR.out.call hbr).dom bi hSi
                obtain ⟨gk, hgk⟩ : ∃ b, b = (((t.Ins.drop lp).take j).any fun y => decide (y.Op = 12)) := ⟨_, rfl⟩
                have HNX : Hid ((((t.Ins.drop lp).take (j + 1)).any fun y => decide (y.Op = 12)) = (gk || (y.Op == 12))) := by
                  show _ = _
                  rw [hgk, List.take_add_one, hy, List.any_append]
                  simp
                  rfl
                rw [← hgk]
                subst ha9
                clear hy hSi hgk hbr
                cases gk with
                | true =>
                  go_upto_region 22 with fail
                  generalize hW6 : wr.alloc (.cells #[.int .i64 y.Op, .int .i64 y.A, .int .i64 y.B, .int .i64 y.C, .int .i64 y.N, .int .i64 y.Exit, .int .i64 y.K.Kind, .int .i64 y.K.N] 48) = w6
                  have HB6 : Hid (Below w2.heap.size w2 w6) := by rw [← hW6]; exact HBR.out.alloc HBR.out.size _
                  clear hW6 i0 i1 i2 i3 i4 i5 i6 i7
                  go_wp2_with fail
                  go_roundw
                  case rel => exact ⟨j + 1, by omega, by rw [HNX.out]; rfl, by go_num, HB6.out⟩
                  case measure => simp [intOf]; omega
                | false =>
                  go_upto_region 22 with fail
                  generalize hW6 : wr.alloc (.cells #[.int .i64 y.Op, .int .i64 y.A, .int .i64 y.B, .int .i64 y.C, .int .i64 y.N, .int .i64 y.Exit, .int .i64 y.K.Kind, .int .i64 y.K.N] 48) = w6
                  have HB6 : Hid (Below w2.heap.size w2 w6) := by rw [← hW6]; exact HBR.out.alloc HBR.out.size _
                  have ry : Row w6 wr.heap.size 48 #[.int .i64 y.Op, .int .i64 y.A, .int .i64 y.B, .int .i64 y.C, .int .i64 y.N, .int .i64 y.Exit, .int .i64 y.K.Kind, .int .i64 y.K.N] := by rw [← hW6]; exact row_new _ _ _
                  have y0 := ry.cell (j := 0) rfl
                  have ly := ry.lt
                  clear hW6 i0 i1 i2 i3 i4 i5 i6 i7 ry
                  go_wp2_with fail
                  go_roundw
                  case rel => exact ⟨j + 1, by omega, by rw [HNX.out]; rfl, by go_num, HB6.out⟩
                  case measure => simp [intOf]; omega
            · as_aux_lemma =>
                obtain rfl : j = nI - lp := by omega
                have hgg : (((t.Ins.drop lp).take (nI - lp)).any fun y => decide (y.Op = 12)) = g := by
                  rw [HG.out]
                  unfold growsB
                  rw [HLP.out, Int.toNat_natCast, List.take_of_length_le (by rw [List.length_drop, HLI.out]; omega)]
                rw [hgg]
                have hfb := HFR.out.call hbr
                have ri := hfb.ri
                have lr := hfb.lr
                clear hgg hlt hfb hbr
                go_wp2_with fail
                clear ri lr
                go_loopw [12, 112] (fun s12 s112 W => ∃ k : Nat, k ≤ i ∧ s12 = .bool (isS t x lo k) ∧ s112 = .int .i64 k ∧ Below w2.heap.size w2 W) (fun _ s112 _ => i - (intOf s112).toNat)
                case atStart => exact ⟨0, Nat.zero_le _, rfl, rfl, HBR.out⟩
                case round =>
                  obtain ⟨k, hk, rfl, rfl, hb6⟩ := hrel
                  have HB6 := Lib.hid hb6
                  by_cases hlt : k < i
                  · as_aux_lemma =>
                      have hfr := HFR.out.call hb6
                      have ri := hfr.ri; have t2 := hfr.rt.cell HC2.out; have lT := hfr.rt.lt; have lr := hfr.lr
                      obtain ⟨cn, hcn⟩ : ∃ b, b = decide (k < lo) := ⟨_, rfl⟩
                      have HCN := Lib.hid hcn
                      have HLOC := Lib.hid HLO.out
                      clear hfr hb6 hcn
                      go_upto_region 28 with fail
                      go_cut [127] (fun s127 W => s127 = .bool cn ∧ wr = W)
                      case first =>
                        as_aux_lemma =>
                          cases g with
                          | false =>
                            have HC : Hid (cn = false) := by show _ = _; rw [HCN.out, HLOC.out, if_neg (fun h => by cases h.2)]; rfl
                            go_wp2_with fail
                            go_meet
                            exact ⟨by rw [HC.out], rfl⟩
                          | true =>
                            by_cases h1 : lp ≤ i
                            · have d1 : decide ((lp : Int) ≤ (i : Int)) = true := decide_eq_true (by omega)
                              have d1' : decide (lp ≤ i) = true := decide_eq_true h1
                              by_cases h2 : k < lp
                              · have d2 : decide ((k : Int) < (lp : Int)) = true := decide_eq_true (by omega)
                                have d2' : decide (k < lp) = true := decide_eq_true h2
                                have HC : Hid (cn = true) := by show _ = _; rw [HCN.out, HLOC.out, if_pos ⟨h1, rfl⟩]; exact d2'
                                clear h1 h2
                                go_wp2_with fail
                                go_meet
                                exact ⟨by rw [HC.out], rfl⟩
                              · have d2 : decide ((k : Int) < (lp : Int)) = false := decide_eq_false (by omega)
                                have d2' : decide (k < lp) = false := decide_eq_false h2
                                have HC : Hid (cn = false) := by show _ = _; rw [HCN.out, HLOC.out, if_pos ⟨h1, rfl⟩]; exact d2'
                                clear h1 h2
                                go_wp2_with fail
                                go_meet
                                exact ⟨by rw [HC.out], rfl⟩
                            · have d1 : decide ((lp : Int) ≤ (i : Int)) = false := decide_eq_false (by omega)
                              have d1' : decide (lp ≤ i) = false := decide_eq_false h1
                              have HC : Hid (cn = false) := by show _ = _; rw [HCN.out, HLOC.out, if_neg (fun h => h1 h.1)]; rfl
                              clear h1
                              go_wp2_with fail
                              go_meet
                              exact ⟨by rw [HC.out], rfl⟩
                      case rest =>
                        obtain ⟨rfl, hwe⟩ := hcut
                        rw [← hwe]
                        clear hwe ri t2 lT lr
                        cases cn with
                        | true =>
                          have HN : Hid (isS t x lo (k + 1) = isS t x lo k) := by
                            have hkl : k < lo := of_decide_eq_true HCN.out.symm
                            show _ = _
                            unfold isS
                            rw [lastS_low (by omega), lastS_low (by omega)]
                          go_wp2_with fail
                          go_roundw
                          case rel => exact ⟨k + 1, by omega, by rw [HN.out], by go_num, HB6.out⟩
                          case measure => simp [intOf]; omega
                        | false =>
                          have hkl : lo ≤ k := by have := of_decide_eq_false HCN.out.symm; omega
                          obtain ⟨y, hy⟩ : ∃ y, t.Ins[k]? = some y := ⟨_, List.getElem?_eq_getElem (by rw [HLI.out]; omega)⟩
                          have HSP : Hid (isS t x lo (k + 1) = (match shapeAt x y k with
                            | some b => some b
                            | none => lastS t.Ins x lo k).getD false) := by show _ = _; unfold isS; rw [lastS_step hkl hy]; rfl
                          have hfr := HFR.out.call HB6.out
                          have t3 := hfr.rt.cell HC3.out
                          have lT := hfr.rt.lt
                          obtain ⟨bj, oj, haJ, hSj, i0, i1, i2, i3, i4, i5, i6, i7, -⟩ := api_TIns_elem hfr.ins hy
                          have hbj := hfr.dom bj hSj
                          have hkn : (k : Int) < (nI : Int) := by omega
                          rw [haJ] at t3
                          clear hfr hSj haJ hy hkl
                          go_upto_region 30 with fail
                          generalize hW7 : wr.alloc (.cells #[.int .i64 y.Op, .int .i64 y.A, .int .i64 y.B, .int .i64 y.C, .int .i64 y.N, .int .i64 y.Exit, .int .i64 y.K.Kind, .int .i64 y.K.N] 48) = w7
                          have hb7 : Below wr.heap.size wr w7 := by rw [← hW7]; exact cod.below_al2 _
                          have ry : Row w7 wr.heap.size 48 #[.int .i64 y.Op, .int .i64 y.A, .int .i64 y.B, .int .i64 y.C, .int .i64 y.N, .int .i64 y.Exit, .int .i64 y.K.Kind, .int .i64 y.K.N] := by rw [← hW7]; exact row_new _ _ _
                          have HB7 : Hid (Below w2.heap.size w2 w7) := HB6.out.trans (hb7.mono HB6.out.size)
                          have rx := (HFR.out.call HB7.out).rx
                          have y0 := ry.cell (j := 0) rfl; have y1 := ry.cell (j := 1) rfl; have y2 := ry.cell (j := 2) rfl; have y4 := ry.cell (j := 4) rfl
                          have x1 := rx.cell (j := 1) rfl; have x2 := rx.cell (j := 2) rfl
                          have ly := ry.lt; have lx := rx.lt
                          clear hW7 hb7 ry rx t3 lT i0 i1 i2 i3 i4 i5 i6 i7 hbj
                          by_cases ho : y.Op = 9
                          · have o9 : (y.Op == 9) = true := by simp [ho]
                            have o16 : (y.Op == 16) = false := by simp [ho]
                            have o12 : (y.Op == 12) = false := by simp [ho]
                            by_cases hn : y.N = 1
                            · have dn : (y.N == 1) = true := by simp [hn]
                              by_cases ha : y.A = x.A
                              · have da : (y.A == x.A) = true := by simp [ha]
                                have HN : Hid (isS t x lo (k + 1) = (y.B == x.B)) := by show _ = _; rw [HSP.out]; unfold shapeAt; rw [if_pos ⟨ho, ha, hn⟩]; rfl
                                (try clear hn); (try clear ha); (try clear ho)
                                go_wp2_with fail
                                go_roundw
                                case rel => exact ⟨k + 1, by omega, by rw [HN.out], by go_num, HB7.out⟩
                                case measure => simp [intOf] <;> omega
                              · have da : (y.A == x.A) = false := by simpa using ha
                                have HN : Hid (isS t x lo (k + 1) = isS t x lo k) := by show _ = _; rw [HSP.out]; unfold shapeAt; rw [if_neg (fun h => ha h.2.1), if_neg (by omega), if_neg (by omega)]; rfl
                                (try clear hn); (try clear ha); (try clear ho)
                                go_wp2_with fail
                                go_roundw
                                case rel => exact ⟨k + 1, by omega, by rw [HN.out], by go_num, HB7.out⟩
                                case measure => simp [intOf] <;> omega
                            · have dn : (y.N == 1) = false := by simpa using hn
                              have HN : Hid (isS t x lo (k + 1) = isS t x lo k) := by show _ = _; rw [HSP.out]; unfold shapeAt; rw [if_neg (fun h => hn h.2.2), if_neg (by omega), if_neg (by omega)]; rfl
                              (try clear hn); (try clear ha); (try clear ho)
                              go_wp2_with fail
                              go_roundw
                              case rel => exact ⟨k + 1, by omega, by rw [HN.out], by go_num, HB7.out⟩
                              case measure => simp [intOf] <;> omega
                          by_cases ho16 : y.Op = 16
                          · have ho9 := ho
                            have ho := ho16
                            have o9 : (y.Op == 9) = false := by simp [ho]
                            have o16 : (y.Op == 16) = true := by simp [ho]
                            have o12 : (y.Op == 12) = false := by simp [ho]
                            by_cases hn : y.N = 1
                            · have dn : (y.N == 1) = true := by simp [hn]
                              by_cases ha : (k : Int) = x.A
                              · have da : ((k : Int) == x.A) = true := by simp [ha]
                                have hak := Lib.hid ha
                                have HN : Hid (isS t x lo (k + 1) = (x.B == 0)) := by show _ = _; rw [HSP.out]; unfold shapeAt; rw [if_neg (by omega), if_pos ⟨ho, ha, hn⟩]; rfl
                                (try clear hn); (try clear ha); (try clear ho)
                                go_wp2_with fail
                                go_roundw
                                case rel => exact ⟨k + 1, by omega, by rw [HN.out], by go_num, HB7.out⟩
                                case measure => simp [intOf] <;> omega
                              · have da : ((k : Int) == x.A) = false := by simpa using ha
                                have HN : Hid (isS t x lo (k + 1) = isS t x lo k) := by show _ = _; rw [HSP.out]; unfold shapeAt; rw [if_neg (by omega), if_neg (fun h => ha h.2.1), if_neg (by omega)]; rfl
                                (try clear hn); (try clear ha); (try clear ho)
                                go_wp2_with fail
                                go_roundw
                                case rel => exact ⟨k + 1, by omega, by rw [HN.out], by go_num, HB7.out⟩
                                case measure => simp [intOf] <;> omega
                            · have dn : (y.N == 1) = false := by simpa using hn
                              have HN : Hid (isS t x lo (k + 1) = isS t x lo k) := by show _ = _; rw [HSP.out]; unfold shapeAt; rw [if_neg (by omega), if_neg (fun h => hn h.2.2), if_neg (by omega)]; rfl
                              (try clear hn); (try clear ha); (try clear ho)
                              go_wp2_with fail
                              go_roundw
                              case rel => exact ⟨k + 1, by omega, by rw [HN.out], by go_num, HB7.out⟩
                              case measure => simp [intOf] <;> omega
                          have ho9 := ho
                          by_cases ho12 : y.Op = 12
                          · have ho := ho12
                            have o9 : (y.Op == 9) = false := by simp [ho]
                            have o16 : (y.Op == 16) = false := by simp [ho]
                            have o12 : (y.Op == 12) = true := by simp [ho]
                            by_cases ha : y.A = x.A
                            · have da : (y.A == x.A) = true := by simp [ha]
                              have HN : Hid (isS t x lo (k + 1) = (y.N == x.B)) := by show _ = _; rw [HSP.out]; unfold shapeAt; rw [if_neg (by omega), if_neg (by omega), if_pos ho, decide_eq_true ha]; rfl
                              (try clear hn); (try clear ha); (try clear ho)
                              go_wp2_with fail
                              go_roundw
                              case rel => exact ⟨k + 1, by omega, by rw [HN.out], by go_num, HB7.out⟩
                              case measure => simp [intOf] <;> omega
                            · have da : (y.A == x.A) = false := by simpa using ha
                              have HN : Hid (isS t x lo (k + 1) = false) := by show _ = _; rw [HSP.out]; unfold shapeAt; rw [if_neg (by omega), if_neg (by omega), if_pos ho, decide_eq_false ha]; rfl
                              (try clear hn); (try clear ha); (try clear ho)
                              go_wp2_with fail
                              go_roundw
                              case rel => exact ⟨k + 1, by omega, by rw [HN.out], by go_num, HB7.out⟩
                              case measure => simp [intOf] <;> omega
                          have o9 : (y.Op == 9) = false := by simpa using ho9
                          have o16 : (y.Op == 16) = false := by simpa using ho16
                          have o12 : (y.Op == 12) = false := by simpa using ho12
                          have HN : Hid (isS t x lo (k + 1) = isS t x lo k) := by show _ = _; rw [HSP.out]; unfold shapeAt; rw [if_neg (by omega), if_neg (by omega), if_neg (by omega)]; rfl
                          (try clear hn); (try clear ha); (try clear ho)
                          go_wp2_with fail
                          go_roundw
                          case rel => exact ⟨k + 1, by omega, by rw [HN.out], by go_num, HB7.out⟩
                          case measure => simp [intOf] <;> omega
                  · as_aux_lemma =>
                      obtain rfl : k = i := by omega
                      have HF : Hid (r = isS t x lo k) := by show _ = _; rw [HF9.out, HSHB.out]
                      clear hlt hb6
                      go_wp2_with fail
                      go_ret
                      exact ⟨by rw [HF.out]; rfl, HEND.out _ HB6.out⟩
      · as_aux_lemma =>
          obtain ⟨j, y, hA, hjn, hy, hnew⟩ := HAS.out h9
          have ho := h9
          have HF9 : Hid (r = (tw || ((y.Op == 16) && (y.N == x.N)))) := by show _ = _; rw [HRR.out, if_neg (by omega), if_neg (by omega), if_neg (by omega), if_pos h9, if_neg n1, hnew]
          have o4 : (x.Op == 4) = false := by simp [ho]
          have o5 : (x.Op == 5) = false := by simp [ho]
          have o6 : (x.Op == 6) = false := by simp [ho]
          have o19 : (x.Op == 19) = false := by simp [ho]
          have o9 : (x.Op == 9) = true := by simp [ho]
          have d1 : (x.N != 1) = true := by simpa using n1
          obtain ⟨bj, oj, haJ, hSj, j0, j1, j2, j3, j4, j5, j6, j7, -⟩ := api_TIns_elem (HFR.out.call HB5.out).ins hy
          have hbj := (HFR.out.call HB5.out).dom bj hSj
          have hjn' : (j : Int) < (nI : Int) := by omega
          have hj0 : (0 : Int) ≤ (j : Int) := by omega
          rw [haJ] at t3
          rw [hA] at x1
          have HXA := Lib.hid hA
          clear hA hSj haJ hy hnew n1
          (try clear h4); (try clear h5); (try clear h6); (try clear h19); (try clear h9); (try clear ho)
          go_upto_region 17 with fail
          cases tw with
          | true =>
            go_quiet (fail)
            go_wp2_with fail
            go_ret
            exact ⟨by rw [HF9.out]; rfl, HEND.out _ (HB5.out.trans ((((Quiet.refl _).more _).below _).mono HB5.out.size))⟩
          | false =>
            cases c16 : (y.Op == 16) with
            | true =>
              go_quiet (fail)
              go_wp2_with fail
              go_ret
              exact ⟨by rw [HF9.out, c16]; simp, HEND.out _ (HB5.out.trans ((((Quiet.refl _).more _).below _).mono HB5.out.size))⟩
            | false =>
              go_quiet (fail)
              go_wp2_with fail
              go_ret
              exact ⟨by rw [HF9.out, c16]; simp, HEND.out _ (HB5.out.trans ((((Quiet.refl _).more _).below _).mono HB5.out.size))⟩
    as_aux_lemma =>
      have HF : Hid (r = false) := by show _ = _; rw [HRR.out, if_neg h4, if_neg h5, if_neg (by omega), if_neg h9]
      have o4 : (x.Op == 4) = false := by simpa using h4
      have o5 : (x.Op == 5) = false := by simpa using h5
      have o6 : (x.Op == 6) = false := by simpa using h6
      have o19 : (x.Op == 19) = false := by simpa using h19
      have o9 : (x.Op == 9) = false := by simpa using h9
      (try clear h4); (try clear h5); (try clear h6); (try clear h19); (try clear h9); (try clear ho)
      go_wp2_with fail
      go_ret
      exact ⟨by rw [HF.out]; rfl, HEND.out _ HB5.out⟩
end Go.Proofs.YtiiekmipcjpheaaDoor.fct
