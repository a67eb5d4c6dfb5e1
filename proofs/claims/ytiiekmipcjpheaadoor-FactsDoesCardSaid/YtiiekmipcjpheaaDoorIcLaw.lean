/- The law IrChecks: walked. -/
import Derived.Test.YtiiekmipcjpheaaDoorIcG
import Derived.Test.YtiiekmipcjpheaaDoorMay
import Derived.Test.YtiiekmipcjpheaaDoorMin
set_option linter.unusedVariables false
set_option linter.unusedSimpArgs false
namespace Go.Proofs.YtiiekmipcjpheaaDoor.chk
open Go.Bk Go.RowKit Go.Proofs.YtiiekmipcjpheaaDoor.ir
attribute [local go_sem ↓] Go.wp_at_zero Go.wp_at_succ

theorem plan_opG {P : Program} {ops : Array Oper} {Q : Exit → Act → World → Prop} {C : World → Prop} {k : Nat} {o : Oper} {r : List (Bool × Nat)} {lt : List Oper} {a : Act} {w : World} (h0 : ops[k]? = some o) (hw : Region.wanted o (yielded ops a.tmps) = true)
    (h : ∀ R : Act → World → Prop, (∀ a' w', C w' → wpPlan P ops Q C lt r a' w' → R a' w') → wpList P ops (AfterT R Q) [o] a w) : wpPlan P ops Q C lt ((false, k) :: r) a w := by
  unfold wpPlan
  rw [h0]
  have h1 := h (fun a' w' => C w' ∧ wpPlan P ops Q C lt r a' w') fun _ _ h1 h2 => ⟨h1, h2⟩
  unfold wpList at h1
  rw [if_pos hw] at h1
  show if _ then _ else _
  rw [if_pos hw]
  rcases h1 with h1 | h1
  · refine .inl ?_
    unfold Oper.wp at *
    generalize (execOp a.eval o).run P w = r at *
    cases r with
    | ok n w' => cases n <;> exact h1
    | halt x w' => cases x <;> exact h1
  · exact .inr ⟨h1.1, h1.2⟩
/-- What Check answers, whatever the program. -/
def chkAll (p : Api.Prog) (t : Api.TTrace) : Int := if cod.codeChk p = 0 then traceChk p t else cod.codeChk p
theorem icheck_any {S : Nat → Prop} {w : World} {P T : Array Value} {p : Api.Prog} {t : Api.TTrace} (hp : Rep.cells S w P.toList p) (ht : Rep.cells S w T.toList t) (hS : ∀ b, S b → b < w.heap.size) (hA : cod.Asc w) :
    Calls Tryd.prog 21 #[.agg P, .agg T] w fun e w' => e = .returned (.int .i64 (chkAll p t)) ∧ Below w.heap.size w w' := by
  unfold chkAll
  by_cases h : cod.codeChk p = 0
  · rw [if_pos h]
    exact icheck_good hp ht hS hA h
  · rw [if_neg h]
    exact icheck_bad hp hS hA h
/-- What is known of the handed over all along. -/
structure LK (S : Nat → Prop) (w : World) (P T : Array Value) (p : Api.Prog) (t : Api.TTrace) (aI : Option Addr) (W : World) : Prop where
  rp : Row W w.heap.size 26 P
  rt : Row W (w.heap.size + 1) 34 T
  rep : Rep.cells S W P.toList p
  ret : Rep.cells S W T.toList t
  ins : Arr S W aI t.Ins
  dom : ∀ b, S b → b < W.heap.size
  below : Below w.heap.size w W
  asc : cod.Asc W
theorem tcap2_of {S : Nat → Prop} {w : World} {X : Array Value} {t : Api.TTrace} (h : Rep.cells S w X.toList t) : ∃ a3 nI c3, TIn S w X t a3 nI c3 ∧ nI ≤ c3 := by
  obtain ⟨a3, c3, a4, c4, a7, c7, a8, c8, a11, c11, a12, c12, e, -, -, -, h3, -⟩ := api_TTrace_cells_eq h
  refine ⟨a3, _, c3, ⟨?_, by rw [e]; rfl, h3.2.2, rfl, ?_⟩, h3.1⟩
  · have := congrArg List.length e
    simpa using this
  · have := h3.2.2.small
    unfold maxLen at this
    omega
set_option maxRecDepth 100000 in
set_option maxHeartbeats 4000000 in
theorem irChecks_walk (W : World) (args : Array Value) (h : ArgsRead Tryd.prog W [26, 34] args.toList) (hL : laidMetH Tryd.prog laidL W) :
    Calls Tryd.prog 4 args W fun e W' => e = .returned (.bool true) ∧ Below W.heap.size W W' := by
  obtain ⟨v0, v1, rfl, r0, r1⟩ := h.two
  obtain ⟨cp, p, rfl, hp⟩ := r0.struct Tryd.underlying26 Tryd.opens26
  obtain ⟨ct, t, rfl, ht⟩ := r1.struct Tryd.underlying34 Tryd.opens34
  have hA := asc_of_laid hL
  obtain ⟨S, hS, hp, ht⟩ : ∃ S : Nat → Prop, (∀ b, S b → b < W.heap.size) ∧ Rep.cells S W cp p ∧ Rep.cells S W ct t := ⟨_, fun b hb => hb, hp, ht⟩
  obtain ⟨P, rfl⟩ : ∃ P : Array Value, cp = P.toList := ⟨cp.toArray, by simp⟩
  obtain ⟨T, rfl⟩ : ∃ T : Array Value, ct = T.toList := ⟨ct.toArray, by simp⟩
  rw [show P.toList.toArray = P by simp, show T.toList.toArray = T by simp]
  obtain ⟨a0, nF, c0, hP⟩ := pin_of hp
  obtain ⟨aI, nI, cI, hT, hcap⟩ := tcap2_of ht
  have hsP := hP.size
  have hsT := hT.size
  have hI9 := hT.few
  have HC3 := Lib.hid hT.c3; have HLI := Lib.hid hT.len
  obtain ⟨w1, hw1⟩ : ∃ w1, w1 = (W.alloc (.cells P 26)).alloc (.cells T 34) := ⟨_, rfl⟩
  obtain ⟨rP, rT, hb1, hz1⟩ := rows2 W P T _ _ w1 hw1
  have HCE : Hid (∀ W', Below w1.heap.size w1 W' → LK S W P T p t aI W') := fun W' hb => by
    have hbw : Below W.heap.size W W' := hb1.trans (hb.mono hb1.size)
    have hk : ∀ b, S b → W'.heap[b]? = W.heap[b]? := fun b hb' => hbw.block b (hS b hb')
    exact ⟨rP.keep (hb.block _ rP.lt), rT.keep (hb.block _ rT.lt), Rep.keep hk hp, Rep.keep hk ht, hT.ins.keep hk, fun b hb' => Nat.lt_of_lt_of_le (hS b hb') hbw.size, hbw, hA.keep hbw⟩
  have HB0 : Hid (Below w1.heap.size w1 w1) := Below.refl _ _
  have HIR : Hid (∀ W', Calls Tryd.prog 11 #[] W' fun e w' => e = .returned (.bool true) ∧ Below W'.heap.size W' w') := fun W' => irred_any
  obtain ⟨c, hc⟩ : ∃ c, c = cod.codeChk p := ⟨_, rfl⟩
  have HCC : Hid (∀ W', Below w1.heap.size w1 W' → Calls Tryd.prog 20 #[.agg P] W' fun e w' => e = .returned (.int .i64 c) ∧ Below W'.heap.size W' w') := fun W' hb => by
    have k := HCE.out W' hb
    rw [hc]
    exact pcheck_any k.rep k.dom k.asc
  obtain ⟨q, hq⟩ : ∃ q, q = chkAll p t := ⟨_, rfl⟩
  have HIC : Hid (∀ W', Below w1.heap.size w1 W' → Calls Tryd.prog 21 #[.agg P, .agg T] W' fun e w' => e = .returned (.int .i64 q) ∧ Below W'.heap.size W' w') := fun W' hb => by
    have k := HCE.out W' hb
    rw [hq]
    exact icheck_any k.rep k.ret k.dom k.asc
  have HRC : Hid (c = 0 → ∀ W', Below w1.heap.size w1 W' → Calls Tryd.prog 22 #[.agg P, .agg T] W' fun e w' => e = .returned (.int .i64 q) ∧ Below W'.heap.size W' w') := fun hc0 W' hb => by
    have k := HCE.out W' hb
    have h0 : cod.codeChk p = 0 := by rw [← hc]; exact hc0
    rw [hq]
    unfold chkAll
    rw [if_pos h0]
    exact rcheck_any k.rep k.ret k.dom h0
  have HQC : Hid (c ≠ 0 → q = c) := fun h0 => by
    rw [hq]
    unfold chkAll
    rw [if_neg (by rw [← hc]; exact h0), hc]
  obtain ⟨m, hm⟩ : ∃ m, m = min nI 300 := ⟨_, rfl⟩
  have hmn : m ≤ nI := by omega
  have hmi : (if (300 : Int) < (nI : Int) then (300 : Int) else (nI : Int)) = (m : Int) := by
    split <;> omega
  have HMI := Lib.hid hmi
  have hsl : ∀ W : World, (Instr.slice 27 (.slice aI nI cI) none (some (.int .i64 (m : Int))) none).run Tryd.prog W = .ok (.slice aI m cI) W := fun W => run_slice_head (P := Tryd.prog) Tryd.underlying27 (z := 8) (by kernel_rfl) aI nI cI m (by omega) W
  have t3 := rT.cell hT.c3
  have l3 := rT.lt
  clear hP hT hp ht hS hA rP rT hb1 h r0 r1 hL hc hq hmi hm
  go_enter Tryd.func4, Tryd.ntmps4
  go_upto_region 1 with fail
  rw [← hw1]
  clear hw1
  go_wp2_with (with_reducible refine wp_min_int (r := (m : Int)) rfl rfl rfl rfl HMI.out ?_)
  clear t3 l3 hsl
  go_loopw [16] (fun i W' => ∃ k : Nat, k ≤ m ∧ i = .int .i64 k ∧ Below w1.heap.size w1 W') (fun i _ => m - (intOf i).toNat)
  case atStart => exact ⟨0, Nat.zero_le _, rfl, HB0.out⟩
  case round =>
    obtain ⟨k, hk, rfl, hbr⟩ := hrel
    have HBR := Lib.hid hbr
    have HLK := Lib.hid (HCE.out wr hbr)
    by_cases hlt : k < m
    · as_aux_lemma =>
        obtain ⟨x, hx⟩ : ∃ x, t.Ins[k]? = some x := ⟨_, List.getElem?_eq_getElem (by rw [HLI.out]; omega)⟩
        obtain ⟨bi, oi, haI, hSi, i0, i1, i2, i3, i4, i5, i6, i7, j0, j1, j2, j3, j4, j5, j6, j7⟩ := api_TIns_elem HLK.out.ins hx
        have hbi := HLK.out.dom bi hSi
        have hkn : (k : Int) < (nI : Int) := by omega
        obtain ⟨te, hte⟩ : ∃ b, b = tellsOf x.Op := ⟨_, rfl⟩
        have HA1 : Hid (∀ W', Calls Tryd.prog 16 #[.agg #[.int .i64 x.Op, .int .i64 x.A, .int .i64 x.B, .int .i64 x.C, .int .i64 x.N, .int .i64 x.Exit, .int .i64 x.K.Kind, .int .i64 x.K.N]] W' fun e w' => (∃ a c, e = .returned (.slice a (asksOf x).length c) ∧ (a = none → c = 0) ∧ Arr (Fresh W' w') w' a (asksOf x)) ∧ Below W'.heap.size W' w') := fun W' => asks_any j1 j2 j3
        have HA2 : Hid (∀ W', Calls Tryd.prog 17 #[.agg #[.int .i64 x.Op, .int .i64 x.A, .int .i64 x.B, .int .i64 x.C, .int .i64 x.N, .int .i64 x.Exit, .int .i64 x.K.Kind, .int .i64 x.K.N]] W' fun e w' => (∃ a c, e = .returned (.slice a (asksOf x).length c) ∧ (a = none → c = 0) ∧ Arr (Fresh W' w') w' a (asksOf x)) ∧ Below W'.heap.size W' w') := fun W' => rasks_any (by simp; exact ⟨j1, j2, j3⟩)
        have HT1 : Hid (∀ W', Calls Tryd.prog 18 #[.int .i64 x.Op] W' fun e w' => e = .returned (.bool te) ∧ Below W'.heap.size W' w') := fun W' => by rw [hte]; exact tells_any
        have HT2 : Hid (∀ W', Calls Tryd.prog 19 #[.int .i64 x.Op] W' fun e w' => e = .returned (.bool te) ∧ Below W'.heap.size W' w') := fun W' => by rw [hte]; exact rtells_any
        have t3 := HLK.out.rt.cell HC3.out
        have l3 := HLK.out.rt.lt
        rw [haI] at t3
        have HAI := Lib.hid haI
        clear hx hSi haI j0 j1 j2 j3 j4 j5 j6 j7 hte hbr
        go_upto_region 5 with fail
        generalize hW6 : wr.alloc (.cells #[.int .i64 x.Op, .int .i64 x.A, .int .i64 x.B, .int .i64 x.C, .int .i64 x.N, .int .i64 x.Exit, .int .i64 x.K.Kind, .int .i64 x.K.N] 48) = w6
        have hb6 : Below wr.heap.size wr w6 := by rw [← hW6]; exact cod.below_al2 _
        have rx : Row w6 wr.heap.size 48 #[.int .i64 x.Op, .int .i64 x.A, .int .i64 x.B, .int .i64 x.C, .int .i64 x.N, .int .i64 x.Exit, .int .i64 x.K.Kind, .int .i64 x.K.N] := by rw [← hW6]; exact row_new _ _ _
        have HRX := Lib.hid rx
        have HB6 : Hid (Below w1.heap.size w1 w6) := HBR.out.trans (hb6.mono HBR.out.size)
        clear hW6 hb6 rx t3 l3 i0 i1 i2 i3 i4 i5 i6 i7 hbi HLK
        obtain ⟨C0, HCC⟩ : ∃ C0 : World → Prop, Hid (∀ W, C0 W ↔ Below w6.heap.size w6 W) := ⟨_, fun _ => Iff.rfl⟩
        have HC0 : Hid (C0 w6.drew) := (HCC.out _).2 (Below.refl _ _).drew
        have HNEC : Nonempty (HeldW C0) := ⟨⟨_, HC0.out⟩⟩
        refine wp_region_plan C0 [(true, 0), (true, 2), (false, 1), (false, 3), (false, 4), (false, 5), (true, 6), (true, 7), (true, 8), (true, 10), (true, 11), (false, 9), (false, 12)] 13 20 (by kernel_rfl) (by kernel_rfl) (by kernel_rfl) (by kernel_rfl) HC0.out ?_
        simp only [List.drop_succ_cons, List.drop_zero]
        have hx0 : ∀ d : HeldW C0, d.val.cell? ⟨wr.heap.size, 0, none⟩ = some (.int .i64 x.Op) := fun d => (HRX.out.keep (((HCC.out _).1 d.ok).block _ HRX.out.lt)).cell (j := 0) rfl
        have hx1 : ∀ d : HeldW C0, d.val.cell? ⟨wr.heap.size, 1, none⟩ = some (.int .i64 x.A) := fun d => (HRX.out.keep (((HCC.out _).1 d.ok).block _ HRX.out.lt)).cell (j := 1) rfl
        have hx2 : ∀ d : HeldW C0, d.val.cell? ⟨wr.heap.size, 2, none⟩ = some (.int .i64 x.B) := fun d => (HRX.out.keep (((HCC.out _).1 d.ok).block _ HRX.out.lt)).cell (j := 2) rfl
        have hx3 : ∀ d : HeldW C0, d.val.cell? ⟨wr.heap.size, 3, none⟩ = some (.int .i64 x.C) := fun d => (HRX.out.keep (((HCC.out _).1 d.ok).block _ HRX.out.lt)).cell (j := 3) rfl
        have hx4 : ∀ d : HeldW C0, d.val.cell? ⟨wr.heap.size, 4, none⟩ = some (.int .i64 x.N) := fun d => (HRX.out.keep (((HCC.out _).1 d.ok).block _ HRX.out.lt)).cell (j := 4) rfl
        have hx5 : ∀ d : HeldW C0, d.val.cell? ⟨wr.heap.size, 5, none⟩ = some (.int .i64 x.Exit) := fun d => (HRX.out.keep (((HCC.out _).1 d.ok).block _ HRX.out.lt)).cell (j := 5) rfl
        have hx6 : ∀ d : HeldW C0, d.val.cell? ⟨wr.heap.size, 6, none⟩ = some (.int .i64 x.K.Kind) := fun d => (HRX.out.keep (((HCC.out _).1 d.ok).block _ HRX.out.lt)).cell (j := 6) rfl
        have hx7 : ∀ d : HeldW C0, d.val.cell? ⟨wr.heap.size, 7, none⟩ = some (.int .i64 x.K.N) := fun d => (HRX.out.keep (((HCC.out _).1 d.ok).block _ HRX.out.lt)).cell (j := 7) rfl
        have hxl : ∀ d : HeldW C0, wr.heap.size < d.val.heap.size := fun d => Nat.lt_of_lt_of_le HRX.out.lt ((HCC.out _).1 d.ok).size
        refine plan_quiet (by repeat (first | with_reducible exact nth_zero | with_reducible apply nth_succ)) ?_
        go_big_quiet_step (fail)
        refine wpQuiet_nil ?_
        refine plan_quiet (by repeat (first | with_reducible exact nth_zero | with_reducible apply nth_succ)) ?_
        go_big_quiet_step (fail)
        refine wpQuiet_nil ?_
        refine plan_op (by repeat (first | with_reducible exact nth_zero | with_reducible apply nth_succ)) (by rfl) fun RR HRR => ?_
        go_wp2_with (go_at_call 16; refine (HA1.out _).mono ?_; rintro e w7 ⟨⟨a1, c1, rfl, -, hr1⟩, hb1⟩; have HB7 := Lib.hid hb1; have HR7 := Lib.hid hr1; clear hb1 hr1)
        have HC7 : Hid (C0 w7) := (HCC.out _).2 ((Below.refl _ _).drew.trans HB7.out)
        refine AfterT.normal (HRR _ _ (isC HC7.out) ?_)
        clear HRR RR
        refine plan_op (by repeat (first | with_reducible exact nth_zero | with_reducible apply nth_succ)) (by rfl) fun RR HRR => ?_
        go_wp2_with (go_at_call 17; refine (HA2.out _).mono ?_; rintro e w8 ⟨⟨a2, c2, rfl, -, hr2⟩, hb2⟩; have HB8 := Lib.hid hb2; have HR8 := Lib.hid hr2; clear hb2 hr2)
        have HC8 : Hid (C0 w8) := (HCC.out _).2 (((HCC.out _).1 HC7.out).trans (HB8.out.mono ((HCC.out _).1 HC7.out).size))
        refine AfterT.normal (HRR _ _ (isC HC8.out) ?_)
        clear HRR RR
        have HEQ : Hid (Calls Tryd.prog 15 #[.slice a1 (asksOf x).length c1, .slice a2 (asksOf x).length c2] w8 fun e w' => e = .returned (.bool true) ∧ Quiet w8 w') := by
          have k := eq_any (c1 := c1) (c2 := c2) (HR7.out.keep (w' := w8) fun b hb' => HB8.out.block b hb'.2) HR8.out
          rw [decide_eq_true rfl] at k
          exact k
        refine plan_op (by repeat (first | with_reducible exact nth_zero | with_reducible apply nth_succ)) (by rfl) fun RR HRR => ?_
        go_wp2_with (go_at_call 15; refine HEQ.out.mono ?_; rintro e w9 ⟨rfl, hq9⟩; have HB9 := Lib.hid (hq9.below w8.heap.size); clear hq9)
        have HC9 : Hid (C0 w9) := (HCC.out _).2 (((HCC.out _).1 HC8.out).trans (HB9.out.mono ((HCC.out _).1 HC8.out).size))
        refine AfterT.normal (HRR _ _ (isC HC9.out) ?_)
        clear HRR RR
        refine plan_op (by repeat (first | with_reducible exact nth_zero | with_reducible apply nth_succ)) (by rfl) fun RR HRR => ?_
        go_wp2_with fail
        refine AfterT.normal (HRR _ _ (isC HC9.out) ?_)
        clear HRR RR
        refine plan_quiet (by repeat (first | with_reducible exact nth_zero | with_reducible apply nth_succ)) ?_
        go_big_quiet_step (fail)
        refine wpQuiet_nil ?_
        refine plan_quiet (by repeat (first | with_reducible exact nth_zero | with_reducible apply nth_succ)) ?_
        go_big_quiet_step (fail)
        refine wpQuiet_nil ?_
        refine plan_quiet (by repeat (first | with_reducible exact nth_zero | with_reducible apply nth_succ)) ?_
        go_big_quiet_step (fail)
        refine wpQuiet_nil ?_
        refine plan_quiet (by repeat (first | with_reducible exact nth_zero | with_reducible apply nth_succ)) ?_
        go_big_quiet_step (fail)
        refine wpQuiet_nil ?_
        refine plan_quiet (by repeat (first | with_reducible exact nth_zero | with_reducible apply nth_succ)) ?_
        go_big_quiet_step (fail)
        refine wpQuiet_nil ?_
        refine plan_opG (by repeat (first | with_reducible exact nth_zero | with_reducible apply nth_succ)) (by rfl) fun RR HRR => ?_
        go_wp2_with (go_at_call 18; refine (HT1.out _).mono ?_; rintro e w10 ⟨rfl, hb10⟩; have HB10 := Lib.hid hb10; clear hb10)
        have HC10 : Hid (C0 w10) := (HCC.out _).2 (((HCC.out _).1 HC9.out).trans (HB10.out.mono ((HCC.out _).1 HC9.out).size))
        refine AfterT.normal (HRR _ _ (isC HC10.out) ?_)
        clear HRR RR
        refine plan_opG (by repeat (first | with_reducible exact nth_zero | with_reducible apply nth_succ)) (by rfl) fun RR HRR => ?_
        go_wp2_with (go_at_call 19; refine (HT2.out _).mono ?_; rintro e w11 ⟨rfl, hb11⟩; have HB11 := Lib.hid hb11; clear hb11)
        have HC11 : Hid (C0 w11) := (HCC.out _).2 (((HCC.out _).1 HC10.out).trans (HB11.out.mono ((HCC.out _).1 HC10.out).size))
        refine AfterT.normal (HRR _ _ (isC HC11.out) ?_)
        clear HRR RR
        refine plan_done ?_
        clear hx0 hx1 hx2 hx3 hx4 hx5 hx6 hx7 hxl
        have htt : (te != te) = false := by simp
        go_wp2_with fail
        all_goals refine NoPanic.normal ?_
        go_wp2_with fail
        go_roundw
        case rel => exact ⟨k + 1, by omega, by go_num, HB6.out.trans (((HCC.out _).1 HC11.out).mono HB6.out.size)⟩
        case measure => simp [intOf]; omega
    · as_aux_lemma =>
        obtain rfl : k = m := by omega
        clear hlt hbr
        by_cases hc0 : c = 0
        · have HRC2 := HRC.out hc0
          subst hc0
          have hqq : (q == q) = true := by simp
          have hsz1 : wr.heap.size ≤ wr.heap.size := Nat.le_refl _
          go_upto_region 11 with (first
            | (with_reducible refine ldP rfl rfl rfl HLK.out.rp hsP ?_)
            | (go_at_call 20; (with_reducible refine (HCC.out _ HBR.out).mono ?_); rintro e w7 ⟨rfl, hb7⟩; have HB7 := Lib.hid (HBR.out.trans (hb7.mono HBR.out.size)); clear hb7))
          have HDB : Hid (∀ d : Drift w7, Below w1.heap.size w1 d.val) := fun d => HB7.out.trans (d.below.mono HB7.out.size)
          have HIRD : Hid (∀ d : Drift w7, Calls Tryd.prog 11 #[] d.val fun e w' => e = .returned (.bool true) ∧ Below d.val.heap.size d.val w') := fun d => HIR.out _
          have HICD : Hid (∀ d : Drift w7, Calls Tryd.prog 21 #[.agg P, .agg T] d.val fun e w' => e = .returned (.int .i64 q) ∧ Below d.val.heap.size d.val w') := fun d => HIC.out _ (HDB.out d)
          have HRCD : Hid (∀ d : Drift w7, Calls Tryd.prog 22 #[.agg P, .agg T] d.val fun e w' => e = .returned (.int .i64 q) ∧ Below d.val.heap.size d.val w') := fun d => HRC2 _ (HDB.out d)
          have HRP : Hid (∀ W', (∃ d : Drift w7, W' = d.val) → Row W' W.heap.size 26 P) := fun W' ⟨d, hd⟩ => by rw [hd]; exact (HCE.out _ (HDB.out d)).rp
          have HRT : Hid (∀ W', (∃ d : Drift w7, W' = d.val) → Row W' (W.heap.size + 1) 34 T) := fun W' ⟨d, hd⟩ => by rw [hd]; exact (HCE.out _ (HDB.out d)).rt
          first | (refine wp_region_drift_lit (by kernel_rfl) (by kernel_rfl) (fun hdr => ?_); (repeat (first | go_big_quiet_skip | (go_big_quiet_want; (first | ((first | (with_reducible refine qldP rfl rfl HRP.out hsP ?_) | (with_reducible refine qldT rfl rfl HRT.out hsT ?_)); simp only [Act.put, List.setIfInBounds_toArray, List.set_cons_succ, List.set_cons_zero]) | go_big_quiet_op); (first | go_big_quiet_on | go_big_quiet_call ((first | (go_at_call 11; with_reducible exact drift_of (HIRD.out _)) | (go_at_call 21; with_reducible exact drift_of (HICD.out _)) | (go_at_call 22; with_reducible exact drift_of (HRCD.out _)))))))); refine wpQuiet_nil ?_; intro wq hw'; obtain ⟨⟨wd, hbd⟩, hw''⟩ := hw'; dsimp only at hw''; subst wq; clear hdr)
          go_wp2
          go_ret
          exact ⟨rfl, (HCE.out _ (HB7.out.trans (hbd.mono HB7.out.size))).below⟩
        · have hq := HQC.out hc0
          subst hq
          have hne : (q != 0) = true := by simpa using hc0
          have hqq : (q == q) = true := by simp
          clear hc0
          go_wp2_with (first
            | (with_reducible refine ldP rfl rfl rfl HLK.out.rp hsP ?_)
            | (with_reducible refine ldP rfl rfl rfl HLK8.out.rp hsP ?_)
            | (with_reducible refine ldT rfl rfl rfl HLK8.out.rt hsT ?_)
            | (go_at_call 20; (with_reducible refine (HCC.out _ HBR.out).mono ?_); rintro e w7 ⟨rfl, hb7⟩; have HB7 := Lib.hid (HBR.out.trans (hb7.mono HBR.out.size)); clear hb7)
            | (go_at_call 11; (with_reducible refine (HIR.out _).mono ?_); rintro e w8 ⟨rfl, hb8⟩; have HB8 := Lib.hid (HB7.out.trans (hb8.mono HB7.out.size)); have HLK8 := Lib.hid (HCE.out _ HB8.out); clear hb8)
            | (go_at_call 21; (with_reducible refine (HIC.out _ HB8.out).mono ?_); rintro e w9 ⟨rfl, hb9⟩; have HB9 := Lib.hid (HB8.out.trans (hb9.mono HB8.out.size)); clear hb9))
          go_ret
          exact ⟨rfl, (HCE.out _ HB9.out).below⟩
end Go.Proofs.YtiiekmipcjpheaaDoor.chk
