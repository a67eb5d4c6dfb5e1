/- The law IrChecks: walked. -/
import Derived.Test.YtekofpigmggbbaaDoorQIcG
import Derived.Test.YtekofpigmggbbaaDoorQMay
import Derived.Test.YtekofpigmggbbaaDoorQRcutF
set_option linter.unusedVariables false
set_option linter.unusedSimpArgs false
namespace Go.Proofs.YtekofpigmggbbaaDoor.chk
open Go.Bk Go.RowKit Go.Proofs.YtekofpigmggbbaaDoor.ir
attribute [local go_sem ↓] Go.wp_at_zero Go.wp_at_succ

theorem plan_opG {P : Program} {ops : Array Oper} {Q : Exit → Act → World → Prop} {C : World → Prop} {k : Nat} {o : Oper} {r : List (Bool × Nat)} {lt : List Oper} {a : Act} {w : World} (h0 : ops[k]? = some o) (hw : Region.wanted o (yielded ops a.tmps) = true)
    (h : ∀ R : Act → World → Prop, (∀ a' w', C w' → wpPlan P ops Q C lt r a' w' → R a' w') → wpList P ops (AfterT R Q) [o] a w) : wpPlan P ops Q C lt ((false, k) :: r) a w := by
  unfold wpPlan
  rw [h0]
  have h1 := h (fun a' w' => C w' ∧ wpPlan P ops Q C lt r a' w') fun _ _ h1 h2 => ⟨h1, h2⟩
  unfold wpList at h1
  rw [if_pos hw] at h1
  show if _ then _ else _
  rw [if_pos hw]
  rcases h1 with h1 | h1
  · refine .inl ?_
    unfold Oper.wp at *
    generalize (execOp a.eval o).run P w = r at *
    cases r with
    | ok n w' => cases n <;> exact h1
    | halt x w' => cases x <;> exact h1
  · exact .inr ⟨h1.1, h1.2⟩
/-- What Check answers, whatever the program. -/
def chkAll (p : Api.Prog) (t : Api.TTrace) : Int := if cod.codeChk p = 0 then traceChk p t else cod.codeChk p
theorem icheck_any {S : Nat → Prop} {w : World} {P T : Array Value} {p : Api.Prog} {t : Api.TTrace} (hp : Rep.cells S w P.toList p) (ht : Rep.cells S w T.toList t) (hS : ∀ b, S b → b < w.heap.size) (hA : cod.Asc w) :
    Calls Tryd.prog 35 #[.agg P, .agg T] w fun e w' => e = .returned (.int .i64 (chkAll p t)) ∧ Below w.heap.size w w' := by
  unfold chkAll
  by_cases h : cod.codeChk p = 0
  · rw [if_pos h]
    exact icheck_good hp ht hS hA h
  · rw [if_neg h]
    exact icheck_bad hp hS hA h
/-- What is known of the handed over all along. -/
structure LK (S : Nat → Prop) (w : World) (P T : Array Value) (p : Api.Prog) (t : Api.TTrace) (aI : Option Addr) (W : World) : Prop where
  rp : Row W w.heap.size 26 P
  rt : Row W (w.heap.size + 1) 34 T
  rep : Rep.cells S W P.toList p
  ret : Rep.cells S W T.toList t
  ins : Arr S W aI t.Ins
  dom : ∀ b, S b → b < W.heap.size
  below : Below w.heap.size w W
  asc : cod.Asc W
end Go.Proofs.YtekofpigmggbbaaDoor.chk

namespace Go.Proofs.YtekofpigmggbbaaDoor.pas
open Go.Bk Go.RowKit Go.Proofs.YtekofpigmggbbaaDoor.ir Go.Proofs.YtekofpigmggbbaaDoor.chk Go.Proofs.YtekofpigmggbbaaDoor.cut
attribute [local go_sem ↓] Go.wp_at_zero Go.wp_at_succ

/-- What a pass answers that makes r of a trace. -/
def doR (p : Api.Prog) (t r : Api.TTrace) : Api.TTrace × Int := if chkAll p t = 0 then (r, 0) else (zeroT, chkAll p t)
theorem doR_yes {p : Api.Prog} {t r : Api.TTrace} (h : chkAll p t = 0) : doR p t r = (r, 0) := if_pos h
theorem doR_no {p : Api.Prog} {t r : Api.TTrace} (h : chkAll p t ≠ 0) : doR p t r = (zeroT, chkAll p t) := if_neg h
theorem right_all {p : Api.Prog} {t : Api.TTrace} (h : chkAll p t = 0) : RightT t := by
  unfold chkAll at h
  by_cases hc : cod.codeChk p = 0
  · rw [if_pos hc] at h; exact right_of hc h
  · rw [if_neg hc] at h; exact absurd h hc
/-- A trace in memory, and a number: what a pass hands back. -/
def PassOut (w : World) (g : Api.TTrace × Int) (e : Ending) (w' : World) : Prop := ∃ C : Array Value, C.size = 13 ∧ C.all (·.oneCell') = true ∧ e = .returned (.tuple #[.agg C, .int .i64 g.2]) ∧ Rep.cells (Fresh w w') w' C.toList g.1 ∧ Below w.heap.size w w'
/-- A trace in memory: what the document hands back. -/
def RefOut (w : World) (t' : Api.TTrace) (e : Ending) (w' : World) : Prop := ∃ C : Array Value, C.size = 13 ∧ C.all (·.oneCell') = true ∧ e = .returned (.agg C) ∧ Rep.cells (Fresh w w') w' C.toList t' ∧ Below w.heap.size w w'
theorem one_of {S : Nat → Prop} {w : World} {C : Array Value} {t : Api.TTrace} (h : Rep.cells S w C.toList t) : C.all (·.oneCell') = true := by
  rw [Array.all_eq_true_iff_forall_mem]
  exact fun v hv => Rep.one h v (by simpa using hv)
/-- ir.Cut, handed back so. -/
theorem icut_out {S R : Nat → Prop} {w : World} {T : Array Value} {t : Api.TTrace} {ts : List Int} {aT : Option Addr} {nT cT : Nat} (ht : Rep.cells S w T.toList t) (hS : ∀ b, S b → b < w.heap.size) (hts : Arr R w aT ts) (hR : ∀ b, R b → b < w.heap.size) (hn : ts.length = nT) (hr : RightT t) (hto : toRight t ts = true) (hfi : fineT t ts = true) :
    Calls Tryd.prog 37 #[.agg T, .slice aT nT cT] w (PassOut w (cutT t ts, 0)) := by
  refine (icut_any ht hS hts hR hn hr.fewT).mono ?_
  rintro e w' ⟨cs, rfl, hc, hb⟩
  have hg : cutG t ts = (cutT t ts, 0) := by unfold cutG; rw [hto, hfi]; rfl
  rw [hg] at hc ⊢
  exact ⟨cs.toArray, rep_size (X := cs.toArray) (by simpa using hc), one_of (C := cs.toArray) (by simpa using hc), rfl, by simpa using hc, hb⟩
/-- R.Cut, likewise. -/
theorem rcut_out {S R : Nat → Prop} {w : World} {T : Array Value} {t : Api.TTrace} {ts : List Int} {aT : Option Addr} {nT cT : Nat} (ht : Rep.cells S w T.toList t) (hS : ∀ b, S b → b < w.heap.size) (hts : Arr R w aT ts) (hR : ∀ b, R b → b < w.heap.size) (hn : ts.length = nT) (hr : RightT t) (hlen : ts.length = t.Ins.length) (hok : toOk ts ts.length = true) (hfi : fineT t ts = true) :
    Calls Tryd.prog 42 #[.agg T, .slice aT nT cT] w fun e w' => ∃ C : Array Value, C.size = 13 ∧ C.all (·.oneCell') = true ∧ e = .returned (.tuple #[.agg C, .bool true]) ∧ Rep.cells (Fresh w w') w' C.toList (cutT t ts) ∧ Below w.heap.size w w' := by
  refine (rcut_any ht hS hts hR hn hr.fewT hlen hok hr.ahead hr.loop.1).mono ?_
  rintro e w' ⟨cs, rfl, hc, hb, -⟩
  rw [cutR_yes hfi.symm] at hc
  rw [hfi]
  exact ⟨cs.toArray, rep_size (X := cs.toArray) (by simpa using hc), one_of (C := cs.toArray) (by simpa using hc), rfl, by simpa using hc, hb⟩
/-- Likewise, and where the rows lie. -/
theorem rcut_own {S R : Nat → Prop} {w : World} {T : Array Value} {t : Api.TTrace} {ts : List Int} {aT : Option Addr} {nT cT : Nat} (ht : Rep.cells S w T.toList t) (hS : ∀ b, S b → b < w.heap.size) (hts : Arr R w aT ts) (hR : ∀ b, R b → b < w.heap.size) (hn : ts.length = nT) (hr : RightT t) (hlen : ts.length = t.Ins.length) (hok : toOk ts ts.length = true) (hfi : fineT t ts = true) :
    Calls Tryd.prog 42 #[.agg T, .slice aT nT cT] w fun e w' => ∃ C : Array Value, C.size = 13 ∧ C.all (·.oneCell') = true ∧ e = .returned (.tuple #[.agg C, .bool true]) ∧ Rep.cells (Fresh w w') w' C.toList (cutT t ts) ∧ Below w.heap.size w w' ∧ OwnT w.heap.size w' C.toList (cutT t ts) := by
  refine (rcut_any ht hS hts hR hn hr.fewT hlen hok hr.ahead hr.loop.1).mono ?_
  rintro e w' ⟨cs, rfl, hc, hb, ho⟩
  rw [cutR_yes hfi.symm] at hc
  rw [hfi]
  exact ⟨cs.toArray, rep_size (X := cs.toArray) (by simpa using hc), one_of (C := cs.toArray) (by simpa using hc), rfl, by simpa using hc, hb, by simpa using ho hfi⟩
theorem idTo_succ (k : Nat) : idTo (k + 1) = idTo k ++ [(k : Int)] := by simp [idTo, List.range_succ]
set_option maxRecDepth 100000 in
set_option maxHeartbeats 1000000 in
/-- Same0: the numbers that leave nothing out. -/
theorem same0_any {S : Nat → Prop} {w : World} {T : Array Value} {t : Api.TTrace} (ht : Rep.cells S w T.toList t) (hS : ∀ b, S b → b < w.heap.size) (hfew : t.Ins.length ≤ 100000) :
    Calls Tryd.prog 39 #[.agg T] w fun e w' => ∃ v, e = .returned v ∧ Own (fun _ => False) w' (w.heap.size + 1) 3 v (idTo t.Ins.length) ∧ Below w.heap.size w w' := by
  obtain ⟨aI, nI, cI, hT⟩ := tin_of ht
  have hfI : nI ≤ 100000 := by rw [← hT.len]; exact hfew
  rw [hT.len]
  obtain ⟨w1, hw1⟩ : ∃ w1, w1 = w.alloc (.cells T 34) := ⟨_, rfl⟩
  have hb1 : Below w.heap.size w w1 := by rw [hw1]; exact cod.below_al2 _
  have rT := row_new w T 34
  rw [← hw1] at rT
  have hz1 : w1.heap.size = w.heap.size + 1 := by rw [hw1]; simp
  have t3 := rT.cell hT.c3
  have l3 := rT.lt
  have HB1 := Lib.hid hb1
  clear hT ht hS hb1 rT hfew
  go_enter Tryd.func39, Tryd.ntmps39
  go_upto_region 1 with fail
  rw [← hw1]
  clear hw1
  go_wp2_with fail
  clear t3 l3
  go_loopw [3, 8] (fun s3 s8 W => ∃ (k : Nat) (v3 : Value), k ≤ nI ∧ s3 = v3 ∧ s8 = .int .i64 k ∧ Own (fun _ => False) W (w.heap.size + 1) 3 v3 (idTo k) ∧ Below w.heap.size w W ∧ w.heap.size + 1 ≤ W.heap.size) (fun _ s8 _ => nI - (intOf s8).toNat)
  case atStart => exact ⟨0, _, Nat.zero_le _, rfl, rfl, Own.nil _ _ _ _, HB1.out, by omega⟩
  case round =>
    obtain ⟨k, v3, hk, rfl, rfl, hown, hbr, hsz⟩ := hrel
    have HO := Lib.hid hown; have HBR := Lib.hid hbr
    by_cases hlt : k < nI
    · obtain ⟨va, vc, hva, -⟩ := hown.arr
      obtain ⟨vn, hvl⟩ : ∃ n, n = (idTo k).length := ⟨_, rfl⟩
      rw [← hvl] at hva
      subst hva
      have hvn : (idTo k).length = k := idTo_len k
      have HVN := Lib.hid hvn
      have HM : Hid (Rep.cells (fun _ => False) wr [.int .i64 (k : Int)] (k : Int)) := ⟨rfl, by unfold I64; omega⟩
      clear hown hbr hvl hvn
      go_wp2_with (at_builtin; (with_reducible refine Tryd.wp_appd58 (S := fun _ => False) (v := .slice va vn vc) (xs := idTo k) (y := (k : Int)) (cs := [.int .i64 (k : Int)]) (w0 := wr) rfl rfl (by with_unfolding_all rfl) rfl rfl (by first | rfl | omega) HO.out HM.out (fun _ h => h.elim) (by have := HVN.out; omega) (by omega) fun v7 w7 hown7 hg7 hst7 => ?_); have HO7 := Lib.hid hown7; have HG7 : Hid (Below w.heap.size w w7) := HBR.out.grown hg7 HBR.out.size (fun r hr => by have := (HO.out.lt r hr).1; omega); have hs7 := hg7.size; clear hown7 hg7 hst7)
      go_roundw
      case rel => exact ⟨k + 1, _, by omega, rfl, by go_num, by rw [idTo_succ]; exact HO7.out, HG7.out, by omega⟩
      case measure => simp [intOf]; omega
    · obtain rfl : k = nI := by omega
      clear hown hbr
      go_wp2_with fail
      go_ret
      exact ⟨_, rfl, HO.out, HBR.out⟩
/-- What is known of the handed over all along: a program, a trace, another trace. -/
structure LP (S S2 : Nat → Prop) (w : World) (P T C : Array Value) (p : Api.Prog) (t t2 : Api.TTrace) (W : World) : Prop where
  rp : Row W w.heap.size 26 P
  rt : Row W (w.heap.size + 1) 34 T
  rc : Row W (w.heap.size + 2) 34 C
  rep : Rep.cells S W P.toList p
  ret : Rep.cells S W T.toList t
  rec2 : Rep.cells S2 W C.toList t2
  dom : ∀ b, S b → b < W.heap.size
  dom2 : ∀ b, S2 b → b < W.heap.size
  below : Below w.heap.size w W
  asc : cod.Asc W
set_option maxRecDepth 100000 in
set_option maxHeartbeats 4000000 in
/-- passed: is that what a pass makes of a trace? -/
theorem passed_any {S S2 : Nat → Prop} {w : World} {P T C : Array Value} {p : Api.Prog} {t : Api.TTrace} {r : Api.TTrace} {F : FuncId} (hp : Rep.cells S w P.toList p) (ht : Rep.cells S w T.toList t) (hS : ∀ b, S b → b < w.heap.size) (hc : Rep.cells S2 w C.toList (doR p t r).1) (hS2 : ∀ b, S2 b → b < w.heap.size) (hA : cod.Asc w)
    (hF : ∀ (args : Array Value) (w : World), (callFunc F args).run Tryd.prog w = .ok (.enter F args) w)
    (hR : chkAll p t = 0 → ∀ W, Rep.cells S W T.toList t → (∀ b, S b → b < W.heap.size) → Calls Tryd.prog F #[.agg T] W (RefOut W r)) :
    Calls Tryd.prog 15 #[.agg P, .agg T, .agg C, .int .i64 (doR p t r).2, .func (.func F) #[] #[]] w fun e w' => e = .returned (.bool true) ∧ Below w.heap.size w w' := by
  obtain ⟨a0, nF, c0, hP⟩ := pin_of hp
  obtain ⟨aI, nI, cI, hT⟩ := tin_of ht
  have hsP := hP.size
  have hsT := hT.size
  have hsC : C.size = 13 := rep_size hc
  obtain ⟨w1, hw1⟩ : ∃ w1, w1 = ((w.alloc (.cells P 26)).alloc (.cells T 34)).alloc (.cells C 34) := ⟨_, rfl⟩
  obtain ⟨rP, rT, rC, hb1⟩ := rows3 w P T C _ _ _ w1 hw1
  obtain ⟨t2, ht2⟩ : ∃ t2, t2 = (doR p t r).1 := ⟨_, rfl⟩
  rw [← ht2] at hc
  have HCE : Hid (∀ W, Below w1.heap.size w1 W → LP S S2 w P T C p t t2 W) := fun W hb => by
    have hbw : Below w.heap.size w W := hb1.trans (hb.mono hb1.size)
    exact ⟨rP.keep (hb.block _ rP.lt), rT.keep (hb.block _ rT.lt), rC.keep (hb.block _ rC.lt), Rep.keep (fun b hb' => hbw.block b (hS b hb')) hp, Rep.keep (fun b hb' => hbw.block b (hS b hb')) ht, Rep.keep (fun b hb' => hbw.block b (hS2 b hb')) hc, fun b hb' => Nat.lt_of_lt_of_le (hS b hb') hbw.size, fun b hb' => Nat.lt_of_lt_of_le (hS2 b hb') hbw.size, hbw, hA.keep hbw⟩
  have HB0 : Hid (Below w1.heap.size w1 w1) := Below.refl _ _
  have HL0 := Lib.hid (HCE.out w1 HB0.out)
  have HIR : Hid (∀ W', Calls Tryd.prog 10 #[] W' fun e w' => e = .returned (.bool true) ∧ Below W'.heap.size W' w') := fun W' => irred_any
  obtain ⟨q, hq⟩ : ∃ q, q = chkAll p t := ⟨_, rfl⟩
  have HIC : Hid (Calls Tryd.prog 35 #[.agg P, .agg T] w1 fun e w' => e = .returned (.int .i64 q) ∧ Below w1.heap.size w1 w') := by
    rw [hq]
    exact icheck_any HL0.out.rep HL0.out.ret HL0.out.dom HL0.out.asc
  clear hP hT hp ht hS hc hS2 hA rP rT rC hb1
  by_cases hq0 : q = 0
  · as_aux_lemma =>
      have h0 : chkAll p t = 0 := by rw [← hq]; exact hq0
      have HR := Lib.hid (hR h0)
      have HFE := Lib.hid hF
      have e2 : (doR p t r).2 = 0 := by rw [doR_yes h0]
      have e1 : t2 = r := by rw [ht2, doR_yes h0]
      rw [e2]
      clear ht2
      subst t2
      have HSM : Hid (∀ (W : World) (S1 : Nat → Prop) (Y : Array Value), Below w1.heap.size w1 W → Rep.cells S1 W Y.toList (r) → (∀ b, S1 b → b < W.heap.size) → Calls Tryd.prog 38 #[.agg C, .agg Y] W fun e w' => e = .returned (.bool true) ∧ Below W.heap.size W w') := fun W S1 Y hb hy h1 => sameTrace_true (HCE.out W hb).rec2 hy (HCE.out W hb).dom2 h1
      subst hq0
      clear hq hR hF e2 h0
      go_enter Tryd.func15, Tryd.ntmps15
      go_upto_region 1 with fail
      rw [← hw1]
      clear hw1
      go_upto_region 4 with (first
        | (with_reducible refine ldP rfl rfl rfl HL0.out.rp hsP ?_)
        | (with_reducible refine ldT rfl rfl rfl HL0.out.rt hsT ?_)
        | (go_at_call 35; (with_reducible refine HIC.out.mono ?_); rintro e w2 ⟨rfl, hb2⟩; have HB2 := Lib.hid hb2; clear hb2))
      have HQF : Hid (∀ (f : FuncId), f = F → ∀ (args : Array Value) (w : World), (callFunc f args).run Tryd.prog w = .ok (.enter f args) w) := fun f h => by rw [h]; exact HFE.out
      obtain ⟨C0, HCC⟩ : ∃ C0 : World → Prop, Hid (∀ W, C0 W ↔ Below w2.heap.size w2 W) := ⟨_, fun _ => Iff.rfl⟩
      have HBW : Hid (∀ W, C0 W → Below w1.heap.size w1 W) := fun W h => HB2.out.trans (((HCC.out _).1 h).mono HB2.out.size)
      have HC0 : Hid (C0 w2.drew) := (HCC.out _).2 (Below.refl _ _).drew
      have HNEC : Nonempty (HeldW C0) := ⟨⟨_, HC0.out⟩⟩
      refine wp_region_plan C0 [(false, 0), (false, 1), (false, 2), (false, 3), (false, 4), (false, 5), (true, 6), (true, 7), (true, 8), (false, 9), (false, 10)] 11 20 (by kernel_rfl) (by kernel_rfl) (by kernel_rfl) (by kernel_rfl) HC0.out ?_
      simp only [List.drop_succ_cons, List.drop_zero]
      have HDT : Hid (∀ W, (∃ d : HeldW C0, W = d.val) → Row W (w.heap.size + 1) 34 T) := fun W ⟨d, hd⟩ => by rw [hd]; exact (HCE.out _ (HBW.out _ d.ok)).rt
      have HDC : Hid (∀ W, (∃ d : HeldW C0, W = d.val) → Row W (w.heap.size + 2) 34 C) := fun W ⟨d, hd⟩ => by rw [hd]; exact (HCE.out _ (HBW.out _ d.ok)).rc
      refine plan_op (by repeat (first | with_reducible exact nth_zero | with_reducible apply nth_succ)) (by rfl) fun RR HRR => ?_
      go_wp2_with (go_at_call 10; refine (HIR.out _).mono ?_; rintro e w3 ⟨rfl, hb3⟩; have HB3 := Lib.hid hb3; clear hb3)
      have HC3 : Hid (C0 w3) := (HCC.out _).2 ((Below.refl _ _).drew.trans HB3.out)
      refine AfterT.normal (HRR _ _ (isC HC3.out) ?_)
      clear HRR RR
      refine plan_op (by repeat (first | with_reducible exact nth_zero | with_reducible apply nth_succ)) (by rfl) fun RR HRR => ?_
      go_wp2_with fail
      refine AfterT.normal (HRR _ _ (isC HC3.out) ?_)
      clear HRR RR
      refine plan_opG (by repeat (first | with_reducible exact nth_zero | with_reducible apply nth_succ)) (by rfl) fun RR HRR => ?_
      go_wp2_with fail
      refine AfterT.normal (HRR _ _ (isC HC3.out) ?_)
      clear HRR RR
      refine plan_opG (by repeat (first | with_reducible exact nth_zero | with_reducible apply nth_succ)) (by rfl) fun RR HRR => ?_
      go_wp2_with fail
      refine AfterT.normal (HRR _ _ (isC HC3.out) ?_)
      clear HRR RR
      refine plan_op (by repeat (first | with_reducible exact nth_zero | with_reducible apply nth_succ)) (by rfl) fun RR HRR => ?_
      go_wp2_with fail
      refine AfterT.normal (HRR _ _ (isC HC3.out) ?_)
      clear HRR RR
      refine plan_op (by repeat (first | with_reducible exact nth_zero | with_reducible apply nth_succ)) (by rfl) fun RR HRR => ?_
      go_wp2_with fail
      refine AfterT.normal (HRR _ _ (isC HC3.out) ?_)
      clear HRR RR

      refine plan_quiet (by repeat (first | with_reducible exact nth_zero | with_reducible apply nth_succ)) ?_
      go_big_quiet_want
      (first | (with_reducible refine qldT rfl rfl HDC.out hsC ?_; simp only [Act.put, List.setIfInBounds_toArray, List.set_cons_succ, List.set_cons_zero]))
      go_big_quiet_on
      refine wpQuiet_nil ?_

      refine plan_quiet (by repeat (first | with_reducible exact nth_zero | with_reducible apply nth_succ)) ?_
      go_big_quiet_step (fail)
      refine wpQuiet_nil ?_
      refine plan_quiet (by repeat (first | with_reducible exact nth_zero | with_reducible apply nth_succ)) ?_
      go_big_quiet_want
      (first | (with_reducible refine qldT rfl rfl HDT.out hsT ?_; simp only [Act.put, List.setIfInBounds_toArray, List.set_cons_succ, List.set_cons_zero]))
      go_big_quiet_on
      refine wpQuiet_nil ?_

      refine plan_opG (by repeat (first | with_reducible exact nth_zero | with_reducible apply nth_succ)) (by rfl) fun RR HRR => ?_
      have HRF := Lib.hid (HR.out w3 (HCE.out _ (HBW.out _ HC3.out)).ret (HCE.out _ (HBW.out _ HC3.out)).dom)
      have hFE := HFE.out
      go_wp2_with fail
      refine HRF.out.mono ?_
      rintro e w4 ⟨C', hc1, hc2, rfl, hr4, hb4⟩
      have HB4 := Lib.hid hb4; have HR4 := Lib.hid hr4
      clear hb4 hr4 hFE hc2
      go_wp2_with fail
      have HC4 : Hid (C0 w4) := (HCC.out _).2 (((HCC.out _).1 HC3.out).trans (HB4.out.mono ((HCC.out _).1 HC3.out).size))
      refine AfterT.normal (HRR _ _ (isC HC4.out) ?_)
      clear HRR RR
      have HS4 := Lib.hid (HSM.out w4 (Fresh w3 w4) C' (HBW.out _ HC4.out) HR4.out (fun b hb => hb.2))
      refine plan_opG (by repeat (first | with_reducible exact nth_zero | with_reducible apply nth_succ)) (by rfl) fun RR HRR => ?_
      go_wp2_with (go_at_call 38; refine HS4.out.mono ?_; rintro e w5 ⟨rfl, hb5⟩; have HB5 := Lib.hid hb5; clear hb5)
      have HC5 : Hid (C0 w5) := (HCC.out _).2 (((HCC.out _).1 HC4.out).trans (HB5.out.mono ((HCC.out _).1 HC4.out).size))
      refine AfterT.normal (HRR _ _ (isC HC5.out) ?_)
      clear HRR RR
      refine plan_done ?_
      go_wp2_with fail
      all_goals refine NoPanic.normal ?_
      go_wp2_with fail
      go_ret
      exact ⟨rfl, (HCE.out _ (HBW.out _ HC5.out)).below⟩
  · as_aux_lemma =>
      have h0 : chkAll p t ≠ 0 := by rw [← hq]; exact hq0
      have e2 : (doR p t r).2 = q := by rw [doR_no h0, hq]
      have e1 : t2 = zeroT := by rw [ht2, doR_no h0]
      rw [e2]
      subst e1
      have HSM : Hid (∀ W : World, Below w1.heap.size w1 W → Calls Tryd.prog 38 #[.agg C, .agg #[.int .i64 0, .int .i64 0, .int .i64 0, .slice none 0 0, .slice none 0 0, .int .i64 0, .int .i64 0, .slice none 0 0, .slice none 0 0, .int .i64 0, .int .i64 0, .slice none 0 0, .slice none 0 0]] W fun e w' => e = .returned (.bool true) ∧ Below W.heap.size W w') := fun W hb => sameTrace_true (Y := #[.int .i64 0, .int .i64 0, .int .i64 0, .slice none 0 0, .slice none 0 0, .int .i64 0, .int .i64 0, .slice none 0 0, .slice none 0 0, .int .i64 0, .int .i64 0, .slice none 0 0, .slice none 0 0]) (HCE.out W hb).rec2 (zero_cells (fun _ => False) W) (HCE.out W hb).dom2 (fun _ h => h.elim)
      have hne : (q != 0) = true := by simpa using hq0
      have hqq : (q == q) = true := by simp
      clear hq hR hF ht2 e2 h0 hq0
      go_enter Tryd.func15, Tryd.ntmps15
      go_upto_region 1 with fail
      rw [← hw1]
      clear hw1
      go_wp2_with (first
        | (with_reducible refine ldP rfl rfl rfl HL0.out.rp hsP ?_)
        | (with_reducible refine ldT rfl rfl rfl HL0.out.rt hsT ?_)
        | (with_reducible refine ldT rfl rfl rfl HL3.out.rc hsC ?_)
        | (go_at_call 35; (with_reducible refine HIC.out.mono ?_); rintro e w2 ⟨rfl, hb2⟩; have HB2 := Lib.hid hb2; clear hb2)
        | (go_at_call 10; (with_reducible refine (HIR.out _).mono ?_); rintro e w3 ⟨rfl, hb3⟩; have HB3 := Lib.hid (HB2.out.trans (hb3.mono HB2.out.size)); have HL3 := Lib.hid (HCE.out _ HB3.out); clear hb3)
        | (go_at_call 38; (with_reducible refine (HSM.out _ HB3.out).mono ?_); rintro e w4 ⟨rfl, hb4⟩; have HB4 := Lib.hid (HB3.out.trans (hb4.mono HB3.out.size)); clear hb4))
      go_ret
      exact ⟨rfl, (HCE.out _ HB4.out).below⟩
end Go.Proofs.YtekofpigmggbbaaDoor.pas
