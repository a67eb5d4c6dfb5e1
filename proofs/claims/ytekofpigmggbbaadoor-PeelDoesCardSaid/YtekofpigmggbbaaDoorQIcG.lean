/- ir.Check, of code that may be: walked. -/
import Derived.Test.YtekofpigmggbbaaDoorQIcF
import Derived.Test.YtekofpigmggbbaaDoorQHead
import Derived.Deep.DrawnRows
import Derived.Deep.DeepCutAuto
set_option linter.unusedVariables false
set_option linter.unusedSimpArgs false
namespace Go.Proofs.YtekofpigmggbbaaDoor.chk
open Go.Bk Go.RowKit Go.Proofs.YtekofpigmggbbaaDoor.ir
attribute [local go_sem ↓] Go.wp_at_zero Go.wp_at_succ
/-- A value of two parts is built. -/
theorem opGoal_build2 {P : Program} {ops : Array Oper} {Q : Exit → Act → World → Prop} {C : World → Prop} {k : Nat} {o : Oper} {K : Act → World → Prop} {a : Act} {w : World} {t : TypeId} {i0 i1 : Nat} {x0 x1 : Operand} {u0 u1 v : Value} (h0 : ops[k]? = some o) (hC : C w) (hg : o.guard = none) (ho : o.op = .build t #[(i0, x0), (i1, x1)])
 (e0 : a.eval x0 = u0) (e1 : a.eval x1 = u1) (hr : (Instr.build t #[(i0, u0), (i1, u1)]).run P w = .ok v w) (h : K (a.put o.dst v) w) : opGoal P ops Q C k K a w := by
 unfold opGoal
 rw [h0]
 have hw : Region.wanted o (yielded ops a.tmps) = true := by simp [Region.wanted, hg]
 show if _ then _ else _
 rw [if_pos hw]
 refine .inl ?_
 unfold Oper.wp execOp
 simp only [ho, List.map_toArray, List.map_cons, List.map_nil, e0, e1]
 rw [Sem.run_bind, hr]
 exact ⟨hC, h⟩
theorem buildK_run (w : World) (a0 a1 a2 a3 a4 b0 b1 b2 b3 b4 b5 b6 b7 b8 b9 b10 b11 b12 : Value) : (Instr.build 140 #[(0, .agg #[a0, a1, a2, a3, a4]), (1, .agg #[b0, b1, b2, b3, b4, b5, b6, b7, b8, b9, b10, b11, b12])]).run Tryd.prog w = .ok (.agg #[a0, a1, a2, a3, a4, b0, b1, b2, b3, b4, b5, b6, b7, b8, b9, b10, b11, b12]) w := by
 simp [Instr.build, go_sem]
set_option maxRecDepth 100000 in
set_option maxHeartbeats 8000000 in
theorem icheck_good {S : Nat → Prop} {w : World} {P T : Array Value} {p : Api.Prog} {t : Api.TTrace} (hp : Rep.cells S w P.toList p) (ht : Rep.cells S w T.toList t) (hS : ∀ b, S b → b < w.heap.size) (hA : cod.Asc w) (hgood : cod.codeChk p = 0) :
 Calls Tryd.prog 35 #[.agg P, .agg T] w fun e w' => e = .returned (.int .i64 (traceChk p t)) ∧ Below w.heap.size w w' := by
 obtain ⟨a0, nF, c0, hP⟩ := pin_of hp
 obtain ⟨aI, nI, cI, aE, nE, cE, a7, n7, c7, a8, n8, c8, b7, m7, d7, b8, m8, d8, hT⟩ := tall_of ht
 have hsT : T.size = 13 := rep_size ht
 have hsP := hP.size
 have hI9 := hT.fewI; have hE9 := hT.fewE
 have hF9 : nF ≤ 9223372036854775807 := by rw [← hP.len]; have := hP.fns.small; unfold maxLen at this; omega
 obtain ⟨w2, hw2⟩ : ∃ w2, w2 = (w.alloc (.cells P 26)).alloc (.cells T 34) := ⟨_, rfl⟩
 obtain ⟨r1, r2, hb2, hz2⟩ := rows2 w P T _ _ w2 hw2
 have HCE : Hid (∀ W, Below w2.heap.size w2 W → Row W w.heap.size 26 P ∧ Row W (w.heap.size + 1) 34 T ∧ Rep.cells S W P.toList p ∧ Rep.cells S W T.toList t ∧ PIn S W P p a0 nF c0 ∧ TAll S W T t aI nI cI aE nE cE a7 n7 c7 a8 n8 c8 b7 m7 d7 b8 m8 d8 ∧ (∀ b, S b → b < W.heap.size) ∧ Below w.heap.size w W) := fun W hb => by
  have hbw : Below w.heap.size w W := hb2.trans (hb.mono hb2.size)
  have hk : ∀ b, S b → W.heap[b]? = w.heap[b]? := fun b hb' => hbw.block b (hS b hb')
  exact ⟨r1.keep (hb.block _ r1.lt), r2.keep (hb.block _ r2.lt), Rep.keep hk hp, Rep.keep hk ht, ⟨hP.size, hP.c0, hP.fns.keep hk, hP.len⟩, hT.keep hk, fun b hb' => Nat.lt_of_lt_of_le (hS b hb') hbw.size, hbw⟩
 have HC0 := Lib.hid hP.c0; have HCE' := Lib.hid hT.eq; have HLI := Lib.hid hT.lenI; have HLE := Lib.hid hT.lenE; have HLF := Lib.hid hP.len
 have HG := Lib.hid hgood
 have HH2 : Hid (Below w2.heap.size w2 w2) := Below.refl _ _
 have HEN := Lib.hid hb2
 have t0 := r2.cell (j := 0) (by rw [hT.eq]; rfl); have t1 := r2.cell (j := 1) (by rw [hT.eq]; rfl); have t2 := r2.cell (j := 2) (by rw [hT.eq]; rfl); have t3 := r2.cell (j := 3) (by rw [hT.eq]; rfl); have t4 := r2.cell (j := 4) (by rw [hT.eq]; rfl)
 have p0 := r1.cell hP.c0
 have l1 := r1.lt; have l2 := r2.lt
 obtain ⟨res, hres⟩ : ∃ r, r = traceChk p t := ⟨_, rfl⟩
 have HRES := Lib.hid hres
 rw [← hres]
 have HCC0 : Hid (Calls Tryd.prog 25 #[.agg P] w2 fun e w' => e = .returned (.int .i64 0) ∧ Below w2.heap.size w2 w') := by
  have hk : ∀ b, S b → w2.heap[b]? = w.heap[b]? := fun b hb' => hb2.block b (hS b hb')
  rw [← hgood]
  exact pcheck_any (Rep.keep hk hp) (fun b hb' => Nat.lt_of_lt_of_le (hS b hb') hb2.size) (hA.keep hb2)
 clear hres hp ht hS hgood hP hT r1 r2 hb2 hz2 hA
 go_enter Tryd.func35, Tryd.ntmps35
 go_upto_region 1 with fail
 rw [← hw2]
 clear hw2
 generalize w.heap.size + 1 = gT at HCE t0 t1 t2 t3 t4 l2 ⊢
 have HCC : Hid (Calls Tryd.prog 25 #[.agg P] w2 fun e w' => e = .returned (.int .i64 0) ∧ Below w2.heap.size w2 w') := HCC0.out
 have HRP0 : Hid (Row w2 w.heap.size 26 P) := (HCE.out w2 HH2.out).1
 clear t0 t1 t2 t3 t4 p0 l1 l2
 go_upto_region 4 with (first
  | (with_reducible refine ldP rfl rfl rfl HRP0.out hsP ?_)
  | (go_at_call 25; (with_reducible refine HCC.out.mono ?_); rintro e w3 ⟨rfl, hb3⟩; have HB3 := Lib.hid hb3; clear hb3))
 have HEN : Hid (Below w.heap.size w w3) := (HCE.out w3 HB3.out).2.2.2.2.2.2.2
 obtain ⟨k1, k2, k3, k4, k5, k6, k7, k8⟩ := HCE.out w3 HB3.out
 have t0 := k2.cell (j := 0) (by rw [k6.eq]; rfl); have t1 := k2.cell (j := 1) (by rw [k6.eq]; rfl); have t2 := k2.cell (j := 2) (by rw [k6.eq]; rfl); have t3 := k2.cell (j := 3) (by rw [k6.eq]; rfl); have t4 := k2.cell (j := 4) (by rw [k6.eq]; rfl)
 have p0 := k1.cell k5.c0
 have l1 := k1.lt; have l2 := k2.lt
 clear k1 k2 k3 k4 k5 k6 k7 k8
 by_cases hlarge : 300 < nI ∨ 200 < nE
 · have HF : Hid (res = 2) := by show _ = _; rw [HRES.out]; unfold traceChk; rw [if_pos (by rw [HLI.out, HLE.out]; exact hlarge)]
   rcases (show 300 < nI ∨ (¬ 300 < nI ∧ 200 < nE) by omega) with d1 | ⟨d1, d2⟩
   all_goals
    clear hlarge
    go_wp2_with fail
    go_ret
    exact ⟨by rw [HF.out]; rfl, HEN.out⟩
 have d1 : ¬ 300 < nI := by omega
 have d2 : ¬ 200 < nE := by omega
 have HRES : Hid (res = match (if t.Fn < 0 then none else p.Fns[t.Fn.toNat]?) with
  | none => 3
  | some f =>
    if t.At < 0 ∨ (f.Code.length : Int) ≤ t.At ∨ t.Loop < 0 ∨ (nI : Int) < t.Loop then 3
    else if insTo f.Regs f.Code.length t.Ins t.Exits t.Ins.length ≠ 0 then insTo f.Regs f.Code.length t.Ins t.Exits t.Ins.length
    else if endOk f.Regs f.Code.length t = false then 3
    else 0) := by
  show _ = _
  rw [HRES.out, ← HLI.out]
  unfold traceChk
  rw [if_neg (by rw [HLI.out, HLE.out]; exact hlarge)]
  rfl
 have d1' : decide ((300 : Int) < (nI : Int)) = false := decide_eq_false (by omega)
 have d2' : decide ((200 : Int) < (nE : Int)) = false := decide_eq_false (by omega)
 clear hlarge
 go_upto_region 6 with fail
 by_cases hfn : t.Fn < 0 ∨ (nF : Int) ≤ t.Fn
 · have HF : Hid (res = 3) := by
    show _ = _
    rw [HRES.out]
    rcases hfn with h | h
    · rw [if_pos h]
    · by_cases h0 : t.Fn < 0
      · rw [if_pos h0]
      · rw [if_neg h0, List.getElem?_eq_none (by rw [HLF.out]; omega)]
   rcases (show t.Fn < 0 ∨ (decide (t.Fn < 0) = false ∧ decide ((nF : Int) ≤ t.Fn) = true) by
    by_cases h0 : t.Fn < 0
    · exact .inl h0
    · exact .inr ⟨decide_eq_false h0, decide_eq_true (by omega)⟩) with e1 | ⟨e1, e2⟩
   all_goals
    clear hfn
    go_quiet (fail)
    go_wp2_with fail
    go_ret
    exact ⟨by rw [HF.out]; rfl, HEN.out.trans (((Quiet.refl _).more _).below _)⟩
 obtain ⟨fk, hfk⟩ : ∃ fk : Nat, t.Fn = fk := ⟨t.Fn.toNat, by omega⟩
 obtain ⟨f, hf⟩ : ∃ f, p.Fns[fk]? = some f := ⟨_, List.getElem?_eq_getElem (by rw [HLF.out]; omega)⟩
 have HFK := Lib.hid hfk; have HF0 := Lib.hid hf
 have HRES : Hid (res = if t.At < 0 ∨ (f.Code.length : Int) ≤ t.At ∨ t.Loop < 0 ∨ (nI : Int) < t.Loop then 3
  else if insTo f.Regs f.Code.length t.Ins t.Exits t.Ins.length ≠ 0 then insTo f.Regs f.Code.length t.Ins t.Exits t.Ins.length
  else if endOk f.Regs f.Code.length t = false then 3
  else 0) := by
  show _ = _
  rw [HRES.out, if_neg (by omega), hfk]
  simp only [Int.toNat_natCast, hf]
 obtain ⟨bf, of, b3, d3, b4, d4, rfl, hSf, -, -, -, -, f4, -, -, -, g4⟩ := api_Fn_elem (HCE.out w3 HB3.out).2.2.2.2.1.fns hf
 have hbf := (HCE.out w3 HB3.out).2.2.2.2.2.2.1 bf hSf
 obtain ⟨nO, hnO⟩ : ∃ n, n = f.Code.length := ⟨_, rfl⟩
 have hO9 : nO ≤ 9223372036854775807 := by rw [hnO]; have := g4.2.2.small; unfold maxLen at this; omega
 rw [← hnO] at f4 HRES
 rw [hfk] at t0
 have hfn' : (fk : Int) < (nF : Int) := by omega
 have HNO := Lib.hid hnO
 have e5 : decide (nF ≤ fk) = false := decide_eq_false (by omega)
 have e6 : decide ((fk : Int) < 0) = false := decide_eq_false (by omega)
 have e7 : decide ((nF : Int) ≤ (fk : Int)) = false := decide_eq_false (by omega)
 clear hfn hfk hf hSf g4 hnO
 by_cases hbad : t.At < 0 ∨ (nO : Int) ≤ t.At ∨ t.Loop < 0 ∨ (nI : Int) < t.Loop
 · have HF : Hid (res = 3) := by show _ = _; rw [HRES.out, if_pos hbad]
   rcases (show decide (t.At < 0) = true ∨ (decide (t.At < 0) = false ∧ decide ((nO : Int) ≤ t.At) = true) ∨ (decide (t.At < 0) = false ∧ decide ((nO : Int) ≤ t.At) = false ∧ decide (t.Loop < 0) = true) ∨ (decide (t.At < 0) = false ∧ decide ((nO : Int) ≤ t.At) = false ∧ decide (t.Loop < 0) = false ∧ decide ((nI : Int) < t.Loop) = true) by
    simp only [decide_eq_true_eq, decide_eq_false_iff_not]
    omega) with e1 | ⟨e1, e2⟩ | ⟨e1, e2, e3⟩ | ⟨e1, e2, e3, e4⟩
   all_goals
    clear hbad
    go_quiet (fail)
    go_wp2_with fail
    go_ret
    exact ⟨by rw [HF.out]; rfl, HEN.out.trans (((Quiet.refl _).more _).below _)⟩
 have HRES : Hid (res = if insTo f.Regs nO t.Ins t.Exits t.Ins.length ≠ 0 then insTo f.Regs nO t.Ins t.Exits t.Ins.length
  else if endOk f.Regs nO t = false then 3
  else 0) := by show _ = _; rw [HRES.out, if_neg hbad]
 have e1 : decide (t.At < 0) = false := decide_eq_false (by omega)
 have e2 : decide ((nO : Int) ≤ t.At) = false := decide_eq_false (by omega)
 have e3 : decide (t.Loop < 0) = false := decide_eq_false (by omega)
 have e4 : decide ((nI : Int) < t.Loop) = false := decide_eq_false (by omega)
 have hL0 : 0 ≤ t.Loop ∧ t.Loop ≤ (nI : Int) := by omega
 have HL := Lib.hid hL0
 clear hbad hL0
 go_quiet (fail)
 have HB4 : Hid (Below w2.heap.size w2 (w3.drewN nq)) := HB3.out.trans ((((Quiet.refl _).more _).below _).mono HB3.out.size)
 generalize w3.drewN nq = w4 at HB4 ⊢
 clear t0 t1 t2 t3 t4 p0 f4 l1 l2 e1 e2 e3 e4 hbf
 obtain ⟨k1, k2, k3, k4, k5, k6, k7, k8⟩ := HCE.out w4 HB4.out
 obtain ⟨bf', of', b3, n3, d3, b4, n4, d4, he, hSf, f0, f1, f2, f3, f4⟩ : ∃ (bf' of' : Nat) (b3 : Option Addr) (n3 d3 : Nat) (b4 : Option Addr) (n4 d4 : Nat), some (⟨bf, of, none⟩ : Addr) = some ⟨bf', of', none⟩ ∧ S bf' ∧ w4.cell? ⟨bf', of' + fk * 5, none⟩ = some (.int .i64 f.Params) ∧ w4.cell? ⟨bf', of' + fk * 5 + 1, none⟩ = some (.int .i64 f.Regs) ∧ w4.cell? ⟨bf', of' + fk * 5 + 2, none⟩ = some (.bool f.Gen) ∧ w4.cell? ⟨bf', of' + fk * 5 + 3, none⟩ = some (.slice b3 n3 d3) ∧ w4.cell? ⟨bf', of' + fk * 5 + 4, none⟩ = some (.slice b4 n4 d4) ∧ n4 = nO := by
  obtain ⟨b, o, b3, d3, b4, d4, h1, h2, h3, h4, h5, h6, h7, -⟩ := api_Fn_elem k5.fns HF0.out
  exact ⟨b, o, b3, _, d3, b4, _, d4, h1, h2, h3, h4, h5, h6, h7, HNO.out.symm⟩
 obtain ⟨rfl, rfl⟩ : bf = bf' ∧ of = of' := by injection he with he; injection he with e1 e2; exact ⟨e1, e2⟩
 obtain ⟨f4, rfl⟩ := f4
 have hbf := k7 bf hSf
 have p0 := k1.cell k5.c0
 have t0 := k2.cell (j := 0) (by rw [k6.eq]; rfl); have t1 := k2.cell (j := 1) (by rw [k6.eq]; rfl); have t2 := k2.cell (j := 2) (by rw [k6.eq]; rfl); have t3 := k2.cell (j := 3) (by rw [k6.eq]; rfl); have t4 := k2.cell (j := 4) (by rw [k6.eq]; rfl)
 have t5 := k2.cell (j := 5) (by rw [k6.eq]; rfl); have t6 := k2.cell (j := 6) (by rw [k6.eq]; rfl); have t7 := k2.cell (j := 7) (by rw [k6.eq]; rfl); have t8 := k2.cell (j := 8) (by rw [k6.eq]; rfl); have t9 := k2.cell (j := 9) (by rw [k6.eq]; rfl)
 have t10 := k2.cell (j := 10) (by rw [k6.eq]; rfl); have t11 := k2.cell (j := 11) (by rw [k6.eq]; rfl); have t12 := k2.cell (j := 12) (by rw [k6.eq]; rfl)
 rw [HFK.out] at t0
 have l1 := k1.lt; have l2 := k2.lt
 clear k1 k2 k3 k4 k5 k6 k7 k8 he hSf
 go_upto_region 8 with fail
 obtain ⟨C, hC⟩ : ∃ C : Array Value, C = #[.int .i64 f.Params, .int .i64 f.Regs, .bool f.Gen, .slice b3 n3 d3, .slice b4 n4 d4, .int .i64 fk, .int .i64 t.At, .int .i64 t.Loop, .slice aI nI cI, .slice aE nE cE, .int .i64 t.Turn.At, .int .i64 t.Turn.Steps, .slice a7 n7 c7, .slice a8 n8 c8, .int .i64 t.Back.At, .int .i64 t.Back.Steps, .slice b7 m7 d7, .slice b8 m8 d8] := ⟨_, rfl⟩
 have HKS : Hid (∀ W, Below w4.heap.size w4 W → W.cell? ⟨w.heap.size, 0, none⟩ = some (.slice (some ⟨bf, of, none⟩) nF c0) ∧ W.cell? ⟨bf, of + fk * 5, none⟩ = some (.int .i64 f.Params) ∧ W.cell? ⟨bf, of + fk * 5 + 1, none⟩ = some (.int .i64 f.Regs) ∧ W.cell? ⟨bf, of + fk * 5 + 2, none⟩ = some (.bool f.Gen) ∧ W.cell? ⟨bf, of + fk * 5 + 3, none⟩ = some (.slice b3 n3 d3) ∧ W.cell? ⟨bf, of + fk * 5 + 4, none⟩ = some (.slice b4 n4 d4) ∧ W.cell? ⟨gT, 0, none⟩ = some (.int .i64 fk) ∧ W.cell? ⟨gT, 1, none⟩ = some (.int .i64 t.At) ∧ W.cell? ⟨gT, 2, none⟩ = some (.int .i64 t.Loop) ∧ W.cell? ⟨gT, 3, none⟩ = some (.slice aI nI cI) ∧ W.cell? ⟨gT, 4, none⟩ = some (.slice aE nE cE) ∧ W.cell? ⟨gT, 5, none⟩ = some (.int .i64 t.Turn.At) ∧ W.cell? ⟨gT, 6, none⟩ = some (.int .i64 t.Turn.Steps) ∧ W.cell? ⟨gT, 7, none⟩ = some (.slice a7 n7 c7) ∧ W.cell? ⟨gT, 8, none⟩ = some (.slice a8 n8 c8) ∧ W.cell? ⟨gT, 9, none⟩ = some (.int .i64 t.Back.At) ∧ W.cell? ⟨gT, 10, none⟩ = some (.int .i64 t.Back.Steps) ∧ W.cell? ⟨gT, 11, none⟩ = some (.slice b7 m7 d7) ∧ W.cell? ⟨gT, 12, none⟩ = some (.slice b8 m8 d8)) := fun W hb => ⟨(hb.cell (p := ⟨w.heap.size, 0, none⟩) l1).trans p0, (hb.cell (p := ⟨bf, of + fk * 5, none⟩) hbf).trans f0, (hb.cell (p := ⟨bf, of + fk * 5 + 1, none⟩) hbf).trans f1, (hb.cell (p := ⟨bf, of + fk * 5 + 2, none⟩) hbf).trans f2, (hb.cell (p := ⟨bf, of + fk * 5 + 3, none⟩) hbf).trans f3, (hb.cell (p := ⟨bf, of + fk * 5 + 4, none⟩) hbf).trans f4, (hb.cell (p := ⟨gT, 0, none⟩) l2).trans t0, (hb.cell (p := ⟨gT, 1, none⟩) l2).trans t1, (hb.cell (p := ⟨gT, 2, none⟩) l2).trans t2, (hb.cell (p := ⟨gT, 3, none⟩) l2).trans t3, (hb.cell (p := ⟨gT, 4, none⟩) l2).trans t4, (hb.cell (p := ⟨gT, 5, none⟩) l2).trans t5, (hb.cell (p := ⟨gT, 6, none⟩) l2).trans t6, (hb.cell (p := ⟨gT, 7, none⟩) l2).trans t7, (hb.cell (p := ⟨gT, 8, none⟩) l2).trans t8, (hb.cell (p := ⟨gT, 9, none⟩) l2).trans t9, (hb.cell (p := ⟨gT, 10, none⟩) l2).trans t10, (hb.cell (p := ⟨gT, 11, none⟩) l2).trans t11, (hb.cell (p := ⟨gT, 12, none⟩) l2).trans t12⟩
 go_cut [6] (fun s6 wz => s6 = .pointer (some ⟨w4.heap.size, 0, none⟩) ∧ Below w4.heap.size w4 wz ∧ Row wz w4.heap.size 140 C)
 case first =>
  as_aux_lemma =>
   clear HCE HCC HCC0 HRES HEN HRP0 HC0 HCE' HLI HLE HLF HG HH2 HFK HF0 HNO HL HB3 HB4
   have HX : Hid (∀ X, C = X → Below w4.heap.size w4 (w4.drew.alloc (.cells X 140)) ∧ Row (w4.drew.alloc (.cells X 140)) w4.heap.size 140 C) := fun X hX => by
    subst hX
    exact ⟨(Below.refl _ _).drew.alloc (Nat.le_refl _) _, row_new w4.drew C _⟩
   obtain ⟨C0, HCC⟩ : ∃ C0 : World → Prop, Hid (∀ W, C0 W ↔ Below w4.heap.size w4 W) := ⟨_, fun _ => Iff.rfl⟩
   have HC0 : Hid (C0 w4.drew) := (HCC.out _).2 (Below.refl _ _).drew
   have HCA : Hid (∀ o, C0 (w4.drew.alloc o)) := fun o => (HCC.out _).2 ((Below.refl _ _).drew.alloc (Nat.le_refl _) _)
   have HNEC : Nonempty (HeldW C0) := ⟨⟨_, HC0.out⟩⟩
   refine wp_region_tree C0 (.quiet 0 (.quiet 1 (.quiet 2 (.quiet 3 (.quiet 4 (.quiet 5 (.quiet 6 (.both 7 (.op 8 .tail) 8 (.op 7 .tail))))))))) 9 20 (by kernel_rfl) (by kernel_rfl) (by kernel_rfl) (by kernel_rfl) HC0.out ?_
   simp only [List.drop_succ_cons, List.drop_zero]
   have hd0 : ∀ d : HeldW C0, d.val.cell? ⟨w.heap.size, 0, none⟩ = some (.slice (some ⟨bf, of, none⟩) nF c0) := fun d => (HKS.out _ ((HCC.out _).1 d.ok)).1
   have hd1 : ∀ d : HeldW C0, d.val.cell? ⟨bf, of + fk * 5, none⟩ = some (.int .i64 f.Params) := fun d => (HKS.out _ ((HCC.out _).1 d.ok)).2.1
   have hd2 : ∀ d : HeldW C0, d.val.cell? ⟨bf, of + fk * 5 + 1, none⟩ = some (.int .i64 f.Regs) := fun d => (HKS.out _ ((HCC.out _).1 d.ok)).2.2.1
   have hd3 : ∀ d : HeldW C0, d.val.cell? ⟨bf, of + fk * 5 + 2, none⟩ = some (.bool f.Gen) := fun d => (HKS.out _ ((HCC.out _).1 d.ok)).2.2.2.1
   have hd4 : ∀ d : HeldW C0, d.val.cell? ⟨bf, of + fk * 5 + 3, none⟩ = some (.slice b3 n3 d3) := fun d => (HKS.out _ ((HCC.out _).1 d.ok)).2.2.2.2.1
   have hd5 : ∀ d : HeldW C0, d.val.cell? ⟨bf, of + fk * 5 + 4, none⟩ = some (.slice b4 n4 d4) := fun d => (HKS.out _ ((HCC.out _).1 d.ok)).2.2.2.2.2.1
   have hd6 : ∀ d : HeldW C0, d.val.cell? ⟨gT, 0, none⟩ = some (.int .i64 fk) := fun d => (HKS.out _ ((HCC.out _).1 d.ok)).2.2.2.2.2.2.1
   have hd7 : ∀ d : HeldW C0, d.val.cell? ⟨gT, 1, none⟩ = some (.int .i64 t.At) := fun d => (HKS.out _ ((HCC.out _).1 d.ok)).2.2.2.2.2.2.2.1
   have hd8 : ∀ d : HeldW C0, d.val.cell? ⟨gT, 2, none⟩ = some (.int .i64 t.Loop) := fun d => (HKS.out _ ((HCC.out _).1 d.ok)).2.2.2.2.2.2.2.2.1
   have hd9 : ∀ d : HeldW C0, d.val.cell? ⟨gT, 3, none⟩ = some (.slice aI nI cI) := fun d => (HKS.out _ ((HCC.out _).1 d.ok)).2.2.2.2.2.2.2.2.2.1
   have hd10 : ∀ d : HeldW C0, d.val.cell? ⟨gT, 4, none⟩ = some (.slice aE nE cE) := fun d => (HKS.out _ ((HCC.out _).1 d.ok)).2.2.2.2.2.2.2.2.2.2.1
   have hd11 : ∀ d : HeldW C0, d.val.cell? ⟨gT, 5, none⟩ = some (.int .i64 t.Turn.At) := fun d => (HKS.out _ ((HCC.out _).1 d.ok)).2.2.2.2.2.2.2.2.2.2.2.1
   have hd12 : ∀ d : HeldW C0, d.val.cell? ⟨gT, 6, none⟩ = some (.int .i64 t.Turn.Steps) := fun d => (HKS.out _ ((HCC.out _).1 d.ok)).2.2.2.2.2.2.2.2.2.2.2.2.1
   have hd13 : ∀ d : HeldW C0, d.val.cell? ⟨gT, 7, none⟩ = some (.slice a7 n7 c7) := fun d => (HKS.out _ ((HCC.out _).1 d.ok)).2.2.2.2.2.2.2.2.2.2.2.2.2.1
   have hd14 : ∀ d : HeldW C0, d.val.cell? ⟨gT, 8, none⟩ = some (.slice a8 n8 c8) := fun d => (HKS.out _ ((HCC.out _).1 d.ok)).2.2.2.2.2.2.2.2.2.2.2.2.2.2.1
   have hd15 : ∀ d : HeldW C0, d.val.cell? ⟨gT, 9, none⟩ = some (.int .i64 t.Back.At) := fun d => (HKS.out _ ((HCC.out _).1 d.ok)).2.2.2.2.2.2.2.2.2.2.2.2.2.2.2.1
   have hd16 : ∀ d : HeldW C0, d.val.cell? ⟨gT, 10, none⟩ = some (.int .i64 t.Back.Steps) := fun d => (HKS.out _ ((HCC.out _).1 d.ok)).2.2.2.2.2.2.2.2.2.2.2.2.2.2.2.2.1
   have hd17 : ∀ d : HeldW C0, d.val.cell? ⟨gT, 11, none⟩ = some (.slice b7 m7 d7) := fun d => (HKS.out _ ((HCC.out _).1 d.ok)).2.2.2.2.2.2.2.2.2.2.2.2.2.2.2.2.2.1
   have hd18 : ∀ d : HeldW C0, d.val.cell? ⟨gT, 12, none⟩ = some (.slice b8 m8 d8) := fun d => (HKS.out _ ((HCC.out _).1 d.ok)).2.2.2.2.2.2.2.2.2.2.2.2.2.2.2.2.2.2
   have hdl1 : ∀ d : HeldW C0, w.heap.size < d.val.heap.size := fun d => Nat.lt_of_lt_of_le l1 ((HCC.out _).1 d.ok).size
   have hdl2 : ∀ d : HeldW C0, bf < d.val.heap.size := fun d => Nat.lt_of_lt_of_le hbf ((HCC.out _).1 d.ok).size
   have hdl3 : ∀ d : HeldW C0, gT < d.val.heap.size := fun d => Nat.lt_of_lt_of_le l2 ((HCC.out _).1 d.ok).size
   clear p0 f0 f1 f2 f3 f4 t0 t1 t2 t3 t4 t5 t6 t7 t8 t9 t10 t11 t12
   refine tree_quiet (by repeat (first | with_reducible exact nth_zero | with_reducible apply nth_succ)) ?_
   go_big_quiet_step (fail)
   refine wpQuiet_nil ?_
   refine tree_quiet (by repeat (first | with_reducible exact nth_zero | with_reducible apply nth_succ)) ?_
   go_big_quiet_step (fail)
   refine wpQuiet_nil ?_
   refine tree_quiet (by repeat (first | with_reducible exact nth_zero | with_reducible apply nth_succ)) ?_
   go_big_quiet_step (fail)
   refine wpQuiet_nil ?_
   refine tree_quiet (by repeat (first | with_reducible exact nth_zero | with_reducible apply nth_succ)) ?_
   go_big_quiet_step (fail)
   refine wpQuiet_nil ?_
   refine tree_quiet (by repeat (first | with_reducible exact nth_zero | with_reducible apply nth_succ)) ?_
   go_big_quiet_step (fail)
   refine wpQuiet_nil ?_
   refine tree_quiet (by repeat (first | with_reducible exact nth_zero | with_reducible apply nth_succ)) ?_
   go_big_quiet_step (fail)
   refine wpQuiet_nil ?_
   refine tree_quiet (by repeat (first | with_reducible exact nth_zero | with_reducible apply nth_succ)) ?_
   go_big_quiet_step (fail)
   refine wpQuiet_nil ?_
   refine tree_both ?_ ?_
   · refine opGoal_build2 (by repeat (first | with_reducible exact nth_zero | with_reducible apply nth_succ)) (isC (HC0.out)) (by rfl) (by rfl) (u0 := .agg #[.int .i64 f.Params, .int .i64 f.Regs, .bool f.Gen, .slice b3 n3 d3, .slice b4 n4 d4]) (u1 := .agg #[.int .i64 fk, .int .i64 t.At, .int .i64 t.Loop, .slice aI nI cI, .slice aE nE cE, .int .i64 t.Turn.At, .int .i64 t.Turn.Steps, .slice a7 n7 c7, .slice a8 n8 c8, .int .i64 t.Back.At, .int .i64 t.Back.Steps, .slice b7 m7 d7, .slice b8 m8 d8]) (by simp [Act.eval]) (by simp [Act.eval]) (buildK_run _ _ _ _ _ _ _ _ _ _ _ _ _ _ _ _ _ _ _) ?_
     simp only [Act.put, List.setIfInBounds_toArray, List.set_cons_zero, List.set_cons_succ]
     refine opGoal_mk (by repeat (first | with_reducible exact nth_zero | with_reducible apply nth_succ)) (by rfl) fun RR HRR => ?_
     go_wp2_with fail
     refine AfterT.normal (HRR _ _ (isC (HCA.out _)) ?_)
     clear HRR RR
     refine tree_done ?_
     clear hd0 hd1 hd2 hd3 hd4 hd5 hd6 hd7 hd8 hd9 hd10 hd11 hd12 hd13 hd14 hd15 hd16 hd17 hd18 hdl1 hdl2 hdl3
     go_wp2_with fail
     all_goals refine NoPanic.normal ?_
     all_goals go_wp2_with fail
     all_goals go_meet
     all_goals exact ⟨rfl, HX.out _ hC⟩
   · refine opGoal_mk (by repeat (first | with_reducible exact nth_zero | with_reducible apply nth_succ)) (by rfl) fun RR HRR => ?_
     go_wp2_with fail
     refine AfterT.normal (HRR _ _ (isC (HCA.out _)) ?_)
     clear HRR RR
     refine opGoal_build2 (by repeat (first | with_reducible exact nth_zero | with_reducible apply nth_succ)) (isC (HCA.out _)) (by rfl) (by rfl) (u0 := .agg #[.int .i64 f.Params, .int .i64 f.Regs, .bool f.Gen, .slice b3 n3 d3, .slice b4 n4 d4]) (u1 := .agg #[.int .i64 fk, .int .i64 t.At, .int .i64 t.Loop, .slice aI nI cI, .slice aE nE cE, .int .i64 t.Turn.At, .int .i64 t.Turn.Steps, .slice a7 n7 c7, .slice a8 n8 c8, .int .i64 t.Back.At, .int .i64 t.Back.Steps, .slice b7 m7 d7, .slice b8 m8 d8]) (by simp [Act.eval]) (by simp [Act.eval]) (buildK_run _ _ _ _ _ _ _ _ _ _ _ _ _ _ _ _ _ _ _) ?_
     simp only [Act.put, List.setIfInBounds_toArray, List.set_cons_zero, List.set_cons_succ]
     refine tree_done ?_
     clear hd0 hd1 hd2 hd3 hd4 hd5 hd6 hd7 hd8 hd9 hd10 hd11 hd12 hd13 hd14 hd15 hd16 hd17 hd18 hdl1 hdl2 hdl3
     go_wp2_with fail
     all_goals refine NoPanic.normal ?_
     all_goals go_wp2_with fail
     all_goals go_meet
     all_goals exact ⟨rfl, HX.out _ hC⟩
 case rest =>
  obtain ⟨rfl, hb5, hrc⟩ := hcut
  obtain ⟨w5, hw5⟩ : ∃ w5 : World, w5 = wc := ⟨_, rfl⟩
  rw [← hw5] at hb5 hrc ⊢
  have hsC : C.size = 18 := by rw [hC]; rfl
  have HB5 : Hid (Below w2.heap.size w2 w5) := HB4.out.trans (hb5.mono HB4.out.size)
  have HRC5 := Lib.hid hrc
  have HKI : Hid (∀ W, Below w5.heap.size w5 W → KIn S W C f t b4 d4 aI nI cI aE nE cE ∧ (∀ b, S b → b < W.heap.size)) := fun W hb => by
   obtain ⟨k1, k2, k3, k4, k5, k6, k7, k8⟩ := HCE.out W (HB5.out.trans (hb.mono HB5.out.size))
   refine ⟨⟨hsC, by rw [hC]; rfl, by rw [hC, ← HNO.out]; rfl, by rw [hC]; rfl, by rw [hC]; rfl, k6.ins, k6.lenI, k6.fewI, k6.exits, k6.lenE, k6.fewE, ?_⟩, k7⟩
   rw [← HNO.out]; exact hO9
  have HRW : Hid (∀ W, Below w5.heap.size w5 W → Row W w4.heap.size 140 C) := fun W hb => HRC5.out.keep (hb.block _ HRC5.out.lt)
  have HEND : Hid (∀ W, Below w5.heap.size w5 W → Below w.heap.size w W) := fun W hb => (HCE.out W (HB5.out.trans (hb.mono HB5.out.size))).2.2.2.2.2.2.2
  have HTX : Hid (∀ W, Below w5.heap.size w5 W → Rep.cells S W [.int .i64 t.Turn.At, .int .i64 t.Turn.Steps, .slice a7 n7 c7, .slice a8 n8 c8] t.Turn ∧ Rep.cells S W [.int .i64 t.Back.At, .int .i64 t.Back.Steps, .slice b7 m7 d7, .slice b8 m8 d8] t.Back) := fun W hb => by
   obtain ⟨k1, k2, k3, k4, k5, k6, k7, k8⟩ := HCE.out W (HB5.out.trans (hb.mono HB5.out.size))
   exact ⟨k6.turn, k6.back⟩
  have HTA : Hid (∀ W, Below w5.heap.size w5 W → Arr S W aI t.Ins ∧ Arr S W aE t.Exits ∧ (∀ b, S b → b < W.heap.size)) := fun W hb => by
   obtain ⟨k1, k2, k3, k4, k5, k6, k7, k8⟩ := HCE.out W (HB5.out.trans (hb.mono HB5.out.size))
   exact ⟨k6.ins, k6.exits, k7⟩
  have HTC : Hid (∀ W, Below w5.heap.size w5 W → W.cell? ⟨gT, 1, none⟩ = some (.int .i64 t.At) ∧ W.cell? ⟨gT, 2, none⟩ = some (.int .i64 t.Loop) ∧ W.cell? ⟨gT, 3, none⟩ = some (.slice aI nI cI) ∧ W.cell? ⟨gT, 4, none⟩ = some (.slice aE nE cE) ∧ W.cell? ⟨gT, 5, none⟩ = some (.int .i64 t.Turn.At) ∧ W.cell? ⟨gT, 6, none⟩ = some (.int .i64 t.Turn.Steps) ∧ W.cell? ⟨gT, 7, none⟩ = some (.slice a7 n7 c7) ∧ W.cell? ⟨gT, 8, none⟩ = some (.slice a8 n8 c8) ∧ W.cell? ⟨gT, 9, none⟩ = some (.int .i64 t.Back.At) ∧ W.cell? ⟨gT, 10, none⟩ = some (.int .i64 t.Back.Steps) ∧ W.cell? ⟨gT, 11, none⟩ = some (.slice b7 m7 d7) ∧ W.cell? ⟨gT, 12, none⟩ = some (.slice b8 m8 d8) ∧ gT < W.heap.size) := fun W hb => by
   obtain ⟨k1, k2, k3, k4, k5, k6, k7, k8⟩ := HCE.out W (HB5.out.trans (hb.mono HB5.out.size))
   exact ⟨k2.cell (j := 1) (by rw [k6.eq]; rfl), k2.cell (j := 2) (by rw [k6.eq]; rfl), k2.cell (j := 3) (by rw [k6.eq]; rfl), k2.cell (j := 4) (by rw [k6.eq]; rfl), k2.cell (j := 5) (by rw [k6.eq]; rfl), k2.cell (j := 6) (by rw [k6.eq]; rfl), k2.cell (j := 7) (by rw [k6.eq]; rfl), k2.cell (j := 8) (by rw [k6.eq]; rfl), k2.cell (j := 9) (by rw [k6.eq]; rfl), k2.cell (j := 10) (by rw [k6.eq]; rfl), k2.cell (j := 11) (by rw [k6.eq]; rfl), k2.cell (j := 12) (by rw [k6.eq]; rfl), k2.lt⟩
  have HRG : Hid (∀ (W : World) (X : Array Value) (x : Api.TExit) (at' : Int), Below w5.heap.size w5 W → Rep.cells S W X.toList x → Calls Tryd.prog 84 #[.agg C, .agg X, .int .i64 at'] W fun e w' => e = .returned (.bool (exitOk f.Regs n4 t.Ins x at')) ∧ Below w5.heap.size w5 w') := fun W X x at' hb hx => by
   obtain ⟨a2, a3, nS, c2, nM, c3, hX⟩ := xin_of hx
   have h := cright_any (HKI.out W hb).1 hX (HKI.out W hb).2 at'
   rw [← HNO.out] at h
   exact h.mono fun e w' ⟨he, hb'⟩ => ⟨he, hb.trans (hb'.mono hb.size)⟩
  have HFM : Hid (∀ (W : World) (k : Nat) (x : Api.TIns), Below w5.heap.size w5 W → t.Ins[k]? = some x → (∀ z ∈ [x.A, x.B, x.C], I64 z) → Calls Tryd.prog 82 #[.agg C, formV (formOf x.Op).1, .agg #[.int .i64 x.Op, .int .i64 x.A, .int .i64 x.B, .int .i64 x.C, .int .i64 x.N, .int .i64 x.Exit, .int .i64 x.K.Kind, .int .i64 x.K.N], .int .i64 k] W fun e w' => e = .returned (.bool (insOk f.Regs n4 t.Ins t.Exits x k)) ∧ Below w5.heap.size w5 w') := fun W k x hb hx hI => by
   have hgood := good_fn HG.out HF0.out
   have h := cformed_any (HKI.out W hb).1 (HKI.out W hb).2 hI (by omega) (by omega) (k : Int)
   rw [← HNO.out] at h
   exact h.mono fun e w' ⟨he, hb'⟩ => ⟨he, hb.trans (hb'.mono hb.size)⟩
  have HB0 : Hid (Below w5.heap.size w5 w5) := Below.refl _ _
  clear hb5 hrc hw5 HKS HCE HB3 HB4 HB5 HCC HCC0 HRP0 HH2 HEN hC p0 f0 f1 f2 f3 f4 t0 t1 t2 t3 t4 t5 t6 t7 t8 t9 t10 t11 t12 l1 l2 hbf
  have HTB := Lib.hid (HTC.out _ HB0.out)
  obtain ⟨t1, t2, t3, t4, t5, t6, t7, t8, t9, t10, t11, t12, lT⟩ := HTB.out
  generalize w4.heap.size = gC at *
  go_wp2_with fail
  clear t1 t2 t3 t4 t5 t6 t7 t8 t9 t10 t11 t12 lT HTB
  go_loopw [83] (fun i wz => ∃ k : Nat, k ≤ nI ∧ i = .int .i64 k ∧ insTo f.Regs n4 t.Ins t.Exits k = 0 ∧ Below w5.heap.size w5 wz) (fun i _ => nI - (intOf i).toNat)
  case atStart => exact ⟨0, Nat.zero_le _, rfl, rfl, HB0.out⟩
  case round =>
   obtain ⟨k, hk, rfl, hin, hbr⟩ := hrel
   have HIN := Lib.hid hin; have HBR := Lib.hid hbr
   by_cases hlt : k < nI
   · as_aux_lemma =>
      obtain ⟨x, hx⟩ : ∃ x, t.Ins[k]? = some x := ⟨_, List.getElem?_eq_getElem (by rw [HLI.out]; exact hlt)⟩
      obtain ⟨hTI, -, hTS⟩ := HTA.out wr hbr
      obtain ⟨bi, oi, rfl, hSi, i0, i1, i2, i3, i4, i5, i6, i7, j0, j1, j2, j3, j4, j5, j6, j7⟩ := api_TIns_elem hTI hx
      have hbi := hTS bi hSi
      have HX := Lib.hid hx
      have HI : Hid (∀ z ∈ [x.A, x.B, x.C], I64 z) := by show ∀ z ∈ _, _; simp; exact ⟨j1, j2, j3⟩
      have HLEN : Hid (k + 1 ≤ t.Ins.length) := by show _ ≤ _; rw [HLI.out]; omega
      have HSTEP : Hid (insTo f.Regs n4 t.Ins t.Exits (k + 1) = if (formOf x.Op).2 = false then 7 else if insOk f.Regs n4 t.Ins t.Exits x k = false then 3 else 0) := by
       show (if insTo f.Regs n4 t.Ins t.Exits k = 0 then insC f.Regs n4 t.Ins t.Exits k else _) = _
       rw [if_pos HIN.out]
       unfold insC
       rw [HX.out]
      obtain ⟨q0, q1, q2, q3, q4, q5, hfv⟩ : ∃ (q0 q1 q2 : Int) (q3 q4 : Bool) (q5 : Int), formV (formOf x.Op).1 = .agg #[.int .i64 q0, .int .i64 q1, .int .i64 q2, .bool q3, .bool q4, .int .i64 q5] := ⟨_, _, _, _, _, _, rfl⟩
      obtain ⟨is, his⟩ : ∃ is, is = (formOf x.Op).2 := ⟨_, rfl⟩
      rw [← his] at HSTEP
      have HOF : Hid (∀ W, Calls Tryd.prog 77 #[.int .i64 x.Op] W fun e w' => e = .returned (.tuple #[.agg #[.int .i64 q0, .int .i64 q1, .int .i64 q2, .bool q3, .bool q4, .int .i64 q5], .bool is]) ∧ Below W.heap.size W w') := fun W => by
       rw [← hfv, his]
       exact of_any
      obtain ⟨io, hio⟩ : ∃ b, b = insOk f.Regs n4 t.Ins t.Exits x k := ⟨_, rfl⟩
      rw [← hio] at HSTEP
      have HFX : Hid (∀ W, Below w5.heap.size w5 W → Calls Tryd.prog 82 #[.agg C, .agg #[.int .i64 q0, .int .i64 q1, .int .i64 q2, .bool q3, .bool q4, .int .i64 q5], .agg #[.int .i64 x.Op, .int .i64 x.A, .int .i64 x.B, .int .i64 x.C, .int .i64 x.N, .int .i64 x.Exit, .int .i64 x.K.Kind, .int .i64 x.K.N], .int .i64 k] W fun e w' => e = .returned (.bool io) ∧ Below w5.heap.size w5 w') := fun W hb => by
       rw [← hfv, hio]
       exact HFM.out W k x hb HX.out HI.out
      clear hx hSi j0 j1 j2 j3 j4 j5 j6 j7 hin hTI hTS hbr hfv his hio
      go_upto_region 12 with fail
      generalize hW6 : wr.alloc (.cells #[.int .i64 x.Op, .int .i64 x.A, .int .i64 x.B, .int .i64 x.C, .int .i64 x.N, .int .i64 x.Exit, .int .i64 x.K.Kind, .int .i64 x.K.N] 43) = w6
      have hrw := row_new wr #[.int .i64 x.Op, .int .i64 x.A, .int .i64 x.B, .int .i64 x.C, .int .i64 x.N, .int .i64 x.Exit, .int .i64 x.K.Kind, .int .i64 x.K.N] 43
      rw [hW6] at hrw
      have HB6 : Hid (Below w5.heap.size w5 w6) := by rw [← hW6]; exact HBR.out.alloc HBR.out.size _
      have HRX := Lib.hid hrw
      have x0 := hrw.cell (j := 0) rfl
      have lx := hrw.lt
      clear hW6 hrw i0 i1 i2 i3 i4 i5 i6 i7
      cases is with
      | false =>
        have HF : Hid (res = 7) := by
         show _ = _
         have h7 : insTo f.Regs n4 t.Ins t.Exits (k + 1) = 7 := by rw [HSTEP.out]; rfl
         have h8 := insTo_stop (n := t.Ins.length) f.Regs n4 t.Ins (by rw [h7]; decide) HLEN.out
         rw [HRES.out, h8, h7]; rfl
        go_wp2_with (go_at_call 77; (with_reducible refine (HOF.out _).mono ?_); rintro e w7 ⟨rfl, hb7⟩; have HB7 := Lib.hid (HB6.out.trans (hb7.mono HB6.out.size)); clear hb7)
        go_ret
        exact ⟨by rw [HF.out]; rfl, HEND.out _ (HB7.out.alloc HB7.out.size _)⟩
      | true =>
        go_upto_region 15 with (go_at_call 77; (with_reducible refine (HOF.out _).mono ?_); rintro e w7 ⟨rfl, hb7⟩; have HB7 := Lib.hid hb7; clear hb7)
        generalize hW8 : w7.alloc (.cells #[.int .i64 q0, .int .i64 q1, .int .i64 q2, .bool q3, .bool q4, .int .i64 q5] 131) = w8
        have hb8 : Below w6.heap.size w6 w8 := by rw [← hW8]; exact HB7.out.alloc HB7.out.size _
        have hrw := row_new w7 #[.int .i64 q0, .int .i64 q1, .int .i64 q2, .bool q3, .bool q4, .int .i64 q5] 131
        rw [hW8] at hrw
        have HB8 : Hid (Below w5.heap.size w5 w8) := HB6.out.trans (hb8.mono HB6.out.size)
        have HRX8 := Lib.hid (HRX.out.keep (hb8.block _ HRX.out.lt))
        have HRC8 := Lib.hid (HRW.out _ HB8.out)
        have y0 := hrw.cell (j := 0) rfl; have y1 := hrw.cell (j := 1) rfl; have y2 := hrw.cell (j := 2) rfl; have y3 := hrw.cell (j := 3) rfl; have y4 := hrw.cell (j := 4) rfl; have y5 := hrw.cell (j := 5) rfl
        have ly := hrw.lt
        clear hW8 hrw hb8 x0 lx
        cases io with
        | false =>
          have HF : Hid (res = 3) := by
           show _ = _
           have h7 : insTo f.Regs n4 t.Ins t.Exits (k + 1) = 3 := by rw [HSTEP.out]; rfl
           have h8 := insTo_stop (n := t.Ins.length) f.Regs n4 t.Ins (by rw [h7]; decide) HLEN.out
           rw [HRES.out, h8, h7]; rfl
          go_wp2_with (first
           | (with_reducible refine ldC rfl rfl rfl HRC8.out hsC ?_)
           | (with_reducible refine ldI rfl rfl rfl HRX8.out rfl ?_)
           | (go_at_call 82; (with_reducible refine (HFX.out _ HB8.out).mono ?_); rintro e w9 ⟨rfl, hb9⟩; have HB9 := Lib.hid hb9; clear hb9))
          go_ret
          exact ⟨by rw [HF.out]; rfl, HEND.out _ HB9.out⟩
        | true =>
          have HZ : Hid (insTo f.Regs n4 t.Ins t.Exits (k + 1) = 0) := by show _ = _; rw [HSTEP.out]; rfl
          go_wp2_with (first
           | (with_reducible refine ldC rfl rfl rfl HRC8.out hsC ?_)
           | (with_reducible refine ldI rfl rfl rfl HRX8.out rfl ?_)
           | (go_at_call 82; (with_reducible refine (HFX.out _ HB8.out).mono ?_); rintro e w9 ⟨rfl, hb9⟩; have HB9 := Lib.hid hb9; clear hb9))
          go_roundw
          case rel => exact ⟨k + 1, by omega, by go_num, HZ.out, HB9.out⟩
          case measure => simp [intOf]; omega
   · as_aux_lemma =>
      have HRES : Hid (res = if endOk f.Regs n4 t = false then 3 else 0) := by
       show _ = _
       have hkn : k = t.Ins.length := by rw [HLI.out]; omega
       rw [HRES.out, ← hkn, if_neg (by rw [HIN.out]; simp)]
      obtain rfl : nI = k := by omega
      obtain ⟨xo, hxo⟩ : ∃ b, b = exitOk f.Regs n4 t.Ins t.Turn t.Loop := ⟨_, rfl⟩
      obtain ⟨ba, hba⟩ : ∃ b, b = bareX t.Turn := ⟨_, rfl⟩
      obtain ⟨tu, htu⟩ : ∃ b, b = (if 0 < t.Loop then decide (t.Turn.At = t.At) && xo else ba) := ⟨_, rfl⟩
      have HEO : Hid (endOk f.Regs n4 t = (tu && ((decide (t.Back.At = t.At) && exitOk f.Regs n4 t.Ins t.Back nI) && t.Exits.all fun x => exitOk f.Regs n4 t.Ins x nI))) := by
       show _ = _
       rw [htu, hxo, hba, ← HLI.out]
       rfl
      have HTUE := Lib.hid htu; have HXO := Lib.hid hxo; have HBA := Lib.hid hba
      have HTB := Lib.hid (HTC.out _ hbr)
      obtain ⟨t1, t2, t3, t4, t5, t6, t7, t8, t9, t10, t11, t12, lT⟩ := HTB.out
      have HRC := Lib.hid (HRW.out _ hbr)
      obtain ⟨hL0, hL1⟩ := HL.out
      clear hin hbr hlt hk HIN htu hxo hba
      go_upto_block 3 with fail
      go_cut [] (fun wz => (tu && (decide (t.Back.At = t.At) && exitOk f.Regs n4 t.Ins t.Back nI)) = true ∧ Below w5.heap.size w5 wz)
      case first =>
       as_aux_lemma =>
        by_cases hl : t.Loop = 0
        · have dl : (t.Loop == 0) = true := by simp [hl]
          have dl2 : decide (0 < t.Loop) = false := decide_eq_false (by omega)
          have HTT : Hid (tu = ba) := by show _ = _; rw [HTUE.out, if_neg (by omega)]
          have HBB : Hid (Calls Tryd.prog 83 #[.agg #[.int .i64 t.Turn.At, .int .i64 t.Turn.Steps, .slice a7 n7 c7, .slice a8 n8 c8]] wr fun e w' => e = .returned (.bool ba) ∧ Below w5.heap.size w5 w') := by
           rw [HBA.out]
           obtain ⟨a2', c2', a3', c3', e, -, -, ⟨p1, -, r2⟩, ⟨p2, -, r3⟩⟩ := api_TExit_cells_eq (HTX.out _ HBR.out).1
           injection e with e1 e
           injection e with e2 e
           injection e with e3 e
           injection e with e4 e
           injection e3 with e31 e32 e33
           injection e4 with e41 e42 e43
           refine (bare_any e32 e42 ?_ ?_).mono fun e w' ⟨he, hb'⟩ => ⟨he, HBR.out.trans (hb'.mono HBR.out.size)⟩
           · rw [e32]; have := r2.small; unfold maxLen at this; omega
           · rw [e42]; have := r3.small; unfold maxLen at this; omega
          clear hl
          cases ba with
          | false =>
            have HF : Hid (res = 3) := by show _ = _; rw [HRES.out, if_pos]; rw [HEO.out, HTT.out]; rfl
            go_wp2_with (go_at_call 83; (with_reducible refine HBB.out.mono ?_); rintro e w12 ⟨rfl, hb12⟩; have HB12 := Lib.hid hb12; clear hb12)
            go_ret
            exact ⟨by rw [HF.out]; rfl, HEND.out _ HB12.out⟩
          | true =>
            have HTV : Hid (tu = true) := HTT.out
            go_upto_region 21 with (go_at_call 83; (with_reducible refine HBB.out.mono ?_); rintro e w11 ⟨rfl, hb11⟩; have HB11 := Lib.hid hb11; obtain ⟨u1, u2, u3, u4, u5, u6, u7, u8, u9, u10, u11, u12, lU⟩ := HTC.out w11 hb11; clear hb11)
            clear u1 u2 u3 u4 u5 u6 u7 u8 u9 u10 u11 u12 lU t1 t2 t3 t4 t5 t6 t7 t8 t9 t10 t11 t12 lT HTB HRC
            have HTB := Lib.hid (HTC.out _ HB11.out)
            obtain ⟨t1, t2, t3, t4, t5, t6, t7, t8, t9, t10, t11, t12, lT⟩ := HTB.out
            have HRC := Lib.hid (HRW.out _ HB11.out)
            by_cases heb : t.Back.At = t.At
            · have dB : (t.Back.At != t.At) = false := by simp [heb]
              cases hbo : exitOk f.Regs n4 t.Ins t.Back nI with
              | false =>
                have HF : Hid (res = 3) := by show _ = _; rw [HRES.out, if_pos]; rw [HEO.out, hbo]; simp
                have HCR : Hid (Calls Tryd.prog 84 #[.agg C, .agg #[.int .i64 t.Back.At, .int .i64 t.Back.Steps, .slice b7 m7 d7, .slice b8 m8 d8], .int .i64 nI] w11 fun e w' => e = .returned (.bool false) ∧ Below w5.heap.size w5 w') := by rw [← hbo]; exact HRG.out _ #[.int .i64 t.Back.At, .int .i64 t.Back.Steps, .slice b7 m7 d7, .slice b8 m8 d8] t.Back nI HB11.out (HTX.out _ HB11.out).2
                clear heb hbo
                go_wp2_with (first
                 | (with_reducible refine ldC rfl rfl rfl HRC.out hsC ?_)
                 | (go_at_call 84; (with_reducible refine HCR.out.mono ?_); rintro e w12 ⟨rfl, hb12⟩; have HB12 := Lib.hid hb12; clear hb12))
                go_ret
                exact ⟨by rw [HF.out]; rfl, HEND.out _ HB12.out⟩
              | true =>
                have HCR : Hid (Calls Tryd.prog 84 #[.agg C, .agg #[.int .i64 t.Back.At, .int .i64 t.Back.Steps, .slice b7 m7 d7, .slice b8 m8 d8], .int .i64 nI] w11 fun e w' => e = .returned (.bool true) ∧ Below w5.heap.size w5 w') := by rw [← hbo]; exact HRG.out _ #[.int .i64 t.Back.At, .int .i64 t.Back.Steps, .slice b7 m7 d7, .slice b8 m8 d8] t.Back nI HB11.out (HTX.out _ HB11.out).2
                have HBV : Hid ((decide (t.Back.At = t.At) && exitOk f.Regs n4 t.Ins t.Back nI) = true) := by show _ = _; rw [hbo, decide_eq_true heb]; rfl
                clear heb hbo
                go_wp2_with (first
                 | (with_reducible refine ldC rfl rfl rfl HRC.out hsC ?_)
                 | (go_at_call 84; (with_reducible refine HCR.out.mono ?_); rintro e w12 ⟨rfl, hb12⟩; have HB12 := Lib.hid hb12; clear hb12))
                go_meet
                exact ⟨by rw [HTV.out, HBV.out]; rfl, HB12.out⟩
            · have dB : (t.Back.At != t.At) = true := by simpa using heb
              have HF : Hid (res = 3) := by show _ = _; rw [HRES.out, if_pos]; rw [HEO.out, decide_eq_false heb]; simp
              clear heb
              go_wp2_with fail
              go_ret
              exact ⟨by rw [HF.out]; rfl, HEND.out _ HB11.out⟩
        · have dl : (t.Loop == 0) = false := by simpa using hl
          have dl2 : decide (0 < t.Loop) = true := decide_eq_true (by omega)
          have HTT : Hid (tu = (decide (t.Turn.At = t.At) && xo)) := by show _ = _; rw [HTUE.out, if_pos (by omega)]
          have hl' : 0 < t.Loop := by omega
          clear hl
          by_cases he : t.Turn.At = t.At
          · have dE : (t.Turn.At != t.At) = false := by simp [he]
            have HTT2 : Hid (tu = xo) := by show _ = _; rw [HTT.out, decide_eq_true he]; rfl
            have HCR0 : Hid (Calls Tryd.prog 84 #[.agg C, .agg #[.int .i64 t.Turn.At, .int .i64 t.Turn.Steps, .slice a7 n7 c7, .slice a8 n8 c8], .int .i64 t.Loop] wr fun e w' => e = .returned (.bool xo) ∧ Below w5.heap.size w5 w') := by rw [HXO.out]; exact HRG.out _ #[.int .i64 t.Turn.At, .int .i64 t.Turn.Steps, .slice a7 n7 c7, .slice a8 n8 c8] t.Turn t.Loop HBR.out (HTX.out _ HBR.out).1
            clear he
            cases xo with
            | false =>
              have HF : Hid (res = 3) := by show _ = _; rw [HRES.out, if_pos]; rw [HEO.out, HTT2.out]; rfl
              go_wp2_with (first
               | (with_reducible refine ldC rfl rfl rfl HRC.out hsC ?_)
               | (go_at_call 84; (with_reducible refine HCR0.out.mono ?_); rintro e w12 ⟨rfl, hb12⟩; have HB12 := Lib.hid hb12; clear hb12))
              go_ret
              exact ⟨by rw [HF.out]; rfl, HEND.out _ HB12.out⟩
            | true =>
              have HTV : Hid (tu = true) := HTT2.out
              go_upto_region 21 with (first
               | (with_reducible refine ldC rfl rfl rfl HRC.out hsC ?_)
               | (go_at_call 84; (with_reducible refine HCR0.out.mono ?_); rintro e w11 ⟨rfl, hb11⟩; have HB11 := Lib.hid hb11; clear hb11))
              clear t1 t2 t3 t4 t5 t6 t7 t8 t9 t10 t11 t12 lT HTB HRC
              have HTB := Lib.hid (HTC.out _ HB11.out)
              obtain ⟨t1, t2, t3, t4, t5, t6, t7, t8, t9, t10, t11, t12, lT⟩ := HTB.out
              have HRC := Lib.hid (HRW.out _ HB11.out)
              by_cases heb : t.Back.At = t.At
              · have dB : (t.Back.At != t.At) = false := by simp [heb]
                cases hbo : exitOk f.Regs n4 t.Ins t.Back nI with
                | false =>
                  have HF : Hid (res = 3) := by show _ = _; rw [HRES.out, if_pos]; rw [HEO.out, hbo]; simp
                  have HCR : Hid (Calls Tryd.prog 84 #[.agg C, .agg #[.int .i64 t.Back.At, .int .i64 t.Back.Steps, .slice b7 m7 d7, .slice b8 m8 d8], .int .i64 nI] w11 fun e w' => e = .returned (.bool false) ∧ Below w5.heap.size w5 w') := by rw [← hbo]; exact HRG.out _ #[.int .i64 t.Back.At, .int .i64 t.Back.Steps, .slice b7 m7 d7, .slice b8 m8 d8] t.Back nI HB11.out (HTX.out _ HB11.out).2
                  clear heb hbo
                  go_wp2_with (first
                   | (with_reducible refine ldC rfl rfl rfl HRC.out hsC ?_)
                   | (go_at_call 84; (with_reducible refine HCR.out.mono ?_); rintro e w12 ⟨rfl, hb12⟩; have HB12 := Lib.hid hb12; clear hb12))
                  go_ret
                  exact ⟨by rw [HF.out]; rfl, HEND.out _ HB12.out⟩
                | true =>
                  have HCR : Hid (Calls Tryd.prog 84 #[.agg C, .agg #[.int .i64 t.Back.At, .int .i64 t.Back.Steps, .slice b7 m7 d7, .slice b8 m8 d8], .int .i64 nI] w11 fun e w' => e = .returned (.bool true) ∧ Below w5.heap.size w5 w') := by rw [← hbo]; exact HRG.out _ #[.int .i64 t.Back.At, .int .i64 t.Back.Steps, .slice b7 m7 d7, .slice b8 m8 d8] t.Back nI HB11.out (HTX.out _ HB11.out).2
                  have HBV : Hid ((decide (t.Back.At = t.At) && exitOk f.Regs n4 t.Ins t.Back nI) = true) := by show _ = _; rw [hbo, decide_eq_true heb]; rfl
                  clear heb hbo
                  go_wp2_with (first
                   | (with_reducible refine ldC rfl rfl rfl HRC.out hsC ?_)
                   | (go_at_call 84; (with_reducible refine HCR.out.mono ?_); rintro e w12 ⟨rfl, hb12⟩; have HB12 := Lib.hid hb12; clear hb12))
                  go_meet
                  exact ⟨by rw [HTV.out, HBV.out]; rfl, HB12.out⟩
              · have dB : (t.Back.At != t.At) = true := by simpa using heb
                have HF : Hid (res = 3) := by show _ = _; rw [HRES.out, if_pos]; rw [HEO.out, decide_eq_false heb]; simp
                clear heb
                go_wp2_with fail
                go_ret
                exact ⟨by rw [HF.out]; rfl, HEND.out _ HB11.out⟩
          · have dE : (t.Turn.At != t.At) = true := by simpa using he
            have HF : Hid (res = 3) := by show _ = _; rw [HRES.out, if_pos]; rw [HEO.out, HTT.out, decide_eq_false he]; rfl
            clear he
            go_wp2_with fail
            go_ret
            exact ⟨by rw [HF.out]; rfl, HEND.out _ HBR.out⟩
      case rest =>
       obtain ⟨htb, hb6⟩ := hcut
       obtain ⟨w6, hw6⟩ : ∃ w6 : World, w6 = wc := ⟨_, rfl⟩
       rw [← hw6] at hb6 ⊢
       have HB6 := Lib.hid hb6
       have HRES : Hid (res = if (t.Exits.all fun x => exitOk f.Regs n4 t.Ins x nI) = false then 3 else 0) := by
        show _ = _
        rw [HRES.out, HEO.out]
        simp only [Bool.and_eq_true] at htb
        rw [htb.1, htb.2.1, htb.2.2]
        rfl
       clear hw6 htb t1 t2 t3 t4 t5 t6 t7 t8 t9 t10 t11 t12 lT HTB HRC HTUE HXO HBA HEO
       have HTB := Lib.hid (HTC.out _ hb6)
       obtain ⟨t1, t2, t3, t4, t5, t6, t7, t8, t9, t10, t11, t12, lT⟩ := HTB.out
       clear hb6 t1 t2 t3 t5 t6 t7 t8 t9 t10 t11 t12
       go_wp2_with fail
       clear t4 lT HTB
       go_loopw [153] (fun i wz => ∃ k : Nat, k ≤ nE ∧ i = .int .i64 k ∧ ((t.Exits.take k).all fun x => exitOk f.Regs n4 t.Ins x nI) = true ∧ Below w5.heap.size w5 wz) (fun i _ => nE - (intOf i).toNat)
       case atStart => exact ⟨0, Nat.zero_le _, rfl, by simp, HB6.out⟩
       case round =>
        obtain ⟨q, hq, rfl, hall, hbr⟩ := hrel
        have HALL := Lib.hid hall; have HBR2 := Lib.hid hbr
        by_cases hlt : q < nE
        · as_aux_lemma =>
           obtain ⟨xe, hxe⟩ : ∃ x, t.Exits[q]? = some x := ⟨_, List.getElem?_eq_getElem (by rw [HLE.out]; exact hlt)⟩
           obtain ⟨-, hTE, hTS⟩ := HTA.out wr hbr
           obtain ⟨be, oe, e2, m2, g2, e3, m3, g3, rfl, hSe, i0, i1, i2, i3, hce⟩ := texit_at hTE hxe
           have hbe := hTS be hSe
           obtain ⟨xo, hxo⟩ : ∃ b, b = exitOk f.Regs n4 t.Ins xe nI := ⟨_, rfl⟩
           have HNX : Hid (((t.Exits.take (q + 1)).all fun x => exitOk f.Regs n4 t.Ins x nI) = xo) := by
            show _ = _
            rw [hxo, List.take_add_one, hxe, List.all_append, HALL.out]
            simp
           have HXE := Lib.hid hxe; have HXO := Lib.hid hxo
           have HCE8 : Hid (∀ W, Below wr.heap.size wr W → Rep.cells S W [.int .i64 xe.At, .int .i64 xe.Steps, .slice e2 m2 g2, .slice e3 m3 g3] xe) := fun W hb => Rep.keep (fun b hb' => hb.block b (hTS b hb')) hce
           obtain ⟨t1, t2, t3, t4, t5, t6, t7, t8, t9, t10, t11, t12, lT⟩ := HTC.out wr hbr
           have hbw := hbr.size
           clear hxe hxo hSe hce hTE hTS hall hbr t1 t2 t4 t5 t6 t7 t8 t9 t10 t11 t12
           go_upto_region 26 with fail
           generalize hW8 : wr.alloc (.cells #[.int .i64 xe.At, .int .i64 xe.Steps, .slice e2 m2 g2, .slice e3 m3 g3] 32) = w8
           have hb8 : Below wr.heap.size wr w8 := by rw [← hW8]; exact cod.below_al2 _
           have hrw := row_new wr #[.int .i64 xe.At, .int .i64 xe.Steps, .slice e2 m2 g2, .slice e3 m3 g3] 32
           rw [hW8] at hrw
           have HB8 : Hid (Below w5.heap.size w5 w8) := HBR2.out.trans (hb8.mono HBR2.out.size)
           have HRC8 := Lib.hid (HRW.out _ HB8.out)
           have x0 := hrw.cell (j := 0) rfl; have x1 := hrw.cell (j := 1) rfl; have x2 := hrw.cell (j := 2) rfl; have x3 := hrw.cell (j := 3) rfl
           have lx := hrw.lt
           have HCR : Hid (Calls Tryd.prog 84 #[.agg C, .agg #[.int .i64 xe.At, .int .i64 xe.Steps, .slice e2 m2 g2, .slice e3 m3 g3], .int .i64 nI] w8 fun e w' => e = .returned (.bool xo) ∧ Below w5.heap.size w5 w') := by rw [HXO.out]; exact HRG.out _ #[.int .i64 xe.At, .int .i64 xe.Steps, .slice e2 m2 g2, .slice e3 m3 g3] xe nI HB8.out (HCE8.out _ hb8)
           clear t3 lT
           obtain ⟨t1, t2, t3, t4, t5, t6, t7, t8, t9, t10, t11, t12, lT⟩ := HTC.out w8 HB8.out
           clear hW8 hrw hb8 i0 i1 i2 i3 t1 t2 t4 t5 t6 t7 t8 t9 t10 t11 t12 hbw
           cases xo with
           | false =>
             have HF : Hid (res = 3) := by
              show _ = _
              rw [HRES.out, if_pos]
              rw [List.all_eq_false]
              exact ⟨xe, List.mem_of_getElem? HXE.out, by rw [← HXO.out]; decide⟩
             go_wp2_with (first
              | (with_reducible refine ldC rfl rfl rfl HRC8.out hsC ?_)
              | (go_at_call 84; (with_reducible refine HCR.out.mono ?_); rintro e w9 ⟨rfl, hb9⟩; have HB9 := Lib.hid hb9; clear hb9))
             go_ret
             exact ⟨by rw [HF.out]; rfl, HEND.out _ HB9.out⟩
           | true =>
             go_wp2_with (first
              | (with_reducible refine ldC rfl rfl rfl HRC8.out hsC ?_)
              | (go_at_call 84; (with_reducible refine HCR.out.mono ?_); rintro e w9 ⟨rfl, hb9⟩; have HB9 := Lib.hid hb9; clear hb9))
             go_roundw
             case rel => exact ⟨q + 1, by omega, by go_num, HNX.out, HB9.out⟩
             case measure => simp [intOf]; omega
        · have HF : Hid (res = 0) := by
           show _ = _
           have e : q = t.Exits.length := by rw [HLE.out]; omega
           have h := HALL.out
           rw [e, List.take_length] at h
           rw [HRES.out, if_neg (by rw [h]; decide)]
          clear hall hbr
          go_wp2_with fail
          go_ret
          exact ⟨by rw [HF.out]; rfl, HEND.out _ HBR2.out⟩
end Go.Proofs.YtekofpigmggbbaaDoor.chk
