/- The document's Check: walked. -/
import Derived.Test.YtjlnaiiajlahgaaDoorSameX
set_option linter.unusedVariables false
set_option linter.unusedSimpArgs false
namespace Go.Proofs.YtjlnaiiajlahgaaDoor.chk
open Go.Bk Go.RowKit Go.Proofs.YtjlnaiiajlahgaaDoor.ir

/-- What a program that may be has. -/
theorem good_fn {p : Api.Prog} (h : cod.codeChk p = 0) {k : Nat} {f : Api.Fn} (hf : p.Fns[k]? = some f) : 1 ≤ f.Regs ∧ f.Regs ≤ 60 ∧ f.Code.length ≤ 600 := by
  unfold cod.codeChk at h
  have h1 : ¬ cod.large p = true := fun e => by rw [if_pos e] at h; cases h
  rw [if_neg h1] at h
  have h2 : ¬ cod.tablesOk p = false := fun e => by rw [if_pos e] at h; cases h
  rw [if_neg h2] at h
  have h3 : ¬ cod.mainOk p = false := fun e => by rw [if_pos e] at h; cases h
  rw [if_neg h3] at h
  have h4 : ¬ (p.Fns.any fun f => !cod.funcOk p f) = true := fun e => by rw [if_pos e] at h; cases h
  have hm : f ∈ p.Fns := List.mem_of_getElem? hf
  have hb := (cod.fn_bounds (by simpa using h1)).2.2.2 f hm
  have h5 : cod.funcOk p f = true := by
    simp only [List.any_eq_true, not_exists, not_and, Bool.not_eq_true, Bool.not_eq_false'] at h4
    simpa using h4 f hm
  refine ⟨?_, hb.2, hb.1⟩
  unfold cod.funcOk at h5
  by_cases hc : f.Params < 0 ∨ f.Regs < 1 ∨ f.Regs < f.Params
  · rw [if_pos hc] at h5; cases h5
  · omega
theorem form_is (op : Int) : (formOf op).2 = false ↔ (op < 1 ∨ 19 < op) := by
  rcases op_cases op with h | rfl | rfl | rfl | rfl | rfl | rfl | rfl | rfl | rfl | rfl | rfl | rfl | rfl | rfl | rfl | rfl | rfl | rfl | rfl
  · rw [formOf_else h]; simp; exact h
  all_goals decide
/-- All of a trace as it is handed over. -/
structure TAll (S : Nat → Prop) (w : World) (T : Array Value) (t : Api.TTrace) (aI : Option Addr) (nI cI : Nat) (aE : Option Addr) (nE cE : Nat) (a7 : Option Addr) (n7 c7 : Nat) (a8 : Option Addr) (n8 c8 : Nat) (b7 : Option Addr) (m7 d7 : Nat) (b8 : Option Addr) (m8 d8 : Nat) : Prop where
  eq : T.toList = [.int .i64 t.Fn, .int .i64 t.At, .int .i64 t.Loop, .slice aI nI cI, .slice aE nE cE, .int .i64 t.Turn.At, .int .i64 t.Turn.Steps, .slice a7 n7 c7, .slice a8 n8 c8, .int .i64 t.Back.At, .int .i64 t.Back.Steps, .slice b7 m7 d7, .slice b8 m8 d8]
  ins : Arr S w aI t.Ins
  exits : Arr S w aE t.Exits
  lenI : t.Ins.length = nI
  lenE : t.Exits.length = nE
  fewI : nI ≤ 9223372036854775807
  fewE : nE ≤ 9223372036854775807
  turn : Rep.cells S w [.int .i64 t.Turn.At, .int .i64 t.Turn.Steps, .slice a7 n7 c7, .slice a8 n8 c8] t.Turn
  back : Rep.cells S w [.int .i64 t.Back.At, .int .i64 t.Back.Steps, .slice b7 m7 d7, .slice b8 m8 d8] t.Back
theorem tall_of {S : Nat → Prop} {w : World} {T : Array Value} {t : Api.TTrace} (h : Rep.cells S w T.toList t) : ∃ aI nI cI aE nE cE a7 n7 c7 a8 n8 c8 b7 m7 d7 b8 m8 d8, TAll S w T t aI nI cI aE nE cE a7 n7 c7 a8 n8 c8 b7 m7 d7 b8 m8 d8 := by
  obtain ⟨_, _, ⟨rfl, h0⟩, ⟨_, _, ⟨rfl, h1⟩, ⟨_, _, ⟨rfl, h2⟩, ⟨_, _, ⟨b3, d3, rfl, h3⟩, ⟨_, _, ⟨b4, d4, rfl, h4⟩, ⟨cT, cB, hT, hB, rfl⟩, rfl⟩, rfl⟩, rfl⟩, rfl⟩, he⟩ := h
  have hT' : Rep.cells S w cT t.Turn := hT
  have hB' : Rep.cells S w cB t.Back := hB
  obtain ⟨a7, c7, a8, c8, rfl, -⟩ := api_TExit_cells_eq hT'
  obtain ⟨b7, d7, b8, d8, rfl, -⟩ := api_TExit_cells_eq hB'
  refine ⟨b3, _, d3, b4, _, d4, a7, _, c7, a8, _, c8, b7, _, d7, b8, _, d8, he, h3.2.2, h4.2.2, rfl, rfl, ?_, ?_, hT', hB'⟩
  · have := h3.2.2.small; unfold maxLen at this; omega
  · have := h4.2.2.small; unfold maxLen at this; omega
theorem TAll.keep {S : Nat → Prop} {w W : World} {T : Array Value} {t : Api.TTrace} {aI : Option Addr} {nI cI : Nat} {aE : Option Addr} {nE cE : Nat} {a7 : Option Addr} {n7 c7 : Nat} {a8 : Option Addr} {n8 c8 : Nat} {b7 : Option Addr} {m7 d7 : Nat} {b8 : Option Addr} {m8 d8 : Nat} (h : TAll S w T t aI nI cI aE nE cE a7 n7 c7 a8 n8 c8 b7 m7 d7 b8 m8 d8) (hk : ∀ b, S b → W.heap[b]? = w.heap[b]?) : TAll S W T t aI nI cI aE nE cE a7 n7 c7 a8 n8 c8 b7 m7 d7 b8 m8 d8 :=
  ⟨h.eq, h.ins.keep hk, h.exits.keep hk, h.lenI, h.lenE, h.fewI, h.fewE, Rep.keep hk h.turn, Rep.keep hk h.back⟩
theorem zero_exit {S : Nat → Prop} {w : World} : Rep.cells S w [.int .i64 0, .int .i64 0, .slice none 0 0, .slice none 0 0] (⟨0, 0, [], []⟩ : Api.TExit) := by
  have h0 : I64 0 := by unfold I64; omega
  exact ⟨_, _, ⟨rfl, h0⟩, ⟨_, _, ⟨rfl, h0⟩, ⟨_, _, ⟨none, 0, rfl, Nat.le_refl _, fun _ => rfl, Arr.nil _ _ _⟩, ⟨none, 0, rfl, Nat.le_refl _, fun _ => rfl, Arr.nil _ _ _⟩, rfl⟩, rfl⟩, rfl⟩
theorem bare_eq (x : Api.TExit) : decide (x = ⟨0, 0, [], []⟩) = bareX x := by
  obtain ⟨a, b, c, d⟩ := x
  unfold bareX
  rw [Bool.eq_iff_iff]
  simp
set_option maxRecDepth 100000 in
set_option maxHeartbeats 2000000 in
theorem rcheck_any {S : Nat → Prop} {w : World} {P T : Array Value} {p : Api.Prog} {t : Api.TTrace} (hp : Rep.cells S w P.toList p) (ht : Rep.cells S w T.toList t) (hS : ∀ b, S b → b < w.heap.size) (hgood : cod.codeChk p = 0) :
    Calls Tryd.prog 27 #[.agg P, .agg T] w fun e w' => e = .returned (.int .i64 (traceChk p t)) ∧ Below w.heap.size w w' := by
  obtain ⟨a0, nF, c0, hP⟩ := pin_of hp
  obtain ⟨aI, nI, cI, aE, nE, cE, a7, n7, c7, a8, n8, c8, b7, m7, d7, b8, m8, d8, hT⟩ := tall_of ht
  have hsT : T.size = 13 := rep_size ht
  have hsP := hP.size
  have hI9 := hT.fewI; have hE9 := hT.fewE
  have hF9 : nF ≤ 9223372036854775807 := by rw [← hP.len]; have := hP.fns.small; unfold maxLen at this; omega
  obtain ⟨w2, hw2⟩ : ∃ w2, w2 = (w.alloc (.cells P 52)).alloc (.cells T 29) := ⟨_, rfl⟩
  obtain ⟨r1, r2, hb2, hz2⟩ := rows2 w P T _ _ w2 hw2
  have HCE : Hid (∀ W, Below w2.heap.size w2 W → Row W w.heap.size 52 P ∧ Row W (w.heap.size + 1) 29 T ∧ Rep.cells S W P.toList p ∧ Rep.cells S W T.toList t ∧ PIn S W P p a0 nF c0 ∧ TAll S W T t aI nI cI aE nE cE a7 n7 c7 a8 n8 c8 b7 m7 d7 b8 m8 d8 ∧ (∀ b, S b → b < W.heap.size) ∧ Below w.heap.size w W) := fun W hb => by
    have hbw : Below w.heap.size w W := hb2.trans (hb.mono hb2.size)
    have hk : ∀ b, S b → W.heap[b]? = w.heap[b]? := fun b hb' => hbw.block b (hS b hb')
    exact ⟨r1.keep (hb.block _ r1.lt), r2.keep (hb.block _ r2.lt), Rep.keep hk hp, Rep.keep hk ht, ⟨hP.size, hP.c0, hP.fns.keep hk, hP.len⟩, hT.keep hk, fun b hb' => Nat.lt_of_lt_of_le (hS b hb') hbw.size, hbw⟩
  have HC0 := Lib.hid hP.c0; have HCE' := Lib.hid hT.eq; have HLI := Lib.hid hT.lenI; have HLE := Lib.hid hT.lenE; have HLF := Lib.hid hP.len
  have HG := Lib.hid hgood
  have HH2 : Hid (Below w2.heap.size w2 w2) := Below.refl _ _
  have HEN := Lib.hid hb2
  have t0 := r2.cell (j := 0) (by rw [hT.eq]; rfl); have t1 := r2.cell (j := 1) (by rw [hT.eq]; rfl); have t2 := r2.cell (j := 2) (by rw [hT.eq]; rfl); have t3 := r2.cell (j := 3) (by rw [hT.eq]; rfl); have t4 := r2.cell (j := 4) (by rw [hT.eq]; rfl)
  have p0 := r1.cell hP.c0
  have l1 := r1.lt; have l2 := r2.lt
  obtain ⟨res, hres⟩ : ∃ r, r = traceChk p t := ⟨_, rfl⟩
  have HRES := Lib.hid hres
  rw [← hres]
  clear hres hp ht hS hgood hP hT r1 r2 hb2 hz2
  go_enter Tryd.func27, Tryd.ntmps27
  go_upto_region 1 with fail
  rw [← hw2]
  clear hw2
  generalize w.heap.size + 1 = gT at HCE t0 t1 t2 t3 t4 l2 ⊢
  by_cases hlarge : 300 < nI ∨ 200 < nE
  · have HF : Hid (res = 2) := by show _ = _; rw [HRES.out]; unfold traceChk; rw [if_pos (by rw [HLI.out, HLE.out]; exact hlarge)]
    rcases (show 300 < nI ∨ (¬ 300 < nI ∧ 200 < nE) by omega) with d1 | ⟨d1, d2⟩
    all_goals
      clear hlarge
      go_wp2_with fail
      go_ret
      exact ⟨by rw [HF.out]; rfl, HEN.out⟩
  have d1 : ¬ 300 < nI := by omega
  have d2 : ¬ 200 < nE := by omega
  have HRES : Hid (res = match (if t.Fn < 0 then none else p.Fns[t.Fn.toNat]?) with
    | none => 3
    | some f =>
      if t.At < 0 ∨ (f.Code.length : Int) ≤ t.At ∨ t.Loop < 0 ∨ (nI : Int) < t.Loop then 3
      else if insTo f.Regs f.Code.length t.Ins t.Exits t.Ins.length ≠ 0 then insTo f.Regs f.Code.length t.Ins t.Exits t.Ins.length
      else if endOk f.Regs f.Code.length t = false then 3
      else 0) := by
    show _ = _
    rw [HRES.out, ← HLI.out]
    unfold traceChk
    rw [if_neg (by rw [HLI.out, HLE.out]; exact hlarge)]
    rfl
  have d1' : decide ((300 : Int) < (nI : Int)) = false := decide_eq_false (by omega)
  have d2' : decide ((200 : Int) < (nE : Int)) = false := decide_eq_false (by omega)
  clear hlarge
  go_upto_region 3 with fail
  by_cases hfn : t.Fn < 0 ∨ (nF : Int) ≤ t.Fn
  · have HF : Hid (res = 3) := by
      show _ = _
      rw [HRES.out]
      rcases hfn with h | h
      · rw [if_pos h]
      · by_cases h0 : t.Fn < 0
        · rw [if_pos h0]
        · rw [if_neg h0, List.getElem?_eq_none (by rw [HLF.out]; omega)]
    rcases (show t.Fn < 0 ∨ (decide (t.Fn < 0) = false ∧ decide ((nF : Int) ≤ t.Fn) = true) by
      by_cases h0 : t.Fn < 0
      · exact .inl h0
      · exact .inr ⟨decide_eq_false h0, decide_eq_true (by omega)⟩) with e1 | ⟨e1, e2⟩
    all_goals
      clear hfn
      go_quiet (fail)
      go_wp2_with fail
      go_ret
      exact ⟨by rw [HF.out]; rfl, HEN.out.trans (((Quiet.refl _).more _).below _)⟩
  obtain ⟨fk, hfk⟩ : ∃ fk : Nat, t.Fn = fk := ⟨t.Fn.toNat, by omega⟩
  obtain ⟨f, hf⟩ : ∃ f, p.Fns[fk]? = some f := ⟨_, List.getElem?_eq_getElem (by rw [HLF.out]; omega)⟩
  have HFK := Lib.hid hfk; have HF0 := Lib.hid hf
  have HRES : Hid (res = if t.At < 0 ∨ (f.Code.length : Int) ≤ t.At ∨ t.Loop < 0 ∨ (nI : Int) < t.Loop then 3
      else if insTo f.Regs f.Code.length t.Ins t.Exits t.Ins.length ≠ 0 then insTo f.Regs f.Code.length t.Ins t.Exits t.Ins.length
      else if endOk f.Regs f.Code.length t = false then 3
      else 0) := by
    show _ = _
    rw [HRES.out, if_neg (by omega), hfk]
    simp only [Int.toNat_natCast, hf]
  obtain ⟨bf, of, b3, d3, b4, d4, rfl, hSf, -, -, -, -, f4, -, -, -, g4⟩ := api_Fn_elem (HCE.out w2 HH2.out).2.2.2.2.1.fns hf
  have hbf := (HCE.out w2 HH2.out).2.2.2.2.2.2.1 bf hSf
  obtain ⟨nO, hnO⟩ : ∃ n, n = f.Code.length := ⟨_, rfl⟩
  have hO9 : nO ≤ 9223372036854775807 := by rw [hnO]; have := g4.2.2.small; unfold maxLen at this; omega
  rw [← hnO] at f4 HRES
  rw [hfk] at t0
  have hfn' : (fk : Int) < (nF : Int) := by omega
  have HNO := Lib.hid hnO
  have e5 : decide (nF ≤ fk) = false := decide_eq_false (by omega)
  have e6 : decide ((fk : Int) < 0) = false := decide_eq_false (by omega)
  have e7 : decide ((nF : Int) ≤ (fk : Int)) = false := decide_eq_false (by omega)
  clear hfn hfk hf hSf g4 hnO
  by_cases hbad : t.At < 0 ∨ (nO : Int) ≤ t.At ∨ t.Loop < 0 ∨ (nI : Int) < t.Loop
  · have HF : Hid (res = 3) := by show _ = _; rw [HRES.out, if_pos hbad]
    rcases (show decide (t.At < 0) = true ∨ (decide (t.At < 0) = false ∧ decide ((nO : Int) ≤ t.At) = true) ∨ (decide (t.At < 0) = false ∧ decide ((nO : Int) ≤ t.At) = false ∧ decide (t.Loop < 0) = true) ∨ (decide (t.At < 0) = false ∧ decide ((nO : Int) ≤ t.At) = false ∧ decide (t.Loop < 0) = false ∧ decide ((nI : Int) < t.Loop) = true) by
      simp only [decide_eq_true_eq, decide_eq_false_iff_not]
      omega) with e1 | ⟨e1, e2⟩ | ⟨e1, e2, e3⟩ | ⟨e1, e2, e3, e4⟩
    all_goals
      clear hbad
      go_quiet (fail)
      go_wp2_with fail
      go_ret
      exact ⟨by rw [HF.out]; rfl, HEN.out.trans (((Quiet.refl _).more _).below _)⟩
  have HRES : Hid (res = if insTo f.Regs nO t.Ins t.Exits t.Ins.length ≠ 0 then insTo f.Regs nO t.Ins t.Exits t.Ins.length
      else if endOk f.Regs nO t = false then 3
      else 0) := by show _ = _; rw [HRES.out, if_neg hbad]
  have e1 : decide (t.At < 0) = false := decide_eq_false (by omega)
  have e2 : decide ((nO : Int) ≤ t.At) = false := decide_eq_false (by omega)
  have e3 : decide (t.Loop < 0) = false := decide_eq_false (by omega)
  have e4 : decide ((nI : Int) < t.Loop) = false := decide_eq_false (by omega)
  have hL0 : 0 ≤ t.Loop ∧ t.Loop ≤ (nI : Int) := by omega
  have HL := Lib.hid hL0
  clear hbad hL0
  go_quiet (fail)
  have HB3 : Hid (Below w2.heap.size w2 (w2.drewN nq)) := ((Quiet.refl _).more _).below _
  generalize w2.drewN nq = w3 at HB3 ⊢
  obtain ⟨k1, k2, k3, k4, k5, k6, k7, k8⟩ := HCE.out w3 HB3.out
  have t3' := k2.cell (j := 3) (by rw [k6.eq]; rfl)
  have l2' := k2.lt
  clear k1 k2 k3 k4 k5 k6 k7 k8 t0 t1 t2 t3 t4 p0 f4 hfn' l1 l2 e1 e2 e3 e4 e5 e6 e7 hbf
  go_wp2_with fail
  clear t3' l2'
  clear d1 d2 d1' d2'
  go_loopw [65] (fun i wr => ∃ k : Nat, k ≤ nI ∧ i = .int .i64 k ∧ insTo f.Regs nO t.Ins t.Exits k = 0 ∧ Below w2.heap.size w2 wr) (fun i _ => nI - (intOf i).toNat)
  case atStart => exact ⟨0, Nat.zero_le _, rfl, rfl, HB3.out⟩
  case round =>
    obtain ⟨k, hk, rfl, hin, hbr⟩ := hrel
    have HIN := Lib.hid hin; have HBR := Lib.hid hbr
    obtain ⟨k1, k2, k3, k4, k5, k6, k7, k8⟩ := HCE.out wr hbr
    by_cases hlt : k < nI
    · as_aux_lemma =>
        obtain ⟨x, hx⟩ := get_at' k6.lenI hlt
        obtain ⟨bi, oi, rfl, hSi, i0, i1, i2, i3, i4, i5, i6, i7, -⟩ := api_TIns_elem k6.ins hx
        have hbi := k7 bi hSi
        obtain ⟨w5, hw5⟩ : ∃ w5, w5 = wr.alloc (.cells #[.int .i64 x.Op, .int .i64 x.A, .int .i64 x.B, .int .i64 x.C, .int .i64 x.N, .int .i64 x.Exit, .int .i64 x.K.Kind, .int .i64 x.K.N] 66) := ⟨_, rfl⟩
        have hb5 : Below wr.heap.size wr w5 := by rw [hw5]; exact cod.below_al2 _
        have HB5 : Hid (Below w2.heap.size w2 w5) := hbr.trans (hb5.mono hbr.size)
        have hrow := row_new wr #[.int .i64 x.Op, .int .i64 x.A, .int .i64 x.B, .int .i64 x.C, .int .i64 x.N, .int .i64 x.Exit, .int .i64 x.K.Kind, .int .i64 x.K.N] 66
        rw [← hw5] at hrow
        have z0 := hrow.cell (j := 0) rfl
        have lI := hrow.lt
        have HX := Lib.hid hx
        clear hx hSi k1 k2 k3 k4 k5 k6 k7 k8 hb5 hrow hbr hin
        go_upto_region 8 with fail
        rw [← hw5]
        clear hw5 i0 i1 i2 i3 i4 i5 i6 i7 hbi
        obtain ⟨k1, k2, k3, k4, k5, k6, k7, k8⟩ := HCE.out w5 HB5.out
        have HEN5 := Lib.hid k8
        have HLEN : Hid (k + 1 ≤ t.Ins.length) := by show _ ≤ _; rw [HLI.out]; omega
        have HSTEP : Hid (insTo f.Regs nO t.Ins t.Exits (k + 1) = if (formOf x.Op).2 = false then 7 else if insOk f.Regs nO t.Ins t.Exits x k = false then 3 else 0) := by
          show (if insTo f.Regs nO t.Ins t.Exits k = 0 then insC f.Regs nO t.Ins t.Exits k else _) = _
          rw [if_pos HIN.out]
          unfold insC
          rw [HX.out]
        by_cases hop : x.Op < 1 ∨ 19 < x.Op
        · have HF : Hid (res = 7) := by
            show _ = _
            have h7 : insTo f.Regs nO t.Ins t.Exits (k + 1) = 7 := by rw [HSTEP.out, if_pos ((form_is _).2 hop)]
            have h8 := insTo_stop (n := t.Ins.length) f.Regs nO t.Ins (by rw [h7]; decide) HLEN.out
            rw [HRES.out, h8, h7]; rfl
          rcases (show decide (x.Op < 1) = true ∨ (decide (x.Op < 1) = false ∧ decide (19 < x.Op) = true) by
            simp only [decide_eq_true_eq, decide_eq_false_iff_not]
            omega) with e1 | ⟨e1, e2⟩
          all_goals
            clear hop k1 k2 k3 k4 k5 k6 k7 k8
            go_wp2_with fail
            go_ret
            exact ⟨by rw [HF.out]; rfl, HEN5.out⟩
        · have e1 : decide (x.Op < 1) = false := decide_eq_false (by omega)
          have e2 : decide (19 < x.Op) = false := decide_eq_false (by omega)
          have hff : (formOf x.Op).2 = true := by
            cases h : (formOf x.Op).2 with
            | true => rfl
            | false => exact absurd ((form_is _).1 h) hop
          have HRP := Lib.hid k1; have HRT := Lib.hid k2
          obtain ⟨io, hio⟩ : ∃ b, b = insOk f.Regs nO t.Ins t.Exits x k := ⟨_, rfl⟩
          have hgood := good_fn HG.out HF0.out
          have HFM : Hid (Calls Tryd.prog 62 #[.agg P, .agg T, .int .i64 k] w5 fun e w' => e = .returned (.bool io) ∧ Below w2.heap.size w2 w') := by
            have h := formed_any k3 k4 k7 HFK.out HF0.out (by omega) (by omega) HX.out
            rw [← HNO.out, ← hio] at h
            exact h.mono fun e w' ⟨he, hb⟩ => ⟨he, HB5.out.trans (hb.mono HB5.out.size)⟩
          have HSTEP : Hid (insTo f.Regs nO t.Ins t.Exits (k + 1) = if io = false then 3 else 0) := by show _ = _; rw [HSTEP.out, hio, hff]; rfl
          clear hop k1 k2 k3 k4 k5 k6 k7 k8 hff hio hgood
          cases io with
          | false =>
            have HF : Hid (res = 3) := by
              show _ = _
              have h7 : insTo f.Regs nO t.Ins t.Exits (k + 1) = 3 := by rw [HSTEP.out]; rfl
              have h8 := insTo_stop (n := t.Ins.length) f.Regs nO t.Ins (by rw [h7]; decide) HLEN.out
              rw [HRES.out, h8, h7]; rfl
            go_wp2_with (first
              | (with_reducible refine ldP rfl rfl rfl HRP.out hsP ?_)
              | (with_reducible refine ldT rfl rfl rfl HRT.out hsT ?_)
              | (go_at_call 62; (with_reducible refine HFM.out.mono ?_); rintro e w6 ⟨rfl, hb6⟩; have HB6 := Lib.hid hb6; clear hb6))
            go_ret
            exact ⟨by rw [HF.out]; rfl, (HCE.out _ HB6.out).2.2.2.2.2.2.2⟩
          | true =>
            have HZ : Hid (insTo f.Regs nO t.Ins t.Exits (k + 1) = 0) := by show _ = _; rw [HSTEP.out]; rfl
            go_wp2_with (first
              | (with_reducible refine ldP rfl rfl rfl HRP.out hsP ?_)
              | (with_reducible refine ldT rfl rfl rfl HRT.out hsT ?_)
              | (go_at_call 62; (with_reducible refine HFM.out.mono ?_); rintro e w6 ⟨rfl, hb6⟩; have HB6 := Lib.hid hb6; clear hb6))
            go_roundw
            case rel => exact ⟨k + 1, by omega, by go_num, HZ.out, HB6.out⟩
            case measure => simp [intOf]; omega
    · have HRES : Hid (res = if endOk f.Regs nO t = false then 3 else 0) := by
        show _ = _
        have hkn : k = t.Ins.length := by rw [HLI.out]; omega
        rw [HRES.out, ← hkn, if_neg (by rw [HIN.out]; simp)]
      have t9 := k2.cell (j := 9) (by rw [k6.eq]; rfl); have t1 := k2.cell (j := 1) (by rw [k6.eq]; rfl); have t3 := k2.cell (j := 3) (by rw [k6.eq]; rfl)
      have t10 := k2.cell (j := 10) (by rw [k6.eq]; rfl); have t11 := k2.cell (j := 11) (by rw [k6.eq]; rfl); have t12 := k2.cell (j := 12) (by rw [k6.eq]; rfl)
      have lT := k2.lt; have lP := k1.lt
      have HRX : Hid (∀ (W : World) (X : Array Value) (x : Api.TExit) (at' : Int), Below w2.heap.size w2 W → Rep.cells S W X.toList x → Calls Tryd.prog 63 #[.agg P, .agg T, .agg X, .int .i64 at'] W fun e w' => e = .returned (.bool (exitOk f.Regs nO t.Ins x at')) ∧ Below w2.heap.size w2 w') := fun W X x at' hb hx => by
        obtain ⟨k1, k2, k3, k4, k5, k6, k7, k8⟩ := HCE.out W hb
        have h := rexit_any k3 k4 hx k7 HFK.out HF0.out at'
        rw [← HNO.out] at h
        exact h.mono fun e w' ⟨he, hb'⟩ => ⟨he, hb.trans (hb'.mono hb.size)⟩
      have HRP : Hid (∀ W, Below w2.heap.size w2 W → Row W w.heap.size 52 P) := fun W hb => (HCE.out W hb).1
      have HRT : Hid (∀ W, Below w2.heap.size w2 W → Row W gT 29 T) := fun W hb => (HCE.out W hb).2.1
      obtain ⟨bo, hbo⟩ : ∃ b, b = exitOk f.Regs nO t.Ins t.Back nI := ⟨_, rfl⟩
      have HBK : Hid (Calls Tryd.prog 63 #[.agg P, .agg T, .agg #[.int .i64 t.Back.At, .int .i64 t.Back.Steps, .slice b7 m7 d7, .slice b8 m8 d8], .int .i64 nI] wr fun e w' => e = .returned (.bool bo) ∧ Below w2.heap.size w2 w') := by
        rw [hbo]; exact HRX.out wr _ _ _ hbr k6.back
      clear hin k1 k2 k3 k4 k5 k6 k7 k8 hbr
      have hbo' := Lib.hid hbo
      clear hbo
      go_upto_region 13 with fail
      clear hlt hk
      go_cut [7] (fun s7 wz => s7 = .bool (decide (t.Back.At = t.At) && bo) ∧ Below w2.heap.size w2 wz)
      case first =>
        as_aux_lemma =>
          by_cases he : t.Back.At = t.At
          · have dE : (t.Back.At == t.At) = true := by simpa using he
            have HD : Hid ((decide (t.Back.At = t.At) && bo) = bo) := by show _ = _; rw [decide_eq_true he]; rfl
            clear he
            go_wp2_with (first
              | (with_reducible refine ldP rfl rfl rfl (HRP.out _ HBR.out) hsP ?_)
              | (with_reducible refine ldT rfl rfl rfl (HRT.out _ HBR.out) hsT ?_)
              | (go_at_call 63; (with_reducible refine HBK.out.mono ?_); rintro e w6 ⟨rfl, hb6⟩; have HB6 := Lib.hid hb6; clear hb6))
            go_meet
            exact ⟨by rw [HD.out], HB6.out⟩
          · have dE : (t.Back.At == t.At) = false := by simpa using he
            have HD : Hid ((decide (t.Back.At = t.At) && bo) = false) := by show _ = _; rw [decide_eq_false he]; rfl
            clear he
            go_wp2_with fail
            go_meet
            exact ⟨by rw [HD.out], HBR.out⟩
      case rest =>
        obtain ⟨rfl, hb6⟩ := hcut
        obtain ⟨w6, hw6⟩ : ∃ w6 : World, w6 = wc := ⟨_, rfl⟩
        rw [← hw6] at hb6 ⊢
        have HB6 := Lib.hid hb6
        clear hw6 t9 t1 t3 t10 t11 t12 lT lP HBK
        obtain ⟨bk, hbk⟩ : ∃ b, b = (decide (t.Back.At = t.At) && bo) := ⟨_, rfl⟩
        rw [← hbk]
        have HBKD := Lib.hid hbk
        obtain ⟨k1, k2, k3, k4, k5, k6, k7, k8⟩ := HCE.out w6 HB6.out
        have t1 := k2.cell (j := 1) (by rw [k6.eq]; rfl); have t2 := k2.cell (j := 2) (by rw [k6.eq]; rfl)
        have t5 := k2.cell (j := 5) (by rw [k6.eq]; rfl); have t6 := k2.cell (j := 6) (by rw [k6.eq]; rfl); have t7 := k2.cell (j := 7) (by rw [k6.eq]; rfl); have t8 := k2.cell (j := 8) (by rw [k6.eq]; rfl)
        have lT := k2.lt; have lP := k1.lt
        have HRP6 := Lib.hid k1; have HRT6 := Lib.hid k2
        obtain ⟨tu, htu⟩ : ∃ b, b = (if 0 < t.Loop then decide (t.Turn.At = t.At) && exitOk f.Regs nO t.Ins t.Turn t.Loop else bareX t.Turn) := ⟨_, rfl⟩
        have HTU := Lib.hid htu
        obtain ⟨xo, hxo⟩ : ∃ b, b = exitOk f.Regs nO t.Ins t.Turn t.Loop := ⟨_, rfl⟩
        have HTN : Hid (Calls Tryd.prog 63 #[.agg P, .agg T, .agg #[.int .i64 t.Turn.At, .int .i64 t.Turn.Steps, .slice a7 n7 c7, .slice a8 n8 c8], .int .i64 t.Loop] w6 fun e w' => e = .returned (.bool xo) ∧ Below w2.heap.size w2 w') := by
          rw [hxo]; exact HRX.out w6 _ _ _ hb6 k6.turn
        have HSX : Hid (Calls Tryd.prog 52 #[.agg #[.int .i64 t.Turn.At, .int .i64 t.Turn.Steps, .slice a7 n7 c7, .slice a8 n8 c8], .agg #[.int .i64 0, .int .i64 0, .slice none 0 0, .slice none 0 0]] w6 fun e w' => e = .returned (.bool (bareX t.Turn)) ∧ Below w2.heap.size w2 w') := by
          have h := sameExit_any (w := w6) (X := #[.int .i64 t.Turn.At, .int .i64 t.Turn.Steps, .slice a7 n7 c7, .slice a8 n8 c8]) (Y := #[.int .i64 0, .int .i64 0, .slice none 0 0, .slice none 0 0]) k6.turn (zero_exit (S := S)) k7 k7
          rw [bare_eq] at h
          exact h.mono fun e w' ⟨he, hb'⟩ => ⟨he, hb6.trans (hb'.mono hb6.size)⟩
        obtain ⟨ba, hba⟩ : ∃ b, b = bareX t.Turn := ⟨_, rfl⟩
        rw [← hba] at HSX
        have HTU2 : Hid (tu = if 0 < t.Loop then decide (t.Turn.At = t.At) && xo else ba) := by show _ = _; rw [HTU.out, hxo, hba]
        clear hxo hba htu k1 k2 k3 k4 k5 k6 k7 k8 hb6 hbk
        go_upto_if 102 with fail
        go_cut [7] (fun s7 wz => s7 = .bool (bk && tu) ∧ Below w2.heap.size w2 wz)
        case first =>
          as_aux_lemma =>
            cases bk with
            | false =>
              by_cases hl : 0 < t.Loop
              all_goals
                have dl := hl
                go_wp2_with fail
                go_meet
                exact ⟨rfl, HB6.out⟩
            | true =>
              by_cases hl : 0 < t.Loop
              · have HTU3 : Hid (tu = (decide (t.Turn.At = t.At) && xo)) := by show _ = _; rw [HTU2.out, if_pos hl]
                by_cases he : t.Turn.At = t.At
                · have dE : (t.Turn.At == t.At) = true := by simpa using he
                  have HD : Hid (tu = xo) := by show _ = _; rw [HTU3.out, decide_eq_true he]; rfl
                  clear he
                  go_wp2_with (first
                    | (with_reducible refine ldP rfl rfl rfl HRP6.out hsP ?_)
                    | (with_reducible refine ldT rfl rfl rfl HRT6.out hsT ?_)
                    | (go_at_call 63; (with_reducible refine HTN.out.mono ?_); rintro e w7 ⟨rfl, hb7⟩; have HB7 := Lib.hid hb7; clear hb7))
                  go_meet
                  exact ⟨by rw [HD.out]; rfl, HB7.out⟩
                · have dE : (t.Turn.At == t.At) = false := by simpa using he
                  have HD : Hid (tu = false) := by show _ = _; rw [HTU3.out, decide_eq_false he]; rfl
                  clear he
                  go_wp2_with fail
                  go_meet
                  exact ⟨by rw [HD.out]; rfl, HB6.out⟩
              · have HD : Hid (tu = ba) := by show _ = _; rw [HTU2.out, if_neg hl]
                go_wp2_with (first
                  | (go_at_call 52; (with_reducible refine HSX.out.mono ?_); rintro e w7 ⟨rfl, hb7⟩; have HB7 := Lib.hid hb7; clear hb7))
                go_meet
                exact ⟨by rw [HD.out]; rfl, HB7.out⟩
        case rest =>
          obtain ⟨rfl, hb7⟩ := hcut
          obtain ⟨w7, hw7⟩ : ∃ w7 : World, w7 = wc := ⟨_, rfl⟩
          rw [← hw7] at hb7 ⊢
          have HB7 := Lib.hid hb7
          clear hw7 t1 t2 t5 t6 t7 t8 lT lP HTN HSX
          obtain ⟨q, hq⟩ : ∃ b, b = (bk && tu) := ⟨_, rfl⟩
          rw [← hq]
          have HQD : Hid (endOk f.Regs nO t = (q && t.Exits.all fun x => exitOk f.Regs nO t.Ins x t.Ins.length)) := by
            show (_ && ((decide (t.Back.At = t.At) && exitOk f.Regs nO t.Ins t.Back t.Ins.length) && _)) = _
            rw [hq, HBKD.out, hbo'.out, HTU.out, ← HLI.out, ← Bool.and_assoc]
            congr 1
            exact Bool.and_comm _ _
          obtain ⟨k1, k2, k3, k4, k5, k6, k7, k8⟩ := HCE.out w7 HB7.out
          have t4 := k2.cell (j := 4) (by rw [k6.eq]; rfl)
          have lT := k2.lt
          clear hq hb7 k1 k2 k3 k4 k5 k6 k7 k8 HBKD hbo' HTU HTU2
          go_wp2_with fail
          clear t4 lT
          go_loopw [7, 131] (fun s7 i wz => ∃ k : Nat, k ≤ nE ∧ i = .int .i64 k ∧ s7 = .bool (q && (t.Exits.take k).all fun x => exitOk f.Regs nO t.Ins x nI) ∧ Below w2.heap.size w2 wz) (fun _ i _ => nE - (intOf i).toNat)
          case atStart => exact ⟨0, Nat.zero_le _, rfl, by simp, HB7.out⟩
          case round =>
            obtain ⟨k, hk, rfl, rfl, hbr⟩ := hrel
            have HBR2 := Lib.hid hbr
            obtain ⟨k1, k2, k3, k4, k5, k6, k7, k8⟩ := HCE.out wr hbr
            by_cases hlt : k < nE
            · as_aux_lemma =>
                obtain ⟨xe, hxe⟩ := get_at' k6.lenE hlt
                obtain ⟨be, oe, e2, n2, f2, e3, n3, f3, rfl, hSe, i0, i1, i2, i3, hce⟩ := texit_at k6.exits hxe
                have hbe := k7 be hSe
                obtain ⟨w8, hw8⟩ : ∃ w8, w8 = wr.alloc (.cells #[.int .i64 xe.At, .int .i64 xe.Steps, .slice e2 n2 f2, .slice e3 n3 f3] 27) := ⟨_, rfl⟩
                have hb8 : Below wr.heap.size wr w8 := by rw [hw8]; exact cod.below_al2 _
                have HB8 : Hid (Below w2.heap.size w2 w8) := hbr.trans (hb8.mono hbr.size)
                have hrow := row_new wr #[.int .i64 xe.At, .int .i64 xe.Steps, .slice e2 n2 f2, .slice e3 n3 f3] 27
                rw [← hw8] at hrow
                obtain ⟨b, hb⟩ : ∃ b, b = (q && (t.Exits.take k).all fun x => exitOk f.Regs nO t.Ins x nI) := ⟨_, rfl⟩
                obtain ⟨xo2, hxo2⟩ : ∃ b, b = exitOk f.Regs nO t.Ins xe nI := ⟨_, rfl⟩
                have HNX : Hid ((q && (t.Exits.take (k + 1)).all fun x => exitOk f.Regs nO t.Ins x nI) = (b && xo2)) := by
                  show _ = _
                  rw [hb, hxo2, List.take_add_one, hxe]
                  simp [Bool.and_assoc]
                have HX8 : Hid (Calls Tryd.prog 63 #[.agg P, .agg T, .agg #[.int .i64 xe.At, .int .i64 xe.Steps, .slice e2 n2 f2, .slice e3 n3 f3], .int .i64 nI] w8 fun e w' => e = .returned (.bool xo2) ∧ Below w2.heap.size w2 w') := by
                  rw [hxo2]
                  exact HRX.out w8 #[.int .i64 xe.At, .int .i64 xe.Steps, .slice e2 n2 f2, .slice e3 n3 f3] xe nI HB8.out (Rep.keep (fun b hb' => hb8.block b (k7 b hb')) hce)
                have z0 := hrow.cell (j := 0) rfl; have z1 := hrow.cell (j := 1) rfl; have z2 := hrow.cell (j := 2) rfl; have z3 := hrow.cell (j := 3) rfl
                have lE := hrow.lt
                rw [← hb]
                clear hb hxo2 hxe hSe hce hrow hb8 hbr k1 k2 k3 k4 k5 k6 k7 k8
                go_upto_region 20 with fail
                rw [← hw8]
                clear hw8 i0 i1 i2 i3 hbe
                obtain ⟨k1, k2, k3, k4, k5, k6, k7, k8⟩ := HCE.out w8 HB8.out
                have t3 := k2.cell (j := 3) (by rw [k6.eq]; rfl)
                have lT := k2.lt
                have HRP8 := Lib.hid k1; have HRT8 := Lib.hid k2
                clear k1 k2 k3 k4 k5 k6 k7 k8
                cases b with
                | false =>
                  go_wp2_with fail
                  go_roundw
                  case rel => exact ⟨k + 1, by omega, by go_num, by rw [HNX.out]; rfl, HB8.out⟩
                  case measure => simp [intOf]; omega
                | true =>
                  go_wp2_with (first
                    | (with_reducible refine ldP rfl rfl rfl HRP8.out hsP ?_)
                    | (with_reducible refine ldT rfl rfl rfl HRT8.out hsT ?_)
                    | (go_at_call 63; (with_reducible refine HX8.out.mono ?_); rintro e w9 ⟨rfl, hb9⟩; have HB9 := Lib.hid hb9; clear hb9))
                  go_roundw
                  case rel => exact ⟨k + 1, by omega, by go_num, by rw [HNX.out]; rfl, HB9.out⟩
                  case measure => simp [intOf]; omega
            · obtain ⟨b, hb⟩ : ∃ b, b = (q && (t.Exits.take k).all fun x => exitOk f.Regs nO t.Ins x nI) := ⟨_, rfl⟩
              have HRS : Hid (res = if b = false then 3 else 0) := by
                show _ = _
                have hkn : k = t.Exits.length := by rw [HLE.out]; omega
                rw [HRES.out, HQD.out, hb, hkn, List.take_length, HLI.out]
              have HEN8 := Lib.hid k8
              rw [← hb]
              clear hb hbr k1 k2 k3 k4 k5 k6 k7 k8
              cases b with
              | false =>
                have HF : Hid (res = 3) := by show _ = _; rw [HRS.out]; rfl
                go_wp2_with fail
                go_ret
                exact ⟨by rw [HF.out]; rfl, HEN8.out⟩
              | true =>
                have HF : Hid (res = 0) := by show _ = _; rw [HRS.out]; rfl
                go_wp2_with fail
                go_ret
                exact ⟨by rw [HF.out]; rfl, HEN8.out⟩
end Go.Proofs.YtjlnaiiajlahgaaDoor.chk
