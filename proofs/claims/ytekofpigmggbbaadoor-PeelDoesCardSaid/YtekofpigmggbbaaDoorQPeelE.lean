/- One turn ahead: twice; walked. -/
import Derived.Test.YtekofpigmggbbaaDoorQPeelD
import Derived.Test.YtekofpigmggbbaaDoorQHead
import Derived.Test.YtekofpigmggbbaaDoorQRcutF
set_option linter.unusedVariables false
set_option linter.unusedSimpArgs false
namespace Go.Proofs.YtekofpigmggbbaaDoor.peel
open Go.Bk Go.RowKit Go.Proofs.YtekofpigmggbbaaDoor.ir Go.Proofs.YtekofpigmggbbaaDoor.chk Go.Proofs.YtekofpigmggbbaaDoor.cut Go.Proofs.YtekofpigmggbbaaDoor.pas
attribute [local go_sem ↓] Go.wp_at_zero Go.wp_at_succ
/-- A value of seven parts is built. -/
theorem opGoal_build7 {P : Program} {ops : Array Oper} {Q : Exit → Act → World → Prop} {C : World → Prop} {k : Nat} {o : Oper} {K : Act → World → Prop} {a : Act} {w : World} {t : TypeId} {i0 i1 i2 i3 i4 i5 i6 : Nat} {x0 x1 x2 x3 x4 x5 x6 : Operand} {u0 u1 u2 u3 u4 u5 u6 v : Value} (h0 : ops[k]? = some o) (hC : C w) (hg : o.guard = none) (ho : o.op = .build t #[(i0, x0), (i1, x1), (i2, x2), (i3, x3), (i4, x4), (i5, x5), (i6, x6)])
 (e0 : a.eval x0 = u0) (e1 : a.eval x1 = u1) (e2 : a.eval x2 = u2) (e3 : a.eval x3 = u3) (e4 : a.eval x4 = u4) (e5 : a.eval x5 = u5) (e6 : a.eval x6 = u6) (hr : (Instr.build t #[(i0, u0), (i1, u1), (i2, u2), (i3, u3), (i4, u4), (i5, u5), (i6, u6)]).run P w = .ok v w) (h : K (a.put o.dst v) w) : opGoal P ops Q C k K a w := by
 unfold opGoal
 rw [h0]
 have hw : Region.wanted o (yielded ops a.tmps) = true := by simp [Region.wanted, hg]
 show if _ then _ else _
 rw [if_pos hw]
 refine .inl ?_
 unfold Oper.wp execOp
 simp only [ho, List.map_toArray, List.map_cons, List.map_nil, e0, e1, e2, e3, e4, e5, e6]
 rw [Sem.run_bind, hr]
 exact ⟨hC, h⟩
theorem buildF_run (w : World) (v0 v1 v2 : Int) (a3 : Option Addr) (n3 c3 : Nat) (a4 : Option Addr) (n4 c4 : Nat) (u0 u1 u2 u3 q0 q1 q2 q3 : Value) : (Instr.build 34 #[(0, .int .i64 v0), (1, .int .i64 v1), (2, .int .i64 v2), (3, .slice a3 n3 c3), (4, .slice a4 n4 c4), (5, .agg #[u0, u1, u2, u3]), (6, .agg #[q0, q1, q2, q3])]).run Tryd.prog w = .ok (.agg #[.int .i64 v0, .int .i64 v1, .int .i64 v2, .slice a3 n3 c3, .slice a4 n4 c4, u0, u1, u2, u3, q0, q1, q2, q3]) w := by
 simp [Instr.build, go_sem]
theorem fewX_of {l : List Api.TIns} {x : Api.TExit} (hx : ExitR l x) : FewX x := ⟨by have := hx.fewS; omega, by have := hx.fewM; omega, fun m hm => by have := (hx.makes m hm).2.1; omega⟩
theorem good_of {l : List Api.TIns} {x : Api.TExit} {n : Nat} (hx : ExitR l x) (hl : l.length ≤ 300) (hn : n ≤ 300) : GoodX (addG n) x := by
 have h : ∀ v a, valAt l v a = true → I64 (addG n v) := fun v a h => by
  obtain ⟨k, y, rfl, h1, h2, -⟩ := valAt_iff.1 h
  have := (List.getElem?_eq_some_iff.1 h2).1
  unfold addG I64
  omega
 exact ⟨fun s hs => h _ _ (hx.sets s hs), fun m hm => ⟨h _ _ (hx.makes m hm).1, fun v hv => h _ _ ((hx.makes m hm).2.2 v hv)⟩⟩
theorem moved_call {S : Nat → Prop} {w : World} {X : Array Value} {x y : Api.TExit} {n : Int} (hc : 0 < w.heap.size) (hx : Rep.cells S w X.toList x) (hS : ∀ k, S k → k < w.heap.size) (hfew : FewX x) (hgood : GoodX (addG n) x) (hy : y = movedX n x) :
 Calls Tryd.prog 95 #[.agg X, .int .i64 n] w fun e w' => ∃ a2 n2 c2 a3 n3 c3, e = .returned (.agg #[.int .i64 y.At, .int .i64 y.Steps, .slice a2 n2 c2, .slice a3 n3 c3]) ∧ Rep.cells (Fresh w w') w' [.int .i64 y.At, .int .i64 y.Steps, .slice a2 n2 c2, .slice a3 n3 c3] y ∧ Below w.heap.size w w' := by
 refine (moved_any hc hx hS hfew hgood).mono ?_
 rintro e w' ⟨cs, rfl, hr, hb⟩
 rw [← hy] at hr
 obtain ⟨a2, c2, a3, c3, rfl, -⟩ := api_TExit_cells_eq hr
 exact ⟨a2, _, c2, a3, _, c3, rfl, hr, hb⟩
/-- Some of the second turn is made. -/
def twK (t : Api.TTrace) (ki ke : Nat) : Api.TTrace := ⟨t.Fn, t.At, t.Ins.length, t.Ins ++ (t.Ins.take ki).map (movedI t.Ins.length t.Exits.length), t.Exits ++ (t.Exits.take ke).map (movedX t.Ins.length), t.Back, movedX t.Ins.length t.Back⟩
theorem twK_all (t : Api.TTrace) : twK t t.Ins.length t.Exits.length = twiceT t := by unfold twK twiceT; rw [List.take_length, List.take_length]
theorem twK_zero (t : Api.TTrace) : (⟨t.Fn, t.At, t.Ins.length, t.Ins, t.Exits, t.Back, movedX t.Ins.length t.Back⟩ : Api.TTrace) = twK t 0 0 := by unfold twK; simp
theorem twK_ins {t : Api.TTrace} {k ke : Nat} {x : Api.TIns} (h : t.Ins[k]? = some x) : (⟨t.Fn, t.At, t.Ins.length, (twK t k ke).Ins ++ [movedI t.Ins.length t.Exits.length x], (twK t k ke).Exits, t.Back, movedX t.Ins.length t.Back⟩ : Api.TTrace) = twK t (k + 1) ke := by
 unfold twK
 rw [List.take_add_one, h]
 simp
theorem twK_exs {t : Api.TTrace} {k ki : Nat} {x : Api.TExit} (h : t.Exits[k]? = some x) : (⟨t.Fn, t.At, t.Ins.length, (twK t ki k).Ins, (twK t ki k).Exits ++ [movedX t.Ins.length x], t.Back, movedX t.Ins.length t.Back⟩ : Api.TTrace) = twK t ki (k + 1) := by
 unfold twK
 rw [List.take_add_one, h]
 simp
def ptrL (gx : Nat) : List Value := [.pointer (some ⟨gx, 1, none⟩), .pointer (some ⟨gx, 2, none⟩), .pointer (some ⟨gx, 3, none⟩)]
theorem moved_cut {n m : Int} {x : Api.TIns} {k : Nat} (h : (formOf x.Op).1.asks = k) : movedI n m x = ⟨(cutArgs (addG n) k x).Op, (cutArgs (addG n) k x).A, (cutArgs (addG n) k x).B, (cutArgs (addG n) k x).C, x.N, if 0 ≤ x.Exit then x.Exit + m else x.Exit, x.K⟩ := by
 unfold movedI cutIns
 rw [h]
 rfl
set_option maxRecDepth 100000 in
set_option maxHeartbeats 20000000 in
theorem twice_any {S : Nat → Prop} {w : World} {T : Array Value} {t : Api.TTrace} (ht : Rep.cells S w T.toList t) (hS : ∀ b, S b → b < w.heap.size) (hr : RightT t) :
 Calls Tryd.prog 52 #[.agg T] w fun e w' => ∃ C : Array Value, C.size = 13 ∧ C.all (·.oneCell') = true ∧ e = .returned (.agg C) ∧ Rep.cells (fun k => k < w'.heap.size) w' C.toList (twiceT t) ∧ Below w.heap.size w w' := by
 obtain ⟨aI, nI, cI, aE, nE, cE, a7, n7, c7, a8, n8, c8, b7, m7, d7, b8, m8, d8, hall⟩ := tall_of ht
 have hsT : T.size = 13 := rep_size ht
 obtain ⟨w1, hw1⟩ : ∃ w1, w1 = (w.alloc (.cells T 34)).alloc (.cells #[.int .i64 0, .int .i64 0, .int .i64 0, .slice none 0 0, .slice none 0 0, .int .i64 0, .int .i64 0, .slice none 0 0, .slice none 0 0, .int .i64 0, .int .i64 0, .slice none 0 0, .slice none 0 0] 34) := ⟨_, rfl⟩
 obtain ⟨rT, rZ, hb1, hz1⟩ := rows2 w T #[.int .i64 0, .int .i64 0, .int .i64 0, .slice none 0 0, .slice none 0 0, .int .i64 0, .int .i64 0, .slice none 0 0, .slice none 0 0, .int .i64 0, .int .i64 0, .slice none 0 0, .slice none 0 0] _ _ w1 hw1
 have HRT : Hid (∀ W, Below w1.heap.size w1 W → Row W w.heap.size 34 T ∧ Row W (w.heap.size + 1) 34 zeroTL.toArray) := fun W hb => ⟨rT.keep (hb.block _ rT.lt), rZ.keep (hb.block _ rZ.lt)⟩
 have HB1 := Lib.hid hb1; have HZ1 : Hid (w1.heap.size = w.heap.size + 2) := hz1
 have HDOM := Lib.hid hS
 have HAL : Hid (∀ W, Below w1.heap.size w1 W → TAll S W T t aI nI cI aE nE cE a7 n7 c7 a8 n8 c8 b7 m7 d7 b8 m8 d8) := fun W hb => hall.keep fun b hb' => (hb.block b (by have := hS b hb'; omega)).trans (hb1.block b (hS b hb'))
 have HCELL : Hid (∀ W, Below w1.heap.size w1 W → W.cell? ⟨w.heap.size, 0, none⟩ = some (.int .i64 t.Fn) ∧ W.cell? ⟨w.heap.size, 1, none⟩ = some (.int .i64 t.At) ∧ W.cell? ⟨w.heap.size, 3, none⟩ = some (.slice aI nI cI) ∧ W.cell? ⟨w.heap.size, 4, none⟩ = some (.slice aE nE cE) ∧ W.cell? ⟨w.heap.size, 9, none⟩ = some (.int .i64 t.Back.At) ∧ W.cell? ⟨w.heap.size, 10, none⟩ = some (.int .i64 t.Back.Steps) ∧ W.cell? ⟨w.heap.size, 11, none⟩ = some (.slice b7 m7 d7) ∧ W.cell? ⟨w.heap.size, 12, none⟩ = some (.slice b8 m8 d8) ∧ w.heap.size < W.heap.size) := fun W hb => by
  have h := (HRT.out W hb).1
  refine ⟨h.cell ?_, h.cell ?_, h.cell ?_, h.cell ?_, h.cell ?_, h.cell ?_, h.cell ?_, h.cell ?_, h.lt⟩ <;> rw [hall.eq] <;> rfl
 have HR := Lib.hid hr
 have HLI : Hid (t.Ins.length = nI) := hall.lenI
 have HLE : Hid (t.Exits.length = nE) := hall.lenE
 have hnI : nI ≤ 300 := by rw [← hall.lenI]; exact hr.few
 have hnE : nE ≤ 200 := by rw [← hall.lenE]; exact hr.fewE
 have HNX : Hid ((aI = none → cI = 0) ∧ (aE = none → cE = 0)) := by
  obtain ⟨_, _, ⟨rfl, h0⟩, ⟨_, _, ⟨rfl, h1⟩, ⟨_, _, ⟨rfl, h2⟩, ⟨_, _, ⟨b3, d3, rfl, h3⟩, ⟨_, _, ⟨b4, d4, rfl, h5⟩, ⟨cT, cB, hT, hB, rfl⟩, rfl⟩, rfl⟩, rfl⟩, rfl⟩, he⟩ := ht
  rw [hall.eq] at he
  have e3 : Value.slice aI nI cI = .slice b3 t.Ins.length d3 := by have := congrArg (fun l => l[3]?) he; exact Option.some.inj this
  have e4 : Value.slice aE nE cE = .slice b4 t.Exits.length d4 := by have := congrArg (fun l => l[4]?) he; exact Option.some.inj this
  injection e3 with p1 p2 p3
  injection e4 with q1 q2 q3
  exact ⟨fun h => by rw [p3]; exact h3.2.1 (p1.symm.trans h), fun h => by rw [q3]; exact h5.2.1 (q1.symm.trans h)⟩
 have HFA : Hid (I64 t.Fn ∧ I64 t.At) := by obtain ⟨_, _, ⟨rfl, h0⟩, ⟨_, _, ⟨rfl, h1⟩, _, _⟩, _⟩ := ht; exact ⟨h0, h1⟩
 have hw0 : w.heap.size + 2 = w1.heap.size := by omega
 obtain ⟨yb, hyb⟩ : ∃ y, y = movedX t.Ins.length t.Back := ⟨_, rfl⟩
 have HYB := Lib.hid hyb
 have HCI : Hid (∀ W, Below w1.heap.size w1 W → Calls Tryd.prog 66 #[.slice aI nI cI] W fun e w' => ∃ v, e = .returned v ∧ Own (fun _ => False) w' W.heap.size 43 v t.Ins ∧ Below W.heap.size W w') := fun W hb =>
  cloneN_any hall.lenI (HAL.out W hb).ins HNX.out.1 (fun b hb' => by have := hS b hb'; have := hb.size; omega) (by omega)
 have HCX : Hid (∀ W, Below w1.heap.size w1 W → Calls Tryd.prog 44 #[.slice aE nE cE] W fun e w' => ∃ v, e = .returned v ∧ Own S w' W.heap.size 32 v t.Exits ∧ Below W.heap.size W w') := fun W hb =>
  cloneX_any hall.lenE (HAL.out W hb).exits HNX.out.2 (fun b hb' => by have := hS b hb'; have := hb.size; omega) (by omega)
 have HMB : Hid (∀ W, Below w1.heap.size w1 W → Calls Tryd.prog 95 #[.agg #[.int .i64 t.Back.At, .int .i64 t.Back.Steps, .slice b7 m7 d7, .slice b8 m8 d8], .int .i64 (nI : Int)] W fun e w' => ∃ a2 n2 c2 a3 n3 c3, e = .returned (.agg #[.int .i64 yb.At, .int .i64 yb.Steps, .slice a2 n2 c2, .slice a3 n3 c3]) ∧ Rep.cells (Fresh W w') w' [.int .i64 yb.At, .int .i64 yb.Steps, .slice a2 n2 c2, .slice a3 n3 c3] yb ∧ Below W.heap.size W w') := fun W hb =>
  moved_call (S := S) (by have := hb.size; omega) (HAL.out W hb).back (fun b hb' => by have := hS b hb'; have := hb.size; omega) (fewX_of hr.back) (by rw [← hall.lenI]; exact good_of hr.back hr.few hr.few) (by rw [hyb, hall.lenI])
 have HIN : Hid (∀ W, Below w1.heap.size w1 W → Arr S W aI t.Ins) := fun W hb => (HAL.out W hb).ins
 have HEX : Hid (∀ W, Below w1.heap.size w1 W → Arr S W aE t.Exits) := fun W hb => (HAL.out W hb).exits
 clear hall ht hS hr rT rZ hb1 hz1 hyb
 go_enter Tryd.func52, Tryd.ntmps52
 go_upto_region 1 with fail
 rw [← hw1]
 clear hw1
 obtain ⟨t0, t1, t3, t4, -, -, -, -, lt⟩ := HCELL.out w1 (Below.refl _ _)
 first | (refine wp_region_quiet_lit (by kernel_rfl) (by kernel_rfl) ?_; (repeat (go_big_quiet_step (fail))); refine wpQuiet_nil ?_; intro _ hw'; obtain ⟨nq, hw''⟩ := hw'; subst hw'')
 clear t0 t1 t3 t4 lt
 obtain ⟨w2, hw2⟩ : ∃ w2, w2 = w1.drewN nq := ⟨_, rfl⟩
 have HB2 : Hid (Below w1.heap.size w1 w2) := by show Below _ _ _; rw [hw2]; exact ⟨rfl, rfl, rfl, Nat.le_refl _, fun _ _ => rfl⟩
 rw [← hw2]
 clear hw2
 go_upto_region 2 with fail
 go_cut [5] (fun s5 W => ∃ (go : Nat) (vI vE v0 v1 v2 v3 : Value), s5 = .pointer (some ⟨go, 0, none⟩) ∧ PW w1 w.heap.size go (.int .i64 t.Back.At) (.int .i64 t.Back.Steps) (.slice b7 m7 d7) (.slice b8 m8 d8) v0 v1 v2 v3 W vI vE (twK t 0 0))
 case first =>
  as_aux_lemma =>
   have HBD : Hid (Below w1.heap.size w1 w2.drew) := HB2.out.drew
   obtain ⟨C0, HCC⟩ : ∃ C0 : World → Prop, Hid (∀ W, C0 W ↔ Below w1.heap.size w1 W) := ⟨_, fun _ => Iff.rfl⟩
   have HC0 : Hid (C0 w2.drew) := (HCC.out _).2 HBD.out
   have HNEC : Nonempty (HeldW C0) := ⟨⟨_, HC0.out⟩⟩
   refine wp_region_tree C0 (.quiet 0 (.quiet 1 (.quiet 2 (.quiet 3 (.quiet 4 (.quiet 5 (.quiet 6 (.quiet 8 (.quiet 9 (.quiet 11 (.quiet 12 (.quiet 13 (.quiet 14 (.quiet 15 (.both 7 (.both 10 (.both 16 (.both 17 (.op 18 .tail) 18 (.op 17 .tail)) 18 (.op 16 (.op 17 .tail))) 18 (.op 10 (.op 16 (.op 17 .tail)))) 18 (.op 7 (.op 10 (.op 16 (.op 17 .tail))))))))))))))))))) 19 30 (by kernel_rfl) (by kernel_rfl) (by kernel_rfl) (by kernel_rfl) HC0.out ?_
   simp only [List.drop_succ_cons, List.drop_zero]
   have hd0 : ∀ d : HeldW C0, d.val.cell? ⟨w.heap.size, 0, none⟩ = some (.int .i64 t.Fn) := fun d => (HCELL.out _ ((HCC.out _).1 d.ok)).1
   have hd1 : ∀ d : HeldW C0, d.val.cell? ⟨w.heap.size, 1, none⟩ = some (.int .i64 t.At) := fun d => (HCELL.out _ ((HCC.out _).1 d.ok)).2.1
   have hd3 : ∀ d : HeldW C0, d.val.cell? ⟨w.heap.size, 3, none⟩ = some (.slice aI nI cI) := fun d => (HCELL.out _ ((HCC.out _).1 d.ok)).2.2.1
   have hd4 : ∀ d : HeldW C0, d.val.cell? ⟨w.heap.size, 4, none⟩ = some (.slice aE nE cE) := fun d => (HCELL.out _ ((HCC.out _).1 d.ok)).2.2.2.1
   have hd9 : ∀ d : HeldW C0, d.val.cell? ⟨w.heap.size, 9, none⟩ = some (.int .i64 t.Back.At) := fun d => (HCELL.out _ ((HCC.out _).1 d.ok)).2.2.2.2.1
   have hd10 : ∀ d : HeldW C0, d.val.cell? ⟨w.heap.size, 10, none⟩ = some (.int .i64 t.Back.Steps) := fun d => (HCELL.out _ ((HCC.out _).1 d.ok)).2.2.2.2.2.1
   have hd11 : ∀ d : HeldW C0, d.val.cell? ⟨w.heap.size, 11, none⟩ = some (.slice b7 m7 d7) := fun d => (HCELL.out _ ((HCC.out _).1 d.ok)).2.2.2.2.2.2.1
   have hd12 : ∀ d : HeldW C0, d.val.cell? ⟨w.heap.size, 12, none⟩ = some (.slice b8 m8 d8) := fun d => (HCELL.out _ ((HCC.out _).1 d.ok)).2.2.2.2.2.2.2.1
   have hdl : ∀ d : HeldW C0, w.heap.size < d.val.heap.size := fun d => (HCELL.out _ ((HCC.out _).1 d.ok)).2.2.2.2.2.2.2.2
   refine tree_quiet (by repeat (first | with_reducible exact nth_zero | with_reducible apply nth_succ)) ?_
   go_big_quiet_step (fail)
   refine wpQuiet_nil ?_
   refine tree_quiet (by repeat (first | with_reducible exact nth_zero | with_reducible apply nth_succ)) ?_
   go_big_quiet_step (fail)
   refine wpQuiet_nil ?_
   refine tree_quiet (by repeat (first | with_reducible exact nth_zero | with_reducible apply nth_succ)) ?_
   go_big_quiet_step (fail)
   refine wpQuiet_nil ?_
   refine tree_quiet (by repeat (first | with_reducible exact nth_zero | with_reducible apply nth_succ)) ?_
   go_big_quiet_step (fail)
   refine wpQuiet_nil ?_
   refine tree_quiet (by repeat (first | with_reducible exact nth_zero | with_reducible apply nth_succ)) ?_
   go_big_quiet_step (fail)
   refine wpQuiet_nil ?_
   refine tree_quiet (by repeat (first | with_reducible exact nth_zero | with_reducible apply nth_succ)) ?_
   go_big_quiet_step (fail)
   refine wpQuiet_nil ?_
   refine tree_quiet (by repeat (first | with_reducible exact nth_zero | with_reducible apply nth_succ)) ?_
   go_big_quiet_step (fail)
   refine wpQuiet_nil ?_
   refine tree_quiet (by repeat (first | with_reducible exact nth_zero | with_reducible apply nth_succ)) ?_
   go_big_quiet_step (fail)
   refine wpQuiet_nil ?_
   refine tree_quiet (by repeat (first | with_reducible exact nth_zero | with_reducible apply nth_succ)) ?_
   go_big_quiet_step (fail)
   refine wpQuiet_nil ?_
   refine tree_quiet (by repeat (first | with_reducible exact nth_zero | with_reducible apply nth_succ)) ?_
   go_big_quiet_step (fail)
   refine wpQuiet_nil ?_
   refine tree_quiet (by repeat (first | with_reducible exact nth_zero | with_reducible apply nth_succ)) ?_
   go_big_quiet_step (fail)
   refine wpQuiet_nil ?_
   refine tree_quiet (by repeat (first | with_reducible exact nth_zero | with_reducible apply nth_succ)) ?_
   go_big_quiet_step (fail)
   refine wpQuiet_nil ?_
   refine tree_quiet (by repeat (first | with_reducible exact nth_zero | with_reducible apply nth_succ)) ?_
   go_big_quiet_step (fail)
   refine wpQuiet_nil ?_
   refine tree_quiet (by repeat (first | with_reducible exact nth_zero | with_reducible apply nth_succ)) ?_
   go_big_quiet_step (fail)
   refine wpQuiet_nil ?_
   clear hd0 hd1 hd3 hd4 hd9 hd10 hd11 hd12 hdl
   refine tree_both ?_ ?_
   · skip
     refine opGoal_mk (by repeat (first | with_reducible exact nth_zero | with_reducible apply nth_succ)) (by rfl) fun RR HRR => ?_
     go_wp2_with (go_at_call 66; refine (HCI.out _ HBD.out).mono ?_; rintro e x3 ⟨vI, rfl, hown, hb⟩; have HI := Lib.hid hown; have HBI := Lib.hid hb; clear hown hb)
     have HBx3 : Hid (Below w1.heap.size w1 x3) := HBD.out.trans (HBI.out.mono HBD.out.size)
     have HCx3 : Hid (C0 x3) := (HCC.out _).2 HBx3.out
     refine AfterT.normal (HRR _ _ (isC HCx3.out) ?_)
     clear HRR RR
     refine tree_both ?_ ?_
     · skip
       refine opGoal_mk (by repeat (first | with_reducible exact nth_zero | with_reducible apply nth_succ)) (by rfl) fun RR HRR => ?_
       go_wp2_with (go_at_call 44; refine (HCX.out _ HBx3.out).mono ?_; rintro e x4 ⟨vE, rfl, hown, hb⟩; have HE := Lib.hid hown; have HBE := Lib.hid hb; clear hown hb)
       have HBx4 : Hid (Below w1.heap.size w1 x4) := HBx3.out.trans (HBE.out.mono HBx3.out.size)
       have HCx4 : Hid (C0 x4) := (HCC.out _).2 HBx4.out
       refine AfterT.normal (HRR _ _ (isC HCx4.out) ?_)
       clear HRR RR
       refine tree_both ?_ ?_
       · skip
         refine opGoal_mk (by repeat (first | with_reducible exact nth_zero | with_reducible apply nth_succ)) (by rfl) fun RR HRR => ?_
         go_wp2_with (go_at_call 95; refine (HMB.out _ HBx4.out).mono ?_; rintro e x5 ⟨r2, r2n, r2c, r3, r3n, r3c, rfl, hr, hb⟩; have HM := Lib.hid hr; have HBM := Lib.hid hb; clear hr hb)
         have HBx5 : Hid (Below w1.heap.size w1 x5) := HBx4.out.trans (HBM.out.mono HBx4.out.size)
         have HCx5 : Hid (C0 x5) := (HCC.out _).2 HBx5.out
         refine AfterT.normal (HRR _ _ (isC HCx5.out) ?_)
         clear HRR RR
         refine tree_both ?_ ?_
         · skip
           obtain ⟨va, vn, vc, rfl⟩ : ∃ va vn vc, vI = .slice va vn vc := (by obtain ⟨a, c, h, -⟩ := HI.out.arr; exact ⟨a, _, c, h⟩)
           obtain ⟨ea, en, ec, rfl⟩ : ∃ va vn vc, vE = .slice va vn vc := (by obtain ⟨a, c, h, -⟩ := HE.out.arr; exact ⟨a, _, c, h⟩)
           refine opGoal_build7 (by repeat (first | with_reducible exact nth_zero | with_reducible apply nth_succ)) (isC (HCx5.out)) (by rfl) (by rfl) (u0 := .int .i64 t.Fn) (u1 := .int .i64 t.At) (u2 := .int .i64 (nI : Int)) (u3 := .slice va vn vc) (u4 := .slice ea en ec) (u5 := .agg #[.int .i64 t.Back.At, .int .i64 t.Back.Steps, .slice b7 m7 d7, .slice b8 m8 d8]) (u6 := .agg #[.int .i64 yb.At, .int .i64 yb.Steps, .slice r2 r2n r2c, .slice r3 r3n r3c]) (by simp [Act.eval]) (by simp [Act.eval]) (by simp [Act.eval]) (by simp [Act.eval]) (by simp [Act.eval]) (by simp [Act.eval]) (by simp [Act.eval]) (buildF_run _ _ _ _ _ _ _ _ _ _ _ _ _ _ _ _ _ _) ?_
           simp only [Act.put, List.setIfInBounds_toArray, List.set_cons_zero, List.set_cons_succ]
           unfold wpTree
           refine opGoal_mk (by repeat (first | with_reducible exact nth_zero | with_reducible apply nth_succ)) (by rfl) fun RR HRR => ?_
           go_wp2_with fail
           have HBA : Hid (Below x5.heap.size x5 (x5.alloc (.cells zeroTL.toArray 34))) := (Below.refl _ _).alloc (Nat.le_refl _) _
           have HA : Hid (Row (x5.alloc (.cells zeroTL.toArray 34)) x5.heap.size 34 zeroTL.toArray) := row_new _ _ _
           obtain ⟨x6, hx6⟩ : ∃ W, W = (x5.alloc (.cells zeroTL.toArray 34)) := ⟨_, rfl⟩
           have HZA : Hid (x6.heap.size = x5.heap.size + 1) := by show _ = _; rw [hx6]; simp
           rw [show x5.alloc (.cells #[.int .i64 0, .int .i64 0, .int .i64 0, .slice none 0 0, .slice none 0 0, .int .i64 0, .int .i64 0, .slice none 0 0, .slice none 0 0, .int .i64 0, .int .i64 0, .slice none 0 0, .slice none 0 0] 34) = x6 from hx6.symm]
           rw [← hx6] at HBA HA
           clear hx6
           have HBx6 : Hid (Below w1.heap.size w1 x6) := HBx5.out.trans (HBA.out.mono HBx5.out.size)
           have HCx6 : Hid (C0 x6) := (HCC.out _).2 HBx6.out
           refine AfterT.normal (HRR _ _ (isC HCx6.out) ?_)
           clear HRR RR
           refine tree_done ?_
           have kI : Below x3.heap.size x3 x6 := ((((Below.refl _ _ : Below x3.heap.size x3 x3).trans (HBE.out.mono (Below.refl _ _ : Below x3.heap.size x3 x3).size)).trans (HBM.out.mono ((Below.refl _ _ : Below x3.heap.size x3 x3).trans (HBE.out.mono (Below.refl _ _ : Below x3.heap.size x3 x3).size)).size)).trans (HBA.out.mono (((Below.refl _ _ : Below x3.heap.size x3 x3).trans (HBE.out.mono (Below.refl _ _ : Below x3.heap.size x3 x3).size)).trans (HBM.out.mono ((Below.refl _ _ : Below x3.heap.size x3 x3).trans (HBE.out.mono (Below.refl _ _ : Below x3.heap.size x3 x3).size)).size)).size))
           have kE : Below x4.heap.size x4 x6 := (((Below.refl _ _ : Below x4.heap.size x4 x4).trans (HBM.out.mono (Below.refl _ _ : Below x4.heap.size x4 x4).size)).trans (HBA.out.mono ((Below.refl _ _ : Below x4.heap.size x4 x4).trans (HBM.out.mono (Below.refl _ _ : Below x4.heap.size x4 x4).size)).size))
           have kM : Below x5.heap.size x5 x6 := ((Below.refl _ _ : Below x5.heap.size x5 x5).trans (HBA.out.mono (Below.refl _ _ : Below x5.heap.size x5 x5).size))
           have kA : Below x6.heap.size x6 x6 := (Below.refl _ _ : Below x6.heap.size x6 x6)
           have HO9 : Hid (Row x6 x5.heap.size 34 zeroTL.toArray) := HA.out.keep (kA.block _ HA.out.lt)
           have HCO : Hid ((#[.int .i64 t.Fn, .int .i64 t.At, .int .i64 (nI : Int), .slice va vn vc, .slice ea en ec, .int .i64 t.Back.At, .int .i64 t.Back.Steps, .slice b7 m7 d7, .slice b8 m8 d8, .int .i64 yb.At, .int .i64 yb.Steps, .slice r2 r2n r2c, .slice r3 r3n r3c] : Array Value).all (·.oneCell') = true) := by show _ = _; simp [Value.oneCell']
           have HPW : Hid (PW w1 w.heap.size x5.heap.size (.int .i64 t.Back.At) (.int .i64 t.Back.Steps) (.slice b7 m7 d7) (.slice b8 m8 d8) (.int .i64 yb.At) (.int .i64 yb.Steps) (.slice r2 r2n r2c) (.slice r3 r3n r3c) (x6.setRow x5.heap.size #[.int .i64 t.Fn, .int .i64 t.At, .int .i64 (nI : Int), .slice va vn vc, .slice ea en ec, .int .i64 t.Back.At, .int .i64 t.Back.Steps, .slice b7 m7 d7, .slice b8 m8 d8, .int .i64 yb.At, .int .i64 yb.Steps, .slice r2 r2n r2c, .slice r3 r3n r3c]) (.slice va vn vc) (.slice ea en ec) (twK t 0 0)) := by
            show PW _ _ _ _ _ _ _ _ _ _ _ _ _ _ _
            rw [← twK_zero, ← HYB.out, HLI.out]
            have z := HZA.out
            have z1 := HBI.out.size; have z2 := HBE.out.size; have z3 := HBM.out.size; have z4 := HBD.out.size; have z5 := kI.size; have z6 := kE.size; have z7 := kM.size; have z8 := kA.size
            exact PW.make HO9.out HI.out kI HE.out kE HM.out kM (HAL.out _ HBx6.out).back (fun b hb => by have := HDOM.out b hb; omega) HDOM.out HBx6.out (by simp only [World.drew] at *; omega) (by simp only [World.drew] at *; omega)
           clear kI kE kM kA
           go_wp2_with (with_reducible refine stT (OLD := zeroTL.toArray) (C := #[.int .i64 t.Fn, .int .i64 t.At, .int .i64 (nI : Int), .slice va vn vc, .slice ea en ec, .int .i64 t.Back.At, .int .i64 t.Back.Steps, .slice b7 m7 d7, .slice b8 m8 d8, .int .i64 yb.At, .int .i64 yb.Steps, .slice r2 r2n r2c, .slice r3 r3n r3c]) rfl rfl rfl rfl HO9.out rfl rfl HCO.out ?_)
           all_goals refine NoPanic.normal ?_
           all_goals go_wp2_with fail
           all_goals go_meet
           all_goals exact ⟨_, _, _, _, _, _, _, rfl, HPW.out⟩
         · skip
           refine opGoal_mk (by repeat (first | with_reducible exact nth_zero | with_reducible apply nth_succ)) (by rfl) fun RR HRR => ?_
           go_wp2_with fail
           have HBA : Hid (Below x5.heap.size x5 (x5.alloc (.cells zeroTL.toArray 34))) := (Below.refl _ _).alloc (Nat.le_refl _) _
           have HA : Hid (Row (x5.alloc (.cells zeroTL.toArray 34)) x5.heap.size 34 zeroTL.toArray) := row_new _ _ _
           obtain ⟨x6, hx6⟩ : ∃ W, W = (x5.alloc (.cells zeroTL.toArray 34)) := ⟨_, rfl⟩
           have HZA : Hid (x6.heap.size = x5.heap.size + 1) := by show _ = _; rw [hx6]; simp
           rw [show x5.alloc (.cells #[.int .i64 0, .int .i64 0, .int .i64 0, .slice none 0 0, .slice none 0 0, .int .i64 0, .int .i64 0, .slice none 0 0, .slice none 0 0, .int .i64 0, .int .i64 0, .slice none 0 0, .slice none 0 0] 34) = x6 from hx6.symm]
           rw [← hx6] at HBA HA
           clear hx6
           have HBx6 : Hid (Below w1.heap.size w1 x6) := HBx5.out.trans (HBA.out.mono HBx5.out.size)
           have HCx6 : Hid (C0 x6) := (HCC.out _).2 HBx6.out
           refine AfterT.normal (HRR _ _ (isC HCx6.out) ?_)
           clear HRR RR
           unfold wpTree
           obtain ⟨va, vn, vc, rfl⟩ : ∃ va vn vc, vI = .slice va vn vc := (by obtain ⟨a, c, h, -⟩ := HI.out.arr; exact ⟨a, _, c, h⟩)
           obtain ⟨ea, en, ec, rfl⟩ : ∃ va vn vc, vE = .slice va vn vc := (by obtain ⟨a, c, h, -⟩ := HE.out.arr; exact ⟨a, _, c, h⟩)
           refine opGoal_build7 (by repeat (first | with_reducible exact nth_zero | with_reducible apply nth_succ)) (isC (HCx6.out)) (by rfl) (by rfl) (u0 := .int .i64 t.Fn) (u1 := .int .i64 t.At) (u2 := .int .i64 (nI : Int)) (u3 := .slice va vn vc) (u4 := .slice ea en ec) (u5 := .agg #[.int .i64 t.Back.At, .int .i64 t.Back.Steps, .slice b7 m7 d7, .slice b8 m8 d8]) (u6 := .agg #[.int .i64 yb.At, .int .i64 yb.Steps, .slice r2 r2n r2c, .slice r3 r3n r3c]) (by simp [Act.eval]) (by simp [Act.eval]) (by simp [Act.eval]) (by simp [Act.eval]) (by simp [Act.eval]) (by simp [Act.eval]) (by simp [Act.eval]) (buildF_run _ _ _ _ _ _ _ _ _ _ _ _ _ _ _ _ _ _) ?_
           simp only [Act.put, List.setIfInBounds_toArray, List.set_cons_zero, List.set_cons_succ]
           refine tree_done ?_
           have kI : Below x3.heap.size x3 x6 := ((((Below.refl _ _ : Below x3.heap.size x3 x3).trans (HBE.out.mono (Below.refl _ _ : Below x3.heap.size x3 x3).size)).trans (HBM.out.mono ((Below.refl _ _ : Below x3.heap.size x3 x3).trans (HBE.out.mono (Below.refl _ _ : Below x3.heap.size x3 x3).size)).size)).trans (HBA.out.mono (((Below.refl _ _ : Below x3.heap.size x3 x3).trans (HBE.out.mono (Below.refl _ _ : Below x3.heap.size x3 x3).size)).trans (HBM.out.mono ((Below.refl _ _ : Below x3.heap.size x3 x3).trans (HBE.out.mono (Below.refl _ _ : Below x3.heap.size x3 x3).size)).size)).size))
           have kE : Below x4.heap.size x4 x6 := (((Below.refl _ _ : Below x4.heap.size x4 x4).trans (HBM.out.mono (Below.refl _ _ : Below x4.heap.size x4 x4).size)).trans (HBA.out.mono ((Below.refl _ _ : Below x4.heap.size x4 x4).trans (HBM.out.mono (Below.refl _ _ : Below x4.heap.size x4 x4).size)).size))
           have kM : Below x5.heap.size x5 x6 := ((Below.refl _ _ : Below x5.heap.size x5 x5).trans (HBA.out.mono (Below.refl _ _ : Below x5.heap.size x5 x5).size))
           have kA : Below x6.heap.size x6 x6 := (Below.refl _ _ : Below x6.heap.size x6 x6)
           have HO9 : Hid (Row x6 x5.heap.size 34 zeroTL.toArray) := HA.out.keep (kA.block _ HA.out.lt)
           have HCO : Hid ((#[.int .i64 t.Fn, .int .i64 t.At, .int .i64 (nI : Int), .slice va vn vc, .slice ea en ec, .int .i64 t.Back.At, .int .i64 t.Back.Steps, .slice b7 m7 d7, .slice b8 m8 d8, .int .i64 yb.At, .int .i64 yb.Steps, .slice r2 r2n r2c, .slice r3 r3n r3c] : Array Value).all (·.oneCell') = true) := by show _ = _; simp [Value.oneCell']
           have HPW : Hid (PW w1 w.heap.size x5.heap.size (.int .i64 t.Back.At) (.int .i64 t.Back.Steps) (.slice b7 m7 d7) (.slice b8 m8 d8) (.int .i64 yb.At) (.int .i64 yb.Steps) (.slice r2 r2n r2c) (.slice r3 r3n r3c) (x6.setRow x5.heap.size #[.int .i64 t.Fn, .int .i64 t.At, .int .i64 (nI : Int), .slice va vn vc, .slice ea en ec, .int .i64 t.Back.At, .int .i64 t.Back.Steps, .slice b7 m7 d7, .slice b8 m8 d8, .int .i64 yb.At, .int .i64 yb.Steps, .slice r2 r2n r2c, .slice r3 r3n r3c]) (.slice va vn vc) (.slice ea en ec) (twK t 0 0)) := by
            show PW _ _ _ _ _ _ _ _ _ _ _ _ _ _ _
            rw [← twK_zero, ← HYB.out, HLI.out]
            have z := HZA.out
            have z1 := HBI.out.size; have z2 := HBE.out.size; have z3 := HBM.out.size; have z4 := HBD.out.size; have z5 := kI.size; have z6 := kE.size; have z7 := kM.size; have z8 := kA.size
            exact PW.make HO9.out HI.out kI HE.out kE HM.out kM (HAL.out _ HBx6.out).back (fun b hb => by have := HDOM.out b hb; omega) HDOM.out HBx6.out (by simp only [World.drew] at *; omega) (by simp only [World.drew] at *; omega)
           clear kI kE kM kA
           go_wp2_with (with_reducible refine stT (OLD := zeroTL.toArray) (C := #[.int .i64 t.Fn, .int .i64 t.At, .int .i64 (nI : Int), .slice va vn vc, .slice ea en ec, .int .i64 t.Back.At, .int .i64 t.Back.Steps, .slice b7 m7 d7, .slice b8 m8 d8, .int .i64 yb.At, .int .i64 yb.Steps, .slice r2 r2n r2c, .slice r3 r3n r3c]) rfl rfl rfl rfl HO9.out rfl rfl HCO.out ?_)
           all_goals refine NoPanic.normal ?_
           all_goals go_wp2_with fail
           all_goals go_meet
           all_goals exact ⟨_, _, _, _, _, _, _, rfl, HPW.out⟩
       · skip
         refine opGoal_mk (by repeat (first | with_reducible exact nth_zero | with_reducible apply nth_succ)) (by rfl) fun RR HRR => ?_
         go_wp2_with fail
         have HBA : Hid (Below x4.heap.size x4 (x4.alloc (.cells zeroTL.toArray 34))) := (Below.refl _ _).alloc (Nat.le_refl _) _
         have HA : Hid (Row (x4.alloc (.cells zeroTL.toArray 34)) x4.heap.size 34 zeroTL.toArray) := row_new _ _ _
         obtain ⟨x5, hx5⟩ : ∃ W, W = (x4.alloc (.cells zeroTL.toArray 34)) := ⟨_, rfl⟩
         have HZA : Hid (x5.heap.size = x4.heap.size + 1) := by show _ = _; rw [hx5]; simp
         rw [show x4.alloc (.cells #[.int .i64 0, .int .i64 0, .int .i64 0, .slice none 0 0, .slice none 0 0, .int .i64 0, .int .i64 0, .slice none 0 0, .slice none 0 0, .int .i64 0, .int .i64 0, .slice none 0 0, .slice none 0 0] 34) = x5 from hx5.symm]
         rw [← hx5] at HBA HA
         clear hx5
         have HBx5 : Hid (Below w1.heap.size w1 x5) := HBx4.out.trans (HBA.out.mono HBx4.out.size)
         have HCx5 : Hid (C0 x5) := (HCC.out _).2 HBx5.out
         refine AfterT.normal (HRR _ _ (isC HCx5.out) ?_)
         clear HRR RR
         unfold wpTree
         refine opGoal_mk (by repeat (first | with_reducible exact nth_zero | with_reducible apply nth_succ)) (by rfl) fun RR HRR => ?_
         go_wp2_with (go_at_call 95; refine (HMB.out _ HBx5.out).mono ?_; rintro e x6 ⟨r2, r2n, r2c, r3, r3n, r3c, rfl, hr, hb⟩; have HM := Lib.hid hr; have HBM := Lib.hid hb; clear hr hb)
         have HBx6 : Hid (Below w1.heap.size w1 x6) := HBx5.out.trans (HBM.out.mono HBx5.out.size)
         have HCx6 : Hid (C0 x6) := (HCC.out _).2 HBx6.out
         refine AfterT.normal (HRR _ _ (isC HCx6.out) ?_)
         clear HRR RR
         unfold wpTree
         obtain ⟨va, vn, vc, rfl⟩ : ∃ va vn vc, vI = .slice va vn vc := (by obtain ⟨a, c, h, -⟩ := HI.out.arr; exact ⟨a, _, c, h⟩)
         obtain ⟨ea, en, ec, rfl⟩ : ∃ va vn vc, vE = .slice va vn vc := (by obtain ⟨a, c, h, -⟩ := HE.out.arr; exact ⟨a, _, c, h⟩)
         refine opGoal_build7 (by repeat (first | with_reducible exact nth_zero | with_reducible apply nth_succ)) (isC (HCx6.out)) (by rfl) (by rfl) (u0 := .int .i64 t.Fn) (u1 := .int .i64 t.At) (u2 := .int .i64 (nI : Int)) (u3 := .slice va vn vc) (u4 := .slice ea en ec) (u5 := .agg #[.int .i64 t.Back.At, .int .i64 t.Back.Steps, .slice b7 m7 d7, .slice b8 m8 d8]) (u6 := .agg #[.int .i64 yb.At, .int .i64 yb.Steps, .slice r2 r2n r2c, .slice r3 r3n r3c]) (by simp [Act.eval]) (by simp [Act.eval]) (by simp [Act.eval]) (by simp [Act.eval]) (by simp [Act.eval]) (by simp [Act.eval]) (by simp [Act.eval]) (buildF_run _ _ _ _ _ _ _ _ _ _ _ _ _ _ _ _ _ _) ?_
         simp only [Act.put, List.setIfInBounds_toArray, List.set_cons_zero, List.set_cons_succ]
         refine tree_done ?_
         have kI : Below x3.heap.size x3 x6 := ((((Below.refl _ _ : Below x3.heap.size x3 x3).trans (HBE.out.mono (Below.refl _ _ : Below x3.heap.size x3 x3).size)).trans (HBA.out.mono ((Below.refl _ _ : Below x3.heap.size x3 x3).trans (HBE.out.mono (Below.refl _ _ : Below x3.heap.size x3 x3).size)).size)).trans (HBM.out.mono (((Below.refl _ _ : Below x3.heap.size x3 x3).trans (HBE.out.mono (Below.refl _ _ : Below x3.heap.size x3 x3).size)).trans (HBA.out.mono ((Below.refl _ _ : Below x3.heap.size x3 x3).trans (HBE.out.mono (Below.refl _ _ : Below x3.heap.size x3 x3).size)).size)).size))
         have kE : Below x4.heap.size x4 x6 := (((Below.refl _ _ : Below x4.heap.size x4 x4).trans (HBA.out.mono (Below.refl _ _ : Below x4.heap.size x4 x4).size)).trans (HBM.out.mono ((Below.refl _ _ : Below x4.heap.size x4 x4).trans (HBA.out.mono (Below.refl _ _ : Below x4.heap.size x4 x4).size)).size))
         have kM : Below x6.heap.size x6 x6 := (Below.refl _ _ : Below x6.heap.size x6 x6)
         have kA : Below x5.heap.size x5 x6 := ((Below.refl _ _ : Below x5.heap.size x5 x5).trans (HBM.out.mono (Below.refl _ _ : Below x5.heap.size x5 x5).size))
         have HO9 : Hid (Row x6 x4.heap.size 34 zeroTL.toArray) := HA.out.keep (kA.block _ HA.out.lt)
         have HCO : Hid ((#[.int .i64 t.Fn, .int .i64 t.At, .int .i64 (nI : Int), .slice va vn vc, .slice ea en ec, .int .i64 t.Back.At, .int .i64 t.Back.Steps, .slice b7 m7 d7, .slice b8 m8 d8, .int .i64 yb.At, .int .i64 yb.Steps, .slice r2 r2n r2c, .slice r3 r3n r3c] : Array Value).all (·.oneCell') = true) := by show _ = _; simp [Value.oneCell']
         have HPW : Hid (PW w1 w.heap.size x4.heap.size (.int .i64 t.Back.At) (.int .i64 t.Back.Steps) (.slice b7 m7 d7) (.slice b8 m8 d8) (.int .i64 yb.At) (.int .i64 yb.Steps) (.slice r2 r2n r2c) (.slice r3 r3n r3c) (x6.setRow x4.heap.size #[.int .i64 t.Fn, .int .i64 t.At, .int .i64 (nI : Int), .slice va vn vc, .slice ea en ec, .int .i64 t.Back.At, .int .i64 t.Back.Steps, .slice b7 m7 d7, .slice b8 m8 d8, .int .i64 yb.At, .int .i64 yb.Steps, .slice r2 r2n r2c, .slice r3 r3n r3c]) (.slice va vn vc) (.slice ea en ec) (twK t 0 0)) := by
          show PW _ _ _ _ _ _ _ _ _ _ _ _ _ _ _
          rw [← twK_zero, ← HYB.out, HLI.out]
          have z := HZA.out
          have z1 := HBI.out.size; have z2 := HBE.out.size; have z3 := HBM.out.size; have z4 := HBD.out.size; have z5 := kI.size; have z6 := kE.size; have z7 := kM.size; have z8 := kA.size
          exact PW.make HO9.out HI.out kI HE.out kE HM.out kM (HAL.out _ HBx6.out).back (fun b hb => by have := HDOM.out b hb; omega) HDOM.out HBx6.out (by simp only [World.drew] at *; omega) (by simp only [World.drew] at *; omega)
         clear kI kE kM kA
         go_wp2_with (with_reducible refine stT (OLD := zeroTL.toArray) (C := #[.int .i64 t.Fn, .int .i64 t.At, .int .i64 (nI : Int), .slice va vn vc, .slice ea en ec, .int .i64 t.Back.At, .int .i64 t.Back.Steps, .slice b7 m7 d7, .slice b8 m8 d8, .int .i64 yb.At, .int .i64 yb.Steps, .slice r2 r2n r2c, .slice r3 r3n r3c]) rfl rfl rfl rfl HO9.out rfl rfl HCO.out ?_)
         all_goals refine NoPanic.normal ?_
         all_goals go_wp2_with fail
         all_goals go_meet
         all_goals exact ⟨_, _, _, _, _, _, _, rfl, HPW.out⟩
     · skip
       refine opGoal_mk (by repeat (first | with_reducible exact nth_zero | with_reducible apply nth_succ)) (by rfl) fun RR HRR => ?_
       go_wp2_with fail
       have HBA : Hid (Below x3.heap.size x3 (x3.alloc (.cells zeroTL.toArray 34))) := (Below.refl _ _).alloc (Nat.le_refl _) _
       have HA : Hid (Row (x3.alloc (.cells zeroTL.toArray 34)) x3.heap.size 34 zeroTL.toArray) := row_new _ _ _
       obtain ⟨x4, hx4⟩ : ∃ W, W = (x3.alloc (.cells zeroTL.toArray 34)) := ⟨_, rfl⟩
       have HZA : Hid (x4.heap.size = x3.heap.size + 1) := by show _ = _; rw [hx4]; simp
       rw [show x3.alloc (.cells #[.int .i64 0, .int .i64 0, .int .i64 0, .slice none 0 0, .slice none 0 0, .int .i64 0, .int .i64 0, .slice none 0 0, .slice none 0 0, .int .i64 0, .int .i64 0, .slice none 0 0, .slice none 0 0] 34) = x4 from hx4.symm]
       rw [← hx4] at HBA HA
       clear hx4
       have HBx4 : Hid (Below w1.heap.size w1 x4) := HBx3.out.trans (HBA.out.mono HBx3.out.size)
       have HCx4 : Hid (C0 x4) := (HCC.out _).2 HBx4.out
       refine AfterT.normal (HRR _ _ (isC HCx4.out) ?_)
       clear HRR RR
       unfold wpTree
       refine opGoal_mk (by repeat (first | with_reducible exact nth_zero | with_reducible apply nth_succ)) (by rfl) fun RR HRR => ?_
       go_wp2_with (go_at_call 44; refine (HCX.out _ HBx4.out).mono ?_; rintro e x5 ⟨vE, rfl, hown, hb⟩; have HE := Lib.hid hown; have HBE := Lib.hid hb; clear hown hb)
       have HBx5 : Hid (Below w1.heap.size w1 x5) := HBx4.out.trans (HBE.out.mono HBx4.out.size)
       have HCx5 : Hid (C0 x5) := (HCC.out _).2 HBx5.out
       refine AfterT.normal (HRR _ _ (isC HCx5.out) ?_)
       clear HRR RR
       unfold wpTree
       refine opGoal_mk (by repeat (first | with_reducible exact nth_zero | with_reducible apply nth_succ)) (by rfl) fun RR HRR => ?_
       go_wp2_with (go_at_call 95; refine (HMB.out _ HBx5.out).mono ?_; rintro e x6 ⟨r2, r2n, r2c, r3, r3n, r3c, rfl, hr, hb⟩; have HM := Lib.hid hr; have HBM := Lib.hid hb; clear hr hb)
       have HBx6 : Hid (Below w1.heap.size w1 x6) := HBx5.out.trans (HBM.out.mono HBx5.out.size)
       have HCx6 : Hid (C0 x6) := (HCC.out _).2 HBx6.out
       refine AfterT.normal (HRR _ _ (isC HCx6.out) ?_)
       clear HRR RR
       unfold wpTree
       obtain ⟨va, vn, vc, rfl⟩ : ∃ va vn vc, vI = .slice va vn vc := (by obtain ⟨a, c, h, -⟩ := HI.out.arr; exact ⟨a, _, c, h⟩)
       obtain ⟨ea, en, ec, rfl⟩ : ∃ va vn vc, vE = .slice va vn vc := (by obtain ⟨a, c, h, -⟩ := HE.out.arr; exact ⟨a, _, c, h⟩)
       refine opGoal_build7 (by repeat (first | with_reducible exact nth_zero | with_reducible apply nth_succ)) (isC (HCx6.out)) (by rfl) (by rfl) (u0 := .int .i64 t.Fn) (u1 := .int .i64 t.At) (u2 := .int .i64 (nI : Int)) (u3 := .slice va vn vc) (u4 := .slice ea en ec) (u5 := .agg #[.int .i64 t.Back.At, .int .i64 t.Back.Steps, .slice b7 m7 d7, .slice b8 m8 d8]) (u6 := .agg #[.int .i64 yb.At, .int .i64 yb.Steps, .slice r2 r2n r2c, .slice r3 r3n r3c]) (by simp [Act.eval]) (by simp [Act.eval]) (by simp [Act.eval]) (by simp [Act.eval]) (by simp [Act.eval]) (by simp [Act.eval]) (by simp [Act.eval]) (buildF_run _ _ _ _ _ _ _ _ _ _ _ _ _ _ _ _ _ _) ?_
       simp only [Act.put, List.setIfInBounds_toArray, List.set_cons_zero, List.set_cons_succ]
       refine tree_done ?_
       have kI : Below x3.heap.size x3 x6 := ((((Below.refl _ _ : Below x3.heap.size x3 x3).trans (HBA.out.mono (Below.refl _ _ : Below x3.heap.size x3 x3).size)).trans (HBE.out.mono ((Below.refl _ _ : Below x3.heap.size x3 x3).trans (HBA.out.mono (Below.refl _ _ : Below x3.heap.size x3 x3).size)).size)).trans (HBM.out.mono (((Below.refl _ _ : Below x3.heap.size x3 x3).trans (HBA.out.mono (Below.refl _ _ : Below x3.heap.size x3 x3).size)).trans (HBE.out.mono ((Below.refl _ _ : Below x3.heap.size x3 x3).trans (HBA.out.mono (Below.refl _ _ : Below x3.heap.size x3 x3).size)).size)).size))
       have kE : Below x5.heap.size x5 x6 := ((Below.refl _ _ : Below x5.heap.size x5 x5).trans (HBM.out.mono (Below.refl _ _ : Below x5.heap.size x5 x5).size))
       have kM : Below x6.heap.size x6 x6 := (Below.refl _ _ : Below x6.heap.size x6 x6)
       have kA : Below x4.heap.size x4 x6 := (((Below.refl _ _ : Below x4.heap.size x4 x4).trans (HBE.out.mono (Below.refl _ _ : Below x4.heap.size x4 x4).size)).trans (HBM.out.mono ((Below.refl _ _ : Below x4.heap.size x4 x4).trans (HBE.out.mono (Below.refl _ _ : Below x4.heap.size x4 x4).size)).size))
       have HO9 : Hid (Row x6 x3.heap.size 34 zeroTL.toArray) := HA.out.keep (kA.block _ HA.out.lt)
       have HCO : Hid ((#[.int .i64 t.Fn, .int .i64 t.At, .int .i64 (nI : Int), .slice va vn vc, .slice ea en ec, .int .i64 t.Back.At, .int .i64 t.Back.Steps, .slice b7 m7 d7, .slice b8 m8 d8, .int .i64 yb.At, .int .i64 yb.Steps, .slice r2 r2n r2c, .slice r3 r3n r3c] : Array Value).all (·.oneCell') = true) := by show _ = _; simp [Value.oneCell']
       have HPW : Hid (PW w1 w.heap.size x3.heap.size (.int .i64 t.Back.At) (.int .i64 t.Back.Steps) (.slice b7 m7 d7) (.slice b8 m8 d8) (.int .i64 yb.At) (.int .i64 yb.Steps) (.slice r2 r2n r2c) (.slice r3 r3n r3c) (x6.setRow x3.heap.size #[.int .i64 t.Fn, .int .i64 t.At, .int .i64 (nI : Int), .slice va vn vc, .slice ea en ec, .int .i64 t.Back.At, .int .i64 t.Back.Steps, .slice b7 m7 d7, .slice b8 m8 d8, .int .i64 yb.At, .int .i64 yb.Steps, .slice r2 r2n r2c, .slice r3 r3n r3c]) (.slice va vn vc) (.slice ea en ec) (twK t 0 0)) := by
        show PW _ _ _ _ _ _ _ _ _ _ _ _ _ _ _
        rw [← twK_zero, ← HYB.out, HLI.out]
        have z := HZA.out
        have z1 := HBI.out.size; have z2 := HBE.out.size; have z3 := HBM.out.size; have z4 := HBD.out.size; have z5 := kI.size; have z6 := kE.size; have z7 := kM.size; have z8 := kA.size
        exact PW.make HO9.out HI.out kI HE.out kE HM.out kM (HAL.out _ HBx6.out).back (fun b hb => by have := HDOM.out b hb; omega) HDOM.out HBx6.out (by simp only [World.drew] at *; omega) (by simp only [World.drew] at *; omega)
       clear kI kE kM kA
       go_wp2_with (with_reducible refine stT (OLD := zeroTL.toArray) (C := #[.int .i64 t.Fn, .int .i64 t.At, .int .i64 (nI : Int), .slice va vn vc, .slice ea en ec, .int .i64 t.Back.At, .int .i64 t.Back.Steps, .slice b7 m7 d7, .slice b8 m8 d8, .int .i64 yb.At, .int .i64 yb.Steps, .slice r2 r2n r2c, .slice r3 r3n r3c]) rfl rfl rfl rfl HO9.out rfl rfl HCO.out ?_)
       all_goals refine NoPanic.normal ?_
       all_goals go_wp2_with fail
       all_goals go_meet
       all_goals exact ⟨_, _, _, _, _, _, _, rfl, HPW.out⟩
   · skip
     refine opGoal_mk (by repeat (first | with_reducible exact nth_zero | with_reducible apply nth_succ)) (by rfl) fun RR HRR => ?_
     go_wp2_with fail
     have HBA : Hid (Below w2.drew.heap.size w2.drew (w2.drew.alloc (.cells zeroTL.toArray 34))) := (Below.refl _ _).alloc (Nat.le_refl _) _
     have HA : Hid (Row (w2.drew.alloc (.cells zeroTL.toArray 34)) w2.heap.size 34 zeroTL.toArray) := row_new _ _ _
     obtain ⟨x3, hx3⟩ : ∃ W, W = (w2.drew.alloc (.cells zeroTL.toArray 34)) := ⟨_, rfl⟩
     have HZA : Hid (x3.heap.size = w2.heap.size + 1) := by show _ = _; rw [hx3]; simp
     rw [show (w2.alloc (.cells #[.int .i64 0, .int .i64 0, .int .i64 0, .slice none 0 0, .slice none 0 0, .int .i64 0, .int .i64 0, .slice none 0 0, .slice none 0 0, .int .i64 0, .int .i64 0, .slice none 0 0, .slice none 0 0] 34)).drew = x3 from hx3.symm]
     rw [← hx3] at HBA HA
     clear hx3
     have HBx3 : Hid (Below w1.heap.size w1 x3) := HBD.out.trans (HBA.out.mono HBD.out.size)
     have HCx3 : Hid (C0 x3) := (HCC.out _).2 HBx3.out
     refine AfterT.normal (HRR _ _ (isC HCx3.out) ?_)
     clear HRR RR
     unfold wpTree
     refine opGoal_mk (by repeat (first | with_reducible exact nth_zero | with_reducible apply nth_succ)) (by rfl) fun RR HRR => ?_
     go_wp2_with (go_at_call 66; refine (HCI.out _ HBx3.out).mono ?_; rintro e x4 ⟨vI, rfl, hown, hb⟩; have HI := Lib.hid hown; have HBI := Lib.hid hb; clear hown hb)
     have HBx4 : Hid (Below w1.heap.size w1 x4) := HBx3.out.trans (HBI.out.mono HBx3.out.size)
     have HCx4 : Hid (C0 x4) := (HCC.out _).2 HBx4.out
     refine AfterT.normal (HRR _ _ (isC HCx4.out) ?_)
     clear HRR RR
     unfold wpTree
     refine opGoal_mk (by repeat (first | with_reducible exact nth_zero | with_reducible apply nth_succ)) (by rfl) fun RR HRR => ?_
     go_wp2_with (go_at_call 44; refine (HCX.out _ HBx4.out).mono ?_; rintro e x5 ⟨vE, rfl, hown, hb⟩; have HE := Lib.hid hown; have HBE := Lib.hid hb; clear hown hb)
     have HBx5 : Hid (Below w1.heap.size w1 x5) := HBx4.out.trans (HBE.out.mono HBx4.out.size)
     have HCx5 : Hid (C0 x5) := (HCC.out _).2 HBx5.out
     refine AfterT.normal (HRR _ _ (isC HCx5.out) ?_)
     clear HRR RR
     unfold wpTree
     refine opGoal_mk (by repeat (first | with_reducible exact nth_zero | with_reducible apply nth_succ)) (by rfl) fun RR HRR => ?_
     go_wp2_with (go_at_call 95; refine (HMB.out _ HBx5.out).mono ?_; rintro e x6 ⟨r2, r2n, r2c, r3, r3n, r3c, rfl, hr, hb⟩; have HM := Lib.hid hr; have HBM := Lib.hid hb; clear hr hb)
     have HBx6 : Hid (Below w1.heap.size w1 x6) := HBx5.out.trans (HBM.out.mono HBx5.out.size)
     have HCx6 : Hid (C0 x6) := (HCC.out _).2 HBx6.out
     refine AfterT.normal (HRR _ _ (isC HCx6.out) ?_)
     clear HRR RR
     unfold wpTree
     obtain ⟨va, vn, vc, rfl⟩ : ∃ va vn vc, vI = .slice va vn vc := (by obtain ⟨a, c, h, -⟩ := HI.out.arr; exact ⟨a, _, c, h⟩)
     obtain ⟨ea, en, ec, rfl⟩ : ∃ va vn vc, vE = .slice va vn vc := (by obtain ⟨a, c, h, -⟩ := HE.out.arr; exact ⟨a, _, c, h⟩)
     refine opGoal_build7 (by repeat (first | with_reducible exact nth_zero | with_reducible apply nth_succ)) (isC (HCx6.out)) (by rfl) (by rfl) (u0 := .int .i64 t.Fn) (u1 := .int .i64 t.At) (u2 := .int .i64 (nI : Int)) (u3 := .slice va vn vc) (u4 := .slice ea en ec) (u5 := .agg #[.int .i64 t.Back.At, .int .i64 t.Back.Steps, .slice b7 m7 d7, .slice b8 m8 d8]) (u6 := .agg #[.int .i64 yb.At, .int .i64 yb.Steps, .slice r2 r2n r2c, .slice r3 r3n r3c]) (by simp [Act.eval]) (by simp [Act.eval]) (by simp [Act.eval]) (by simp [Act.eval]) (by simp [Act.eval]) (by simp [Act.eval]) (by simp [Act.eval]) (buildF_run _ _ _ _ _ _ _ _ _ _ _ _ _ _ _ _ _ _) ?_
     simp only [Act.put, List.setIfInBounds_toArray, List.set_cons_zero, List.set_cons_succ]
     refine tree_done ?_
     have kI : Below x4.heap.size x4 x6 := (((Below.refl _ _ : Below x4.heap.size x4 x4).trans (HBE.out.mono (Below.refl _ _ : Below x4.heap.size x4 x4).size)).trans (HBM.out.mono ((Below.refl _ _ : Below x4.heap.size x4 x4).trans (HBE.out.mono (Below.refl _ _ : Below x4.heap.size x4 x4).size)).size))
     have kE : Below x5.heap.size x5 x6 := ((Below.refl _ _ : Below x5.heap.size x5 x5).trans (HBM.out.mono (Below.refl _ _ : Below x5.heap.size x5 x5).size))
     have kM : Below x6.heap.size x6 x6 := (Below.refl _ _ : Below x6.heap.size x6 x6)
     have kA : Below x3.heap.size x3 x6 := ((((Below.refl _ _ : Below x3.heap.size x3 x3).trans (HBI.out.mono (Below.refl _ _ : Below x3.heap.size x3 x3).size)).trans (HBE.out.mono ((Below.refl _ _ : Below x3.heap.size x3 x3).trans (HBI.out.mono (Below.refl _ _ : Below x3.heap.size x3 x3).size)).size)).trans (HBM.out.mono (((Below.refl _ _ : Below x3.heap.size x3 x3).trans (HBI.out.mono (Below.refl _ _ : Below x3.heap.size x3 x3).size)).trans (HBE.out.mono ((Below.refl _ _ : Below x3.heap.size x3 x3).trans (HBI.out.mono (Below.refl _ _ : Below x3.heap.size x3 x3).size)).size)).size))
     have HO9 : Hid (Row x6 w2.heap.size 34 zeroTL.toArray) := HA.out.keep (kA.block _ HA.out.lt)
     have HCO : Hid ((#[.int .i64 t.Fn, .int .i64 t.At, .int .i64 (nI : Int), .slice va vn vc, .slice ea en ec, .int .i64 t.Back.At, .int .i64 t.Back.Steps, .slice b7 m7 d7, .slice b8 m8 d8, .int .i64 yb.At, .int .i64 yb.Steps, .slice r2 r2n r2c, .slice r3 r3n r3c] : Array Value).all (·.oneCell') = true) := by show _ = _; simp [Value.oneCell']
     have HPW : Hid (PW w1 w.heap.size w2.heap.size (.int .i64 t.Back.At) (.int .i64 t.Back.Steps) (.slice b7 m7 d7) (.slice b8 m8 d8) (.int .i64 yb.At) (.int .i64 yb.Steps) (.slice r2 r2n r2c) (.slice r3 r3n r3c) (x6.setRow w2.heap.size #[.int .i64 t.Fn, .int .i64 t.At, .int .i64 (nI : Int), .slice va vn vc, .slice ea en ec, .int .i64 t.Back.At, .int .i64 t.Back.Steps, .slice b7 m7 d7, .slice b8 m8 d8, .int .i64 yb.At, .int .i64 yb.Steps, .slice r2 r2n r2c, .slice r3 r3n r3c]) (.slice va vn vc) (.slice ea en ec) (twK t 0 0)) := by
      show PW _ _ _ _ _ _ _ _ _ _ _ _ _ _ _
      rw [← twK_zero, ← HYB.out, HLI.out]
      have z := HZA.out
      have z1 := HBI.out.size; have z2 := HBE.out.size; have z3 := HBM.out.size; have z4 := HBD.out.size; have z5 := kI.size; have z6 := kE.size; have z7 := kM.size; have z8 := kA.size
      exact PW.make HO9.out HI.out kI HE.out kE HM.out kM (HAL.out _ HBx6.out).back (fun b hb => by have := HDOM.out b hb; omega) HDOM.out HBx6.out (by simp only [World.drew] at *; omega) (by simp only [World.drew] at *; omega)
     clear kI kE kM kA
     go_wp2_with (with_reducible refine stT (OLD := zeroTL.toArray) (C := #[.int .i64 t.Fn, .int .i64 t.At, .int .i64 (nI : Int), .slice va vn vc, .slice ea en ec, .int .i64 t.Back.At, .int .i64 t.Back.Steps, .slice b7 m7 d7, .slice b8 m8 d8, .int .i64 yb.At, .int .i64 yb.Steps, .slice r2 r2n r2c, .slice r3 r3n r3c]) rfl rfl rfl rfl HO9.out rfl rfl HCO.out ?_)
     all_goals refine NoPanic.normal ?_
     all_goals go_wp2_with fail
     all_goals go_meet
     all_goals exact ⟨_, _, _, _, _, _, _, rfl, HPW.out⟩
 case rest =>
  obtain ⟨go, vI0, vE0, v0, v1, v2, v3, rfl, hpw⟩ := hcut
  have HPW := Lib.hid hpw
  obtain ⟨t0, t1, t3, t4, -, -, -, -, lt⟩ := HCELL.out wc hpw.below
  clear hpw HCI HCX HMB HB2
  go_wp2_with fail
  clear t0 t1 t3 t4 lt
  go_loopw [39] (fun i W => ∃ (k : Nat) (vI : Value), k ≤ nI ∧ i = .int .i64 k ∧ PW w1 w.heap.size go (.int .i64 t.Back.At) (.int .i64 t.Back.Steps) (.slice b7 m7 d7) (.slice b8 m8 d8) v0 v1 v2 v3 W vI vE0 (twK t k 0)) (fun i _ => nI - (intOf i).toNat)
  case atStart => exact ⟨0, _, Nat.zero_le _, rfl, HPW.out⟩
  case round =>
   obtain ⟨k, vI, hk, rfl, hpw⟩ := hrel
   by_cases hlt : k < nI
   · as_aux_lemma =>
      obtain ⟨x, hx⟩ : ∃ x, t.Ins[k]? = some x := ⟨_, List.getElem?_eq_getElem (by rw [HLI.out]; exact hlt)⟩
      obtain ⟨bi, oi, haI, hSi, i0, i1, i2, i3, i4, i5, i6, i7, j0, j1, j2, j3, j4, j5, j6, j7⟩ := api_TIns_elem (HIN.out wr hpw.below) hx
      have hbi : bi < wr.heap.size := by have := HDOM.out bi hSi; have := hpw.below.size; omega
      subst haI
      have hki : (k : Int) < (nI : Int) := by omega
      have HX := Lib.hid hx
      have HP := Lib.hid hpw
      have HGT : Hid (∀ v ∈ asksOf x, 0 ≤ v ∧ v < 300) := fun v hv => by
       obtain ⟨u, y, rfl, h1, h2, -⟩ := valAt_iff.1 (HR.out.asks k x hx v hv)
       have := HR.out.few
       have := (List.getElem?_eq_some_iff.1 h2).1
       omega
      have hway := HR.out.way k x hx
      rw [HLE.out] at hway
      have HA1 : Hid (∀ W', Calls Tryd.prog 28 #[.agg #[.int .i64 x.Op, .int .i64 x.A, .int .i64 x.B, .int .i64 x.C, .int .i64 x.N, .int .i64 x.Exit, .int .i64 x.K.Kind, .int .i64 x.K.N]] W' fun e w' => (∃ a c, e = .returned (.slice a (asksOf x).length c) ∧ (a = none → c = 0) ∧ Arr (Fresh W' w') w' a (asksOf x)) ∧ Below W'.heap.size W' w') := fun W' => asks_any j1 j2 j3
      obtain ⟨n, hn3, hasks, htk, hln⟩ := Go.Proofs.YtekofpigmggbbaaDoor.chk.asks_nat x
      rw [htk] at HGT
      rw [hln] at HA1
      have HMC : Hid (movedI nI nE x = ⟨(cutArgs (addG nI) n x).Op, (cutArgs (addG nI) n x).A, (cutArgs (addG nI) n x).B, (cutArgs (addG nI) n x).C, x.N, if 0 ≤ x.Exit then x.Exit + nE else x.Exit, x.K⟩) := moved_cut hasks
      have HJ : Hid (I64 x.Op ∧ I64 x.N ∧ I64 x.K.Kind ∧ I64 x.K.N ∧ I64 x.A ∧ I64 x.B ∧ I64 x.C) := ⟨j0, j4, j6, j7, j1, j2, j3⟩
      have HX5 : Hid (Row (wr.alloc (.cells #[.int .i64 x.Op, .int .i64 x.A, .int .i64 x.B, .int .i64 x.C, .int .i64 x.N, .int .i64 x.Exit, .int .i64 x.K.Kind, .int .i64 x.K.N] 43)) wr.heap.size 43 #[.int .i64 x.Op, .int .i64 x.A, .int .i64 x.B, .int .i64 x.C, .int .i64 x.N, .int .i64 x.Exit, .int .i64 x.K.Kind, .int .i64 x.K.N]) := row_new _ _ _
      have HB5 : Hid (Below wr.heap.size wr (wr.alloc (.cells #[.int .i64 x.Op, .int .i64 x.A, .int .i64 x.B, .int .i64 x.C, .int .i64 x.N, .int .i64 x.Exit, .int .i64 x.K.Kind, .int .i64 x.K.N] 43))) := (Below.refl _ _).alloc (Nat.le_refl _) _
      have HZ5 : Hid ((wr.alloc (.cells #[.int .i64 x.Op, .int .i64 x.A, .int .i64 x.B, .int .i64 x.C, .int .i64 x.N, .int .i64 x.Exit, .int .i64 x.K.Kind, .int .i64 x.K.N] 43)).heap.size = wr.heap.size + 1) := by show _ = _; simp
      clear hx hpw hSi hasks htk hln j0 j1 j2 j3 j4 j5 j6 j7
      go_upto_region 6 with fail
      obtain ⟨gx, hgx⟩ : ∃ gx, gx = wr.heap.size := ⟨_, rfl⟩
      generalize wr.alloc (.cells #[.int .i64 x.Op, .int .i64 x.A, .int .i64 x.B, .int .i64 x.C, .int .i64 x.N, .int .i64 x.Exit, .int .i64 x.K.Kind, .int .i64 x.K.N] 43) = w5 at HX5 HB5 HZ5 ⊢
      rw [← hgx] at HX5 HB5 HZ5 ⊢
      have HGX := Lib.hid hgx
      clear i0 i1 i2 i3 i4 i5 i6 i7 hbi hgx
      go_upto_region 7 with fail
      have HL7 : Hid (Blk (w5.alloc (.cells #[.pointer (some ⟨gx, 1, none⟩), .pointer (some ⟨gx, 2, none⟩), .pointer (some ⟨gx, 3, none⟩)] 73)) w5.heap.size 73 (ptrL gx)) := blk_new _ (ptrL gx) _
      have HX7 : Hid (Row (w5.alloc (.cells #[.pointer (some ⟨gx, 1, none⟩), .pointer (some ⟨gx, 2, none⟩), .pointer (some ⟨gx, 3, none⟩)] 73)) gx 43 #[.int .i64 x.Op, .int .i64 x.A, .int .i64 x.B, .int .i64 x.C, .int .i64 x.N, .int .i64 x.Exit, .int .i64 x.K.Kind, .int .i64 x.K.N]) := HX5.out.keep (Below.heap_alloc _ _ _ HX5.out.lt)
      have HB7 : Hid (Below gx wr (w5.alloc (.cells #[.pointer (some ⟨gx, 1, none⟩), .pointer (some ⟨gx, 2, none⟩), .pointer (some ⟨gx, 3, none⟩)] 73))) := HB5.out.alloc (by have := HZ5.out; omega) _
      rw [HZ5.out] at HL7 ⊢
      generalize w5.alloc (.cells #[.pointer (some ⟨gx, 1, none⟩), .pointer (some ⟨gx, 2, none⟩), .pointer (some ⟨gx, 3, none⟩)] 73) = w7 at HL7 HX7 HB7 ⊢
      clear HX5 HB5 HZ5
      have c0 := HX7.out.cell (j := 0) rfl; have c1 := HX7.out.cell (j := 1) rfl; have c2 := HX7.out.cell (j := 2) rfl; have c3 := HX7.out.cell (j := 3) rfl; have c4 := HX7.out.cell (j := 4) rfl; have c5 := HX7.out.cell (j := 5) rfl; have c6 := HX7.out.cell (j := 6) rfl; have c7 := HX7.out.cell (j := 7) rfl
      have lx := HX7.out.lt
      go_wp2_with (go_at_call 28; (with_reducible refine (HA1.out _).mono ?_); rintro e w8 ⟨⟨a8, c8, rfl, -, -⟩, hb8⟩; have HB8 := Lib.hid hb8; clear hb8)
      have HX8 : Hid (Row w8 gx 43 (insL (cutArgs (addG nI) (0 : Nat) x)).toArray) := HX7.out.keep (HB8.out.block _ HX7.out.lt)
      have HL8 : Hid (Blk w8 (gx + 1) 73 (ptrL gx)) := HL7.out.keep (HB8.out.block _ HL7.out.lt)
      have HBW : Hid (Below gx wr w8) := HB7.out.trans (HB8.out.mono (by have := HX7.out.lt; omega))
      clear HX7 HL7 HB7 HB8 HA1 c0 c1 c2 c3 c4 c5 c6 c7 lx
      obtain ⟨wo, rfl⟩ : ∃ wo : World, wo = wr := ⟨_, rfl⟩
      go_loopw [50] (fun i W => ∃ j : Nat, j ≤ n ∧ i = .int .i64 j ∧ Row W gx 43 (insL (cutArgs (addG nI) (j : Nat) x)).toArray ∧ Blk W (gx + 1) 73 (ptrL gx) ∧ Below gx wo W) (fun i _ => n - (intOf i).toNat)
      case atStart => exact ⟨0, Nat.zero_le _, rfl, HX8.out, HL8.out, HBW.out⟩
      case round =>
       clear HX8 HL8 HBW
       obtain ⟨j, hj, rfl, hrow, hblk, hbw⟩ := hrel
       by_cases hlt2 : j < n
       · have hj3 : j = 0 ∨ j = 1 ∨ j = 2 := by omega
         rcases hj3 with rfl | rfl | rfl
         · as_aux_lemma =>
            have d1 : decide ((0 : Int) < (n : Int)) = true := by rw [decide_eq_true_eq]; omega
            have d2 : decide (((0 : Nat) : Int) < (n : Int)) = true := by rw [decide_eq_true_eq]; omega
            have d3 : decide ((0 : Nat) < n) = true := by rw [decide_eq_true_eq]; omega
            have hmem : x.A ∈ [x.A, x.B, x.C].take n := by
             rcases (show n = 1 ∨ n = 2 ∨ n = 3 by omega) with rfl | rfl | rfl <;> first | omega | simp
            have hv := HGT.out x.A hmem
            have hwe : IntKind.i64.wrap (x.A + (nI : Int)) = x.A + (nI : Int) := by rw [IntWalk.i64_in _ (by omega)]
            have hcx : wr.cell? ⟨gx, 1, none⟩ = some (.int .i64 x.A) := hrow.cell (j := 1) rfl
            have hcl : wr.cell? ⟨gx + 1, 0, none⟩ = some (.pointer (some ⟨gx, 1, none⟩)) := hblk.cell (j := 0) rfl
            have hfr := hrow.blk.frozen 1
            have hlx := hrow.lt
            have hll := hblk.lt
            have HRW := Lib.hid hrow; have HBL := Lib.hid hblk; have HBW := Lib.hid hbw; have HLT2 := Lib.hid hlt2
            clear hrow hblk hbw hmem hv hlt2
            go_wp2_with fail
            have HRX : Hid (Row (wr.setCell ⟨gx, 1, none⟩ (.int .i64 (x.A + (nI : Int)))) gx 43 (insL (cutArgs (addG nI) (1 : Nat) x)).toArray) := HRW.out.blk.set 1 (.int .i64 (x.A + (nI : Int)))
            have HLX : Hid (Blk (wr.setCell ⟨gx, 1, none⟩ (.int .i64 (x.A + (nI : Int)))) (gx + 1) 73 (ptrL gx)) := HBL.out.keep (Go.Bk.blk_setCell_other _ _ _ (show gx + 1 ≠ gx by omega))
            have HBX : Hid (Below gx wo (wr.setCell ⟨gx, 1, none⟩ (.int .i64 (x.A + (nI : Int))))) := below_set HBW.out (Nat.le_refl _)
            go_roundw
            case rel => exact ⟨1, by have := HLT2.out; omega, by go_num, HRX.out, HLX.out, HBX.out⟩
            case measure => have := HLT2.out; simp [intOf]; omega
         · as_aux_lemma =>
            have d1 : decide ((1 : Int) < (n : Int)) = true := by rw [decide_eq_true_eq]; omega
            have d2 : decide (((1 : Nat) : Int) < (n : Int)) = true := by rw [decide_eq_true_eq]; omega
            have d3 : decide ((1 : Nat) < n) = true := by rw [decide_eq_true_eq]; omega
            have hmem : x.B ∈ [x.A, x.B, x.C].take n := by
             rcases (show n = 2 ∨ n = 3 by omega) with rfl | rfl <;> first | omega | simp
            have hv := HGT.out x.B hmem
            have hwe : IntKind.i64.wrap (x.B + (nI : Int)) = x.B + (nI : Int) := by rw [IntWalk.i64_in _ (by omega)]
            have hcx : wr.cell? ⟨gx, 2, none⟩ = some (.int .i64 x.B) := hrow.cell (j := 2) rfl
            have hcl : wr.cell? ⟨gx + 1, 1, none⟩ = some (.pointer (some ⟨gx, 2, none⟩)) := hblk.cell (j := 1) rfl
            have hfr := hrow.blk.frozen 2
            have hlx := hrow.lt
            have hll := hblk.lt
            have HRW := Lib.hid hrow; have HBL := Lib.hid hblk; have HBW := Lib.hid hbw; have HLT2 := Lib.hid hlt2
            clear hrow hblk hbw hmem hv hlt2
            go_wp2_with fail
            have HRX : Hid (Row (wr.setCell ⟨gx, 2, none⟩ (.int .i64 (x.B + (nI : Int)))) gx 43 (insL (cutArgs (addG nI) (2 : Nat) x)).toArray) := HRW.out.blk.set 2 (.int .i64 (x.B + (nI : Int)))
            have HLX : Hid (Blk (wr.setCell ⟨gx, 2, none⟩ (.int .i64 (x.B + (nI : Int)))) (gx + 1) 73 (ptrL gx)) := HBL.out.keep (Go.Bk.blk_setCell_other _ _ _ (show gx + 1 ≠ gx by omega))
            have HBX : Hid (Below gx wo (wr.setCell ⟨gx, 2, none⟩ (.int .i64 (x.B + (nI : Int))))) := below_set HBW.out (Nat.le_refl _)
            go_roundw
            case rel => exact ⟨2, by have := HLT2.out; omega, by go_num, HRX.out, HLX.out, HBX.out⟩
            case measure => have := HLT2.out; simp [intOf]; omega
         · as_aux_lemma =>
            have d1 : decide ((2 : Int) < (n : Int)) = true := by rw [decide_eq_true_eq]; omega
            have d2 : decide (((2 : Nat) : Int) < (n : Int)) = true := by rw [decide_eq_true_eq]; omega
            have d3 : decide ((2 : Nat) < n) = true := by rw [decide_eq_true_eq]; omega
            have hmem : x.C ∈ [x.A, x.B, x.C].take n := by
             rcases (show n = 3 by omega) with rfl <;> first | omega | simp
            have hv := HGT.out x.C hmem
            have hwe : IntKind.i64.wrap (x.C + (nI : Int)) = x.C + (nI : Int) := by rw [IntWalk.i64_in _ (by omega)]
            have hcx : wr.cell? ⟨gx, 3, none⟩ = some (.int .i64 x.C) := hrow.cell (j := 3) rfl
            have hcl : wr.cell? ⟨gx + 1, 2, none⟩ = some (.pointer (some ⟨gx, 3, none⟩)) := hblk.cell (j := 2) rfl
            have hfr := hrow.blk.frozen 3
            have hlx := hrow.lt
            have hll := hblk.lt
            have HRW := Lib.hid hrow; have HBL := Lib.hid hblk; have HBW := Lib.hid hbw; have HLT2 := Lib.hid hlt2
            clear hrow hblk hbw hmem hv hlt2
            go_wp2_with fail
            have HRX : Hid (Row (wr.setCell ⟨gx, 3, none⟩ (.int .i64 (x.C + (nI : Int)))) gx 43 (insL (cutArgs (addG nI) (3 : Nat) x)).toArray) := HRW.out.blk.set 3 (.int .i64 (x.C + (nI : Int)))
            have HLX : Hid (Blk (wr.setCell ⟨gx, 3, none⟩ (.int .i64 (x.C + (nI : Int)))) (gx + 1) 73 (ptrL gx)) := HBL.out.keep (Go.Bk.blk_setCell_other _ _ _ (show gx + 1 ≠ gx by omega))
            have HBX : Hid (Below gx wo (wr.setCell ⟨gx, 3, none⟩ (.int .i64 (x.C + (nI : Int))))) := below_set HBW.out (Nat.le_refl _)
            go_roundw
            case rel => exact ⟨3, by have := HLT2.out; omega, by go_num, HRX.out, HLX.out, HBX.out⟩
            case measure => have := HLT2.out; simp [intOf]; omega
       · obtain rfl : n = j := by omega
         have hpw9 : PW w1 w.heap.size go (.int .i64 t.Back.At) (.int .i64 t.Back.Steps) (.slice b7 m7 d7) (.slice b8 m8 d8) v0 v1 v2 v3 wr vI vE0 (twK t k 0) := HP.out.call (by rw [← HGX.out]; exact hbw)
         have HP9 := Lib.hid hpw9
         have q3 := hpw9.row.cell (j := 3) rfl
         have lq := hpw9.row.lt
         have HGG : Hid (go < gx) := by show _ < _; rw [HGX.out]; exact HP.out.lt
         obtain ⟨z, hz⟩ : ∃ z, z = movedI nI nE x := ⟨_, rfl⟩
         have HZ := Lib.hid hz
         have HEZ : Hid (movedI t.Ins.length t.Exits.length x = z) := by show _ = _; rw [HLI.out, HLE.out, hz]
         have lr := hrow.lt
         rw [HMC.out] at hz
         have HLEN : Hid ((twK t k 0).Ins.length + 1 ≤ 1000000000) := by show (t.Ins ++ (t.Ins.take k).map _).length + 1 ≤ _; simp; have := HLI.out; omega
         have HIZ : Hid (I64 z.Op ∧ I64 z.A ∧ I64 z.B ∧ I64 z.C ∧ I64 z.N ∧ I64 z.Exit ∧ I64 z.K.Kind ∧ I64 z.K.N) := by
          obtain ⟨h1, h2, h3, h4, h5, h6, h7⟩ := HJ.out
          have hg : ∀ (v : Int) (j : Nat), I64 v → (j < n → v ∈ [x.A, x.B, x.C].take n) → I64 (if (j : Int) < (n : Int) then addG nI v else v) := fun v j hv hm => by
           split
           · have := HGT.out v (hm (by omega))
             unfold addG I64
             omega
           · exact hv
          rw [hz]
          refine ⟨h1, hg x.A 0 h5 fun hl => ?_, hg x.B 1 h6 fun hl => ?_, hg x.C 2 h7 fun hl => ?_, h2, ?_, h3, h4⟩
          · rcases (show n = 1 ∨ n = 2 ∨ n = 3 by omega) with rfl | rfl | rfl <;> simp
          · rcases (show n = 2 ∨ n = 3 by omega) with rfl | rfl <;> simp
          · rcases (show n = 3 by omega) with rfl; simp
          · show I64 (if 0 ≤ x.Exit then x.Exit + (nE : Int) else x.Exit)
            unfold I64
            split <;> omega
         rcases hway with hm | ⟨h0, h1⟩
         · as_aux_lemma =>
            rw [if_neg (by omega)] at hz
            have e5 : wr.cell? ⟨gx, 5, none⟩ = some (.int .i64 (-1)) := by rw [← hm]; exact hrow.cell (j := 5) rfl
            have HRW := Lib.hid hrow
            clear hrow hblk hbw hm q3 lq
            go_upto_region 14 with fail
            clear e5
            have HPZ : Hid (PW w1 w.heap.size go (.int .i64 t.Back.At) (.int .i64 t.Back.Steps) (.slice b7 m7 d7) (.slice b8 m8 d8) v0 v1 v2 v3 wr vI vE0 (twK t k 0)) := HP9.out
            have HZR : Hid (Row wr gx 43 (insL z).toArray) := by show Row _ _ _ _; rw [hz]; exact HRW.out
            have HOW := Lib.hid HPZ.out.ins
            have HOB : Hid (w1.heap.size ≤ wr.heap.size) := HPZ.out.below.size
            have HZC : Hid (∀ W, Rep.cells (fun _ => False) W [.int .i64 z.Op, .int .i64 z.A, .int .i64 z.B, .int .i64 z.C, .int .i64 z.N, .int .i64 z.Exit, .int .i64 z.K.Kind, .int .i64 z.K.N] z) := fun W => api_TIns_cells_mk (x := z) HIZ.out.1 HIZ.out.2.1 HIZ.out.2.2.1 HIZ.out.2.2.2.1 HIZ.out.2.2.2.2.1 HIZ.out.2.2.2.2.2.1 HIZ.out.2.2.2.2.2.2.1 HIZ.out.2.2.2.2.2.2.2
            have HTW : Hid (∀ W v, PW w1 w.heap.size go (.int .i64 t.Back.At) (.int .i64 t.Back.Steps) (.slice b7 m7 d7) (.slice b8 m8 d8) v0 v1 v2 v3 W v vE0 ⟨(twK t k 0).Fn, (twK t k 0).At, (twK t k 0).Loop, (twK t k 0).Ins ++ [z], (twK t k 0).Exits, (twK t k 0).Turn, (twK t k 0).Back⟩ → PW w1 w.heap.size go (.int .i64 t.Back.At) (.int .i64 t.Back.Steps) (.slice b7 m7 d7) (.slice b8 m8 d8) v0 v1 v2 v3 W v vE0 (twK t (k + 1) 0)) := fun W v h => by
             rw [← twK_ins HX.out, HEZ.out]
             exact h
            have lz := HZR.out.lt
            have q3 := HPZ.out.row.cell (j := 3) rfl
            have lq := HPZ.out.row.lt
            clear hz lr HRW HP9
            have HZ8 : Hid (Row wr gx 43 #[.int .i64 z.Op, .int .i64 z.A, .int .i64 z.B, .int .i64 z.C, .int .i64 z.N, .int .i64 z.Exit, .int .i64 z.K.Kind, .int .i64 z.K.N]) := HZR.out
            have HBR := Lib.hid (buildIns_run wr (.int .i64 z.Op) (.int .i64 z.A) (.int .i64 z.B) (.int .i64 z.C) (.int .i64 z.N) (.int .i64 z.Exit) (.int .i64 z.K.Kind) (.int .i64 z.K.N))
            go_wp2_with (first
             | (with_reducible refine ldI rfl rfl rfl HZ8.out rfl ?_)
             | (with_reducible refine list_buildL (v := .agg #[.int .i64 z.Op, .int .i64 z.A, .int .i64 z.B, .int .i64 z.C, .int .i64 z.N, .int .i64 z.Exit, .int .i64 z.K.Kind, .int .i64 z.K.N]) rfl rfl (by simp [Act.eval, Act.put]) HBR.out ?_)
             | (at_builtin; (with_reducible refine Tryd.wp_appd27 (S := fun _ => False) (v := vI) (xs := (twK t k 0).Ins) (y := z) (cs := [.int .i64 z.Op, .int .i64 z.A, .int .i64 z.B, .int .i64 z.C, .int .i64 z.N, .int .i64 z.Exit, .int .i64 z.K.Kind, .int .i64 z.K.N]) (w0 := wr) rfl rfl (by with_unfolding_all rfl) rfl rfl (by first | rfl | omega) HOW.out (HZC.out _) (fun _ h => h.elim) HLEN.out HOB.out fun v6 w6 hown6 hg6 hst6 => ?_); obtain ⟨va, ln, vc, rfl⟩ : ∃ va ln vc, v6 = .slice va ln vc := (by obtain ⟨a, c, h, -⟩ := hown6.arr; exact ⟨a, _, c, h⟩); have HN6 := Lib.hid (HPZ.out.addI hown6 hg6 hst6); have e0 := HN6.out.2.1; have e1 := HN6.out.2.2.1; have e2 := HN6.out.2.2.2; clear hown6 hg6 hst6))
            go_roundw
            case rel => exact ⟨k + 1, _, by omega, by go_num, HTW.out _ _ HN6.out.1⟩
            case measure => simp [intOf]; omega
         · as_aux_lemma =>
            rw [if_pos h0] at hz
            obtain ⟨e, he⟩ : ∃ e : Nat, x.Exit = e := ⟨x.Exit.toNat, by omega⟩
            have e5 : wr.cell? ⟨gx, 5, none⟩ = some (.int .i64 (e : Int)) := by rw [← he]; exact hrow.cell (j := 5) rfl
            have hfr := hrow.blk.frozen 5
            have hwe : IntKind.i64.wrap ((e : Int) + (nE : Int)) = (e : Int) + (nE : Int) := by rw [IntWalk.i64_in _ (by omega)]
            have HRW := Lib.hid hrow; have HBW := Lib.hid hbw
            clear hrow hblk hbw hpw9 q3 lq
            go_upto_region 14 with fail
            rw [he] at hz
            have HPZ : Hid (PW w1 w.heap.size go (.int .i64 t.Back.At) (.int .i64 t.Back.Steps) (.slice b7 m7 d7) (.slice b8 m8 d8) v0 v1 v2 v3 (wr.setCell ⟨gx, 5, none⟩ (.int .i64 ((e : Int) + (nE : Int)))) vI vE0 (twK t k 0)) := HP.out.call (by rw [← HGX.out]; exact below_set HBW.out (Nat.le_refl _))
            have HZR : Hid (Row (wr.setCell ⟨gx, 5, none⟩ (.int .i64 ((e : Int) + (nE : Int)))) gx 43 (insL z).toArray) := by show Row _ _ _ _; rw [hz]; exact HRW.out.blk.set 5 (.int .i64 ((e : Int) + (nE : Int)))
            have HOW := Lib.hid HPZ.out.ins
            have HOB : Hid (w1.heap.size ≤ (wr.setCell ⟨gx, 5, none⟩ (.int .i64 ((e : Int) + (nE : Int)))).heap.size) := HPZ.out.below.size
            have HZC : Hid (∀ W, Rep.cells (fun _ => False) W [.int .i64 z.Op, .int .i64 z.A, .int .i64 z.B, .int .i64 z.C, .int .i64 z.N, .int .i64 z.Exit, .int .i64 z.K.Kind, .int .i64 z.K.N] z) := fun W => api_TIns_cells_mk (x := z) HIZ.out.1 HIZ.out.2.1 HIZ.out.2.2.1 HIZ.out.2.2.2.1 HIZ.out.2.2.2.2.1 HIZ.out.2.2.2.2.2.1 HIZ.out.2.2.2.2.2.2.1 HIZ.out.2.2.2.2.2.2.2
            have HTW : Hid (∀ W v, PW w1 w.heap.size go (.int .i64 t.Back.At) (.int .i64 t.Back.Steps) (.slice b7 m7 d7) (.slice b8 m8 d8) v0 v1 v2 v3 W v vE0 ⟨(twK t k 0).Fn, (twK t k 0).At, (twK t k 0).Loop, (twK t k 0).Ins ++ [z], (twK t k 0).Exits, (twK t k 0).Turn, (twK t k 0).Back⟩ → PW w1 w.heap.size go (.int .i64 t.Back.At) (.int .i64 t.Back.Steps) (.slice b7 m7 d7) (.slice b8 m8 d8) v0 v1 v2 v3 W v vE0 (twK t (k + 1) 0)) := fun W v h => by
             rw [← twK_ins HX.out, HEZ.out]
             exact h
            have lz := HZR.out.lt
            have q3 := HPZ.out.row.cell (j := 3) rfl
            have lq := HPZ.out.row.lt
            generalize wr.setCell ⟨gx, 5, none⟩ (.int .i64 ((e : Int) + (nE : Int))) = w9 at HPZ HZR HOW HOB lz q3 lq ⊢
            clear e5 hfr lr hz he h0 h1 HRW HBW HP9
            have HZ8 : Hid (Row w9 gx 43 #[.int .i64 z.Op, .int .i64 z.A, .int .i64 z.B, .int .i64 z.C, .int .i64 z.N, .int .i64 z.Exit, .int .i64 z.K.Kind, .int .i64 z.K.N]) := HZR.out
            have HBR := Lib.hid (buildIns_run w9 (.int .i64 z.Op) (.int .i64 z.A) (.int .i64 z.B) (.int .i64 z.C) (.int .i64 z.N) (.int .i64 z.Exit) (.int .i64 z.K.Kind) (.int .i64 z.K.N))
            go_wp2_with (first
             | (with_reducible refine ldI rfl rfl rfl HZ8.out rfl ?_)
             | (with_reducible refine list_buildL (v := .agg #[.int .i64 z.Op, .int .i64 z.A, .int .i64 z.B, .int .i64 z.C, .int .i64 z.N, .int .i64 z.Exit, .int .i64 z.K.Kind, .int .i64 z.K.N]) rfl rfl (by simp [Act.eval, Act.put]) HBR.out ?_)
             | (at_builtin; (with_reducible refine Tryd.wp_appd27 (S := fun _ => False) (v := vI) (xs := (twK t k 0).Ins) (y := z) (cs := [.int .i64 z.Op, .int .i64 z.A, .int .i64 z.B, .int .i64 z.C, .int .i64 z.N, .int .i64 z.Exit, .int .i64 z.K.Kind, .int .i64 z.K.N]) (w0 := w9) rfl rfl (by with_unfolding_all rfl) rfl rfl (by first | rfl | omega) HOW.out (HZC.out _) (fun _ h => h.elim) HLEN.out HOB.out fun v6 w6 hown6 hg6 hst6 => ?_); obtain ⟨va, ln, vc, rfl⟩ : ∃ va ln vc, v6 = .slice va ln vc := (by obtain ⟨a, c, h, -⟩ := hown6.arr; exact ⟨a, _, c, h⟩); have HN6 := Lib.hid (HPZ.out.addI hown6 hg6 hst6); have e0 := HN6.out.2.1; have e1 := HN6.out.2.2.1; have e2 := HN6.out.2.2.2; clear hown6 hg6 hst6))
            go_roundw
            case rel => exact ⟨k + 1, _, by omega, by go_num, HTW.out _ _ HN6.out.1⟩
            case measure => simp [intOf]; omega
   · obtain rfl : k = nI := by omega
     have HP := Lib.hid hpw
     obtain ⟨-, -, t3, t4, -, -, -, -, lt⟩ := HCELL.out wr hpw.below
     clear hpw HPW HIN
     go_wp2_with fail
     clear t3 t4 lt
     go_loopw [81] (fun i W => ∃ (q : Nat) (vE : Value), q ≤ nE ∧ i = .int .i64 q ∧ PW w1 w.heap.size go (.int .i64 t.Back.At) (.int .i64 t.Back.Steps) (.slice b7 m7 d7) (.slice b8 m8 d8) v0 v1 v2 v3 W vI vE (twK t k q)) (fun i _ => nE - (intOf i).toNat)
     case atStart => exact ⟨0, _, Nat.zero_le _, rfl, HP.out⟩
     case round =>
      obtain ⟨q, vE, hq, rfl, hpw⟩ := hrel
      by_cases hlt2 : q < nE
      · as_aux_lemma =>
         obtain ⟨x, hx⟩ : ∃ x, t.Exits[q]? = some x := ⟨_, List.getElem?_eq_getElem (by rw [HLE.out]; exact hlt2)⟩
         obtain ⟨bx, ox, a2, n2, c2, a3, n3, c3, rfl, hbx, s0, s1, s2, s3, hrx⟩ := texit_at (HEX.out _ hpw.below) hx
         have hbl : bx < wr.heap.size := by have := HDOM.out bx hbx; have := hpw.below.size; omega
         have HXX := Lib.hid hx
         have hqi : (q : Int) < (nE : Int) := by omega
         have HXR : Hid (ExitR t.Ins x) := HR.out.exits x (List.mem_of_getElem? hx)
         have HRX : Hid (∀ W, Below wr.heap.size wr W → Rep.cells S W [.int .i64 x.At, .int .i64 x.Steps, .slice a2 n2 c2, .slice a3 n3 c3] x) := fun W hb => Rep.keep (fun b hb' => hb.block b (by have := HDOM.out b hb'; have := hpw.below.size; omega)) hrx
         have HPQ := Lib.hid hpw
         clear hx hbx hrx hpw
         go_upto_region 19 with fail
         generalize hW5 : wr.alloc (.cells #[.int .i64 x.At, .int .i64 x.Steps, .slice a2 n2 c2, .slice a3 n3 c3] 32) = w5
         have HBW5 : Hid (Below wr.heap.size wr w5) := by show Below _ _ _; rw [← hW5]; exact (Below.refl _ _).alloc (Nat.le_refl _) _
         have HP5 := Lib.hid (HPQ.out.call HBW5.out)
         have hrw := row_new wr #[.int .i64 x.At, .int .i64 x.Steps, .slice a2 n2 c2, .slice a3 n3 c3] 32
         rw [hW5] at hrw
         have HRW := Lib.hid hrw
         have HRL : Hid (wr.heap.size < w5.heap.size) := hrw.lt
         obtain ⟨y, hy⟩ : ∃ y, y = movedX k x := ⟨_, rfl⟩
         have HY := Lib.hid hy
         have HC4 : Hid (Calls Tryd.prog 95 #[.agg #[.int .i64 x.At, .int .i64 x.Steps, .slice a2 n2 c2, .slice a3 n3 c3], .int .i64 (k : Int)] w5.drew fun e w6 => ∃ a2' n2' c2' a3' n3' c3', e = .returned (.agg #[.int .i64 y.At, .int .i64 y.Steps, .slice a2' n2' c2', .slice a3' n3' c3']) ∧
          Rep.cells (SX w.heap.size w1.heap.size go w6 vI vE) w6 [.int .i64 y.At, .int .i64 y.Steps, .slice a2' n2' c2', .slice a3' n3' c3'] y ∧ PW w1 w.heap.size go (.int .i64 t.Back.At) (.int .i64 t.Back.Steps) (.slice b7 m7 d7) (.slice b8 m8 d8) v0 v1 v2 v3 w6 vI vE (twK t k q) ∧ Below w5.heap.size w5 w6) := by
          refine (moved_call (S := S) (by show 0 < w5.heap.size; have := HRL.out; omega) (HRX.out w5.drew HBW5.out.drew) (fun b hb' => by show b < w5.heap.size; have := HDOM.out b hb'; have := HP5.out.below.size; omega) (fewX_of HXR.out) (good_of HXR.out HR.out.few hnI) hy).mono ?_
          rintro e w6 ⟨a2', n2', c2', a3', n3', c3', rfl, hr, hb⟩
          have hb' : Below w5.heap.size w5 w6 := (Below.refl _ _).drew.trans hb
          exact ⟨a2', n2', c2', a3', n3', c3', rfl, HP5.out.ready hb'.size hr, HP5.out.call hb', hb'⟩
         have HLL : Hid ((twK t k q).Exits.length ≤ 1000000) := by show (t.Exits ++ (t.Exits.take q).map _).length ≤ _; simp; have := HLE.out; omega
         clear hW5 hrw hy s0 s1 s2 s3 HRX HP hbl
         obtain ⟨C0, HCC⟩ : ∃ C0 : World → Prop, Hid (∀ W, C0 W ↔ (W.cell? ⟨go, 4, none⟩ = some vE ∧ Row W wr.heap.size 32 #[.int .i64 x.At, .int .i64 x.Steps, .slice a2 n2 c2, .slice a3 n3 c3] ∧ go < W.heap.size)) := ⟨_, fun _ => Iff.rfl⟩
         have HC0 : Hid (C0 w5.drew) := (HCC.out _).2 ⟨HP5.out.row.cell (j := 4) rfl, HRW.out, HP5.out.row.lt⟩
         have HNEC : Nonempty (HeldW C0) := ⟨⟨_, HC0.out⟩⟩
         refine wp_region_plan C0 [(true, 0), (true, 1), (true, 2), (true, 3), (false, 4), (false, 5)] 6 20 (by kernel_rfl) (by kernel_rfl) (by kernel_rfl) (by kernel_rfl) HC0.out ?_
         simp only [List.drop_succ_cons, List.drop_zero]
         have hd1 : ∀ d : HeldW C0, d.val.cell? ⟨go, 4, none⟩ = some vE := fun d => ((HCC.out _).1 d.ok).1
         have hx0 : ∀ d : HeldW C0, d.val.cell? ⟨wr.heap.size, 0, none⟩ = some (.int .i64 x.At) := fun d => ((HCC.out _).1 d.ok).2.1.cell (j := 0) rfl
         have hx1 : ∀ d : HeldW C0, d.val.cell? ⟨wr.heap.size, 1, none⟩ = some (.int .i64 x.Steps) := fun d => ((HCC.out _).1 d.ok).2.1.cell (j := 1) rfl
         have hx2 : ∀ d : HeldW C0, d.val.cell? ⟨wr.heap.size, 2, none⟩ = some (.slice a2 n2 c2) := fun d => ((HCC.out _).1 d.ok).2.1.cell (j := 2) rfl
         have hx3 : ∀ d : HeldW C0, d.val.cell? ⟨wr.heap.size, 3, none⟩ = some (.slice a3 n3 c3) := fun d => ((HCC.out _).1 d.ok).2.1.cell (j := 3) rfl
         have hxl : ∀ d : HeldW C0, wr.heap.size < d.val.heap.size := fun d => ((HCC.out _).1 d.ok).2.1.lt
         have hgl : ∀ d : HeldW C0, go < d.val.heap.size := fun d => ((HCC.out _).1 d.ok).2.2
         refine plan_quiet (by repeat (first | with_reducible exact nth_zero | with_reducible apply nth_succ)) ?_
         go_big_quiet_step (fail)
         refine wpQuiet_nil ?_
         refine plan_quiet (by repeat (first | with_reducible exact nth_zero | with_reducible apply nth_succ)) ?_
         go_big_quiet_step (fail)
         refine wpQuiet_nil ?_
         refine plan_quiet (by repeat (first | with_reducible exact nth_zero | with_reducible apply nth_succ)) ?_
         go_big_quiet_step (fail)
         refine wpQuiet_nil ?_
         refine plan_quiet (by repeat (first | with_reducible exact nth_zero | with_reducible apply nth_succ)) ?_
         go_big_quiet_step (fail)
         refine wpQuiet_nil ?_
         refine plan_op (by repeat (first | with_reducible exact nth_zero | with_reducible apply nth_succ)) (by rfl) fun RR HRR => ?_
         go_wp2_with (go_at_call 95; refine HC4.out.mono ?_; rintro e w6 ⟨a2', n2', c2', a3', n3', c3', rfl, hr6, hp6, hb6⟩; have HR6 := Lib.hid hr6; have HP6 := Lib.hid hp6; have HB6 := Lib.hid hb6; clear hr6 hp6 hb6)
         have HC6 : Hid (C0 w6) := (HCC.out _).2 ⟨HP6.out.row.cell (j := 4) rfl, HRW.out.keep (HB6.out.block _ HRW.out.lt), HP6.out.row.lt⟩
         refine AfterT.normal (HRR _ _ (isC HC6.out) ?_)
         clear HRR RR
         refine plan_op (by repeat (first | with_reducible exact nth_zero | with_reducible apply nth_succ)) (by rfl) fun RR HRR => ?_
         have HP7 := Lib.hid (HP6.out.call ((Below.refl _ _).alloc (Nat.le_refl _) (.cells #[.int .i64 y.At, .int .i64 y.Steps, .slice a2' n2' c2', .slice a3' n3' c3'] 32)))
         have HC7 : Hid (C0 (w6.alloc (.cells #[.int .i64 y.At, .int .i64 y.Steps, .slice a2' n2' c2', .slice a3' n3' c3'] 32))) := (HCC.out _).2 ⟨HP7.out.row.cell (j := 4) rfl, ((HCC.out _).1 HC6.out).2.1.keep (Below.heap_alloc _ _ _ (((HCC.out _).1 HC6.out).2.1.lt)), HP7.out.row.lt⟩
         have HBR := Lib.hid (buildX_run w6 (.int .i64 y.At) (.int .i64 y.Steps) (.slice a2' n2' c2') (.slice a3' n3' c3'))
         refine list_build (v := .agg #[.int .i64 y.At, .int .i64 y.Steps, .slice a2' n2' c2', .slice a3' n3' c3']) rfl rfl (by simp [Act.eval]) (by with_reducible exact HBR.out) (HRR _ _ (isC HC7.out) ?_)
         clear HRR RR
         simp only [Act.put, List.setIfInBounds_toArray, List.set_cons_zero, List.set_cons_succ]
         refine plan_done ?_
         clear hd1 hx0 hx1 hx2 hx3 hxl hgl
         have HO6 := Lib.hid HP6.out.exs
         have HL6 : Hid (w1.heap.size ≤ w6.heap.size) := HP6.out.below.size
         have HSB : Hid (∀ j, SX w.heap.size w1.heap.size go w6 vI vE j → j < w6.heap.size ∧ vE.ownBlock ≠ some j) := fun j hj => ⟨hj.2.1, hj.2.2.2.1⟩
         go_wp2_with (at_builtin; (with_reducible refine Tryd.wp_appd28 (S := SX w.heap.size w1.heap.size go w6 vI vE) (v := vE) (xs := (twK t k q).Exits) (y := y) (cs := [.int .i64 y.At, .int .i64 y.Steps, .slice a2' n2' c2', .slice a3' n3' c3']) (w0 := w6) rfl rfl (by with_unfolding_all rfl) rfl rfl (by first | rfl | omega) HO6.out HR6.out HSB.out (by have := HLL.out; omega) HL6.out fun v9 w9 hown9 hg9 hst9 => ?_); obtain ⟨va, ln, vc, rfl⟩ : ∃ va ln vc, v9 = .slice va ln vc := (by obtain ⟨a, c, h, -⟩ := hown9.arr; exact ⟨a, _, c, h⟩); have HN9 := Lib.hid (HP6.out.addE hown9 hg9 hst9); have e0 := HN9.out.2.1; have e1 := HN9.out.2.2.1; have e2 := HN9.out.2.2.2; clear hown9 hg9 hst9)
         all_goals refine NoPanic.normal ?_
         have HNX : Hid (PW w1 w.heap.size go (.int .i64 t.Back.At) (.int .i64 t.Back.Steps) (.slice b7 m7 d7) (.slice b8 m8 d8) v0 v1 v2 v3 (w9.setCell ⟨go, 4, none⟩ (.slice va ln vc)) vI (.slice va ln vc) (twK t k (q + 1))) := by
          have h := HN9.out.1
          have e : movedX t.Ins.length x = y := by rw [HLI.out, HY.out]
          rw [← twK_exs HXX.out, e]
          exact h
         go_wp2_with fail
         go_roundw
         case rel => exact ⟨q + 1, _, by omega, by go_num, HNX.out⟩
         case measure => simp [intOf]; omega
      · as_aux_lemma =>
         obtain rfl : q = nE := by omega
         have HTQ : Hid (twK t k q = twiceT t) := by show _ = _; rw [← HLI.out, ← HLE.out]; exact twK_all t
         have hF : (twK t k q).Fn = t.Fn ∧ (twK t k q).At = t.At ∧ (twK t k q).Loop = (k : Int) := ⟨rfl, rfl, by show ((t.Ins.length : Nat) : Int) = _; rw [HLI.out]⟩
         have hrep := hpw.rep (by rw [hF.1]; exact HFA.out.1) (by rw [hF.2.1]; exact HFA.out.2) (by rw [hF.2.2]; unfold I64; omega)
         obtain ⟨C, hC⟩ : ∃ C : Array Value, C = #[.int .i64 (twK t k q).Fn, .int .i64 (twK t k q).At, .int .i64 (twK t k q).Loop, vI, vE, .int .i64 t.Back.At, .int .i64 t.Back.Steps, .slice b7 m7 d7, .slice b8 m8 d8, v0, v1, v2, v3] := ⟨_, rfl⟩
         have hrep2 : Rep.cells (fun k => k < wr.heap.size ∧ (k < w.heap.size ∨ w1.heap.size ≤ k)) wr C.toList (twiceT t) := by rw [hC, ← HTQ.out]; exact hrep
         have HROW : Hid (Row wr go 34 C) := by show Row _ _ _ _; rw [hC]; exact hpw.row
         have hsC : C.size = 13 := rep_size hrep2
         have HC1 := Lib.hid (one_of hrep2)
         have HREP := Lib.hid hrep2
         have HZR := Lib.hid (HRT.out wr hpw.below).2
         have HBW : Hid (Below w.heap.size w wr) := HB1.out.trans (hpw.below.mono HB1.out.size)
         have HFG : Hid (w1.heap.size ≤ go) := hpw.far
         clear hpw hrep hrep2 hC hF HP
         go_wp2_with (first
          | (with_reducible refine ldT rfl rfl rfl HROW.out hsC ?_)
          | (with_reducible refine stT (OLD := zeroTL.toArray) (C := C) rfl rfl rfl rfl HZR.out hsC rfl HC1.out ?_))
         have HYR : Hid (Row (wr.setRow (w.heap.size + 1) C) (w.heap.size + 1) 34 C) := setRow_heap _ _ _ _ _ _ HZR.out
         have hss : (wr.setRow (w.heap.size + 1) C).heap.size = wr.heap.size := by simp [World.setRow]
         (try simp only [Exit.inBlock, Exit.then])
         refine bodyPost_ret (results_cell_row rfl _ _ _ _ _ _ _ rfl HYR.out Tryd.underlying34 rfl (infoT hsC)) rfl ⟨C, hsC, HC1.out, rfl, ?_, below_setRow HBW.out (by omega) _⟩
         refine Rep.mono (fun j hj => by rw [hss]; exact hj.1) (Rep.keep (fun j hj => setRow_other _ _ _ _ ?_) HREP.out)
         have := hj.2
         have := HZ1.out
         omega
end Go.Proofs.YtekofpigmggbbaaDoor.peel
