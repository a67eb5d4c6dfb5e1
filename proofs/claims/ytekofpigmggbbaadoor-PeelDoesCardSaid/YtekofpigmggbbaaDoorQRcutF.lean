/- The document's Cut: walked. -/
import Derived.Test.YtekofpigmggbbaaDoorQRcutM
import Derived.Test.YtekofpigmggbbaaDoorQCutF
import Derived.Test.YtekofpigmggbbaaDoorQHead
import Derived.Laws.EntriesVeiled
set_option linter.unusedVariables false
set_option linter.unusedSimpArgs false
namespace Go.Proofs.YtekofpigmggbbaaDoor.cut
open Go.Bk Go.RowKit Go.Proofs.YtekofpigmggbbaaDoor.ir Go.Proofs.YtekofpigmggbbaaDoor.chk
attribute [local go_sem ↓] Go.wp_at_zero Go.wp_at_succ
theorem RightT.fewT {t : Api.TTrace} (h : RightT t) : FewT t := by
 have hx : ∀ x, ExitR t.Ins x → FewX x := fun x hx => ⟨by have := hx.fewS; omega, by have := hx.fewM; omega, fun m hm => by have := (hx.makes m hm).2.1; omega⟩
 exact ⟨by have := h.few; omega, by have := h.fewE; omega, fun x hx' => hx x (h.exits x hx'), hx _ h.turn, hx _ h.back⟩
theorem zero_cells (S : Nat → Prop) (W : World) : Rep.cells S W zeroTL zeroT := by
 have h0 : I64 0 := by unfold I64; omega
 exact ⟨_, _, ⟨rfl, h0⟩, ⟨_, _, ⟨rfl, h0⟩, ⟨_, _, ⟨rfl, h0⟩, ⟨_, _, ⟨none, 0, rfl, Nat.le_refl _, fun _ => rfl, Arr.nil _ _ _⟩, ⟨_, _, ⟨none, 0, rfl, Nat.le_refl _, fun _ => rfl, Arr.nil _ _ _⟩, ⟨_, _, zero_exit, zero_exit, rfl⟩, rfl⟩, rfl⟩, rfl⟩, rfl⟩, rfl⟩
/-- The loop's place, when k instructions are done. -/
def lvR (t : Api.TTrace) (ts : List Int) (k : Nat) : Int := (keptN ts (min t.Loop.toNat k) : Int)
theorem lvR_out {t : Api.TTrace} {ts : List Int} {k : Nat} (h : ts[k]? ≠ some (k : Int)) : lvR t ts (k + 1) = lvR t ts k := by
 unfold lvR
 rcases Nat.lt_or_ge k t.Loop.toNat with h1 | h1
 · rw [Nat.min_eq_right (by omega), Nat.min_eq_right (by omega)]
   show ((keptN ts k + _ : Nat) : Int) = _
   rw [if_neg h]; rfl
 · rw [Nat.min_eq_left (by omega), Nat.min_eq_left (by omega)]
theorem lvR_in {t : Api.TTrace} {ts : List Int} {k : Nat} (h : ts[k]? = some (k : Int)) : lvR t ts (k + 1) = if (k : Int) < t.Loop then lvR t ts k + 1 else lvR t ts k := by
 unfold lvR
 split
 · rw [Nat.min_eq_right (by omega), Nat.min_eq_right (by omega)]
   show ((keptN ts k + _ : Nat) : Int) = _
   rw [if_pos h]; omega
 · rw [Nat.min_eq_left (by omega), Nat.min_eq_left (by omega)]
theorem lvR_le (t : Api.TTrace) (ts : List Int) (k : Nat) : 0 ≤ lvR t ts k ∧ lvR t ts k ≤ k := by
 unfold lvR
 have := keptN_le ts (min t.Loop.toNat k)
 omega
theorem list_buildL {P : Program} {ops : Array Oper} {Q : Exit → Act → World → Prop} {o : Oper} {x : Operand} {v u : Value} {ty : TypeId} {a : Act} {w w' : World} {rest : List Oper} (hg : o.guard = none) (ho : o.op = .buildSlice ty 1 #[(0, x)]) (hx : a.eval x = v)
 (hr : (Instr.buildSlice ty 1 #[(0, v)]).run P w = .ok u w') (h : wpList P ops Q rest (a.put o.dst u) w') : wpList P ops Q (o :: rest) a w := by
 unfold wpList
 rw [if_pos (by simp [Region.wanted, hg])]
 refine .inl ?_
 unfold Oper.wp execOp
 simp only [ho, List.map_toArray, List.map_cons, List.map_nil, hx]
 rw [Sem.run_bind, hr]
 exact h
theorem buildX_run (w : World) (v0 v1 v2 v3 : Value) : (Instr.buildSlice 28 1 #[(0, .agg #[v0, v1, v2, v3])]).run Tryd.prog w = .ok (.slice (some ⟨w.heap.size, 0, none⟩) 1 1) (w.alloc (.cells #[v0, v1, v2, v3] 32)) := by
 simp [Instr.buildSlice, go_sem]
theorem buildT_run (w : World) (v0 v1 : Int) (u0 u1 u2 u3 q0 q1 q2 q3 : Value) : (Instr.build 34 #[(0, .int .i64 v0), (1, .int .i64 v1), (5, .agg #[u0, u1, u2, u3]), (6, .agg #[q0, q1, q2, q3])]).run Tryd.prog w = .ok (.agg #[.int .i64 v0, .int .i64 v1, .int .i64 0, .slice none 0 0, .slice none 0 0, u0, u1, u2, u3, q0, q1, q2, q3]) w := by
 simp [Instr.build, go_sem]
/-- The trace that the document's Cut answers. -/
def cutR (t : Api.TTrace) (ts : List Int) : Api.TTrace := if fineT t ts then cutT t ts else zeroT
theorem cutR_no {t : Api.TTrace} {ts : List Int} (h : false = fineT t ts) : cutR t ts = zeroT := by unfold cutR; rw [← h]; rfl
theorem cutR_yes {t : Api.TTrace} {ts : List Int} (h : true = fineT t ts) : cutR t ts = cutT t ts := by unfold cutR; rw [← h]; rfl
theorem setRow_alloc (w : World) (o C : Array Value) (e : TypeId) : (w.alloc (.cells o e)).setRow w.heap.size C = w.alloc (.cells C e) := by
 unfold World.setRow World.alloc
 congr 1
 apply Array.ext_getElem?
 intro i
 simp only [Array.getElem?_modify, Array.getElem?_push]
 by_cases h : w.heap.size = i
 · subst h; simp
 · rw [if_neg h, if_neg (Ne.symm h), if_neg (Ne.symm h)]
theorem heap5 (w : World) (o0 o1 o2 o3 o4 : Obj) (W : World) (hW : W = ((((w.alloc o0).alloc o1).alloc o2).alloc o3).alloc o4) :
 W.heap[w.heap.size]? = some o0 ∧ W.heap[w.heap.size + 1]? = some o1 ∧ W.heap[w.heap.size + 2]? = some o2 ∧ W.heap[w.heap.size + 3]? = some o3 ∧ W.heap[w.heap.size + 4]? = some o4 ∧ W.heap.size = w.heap.size + 5 := by
 have s1 : (w.alloc o0).heap.size = w.heap.size + 1 := World.size_alloc _ _
 have s2 : ((w.alloc o0).alloc o1).heap.size = w.heap.size + 2 := by rw [World.size_alloc, s1]
 have s3 : (((w.alloc o0).alloc o1).alloc o2).heap.size = w.heap.size + 3 := by rw [World.size_alloc, s2]
 have s4 : ((((w.alloc o0).alloc o1).alloc o2).alloc o3).heap.size = w.heap.size + 4 := by rw [World.size_alloc, s3]
 have n0 := heap_alloc_new w o0
 have n1 := heap_alloc_new (w.alloc o0) o1
 have n2 := heap_alloc_new ((w.alloc o0).alloc o1) o2
 have n3 := heap_alloc_new (((w.alloc o0).alloc o1).alloc o2) o3
 have n4 := heap_alloc_new ((((w.alloc o0).alloc o1).alloc o2).alloc o3) o4
 rw [s1] at n1; rw [s2] at n2; rw [s3] at n3; rw [s4] at n4
 rw [hW]
 refine ⟨?_, ?_, ?_, ?_, n4, by rw [World.size_alloc, s4]⟩
 · rw [Below.heap_alloc _ _ _ (by omega), Below.heap_alloc _ _ _ (by omega), Below.heap_alloc _ _ _ (by omega), Below.heap_alloc _ _ _ (by omega)]; exact n0
 · rw [Below.heap_alloc _ _ _ (by omega), Below.heap_alloc _ _ _ (by omega), Below.heap_alloc _ _ _ (by omega)]; exact n1
 · rw [Below.heap_alloc _ _ _ (by omega), Below.heap_alloc _ _ _ (by omega)]; exact n2
 · rw [Below.heap_alloc _ _ _ (by omega)]; exact n3
theorem cutIns_asks {g : Int → Int} {x : Api.TIns} {n : Nat} (h : (formOf x.Op).1.asks = n) : cutIns g x = cutArgs g (n : Nat) x := by unfold cutIns; rw [h]
set_option maxRecDepth 100000 in
set_option maxHeartbeats 40000000 in
theorem rcut_any {S R : Nat → Prop} {w : World} {T : Array Value} {t : Api.TTrace} {ts : List Int} {aT : Option Addr} {nT cT : Nat} (ht : Rep.cells S w T.toList t) (hS : ∀ b, S b → b < w.heap.size) (hts : Arr R w aT ts) (hR : ∀ b, R b → b < w.heap.size) (hn : ts.length = nT) (hfew : FewT t) (hlen : ts.length = t.Ins.length) (hok : toOk ts ts.length = true) (hah : Ahead t.Ins) (hlp : 0 ≤ t.Loop) :
 Calls Tryd.prog 42 #[.agg T, .slice aT nT cT] w fun e w' => ∃ cs : List Value, e = .returned (.tuple #[.agg cs.toArray, .bool (fineT t ts)]) ∧ Rep.cells (Fresh w w') w' cs (cutR t ts) ∧ Below w.heap.size w w' ∧ (fineT t ts = true → OwnT w.heap.size w' cs (cutT t ts)) := by
 obtain ⟨aI, nI, cI, aE, nE, cE, a7, n7, c7, a8, n8, c8, b7, m7, d7, b8, m8, d8, hT⟩ := tall_of ht
 have hsT : T.size = 13 := rep_size ht
 obtain rfl : nI = nT := by rw [← hT.lenI, ← hn, hlen]
 have HFA : Hid (I64 t.Fn ∧ I64 t.At) := by obtain ⟨_, _, ⟨rfl, h0⟩, ⟨_, _, ⟨rfl, h1⟩, _, _⟩, _⟩ := ht; exact ⟨h0, h1⟩
 have hI9 : nI ≤ 100000 := by rw [← hT.lenI]; exact hfew.ins
 have hE9 : nE ≤ 100000 := by rw [← hT.lenE]; exact hfew.exits
 have HCE : Hid (∀ W, Below w.heap.size w W → TAll S W T t aI nI cI aE nE cE a7 n7 c7 a8 n8 c8 b7 m7 d7 b8 m8 d8 ∧ Arr R W aT ts) := fun W hb =>
  ⟨hT.keep fun b hb' => hb.block b (hS b hb'), hts.keep fun b hb' => hb.block b (hR b hb')⟩
 have HS := Lib.hid hS; have HR := Lib.hid hR; have HN := Lib.hid hn; have HFEW := Lib.hid hfew; have HOK := Lib.hid hok; have HAH := Lib.hid hah; have HLP := Lib.hid hlp
 have HL6 : Hid (ts.length ≤ 1000000) := by show _ ≤ _; omega
 have HLI := Lib.hid hT.lenI; have HLE := Lib.hid hT.lenE; have HTE := Lib.hid hT.eq
 have HZO : Hid ((zeroTL.toArray).all (·.oneCell') = true) := by show _ = _; simp [zeroTL, Value.oneCell']
 have HZE : Hid (∀ W W', Rep.cells (Fresh W W') W' zeroTL zeroT) := fun W W' => by
  have h0 : I64 0 := by unfold I64; omega
  exact ⟨_, _, ⟨rfl, h0⟩, ⟨_, _, ⟨rfl, h0⟩, ⟨_, _, ⟨rfl, h0⟩, ⟨_, _, ⟨none, 0, rfl, Nat.le_refl _, fun _ => rfl, Arr.nil _ _ _⟩, ⟨_, _, ⟨none, 0, rfl, Nat.le_refl _, fun _ => rfl, Arr.nil _ _ _⟩, ⟨_, _, zero_exit, zero_exit, rfl⟩, rfl⟩, rfl⟩, rfl⟩, rfl⟩, rfl⟩
 obtain ⟨w4, hw4⟩ : ∃ w4, w4 = ((((w.alloc (.cells T 34)).alloc (.cells #[.slice aT nI cT] 58)).alloc (.cells #[.int .i64 0, .int .i64 0, .int .i64 0, .slice none 0 0, .slice none 0 0, .int .i64 0, .int .i64 0, .slice none 0 0, .slice none 0 0, .int .i64 0, .int .i64 0, .slice none 0 0, .slice none 0 0] 34)).alloc (.cells #[.bool true] 4)).alloc (.cells #[placeV w.heap.size] 103) := ⟨_, rfl⟩
 have HB4 : Hid (RB R T w ts aT nI cT w4 true) := by
  have b1 := (Below.refl w.heap.size w).alloc (Nat.le_refl _) (.cells T 34)
  have b2 := b1.alloc b1.size (.cells #[.slice aT nI cT] 58)
  have b3 := b2.alloc b2.size (.cells #[.int .i64 0, .int .i64 0, .int .i64 0, .slice none 0 0, .slice none 0 0, .int .i64 0, .int .i64 0, .slice none 0 0, .slice none 0 0, .int .i64 0, .int .i64 0, .slice none 0 0, .slice none 0 0] 34)
  have b4 := b3.alloc b3.size (.cells #[.bool true] 4)
  have b5 := b4.alloc b4.size (.cells #[placeV w.heap.size] 103)
  rw [← hw4] at b5
  obtain ⟨r0, r1, r2, r3, r4, hz⟩ := heap5 w _ _ _ _ _ w4 hw4
  have r0 : Row w4 w.heap.size 34 T := r0
  have r1 : Row w4 (w.heap.size + 1) 58 #[.slice aT nI cT] := r1
  have r2 : Row w4 (w.heap.size + 2) 34 zeroTL.toArray := r2
  have r3 : Row w4 (w.heap.size + 3) 4 #[.bool true] := r3
  have r4 : Row w4 (w.heap.size + 4) 103 #[placeV w.heap.size] := r4
  refine ⟨r0, r2, ⟨r1.cell rfl, r3.blk, hts.keep fun b hb' => b5.block b (hR b hb'), hn, by omega, by omega, fun k hk => ?_⟩, r4.cell rfl, b5, by omega, hR⟩
  have := hR k hk
  omega
 clear ht hS hts hR hn hfew hT hok hah hlp hlen
 go_enter Tryd.func42, Tryd.ntmps42
 go_upto_region 4 with fail
 rw [show w.heap.size + 1 + 1 = w.heap.size + 2 from rfl, show w.heap.size + 2 + 1 = w.heap.size + 3 from rfl, show w.heap.size + 3 + 1 = w.heap.size + 4 from rfl]
 have hw4' := hw4
 unfold placeV at hw4'
 rw [← hw4']
 clear hw4'
 clear hw4
 obtain ⟨x, hx⟩ : ∃ x, x = cutExit (oneV (atOf ts ts.length)) t.Turn := ⟨_, rfl⟩
 obtain ⟨y, hy⟩ : ∃ y, y = cutExit (oneV (atOf ts ts.length)) t.Back := ⟨_, rfl⟩
 have HXE := Lib.hid hx; have HYE := Lib.hid hy
 have HXT : Hid (∀ (W : World) (b : Bool), RB R T w ts aT nI cT W b → Calls Tryd.prog 89 #[.agg #[.int .i64 t.Turn.At, .int .i64 t.Turn.Steps, .slice a7 n7 c7, .slice a8 n8 c8], .pointer (some ⟨w.heap.size + 4, 0, none⟩)] W fun e w6 => ∃ a2' n2' c2' a3' n3' c3', e = .returned (.agg #[.int .i64 x.At, .int .i64 x.Steps, .slice a2' n2' c2', .slice a3' n3' c3']) ∧ Rep.cells (Fresh W w6) w6 [.int .i64 x.At, .int .i64 x.Steps, .slice a2' n2' c2', .slice a3' n3' c3'] x ∧ RB R T w ts aT nI cT w6 (b && fineExit (oneV (atOf ts ts.length)) t.Turn) ∧ Wr W.heap.size (w.heap.size + 3) W w6) := fun W b he => he.exit_any HOK.out HL6.out (X := #[.int .i64 t.Turn.At, .int .i64 t.Turn.Steps, .slice a7 n7 c7, .slice a8 n8 c8]) (HCE.out W he.below).1.turn HS.out HFEW.out.turn hx
 have HXB : Hid (∀ (W : World) (b : Bool), RB R T w ts aT nI cT W b → Calls Tryd.prog 89 #[.agg #[.int .i64 t.Back.At, .int .i64 t.Back.Steps, .slice b7 m7 d7, .slice b8 m8 d8], .pointer (some ⟨w.heap.size + 4, 0, none⟩)] W fun e w6 => ∃ a2' n2' c2' a3' n3' c3', e = .returned (.agg #[.int .i64 y.At, .int .i64 y.Steps, .slice a2' n2' c2', .slice a3' n3' c3']) ∧ Rep.cells (Fresh W w6) w6 [.int .i64 y.At, .int .i64 y.Steps, .slice a2' n2' c2', .slice a3' n3' c3'] y ∧ RB R T w ts aT nI cT w6 (b && fineExit (oneV (atOf ts ts.length)) t.Back) ∧ Wr W.heap.size (w.heap.size + 3) W w6) := fun W b he => he.exit_any HOK.out HL6.out (X := #[.int .i64 t.Back.At, .int .i64 t.Back.Steps, .slice b7 m7 d7, .slice b8 m8 d8]) (HCE.out W he.below).1.back HS.out HFEW.out.back hy
 have HKS : Hid (∀ W, Row W w.heap.size 34 T → W.cell? ⟨w.heap.size, 0, none⟩ = some (.int .i64 t.Fn) ∧ W.cell? ⟨w.heap.size, 1, none⟩ = some (.int .i64 t.At) ∧ W.cell? ⟨w.heap.size, 5, none⟩ = some (.int .i64 t.Turn.At) ∧ W.cell? ⟨w.heap.size, 6, none⟩ = some (.int .i64 t.Turn.Steps) ∧ W.cell? ⟨w.heap.size, 7, none⟩ = some (.slice a7 n7 c7) ∧ W.cell? ⟨w.heap.size, 8, none⟩ = some (.slice a8 n8 c8) ∧ W.cell? ⟨w.heap.size, 9, none⟩ = some (.int .i64 t.Back.At) ∧ W.cell? ⟨w.heap.size, 10, none⟩ = some (.int .i64 t.Back.Steps) ∧ W.cell? ⟨w.heap.size, 11, none⟩ = some (.slice b7 m7 d7) ∧ W.cell? ⟨w.heap.size, 12, none⟩ = some (.slice b8 m8 d8)) := fun W h => ⟨h.cell (j := 0) (by rw [HTE.out]; rfl), h.cell (j := 1) (by rw [HTE.out]; rfl), h.cell (j := 5) (by rw [HTE.out]; rfl), h.cell (j := 6) (by rw [HTE.out]; rfl), h.cell (j := 7) (by rw [HTE.out]; rfl), h.cell (j := 8) (by rw [HTE.out]; rfl), h.cell (j := 9) (by rw [HTE.out]; rfl), h.cell (j := 10) (by rw [HTE.out]; rfl), h.cell (j := 11) (by rw [HTE.out]; rfl), h.cell (j := 12) (by rw [HTE.out]; rfl)⟩
 have HTC : Hid (∀ W, Row W w.heap.size 34 T → W.cell? ⟨w.heap.size, 2, none⟩ = some (.int .i64 t.Loop) ∧ W.cell? ⟨w.heap.size, 3, none⟩ = some (.slice aI nI cI) ∧ W.cell? ⟨w.heap.size, 4, none⟩ = some (.slice aE nE cE) ∧ w.heap.size < W.heap.size) := fun W h =>
  ⟨h.cell (j := 2) (by rw [HTE.out]; rfl), h.cell (j := 3) (by rw [HTE.out]; rfl), h.cell (j := 4) (by rw [HTE.out]; rfl), h.lt⟩
 obtain ⟨b1, hb1⟩ : ∃ b1, b1 = (true && fineExit (oneV (atOf ts ts.length)) t.Turn && fineExit (oneV (atOf ts ts.length)) t.Back) := ⟨_, rfl⟩
 have HB1 := Lib.hid hb1
 clear hx hy hb1
 go_cut [9] (fun s9 W => ∃ (go n1 : Nat) (u0 u1 u2 u3 v0 v1 v2 v3 : Value), s9 = .pointer (some ⟨go, 0, none⟩) ∧ RC R T t w ts aT nI cT n1 go x y u0 u1 u2 u3 v0 v1 v2 v3 W 0 (.slice none 0 0) (.slice none 0 0) b1)
 case first =>
  as_aux_lemma =>
   have HBD := Lib.hid HB4.out.drew
   obtain ⟨C0, HCC⟩ : ∃ C0 : World → Prop, Hid (∀ W, C0 W ↔ Row W w.heap.size 34 T) := ⟨_, fun _ => Iff.rfl⟩
   have HC0 : Hid (C0 w4.drew) := (HCC.out _).2 HBD.out.box
   have HNEC : Nonempty (HeldW C0) := ⟨⟨_, HC0.out⟩⟩
   refine wp_region_tree C0 (.quiet 0 (.quiet 1 (.quiet 2 (.quiet 3 (.quiet 4 (.quiet 5 (.quiet 6 (.quiet 8 (.quiet 9 (.quiet 10 (.both 7 (.both 11 (.both 12 (.op 13 .tail) 13 (.op 12 .tail)) 13 (.op 11 (.op 12 .tail))) 13 (.op 7 (.op 11 (.op 12 .tail)))))))))))))) 14 20 (by kernel_rfl) (by kernel_rfl) (by kernel_rfl) (by kernel_rfl) HC0.out ?_
   simp only [List.drop_succ_cons, List.drop_zero]
   have hd0 : ∀ d : HeldW C0, d.val.cell? ⟨w.heap.size, 5, none⟩ = some (.int .i64 t.Turn.At) := fun d => (HKS.out _ ((HCC.out _).1 d.ok)).2.2.1
   have hd1 : ∀ d : HeldW C0, d.val.cell? ⟨w.heap.size, 6, none⟩ = some (.int .i64 t.Turn.Steps) := fun d => (HKS.out _ ((HCC.out _).1 d.ok)).2.2.2.1
   have hd2 : ∀ d : HeldW C0, d.val.cell? ⟨w.heap.size, 7, none⟩ = some (.slice a7 n7 c7) := fun d => (HKS.out _ ((HCC.out _).1 d.ok)).2.2.2.2.1
   have hd3 : ∀ d : HeldW C0, d.val.cell? ⟨w.heap.size, 8, none⟩ = some (.slice a8 n8 c8) := fun d => (HKS.out _ ((HCC.out _).1 d.ok)).2.2.2.2.2.1
   have hd4 : ∀ d : HeldW C0, d.val.cell? ⟨w.heap.size, 9, none⟩ = some (.int .i64 t.Back.At) := fun d => (HKS.out _ ((HCC.out _).1 d.ok)).2.2.2.2.2.2.1
   have hd5 : ∀ d : HeldW C0, d.val.cell? ⟨w.heap.size, 10, none⟩ = some (.int .i64 t.Back.Steps) := fun d => (HKS.out _ ((HCC.out _).1 d.ok)).2.2.2.2.2.2.2.1
   have hd6 : ∀ d : HeldW C0, d.val.cell? ⟨w.heap.size, 11, none⟩ = some (.slice b7 m7 d7) := fun d => (HKS.out _ ((HCC.out _).1 d.ok)).2.2.2.2.2.2.2.2.1
   have hd7 : ∀ d : HeldW C0, d.val.cell? ⟨w.heap.size, 12, none⟩ = some (.slice b8 m8 d8) := fun d => (HKS.out _ ((HCC.out _).1 d.ok)).2.2.2.2.2.2.2.2.2
   have hd8 : ∀ d : HeldW C0, d.val.cell? ⟨w.heap.size, 0, none⟩ = some (.int .i64 t.Fn) := fun d => (HKS.out _ ((HCC.out _).1 d.ok)).1
   have hd9 : ∀ d : HeldW C0, d.val.cell? ⟨w.heap.size, 1, none⟩ = some (.int .i64 t.At) := fun d => (HKS.out _ ((HCC.out _).1 d.ok)).2.1
   have hdl : ∀ d : HeldW C0, w.heap.size < d.val.heap.size := fun d => ((HCC.out _).1 d.ok).lt
   refine tree_quiet (by repeat (first | with_reducible exact nth_zero | with_reducible apply nth_succ)) ?_
   go_big_quiet_step (fail)
   refine wpQuiet_nil ?_
   refine tree_quiet (by repeat (first | with_reducible exact nth_zero | with_reducible apply nth_succ)) ?_
   go_big_quiet_step (fail)
   refine wpQuiet_nil ?_
   refine tree_quiet (by repeat (first | with_reducible exact nth_zero | with_reducible apply nth_succ)) ?_
   go_big_quiet_step (fail)
   refine wpQuiet_nil ?_
   refine tree_quiet (by repeat (first | with_reducible exact nth_zero | with_reducible apply nth_succ)) ?_
   go_big_quiet_step (fail)
   refine wpQuiet_nil ?_
   refine tree_quiet (by repeat (first | with_reducible exact nth_zero | with_reducible apply nth_succ)) ?_
   go_big_quiet_step (fail)
   refine wpQuiet_nil ?_
   refine tree_quiet (by repeat (first | with_reducible exact nth_zero | with_reducible apply nth_succ)) ?_
   go_big_quiet_step (fail)
   refine wpQuiet_nil ?_
   refine tree_quiet (by repeat (first | with_reducible exact nth_zero | with_reducible apply nth_succ)) ?_
   go_big_quiet_step (fail)
   refine wpQuiet_nil ?_
   refine tree_quiet (by repeat (first | with_reducible exact nth_zero | with_reducible apply nth_succ)) ?_
   go_big_quiet_step (fail)
   refine wpQuiet_nil ?_
   refine tree_quiet (by repeat (first | with_reducible exact nth_zero | with_reducible apply nth_succ)) ?_
   go_big_quiet_step (fail)
   refine wpQuiet_nil ?_
   refine tree_quiet (by repeat (first | with_reducible exact nth_zero | with_reducible apply nth_succ)) ?_
   go_big_quiet_step (fail)
   refine wpQuiet_nil ?_
   refine tree_both ?_ ?_
   · refine opGoal_mk (by repeat (first | with_reducible exact nth_zero | with_reducible apply nth_succ)) (by rfl) fun RR HRR => ?_
     go_wp2_with (go_at_call 89; refine (HXT.out _ _ HBD.out).mono ?_; rintro e w6 ⟨r2, r2n, r2c, r3, r3n, r3c, rfl, hr, hb, hw⟩; have HB6 := Lib.hid hb; have HR6 := Lib.hid hr; have HW6 := Lib.hid hw; clear hr hb hw)
     have HC6 : Hid (C0 w6) := (HCC.out _).2 HB6.out.box
     refine AfterT.normal (HRR _ _ (isC HC6.out) ?_)
     clear HRR RR
     refine tree_both ?_ ?_
     · refine opGoal_mk (by repeat (first | with_reducible exact nth_zero | with_reducible apply nth_succ)) (by rfl) fun RR HRR => ?_
       go_wp2_with (go_at_call 89; refine (HXB.out _ _ HB6.out).mono ?_; rintro e w7 ⟨q2, q2n, q2c, q3, q3n, q3c, rfl, hr, hb, hw⟩; have HB7 := Lib.hid hb; have HR7 := Lib.hid hr; have HW7 := Lib.hid hw; clear hr hb hw)
       have HC7 : Hid (C0 w7) := (HCC.out _).2 HB7.out.box
       refine AfterT.normal (HRR _ _ (isC HC7.out) ?_)
       clear HRR RR
       refine tree_both ?_ ?_
       · refine opGoal_build4 (by repeat (first | with_reducible exact nth_zero | with_reducible apply nth_succ)) (isC HC7.out) (by rfl) (by rfl) (u0 := .int .i64 t.Fn) (u1 := .int .i64 t.At) (u2 := .agg #[.int .i64 x.At, .int .i64 x.Steps, .slice r2 r2n r2c, .slice r3 r3n r3c]) (u3 := .agg #[.int .i64 y.At, .int .i64 y.Steps, .slice q2 q2n q2c, .slice q3 q3n q3c]) (by simp [Act.eval]) (by simp [Act.eval]) (by simp [Act.eval]) (by simp [Act.eval]) (buildT_run _ _ _ _ _ _ _ _ _ _ _) ?_
         simp only [Act.put, List.setIfInBounds_toArray, List.set_cons_zero, List.set_cons_succ]
         refine opGoal_mk (by repeat (first | with_reducible exact nth_zero | with_reducible apply nth_succ)) (by rfl) fun RR HRR => ?_
         go_wp2_with fail
         have HB8 := Lib.hid (HB7.out.alloc (.cells zeroTL.toArray 34))
         have HO8 : Hid (Row (w7.alloc (.cells zeroTL.toArray 34)) w7.heap.size 34 zeroTL.toArray) := row_new _ _ _
         have HC8 : Hid (C0 (w7.alloc (.cells zeroTL.toArray 34))) := (HCC.out _).2 HB8.out.box
         refine AfterT.normal (HRR _ _ (isC HC8.out) ?_)
         clear HRR RR
         refine tree_done ?_
         clear hd0 hd1 hd2 hd3 hd4 hd5 hd6 hd7 hd8 hd9 hdl
         have HCO : Hid ((#[.int .i64 t.Fn, .int .i64 t.At, .int .i64 0, .slice none 0 0, .slice none 0 0, .int .i64 x.At, .int .i64 x.Steps, .slice r2 r2n r2c, .slice r3 r3n r3c, .int .i64 y.At, .int .i64 y.Steps, .slice q2 q2n q2c, .slice q3 q3n q3c] : Array Value).all (·.oneCell') = true) := by show _ = _; simp [Value.oneCell']
         have hlf := HB8.out.leaf (t := t) HO8.out (by have := HB7.out.size; omega) HR6.out (fun k h1 h2 => ((Below.heap_alloc _ _ _ (Nat.lt_of_lt_of_le h2 HW7.out.size)).trans (HW7.out.block k h2 (by have := HBD.out.size; omega)))) ⟨HBD.out.size, by have := HW7.out.size; simp; omega, .inr HW7.out.size⟩ HR7.out (fun k h1 h2 => Below.heap_alloc _ _ _ h2) ⟨HB6.out.size, by simp, .inr (Nat.le_refl _)⟩
         rw [← HB1.out] at hlf
         rw [setRow_alloc] at hlf
         have HLF := Lib.hid hlf
         clear hlf
         go_wp2_with (with_reducible refine stT (OLD := zeroTL.toArray) (C := #[.int .i64 t.Fn, .int .i64 t.At, .int .i64 0, .slice none 0 0, .slice none 0 0, .int .i64 x.At, .int .i64 x.Steps, .slice r2 r2n r2c, .slice r3 r3n r3c, .int .i64 y.At, .int .i64 y.Steps, .slice q2 q2n q2c, .slice q3 q3n q3c]) rfl rfl rfl rfl HO8.out rfl rfl HCO.out ?_)
         all_goals refine NoPanic.normal ?_
         all_goals go_wp2_with fail
         all_goals go_meet
         all_goals exact ⟨_, _, _, _, _, _, _, _, _, _, rfl, HLF.out⟩
       · refine opGoal_mk (by repeat (first | with_reducible exact nth_zero | with_reducible apply nth_succ)) (by rfl) fun RR HRR => ?_
         go_wp2_with fail
         have HB8 := Lib.hid (HB7.out.alloc (.cells zeroTL.toArray 34))
         have HO8 : Hid (Row (w7.alloc (.cells zeroTL.toArray 34)) w7.heap.size 34 zeroTL.toArray) := row_new _ _ _
         have HC8 : Hid (C0 (w7.alloc (.cells zeroTL.toArray 34))) := (HCC.out _).2 HB8.out.box
         refine AfterT.normal (HRR _ _ (isC HC8.out) ?_)
         clear HRR RR
         refine opGoal_build4 (by repeat (first | with_reducible exact nth_zero | with_reducible apply nth_succ)) (isC HC8.out) (by rfl) (by rfl) (u0 := .int .i64 t.Fn) (u1 := .int .i64 t.At) (u2 := .agg #[.int .i64 x.At, .int .i64 x.Steps, .slice r2 r2n r2c, .slice r3 r3n r3c]) (u3 := .agg #[.int .i64 y.At, .int .i64 y.Steps, .slice q2 q2n q2c, .slice q3 q3n q3c]) (by simp [Act.eval]) (by simp [Act.eval]) (by simp [Act.eval]) (by simp [Act.eval]) (buildT_run _ _ _ _ _ _ _ _ _ _ _) ?_
         simp only [Act.put, List.setIfInBounds_toArray, List.set_cons_zero, List.set_cons_succ]
         refine tree_done ?_
         clear hd0 hd1 hd2 hd3 hd4 hd5 hd6 hd7 hd8 hd9 hdl
         have HCO : Hid ((#[.int .i64 t.Fn, .int .i64 t.At, .int .i64 0, .slice none 0 0, .slice none 0 0, .int .i64 x.At, .int .i64 x.Steps, .slice r2 r2n r2c, .slice r3 r3n r3c, .int .i64 y.At, .int .i64 y.Steps, .slice q2 q2n q2c, .slice q3 q3n q3c] : Array Value).all (·.oneCell') = true) := by show _ = _; simp [Value.oneCell']
         have hlf := HB8.out.leaf (t := t) HO8.out (by have := HB7.out.size; omega) HR6.out (fun k h1 h2 => ((Below.heap_alloc _ _ _ (Nat.lt_of_lt_of_le h2 HW7.out.size)).trans (HW7.out.block k h2 (by have := HBD.out.size; omega)))) ⟨HBD.out.size, by have := HW7.out.size; simp; omega, .inr HW7.out.size⟩ HR7.out (fun k h1 h2 => Below.heap_alloc _ _ _ h2) ⟨HB6.out.size, by simp, .inr (Nat.le_refl _)⟩
         rw [← HB1.out] at hlf
         rw [setRow_alloc] at hlf
         have HLF := Lib.hid hlf
         clear hlf
         go_wp2_with (with_reducible refine stT (OLD := zeroTL.toArray) (C := #[.int .i64 t.Fn, .int .i64 t.At, .int .i64 0, .slice none 0 0, .slice none 0 0, .int .i64 x.At, .int .i64 x.Steps, .slice r2 r2n r2c, .slice r3 r3n r3c, .int .i64 y.At, .int .i64 y.Steps, .slice q2 q2n q2c, .slice q3 q3n q3c]) rfl rfl rfl rfl HO8.out rfl rfl HCO.out ?_)
         all_goals refine NoPanic.normal ?_
         all_goals go_wp2_with fail
         all_goals go_meet
         all_goals exact ⟨_, _, _, _, _, _, _, _, _, _, rfl, HLF.out⟩
     · refine opGoal_mk (by repeat (first | with_reducible exact nth_zero | with_reducible apply nth_succ)) (by rfl) fun RR HRR => ?_
       go_wp2_with fail
       have HB7 := Lib.hid (HB6.out.alloc (.cells zeroTL.toArray 34))
       have HO7 : Hid (Row (w6.alloc (.cells zeroTL.toArray 34)) w6.heap.size 34 zeroTL.toArray) := row_new _ _ _
       have HC7 : Hid (C0 (w6.alloc (.cells zeroTL.toArray 34))) := (HCC.out _).2 HB7.out.box
       refine AfterT.normal (HRR _ _ (isC HC7.out) ?_)
       clear HRR RR
       refine opGoal_mk (by repeat (first | with_reducible exact nth_zero | with_reducible apply nth_succ)) (by rfl) fun RR HRR => ?_
       go_wp2_with (go_at_call 89; refine (HXB.out _ _ HB7.out).mono ?_; rintro e w8 ⟨q2, q2n, q2c, q3, q3n, q3c, rfl, hr, hb, hw⟩; have HB8 := Lib.hid hb; have HR8 := Lib.hid hr; have HW8 := Lib.hid hw; clear hr hb hw)
       have HC8 : Hid (C0 w8) := (HCC.out _).2 HB8.out.box
       refine AfterT.normal (HRR _ _ (isC HC8.out) ?_)
       clear HRR RR
       refine opGoal_build4 (by repeat (first | with_reducible exact nth_zero | with_reducible apply nth_succ)) (isC HC8.out) (by rfl) (by rfl) (u0 := .int .i64 t.Fn) (u1 := .int .i64 t.At) (u2 := .agg #[.int .i64 x.At, .int .i64 x.Steps, .slice r2 r2n r2c, .slice r3 r3n r3c]) (u3 := .agg #[.int .i64 y.At, .int .i64 y.Steps, .slice q2 q2n q2c, .slice q3 q3n q3c]) (by simp [Act.eval]) (by simp [Act.eval]) (by simp [Act.eval]) (by simp [Act.eval]) (buildT_run _ _ _ _ _ _ _ _ _ _ _) ?_
       simp only [Act.put, List.setIfInBounds_toArray, List.set_cons_zero, List.set_cons_succ]
       have HO8 : Hid (Row w8 w6.heap.size 34 zeroTL.toArray) := HO7.out.keep (HW8.out.block _ HO7.out.lt (by have := HB6.out.size; omega))
       refine tree_done ?_
       clear hd0 hd1 hd2 hd3 hd4 hd5 hd6 hd7 hd8 hd9 hdl
       have HCO : Hid ((#[.int .i64 t.Fn, .int .i64 t.At, .int .i64 0, .slice none 0 0, .slice none 0 0, .int .i64 x.At, .int .i64 x.Steps, .slice r2 r2n r2c, .slice r3 r3n r3c, .int .i64 y.At, .int .i64 y.Steps, .slice q2 q2n q2c, .slice q3 q3n q3c] : Array Value).all (·.oneCell') = true) := by show _ = _; simp [Value.oneCell']
       have hlf := HB8.out.leaf (t := t) HO8.out (by have := HB6.out.size; omega) HR6.out (fun k h1 h2 => (HW8.out.block k (by simp; omega) (by have := HBD.out.size; omega)).trans (Below.heap_alloc _ _ _ h2)) ⟨HBD.out.size, by have := HW8.out.size; simp at this; omega, .inr (Nat.le_refl _)⟩ HR8.out (fun _ _ _ => rfl) ⟨by have := HB6.out.size; simp; omega, Nat.le_refl _, .inl (by simp)⟩
       rw [← HB1.out] at hlf
       have HLF := Lib.hid hlf
       clear hlf
       go_wp2_with (with_reducible refine stT (OLD := zeroTL.toArray) (C := #[.int .i64 t.Fn, .int .i64 t.At, .int .i64 0, .slice none 0 0, .slice none 0 0, .int .i64 x.At, .int .i64 x.Steps, .slice r2 r2n r2c, .slice r3 r3n r3c, .int .i64 y.At, .int .i64 y.Steps, .slice q2 q2n q2c, .slice q3 q3n q3c]) rfl rfl rfl rfl HO8.out rfl rfl HCO.out ?_)
       all_goals refine NoPanic.normal ?_
       all_goals go_wp2_with fail
       all_goals go_meet
       all_goals exact ⟨_, _, _, _, _, _, _, _, _, _, rfl, HLF.out⟩
   · refine opGoal_mk (by repeat (first | with_reducible exact nth_zero | with_reducible apply nth_succ)) (by rfl) fun RR HRR => ?_
     go_wp2_with fail
     have HB6 := Lib.hid (HBD.out.alloc (.cells zeroTL.toArray 34))
     have HO6 : Hid (Row (w4.drew.alloc (.cells zeroTL.toArray 34)) w4.drew.heap.size 34 zeroTL.toArray) := row_new _ _ _
     have HC6 : Hid (C0 (w4.drew.alloc (.cells zeroTL.toArray 34))) := (HCC.out _).2 HB6.out.box
     refine AfterT.normal (HRR _ _ (isC HC6.out) ?_)
     clear HRR RR
     refine opGoal_mk (by repeat (first | with_reducible exact nth_zero | with_reducible apply nth_succ)) (by rfl) fun RR HRR => ?_
     go_wp2_with (go_at_call 89; refine (HXT.out _ _ HB6.out).mono ?_; rintro e w7 ⟨r2, r2n, r2c, r3, r3n, r3c, rfl, hr, hb, hw⟩; have HB7 := Lib.hid hb; have HR7 := Lib.hid hr; have HW7 := Lib.hid hw; clear hr hb hw)
     have HC7 : Hid (C0 w7) := (HCC.out _).2 HB7.out.box
     refine AfterT.normal (HRR _ _ (isC HC7.out) ?_)
     clear HRR RR
     refine opGoal_mk (by repeat (first | with_reducible exact nth_zero | with_reducible apply nth_succ)) (by rfl) fun RR HRR => ?_
     go_wp2_with (go_at_call 89; refine (HXB.out _ _ HB7.out).mono ?_; rintro e w8 ⟨q2, q2n, q2c, q3, q3n, q3c, rfl, hr, hb, hw⟩; have HB8 := Lib.hid hb; have HR8 := Lib.hid hr; have HW8 := Lib.hid hw; clear hr hb hw)
     have HC8 : Hid (C0 w8) := (HCC.out _).2 HB8.out.box
     refine AfterT.normal (HRR _ _ (isC HC8.out) ?_)
     clear HRR RR
     refine opGoal_build4 (by repeat (first | with_reducible exact nth_zero | with_reducible apply nth_succ)) (isC HC8.out) (by rfl) (by rfl) (u0 := .int .i64 t.Fn) (u1 := .int .i64 t.At) (u2 := .agg #[.int .i64 x.At, .int .i64 x.Steps, .slice r2 r2n r2c, .slice r3 r3n r3c]) (u3 := .agg #[.int .i64 y.At, .int .i64 y.Steps, .slice q2 q2n q2c, .slice q3 q3n q3c]) (by simp [Act.eval]) (by simp [Act.eval]) (by simp [Act.eval]) (by simp [Act.eval]) (buildT_run _ _ _ _ _ _ _ _ _ _ _) ?_
     simp only [Act.put, List.setIfInBounds_toArray, List.set_cons_zero, List.set_cons_succ]
     have HO8 : Hid (Row w8 w4.drew.heap.size 34 zeroTL.toArray) := (HO6.out.keep (HW7.out.block _ HO6.out.lt (by have := HBD.out.size; omega))).keep (HW8.out.block _ (Nat.lt_of_lt_of_le HO6.out.lt HW7.out.size) (by have := HBD.out.size; omega))
     refine tree_done ?_
     clear hd0 hd1 hd2 hd3 hd4 hd5 hd6 hd7 hd8 hd9 hdl
     have HCO : Hid ((#[.int .i64 t.Fn, .int .i64 t.At, .int .i64 0, .slice none 0 0, .slice none 0 0, .int .i64 x.At, .int .i64 x.Steps, .slice r2 r2n r2c, .slice r3 r3n r3c, .int .i64 y.At, .int .i64 y.Steps, .slice q2 q2n q2c, .slice q3 q3n q3c] : Array Value).all (·.oneCell') = true) := by show _ = _; simp [Value.oneCell']
     have hlf := HB8.out.leaf (t := t) HO8.out HBD.out.size HR7.out (fun k h1 h2 => HW8.out.block k h2 (by have := HBD.out.size; rw [World.size_alloc] at h1; omega)) ⟨HB6.out.size, HW8.out.size, .inl (by simp)⟩ HR8.out (fun _ _ _ => rfl) ⟨HB7.out.size, Nat.le_refl _, .inl (Nat.lt_of_lt_of_le (by simp) HW7.out.size)⟩
     rw [← HB1.out] at hlf
     have HLF := Lib.hid hlf
     clear hlf
     go_wp2_with (with_reducible refine stT (OLD := zeroTL.toArray) (C := #[.int .i64 t.Fn, .int .i64 t.At, .int .i64 0, .slice none 0 0, .slice none 0 0, .int .i64 x.At, .int .i64 x.Steps, .slice r2 r2n r2c, .slice r3 r3n r3c, .int .i64 y.At, .int .i64 y.Steps, .slice q2 q2n q2c, .slice q3 q3n q3c]) rfl rfl rfl rfl HO8.out rfl rfl HCO.out ?_)
     all_goals refine NoPanic.normal ?_
     all_goals go_wp2_with fail
     all_goals go_meet
     all_goals exact ⟨_, _, _, _, _, _, _, _, _, _, rfl, HLF.out⟩
 case rest =>
  obtain ⟨go, n1, u0, u1, u2, u3, v0, v1, v2, v3, hs9, hrc⟩ := hcut
  subst hs9
  obtain ⟨w5, hw5⟩ : ∃ w5 : World, w5 = wc := ⟨_, rfl⟩
  rw [← hw5] at hrc ⊢
  have HRI : Hid (RI R T t w ts aT nI cT n1 go x y u0 u1 u2 u3 v0 v1 v2 v3 w5 (lvR t ts 0) (.slice none 0 0) (cutTo ts t.Ins 0) (b1 && fineTo ts t.Ins 0)) := by
   have e : lvR t ts 0 = 0 := by unfold lvR; rw [Nat.min_zero]; rfl
   show RI _ _ _ _ _ _ _ _ _ _ _ _ _ _ _ _ _ _ _ _ _ _ _ _ _
   rw [e, show (b1 && fineTo ts t.Ins 0) = b1 by simp [fineTo]]
   exact ⟨hrc, Own.nil _ _ _ _⟩
  obtain ⟨t2, t3, t4, l1⟩ := HTC.out w5 hrc.box
  clear hw5 hrc HB4 HXT HXB HKS
  go_wp2_with fail
  clear t2 t3 t4 l1
  go_loopw [32] (fun i W => ∃ (k : Nat) (vI : Value), k ≤ nI ∧ i = .int .i64 k ∧ RI R T t w ts aT nI cT n1 go x y u0 u1 u2 u3 v0 v1 v2 v3 W (lvR t ts k) vI (cutTo ts t.Ins k) (b1 && fineTo ts t.Ins k)) (fun i _ => nI - (intOf i).toNat)
  case atStart => exact ⟨0, _, Nat.zero_le _, rfl, HRI.out⟩
  case round =>
   obtain ⟨k, vI, hk, rfl, hri⟩ := hrel
   have HRI1 := Lib.hid hri
   by_cases hlt : k < nI
   · as_aux_lemma =>
      obtain ⟨z, hz⟩ : ∃ z, t.Ins[k]? = some z := ⟨_, List.getElem?_eq_getElem (by rw [HLI.out]; exact hlt)⟩
      obtain ⟨n, hn⟩ : ∃ n, ts[k]? = some n := ⟨_, List.getElem?_eq_getElem (by rw [HN.out]; exact hlt)⟩
      obtain ⟨hTA, hTS⟩ := HCE.out _ hri.rc.below
      obtain ⟨bi, oi, rfl, hSi, i0, i1, i2, i3, i4, i5, i6, i7, j0, j1, j2, j3, j4, j5, j6, j7⟩ := api_TIns_elem hTA.ins hz
      have hbi := HS.out bi hSi
      obtain ⟨bt, ot, cs, haT, hbt, ⟨rfl, hn64⟩, g1⟩ := hTS.at hn
      have HAT := Lib.hid haT
      have hbtl := HR.out bt hbt
      have HXC : Hid (∀ W, Rep.cells (fun _ => False) W (insL z) z) := fun W => api_TIns_cells_mk j0 j1 j2 j3 j4 j5 j6 j7
      have hsz := hri.rc.size
      have hat := hri.rc.at'
      have hbl := hri.rc.below.size
      have HX := Lib.hid hz; have HNN := Lib.hid hn
      have HNC : Hid (∀ W, Below w.heap.size w W → W.cell? ⟨bt, ot + k, none⟩ = some (.int .i64 n)) := fun W hb => by
       have h0 := (HCE.out W hb).2.at HNN.out
       obtain ⟨b', o', cs', e, -, ⟨rfl, -⟩, g1'⟩ := h0
       rw [HAT.out] at e
       injection e with e; injection e with e1 e2; subst e1 e2
       simpa [show Rep.sz Int = 1 from rfl] using g1' 0 Nat.zero_lt_one
      obtain ⟨t2, t3, t4, l1⟩ := HTC.out wr hri.rc.box
      clear haT hSi hbt g1 hz hn j0 j1 j2 j3 j4 j5 j6 j7 hTA hTS hri
      go_upto_region 8 with fail
      generalize hW5 : wr.alloc (.cells #[.int .i64 z.Op, .int .i64 z.A, .int .i64 z.B, .int .i64 z.C, .int .i64 z.N, .int .i64 z.Exit, .int .i64 z.K.Kind, .int .i64 z.K.N] 43) = w6
      have hrx : RX R T t w ts aT nI cT n1 go x y u0 u1 u2 u3 v0 v1 v2 v3 w6 (lvR t ts k) vI (cutTo ts t.Ins k) wr.heap.size z (b1 && fineTo ts t.Ins k) := by rw [← hW5]; exact HRI1.out.box z
      have HRX := Lib.hid hrx
      have q0 := hrx.ri.rc.pst.box
      rw [HAT.out] at q0
      have q1 := HNC.out _ hrx.ri.rc.below
      have l2 := hrx.ins.lt
      have hs6 := hrx.ri.rc.size
      have l3 := hrx.ri.rc.below.size
      clear hW5 i0 i1 i2 i3 i4 i5 i6 i7 hrx t2 t3 t4 l1
      by_cases hnk : n = k
      case neg =>
       have d1 : (n != (k : Int)) = true := by simpa using hnk
       have HOUT := Lib.hid (cutTo_out HX.out (show ts[k]? ≠ some (k : Int) by rw [HNN.out]; intro e; exact hnk (Option.some.inj e)))
       have HLV := Lib.hid (lvR_out (t := t) (show ts[k]? ≠ some (k : Int) by rw [HNN.out]; intro e; exact hnk (Option.some.inj e)))
       clear hnk
       go_wp2_with fail
       go_roundw
       case rel => exact ⟨k + 1, _, by omega, by go_num, by rw [HLV.out, HOUT.out.1, HOUT.out.2]; exact HRX.out.ri⟩
       case measure => simp [intOf]; omega
      case pos =>
       subst hnk
       have d1 : ((k : Int) != (k : Int)) = false := by simp
       have HST1 := Lib.hid (cutTo_step (ts := ts) (n := ts.length) HAH.out HX.out (by rw [HN.out]; exact hlt))
       have HST2 := Lib.hid (fineTo_step (ts := ts) (n := ts.length) HAH.out HX.out (by rw [HN.out]; exact hlt))
       have HLV := Lib.hid (lvR_in (t := t) HNN.out)
       obtain ⟨m, hm3, hmk, htk, hml⟩ := asks_nat z
       have HMK := Lib.hid hmk; have HTK := Lib.hid htk; have HML := Lib.hid hml
       obtain ⟨bb, hbb⟩ : ∃ bb, bb = (b1 && fineTo ts t.Ins k) := ⟨_, rfl⟩
       rw [← hbb] at HRX
       obtain ⟨li, hli⟩ : ∃ li, li = cutTo ts t.Ins k := ⟨_, rfl⟩
       rw [← hli] at HRX
       obtain ⟨zz, hzz⟩ : ∃ zz, zz = cutIns (oneV (atOf ts ts.length)) z := ⟨_, rfl⟩
       obtain ⟨fz, hfz⟩ : ∃ fz, fz = fineIns (oneV (atOf ts ts.length)) z := ⟨_, rfl⟩
       have HBB := Lib.hid hbb; have HLI2 := Lib.hid hli; have HZZ := Lib.hid hzz; have HFZ := Lib.hid hfz
       clear hmk htk hml hbb hli hzz hfz
       go_upto_region 9 with fail
       clear q0 q1 l2
       obtain ⟨r4, rx, rf, rl, r4l⟩ := HRX.out.reads
       have x0 := rx 0 (.int .i64 z.Op) rfl
       clear rx rf r4
       have HVA : Hid (∀ W, Calls Tryd.prog 55 #[.int .i64 z.Op] W fun e w' => e = .returned (.int .i64 (m : Int)) ∧ Below W.heap.size W w') := fun W => by have := values_any W z.Op; rwa [HMK.out] at this
       go_upto_block 2 with (go_at_call 55; (with_reducible refine (HVA.out _).mono ?_); rintro e w7 ⟨rfl, hb7⟩; have HRX7 := Lib.hid (HRX.out.call hb7); clear hb7)
       clear x0 rl r4l
       go_cut [] (fun W => RX R T t w ts aT nI cT n1 go x y u0 u1 u2 u3 v0 v1 v2 v3 W (lvR t ts k) vI li wr.heap.size zz (bb && fz))
       case first =>
        as_aux_lemma =>
         obtain ⟨gv, hgv⟩ : ∃ gv, gv = (oneV (atOf ts ts.length)) := ⟨_, rfl⟩
         have HGV := Lib.hid hgv
         have HPL : Hid (∀ (W : World) (z' : Api.TIns) (b' : Bool) (v : Int), RX R T t w ts aT nI cT n1 go x y u0 u1 u2 u3 v0 v1 v2 v3 W (lvR t ts k) vI li wr.heap.size z' b' → Calls Tryd.prog 88 #[.int .i64 v, .pointer (some ⟨w.heap.size + 1, 0, none⟩), .pointer (some ⟨w.heap.size + 3, 0, none⟩)] W fun e W' => e = .returned (.int .i64 (gv v)) ∧ RX R T t w ts aT nI cT n1 go x y u0 u1 u2 u3 v0 v1 v2 v3 W' (lvR t ts k) vI li wr.heap.size z' (b' && fineV gv v)) := fun W z' b' v h => by rw [HGV.out]; exact h.place HOK.out v
         have HZC : Hid (zz = cutArgs gv m z) := by show _ = _; rw [HZZ.out, HGV.out, cutIns_asks HMK.out]
         have HFC : Hid (fz = ([z.A, z.B, z.C].take m).all (fineV gv)) := by show _ = _; rw [HFZ.out, HGV.out, ← HTK.out]; rfl
         clear hgv HZZ HFZ HVA HRX HRI1 HST1 HST2 HLV
         rcases (show m = 0 ∨ m = 1 ∨ m = 2 ∨ m = 3 by omega) with rfl | rfl | rfl | rfl
         · have e3 : (((0 : Nat) : Int) == 3) = false := by decide
           have e2 : (((0 : Nat) : Int) == 2) = false := by decide
           have e1 : (((0 : Nat) : Int) == 1) = false := by decide
           go_wp2_with fail
           go_meet
           rw [HZC.out, HFC.out, show ([z.A, z.B, z.C].take 0).all (fineV gv) = true by simp, Bool.and_true]
           exact HRX7.out
         · have e3 : (((1 : Nat) : Int) == 3) = false := by decide
           have e2 : (((1 : Nat) : Int) == 2) = false := by decide
           have e1 : (((1 : Nat) : Int) == 1) = true := by decide
           go_upto_region 15 with fail
           obtain ⟨r4, rx, rf, rl, r4l⟩ := HRX7.out.reads
           have xx := rx 1 (.int .i64 z.A) rfl
           unfold placeV at r4
           clear rx rf
           go_wp2_with (go_at_call 88; (with_reducible refine (HPL.out _ _ _ _ HRX7.out).mono ?_); rintro e w8 ⟨rfl, h8⟩; have HRX8 := Lib.hid h8; obtain ⟨_, rx8, rf8, rl8, _⟩ := h8.reads; have x8 := rx8 1 (.int .i64 z.A) rfl; have f8 := rf8 1; clear rx8 rf8 h8)
           have HRZ := Lib.hid (HRX8.out.set (z' := ⟨z.Op, gv z.A, z.B, z.C, z.N, z.Exit, z.K⟩) (j := 1) (v := .int .i64 (gv z.A)) rfl)
           go_meet
           rw [HZC.out, HFC.out, show cutArgs gv ((1 : Nat) : Int) z = ⟨z.Op, gv z.A, z.B, z.C, z.N, z.Exit, z.K⟩ from rfl, show (bb && ([z.A, z.B, z.C].take 1).all (fineV gv)) = (bb && fineV gv z.A) by simp]
           exact HRZ.out
         · have e3 : (((2 : Nat) : Int) == 3) = false := by decide
           have e2 : (((2 : Nat) : Int) == 2) = true := by decide
           go_upto_region 14 with fail
           obtain ⟨r4, rx, rf, rl, r4l⟩ := HRX7.out.reads
           have xx := rx 2 (.int .i64 z.B) rfl
           unfold placeV at r4
           clear rx rf
           go_upto_region 15 with (go_at_call 88; (with_reducible refine (HPL.out _ _ _ _ HRX7.out).mono ?_); rintro e w8 ⟨rfl, h8⟩; have HRX8 := Lib.hid h8; obtain ⟨_, rx8, rf8, rl8, _⟩ := h8.reads; have x8 := rx8 2 (.int .i64 z.B) rfl; have f8 := rf8 2; clear rx8 rf8 h8)
           have HRX9 := Lib.hid (HRX8.out.set (z' := ⟨z.Op, z.A, gv z.B, z.C, z.N, z.Exit, z.K⟩) (j := 2) (v := .int .i64 (gv z.B)) rfl)
           generalize w8.setCell ⟨wr.heap.size, 2, none⟩ (.int .i64 (gv z.B)) = w9 at HRX9 ⊢
           clear r4 rl r4l xx x8 f8 rl8
           obtain ⟨r4, rx, rf, rl, r4l⟩ := HRX9.out.reads
           have xx := rx 1 (.int .i64 z.A) rfl
           unfold placeV at r4
           clear rx rf
           go_wp2_with (go_at_call 88; (with_reducible refine (HPL.out _ _ _ _ HRX9.out).mono ?_); rintro e w10 ⟨rfl, h8⟩; have HRX10 := Lib.hid h8; obtain ⟨_, rx8, rf8, rl8, _⟩ := h8.reads; have x8 := rx8 1 (.int .i64 z.A) rfl; have f8 := rf8 1; clear rx8 rf8 h8)
           have HRZ := Lib.hid (HRX10.out.set (z' := ⟨z.Op, gv z.A, gv z.B, z.C, z.N, z.Exit, z.K⟩) (j := 1) (v := .int .i64 (gv z.A)) rfl)
           go_meet
           rw [HZC.out, HFC.out, show cutArgs gv ((2 : Nat) : Int) z = ⟨z.Op, gv z.A, gv z.B, z.C, z.N, z.Exit, z.K⟩ from rfl, show (bb && ([z.A, z.B, z.C].take 2).all (fineV gv)) = ((bb && fineV gv z.B) && fineV gv z.A) by simp [Bool.and_assoc, Bool.and_comm, Bool.and_left_comm]]
           exact HRZ.out
         · have e3 : (((3 : Nat) : Int) == 3) = true := by decide
           go_upto_region 13 with fail
           obtain ⟨r4, rx, rf, rl, r4l⟩ := HRX7.out.reads
           have xx := rx 3 (.int .i64 z.C) rfl
           unfold placeV at r4
           clear rx rf
           go_upto_region 14 with (go_at_call 88; (with_reducible refine (HPL.out _ _ _ _ HRX7.out).mono ?_); rintro e w8 ⟨rfl, h8⟩; have HRX8 := Lib.hid h8; obtain ⟨_, rx8, rf8, rl8, _⟩ := h8.reads; have x8 := rx8 3 (.int .i64 z.C) rfl; have f8 := rf8 3; clear rx8 rf8 h8)
           have HRX9 := Lib.hid (HRX8.out.set (z' := ⟨z.Op, z.A, z.B, gv z.C, z.N, z.Exit, z.K⟩) (j := 3) (v := .int .i64 (gv z.C)) rfl)
           generalize w8.setCell ⟨wr.heap.size, 3, none⟩ (.int .i64 (gv z.C)) = w9 at HRX9 ⊢
           clear r4 rl r4l xx x8 f8 rl8
           obtain ⟨r4, rx, rf, rl, r4l⟩ := HRX9.out.reads
           have xx := rx 2 (.int .i64 z.B) rfl
           unfold placeV at r4
           clear rx rf
           go_upto_region 15 with (go_at_call 88; (with_reducible refine (HPL.out _ _ _ _ HRX9.out).mono ?_); rintro e w10 ⟨rfl, h8⟩; have HRX10 := Lib.hid h8; obtain ⟨_, rx8, rf8, rl8, _⟩ := h8.reads; have x8 := rx8 2 (.int .i64 z.B) rfl; have f8 := rf8 2; clear rx8 rf8 h8)
           have HRX11 := Lib.hid (HRX10.out.set (z' := ⟨z.Op, z.A, gv z.B, gv z.C, z.N, z.Exit, z.K⟩) (j := 2) (v := .int .i64 (gv z.B)) rfl)
           generalize w10.setCell ⟨wr.heap.size, 2, none⟩ (.int .i64 (gv z.B)) = w11 at HRX11 ⊢
           clear r4 rl r4l xx x8 f8 rl8
           obtain ⟨r4, rx, rf, rl, r4l⟩ := HRX11.out.reads
           have xx := rx 1 (.int .i64 z.A) rfl
           unfold placeV at r4
           clear rx rf
           go_wp2_with (go_at_call 88; (with_reducible refine (HPL.out _ _ _ _ HRX11.out).mono ?_); rintro e w12 ⟨rfl, h8⟩; have HRX12 := Lib.hid h8; obtain ⟨_, rx8, rf8, rl8, _⟩ := h8.reads; have x8 := rx8 1 (.int .i64 z.A) rfl; have f8 := rf8 1; clear rx8 rf8 h8)
           have HRZ := Lib.hid (HRX12.out.set (z' := ⟨z.Op, gv z.A, gv z.B, gv z.C, z.N, z.Exit, z.K⟩) (j := 1) (v := .int .i64 (gv z.A)) rfl)
           go_meet
           rw [HZC.out, HFC.out, show cutArgs gv ((3 : Nat) : Int) z = ⟨z.Op, gv z.A, gv z.B, gv z.C, z.N, z.Exit, z.K⟩ from rfl, show (bb && ([z.A, z.B, z.C].take 3).all (fineV gv)) = (((bb && fineV gv z.C) && fineV gv z.B) && fineV gv z.A) by simp [Bool.and_assoc, Bool.and_comm, Bool.and_left_comm]]
           exact HRZ.out
       case rest =>
        have HRX8 := Lib.hid hcut
        obtain ⟨w8, hw8⟩ : ∃ w8 : World, w8 = wc := ⟨_, rfl⟩
        rw [← hw8] at HRX8 ⊢
        clear hcut hw8 HVA HRX HRX7
        obtain ⟨t2, t3, t4, l1⟩ := HTC.out w8 HRX8.out.ri.rc.box
        have o2 := HRX8.out.ri.rc.out.cell (j := 2) rfl
        have o2f := HRX8.out.ri.rc.out.frozen 2
        have lo := HRX8.out.ri.rc.out.lt
        have hlv := lvR_le t ts k
        go_upto_if 70 with fail
        go_cut [] (fun W => RX R T t w ts aT nI cT n1 go x y u0 u1 u2 u3 v0 v1 v2 v3 W (lvR t ts (k + 1)) vI li wr.heap.size zz (bb && fz))
        case first =>
         as_aux_lemma =>
          by_cases hL : (k : Int) < t.Loop
          · have d2 : decide ((k : Int) < t.Loop) = true := decide_eq_true hL
            have HLW : Hid (lvR t ts (k + 1) = lvR t ts k + 1) := by show _ = _; rw [HLV.out, if_pos hL]
            obtain ⟨lv, hlve⟩ : ∃ lv, lv = lvR t ts k := ⟨_, rfl⟩
            rw [← hlve] at HRX8 HLW hlv o2
            clear hL hlve
            go_wp2_with fail
            all_goals first
             | (exfalso; have hh := of_decide_eq_true d2; omega)
             | (go_meet; rw [HLW.out]; exact HRX8.out.loop _)
          · have d2 : decide ((k : Int) < t.Loop) = false := decide_eq_false hL
            have HLW : Hid (lvR t ts (k + 1) = lvR t ts k) := by show _ = _; rw [HLV.out, if_neg hL]
            clear hL
            go_wp2_with fail
            all_goals first
             | (exfalso; have hh := of_decide_eq_false d2; omega)
             | (go_meet; rw [HLW.out]; exact HRX8.out)
        case rest =>
         have HRX9 := Lib.hid hcut
         obtain ⟨w9, hw9⟩ : ∃ w9 : World, w9 = wc := ⟨_, rfl⟩
         rw [← hw9] at HRX9 ⊢
         clear hcut hw9 HRX8 t2 t3 t4 l1 o2 o2f lo hlv
         obtain ⟨vi, vin, vic, rfl, hvl⟩ : ∃ a n c, vI = .slice a n c ∧ n = li.length := (by obtain ⟨a, c, h, -⟩ := HRX9.out.ri.own.arr; exact ⟨a, _, c, h, rfl⟩)
         have HLL : Hid (li.length ≤ 100000) := by show _ ≤ _; rw [HLI2.out, cutTo_len ts t.Ins k (by rw [HLI.out]; omega)]; have := keptN_le ts k; omega
         have o3 := HRX9.out.ri.rc.out.cell (j := 3) rfl
         have lo := HRX9.out.ri.rc.out.lt
         have HRW : Hid (Row w9 wr.heap.size 43 #[.int .i64 zz.Op, .int .i64 zz.A, .int .i64 zz.B, .int .i64 zz.C, .int .i64 zz.N, .int .i64 zz.Exit, .int .i64 zz.K.Kind, .int .i64 zz.K.N]) := HRX9.out.ins
         have HZCELL : Hid (∀ W : World, Rep.cells (fun _ => False) W [.int .i64 zz.Op, .int .i64 zz.A, .int .i64 zz.B, .int .i64 zz.C, .int .i64 zz.N, .int .i64 zz.Exit, .int .i64 zz.K.Kind, .int .i64 zz.K.N] zz) := fun W => by
          rw [HZZ.out]
          exact cutIns_cells (fun v => oneV_i64 ts _ HL6.out v) (HXC.out w)
         have HBR := Lib.hid (buildIns_run w9 (.int .i64 zz.Op) (.int .i64 zz.A) (.int .i64 zz.B) (.int .i64 zz.C) (.int .i64 zz.N) (.int .i64 zz.Exit) (.int .i64 zz.K.Kind) (.int .i64 zz.K.N))
         have HO9 := Lib.hid HRX9.out.ri.own
         have hs9 := HRX9.out.ri.rc.size
         have hl9 := HRX9.out.ins.lt
         clear hvl
         go_wp2_with (first
          | (with_reducible refine ldI rfl rfl rfl HRW.out rfl ?_)
          | (with_reducible refine list_buildL (v := .agg #[.int .i64 zz.Op, .int .i64 zz.A, .int .i64 zz.B, .int .i64 zz.C, .int .i64 zz.N, .int .i64 zz.Exit, .int .i64 zz.K.Kind, .int .i64 zz.K.N]) rfl rfl (by simp [Act.eval, Act.put]) HBR.out ?_)
          | (at_builtin; (with_reducible refine Tryd.wp_appd27 (S := fun _ => False) (v := .slice vi vin vic) (xs := li) (y := zz) (cs := [.int .i64 zz.Op, .int .i64 zz.A, .int .i64 zz.B, .int .i64 zz.C, .int .i64 zz.N, .int .i64 zz.Exit, .int .i64 zz.K.Kind, .int .i64 zz.K.N]) (w0 := w9) rfl rfl (by with_unfolding_all rfl) rfl rfl (by first | rfl | omega) HO9.out (HZCELL.out _) (fun _ h => h.elim) (by have := HLL.out; omega) (by omega) fun v10 w10 hown10 hg10 hst10 => ?_); obtain ⟨va, ln, vc, rfl⟩ : ∃ va ln vc, v10 = .slice va ln vc := (by obtain ⟨a, c, h, -⟩ := hown10.arr; exact ⟨a, _, c, h⟩); have HN10 := Lib.hid (HRX9.out.ri.more hown10 hg10); have e0 := HN10.out.2.1; have e1 := HN10.out.2.2.1; have e2 := HN10.out.2.2.2; clear hown10 hg10 hst10))
         have HNX : Hid (RI R T t w ts aT nI cT n1 go x y u0 u1 u2 u3 v0 v1 v2 v3 (w10.setCell ⟨go, 3, none⟩ (.slice va ln vc)) (lvR t ts (k + 1)) (.slice va ln vc) (cutTo ts t.Ins (k + 1)) (b1 && fineTo ts t.Ins (k + 1))) := by
          have h := HN10.out.1
          show RI _ _ _ _ _ _ _ _ _ _ _ _ _ _ _ _ _ _ _ _ _ _ _ _ _
          rw [HST1.out, HST2.out, if_pos HNN.out, if_pos HNN.out, ← Bool.and_assoc, ← HBB.out, ← HLI2.out, ← HZZ.out, ← HFZ.out]
          exact h
         go_roundw
         case rel => exact ⟨k + 1, _, by omega, by go_num, HNX.out⟩
         case measure => simp [intOf]; omega
   · as_aux_lemma =>
      obtain rfl : nI = k := by omega
      have HE1 : Hid (lvR t ts nI = cutLoop t ts) := by show _ = _; unfold lvR cutLoop; rw [HLI.out]
      obtain ⟨lv, hlv⟩ : ∃ lv, lv = cutLoop t ts := ⟨_, rfl⟩
      obtain ⟨li, hli⟩ : ∃ li, li = cutTo ts t.Ins t.Ins.length := ⟨_, rfl⟩
      obtain ⟨b2, hb2⟩ : ∃ b, b = (b1 && fineTo ts t.Ins t.Ins.length) := ⟨_, rfl⟩
      have HRE : Hid (RE R T t w ts aT nI cT n1 go x y u0 u1 u2 u3 v0 v1 v2 v3 wr.heap.size wr lv vI li (.slice none 0 0) [] b2) := by
       have h := hri
       rw [HE1.out] at h
       rw [hlv, hli, hb2, HLI.out]
       exact h.exits
      have HLV := Lib.hid hlv; have HLI2 := Lib.hid hli; have HB2 := Lib.hid hb2
      obtain ⟨t2, t3, t4, l1⟩ := HTC.out wr hri.rc.box
      clear hri hlv hli hb2
      go_wp2_with fail
      clear t2 t3 t4 l1
      generalize hn2 : wr.heap.size = n2 at HRE
      clear hn2 hlt
      go_loopw [85] (fun i W => ∃ (q : Nat) (vE : Value), q ≤ nE ∧ i = .int .i64 q ∧ RE R T t w ts aT nI cT n1 go x y u0 u1 u2 u3 v0 v1 v2 v3 n2 W lv vI li vE ((t.Exits.take q).map (cutExit (oneV (atOf ts ts.length)))) (b2 && (t.Exits.take q).all (fineExit (oneV (atOf ts ts.length))))) (fun i _ => nE - (intOf i).toNat)
      case atStart => exact ⟨0, _, Nat.zero_le _, rfl, by simpa using HRE.out⟩
      case round =>
       obtain ⟨q, vE, hq, rfl, hre⟩ := hrel
       have HE1 := Lib.hid hre
       by_cases hlt : q < nE
       · as_aux_lemma =>
          obtain ⟨z, hz⟩ : ∃ z, t.Exits[q]? = some z := ⟨_, List.getElem?_eq_getElem (by rw [HLE.out]; exact hlt)⟩
          obtain ⟨hTA, -⟩ := HCE.out _ hre.rc.below
          obtain ⟨bx, ox, a2, n2', c2, a3, n3, c3, rfl, hbx, s0, s1, s2, s3, hrx⟩ := texit_at hTA.exits hz
          have hbl := HS.out bx hbx
          have hsz := hre.size; have hfar := hre.far; have hwb := hre.rc.below.size; have hat := hre.rc.at'; have hn0 := hre.rc.size
          have HXX := Lib.hid hz
          have HXF : Hid (FewX z) := HFEW.out.each z (List.mem_of_getElem? hz)
          have HRXX : Hid (∀ W, Below w.heap.size w W → Rep.cells S W [.int .i64 z.At, .int .i64 z.Steps, .slice a2 n2' c2, .slice a3 n3 c3] z) := fun W hb => Rep.keep (fun k hk => (hb.block k (HS.out k hk)).trans (hre.rc.below.block k (HS.out k hk)).symm) hrx
          clear hz hbx hrx hTA hre
          go_upto_region 23 with fail
          generalize hW5 : wr.alloc (.cells #[.int .i64 z.At, .int .i64 z.Steps, .slice a2 n2' c2, .slice a3 n3 c3] 32) = w5
          have HE5 : Hid (RE R T t w ts aT nI cT n1 go x y u0 u1 u2 u3 v0 v1 v2 v3 n2 w5 lv vI li vE ((t.Exits.take q).map (cutExit (oneV (atOf ts ts.length)))) (b2 && (t.Exits.take q).all (fineExit (oneV (atOf ts ts.length))))) := by rw [← hW5]; exact HE1.out.alloc _
          have hrw := row_new wr #[.int .i64 z.At, .int .i64 z.Steps, .slice a2 n2' c2, .slice a3 n3 c3] 32
          rw [hW5] at hrw
          have HRW := Lib.hid hrw
          have hz5 : w5.heap.size = wr.heap.size + 1 := by rw [← hW5]; simp
          obtain ⟨y', hy'⟩ : ∃ y', y' = cutExit (oneV (atOf ts ts.length)) z := ⟨_, rfl⟩
          have HY := Lib.hid hy'
          have HC4 : Hid (Calls Tryd.prog 89 #[.agg #[.int .i64 z.At, .int .i64 z.Steps, .slice a2 n2' c2, .slice a3 n3 c3], .pointer (some ⟨w.heap.size + 4, 0, none⟩)] w5.drew fun e w6 => ∃ a2' n2'' c2' a3' n3' c3', e = .returned (.agg #[.int .i64 y'.At, .int .i64 y'.Steps, .slice a2' n2'' c2', .slice a3' n3' c3']) ∧
           Rep.cells (SB n2 w6 vE) w6 [.int .i64 y'.At, .int .i64 y'.Steps, .slice a2' n2'' c2', .slice a3' n3' c3'] y' ∧ RE R T t w ts aT nI cT n1 go x y u0 u1 u2 u3 v0 v1 v2 v3 n2 w6 lv vI li vE ((t.Exits.take q).map (cutExit (oneV (atOf ts ts.length)))) ((b2 && (t.Exits.take q).all (fineExit (oneV (atOf ts ts.length)))) && fineExit (oneV (atOf ts ts.length)) z) ∧ Wr w5.drew.heap.size (w.heap.size + 3) w5.drew w6) :=
           HE5.out.drew.exit_any HOK.out HL6.out (X := #[.int .i64 z.At, .int .i64 z.Steps, .slice a2 n2' c2, .slice a3 n3 c3]) (HRXX.out _ HE5.out.drew.rc.below) HS.out HXF.out hy'
          have HLL : Hid (((t.Exits.take q).map (cutExit (oneV (atOf ts ts.length)))).length ≤ 100000) := by show _ ≤ _; simp; omega
          clear hW5 hrw hy' s0 s1 s2 s3 HRXX
          obtain ⟨C0, HCC⟩ : ∃ C0 : World → Prop, Hid (∀ W, C0 W ↔ (W.cell? ⟨go, 4, none⟩ = some vE ∧ Row W wr.heap.size 32 #[.int .i64 z.At, .int .i64 z.Steps, .slice a2 n2' c2, .slice a3 n3 c3] ∧ go < W.heap.size)) := ⟨_, fun _ => Iff.rfl⟩
          have HC0 : Hid (C0 w5.drew) := (HCC.out _).2 ⟨HE5.out.drew.rc.out.cell (j := 4) rfl, HRW.out, HE5.out.drew.rc.out.lt⟩
          have HNEC : Nonempty (HeldW C0) := ⟨⟨_, HC0.out⟩⟩
          refine wp_region_plan C0 [(true, 0), (true, 1), (true, 2), (true, 3), (false, 4), (false, 5)] 6 20 (by kernel_rfl) (by kernel_rfl) (by kernel_rfl) (by kernel_rfl) HC0.out ?_
          simp only [List.drop_succ_cons, List.drop_zero]
          have hd1 : ∀ d : HeldW C0, d.val.cell? ⟨go, 4, none⟩ = some vE := fun d => ((HCC.out _).1 d.ok).1
          have hx0 : ∀ d : HeldW C0, d.val.cell? ⟨wr.heap.size, 0, none⟩ = some (.int .i64 z.At) := fun d => ((HCC.out _).1 d.ok).2.1.cell (j := 0) rfl
          have hx1 : ∀ d : HeldW C0, d.val.cell? ⟨wr.heap.size, 1, none⟩ = some (.int .i64 z.Steps) := fun d => ((HCC.out _).1 d.ok).2.1.cell (j := 1) rfl
          have hx2 : ∀ d : HeldW C0, d.val.cell? ⟨wr.heap.size, 2, none⟩ = some (.slice a2 n2' c2) := fun d => ((HCC.out _).1 d.ok).2.1.cell (j := 2) rfl
          have hx3 : ∀ d : HeldW C0, d.val.cell? ⟨wr.heap.size, 3, none⟩ = some (.slice a3 n3 c3) := fun d => ((HCC.out _).1 d.ok).2.1.cell (j := 3) rfl
          have hxl : ∀ d : HeldW C0, wr.heap.size < d.val.heap.size := fun d => ((HCC.out _).1 d.ok).2.1.lt
          have hgl : ∀ d : HeldW C0, go < d.val.heap.size := fun d => ((HCC.out _).1 d.ok).2.2
          refine plan_quiet (by repeat (first | with_reducible exact nth_zero | with_reducible apply nth_succ)) ?_
          go_big_quiet_step (fail)
          refine wpQuiet_nil ?_
          refine plan_quiet (by repeat (first | with_reducible exact nth_zero | with_reducible apply nth_succ)) ?_
          go_big_quiet_step (fail)
          refine wpQuiet_nil ?_
          refine plan_quiet (by repeat (first | with_reducible exact nth_zero | with_reducible apply nth_succ)) ?_
          go_big_quiet_step (fail)
          refine wpQuiet_nil ?_
          refine plan_quiet (by repeat (first | with_reducible exact nth_zero | with_reducible apply nth_succ)) ?_
          go_big_quiet_step (fail)
          refine wpQuiet_nil ?_
          refine plan_op (by repeat (first | with_reducible exact nth_zero | with_reducible apply nth_succ)) (by rfl) fun RR HRR => ?_
          go_wp2_with (go_at_call 89; refine HC4.out.mono ?_; rintro e w6 ⟨a2', n2'', c2', a3', n3', c3', rfl, hr6, hre6, hw6⟩; have HR6 := Lib.hid hr6; have HE6 := Lib.hid hre6; have HW6 := Lib.hid hw6; clear hr6 hre6 hw6)
          have HC6 : Hid (C0 w6) := (HCC.out _).2 ⟨HE6.out.rc.out.cell (j := 4) rfl, HRW.out.keep (HW6.out.block _ HRW.out.lt (by omega)), HE6.out.rc.out.lt⟩
          refine AfterT.normal (HRR _ _ (isC HC6.out) ?_)
          clear HRR RR
          refine plan_op (by repeat (first | with_reducible exact nth_zero | with_reducible apply nth_succ)) (by rfl) fun RR HRR => ?_
          have HE7 := Lib.hid (HE6.out.alloc (.cells #[.int .i64 y'.At, .int .i64 y'.Steps, .slice a2' n2'' c2', .slice a3' n3' c3'] 32))
          have HC7 : Hid (C0 (w6.alloc (.cells #[.int .i64 y'.At, .int .i64 y'.Steps, .slice a2' n2'' c2', .slice a3' n3' c3'] 32))) := (HCC.out _).2 ⟨HE7.out.rc.out.cell (j := 4) rfl, ((HCC.out _).1 HC6.out).2.1.keep (Below.heap_alloc _ _ _ (((HCC.out _).1 HC6.out).2.1.lt)), HE7.out.rc.out.lt⟩
          have HBR := Lib.hid (buildX_run w6 (.int .i64 y'.At) (.int .i64 y'.Steps) (.slice a2' n2'' c2') (.slice a3' n3' c3'))
          refine list_build (v := .agg #[.int .i64 y'.At, .int .i64 y'.Steps, .slice a2' n2'' c2', .slice a3' n3' c3']) rfl rfl (by simp [Act.eval]) (by with_reducible exact HBR.out) (HRR _ _ (isC HC7.out) ?_)
          clear HRR RR
          simp only [Act.put, List.setIfInBounds_toArray, List.set_cons_zero, List.set_cons_succ]
          refine plan_done ?_
          clear hd1 hx0 hx1 hx2 hx3 hxl hgl
          have HO6 := Lib.hid HE6.out.exits
          have hs6 := HE6.out.size
          have HSB : Hid (∀ j, SB n2 w6 vE j → j < w6.heap.size ∧ vE.ownBlock ≠ some j) := fun j hj => ⟨hj.2.1, hj.2.2⟩
          go_wp2_with (at_builtin; (with_reducible refine Tryd.wp_appd28 (S := SB n2 w6 vE) (v := vE) (xs := (t.Exits.take q).map (cutExit (oneV (atOf ts ts.length)))) (y := y') (cs := [.int .i64 y'.At, .int .i64 y'.Steps, .slice a2' n2'' c2', .slice a3' n3' c3']) (w0 := w6) rfl rfl (by with_unfolding_all rfl) rfl rfl (by first | rfl | omega) HO6.out HR6.out HSB.out (by have := HLL.out; omega) (by omega) fun v9 w9 hown9 hg9 hst9 => ?_); obtain ⟨va, ln, vc, rfl⟩ : ∃ va ln vc, v9 = .slice va ln vc := (by obtain ⟨a, c, h, -⟩ := hown9.arr; exact ⟨a, _, c, h⟩); have HN9 := Lib.hid (HE6.out.more hown9 hg9 hst9); have e0 := HN9.out.2.1; have e1 := HN9.out.2.2.1; have e2 := HN9.out.2.2.2; clear hown9 hg9 hst9)
          all_goals refine NoPanic.normal ?_
          have HNX : Hid (RE R T t w ts aT nI cT n1 go x y u0 u1 u2 u3 v0 v1 v2 v3 n2 (w9.setCell ⟨go, 4, none⟩ (.slice va ln vc)) lv vI li (.slice va ln vc) ((t.Exits.take (q + 1)).map (cutExit (oneV (atOf ts ts.length)))) (b2 && (t.Exits.take (q + 1)).all (fineExit (oneV (atOf ts ts.length))))) := by
           have h := HN9.out.1
           rw [HY.out, Bool.and_assoc] at h
           rw [map_take_succ HXX.out, show (t.Exits.take (q + 1)).all (fineExit (oneV (atOf ts ts.length))) = ((t.Exits.take q).all (fineExit (oneV (atOf ts ts.length))) && fineExit (oneV (atOf ts ts.length)) z) by rw [List.take_add_one, HXX.out, List.all_append]; simp]
           exact h
          go_wp2_with fail
          go_roundw
          case rel => exact ⟨q + 1, _, by omega, by go_num, HNX.out⟩
          case measure => simp [intOf]; omega
       · as_aux_lemma =>
          have e : q = t.Exits.length := by rw [HLE.out]; omega
          have hle : (t.Exits.take q) = t.Exits := by rw [e]; exact List.take_length
          have HGO : Hid (gOf t ts = (oneV (atOf ts ts.length))) := by show _ = _; unfold gOf; rw [HN.out, HLI.out]
          obtain ⟨bf, hbf⟩ : ∃ b, b = fineT t ts := ⟨_, rfl⟩
          have HE2 : Hid (RE R T t w ts aT nI cT n1 go x y u0 u1 u2 u3 v0 v1 v2 v3 n2 wr lv vI li vE (t.Exits.map (cutExit (oneV (atOf ts ts.length)))) bf) := by
           have h := HE1.out
           rw [hle] at h
           have : (b2 && t.Exits.all (fineExit (oneV (atOf ts ts.length)))) = bf := by
            rw [hbf, HB2.out, HB1.out]
            unfold fineT
            rw [HGO.out]
            simp [Bool.and_assoc, Bool.and_comm, Bool.and_left_comm]
           rwa [this] at h
          have g3 : I64 lv := by
           have h1 := keptN_le ts (min t.Loop.toNat t.Ins.length)
           have h2 := HLI.out
           rw [HLV.out]
           unfold cutLoop I64
           omega
          have HCT : Hid (cutT t ts = ⟨t.Fn, t.At, lv, li, t.Exits.map (cutExit (oneV (atOf ts ts.length))), x, y⟩) := by
           show _ = _
           unfold cutT
           rw [HGO.out, ← HLV.out, ← HLI2.out, ← HXE.out, ← HYE.out]
          obtain ⟨C, hC1, hC2, hC3⟩ := HE2.out.done HFA.out.1 HFA.out.2 g3
          have HC1 := Lib.hid hC1; have HC2 := Lib.hid hC2; have HC3 := Lib.hid hC3
          have hsC : C.size = 13 := rep_size hC2
          have HCO : Hid (C.all (·.oneCell') = true) := by
           show _ = _
           rw [Array.all_eq_true_iff_forall_mem]
           exact fun v hv => Rep.one hC2 v (by simpa using hv)
          have hsz := HE2.out.size; have hfar := HE2.out.far; have hwb := HE2.out.rc.below.size; have hat := HE2.out.rc.at'; have hn0 := HE2.out.rc.size
          have HBF := Lib.hid hbf
          have c1 := HE2.out.rc.pst.fine.cell (j := 0) rfl
          have lc := HE2.out.rc.pst.fine.lt
          clear hC1 hC2 hC3 hre hle e hbf
          cases bf with
          | false =>
            go_wp2_with (with_reducible refine stT (OLD := zeroTL.toArray) (C := zeroTL.toArray) rfl rfl rfl rfl HE2.out.rc.res rfl rfl HZO.out ?_)
            have HYB : Hid (Row (wr.setRow (w.heap.size + 2) zeroTL.toArray) (w.heap.size + 2) 34 zeroTL.toArray) := setRow_heap _ _ _ _ _ _ HE2.out.rc.res
            (try simp only [Exit.inBlock, Exit.then])
            refine bodyPost_ret (results_cell_slot rfl _ _ _ _ _ _ _ rfl rfl HYB.out Tryd.underlying34 rfl rfl) rfl ⟨zeroTL, by rw [← HBF.out]; rfl, by rw [cutR_no HBF.out]; exact HZE.out _ _, below_setRow HE2.out.rc.below (by omega) _, fun h => by rw [← HBF.out] at h; cases h⟩
          | true =>
            go_wp2_with (first
             | (with_reducible refine ldT rfl rfl rfl HC1.out hsC ?_)
             | (with_reducible refine stT (OLD := zeroTL.toArray) (C := C) rfl rfl rfl rfl HE2.out.rc.res hsC rfl HCO.out ?_))
            have HYB : Hid (Row (wr.setRow (w.heap.size + 2) C) (w.heap.size + 2) 34 C) := setRow_heap _ _ _ _ _ _ HE2.out.rc.res
            (try simp only [Exit.inBlock, Exit.then])
            refine bodyPost_ret (results_cell_slot rfl _ _ _ _ _ _ _ rfl rfl HYB.out Tryd.underlying34 rfl (infoT hsC)) rfl ⟨C.toList, by rw [← HBF.out]; simp, ?_, below_setRow HE2.out.rc.below (by omega) _, fun _ => by rw [HCT.out]; exact (HC3.out.keep (fun k h1 h2 => setRow_other _ _ _ _ (by omega)) (by simp [World.setRow])).base (by omega)⟩
            rw [cutR_yes HBF.out, HCT.out]
            have hss : (wr.setRow (w.heap.size + 2) C).heap.size = wr.heap.size := by simp [World.setRow]
            exact Rep.mono (fun j hj => ⟨by have := hj.1; omega, by show j < (wr.setRow (w.heap.size + 2) C).heap.size; rw [hss]; exact hj.2⟩) (Rep.keep (fun j hj => setRow_other _ _ _ _ (by have := hj.1; omega)) HC2.out)
end Go.Proofs.YtekofpigmggbbaaDoor.cut
