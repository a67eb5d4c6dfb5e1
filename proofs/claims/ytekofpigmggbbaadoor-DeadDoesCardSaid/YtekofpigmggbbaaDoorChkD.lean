/- The document's: formed: walked. -/
import Derived.Test.YtekofpigmggbbaaDoorChkC
set_option linter.unusedVariables false
set_option linter.unusedSimpArgs false
namespace Go.Proofs.YtekofpigmggbbaaDoor.chk
open Go.Bk Go.RowKit Go.Proofs.YtekofpigmggbbaaDoor.ir
theorem rows3 (w : World) (o1 o2 o3 : Array Value) (t1 t2 t3 : TypeId) (W : World) (hW : W = ((w.alloc (.cells o1 t1)).alloc (.cells o2 t2)).alloc (.cells o3 t3)) :
 Row W w.heap.size t1 o1 ∧ Row W (w.heap.size + 1) t2 o2 ∧ Row W (w.heap.size + 1 + 1) t3 o3 ∧ Below w.heap.size w W := by
 subst hW
 have z1 : (w.alloc (.cells o1 t1)).heap.size = w.heap.size + 1 := by simp
 have z2 : ((w.alloc (.cells o1 t1)).alloc (.cells o2 t2)).heap.size = w.heap.size + 1 + 1 := by simp
 have b1 := row_new w o1 t1
 have b2 := row_new (w.alloc (.cells o1 t1)) o2 t2
 have b3 := row_new ((w.alloc (.cells o1 t1)).alloc (.cells o2 t2)) o3 t3
 rw [z1] at b2
 rw [z2] at b3
 refine ⟨?_, ?_, b3, ?_⟩
 · exact (b1.keep (Below.heap_alloc _ _ _ (by omega))).keep (Below.heap_alloc _ _ _ (by omega))
 · exact b2.keep (Below.heap_alloc _ _ _ (by omega))
 · exact (((Below.refl _ _).alloc (Nat.le_refl _) _).alloc (by simp) _).alloc (by simp; omega) _
theorem rows2 (w : World) (o1 o2 : Array Value) (t1 t2 : TypeId) (W : World) (hW : W = (w.alloc (.cells o1 t1)).alloc (.cells o2 t2)) :
 Row W w.heap.size t1 o1 ∧ Row W (w.heap.size + 1) t2 o2 ∧ Below w.heap.size w W ∧ W.heap.size = w.heap.size + 1 + 1 := by
 subst hW
 have z1 : (w.alloc (.cells o1 t1)).heap.size = w.heap.size + 1 := by simp
 have b1 := row_new w o1 t1
 have b2 := row_new (w.alloc (.cells o1 t1)) o2 t2
 rw [z1] at b2
 refine ⟨b1.keep (Below.heap_alloc _ _ _ (by omega)), b2, ((Below.refl _ _).alloc (Nat.le_refl _) _).alloc (by simp) _, by simp⟩
theorem texit_at {S : Nat → Prop} {w : World} {a : Option Addr} {xs : List Api.TExit} (h : Arr S w a xs) {k : Nat} {e : Api.TExit} (hk : xs[k]? = some e) :
 ∃ (b off : Nat) (a2 : Option Addr) (n2 c2 : Nat) (a3 : Option Addr) (n3 c3 : Nat), a = some ⟨b, off, none⟩ ∧ S b ∧ w.cell? ⟨b, off + k * 4, none⟩ = some (.int .i64 e.At) ∧ w.cell? ⟨b, off + k * 4 + 1, none⟩ = some (.int .i64 e.Steps) ∧ w.cell? ⟨b, off + k * 4 + 2, none⟩ = some (.slice a2 n2 c2) ∧ w.cell? ⟨b, off + k * 4 + 3, none⟩ = some (.slice a3 n3 c3) ∧
   Rep.cells S w [.int .i64 e.At, .int .i64 e.Steps, .slice a2 n2 c2, .slice a3 n3 c3] e := by
 obtain ⟨b, off, cs, ha, hb, hc, hj⟩ := h.at hk
 obtain ⟨a2, c2, a3, c3, rfl, -⟩ := api_TExit_cells_eq hc
 exact ⟨b, off, a2, _, c2, a3, _, c3, ha, hb, by have := hj 0 (by show 0 < 4; omega); simpa [api_TExit_sz] using this, by have := hj 1 (by show 1 < 4; omega); simpa [api_TExit_sz] using this, by have := hj 2 (by show 2 < 4; omega); simpa [api_TExit_sz] using this, by have := hj 3 (by show 3 < 4; omega); simpa [api_TExit_sz] using this, hc⟩
theorem k_eq (op : Int) : (formOf op).1.k = (decide (op = 2) || decide (op = 6)) := by
 rcases op_cases op with h | rfl | rfl | rfl | rfl | rfl | rfl | rfl | rfl | rfl | rfl | rfl | rfl | rfl | rfl | rfl | rfl | rfl | rfl | rfl
 · rw [formOf_else h]; simp; omega
 all_goals decide
theorem exit_cases (op : Int) : (formOf op).1.exit = 0 ∨ (formOf op).1.exit = 1 ∨ (formOf op).1.exit = 2 := by
 rcases op_cases op with h | rfl | rfl | rfl | rfl | rfl | rfl | rfl | rfl | rfl | rfl | rfl | rfl | rfl | rfl | rfl | rfl | rfl | rfl | rfl
 · rw [formOf_else h]; simp
 all_goals decide
/-- The arguments, by their numbers. -/
def argN (x : Api.TIns) (k : Nat) : Int := if k = 0 then x.A else if k = 1 then x.B else x.C
def ArgsTo (ins : List Api.TIns) (x : Api.TIns) (i : Int) (k : Nat) : Prop := ∀ j, j < k → argOk ins x i j (argN x j) = true
theorem insOk_arg {regs cl : Int} {ins : List Api.TIns} {exits : List Api.TExit} {x : Api.TIns} {i : Int} {j : Nat} (hj : j < 3) (h : argOk ins x i j (argN x j) = false) : insOk regs cl ins exits x i = false := by
 have : argsOk ins x i = false := by
  unfold argsOk
  have : j = 0 ∨ j = 1 ∨ j = 2 := by omega
  rcases this with rfl | rfl | rfl
  · rw [show argN x 0 = x.A from rfl] at h; rw [h]; rfl
  · rw [show argN x 1 = x.B from rfl] at h; rw [h]; simp
  · rw [show argN x 2 = x.C from rfl] at h; rw [h]; simp
 unfold insOk
 rw [this]; rfl
theorem insOk_args {regs cl : Int} {ins : List Api.TIns} {exits : List Api.TExit} {x : Api.TIns} {i : Int} (h : ArgsTo ins x i 3) : insOk regs cl ins exits x i = (numOk regs x && (keepOk x && wayOk regs cl ins exits x i)) := by
 have h0 := h 0 (by omega); have h1 := h 1 (by omega); have h2 := h 2 (by omega)
 have e : argsOk ins x i = true := by
  unfold argsOk
  rw [show argN x 0 = x.A from rfl] at h0
  rw [show argN x 1 = x.B from rfl] at h1
  rw [show argN x 2 = x.C from rfl] at h2
  rw [h0, h1, h2]; rfl
 unfold insOk
 rw [e]; rfl
set_option maxRecDepth 100000 in
set_option maxHeartbeats 2000000 in
theorem formed_any {S : Nat → Prop} {w : World} {P T : Array Value} {p : Api.Prog} {t : Api.TTrace} {x : Api.TIns} {f : Api.Fn} {fk k : Nat} (hp : Rep.cells S w P.toList p) (ht : Rep.cells S w T.toList t) (hS : ∀ b, S b → b < w.heap.size)
 (hfk : t.Fn = fk) (hf : p.Fns[fk]? = some f) (h0 : 0 ≤ f.Regs) (h1 : f.Regs ≤ 1000) (hk : t.Ins[k]? = some x) :
 Calls Tryd.prog 74 #[.agg P, .agg T, .int .i64 k] w fun e w' => e = .returned (.bool (insOk f.Regs f.Code.length t.Ins t.Exits x k)) ∧ Below w.heap.size w w' := by
 obtain ⟨a0, nF, c0, hP⟩ := pin_of hp
 obtain ⟨aI, nI, cI, hT⟩ := tin_of ht
 have hT0 : T.toList[0]? = some (.int .i64 fk) := by
  obtain ⟨_, _, _, _, _, _, _, _, _, _, _, _, e, -⟩ := api_TTrace_cells_eq ht
  rw [e, ← hfk]; rfl
 obtain ⟨aE, nE, cE, hT4, hEx, hlE⟩ : ∃ aE nE cE, T.toList[4]? = some (.slice aE nE cE) ∧ Arr S w aE t.Exits ∧ t.Exits.length = nE := by
  obtain ⟨_, _, aE, cE, _, _, _, _, _, _, _, _, e, -, -, -, -, h4, -⟩ := api_TTrace_cells_eq ht
  exact ⟨aE, _, cE, by rw [e]; rfl, h4.2.2, rfl⟩
 have hE9 : nE ≤ 9223372036854775807 := by rw [← hlE]; have := hEx.small; unfold maxLen at this; omega
 have hlF : fk < nF := by rw [← hP.len]; exact (List.getElem?_eq_some_iff.1 hf).1
 have hlI : k < nI := by rw [← hT.len]; exact (List.getElem?_eq_some_iff.1 hk).1
 obtain ⟨bf, of, _, _, _, _, rfl, hSf, -, f1, -⟩ := api_Fn_elem hP.fns hf
 obtain ⟨bi, oi, rfl, hSi, i0, i1, i2, i3, i4, i5, i6, i7, j0, j1, j2, j3, j4, j5, j6, j7⟩ := api_TIns_elem hT.ins hk
 have hbf := hS bf hSf; have hbi := hS bi hSi
 obtain ⟨w2, hw2⟩ : ∃ w2, w2 = (w.alloc (.cells P 26)).alloc (.cells T 34) := ⟨_, rfl⟩
 obtain ⟨s1, s2, hb2, hz2⟩ := rows2 w P T _ _ w2 hw2
 have HB2 := Lib.hid hb2
 obtain ⟨op, iA, iB, iC, iN, iE, ⟨kK, kN⟩⟩ := x
 dsimp only at i0 i1 i2 i3 i4 i5 i6 i7 j0 j1 j2 j3 j4 j5 j6 j7
 obtain ⟨w3, hw3⟩ : ∃ w3, w3 = w2.alloc (.cells #[.int .i64 op, .int .i64 iA, .int .i64 iB, .int .i64 iC, .int .i64 iN, .int .i64 iE, .int .i64 kK, .int .i64 kN] 43) := ⟨_, rfl⟩
 have h23 : Below w2.heap.size w2 w3 := by rw [hw3]; exact cod.below_al2 _
 have r3 := row_new w2 #[.int .i64 op, .int .i64 iA, .int .i64 iB, .int .i64 iC, .int .i64 iN, .int .i64 iE, .int .i64 kK, .int .i64 kN] 43
 rw [← hw3] at r3
 have r1 := s1.keep (h23.block _ s1.lt); have r2 := s2.keep (h23.block _ s2.lt)
 have hb3 : Below w.heap.size w w3 := hb2.trans (h23.mono hb2.size)
 have HCE : Hid (∀ W, Below w3.heap.size w3 W → Row W w.heap.size 26 P ∧ Row W (w.heap.size + 1) 34 T ∧ Row W w2.heap.size 43 #[.int .i64 op, .int .i64 iA, .int .i64 iB, .int .i64 iC, .int .i64 iN, .int .i64 iE, .int .i64 kK, .int .i64 kN] ∧ Rep.cells S W P.toList p ∧ Rep.cells S W T.toList t ∧ Arr S W aE t.Exits ∧ (∀ b, S b → b < W.heap.size) ∧ Below w.heap.size w W ∧ W.cell? ⟨bf, of + fk * 5 + 1, none⟩ = some (.int .i64 f.Regs) ∧ bf < W.heap.size) := fun W hb => by
  have hbw : Below w.heap.size w W := hb3.trans (hb.mono hb3.size)
  have hk : ∀ b, S b → W.heap[b]? = w.heap[b]? := fun b hb' => hbw.block b (hS b hb')
  exact ⟨r1.keep (hb.block _ r1.lt), r2.keep (hb.block _ r2.lt), r3.keep (hb.block _ r3.lt), Rep.keep hk hp, Rep.keep hk ht, hEx.keep hk, fun b hb' => Nat.lt_of_lt_of_le (hS b hb') hbw.size, hbw, (World.cell?_of_block (a := ⟨bf, of + fk * 5 + 1, none⟩) (hk bf hSf)).trans f1, Nat.lt_of_lt_of_le hbf hbw.size⟩
 have q3 := s2.cell hT.c3
 have hk2 := hb2.block bi hbi
 have y0 := (World.cell?_of_block (a := ⟨bi, oi + k * 8, none⟩) hk2).trans i0
 have y1 := (World.cell?_of_block (a := ⟨bi, oi + k * 8 + 1, none⟩) hk2).trans i1
 have y2 := (World.cell?_of_block (a := ⟨bi, oi + k * 8 + 2, none⟩) hk2).trans i2
 have y3 := (World.cell?_of_block (a := ⟨bi, oi + k * 8 + 3, none⟩) hk2).trans i3
 have y4 := (World.cell?_of_block (a := ⟨bi, oi + k * 8 + 4, none⟩) hk2).trans i4
 have y5 := (World.cell?_of_block (a := ⟨bi, oi + k * 8 + 5, none⟩) hk2).trans i5
 have y6 := (World.cell?_of_block (a := ⟨bi, oi + k * 8 + 6, none⟩) hk2).trans i6
 have y7 := (World.cell?_of_block (a := ⟨bi, oi + k * 8 + 7, none⟩) hk2).trans i7
 have hbi2 : bi < w2.heap.size := by omega
 have hsT := hT.size
 have hcT0 := Lib.hid hT0; have hcT4 := Lib.hid hT4; have hcP0 := Lib.hid hP.c0
 have hlF' : (fk : Int) < (nF : Int) := by omega
 have hlI' : (k : Int) < (nI : Int) := by omega
 have HH3 : Hid (Below w3.heap.size w3 w3) := Below.refl _ _
 have HLE := Lib.hid hlE; have HFK := Lib.hid hfk; have HF0 := Lib.hid hf; have HSZ2 := Lib.hid hz2
 have HKI := Lib.hid hk
 have HAI : Hid (∀ z ∈ [iA, iB, iC], I64 z) := fun z hz => by
  simp at hz
  rcases hz with rfl | rfl | rfl <;> assumption
 clear hp ht hS hfk hf hk hP hT hT0 hT4 hEx hlE hlF hlI hSf f1 hSi i0 i1 i2 i3 i4 i5 i6 i7 hbf hbi r1 r2 r3 hb2 hb3 h23 s1 s2 hz2 hk2 j0 j1 j2 j3 j4 j5 j6 j7
 have hq3l : w.heap.size + 1 < w2.heap.size := by rw [HSZ2.out]; omega
 go_enter Tryd.func74, Tryd.ntmps74
 go_upto_region 1 with fail
 rw [← hw2]
 clear hw2
 go_upto_region 2 with fail
 rw [← hw3]
 clear hw3 q3 y0 y1 y2 y3 y4 y5 y6 y7 hbi2 hq3l
 generalize w2.heap.size = gI at HCE ⊢
 generalize w.heap.size + 1 = gT at HCE ⊢
 have HB3 : Hid (Below w3.heap.size w3 w3) := HH3.out
 obtain ⟨k1, k2, k3, k4, k5, k6, k7, k8, k9, k10⟩ := HCE.out w3 HH3.out
 have x0 := k3.cell (j := 0) rfl
 have lI := k3.lt
 obtain ⟨asks, hasks⟩ : ∃ a, a = (formOf op).1.asks := ⟨_, rfl⟩
 have HAS : Hid (0 ≤ asks ∧ asks ≤ 3) := by
  have := asks_cases op
  rw [← hasks] at this
  rcases this with ⟨-, h⟩ | ⟨-, h | h | h | h⟩ <;> exact ⟨by omega, by omega⟩
 have HVA : Hid (Calls Tryd.prog 55 #[.int .i64 op] w3 fun e w' => e = .returned (.int .i64 asks) ∧ Below w3.heap.size w3 w') := by rw [hasks]; exact values_any w3 op
 have HASK := Lib.hid hasks
 clear k1 k2 k3 k4 k5 k6 k7 k8 k9 k10 hasks
 go_upto_region 3 with (go_at_call 55; (with_reducible refine HVA.out.mono ?_); rintro e w4 ⟨rfl, hb4⟩; have HB4 := Lib.hid hb4; clear hb4)
 obtain ⟨k1, k2, k3, k4, k5, k6, k7, k8, k9, k10⟩ := HCE.out w4 HB4.out
 have x0 := k3.cell (j := 0) rfl; have x1 := k3.cell (j := 1) rfl; have x2 := k3.cell (j := 2) rfl; have x3 := k3.cell (j := 3) rfl; have x4 := k3.cell (j := 4) rfl
 have lI := k3.lt
 clear k1 k2 k3 k4 k5 k6 k7 k8 k9 k10
 obtain ⟨sh, hsh⟩ : ∃ b, b = shaped ⟨op, iA, iB, iC, iN, iE, ⟨kK, kN⟩⟩ := ⟨_, rfl⟩
 have HSH : Hid (sh = (decide (op = 19) || (decide (op = 9) && decide (iN = 1)))) := hsh
 have HSH0 := Lib.hid hsh
 clear hsh HVA
 go_cut [9] (fun s9 wz => s9 = .bool sh ∧ w4 = wz)
 case first =>
  by_cases o19 : op = 19
  · subst o19
    have HS : Hid (sh = true) := by show _ = _; rw [HSH.out]; rfl
    go_wp2_with fail
    go_meet
    exact ⟨by rw [HS.out], rfl⟩
  · have n19 : (op == 19) = false := by simpa using o19
    by_cases o9 : op = 9
    · subst o9
      by_cases oN : iN = 1
      · have nN : (iN == 1) = true := by simp [oN]
        have HS : Hid (sh = true) := by show _ = _; rw [HSH.out, oN]; rfl
        clear oN o19
        go_wp2_with fail
        go_meet
        exact ⟨by rw [HS.out], rfl⟩
      · have nN : (iN == 1) = false := by simpa using oN
        have HS : Hid (sh = false) := by show _ = _; rw [HSH.out, decide_eq_false oN]; rfl
        clear oN o19
        go_wp2_with fail
        go_meet
        exact ⟨by rw [HS.out], rfl⟩
    · have n9 : (op == 9) = false := by simpa using o9
      have HS : Hid (sh = false) := by show _ = _; rw [HSH.out, decide_eq_false o19, decide_eq_false o9]; rfl
      clear o9 o19
      go_wp2_with fail
      go_meet
      exact ⟨by rw [HS.out], rfl⟩
 case rest =>
  obtain ⟨rfl, rfl⟩ := hcut
  obtain ⟨w5, hw5⟩ : ∃ w5, w5 = w4.alloc (.cells #[.int .i64 iA, .int .i64 iB, .int .i64 iC] 3) := ⟨_, rfl⟩
  have h45 : Below w4.heap.size w4 w5 := by rw [hw5]; exact cod.below_al2 _
  have HB5 : Hid (Below w3.heap.size w3 w5) := HB4.out.trans (h45.mono HB4.out.size)
  have HR5 : Hid (Row w5 w4.heap.size 3 #[.int .i64 iA, .int .i64 iB, .int .i64 iC]) := by show Row _ _ _ _; rw [hw5]; exact row_new _ _ _
  have HH5 : Hid (Below w5.heap.size w5 w5) := Below.refl _ _
  clear h45
  go_wp2_with fail
  rw [← hw5]
  clear hw5 x0 x1 x2 x3 x4 lI
  generalize w4.heap.size = gA at HR5 ⊢
  go_loopw [41] (fun i wr => ∃ j : Nat, j ≤ 3 ∧ i = .int .i64 j ∧ ArgsTo t.Ins ⟨op, iA, iB, iC, iN, iE, ⟨kK, kN⟩⟩ k j ∧ Below w5.heap.size w5 wr) (fun i _ => 3 - (intOf i).toNat)
  case atStart => exact ⟨0, by omega, rfl, fun j hj => by omega, HH5.out⟩
  case round =>
   obtain ⟨j, hj, rfl, har, hbr⟩ := hrel
   have HAR := Lib.hid har; have HBR := Lib.hid hbr
   have HBR3 : Hid (Below w3.heap.size w3 wr) := HB5.out.trans (hbr.mono HB5.out.size)
   clear har
   by_cases hlt : j < 3
   · have hv : #[Value.int .i64 iA, .int .i64 iB, .int .i64 iC].toList[j]? = some (.int .i64 (argN ⟨op, iA, iB, iC, iN, iE, ⟨kK, kN⟩⟩ j)) := by
      have : j = 0 ∨ j = 1 ∨ j = 2 := by omega
      rcases this with rfl | rfl | rfl <;> rfl
     have hra := HR5.out.keep (hbr.block _ HR5.out.lt)
     have v0 := hra.cell hv
     have lA := hra.lt
     obtain ⟨v, hvv⟩ : ∃ v, v = argN ⟨op, iA, iB, iC, iN, iE, ⟨kK, kN⟩⟩ j := ⟨_, rfl⟩
     rw [← hvv] at v0
     have HV := Lib.hid hvv
     obtain ⟨ao, hao⟩ : ∃ b, b = argOk t.Ins ⟨op, iA, iB, iC, iN, iE, ⟨kK, kN⟩⟩ k j v := ⟨_, rfl⟩
     have HAO : Hid (ao = if (j : Int) < asks then valAt t.Ins v k else if j = 1 ∧ sh = true then decide (0 ≤ v) else decide (v = -1)) := by
      show _ = _
      rw [hao, HASK.out, HSH0.out]; rfl
     have HBAD : Hid (ao = false → insOk f.Regs f.Code.length t.Ins t.Exits ⟨op, iA, iB, iC, iN, iE, ⟨kK, kN⟩⟩ k = false) := fun h => insOk_arg (j := j) hlt (by rw [← hvv, ← hao]; exact h)
     have HGOOD : Hid (ao = true → ArgsTo t.Ins ⟨op, iA, iB, iC, iN, iE, ⟨kK, kN⟩⟩ k (j + 1)) := fun h q hq => by
      by_cases e : q = j
      · subst e; rw [← hvv, ← hao]; exact h
      · exact HAR.out q (by omega)
     have HEN : Hid (∀ W, Below wr.heap.size wr W → Below w.heap.size w W) := fun W hb => (HCE.out W (HBR3.out.trans (hb.mono HBR3.out.size))).2.2.2.2.2.2.2.1
     clear hv hra hvv hao hbr
     as_aux_lemma =>
      by_cases ha : (j : Int) < asks
      · have da : decide ((j : Int) < asks) = true := decide_eq_true ha
        have HAO2 : Hid (ao = valAt t.Ins v k) := by show _ = _; rw [HAO.out, if_pos ha]
        obtain ⟨k1, k2, k3, k4, k5, k6, k7, k8, k9, k10⟩ := HCE.out wr HBR3.out
        have HRT := Lib.hid k2
        have HVC : Hid (Calls Tryd.prog 116 #[.agg T, .int .i64 v, .int .i64 k] wr fun e w' => e = .returned (.bool ao) ∧ Below wr.heap.size wr w') := by
         rw [HAO2.out]; exact value_any k5 k7 _ _
        clear k1 k2 k3 k4 k5 k6 k7 k8 k9 k10 ha HAO2 HAO
        cases ao with
        | false =>
          have HF := Lib.hid (HBAD.out rfl)
          clear HBAD HGOOD
          go_wp2_with (first
           | (with_reducible refine ldT rfl rfl rfl HRT.out hsT ?_)
           | (go_at_call 116; (with_reducible refine HVC.out.mono ?_); rintro e w6 ⟨rfl, hb6⟩; have HB6 := Lib.hid hb6; clear hb6))
          go_ret
          exact ⟨by rw [HF.out]; rfl, HEN.out _ HB6.out⟩
        | true =>
          have HG := Lib.hid (HGOOD.out rfl)
          clear HBAD HGOOD
          go_wp2_with (first
           | (with_reducible refine ldT rfl rfl rfl HRT.out hsT ?_)
           | (go_at_call 116; (with_reducible refine HVC.out.mono ?_); rintro e w6 ⟨rfl, hb6⟩; have HB6 := Lib.hid hb6; clear hb6))
          go_roundw
          case rel => exact ⟨j + 1, by omega, by go_num, HG.out, HBR.out.trans (HB6.out.mono HBR.out.size)⟩
          case measure => simp [intOf]; omega
      · have da : decide ((j : Int) < asks) = false := decide_eq_false ha
        have HAO2 : Hid (ao = if j = 1 ∧ sh = true then decide (0 ≤ v) else decide (v = -1)) := by show _ = _; rw [HAO.out, if_neg ha]
        clear HAO
        have hcase : (j = 1 ∧ sh = true) ∨ (¬ (j = 1 ∧ sh = true) ∧ ((((j : Int) == 1) = true ∧ sh = false) ∨ ((j : Int) == 1) = false)) := by
         by_cases hj1 : j = 1
         · subst hj1
           cases sh <;> simp
         · right; refine ⟨fun h => hj1 h.1, .inr ?_⟩; simp; omega
        rcases hcase with ⟨hj1, hs1⟩ | ⟨hn, hd⟩
        · have HAO3 : Hid (ao = decide (0 ≤ v)) := by show _ = _; rw [HAO2.out, if_pos ⟨hj1, hs1⟩]
          have dj : ((j : Int) == 1) = true := by simp [hj1]
          clear HAO2 hj1
          subst hs1
          by_cases hv0 : 0 ≤ v
          · have HG := Lib.hid (HGOOD.out (by rw [HAO3.out, decide_eq_true hv0]))
            clear ha
            go_wp2_with fail
            go_roundw
            case rel => exact ⟨j + 1, by omega, by go_num, HG.out, HBR.out⟩
            case measure => simp [intOf]; omega
          · have HF := Lib.hid (HBAD.out (by rw [HAO3.out, decide_eq_false hv0]))
            have hv1 : v < 0 := by omega
            clear ha
            go_wp2_with fail
            go_ret
            exact ⟨by rw [HF.out]; rfl, HEN.out _ (Below.refl _ _)⟩
        · have HAO3 : Hid (ao = decide (v = -1)) := by show _ = _; rw [HAO2.out, if_neg hn]
          clear HAO2
          by_cases hv1 : v = -1
          · have HG := Lib.hid (HGOOD.out (by rw [HAO3.out, decide_eq_true hv1]))
            have dv : (v != -1) = false := by simp [hv1]
            clear ha hn hv1
            rcases hd with ⟨d1, d2⟩ | d1
            all_goals
             first | subst d2 | skip
             go_wp2_with fail
             go_roundw
             case rel => exact ⟨j + 1, by omega, by go_num, HG.out, HBR.out⟩
             case measure => simp [intOf]; omega
          · have HF := Lib.hid (HBAD.out (by rw [HAO3.out, decide_eq_false hv1]))
            have dv : (v != -1) = true := by simpa using hv1
            clear ha hn hv1
            rcases hd with ⟨d1, d2⟩ | d1
            all_goals
             first | subst d2 | skip
             go_wp2_with fail
             go_ret
             exact ⟨by rw [HF.out]; rfl, HEN.out _ (Below.refl _ _)⟩
   · have HIO : Hid (insOk f.Regs f.Code.length t.Ins t.Exits ⟨op, iA, iB, iC, iN, iE, ⟨kK, kN⟩⟩ k = (numOk f.Regs ⟨op, iA, iB, iC, iN, iE, ⟨kK, kN⟩⟩ && (keepOk ⟨op, iA, iB, iC, iN, iE, ⟨kK, kN⟩⟩ && wayOk f.Regs f.Code.length t.Ins t.Exits ⟨op, iA, iB, iC, iN, iE, ⟨kK, kN⟩⟩ k))) := by
      have : j = 3 := by omega
      subst this
      exact insOk_args HAR.out
     obtain ⟨io, hio⟩ : ∃ b, b = insOk f.Regs f.Code.length t.Ins t.Exits ⟨op, iA, iB, iC, iN, iE, ⟨kK, kN⟩⟩ k := ⟨_, rfl⟩
     rw [← hio] at HIO
     have HINS := Lib.hid hio.symm
     clear hio HAR
     obtain ⟨k1, k2, k3, k4, k5, k6, k7, k8, k9, k10⟩ := HCE.out wr HBR3.out
     have x0 := k3.cell (j := 0) rfl; have x1 := k3.cell (j := 1) rfl; have x2 := k3.cell (j := 2) rfl; have x3 := k3.cell (j := 3) rfl; have x4 := k3.cell (j := 4) rfl; have x5 := k3.cell (j := 5) rfl; have x6 := k3.cell (j := 6) rfl; have x7 := k3.cell (j := 7) rfl
     have p0 := k1.cell hcP0.out
     have t0 := k2.cell hcT0.out
     have lI := k3.lt; have lT := k2.lt; have lP := k1.lt
     obtain ⟨nb, hnb⟩ : ∃ b, b = numOk f.Regs ⟨op, iA, iB, iC, iN, iE, ⟨kK, kN⟩⟩ := ⟨_, rfl⟩
     rw [← hnb] at HIO
     have HNU : Hid (∀ d : Drift wr, Calls Tryd.prog 117 #[.agg #[.int .i64 op, .int .i64 iA, .int .i64 iB, .int .i64 iC, .int .i64 iN, .int .i64 iE, .int .i64 kK, .int .i64 kN], .int .i64 f.Regs] d.val fun e w' => e = .returned (.bool nb) ∧ Below d.val.heap.size d.val w') := fun d => by
      rw [hnb]
      exact number_any d.val ⟨op, iA, iB, iC, iN, iE, ⟨kK, kN⟩⟩ f.Regs h0 h1
     clear hnb k1 k2 k3 k4 k5 k6 k7 k8 hbr
     go_upto_region 16 with fail
     first | (refine wp_region_drift_lit (by kernel_rfl) (by kernel_rfl) (fun hdr => ?_); (repeat (go_big_quiet_step ((go_at_call 117; with_reducible exact drift_of (HNU.out _))))); refine wpQuiet_nil ?_; intro wq hw'; obtain ⟨⟨wd, hbd⟩, hw''⟩ := hw'; dsimp only at hw''; subst wq; clear hdr)
     have HB7 : Hid (Below w3.heap.size w3 wd) := HBR3.out.trans (hbd.mono HBR3.out.size)
     clear hbd x0 x1 x2 x3 x4 x5 x6 x7 p0 t0 lI lT lP k9 k10 HNU
     cases nb with
     | false =>
       have HF : Hid (io = false) := by show _ = _; rw [HIO.out]; rfl
       go_wp2_with fail
       go_ret
       exact ⟨by rw [HINS.out, HF.out]; rfl, (HCE.out _ HB7.out).2.2.2.2.2.2.2.1⟩
     | true =>
       have HIO : Hid (io = (keepOk ⟨op, iA, iB, iC, iN, iE, ⟨kK, kN⟩⟩ && wayOk f.Regs f.Code.length t.Ins t.Exits ⟨op, iA, iB, iC, iN, iE, ⟨kK, kN⟩⟩ k)) := by show _ = _; rw [HIO.out]; rfl
       obtain ⟨k1, k2, k3, k4, k5, k6, k7, k8, k9, k10⟩ := HCE.out wd HB7.out
       have x0 := k3.cell (j := 0) rfl; have x6 := k3.cell (j := 6) rfl; have x7 := k3.cell (j := 7) rfl
       have lI := k3.lt
       have HEN := Lib.hid k8
       clear k1 k2 k3 k4 k5 k6 k7 k8 k9 k10
       obtain ⟨kb, hkb⟩ : ∃ b, b = (formOf op).1.k := ⟨_, rfl⟩
       have HKB : Hid (kb = (decide (op = 2) || decide (op = 6))) := by show _ = _; rw [hkb, k_eq]
       obtain ⟨ko, hko⟩ : ∃ b, b = keepOk ⟨op, iA, iB, iC, iN, iE, ⟨kK, kN⟩⟩ := ⟨_, rfl⟩
       have HKO : Hid (ko = if kb = true then cod.right ⟨kK, kN⟩ && !(decide (op = 2) && decide (kK = 5)) else decide ((⟨kK, kN⟩ : Api.Val) = ⟨0, 0⟩)) := by
        show _ = _
        rw [hko, hkb]; rfl
       rw [← hko] at HIO
       clear hko hkb
       go_upto_region 18 with fail
       go_cut [84] (fun s84 wz => s84 = .bool kb ∧ wd = wz)
       case first =>
        by_cases o2 : op = 2
        · subst o2
          have HS : Hid (kb = true) := by show _ = _; rw [HKB.out]; rfl
          go_wp2_with fail
          go_meet
          exact ⟨by rw [HS.out], rfl⟩
        · have n2 : (op == 2) = false := by simpa using o2
          by_cases o6 : op = 6
          · subst o6
            have HS : Hid (kb = true) := by show _ = _; rw [HKB.out]; rfl
            clear o2
            go_wp2_with fail
            go_meet
            exact ⟨by rw [HS.out], rfl⟩
          · have n6 : (op == 6) = false := by simpa using o6
            have HS : Hid (kb = false) := by show _ = _; rw [HKB.out, decide_eq_false o2, decide_eq_false o6]; rfl
            clear o2 o6
            go_wp2_with fail
            go_meet
            exact ⟨by rw [HS.out], rfl⟩
       case rest =>
        obtain ⟨rfl, rfl⟩ := hcut
        go_upto_if 84 with fail
        go_cut [] (fun wz => ko = true ∧ Below wd.heap.size wd wz)
        case first =>
         as_aux_lemma =>
          have HIE : Hid (∀ W, Below wd.heap.size wd W → Below w.heap.size w W ∧ Row W gI 43 #[.int .i64 op, .int .i64 iA, .int .i64 iB, .int .i64 iC, .int .i64 iN, .int .i64 iE, .int .i64 kK, .int .i64 kN]) := fun W hb => by
           obtain ⟨k1, k2, k3, k4, k5, k6, k7, k8, k9, k10⟩ := HCE.out W (HB7.out.trans (hb.mono HB7.out.size))
           exact ⟨k8, k3⟩
          cases kb with
          | false =>
            have HKO2 : Hid (ko = decide ((⟨kK, kN⟩ : Api.Val) = ⟨0, 0⟩)) := by show _ = _; rw [HKO.out]; rfl
            have o2 : ¬ op = 2 := fun h => by have := HKB.out; rw [h] at this; simp at this
            clear HKO
            by_cases hz : (⟨kK, kN⟩ : Api.Val) = ⟨0, 0⟩
            · have HK : Hid (ko = true) := by show _ = _; rw [HKO2.out, decide_eq_true hz]
              injection hz with z1 z2
              subst z1 z2
              clear HKO2 o2
              go_wp2_with fail
              go_meet
              exact ⟨HK.out, Below.refl _ _⟩
            · have HF : Hid (io = false) := by show _ = _; rw [HIO.out, HKO2.out, decide_eq_false hz]; rfl
              rcases (show (kK == 0) = false ∨ ((kK == 0) = true ∧ (kN == 0) = false) by
               by_cases h1 : kK = 0
               · by_cases h2 : kN = 0
                 · exact absurd (by rw [h1, h2]) hz
                 · exact .inr ⟨by simp [h1], by simpa using h2⟩
               · exact .inl (by simpa using h1)) with d1 | ⟨d1, d2⟩
              all_goals
               clear hz HKO2 o2
               go_wp2_with fail
               go_ret
               exact ⟨by rw [HINS.out, HF.out]; rfl, HEN.out⟩
          | true =>
            obtain ⟨rv, hrv⟩ : ∃ b, b = cod.right ⟨kK, kN⟩ := ⟨_, rfl⟩
            have HRV : Hid (∀ w, Calls Tryd.prog 118 #[.agg #[.int .i64 kK, .int .i64 kN]] w fun e w' => e = .returned (.bool rv) ∧ Below w.heap.size w w') := fun w => by rw [hrv]; exact rightVal_any w ⟨kK, kN⟩
            have HKO2 : Hid (ko = (rv && !(decide (op = 2) && decide (kK = 5)))) := by show _ = _; rw [HKO.out, hrv]; rfl
            clear hrv HKO
            cases rv with
            | false =>
              have HF : Hid (io = false) := by show _ = _; rw [HIO.out, HKO2.out]; rfl
              go_wp2_with (go_at_call 118; (with_reducible refine (HRV.out _).mono ?_); rintro e w8 ⟨rfl, hb8⟩; have HB8 := Lib.hid hb8; clear hb8)
              go_ret
              exact ⟨by rw [HINS.out, HF.out]; rfl, (HIE.out _ HB8.out).1⟩
            | true =>
              by_cases o2 : op = 2
              · subst o2
                by_cases k5 : kK = 5
                · subst k5
                  have HF : Hid (io = false) := by show _ = _; rw [HIO.out, HKO2.out]; rfl
                  go_wp2_with (go_at_call 118; (with_reducible refine (HRV.out _).mono ?_); rintro e w8 ⟨rfl, hb8⟩; have HB8 := Lib.hid hb8; have hr8 := (HIE.out _ hb8).2; have x0 := hr8.cell (j := 0) rfl; have x6 := hr8.cell (j := 6) rfl; have lI8 := hr8.lt; clear hb8 hr8)
                  go_ret
                  exact ⟨by rw [HINS.out, HF.out]; rfl, (HIE.out _ HB8.out).1⟩
                · have n5 : (kK == 5) = false := by simpa using k5
                  have HK : Hid (ko = true) := by show _ = _; rw [HKO2.out, decide_eq_false k5]; rfl
                  clear k5
                  go_wp2_with (go_at_call 118; (with_reducible refine (HRV.out _).mono ?_); rintro e w8 ⟨rfl, hb8⟩; have HB8 := Lib.hid hb8; have hr8 := (HIE.out _ hb8).2; have x0 := hr8.cell (j := 0) rfl; have x6 := hr8.cell (j := 6) rfl; have lI8 := hr8.lt; clear hb8 hr8)
                  go_meet
                  exact ⟨HK.out, HB8.out⟩
              · have n2 : (op == 2) = false := by simpa using o2
                have HK : Hid (ko = true) := by show _ = _; rw [HKO2.out, decide_eq_false o2]; rfl
                clear o2
                go_wp2_with (go_at_call 118; (with_reducible refine (HRV.out _).mono ?_); rintro e w8 ⟨rfl, hb8⟩; have HB8 := Lib.hid hb8; have hr8 := (HIE.out _ hb8).2; have x0 := hr8.cell (j := 0) rfl; have lI8 := hr8.lt; clear hb8 hr8)
                go_meet
                exact ⟨HK.out, HB8.out⟩
        case rest =>
         obtain ⟨rfl, hb9⟩ := hcut
         obtain ⟨w9, hw9⟩ : ∃ w9 : World, w9 = wc := ⟨_, rfl⟩
         rw [← hw9] at hb9 ⊢
         clear hw9
         have HB9 : Hid (Below w3.heap.size w3 w9) := HB7.out.trans (hb9.mono HB7.out.size)
         have HIO2 : Hid (io = wayOk f.Regs f.Code.length t.Ins t.Exits ⟨op, iA, iB, iC, iN, iE, ⟨kK, kN⟩⟩ k) := by show _ = _; rw [HIO.out]; rfl
         clear hb9 HIO HKO HKB x0 x6 x7 lI
         obtain ⟨k1, k2, k3, k4, k5, k6, k7, k8, k9, k10⟩ := HCE.out w9 HB9.out
         have x0 := k3.cell (j := 0) rfl
         have lI := k3.lt
         clear k1 k2 k3 k4 k5 k6 k7 k8 k9 k10
         obtain ⟨ex, hex⟩ : ∃ e, e = (formOf op).1.exit := ⟨_, rfl⟩
         have HEC : Hid (ex = 0 ∨ ex = 1 ∨ ex = 2) := by show _ ∨ _; rw [hex]; exact exit_cases op
         have HWY : Hid (wayOk f.Regs f.Code.length t.Ins t.Exits ⟨op, iA, iB, iC, iN, iE, ⟨kK, kN⟩⟩ k = if ex = 0 ∨ (ex = 1 ∧ iE = -1) then decide (iE = -1) else if 0 ≤ iE ∧ iE < t.Exits.length then match t.Exits[iE.toNat]? with | some e => exitOk f.Regs f.Code.length t.Ins e k | none => false else false) := by
          show _ = _
          rw [hex]; rfl
         obtain ⟨mu, hmu⟩ : ∃ b, b = decide (ex = 2) := ⟨_, rfl⟩
         obtain ⟨ma, hma⟩ : ∃ b, b = decide (ex = 1) := ⟨_, rfl⟩
         have HMU : Hid (Calls Tryd.prog 119 #[.int .i64 op] w9 fun e w' => e = .returned (.bool mu) ∧ Below w9.heap.size w9 w') := by rw [hmu, hex]; exact must_any w9 op
         have HMA : Hid (∀ w, Calls Tryd.prog 120 #[.int .i64 op] w fun e w' => e = .returned (.bool ma) ∧ Below w.heap.size w w') := fun w => by rw [hma, hex]; exact may_any w op
         have HRO : Hid (∀ W, Below w9.heap.size w9 W → Below w3.heap.size w3 W ∧ Row W gI 43 #[.int .i64 op, .int .i64 iA, .int .i64 iB, .int .i64 iC, .int .i64 iN, .int .i64 iE, .int .i64 kK, .int .i64 kN] ∧ Below w.heap.size w W) := fun W hb => by
          have h := HB9.out.trans (hb.mono HB9.out.size)
          obtain ⟨k1, k2, k3, k4, k5, k6, k7, k8, k9, k10⟩ := HCE.out W h
          exact ⟨h, k3, k8⟩
         go_upto_region 23 with fail
         by_cases hea : ex = 0 ∨ (ex = 1 ∧ iE = -1)
         · as_aux_lemma =>
            have HF : Hid (io = decide (iE = -1)) := by show _ = _; rw [HIO2.out, HWY.out, if_pos hea]
            have hmu2 : mu = false := by rw [hmu]; exact decide_eq_false (by omega)
            subst hmu2
            by_cases hE : iE = -1
            · have dE : (iE == -1) = true := by simp [hE]
              have HF : Hid (io = true) := by show _ = _; rw [HF.out, decide_eq_true hE]
              clear hE hea hmu hma hex
              go_wp2_with (first | (go_at_call 119; (with_reducible refine HMU.out.mono ?_); rintro e w10 ⟨rfl, hb10⟩; have HB10 := Lib.hid hb10; obtain ⟨m1, m2, m3⟩ := HRO.out _ hb10; have x0 := m2.cell (j := 0) rfl; have x5 := m2.cell (j := 5) rfl; have lI := m2.lt; have HE10 := Lib.hid m3; clear hb10 m1 m2 m3) | (go_at_call 120; (with_reducible refine (HMA.out _).mono ?_); rintro e w11 ⟨rfl, hb11⟩; have HB11 := Lib.hid (HB10.out.trans (hb11.mono HB10.out.size)); obtain ⟨m1, m2, m3⟩ := HRO.out _ HB11.out; have x5' := m2.cell (j := 5) rfl; have lI' := m2.lt; have HE11 := Lib.hid m3; clear hb11 m1 m2 m3))
              go_ret
              exact ⟨by rw [HINS.out, HF.out]; rfl, HE10.out⟩
            · have dE : (iE == -1) = false := by simpa using hE
              have HF : Hid (io = false) := by show _ = _; rw [HF.out, decide_eq_false hE]
              have hma2 : ma = false := by rw [hma]; exact decide_eq_false (by omega)
              subst hma2
              clear hE hea hmu hma hex
              go_wp2_with (first | (go_at_call 119; (with_reducible refine HMU.out.mono ?_); rintro e w10 ⟨rfl, hb10⟩; have HB10 := Lib.hid hb10; obtain ⟨m1, m2, m3⟩ := HRO.out _ hb10; have x0 := m2.cell (j := 0) rfl; have x5 := m2.cell (j := 5) rfl; have lI := m2.lt; have HE10 := Lib.hid m3; clear hb10 m1 m2 m3) | (go_at_call 120; (with_reducible refine (HMA.out _).mono ?_); rintro e w11 ⟨rfl, hb11⟩; have HB11 := Lib.hid (HB10.out.trans (hb11.mono HB10.out.size)); obtain ⟨m1, m2, m3⟩ := HRO.out _ HB11.out; have x5' := m2.cell (j := 5) rfl; have lI' := m2.lt; have HE11 := Lib.hid m3; clear hb11 m1 m2 m3))
              go_ret
              exact ⟨by rw [HINS.out, HF.out]; rfl, HE11.out⟩
         · have HF : Hid (io = if 0 ≤ iE ∧ iE < t.Exits.length then match t.Exits[iE.toNat]? with | some e => exitOk f.Regs f.Code.length t.Ins e k | none => false else false) := by show _ = _; rw [HIO2.out, HWY.out, if_neg hea]
           go_cut [118] (fun s118 wz => s118 = .bool false ∧ Below w9.heap.size w9 wz)
           case first =>
            as_aux_lemma =>
             by_cases he2 : ex = 2
             · have hmu2 : mu = true := by rw [hmu]; exact decide_eq_true he2
               subst hmu2
               clear hea hmu hma hex he2
               go_wp2_with (go_at_call 119; (with_reducible refine HMU.out.mono ?_); rintro e w10 ⟨rfl, hb10⟩; have HB10 := Lib.hid hb10; obtain ⟨m1, m2, m3⟩ := HRO.out _ hb10; have x0 := m2.cell (j := 0) rfl; have x5 := m2.cell (j := 5) rfl; have lI := m2.lt; have HE10 := Lib.hid m3; clear hb10 m1 m2 m3)
               go_meet
               exact ⟨rfl, HB10.out⟩
             · have hmu2 : mu = false := by rw [hmu]; exact decide_eq_false he2
               have h1 : ex = 1 := by have := HEC.out; omega
               have hE : ¬ iE = -1 := fun h => hea (.inr ⟨h1, h⟩)
               have dE : (iE == -1) = false := by simpa using hE
               have hma2 : ma = true := by rw [hma]; exact decide_eq_true h1
               subst hmu2 hma2
               clear hea hmu hma hex he2 h1 hE
               go_wp2_with (first | (go_at_call 119; (with_reducible refine HMU.out.mono ?_); rintro e w10 ⟨rfl, hb10⟩; have HB10 := Lib.hid hb10; obtain ⟨m1, m2, m3⟩ := HRO.out _ hb10; have x0 := m2.cell (j := 0) rfl; have x5 := m2.cell (j := 5) rfl; have lI := m2.lt; have HE10 := Lib.hid m3; clear hb10 m1 m2 m3) | (go_at_call 120; (with_reducible refine (HMA.out _).mono ?_); rintro e w11 ⟨rfl, hb11⟩; have HB11 := Lib.hid (HB10.out.trans (hb11.mono HB10.out.size)); obtain ⟨m1, m2, m3⟩ := HRO.out _ HB11.out; have x5' := m2.cell (j := 5) rfl; have lI' := m2.lt; have HE11 := Lib.hid m3; clear hb11 m1 m2 m3))
               go_meet
               exact ⟨rfl, HB11.out⟩
           case rest =>
            obtain ⟨rfl, hb12⟩ := hcut
            obtain ⟨w12, hw12⟩ : ∃ w12 : World, w12 = wc := ⟨_, rfl⟩
            rw [← hw12] at hb12 ⊢
            have HB12 := Lib.hid (HRO.out _ hb12).1
            clear hw12 hb12 HMU HMA HEC HWY HIO2 hea hmu hma hex x0 lI HRO
            obtain ⟨k1, k2, k3, k4, k5, k6, k7, k8, k9, k10⟩ := HCE.out w12 HB12.out
            have x5 := k3.cell (j := 5) rfl
            have t4 := k2.cell hcT4.out
            have lI := k3.lt; have lT := k2.lt
            have hsP := rep_size k4
            have hsP : P.size = 3 := hsP
            have HEN := Lib.hid k8
            have HRT : Hid (∀ W, (∃ d : Drift w12, W = d.val) → Row W gT 34 T) := fun W ⟨d, hd⟩ => by rw [hd]; exact k2.keep (d.below.block _ k2.lt)
            have HRP : Hid (∀ W, (∃ d : Drift w12, W = d.val) → Row W w.heap.size 26 P) := fun W ⟨d, hd⟩ => by rw [hd]; exact k1.keep (d.below.block _ k1.lt)
            have lP := k1.lt
            as_aux_lemma =>
             by_cases hin : 0 ≤ iE ∧ iE < (nE : Int)
             · obtain ⟨q, rfl⟩ : ∃ q : Nat, iE = q := ⟨iE.toNat, by omega⟩
               obtain ⟨xe, hxe⟩ : ∃ xe, t.Exits[q]? = some xe := ⟨_, List.getElem?_eq_getElem (by rw [HLE.out]; omega)⟩
               obtain ⟨be, oe, a2, n2, c2, a3, n3, c3, rfl, hSe, e0, e1, e2, e3, hce⟩ := texit_at k6 hxe
               have hbe := k7 be hSe
               have HF : Hid (io = exitOk f.Regs f.Code.length t.Ins xe k) := by
                show _ = _
                rw [HF.out, if_pos ⟨hin.1, by rw [HLE.out]; exact hin.2⟩]
                simp [hxe]
               have HRX : Hid (∀ d : Drift w12, Calls Tryd.prog 75 #[.agg P, .agg T, .agg #[.int .i64 xe.At, .int .i64 xe.Steps, .slice a2 n2 c2, .slice a3 n3 c3], .int .i64 k] d.val fun e w' => e = .returned (.bool io) ∧ Below d.val.heap.size d.val w') := fun d => by
                have hk : ∀ b, S b → d.val.heap[b]? = w12.heap[b]? := fun b hb => d.below.block b (k7 b hb)
                rw [HF.out]
                exact rexit_any (X := #[.int .i64 xe.At, .int .i64 xe.Steps, .slice a2 n2 c2, .slice a3 n3 c3]) (Rep.keep hk k4) (Rep.keep hk k5) (Rep.keep hk hce) (fun b hb => Nat.lt_of_lt_of_le (k7 b hb) d.below.size) HFK.out HF0.out _
               have hq1 : (q : Int) < (nE : Int) := hin.2
               clear k1 k2 k3 k4 k5 k6 k7 k8 k9 k10 hce hxe hin hSe
               go_wp2_with fail
               first | (refine wp_region_drift_lit (by kernel_rfl) (by kernel_rfl) (fun hdr => ?_); (repeat (first | go_big_quiet_skip | (go_big_quiet_want; (first | ((first | (with_reducible refine qldT rfl rfl HRT.out hsT ?_) | (with_reducible refine qldP rfl rfl HRP.out hsP ?_)); simp only [Act.put, List.setIfInBounds_toArray, List.set_cons_succ, List.set_cons_zero]) | go_big_quiet_op); (first | go_big_quiet_on | go_big_quiet_call ((go_at_call 75; with_reducible exact drift_of (HRX.out _))))))); refine wpQuiet_nil ?_; intro wq hw'; obtain ⟨⟨wd, hbd⟩, hw''⟩ := hw'; dsimp only at hw''; subst wq; clear hdr)
               go_wp2_with fail
               go_ret
               exact ⟨by rw [HINS.out]; rfl, HEN.out.trans (hbd.mono HEN.out.size)⟩
             · have HF : Hid (io = false) := by show _ = _; rw [HF.out, if_neg (by rw [HLE.out]; exact hin)]
               have HRX : Hid True := trivial
               clear k1 k2 k3 k4 k5 k6 k7 k8 k9 k10
               rcases (show decide (0 ≤ iE) = false ∨ (decide (0 ≤ iE) = true ∧ decide (iE < (nE : Int)) = false) by
                by_cases h1 : 0 ≤ iE
                · exact .inr ⟨decide_eq_true h1, decide_eq_false (fun h => hin ⟨h1, h⟩)⟩
                · exact .inl (decide_eq_false h1)) with d1 | ⟨d1, d2⟩
               all_goals
                clear hin
                go_wp2_with fail
                first | (refine wp_region_drift_lit (by kernel_rfl) (by kernel_rfl) (fun hdr => ?_); (repeat (first | go_big_quiet_skip | (go_big_quiet_want; (first | ((first | (with_reducible refine qldT rfl rfl HRT.out hsT ?_) | (with_reducible refine qldP rfl rfl HRP.out hsP ?_)); simp only [Act.put, List.setIfInBounds_toArray, List.set_cons_succ, List.set_cons_zero]) | go_big_quiet_op); (first | go_big_quiet_on | go_big_quiet_call ((fail)))))); refine wpQuiet_nil ?_; intro wq hw'; obtain ⟨⟨wd, hbd⟩, hw''⟩ := hw'; dsimp only at hw''; subst wq; clear hdr)
                go_wp2_with fail
                go_ret
                exact ⟨by rw [HINS.out, HF.out]; rfl, HEN.out.trans (hbd.mono HEN.out.size)⟩
end Go.Proofs.YtekofpigmggbbaaDoor.chk
