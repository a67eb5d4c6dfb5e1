/- A cutter: an instruction; walked. -/
import Derived.Test.YtekofpigmggbbaaDoorQCutA
import Derived.Test.YtekofpigmggbbaaDoorQIrA
set_option linter.unusedVariables false
set_option linter.unusedSimpArgs false
namespace Go.Proofs.YtekofpigmggbbaaDoor.cut
open Go.Bk Go.RowKit Go.Proofs.YtekofpigmggbbaaDoor.ir

def ptrs (n : Nat) : List Value := [.pointer (some ⟨n, 1, none⟩), .pointer (some ⟨n, 2, none⟩), .pointer (some ⟨n, 3, none⟩)]
/-- Within ins: behind j values. -/
structure InsAt (R : Nat → Prop) (W wr : World) (c : Nat) (aA : Option Addr) (nA cA : Nat) (at' : List Int) (b : Bool) (x : Api.TIns) (gl j : Nat) : Prop where
  box : Blk wr W.heap.size 43 (insL (cutArgs (oneV at') j x))
  res : Blk wr (W.heap.size + 1) 43 (insL ⟨0, 0, 0, 0, 0, 0, ⟨0, 0⟩⟩)
  row : Blk wr gl 182 (ptrs W.heap.size)
  far : W.heap.size + 1 < gl
  st : CSt R wr c aA nA cA at' (b && ((asksOf x).take j).all (fineV (oneV at')))
  wr : Wr W.heap.size c W wr
theorem take_all {p : Int → Bool} {l : List Int} {j : Nat} {v : Int} (h : l[j]? = some v) : (l.take (j + 1)).all p = ((l.take j).all p && p v) := by
  rw [List.take_add_one, h, List.all_append]
  simp
theorem box_arg (g : Int → Int) (x : Api.TIns) {j : Nat} (hj : j < 3) : (insL (cutArgs g j x))[1 + j]? = some (.int .i64 (argN x j)) := by
  rcases (show j = 0 ∨ j = 1 ∨ j = 2 by omega) with rfl | rfl | rfl <;> rfl
theorem box_set (g : Int → Int) (x : Api.TIns) {j : Nat} (hj : j < 3) : (insL (cutArgs g j x)).set (1 + j) (.int .i64 (g (argN x j))) = insL (cutArgs g (j + 1 : Nat) x) := by
  rcases (show j = 0 ∨ j = 1 ∨ j = 2 by omega) with rfl | rfl | rfl <;> rfl
theorem ptr_at (n : Nat) {j : Nat} (hj : j < 3) : (ptrs n)[j]? = some (.pointer (some ⟨n, 1 + j, none⟩)) := by
  rcases (show j = 0 ∨ j = 1 ∨ j = 2 by omega) with rfl | rfl | rfl <;> rfl
theorem take_arg {x : Api.TIns} {n j : Nat} (hn : n ≤ 3) (hj : j < n) : ([x.A, x.B, x.C].take n)[j]? = some (argN x j) := by
  rw [List.getElem?_take, if_pos hj]
  rcases (show j = 0 ∨ j = 1 ∨ j = 2 by omega) with rfl | rfl | rfl <;> rfl
set_option maxRecDepth 100000 in
set_option maxHeartbeats 1000000 in
theorem ins_any {R : Nat → Prop} {W : World} {c : Nat} {aA : Option Addr} {nA cA : Nat} {at' : List Int} {b : Bool} (h : CSt R W c aA nA cA at' b) (x : Api.TIns) :
    Calls Tryd.prog 85 #[.pointer (some ⟨c, 0, none⟩), .agg #[.int .i64 x.Op, .int .i64 x.A, .int .i64 x.B, .int .i64 x.C, .int .i64 x.N, .int .i64 x.Exit, .int .i64 x.K.Kind, .int .i64 x.K.N]] W fun e W' =>
      e = .returned (.agg (insL (cutIns (oneV at') x)).toArray) ∧ CSt R W' c aA nA cA at' (b && fineIns (oneV at') x) ∧ Wr W.heap.size c W W' := by
  obtain ⟨n, hn3, hasks, htk, hln⟩ := asks_nat x
  obtain ⟨w2, hw2⟩ : ∃ w2, w2 = (W.alloc (.cells #[.int .i64 x.Op, .int .i64 x.A, .int .i64 x.B, .int .i64 x.C, .int .i64 x.N, .int .i64 x.Exit, .int .i64 x.K.Kind, .int .i64 x.K.N] 43)).alloc (.cells #[.int .i64 0, .int .i64 0, .int .i64 0, .int .i64 0, .int .i64 0, .int .i64 0, .int .i64 0, .int .i64 0] 43) := ⟨_, rfl⟩
  obtain ⟨k1, k2, hb2, hz2⟩ := rowsTwo W #[.int .i64 x.Op, .int .i64 x.A, .int .i64 x.B, .int .i64 x.C, .int .i64 x.N, .int .i64 x.Exit, .int .i64 x.K.Kind, .int .i64 x.K.N] #[.int .i64 0, .int .i64 0, .int .i64 0, .int .i64 0, .int .i64 0, .int .i64 0, .int .i64 0, .int .i64 0] _ _ w2 hw2
  have HK1 := Lib.hid k1; have HK2 := Lib.hid k2; have HB2 := Lib.hid hb2; have HZ2 := Lib.hid hz2
  have x0 := k1.cell (j := 0) rfl
  have HST := Lib.hid h
  have hclt := h.blk.lt
  have HLN := Lib.hid hln; have HTK := Lib.hid htk
  have hfo := Lib.hid (asks_cases x.Op)
  obtain ⟨is, his⟩ : ∃ is, is = (formOf x.Op).2 := ⟨_, rfl⟩
  obtain ⟨lo, hlo⟩ : ∃ z, z = (formOf x.Op).1.low := ⟨_, rfl⟩
  obtain ⟨hi, hhi⟩ : ∃ z, z = (formOf x.Op).1.high := ⟨_, rfl⟩
  obtain ⟨kk, hkk⟩ : ∃ z, z = (formOf x.Op).1.k := ⟨_, rfl⟩
  obtain ⟨te, hte⟩ : ∃ z, z = (formOf x.Op).1.tells := ⟨_, rfl⟩
  obtain ⟨ex, hex⟩ : ∃ z, z = (formOf x.Op).1.exit := ⟨_, rfl⟩
  have HF : Hid (Calls Tryd.prog 77 #[.int .i64 x.Op] w2 fun e w' => e = .returned (.tuple #[.agg #[.int .i64 n, .int .i64 lo, .int .i64 hi, .bool kk, .bool te, .int .i64 ex], .bool is]) ∧ Below w2.heap.size w2 w') := by
    rw [hlo, hhi, hkk, hte, hex, his, ← hasks]
    exact of_any
  have HIS : Hid (is = false → n = 0) := fun e => by
    rcases hfo.out with ⟨-, e2⟩ | ⟨e2, -⟩
    · rw [hasks] at e2; omega
    · rw [← his, e] at e2; cases e2
  have HCI : Hid (cutIns (oneV at') x = cutArgs (oneV at') n x) := by show cutArgs _ _ _ = _; rw [hasks]
  have HFI : Hid (fineIns (oneV at') x = ((asksOf x).take n).all (fineV (oneV at'))) := by show (asksOf x).all _ = _; rw [← hln, List.take_length]
  clear h k1 k2 hb2 hz2 hasks htk hln his hlo hhi hkk hte hex
  go_enter Tryd.func85, Tryd.ntmps85
  go_upto_region 1 with fail
  rw [← hw2]
  clear hw2
  have HSA : Hid (∀ w1, Below w2.heap.size w2 w1 → ∀ o, InsAt R W ((w1.alloc o).alloc (.cells (ptrs W.heap.size).toArray 182)) c aA nA cA at' b x (w1.heap.size + 1) 0) := fun w1 hb o => by
    have hz := hb.size
    have hz2 := HZ2.out
    have q1 : Below w2.heap.size w2 ((w1.alloc o).alloc (.cells (ptrs W.heap.size).toArray 182)) := (hb.alloc hz _).alloc (by simp; omega) _
    have q2 : Below W.heap.size W ((w1.alloc o).alloc (.cells (ptrs W.heap.size).toArray 182)) := HB2.out.trans (q1.mono HB2.out.size)
    refine ⟨?_, ?_, ?_, by omega, ?_, .of_below q2⟩
    · exact (HK1.out.blk.keep (q1.block _ HK1.out.lt))
    · exact (HK2.out.blk.keep (q1.block _ HK2.out.lt))
    · have := blk_new (w1.alloc o) (ptrs W.heap.size) 182
      rwa [World.size_alloc] at this
    · have := HST.out.keep q2.size (fun k hk => q2.block k (by
        rcases hk with rfl | hk
        · exact HST.out.blk.lt
        · exact (HST.out.free k hk).1))
      simpa using this
  have HEND : Hid (∀ wr gl, InsAt R W wr c aA nA cA at' b x gl n → ∃ y : Api.TIns, y = cutIns (oneV at') x ∧ Blk wr W.heap.size 43 (insL y) ∧ Blk wr (W.heap.size + 1) 43 (insL ⟨0, 0, 0, 0, 0, 0, ⟨0, 0⟩⟩) ∧ CSt R wr c aA nA cA at' (b && fineIns (oneV at') x) ∧ Wr W.heap.size c W wr) := fun wr gl hq =>
    ⟨_, HCI.out.symm, hq.box, hq.res, by rw [HFI.out]; exact hq.st, hq.wr⟩
  have HFIN : Hid (∀ wz, CSt R wz c aA nA cA at' (b && fineIns (oneV at') x) → Wr W.heap.size c W wz → ∀ l : List Value, CSt R (wz.setCells (W.heap.size + 1) 0 l) c aA nA cA at' (b && fineIns (oneV at') x) ∧ Wr W.heap.size c W (wz.setCells (W.heap.size + 1) 0 l)) := fun wz h1 h2 l => by
    have hh : ∀ k, k ≠ W.heap.size + 1 → (wz.setCells (W.heap.size + 1) 0 l).heap[k]? = wz.heap[k]? := fun k hk => heap_setCells_ne _ _ _ _ _ hk
    have hs : wz.heap.size ≤ (wz.setCells (W.heap.size + 1) 0 l).heap.size := by rw [heap_setCells_size]; exact Nat.le_refl _
    have hc0 := HST.out.blk.lt
    have hz := h2.size
    refine ⟨h1.keep hs fun k hk => hh k ?_, h2.grown (grownBy_setCells l 0 wz (World.grownBy.refl _ _)) hz (fun k hk => by cases hk; omega)⟩
    rcases hk with rfl | hk
    · omega
    · have := (HST.out.free k hk).1; omega
  have hsl : ∀ (g : Nat) (w : World), (Instr.sliceAt 182 (.pointer (some ⟨g, 0, none⟩)) none (some (.int .i64 (n : Int))) none).run Tryd.prog w = .ok (.slice (some ⟨g, 0, none⟩) n 3) w := by
    intro g w
    rcases (show n = 0 ∨ n = 1 ∨ n = 2 ∨ n = 3 by omega) with rfl | rfl | rfl | rfl
    all_goals simp [Instr.sliceAt, go_sem]
  cases is with
  | false =>
    obtain rfl := HIS.out rfl
    go_upto_region 9 with (go_at_call 77; (with_reducible refine HF.out.mono ?_); rintro e w3 ⟨rfl, hb3⟩; have hs3 := hb3.size; have HS3 := Lib.hid (HSA.out w3 hb3); clear hb3)
    have HW4 : Hid (InsAt R W ((w3.alloc (.cells #[.int .i64 0, .int .i64 lo, .int .i64 hi, .bool kk, .bool te, .int .i64 ex] 131)).alloc (.cells #[.pointer (some ⟨W.heap.size, 1, none⟩), .pointer (some ⟨W.heap.size, 2, none⟩), .pointer (some ⟨W.heap.size, 3, none⟩)] 182)) c aA nA cA at' b x (w3.heap.size + 1) 0) := HS3.out _
    obtain ⟨y, hy, hb0, hb1, hst, hwr⟩ := HEND.out _ _ HW4.out
    have HY := Lib.hid hy; have HST' := Lib.hid hst; have HWR := Lib.hid hwr; have HB1 := Lib.hid hb1; have HB0 := Lib.hid hb0
    generalize (w3.alloc (.cells #[.int .i64 0, .int .i64 lo, .int .i64 hi, .bool kk, .bool te, .int .i64 ex] 131)).alloc (.cells #[.pointer (some ⟨W.heap.size, 1, none⟩), .pointer (some ⟨W.heap.size, 2, none⟩), .pointer (some ⟨W.heap.size, 3, none⟩)] 182) = w4 at HST' HWR HB1 HB0 ⊢
    clear hy hb0 hb1 hst hwr HW4 HS3
    have c0 := HB0.out.cell (j := 0) rfl; have c1 := HB0.out.cell (j := 1) rfl; have c2 := HB0.out.cell (j := 2) rfl; have c3 := HB0.out.cell (j := 3) rfl; have c4 := HB0.out.cell (j := 4) rfl; have c5 := HB0.out.cell (j := 5) rfl; have c6 := HB0.out.cell (j := 6) rfl; have c7 := HB0.out.cell (j := 7) rfl
    have r0 := HB1.out.cell (j := 0) rfl; have r1 := HB1.out.cell (j := 1) rfl; have r2 := HB1.out.cell (j := 2) rfl; have r3 := HB1.out.cell (j := 3) rfl; have r4 := HB1.out.cell (j := 4) rfl; have r5 := HB1.out.cell (j := 5) rfl; have r6 := HB1.out.cell (j := 6) rfl; have r7 := HB1.out.cell (j := 7) rfl
    have f0 := HB1.out.frozen 0; have f1 := HB1.out.frozen 1; have f2 := HB1.out.frozen 2; have f3 := HB1.out.frozen 3; have f4 := HB1.out.frozen 4; have f5 := HB1.out.frozen 5; have f6 := HB1.out.frozen 6; have f7 := HB1.out.frozen 7
    have hl0 := HB0.out.lt; have hl1 := HB1.out.lt
    go_wp2_with fail
    have HYB : Hid (Blk (w4.setCells (W.heap.size + 1) 0 (insL y)) (W.heap.size + 1) 43 (insL y)) := (((((((HB1.out.set 0 _).set 1 _).set 2 _).set 3 _).set 4 _).set 5 _).set 6 _).set 7 _
    have HFN := Lib.hid (HFIN.out _ HST'.out HWR.out (insL y))
    (try simp only [Exit.inBlock, Exit.then])
    refine bodyPost_ret (results_cell_row rfl _ _ _ _ _ _ _ rfl HYB.out Tryd.underlying43 rfl rfl) rfl ⟨by rw [← HY.out], HFN.out.1, HFN.out.2⟩
  | true =>
    go_upto_region 5 with (go_at_call 77; (with_reducible refine HF.out.mono ?_); rintro e w3 ⟨rfl, hb3⟩; have hs3 := hb3.size; have HS3 := Lib.hid (HSA.out w3 hb3); clear hb3)
    have HW4 : Hid (InsAt R W ((w3.alloc (.cells #[.int .i64 n, .int .i64 lo, .int .i64 hi, .bool kk, .bool te, .int .i64 ex] 131)).alloc (.cells #[.pointer (some ⟨W.heap.size, 1, none⟩), .pointer (some ⟨W.heap.size, 2, none⟩), .pointer (some ⟨W.heap.size, 3, none⟩)] 182)) c aA nA cA at' b x (w3.heap.size + 1) 0) := HS3.out _
    generalize w3.heap.size + 1 = gl at HW4 ⊢
    generalize (w3.alloc (.cells #[.int .i64 n, .int .i64 lo, .int .i64 hi, .bool kk, .bool te, .int .i64 ex] 131)).alloc (.cells #[.pointer (some ⟨W.heap.size, 1, none⟩), .pointer (some ⟨W.heap.size, 2, none⟩), .pointer (some ⟨W.heap.size, 3, none⟩)] 182) = w4 at HW4 ⊢
    clear HS3 hsl x0 hs3
    go_loopw [25] (fun s25 wr => ∃ j : Nat, j ≤ n ∧ s25 = .int .i64 j ∧ InsAt R W wr c aA nA cA at' b x gl j) (fun s25 _ => n - (intOf s25).toNat)
    case atStart => exact ⟨0, Nat.zero_le _, rfl, HW4.out⟩
    case round =>
      obtain ⟨j, hj, rfl, hat⟩ := hrel
      have HAT := Lib.hid hat
      by_cases hlt : j < n
      · have hj3 : j < 3 := by omega
        obtain ⟨v, hv⟩ : ∃ v, v = argN x j := ⟨_, rfl⟩
        have HV := Lib.hid hv
        have q0 := hat.row.cell (ptr_at W.heap.size hj3)
        have q1 := hat.box.cell (box_arg (oneV at') x hj3)
        rw [← hv] at q1
        have ql0 := hat.row.lt; have ql1 := hat.box.lt
        clear hat hv
        go_wp2_with (go_at_call 129; (with_reducible refine (one_any HAT.out.st v).mono ?_); rintro e w5 ⟨rfl, hst5, hwr5, hsz5⟩; have HST5 := Lib.hid hst5; have HWR5 := Lib.hid hwr5; have HBX5 := Lib.hid (hwr5.blk HAT.out.box (by omega) HAT.out.box.lt); have hc5 := HBX5.out.cell (box_arg (oneV at') x hj3); have hf5 := HBX5.out.frozen (1 + j); have hl5 := HBX5.out.lt; clear hst5 hwr5)
        go_roundw
        case rel =>
          refine ⟨j + 1, by omega, by go_num, ?_, ?_, ?_, HAT.out.far, ?_, ?_⟩
          · rw [← box_set (oneV at') x hj3, ← HV.out]
            exact HBX5.out.set (1 + j) _
          · exact (HWR5.out.blk HAT.out.res (by omega) HAT.out.res.lt).keep (blk_setCell_other _ _ _ (by show W.heap.size + 1 ≠ W.heap.size; omega))
          · have := HAT.out.far
            exact (HWR5.out.blk HAT.out.row (by omega) HAT.out.row.lt).keep (blk_setCell_other _ _ _ (by show gl ≠ W.heap.size; omega))
          · have h5 : CSt R _ c aA nA cA at' (b && ((asksOf x).take (j + 1)).all (fineV (oneV at'))) := HST5.out.keep (W' := w5.setCell ⟨W.heap.size, 1 + j, none⟩ (.int .i64 (oneV at' v))) (by rw [size_setCell]; exact Nat.le_refl _) (fun k hk => blk_setCell_other _ _ _ (by
              show k ≠ W.heap.size
              rcases hk with rfl | hk
              · omega
              · have := (HST.out.free k hk).1; omega)) |> fun h => by
                rw [take_all (v := v) (by rw [HTK.out, HV.out]; exact take_arg hn3 hlt), ← Bool.and_assoc]
                exact h
            exact h5
          · exact (HAT.out.wr.trans (HWR5.out.mono HAT.out.wr.size)).set (.inr (Nat.le_refl _)) _
        case measure => simp [intOf]; omega
      · obtain rfl : j = n := by omega
        obtain ⟨y, hy, hb0, hb1, hst, hwr⟩ := HEND.out _ _ HAT.out
        have HY := Lib.hid hy; have HST' := Lib.hid hst; have HWR := Lib.hid hwr; have HB1 := Lib.hid hb1; have HB0 := Lib.hid hb0
        clear hy hb0 hb1 hst hwr hat
        have c0 := HB0.out.cell (j := 0) rfl; have c1 := HB0.out.cell (j := 1) rfl; have c2 := HB0.out.cell (j := 2) rfl; have c3 := HB0.out.cell (j := 3) rfl; have c4 := HB0.out.cell (j := 4) rfl; have c5 := HB0.out.cell (j := 5) rfl; have c6 := HB0.out.cell (j := 6) rfl; have c7 := HB0.out.cell (j := 7) rfl
        have r0 := HB1.out.cell (j := 0) rfl; have r1 := HB1.out.cell (j := 1) rfl; have r2 := HB1.out.cell (j := 2) rfl; have r3 := HB1.out.cell (j := 3) rfl; have r4 := HB1.out.cell (j := 4) rfl; have r5 := HB1.out.cell (j := 5) rfl; have r6 := HB1.out.cell (j := 6) rfl; have r7 := HB1.out.cell (j := 7) rfl
        have f0 := HB1.out.frozen 0; have f1 := HB1.out.frozen 1; have f2 := HB1.out.frozen 2; have f3 := HB1.out.frozen 3; have f4 := HB1.out.frozen 4; have f5 := HB1.out.frozen 5; have f6 := HB1.out.frozen 6; have f7 := HB1.out.frozen 7
        have hl0 := HB0.out.lt; have hl1 := HB1.out.lt
        go_wp2_with fail
        have HYB : Hid (Blk (wr.setCells (W.heap.size + 1) 0 (insL y)) (W.heap.size + 1) 43 (insL y)) := (((((((HB1.out.set 0 _).set 1 _).set 2 _).set 3 _).set 4 _).set 5 _).set 6 _).set 7 _
        have HFN := Lib.hid (HFIN.out _ HST'.out HWR.out (insL y))
        (try simp only [Exit.inBlock, Exit.then])
        refine bodyPost_ret (results_cell_row rfl _ _ _ _ _ _ _ rfl HYB.out Tryd.underlying43 rfl rfl) rfl ⟨by rw [← HY.out], HFN.out.1, HFN.out.2⟩
end Go.Proofs.YtekofpigmggbbaaDoor.cut
