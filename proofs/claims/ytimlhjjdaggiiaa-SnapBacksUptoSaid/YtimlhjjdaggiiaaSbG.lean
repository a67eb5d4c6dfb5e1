/- SnapBacks: a text, a cell, a thread, read (printed by gen_sb3.py). -/
import Derived.Test.YtimlhjjdaggiiaaSbF
import Derived.Test.YtimlhjjdaggiiaaFlatB
import Derived.Lib.BufferRead
set_option linter.unusedVariables false
set_option linter.unusedSimpArgs false
namespace Go.Proofs.Ytimlhjjdaggiiaa.flat
open Go.Bk Go.RowKit
set_option maxRecDepth 100000 in
theorem rtext_any {S0 : Nat → Prop} {w : World} {rb : Nat} {st : Option (List Int)} (h : Rdr S0 w rb st) :
    Calls Try.prog 106 #[.pointer (some ⟨rb, 0, none⟩)] w (ItemPost fText mkOne S0 rb w st) := by
  have HR := Lib.hid h
  clear h
  go_enter Try.func106, Try.ntmps106
  go_wp2_with fail
  refine (someByte_any HR.out).mono ?_
  rintro e w1 ⟨cs, l, st1, he, ⟨a1, p1, rfl, l1, m1, r1⟩, hw1, hr1, hs1⟩
  simp only [mkOne, List.headD_cons] at he
  subst he
  have HSM := Lib.hid r1.small
  have hcv : (convert 53 9 (.slice a1 l.length p1)).run Try.prog w1 = .ok (.string ⟨l.toArray⟩) w1 := by
    cases a1 with
    | none =>
      have hl : l = [] := by
        rcases r1.lies with h | ⟨b, off, h, -⟩
        · exact h
        · cases h
      subst hl
      exact Lib.run_convert_nil_bytes w1 _ _ 5 p1 Try.underlying53 Try.underlying5 Try.underlying9
    | some ad =>
      refine run_convert_bytes_back w1 _ _ 5 ad p1 l Try.underlying53 Try.underlying5 Try.underlying9 (fun j hj => ?_)
      obtain ⟨b, off, h1, hb, h2⟩ := arr_u8 r1 (List.getElem?_eq_getElem hj)
      injection h1 with h1
      subst h1
      rw [Addr.add_lit]
      exact h2
  have HS2 := Lib.hid (hs1.conv (g := fText) (fun l => ByteArray.mk l.toArray) (fun _ => rfl) (fun y => ⟨y.data.toList, rfl⟩))
  have HW := Lib.hid hw1; have HR1 := Lib.hid hr1
  obtain ⟨n, hn⟩ : ∃ n, n = l.length := ⟨_, rfl⟩
  rw [← hn] at hcv ⊢
  clear r1 l1 m1 hw1 hr1 hs1 hn
  go_wp2_with fail
  go_ret
  exact ⟨[.string ⟨l.toArray⟩], _, st1, rfl, ⟨rfl, HSM.out⟩, HW.out, HR1.out, HS2.out⟩

set_option maxRecDepth 100000 in
set_option maxHeartbeats 1000000 in
theorem rcell_any {S0 : Nat → Prop} {w : World} {rb : Nat} {st : Option (List Int)} (h : Rdr S0 w rb st) :
    Calls Try.prog 102 #[.pointer (some ⟨rb, 0, none⟩)] w (ItemPost fCell mkAgg S0 rb w st) := by
  have HR0 := Lib.hid h
  have hlt := h.lt
  have HF0 : Hid (¬ S0 w.heap.size) := fun hs => Nat.lt_irrefl _ (h.free _ hs).1
  have hbx := blk_new w [.int .i64 0, .int .i64 0, .slice none 0 0, .slice none 0 0] 130
  have HX0 := Lib.hid hbx
  clear h hbx
  go_enter Try.func102, Try.ntmps102
  go_wp2_with fail
  refine (num_any (HR0.out.alloc _)).mono ?_
  rintro e w1 ⟨x1, st1, rfl, i1, hw1, hr1, hs1, -⟩
  have HW1 := Lib.hid ((Wrote.alloc rb w _).trans hw1); have HR1 := Lib.hid hr1; have HS1 := Lib.hid hs1
  have HX1 := Lib.hid (hw1.blk HX0.out (by omega))
  have hws1 := hw1.size
  clear hw1 hr1 hs1
  try simp only [size_setCell, World.size_alloc] at hws1
  go_wp2_with fail
  refine (num_any HR1.out).mono ?_
  rintro e w2 ⟨x2, st2, rfl, i2, hw2, hr2, hs2, -⟩
  have HW2 := Lib.hid (HW1.out.trans hw2); have HR2 := Lib.hid hr2; have HS2 := Lib.hid hs2
  have HX2 := Lib.hid (hw2.blk HX1.out (by omega))
  have hws2 := hw2.size
  clear hw2 hr2 hs2
  try simp only [size_setCell, World.size_alloc] at hws2
  have c0 := HX2.out.cell (j := 0) rfl; have f0 := HX2.out.frozen 0; have c1 := HX2.out.cell (j := 1) rfl; have f1 := HX2.out.frozen 1
  have hlx2 := HX2.out.lt
  go_wp2_with fail
  refine (someVal_any ((HR2.out.set (by omega) HF0.out _).set (by omega) HF0.out _)).mono ?_
  rintro e w3 ⟨cs, x3, st3, he, ⟨a3, p3, rfl, l3, m3, r3⟩, hw3, hr3, hs3⟩
  simp only [mkOne, List.headD_cons] at he
  subst he
  have RA3 := Lib.hid r3
  have LA3 := Lib.hid l3; have MA3 := Lib.hid m3
  obtain ⟨n3, hn3⟩ : ∃ n, n = x3.length := ⟨_, rfl⟩
  rw [← hn3]
  have HN3 := Lib.hid hn3
  clear r3 l3 m3 hn3
  have HW3 := Lib.hid (((HW2.out.set (.inr (Nat.le_refl _)) _).set (.inr (Nat.le_refl _)) _).trans hw3); have HR3 := Lib.hid hr3; have HS3 := Lib.hid hs3
  have HX3 := Lib.hid (hw3.blk ((HX2.out.set 0 _).set 1 _) (by omega))
  have hws3 := hw3.size
  clear hw3 hr3 hs3
  try simp only [size_setCell, World.size_alloc] at hws3
  have c2 := HX3.out.cell (j := 2) rfl; have f2 := HX3.out.frozen 2
  have hlx3 := HX3.out.lt
  go_wp2_with fail
  refine (someFrame_any (HR3.out.set (by omega) HF0.out _)).mono ?_
  rintro e w4 ⟨cs, x4, st4, he, ⟨a4, p4, rfl, l4, m4, r4⟩, hw4, hr4, hs4⟩
  simp only [mkOne, List.headD_cons] at he
  subst he
  have RA4 := Lib.hid r4
  have LA4 := Lib.hid l4; have MA4 := Lib.hid m4
  obtain ⟨n4, hn4⟩ : ∃ n, n = x4.length := ⟨_, rfl⟩
  rw [← hn4]
  have HN4 := Lib.hid hn4
  clear r4 l4 m4 hn4
  have HW4 := Lib.hid ((HW3.out.set (.inr (Nat.le_refl _)) _).trans hw4); have HR4 := Lib.hid hr4; have HS4 := Lib.hid hs4
  have HX4 := Lib.hid (hw4.blk (HX3.out.set 2 _) (by omega))
  have hws4 := hw4.size
  have T3_4 := Lib.hid (((Two.refl (w.heap.size + 1) w3).set (by omega) _ _).wrote (by omega) hw4)
  clear hw4 hr4 hs4
  try simp only [size_setCell, World.size_alloc] at hws4
  have c3 := HX4.out.cell (j := 3) rfl; have f3 := HX4.out.frozen 3
  have hlx4 := HX4.out.lt
  have c0 := HX4.out.cell (j := 0) rfl; have f0 := HX4.out.frozen 0; have c1 := HX4.out.cell (j := 1) rfl; have f1 := HX4.out.frozen 1; have c2 := HX4.out.cell (j := 2) rfl; have f2 := HX4.out.frozen 2; have c3 := HX4.out.cell (j := 3) rfl; have f3 := HX4.out.frozen 3
  go_wp2_with fail
  have HY : Hid (Blk (((((w4.setCell ⟨w.heap.size, 3, none⟩ (.slice a4 n4 p4)).setCell ⟨w.heap.size, 0, none⟩ (.int .i64 x1)).setCell ⟨w.heap.size, 1, none⟩ (.int .i64 x2)).setCell ⟨w.heap.size, 2, none⟩ (.slice a3 n3 p3)).setCell ⟨w.heap.size, 3, none⟩ (.slice a4 n4 p4)) w.heap.size 130 [.int .i64 x1, .int .i64 x2, .slice a3 n3 p3, .slice a4 n4 p4]) := (((((HX4.out.set 3 _).set 0 _).set 1 _).set 2 _).set 3 _)
  (try simp only [Exit.inBlock, Exit.then])
  refine bodyPost_ret (results_cell_row rfl _ _ _ _ _ _ _ rfl HY.out Try.underlying130 rfl rfl) rfl ?_
  have HSS := Lib.hid ((HS1.out.seq pf_num (HS2.out.seq pf_num (HS3.out.seq pf_val.many HS4.out))).conv (g := fCell) (fun p => (⟨p.1, p.2.1, p.2.2.1, p.2.2.2⟩ : Api.Cell)) (fun _ => rfl) (fun y => ⟨(y.Kind, y.Num, y.Vals, y.Frames), rfl⟩))
  have RB3 : Hid (Arr (Fresh w (((((w4.setCell ⟨w.heap.size, 3, none⟩ (.slice a4 n4 p4)).setCell ⟨w.heap.size, 0, none⟩ (.int .i64 x1)).setCell ⟨w.heap.size, 1, none⟩ (.int .i64 x2)).setCell ⟨w.heap.size, 2, none⟩ (.slice a3 n3 p3)).setCell ⟨w.heap.size, 3, none⟩ (.slice a4 n4 p4))) (((((w4.setCell ⟨w.heap.size, 3, none⟩ (.slice a4 n4 p4)).setCell ⟨w.heap.size, 0, none⟩ (.int .i64 x1)).setCell ⟨w.heap.size, 1, none⟩ (.int .i64 x2)).setCell ⟨w.heap.size, 2, none⟩ (.slice a3 n3 p3)).setCell ⟨w.heap.size, 3, none⟩ (.slice a4 n4 p4)) a3 x3) := Lib.hid ((((((T3_4.out.set (by omega) _ _).set (by omega) _ _).set (by omega) _ _).set (by omega) _ _).set (by omega) _ _).arr RA3.out (w0 := w) (by (try simp only [size_setCell, World.size_alloc]); omega) (by (try simp only [size_setCell, World.size_alloc]); omega))
  have RB4 : Hid (Arr (Fresh w (((((w4.setCell ⟨w.heap.size, 3, none⟩ (.slice a4 n4 p4)).setCell ⟨w.heap.size, 0, none⟩ (.int .i64 x1)).setCell ⟨w.heap.size, 1, none⟩ (.int .i64 x2)).setCell ⟨w.heap.size, 2, none⟩ (.slice a3 n3 p3)).setCell ⟨w.heap.size, 3, none⟩ (.slice a4 n4 p4))) (((((w4.setCell ⟨w.heap.size, 3, none⟩ (.slice a4 n4 p4)).setCell ⟨w.heap.size, 0, none⟩ (.int .i64 x1)).setCell ⟨w.heap.size, 1, none⟩ (.int .i64 x2)).setCell ⟨w.heap.size, 2, none⟩ (.slice a3 n3 p3)).setCell ⟨w.heap.size, 3, none⟩ (.slice a4 n4 p4)) a4 x4) := Lib.hid (((((((Two.refl (w.heap.size + 1) w4).set (by omega) _ _).set (by omega) _ _).set (by omega) _ _).set (by omega) _ _).set (by omega) _ _).arr RA4.out (w0 := w) (by (try simp only [size_setCell, World.size_alloc]); omega) (by (try simp only [size_setCell, World.size_alloc]); omega))
  refine ⟨_, ⟨x1, x2, x3, x4⟩, st4, rfl, ?_, (((((HW4.out.set (.inr (Nat.le_refl _)) _).set (.inr (Nat.le_refl _)) _).set (.inr (Nat.le_refl _)) _).set (.inr (Nat.le_refl _)) _).set (.inr (Nat.le_refl _)) _), (((((HR4.out.set (by omega) HF0.out _).set (by omega) HF0.out _).set (by omega) HF0.out _).set (by omega) HF0.out _).set (by omega) HF0.out _), HSS.out⟩
  exact ⟨_, _, ⟨rfl, i1⟩, ⟨_, _, ⟨rfl, i2⟩, ⟨[.slice a3 n3 p3], [.slice a4 n4 p4], ⟨a3, p3, by rw [HN3.out], LA3.out, MA3.out, RB3.out⟩, ⟨a4, p4, by rw [HN4.out], LA4.out, MA4.out, RB4.out⟩, rfl⟩, rfl⟩, rfl⟩

set_option maxRecDepth 100000 in
set_option maxHeartbeats 1000000 in
theorem rthread_any {S0 : Nat → Prop} {w : World} {rb : Nat} {st : Option (List Int)} (h : Rdr S0 w rb st) :
    Calls Try.prog 108 #[.pointer (some ⟨rb, 0, none⟩)] w (ItemPost fThread mkAgg S0 rb w st) := by
  have HR0 := Lib.hid h
  have hlt := h.lt
  have HF0 : Hid (¬ S0 w.heap.size) := fun hs => Nat.lt_irrefl _ (h.free _ hs).1
  have hbx := blk_new w [.slice none 0 0, .int .i64 0, .int .i64 0, .int .i64 0, .int .i64 0] 141
  have HX0 := Lib.hid hbx
  clear h hbx
  go_enter Try.func108, Try.ntmps108
  go_wp2_with fail
  refine (someFrame_any (HR0.out.alloc _)).mono ?_
  rintro e w1 ⟨cs, x1, st1, he, ⟨a1, p1, rfl, l1, m1, r1⟩, hw1, hr1, hs1⟩
  simp only [mkOne, List.headD_cons] at he
  subst he
  have RA1 := Lib.hid r1
  have LA1 := Lib.hid l1; have MA1 := Lib.hid m1
  obtain ⟨n1, hn1⟩ : ∃ n, n = x1.length := ⟨_, rfl⟩
  rw [← hn1]
  have HN1 := Lib.hid hn1
  clear r1 l1 m1 hn1
  have HW1 := Lib.hid ((Wrote.alloc rb w _).trans hw1); have HR1 := Lib.hid hr1; have HS1 := Lib.hid hs1
  have HX1 := Lib.hid (hw1.blk HX0.out (by omega))
  have hws1 := hw1.size
  clear hw1 hr1 hs1
  try simp only [size_setCell, World.size_alloc] at hws1
  have c0 := HX1.out.cell (j := 0) rfl; have f0 := HX1.out.frozen 0
  have hlx1 := HX1.out.lt
  go_wp2_with fail
  refine (num_any (HR1.out.set (by omega) HF0.out _)).mono ?_
  rintro e w2 ⟨x2, st2, rfl, i2, hw2, hr2, hs2, -⟩
  have HW2 := Lib.hid ((HW1.out.set (.inr (Nat.le_refl _)) _).trans hw2); have HR2 := Lib.hid hr2; have HS2 := Lib.hid hs2
  have HX2 := Lib.hid (hw2.blk (HX1.out.set 0 _) (by omega))
  have hws2 := hw2.size
  have T1_2 := Lib.hid (((Two.refl (w.heap.size + 1) w1).set (by omega) _ _).wrote (by omega) hw2)
  clear hw2 hr2 hs2
  try simp only [size_setCell, World.size_alloc] at hws2
  go_wp2_with fail
  refine (num_any HR2.out).mono ?_
  rintro e w3 ⟨x3, st3, rfl, i3, hw3, hr3, hs3, -⟩
  have HW3 := Lib.hid (HW2.out.trans hw3); have HR3 := Lib.hid hr3; have HS3 := Lib.hid hs3
  have HX3 := Lib.hid (hw3.blk HX2.out (by omega))
  have hws3 := hw3.size
  have T1_3 := Lib.hid (T1_2.out.wrote (by omega) hw3)
  clear hw3 hr3 hs3
  try simp only [size_setCell, World.size_alloc] at hws3
  have c1 := HX3.out.cell (j := 1) rfl; have f1 := HX3.out.frozen 1; have c2 := HX3.out.cell (j := 2) rfl; have f2 := HX3.out.frozen 2
  have hlx3 := HX3.out.lt
  go_wp2_with fail
  refine (rval_any ((HR3.out.set (by omega) HF0.out _).set (by omega) HF0.out _)).mono ?_
  rintro e w4 ⟨cs, x4, st4, he, hcs, hw4, hr4, hs4⟩
  obtain ⟨rfl, i4, j4⟩ := api_Val_cells_eq hcs
  simp only [mkAgg] at he
  subst he
  clear hcs
  have HW4 := Lib.hid (((HW3.out.set (.inr (Nat.le_refl _)) _).set (.inr (Nat.le_refl _)) _).trans hw4); have HR4 := Lib.hid hr4; have HS4 := Lib.hid hs4
  have HX4 := Lib.hid (hw4.blk ((HX3.out.set 1 _).set 2 _) (by omega))
  have hws4 := hw4.size
  have T1_4 := Lib.hid (((T1_3.out.set (by omega) _ _).set (by omega) _ _).wrote (by omega) hw4)
  clear hw4 hr4 hs4
  try simp only [size_setCell, World.size_alloc] at hws4
  have c3 := HX4.out.cell (j := 3) rfl; have f3 := HX4.out.frozen 3; have c4 := HX4.out.cell (j := 4) rfl; have f4 := HX4.out.frozen 4
  have hlx4 := HX4.out.lt
  have c0 := HX4.out.cell (j := 0) rfl; have f0 := HX4.out.frozen 0; have c1 := HX4.out.cell (j := 1) rfl; have f1 := HX4.out.frozen 1; have c2 := HX4.out.cell (j := 2) rfl; have f2 := HX4.out.frozen 2; have c3 := HX4.out.cell (j := 3) rfl; have f3 := HX4.out.frozen 3; have c4 := HX4.out.cell (j := 4) rfl; have f4 := HX4.out.frozen 4
  go_wp2_with fail
  have HY : Hid (Blk (((((((w4.setCell ⟨w.heap.size, 3, none⟩ (.int .i64 x4.Kind)).setCell ⟨w.heap.size, 4, none⟩ (.int .i64 x4.N)).setCell ⟨w.heap.size, 0, none⟩ (.slice a1 n1 p1)).setCell ⟨w.heap.size, 1, none⟩ (.int .i64 x2)).setCell ⟨w.heap.size, 2, none⟩ (.int .i64 x3)).setCell ⟨w.heap.size, 3, none⟩ (.int .i64 x4.Kind)).setCell ⟨w.heap.size, 4, none⟩ (.int .i64 x4.N)) w.heap.size 141 [.slice a1 n1 p1, .int .i64 x2, .int .i64 x3, .int .i64 x4.Kind, .int .i64 x4.N]) := (((((((HX4.out.set 3 _).set 4 _).set 0 _).set 1 _).set 2 _).set 3 _).set 4 _)
  (try simp only [Exit.inBlock, Exit.then])
  refine bodyPost_ret (results_cell_row rfl _ _ _ _ _ _ _ rfl HY.out Try.underlying141 rfl rfl) rfl ?_
  have HSS := Lib.hid ((HS1.out.seq pf_frame.many (HS2.out.seq pf_num (HS3.out.seq pf_num HS4.out))).conv (g := fThread) (fun p => (⟨p.1, p.2.1, p.2.2.1, p.2.2.2⟩ : Api.Thread)) (fun _ => rfl) (fun y => ⟨(y.Frames, y.State, y.On, y.Val), rfl⟩))
  have RB1 : Hid (Arr (Fresh w (((((((w4.setCell ⟨w.heap.size, 3, none⟩ (.int .i64 x4.Kind)).setCell ⟨w.heap.size, 4, none⟩ (.int .i64 x4.N)).setCell ⟨w.heap.size, 0, none⟩ (.slice a1 n1 p1)).setCell ⟨w.heap.size, 1, none⟩ (.int .i64 x2)).setCell ⟨w.heap.size, 2, none⟩ (.int .i64 x3)).setCell ⟨w.heap.size, 3, none⟩ (.int .i64 x4.Kind)).setCell ⟨w.heap.size, 4, none⟩ (.int .i64 x4.N))) (((((((w4.setCell ⟨w.heap.size, 3, none⟩ (.int .i64 x4.Kind)).setCell ⟨w.heap.size, 4, none⟩ (.int .i64 x4.N)).setCell ⟨w.heap.size, 0, none⟩ (.slice a1 n1 p1)).setCell ⟨w.heap.size, 1, none⟩ (.int .i64 x2)).setCell ⟨w.heap.size, 2, none⟩ (.int .i64 x3)).setCell ⟨w.heap.size, 3, none⟩ (.int .i64 x4.Kind)).setCell ⟨w.heap.size, 4, none⟩ (.int .i64 x4.N)) a1 x1) := Lib.hid ((((((((T1_4.out.set (by omega) _ _).set (by omega) _ _).set (by omega) _ _).set (by omega) _ _).set (by omega) _ _).set (by omega) _ _).set (by omega) _ _).arr RA1.out (w0 := w) (by (try simp only [size_setCell, World.size_alloc]); omega) (by (try simp only [size_setCell, World.size_alloc]); omega))
  refine ⟨_, ⟨x1, x2, x3, x4⟩, st4, rfl, ?_, (((((((HW4.out.set (.inr (Nat.le_refl _)) _).set (.inr (Nat.le_refl _)) _).set (.inr (Nat.le_refl _)) _).set (.inr (Nat.le_refl _)) _).set (.inr (Nat.le_refl _)) _).set (.inr (Nat.le_refl _)) _).set (.inr (Nat.le_refl _)) _), (((((((HR4.out.set (by omega) HF0.out _).set (by omega) HF0.out _).set (by omega) HF0.out _).set (by omega) HF0.out _).set (by omega) HF0.out _).set (by omega) HF0.out _).set (by omega) HF0.out _), HSS.out⟩
  exact ⟨[.slice a1 n1 p1], _, ⟨a1, p1, by rw [HN1.out], LA1.out, MA1.out, RB1.out⟩, ⟨_, _, ⟨rfl, i2⟩, ⟨_, _, ⟨rfl, i3⟩, ⟨_, _, ⟨rfl, i4⟩, ⟨rfl, j4⟩, rfl⟩, rfl⟩, rfl⟩, rfl⟩
end Go.Proofs.Ytimlhjjdaggiiaa.flat
