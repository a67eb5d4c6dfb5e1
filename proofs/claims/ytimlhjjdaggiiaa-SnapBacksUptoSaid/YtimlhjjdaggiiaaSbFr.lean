/- SnapBacks: a frame, read (printed by gen_sb3.py). -/
import Derived.Test.YtimlhjjdaggiiaaSbE
set_option linter.unusedVariables false
set_option linter.unusedSimpArgs false
namespace Go.Proofs.Ytimlhjjdaggiiaa.flat
open Go.Bk Go.RowKit

/-- From w to w' the blocks from N on were left. -/
structure Two (N : Nat) (w w' : World) : Prop where
  size : w.heap.size ≤ w'.heap.size
  block : ∀ b, b < w.heap.size → N ≤ b → w'.heap[b]? = w.heap[b]?
theorem Two.refl (N : Nat) (w : World) : Two N w w := ⟨Nat.le_refl _, fun _ _ _ => rfl⟩
theorem Two.set {N k : Nat} {w w' : World} (h : Two N w w') (hk : k < N) (j : Nat) (v : Value) : Two N w (w'.setCell ⟨k, j, none⟩ v) :=
  ⟨by rw [size_setCell]; exact h.size, fun b h1 h2 => by rw [blk_setCell_other _ _ _ (show b ≠ k by omega)]; exact h.block b h1 h2⟩
theorem Two.wrote {rb N : Nat} {w w' w2 : World} (h : Two N w w') (hk : rb < N) (hw : Wrote rb w' w2) : Two N w w2 :=
  ⟨Nat.le_trans h.size hw.size, fun b h1 h2 => (hw.block b (Nat.lt_of_lt_of_le h1 h.size) (by omega)).trans (h.block b h1 h2)⟩
theorem Two.arr {α : Type} [Rep α] {N : Nat} {w0 wa w w' : World} {a : Option Addr} {xs : List α} (h : Two N w w') (ha : Arr (Fresh wa w) w a xs) (hN : N ≤ wa.heap.size) (h0 : w0.heap.size ≤ wa.heap.size) : Arr (Fresh w0 w') w' a xs :=
  (ha.keep (fun b hb => h.block b hb.2 (Nat.le_trans hN hb.1))).mono (fun b hb => ⟨Nat.le_trans h0 hb.1, Nat.lt_of_lt_of_le hb.2 h.size⟩)

set_option maxRecDepth 100000 in
set_option maxHeartbeats 1000000 in
theorem rframe_any {S0 : Nat → Prop} {w : World} {rb : Nat} {st : Option (List Int)} (h : Rdr S0 w rb st) :
    Calls Try.prog 141 #[.pointer (some ⟨rb, 0, none⟩)] w (ItemPost fFrame mkAgg S0 rb w st) := by
  have HR0 := Lib.hid h
  have hlt := h.lt
  have HF0 : Hid (¬ S0 w.heap.size) := fun hs => Nat.lt_irrefl _ (h.free _ hs).1
  have hbx := blk_new w [.int .i64 0, .int .i64 0, .int .i64 0, .int .i64 0, .int .i64 0, .int .i64 0, .slice none 0 0, .slice none 0 0] 207
  have HX0 := Lib.hid hbx
  clear h hbx
  go_enter Try.func141, Try.ntmps141
  go_wp2_with fail
  refine (num_any (HR0.out.alloc _)).mono ?_
  rintro e w1 ⟨x1, st1, rfl, i1, hw1, hr1, hs1, -⟩
  have HW1 := Lib.hid ((Wrote.alloc rb w _).trans hw1); have HR1 := Lib.hid hr1; have HS1 := Lib.hid hs1
  have HX1 := Lib.hid (hw1.blk HX0.out (by omega))
  have hws1 := hw1.size
  clear hw1 hr1 hs1
  try simp only [size_setCell, World.size_alloc] at hws1
  go_wp2_with fail
  refine (num_any HR1.out).mono ?_
  rintro e w2 ⟨x2, st2, rfl, i2, hw2, hr2, hs2, -⟩
  have HW2 := Lib.hid (HW1.out.trans hw2); have HR2 := Lib.hid hr2; have HS2 := Lib.hid hs2
  have HX2 := Lib.hid (hw2.blk HX1.out (by omega))
  have hws2 := hw2.size
  clear hw2 hr2 hs2
  try simp only [size_setCell, World.size_alloc] at hws2
  go_wp2_with fail
  refine (num_any HR2.out).mono ?_
  rintro e w3 ⟨x3, st3, rfl, i3, hw3, hr3, hs3, -⟩
  have HW3 := Lib.hid (HW2.out.trans hw3); have HR3 := Lib.hid hr3; have HS3 := Lib.hid hs3
  have HX3 := Lib.hid (hw3.blk HX2.out (by omega))
  have hws3 := hw3.size
  clear hw3 hr3 hs3
  try simp only [size_setCell, World.size_alloc] at hws3
  go_wp2_with fail
  refine (num_any HR3.out).mono ?_
  rintro e w4 ⟨x4, st4, rfl, i4, hw4, hr4, hs4, -⟩
  have HW4 := Lib.hid (HW3.out.trans hw4); have HR4 := Lib.hid hr4; have HS4 := Lib.hid hs4
  have HX4 := Lib.hid (hw4.blk HX3.out (by omega))
  have hws4 := hw4.size
  clear hw4 hr4 hs4
  try simp only [size_setCell, World.size_alloc] at hws4
  have c0 := HX4.out.cell (j := 0) rfl; have f0 := HX4.out.frozen 0; have c1 := HX4.out.cell (j := 1) rfl; have f1 := HX4.out.frozen 1; have c2 := HX4.out.cell (j := 2) rfl; have f2 := HX4.out.frozen 2; have c3 := HX4.out.cell (j := 3) rfl; have f3 := HX4.out.frozen 3
  have hlx4 := HX4.out.lt
  go_wp2_with fail
  refine (rval_any ((((HR4.out.set (by omega) HF0.out _).set (by omega) HF0.out _).set (by omega) HF0.out _).set (by omega) HF0.out _)).mono ?_
  rintro e w5 ⟨cs, x5, st5, he, hcs, hw5, hr5, hs5⟩
  obtain ⟨rfl, i5, j5⟩ := api_Val_cells_eq hcs
  simp only [mkAgg] at he
  subst he
  clear hcs
  have HW5 := Lib.hid (((((HW4.out.set (.inr (Nat.le_refl _)) _).set (.inr (Nat.le_refl _)) _).set (.inr (Nat.le_refl _)) _).set (.inr (Nat.le_refl _)) _).trans hw5); have HR5 := Lib.hid hr5; have HS5 := Lib.hid hs5
  have HX5 := Lib.hid (hw5.blk ((((HX4.out.set 0 _).set 1 _).set 2 _).set 3 _) (by omega))
  have hws5 := hw5.size
  clear hw5 hr5 hs5
  try simp only [size_setCell, World.size_alloc] at hws5
  have c4 := HX5.out.cell (j := 4) rfl; have f4 := HX5.out.frozen 4; have c5 := HX5.out.cell (j := 5) rfl; have f5 := HX5.out.frozen 5
  have hlx5 := HX5.out.lt
  go_wp2_with fail
  refine (someVal_any ((HR5.out.set (by omega) HF0.out _).set (by omega) HF0.out _)).mono ?_
  rintro e w6 ⟨cs, x6, st6, he, ⟨a6, p6, rfl, l6, m6, r6⟩, hw6, hr6, hs6⟩
  simp only [mkOne, List.headD_cons] at he
  subst he
  have RA6 := Lib.hid r6
  have LA6 := Lib.hid l6; have MA6 := Lib.hid m6
  obtain ⟨n6, hn6⟩ : ∃ n, n = x6.length := ⟨_, rfl⟩
  rw [← hn6]
  have HN6 := Lib.hid hn6
  clear r6 l6 m6 hn6
  have HW6 := Lib.hid (((HW5.out.set (.inr (Nat.le_refl _)) _).set (.inr (Nat.le_refl _)) _).trans hw6); have HR6 := Lib.hid hr6; have HS6 := Lib.hid hs6
  have HX6 := Lib.hid (hw6.blk ((HX5.out.set 4 _).set 5 _) (by omega))
  have hws6 := hw6.size
  clear hw6 hr6 hs6
  try simp only [size_setCell, World.size_alloc] at hws6
  have c6 := HX6.out.cell (j := 6) rfl; have f6 := HX6.out.frozen 6
  have hlx6 := HX6.out.lt
  go_wp2_with fail
  refine (someTry_any (HR6.out.set (by omega) HF0.out _)).mono ?_
  rintro e w7 ⟨cs, x7, st7, he, ⟨a7, p7, rfl, l7, m7, r7⟩, hw7, hr7, hs7⟩
  simp only [mkOne, List.headD_cons] at he
  subst he
  have RA7 := Lib.hid r7
  have LA7 := Lib.hid l7; have MA7 := Lib.hid m7
  obtain ⟨n7, hn7⟩ : ∃ n, n = x7.length := ⟨_, rfl⟩
  rw [← hn7]
  have HN7 := Lib.hid hn7
  clear r7 l7 m7 hn7
  have HW7 := Lib.hid ((HW6.out.set (.inr (Nat.le_refl _)) _).trans hw7); have HR7 := Lib.hid hr7; have HS7 := Lib.hid hs7
  have HX7 := Lib.hid (hw7.blk (HX6.out.set 6 _) (by omega))
  have hws7 := hw7.size
  have T6_7 := Lib.hid (((Two.refl (w.heap.size + 1) w6).set (by omega) _ _).wrote (by omega) hw7)
  clear hw7 hr7 hs7
  try simp only [size_setCell, World.size_alloc] at hws7
  have c7 := HX7.out.cell (j := 7) rfl; have f7 := HX7.out.frozen 7
  have hlx7 := HX7.out.lt
  have c0 := HX7.out.cell (j := 0) rfl; have f0 := HX7.out.frozen 0; have c1 := HX7.out.cell (j := 1) rfl; have f1 := HX7.out.frozen 1; have c2 := HX7.out.cell (j := 2) rfl; have f2 := HX7.out.frozen 2; have c3 := HX7.out.cell (j := 3) rfl; have f3 := HX7.out.frozen 3; have c4 := HX7.out.cell (j := 4) rfl; have f4 := HX7.out.frozen 4; have c5 := HX7.out.cell (j := 5) rfl; have f5 := HX7.out.frozen 5; have c6 := HX7.out.cell (j := 6) rfl; have f6 := HX7.out.frozen 6; have c7 := HX7.out.cell (j := 7) rfl; have f7 := HX7.out.frozen 7
  go_wp2_with fail
  have HY : Hid (Blk (((((((((w7.setCell ⟨w.heap.size, 7, none⟩ (.slice a7 n7 p7)).setCell ⟨w.heap.size, 0, none⟩ (.int .i64 x1)).setCell ⟨w.heap.size, 1, none⟩ (.int .i64 x2)).setCell ⟨w.heap.size, 2, none⟩ (.int .i64 x3)).setCell ⟨w.heap.size, 3, none⟩ (.int .i64 x4)).setCell ⟨w.heap.size, 4, none⟩ (.int .i64 x5.Kind)).setCell ⟨w.heap.size, 5, none⟩ (.int .i64 x5.N)).setCell ⟨w.heap.size, 6, none⟩ (.slice a6 n6 p6)).setCell ⟨w.heap.size, 7, none⟩ (.slice a7 n7 p7)) w.heap.size 207 [.int .i64 x1, .int .i64 x2, .int .i64 x3, .int .i64 x4, .int .i64 x5.Kind, .int .i64 x5.N, .slice a6 n6 p6, .slice a7 n7 p7]) := (((((((((HX7.out.set 7 _).set 0 _).set 1 _).set 2 _).set 3 _).set 4 _).set 5 _).set 6 _).set 7 _)
  (try simp only [Exit.inBlock, Exit.then])
  refine bodyPost_ret (results_cell_row rfl _ _ _ _ _ _ _ rfl HY.out Try.underlying207 rfl rfl) rfl ?_
  have HSS := Lib.hid ((HS1.out.seq pf_num (HS2.out.seq pf_num (HS3.out.seq pf_num (HS4.out.seq pf_num (HS5.out.seq pf_val (HS6.out.seq pf_val.many HS7.out)))))).conv (g := fFrame) (fun p => (⟨p.1, p.2.1, p.2.2.1, p.2.2.2.1, p.2.2.2.2.1, p.2.2.2.2.2.1, p.2.2.2.2.2.2⟩ : Api.Frame)) (fun _ => rfl) (fun y => ⟨(y.Fn, y.At, y.To, y.Gen, y.Self, y.Regs, y.Tries), rfl⟩))
  have RB6 : Hid (Arr (Fresh w (((((((((w7.setCell ⟨w.heap.size, 7, none⟩ (.slice a7 n7 p7)).setCell ⟨w.heap.size, 0, none⟩ (.int .i64 x1)).setCell ⟨w.heap.size, 1, none⟩ (.int .i64 x2)).setCell ⟨w.heap.size, 2, none⟩ (.int .i64 x3)).setCell ⟨w.heap.size, 3, none⟩ (.int .i64 x4)).setCell ⟨w.heap.size, 4, none⟩ (.int .i64 x5.Kind)).setCell ⟨w.heap.size, 5, none⟩ (.int .i64 x5.N)).setCell ⟨w.heap.size, 6, none⟩ (.slice a6 n6 p6)).setCell ⟨w.heap.size, 7, none⟩ (.slice a7 n7 p7))) (((((((((w7.setCell ⟨w.heap.size, 7, none⟩ (.slice a7 n7 p7)).setCell ⟨w.heap.size, 0, none⟩ (.int .i64 x1)).setCell ⟨w.heap.size, 1, none⟩ (.int .i64 x2)).setCell ⟨w.heap.size, 2, none⟩ (.int .i64 x3)).setCell ⟨w.heap.size, 3, none⟩ (.int .i64 x4)).setCell ⟨w.heap.size, 4, none⟩ (.int .i64 x5.Kind)).setCell ⟨w.heap.size, 5, none⟩ (.int .i64 x5.N)).setCell ⟨w.heap.size, 6, none⟩ (.slice a6 n6 p6)).setCell ⟨w.heap.size, 7, none⟩ (.slice a7 n7 p7)) a6 x6) := Lib.hid ((((((((((T6_7.out.set (by omega) _ _).set (by omega) _ _).set (by omega) _ _).set (by omega) _ _).set (by omega) _ _).set (by omega) _ _).set (by omega) _ _).set (by omega) _ _).set (by omega) _ _).arr RA6.out (w0 := w) (by (try simp only [size_setCell, World.size_alloc]); omega) (by (try simp only [size_setCell, World.size_alloc]); omega))
  have RB7 : Hid (Arr (Fresh w (((((((((w7.setCell ⟨w.heap.size, 7, none⟩ (.slice a7 n7 p7)).setCell ⟨w.heap.size, 0, none⟩ (.int .i64 x1)).setCell ⟨w.heap.size, 1, none⟩ (.int .i64 x2)).setCell ⟨w.heap.size, 2, none⟩ (.int .i64 x3)).setCell ⟨w.heap.size, 3, none⟩ (.int .i64 x4)).setCell ⟨w.heap.size, 4, none⟩ (.int .i64 x5.Kind)).setCell ⟨w.heap.size, 5, none⟩ (.int .i64 x5.N)).setCell ⟨w.heap.size, 6, none⟩ (.slice a6 n6 p6)).setCell ⟨w.heap.size, 7, none⟩ (.slice a7 n7 p7))) (((((((((w7.setCell ⟨w.heap.size, 7, none⟩ (.slice a7 n7 p7)).setCell ⟨w.heap.size, 0, none⟩ (.int .i64 x1)).setCell ⟨w.heap.size, 1, none⟩ (.int .i64 x2)).setCell ⟨w.heap.size, 2, none⟩ (.int .i64 x3)).setCell ⟨w.heap.size, 3, none⟩ (.int .i64 x4)).setCell ⟨w.heap.size, 4, none⟩ (.int .i64 x5.Kind)).setCell ⟨w.heap.size, 5, none⟩ (.int .i64 x5.N)).setCell ⟨w.heap.size, 6, none⟩ (.slice a6 n6 p6)).setCell ⟨w.heap.size, 7, none⟩ (.slice a7 n7 p7)) a7 x7) := Lib.hid (((((((((((Two.refl (w.heap.size + 1) w7).set (by omega) _ _).set (by omega) _ _).set (by omega) _ _).set (by omega) _ _).set (by omega) _ _).set (by omega) _ _).set (by omega) _ _).set (by omega) _ _).set (by omega) _ _).arr RA7.out (w0 := w) (by (try simp only [size_setCell, World.size_alloc]); omega) (by (try simp only [size_setCell, World.size_alloc]); omega))
  refine ⟨_, ⟨x1, x2, x3, x4, x5, x6, x7⟩, st7, rfl, ?_, (((((((((HW7.out.set (.inr (Nat.le_refl _)) _).set (.inr (Nat.le_refl _)) _).set (.inr (Nat.le_refl _)) _).set (.inr (Nat.le_refl _)) _).set (.inr (Nat.le_refl _)) _).set (.inr (Nat.le_refl _)) _).set (.inr (Nat.le_refl _)) _).set (.inr (Nat.le_refl _)) _).set (.inr (Nat.le_refl _)) _), (((((((((HR7.out.set (by omega) HF0.out _).set (by omega) HF0.out _).set (by omega) HF0.out _).set (by omega) HF0.out _).set (by omega) HF0.out _).set (by omega) HF0.out _).set (by omega) HF0.out _).set (by omega) HF0.out _).set (by omega) HF0.out _), HSS.out⟩
  exact ⟨_, _, ⟨rfl, i1⟩, ⟨_, _, ⟨rfl, i2⟩, ⟨_, _, ⟨rfl, i3⟩, ⟨_, _, ⟨rfl, i4⟩, ⟨_, _, ⟨_, _, ⟨rfl, i5⟩, ⟨rfl, j5⟩, rfl⟩, ⟨[.slice a6 n6 p6], [.slice a7 n7 p7], ⟨a6, p6, by rw [HN6.out], LA6.out, MA6.out, RB6.out⟩, ⟨a7, p7, by rw [HN7.out], LA7.out, MA7.out, RB7.out⟩, rfl⟩, rfl⟩, rfl⟩, rfl⟩, rfl⟩, rfl⟩
end Go.Proofs.Ytimlhjjdaggiiaa.flat
