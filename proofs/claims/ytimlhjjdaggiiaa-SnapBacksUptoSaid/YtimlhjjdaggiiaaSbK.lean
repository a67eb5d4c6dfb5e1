/- SnapBacks: Back, walked (printed by gen_sb3.py). -/
import Derived.Test.YtimlhjjdaggiiaaSbH
import Derived.Laws.ResultCell
set_option linter.unusedVariables false
set_option linter.unusedSimpArgs false
namespace Go.Proofs.Ytimlhjjdaggiiaa.flat
open Go.Bk Go.RowKit

/-- A state and no error: its flat list is what came in; or none and the error: it is no state's. -/
def BackPost (w : World) (xs : List Int) (e : Ending) (w' : World) : Prop :=
  Below w.heap.size w w' ∧ ((∃ (cs : List Value) (s : Api.State), e = .returned (.tuple #[.agg cs.toArray, .int .i64 0]) ∧ Rep.cells (Fresh w w') w' cs s ∧ xs = fState s) ∨
    (e = .returned (.tuple #[.agg #[.slice none 0 0, .slice none 0 0, .slice none 0 0, .slice none 0 0, .slice none 0 0, .slice none 0 0, .int .i64 0, .int .i64 0], .int .i64 3]) ∧ ∀ s, xs ≠ fState s))
theorem ne_two (w : World) : w.heap.size ≠ w.heap.size + 2 := by omega
theorem results_cell_tmp_row {P : Program} {fn : Func} {p u : Tmp} {ty : TypeId} (h : fn.results = #[.cell p ty, .tmp u]) (tmps : Array Value) (w : World) (g : Nat) (t : TypeId) (cs : Array Value) (fr : Nat × Nat) (d : TypeDesc)
    (hp : tmps.getD p undef = .pointer (some ⟨g, 0, none⟩)) (hg : w.heap[g]? = some (.cells cs t fr))
    (hu : P.underlying ty = some d) (hd : (match d with | .struct _ | .array _ _ => true | _ => false) = true) (hi : (P.info? ty).map (·.size) = some cs.size) :
    (results fn tmps).run P w = .ok (.tuple #[.agg cs, tmps.getD u undef]) w := by
  rw [results_cell_tmp h, hp]
  simp [asAddr, Sem.run_pure, Result.andThen, run_loadVar_row w g t ty cs fr d hg hu hd hi]
theorem pf_state : PF fState := (pf_cell.many.app (pf_shape.many.app (pf_text.many.app (pf_thread.many.app (pf_end.many.app (pf_val.many.app (PF.fixed (f := fun s : Api.State => [s.Asked, s.Steps]) 2 (fun _ => rfl)))))))).map (fun s : Api.State => (s.Cells, s.Shapes, s.Texts, s.Threads, s.Ends, s.Said, s)) |>.of (fun _ => rfl)
theorem Step.fine {xs : List Int} {s : Api.State} (h : Step fState (some xs) s (some [])) : xs = fState s := by
  rcases h with ⟨ys, e, e2⟩ | ⟨e, -⟩
  · injection e2 with e2; injection e with e; rw [e, ← e2, List.append_nil]
  · cases e
theorem Step.bad {xs : List Int} {s : Api.State} {st : Option (List Int)} (h : Step fState (some xs) s st) (hst : st ≠ some []) : ∀ s', xs ≠ fState s' := fun s' he => by
  rcases h with ⟨ys, e, rfl⟩ | ⟨-, h⟩
  · injection e with e
    have h1 := pf_state s' s [] ys (by rw [List.append_nil, ← he, e])
    exact hst (by rw [← h1.2])
  · exact h s' [] (by rw [he, List.append_nil])

set_option maxRecDepth 100000 in
set_option maxHeartbeats 1000000 in
theorem back_any {S : Nat → Prop} {w : World} {a0 : Option Addr} {n0 c0 : Nat} {xs : List Int} (hS : ∀ b, S b → b < w.heap.size) (h : Arr S w a0 xs) (hn : xs.length = n0) (hc : n0 ≤ c0) (hl : n0 ≤ 1000000000) :
    Calls Try.prog 48 #[.slice a0 n0 c0] w (BackPost w xs) := by
  obtain ⟨wA, hwA⟩ : ∃ wA, wA = ((w.alloc (.cells #[.slice none 0 0, .slice none 0 0, .slice none 0 0, .slice none 0 0, .slice none 0 0, .slice none 0 0, .int .i64 0, .int .i64 0] 36)).alloc (.cells #[.slice a0 n0 c0, .bool false] 179)).alloc (.cells #[.slice none 0 0, .slice none 0 0, .slice none 0 0, .slice none 0 0, .slice none 0 0, .slice none 0 0, .int .i64 0, .int .i64 0] 36) := ⟨_, rfl⟩
  have hs3 : wA.heap.size = w.heap.size + 3 := by rw [hwA]; simp
  have hbz0 := blk_new w [.slice none 0 0, .slice none 0 0, .slice none 0 0, .slice none 0 0, .slice none 0 0, .slice none 0 0, .int .i64 0, .int .i64 0] 36
  have hb0 := blk_new (w.alloc (.cells #[.slice none 0 0, .slice none 0 0, .slice none 0 0, .slice none 0 0, .slice none 0 0, .slice none 0 0, .int .i64 0, .int .i64 0] 36)) [.slice a0 n0 c0, .bool false] 179
  have hbx0 := blk_new ((w.alloc (.cells #[.slice none 0 0, .slice none 0 0, .slice none 0 0, .slice none 0 0, .slice none 0 0, .slice none 0 0, .int .i64 0, .int .i64 0] 36)).alloc (.cells #[.slice a0 n0 c0, .bool false] 179)) [.slice none 0 0, .slice none 0 0, .slice none 0 0, .slice none 0 0, .slice none 0 0, .slice none 0 0, .int .i64 0, .int .i64 0] 36
  have HX0 : Hid (Blk wA (w.heap.size + 2) 36 [.slice none 0 0, .slice none 0 0, .slice none 0 0, .slice none 0 0, .slice none 0 0, .slice none 0 0, .int .i64 0, .int .i64 0]) := by rw [hwA]; rw [World.size_alloc, World.size_alloc] at hbx0; exact hbx0
  have HB0 : Hid (Blk wA (w.heap.size + 1) 179 [.slice a0 n0 c0, .bool false]) := by rw [hwA]; rw [World.size_alloc] at hb0; exact hb0.keep (Below.heap_alloc _ _ _ hb0.lt)
  have HZ0 : Hid (Blk wA w.heap.size 36 [.slice none 0 0, .slice none 0 0, .slice none 0 0, .slice none 0 0, .slice none 0 0, .slice none 0 0, .int .i64 0, .int .i64 0]) := by rw [hwA]; exact (hbz0.keep (Below.heap_alloc _ _ _ hbz0.lt)).keep (Below.heap_alloc _ _ _ (by rw [World.size_alloc, World.size_alloc]; omega))
  have HW0 : Hid (Wrote (w.heap.size + 1) w wA) := by rw [hwA]; exact ((Wrote.alloc _ _ _).trans (Wrote.alloc _ _ _)).trans (Wrote.alloc _ _ _)
  have HR0 : Hid (Rdr S wA (w.heap.size + 1) (some xs)) := ⟨⟨a0, n0, c0, HB0.out, fun ys hy => by injection hy with hy; subst hy; exact ⟨hn, hc, h.small, hl, HW0.out.arr h (fun b hb => ⟨hS b hb, by have := hS b hb; omega⟩)⟩⟩, fun b hb => ⟨by have := hS b hb; omega, by have := hS b hb; omega⟩⟩
  have HF0 : Hid (¬ S (w.heap.size + 2)) := fun hs => by have := hS _ hs; omega
  have HS0 := Lib.hid hS
  clear hbz0 hb0 hbx0 h hS hn
  go_enter Try.func48, Try.ntmps48
  go_wp2_with fail
  rw [← hwA]
  clear hwA
  refine (someCell_any HR0.out).mono ?_
  rintro e w1 ⟨cs, x1, st1, he, ⟨a1, p1, rfl, l1, m1, r1⟩, hw1, hr1, hs1⟩
  simp only [mkOne, List.headD_cons] at he
  subst he
  have RA1 := Lib.hid r1
  have LA1 := Lib.hid l1; have MA1 := Lib.hid m1
  obtain ⟨n1, hn1⟩ : ∃ n, n = x1.length := ⟨_, rfl⟩
  rw [← hn1]
  have HN1 := Lib.hid hn1
  clear r1 l1 m1 hn1
  have HW1 := Lib.hid (HW0.out.trans hw1); have HR1 := Lib.hid hr1; have HS1 := Lib.hid hs1
  have HX1 := Lib.hid (hw1.blk HX0.out (by omega))
  have HZ1 := Lib.hid (hw1.blk HZ0.out (by omega))
  have hws1 := hw1.size
  clear hw1 hr1 hs1
  try simp only [size_setCell, World.size_alloc] at hws1
  have c0 := HX1.out.cell (j := 0) rfl; have f0 := HX1.out.frozen 0
  have hlx1 := HX1.out.lt
  go_wp2_with fail
  refine (someShape_any (HR1.out.set (by omega) HF0.out _)).mono ?_
  rintro e w2 ⟨cs, x2, st2, he, ⟨a2, p2, rfl, l2, m2, r2⟩, hw2, hr2, hs2⟩
  simp only [mkOne, List.headD_cons] at he
  subst he
  have RA2 := Lib.hid r2
  have LA2 := Lib.hid l2; have MA2 := Lib.hid m2
  obtain ⟨n2, hn2⟩ : ∃ n, n = x2.length := ⟨_, rfl⟩
  rw [← hn2]
  have HN2 := Lib.hid hn2
  clear r2 l2 m2 hn2
  have HW2 := Lib.hid ((HW1.out.set (.inr (Nat.le_add_right _ _)) _).trans hw2); have HR2 := Lib.hid hr2; have HS2 := Lib.hid hs2
  have HX2 := Lib.hid (hw2.blk (HX1.out.set 0 _) (by omega))
  have HZ2 := Lib.hid (hw2.blk (HZ1.out.keep (blk_setCell_other _ _ _ (ne_two w))) (by omega))
  have hws2 := hw2.size
  have T1_2 := Lib.hid (((Two.refl (w.heap.size + 3) w1).set (by omega) _ _).wrote (by omega) hw2)
  clear hw2 hr2 hs2
  try simp only [size_setCell, World.size_alloc] at hws2
  have c1 := HX2.out.cell (j := 1) rfl; have f1 := HX2.out.frozen 1
  have hlx2 := HX2.out.lt
  go_wp2_with fail
  refine (someText_any (HR2.out.set (by omega) HF0.out _)).mono ?_
  rintro e w3 ⟨cs, x3, st3, he, ⟨a3, p3, rfl, l3, m3, r3⟩, hw3, hr3, hs3⟩
  simp only [mkOne, List.headD_cons] at he
  subst he
  have RA3 := Lib.hid r3
  have LA3 := Lib.hid l3; have MA3 := Lib.hid m3
  obtain ⟨n3, hn3⟩ : ∃ n, n = x3.length := ⟨_, rfl⟩
  rw [← hn3]
  have HN3 := Lib.hid hn3
  clear r3 l3 m3 hn3
  have HW3 := Lib.hid ((HW2.out.set (.inr (Nat.le_add_right _ _)) _).trans hw3); have HR3 := Lib.hid hr3; have HS3 := Lib.hid hs3
  have HX3 := Lib.hid (hw3.blk (HX2.out.set 1 _) (by omega))
  have HZ3 := Lib.hid (hw3.blk (HZ2.out.keep (blk_setCell_other _ _ _ (ne_two w))) (by omega))
  have hws3 := hw3.size
  have T1_3 := Lib.hid ((T1_2.out.set (by omega) _ _).wrote (by omega) hw3)
  have T2_3 := Lib.hid (((Two.refl (w.heap.size + 3) w2).set (by omega) _ _).wrote (by omega) hw3)
  clear hw3 hr3 hs3
  try simp only [size_setCell, World.size_alloc] at hws3
  have c2 := HX3.out.cell (j := 2) rfl; have f2 := HX3.out.frozen 2
  have hlx3 := HX3.out.lt
  go_wp2_with fail
  refine (someThread_any (HR3.out.set (by omega) HF0.out _)).mono ?_
  rintro e w4 ⟨cs, x4, st4, he, ⟨a4, p4, rfl, l4, m4, r4⟩, hw4, hr4, hs4⟩
  simp only [mkOne, List.headD_cons] at he
  subst he
  have RA4 := Lib.hid r4
  have LA4 := Lib.hid l4; have MA4 := Lib.hid m4
  obtain ⟨n4, hn4⟩ : ∃ n, n = x4.length := ⟨_, rfl⟩
  rw [← hn4]
  have HN4 := Lib.hid hn4
  clear r4 l4 m4 hn4
  have HW4 := Lib.hid ((HW3.out.set (.inr (Nat.le_add_right _ _)) _).trans hw4); have HR4 := Lib.hid hr4; have HS4 := Lib.hid hs4
  have HX4 := Lib.hid (hw4.blk (HX3.out.set 2 _) (by omega))
  have HZ4 := Lib.hid (hw4.blk (HZ3.out.keep (blk_setCell_other _ _ _ (ne_two w))) (by omega))
  have hws4 := hw4.size
  have T1_4 := Lib.hid ((T1_3.out.set (by omega) _ _).wrote (by omega) hw4)
  have T2_4 := Lib.hid ((T2_3.out.set (by omega) _ _).wrote (by omega) hw4)
  have T3_4 := Lib.hid (((Two.refl (w.heap.size + 3) w3).set (by omega) _ _).wrote (by omega) hw4)
  clear hw4 hr4 hs4
  try simp only [size_setCell, World.size_alloc] at hws4
  have c3 := HX4.out.cell (j := 3) rfl; have f3 := HX4.out.frozen 3
  have hlx4 := HX4.out.lt
  go_wp2_with fail
  refine (someEnd_any (HR4.out.set (by omega) HF0.out _)).mono ?_
  rintro e w5 ⟨cs, x5, st5, he, ⟨a5, p5, rfl, l5, m5, r5⟩, hw5, hr5, hs5⟩
  simp only [mkOne, List.headD_cons] at he
  subst he
  have RA5 := Lib.hid r5
  have LA5 := Lib.hid l5; have MA5 := Lib.hid m5
  obtain ⟨n5, hn5⟩ : ∃ n, n = x5.length := ⟨_, rfl⟩
  rw [← hn5]
  have HN5 := Lib.hid hn5
  clear r5 l5 m5 hn5
  have HW5 := Lib.hid ((HW4.out.set (.inr (Nat.le_add_right _ _)) _).trans hw5); have HR5 := Lib.hid hr5; have HS5 := Lib.hid hs5
  have HX5 := Lib.hid (hw5.blk (HX4.out.set 3 _) (by omega))
  have HZ5 := Lib.hid (hw5.blk (HZ4.out.keep (blk_setCell_other _ _ _ (ne_two w))) (by omega))
  have hws5 := hw5.size
  have T1_5 := Lib.hid ((T1_4.out.set (by omega) _ _).wrote (by omega) hw5)
  have T2_5 := Lib.hid ((T2_4.out.set (by omega) _ _).wrote (by omega) hw5)
  have T3_5 := Lib.hid ((T3_4.out.set (by omega) _ _).wrote (by omega) hw5)
  have T4_5 := Lib.hid (((Two.refl (w.heap.size + 3) w4).set (by omega) _ _).wrote (by omega) hw5)
  clear hw5 hr5 hs5
  try simp only [size_setCell, World.size_alloc] at hws5
  have c4 := HX5.out.cell (j := 4) rfl; have f4 := HX5.out.frozen 4
  have hlx5 := HX5.out.lt
  go_wp2_with fail
  refine (someVal_any (HR5.out.set (by omega) HF0.out _)).mono ?_
  rintro e w6 ⟨cs, x6, st6, he, ⟨a6, p6, rfl, l6, m6, r6⟩, hw6, hr6, hs6⟩
  simp only [mkOne, List.headD_cons] at he
  subst he
  have RA6 := Lib.hid r6
  have LA6 := Lib.hid l6; have MA6 := Lib.hid m6
  obtain ⟨n6, hn6⟩ : ∃ n, n = x6.length := ⟨_, rfl⟩
  rw [← hn6]
  have HN6 := Lib.hid hn6
  clear r6 l6 m6 hn6
  have HW6 := Lib.hid ((HW5.out.set (.inr (Nat.le_add_right _ _)) _).trans hw6); have HR6 := Lib.hid hr6; have HS6 := Lib.hid hs6
  have HX6 := Lib.hid (hw6.blk (HX5.out.set 4 _) (by omega))
  have HZ6 := Lib.hid (hw6.blk (HZ5.out.keep (blk_setCell_other _ _ _ (ne_two w))) (by omega))
  have hws6 := hw6.size
  have T1_6 := Lib.hid ((T1_5.out.set (by omega) _ _).wrote (by omega) hw6)
  have T2_6 := Lib.hid ((T2_5.out.set (by omega) _ _).wrote (by omega) hw6)
  have T3_6 := Lib.hid ((T3_5.out.set (by omega) _ _).wrote (by omega) hw6)
  have T4_6 := Lib.hid ((T4_5.out.set (by omega) _ _).wrote (by omega) hw6)
  have T5_6 := Lib.hid (((Two.refl (w.heap.size + 3) w5).set (by omega) _ _).wrote (by omega) hw6)
  clear hw6 hr6 hs6
  try simp only [size_setCell, World.size_alloc] at hws6
  have c5 := HX6.out.cell (j := 5) rfl; have f5 := HX6.out.frozen 5
  have hlx6 := HX6.out.lt
  go_wp2_with fail
  refine (num_any (HR6.out.set (by omega) HF0.out _)).mono ?_
  rintro e w7 ⟨x7, st7, rfl, i7, hw7, hr7, hs7, -⟩
  have HW7 := Lib.hid ((HW6.out.set (.inr (Nat.le_add_right _ _)) _).trans hw7); have HR7 := Lib.hid hr7; have HS7 := Lib.hid hs7
  have HX7 := Lib.hid (hw7.blk (HX6.out.set 5 _) (by omega))
  have HZ7 := Lib.hid (hw7.blk (HZ6.out.keep (blk_setCell_other _ _ _ (ne_two w))) (by omega))
  have hws7 := hw7.size
  have T1_7 := Lib.hid ((T1_6.out.set (by omega) _ _).wrote (by omega) hw7)
  have T2_7 := Lib.hid ((T2_6.out.set (by omega) _ _).wrote (by omega) hw7)
  have T3_7 := Lib.hid ((T3_6.out.set (by omega) _ _).wrote (by omega) hw7)
  have T4_7 := Lib.hid ((T4_6.out.set (by omega) _ _).wrote (by omega) hw7)
  have T5_7 := Lib.hid ((T5_6.out.set (by omega) _ _).wrote (by omega) hw7)
  have T6_7 := Lib.hid (((Two.refl (w.heap.size + 3) w6).set (by omega) _ _).wrote (by omega) hw7)
  clear hw7 hr7 hs7
  try simp only [size_setCell, World.size_alloc] at hws7
  go_wp2_with fail
  refine (num_any HR7.out).mono ?_
  rintro e w8 ⟨x8, st8, rfl, i8, hw8, hr8, hs8, -⟩
  have HW8 := Lib.hid (HW7.out.trans hw8); have HR8 := Lib.hid hr8; have HS8 := Lib.hid hs8
  have HX8 := Lib.hid (hw8.blk HX7.out (by omega))
  have HZ8 := Lib.hid (hw8.blk HZ7.out (by omega))
  have hws8 := hw8.size
  have T1_8 := Lib.hid (T1_7.out.wrote (by omega) hw8)
  have T2_8 := Lib.hid (T2_7.out.wrote (by omega) hw8)
  have T3_8 := Lib.hid (T3_7.out.wrote (by omega) hw8)
  have T4_8 := Lib.hid (T4_7.out.wrote (by omega) hw8)
  have T5_8 := Lib.hid (T5_7.out.wrote (by omega) hw8)
  have T6_8 := Lib.hid (T6_7.out.wrote (by omega) hw8)
  clear hw8 hr8 hs8
  try simp only [size_setCell, World.size_alloc] at hws8
  have c6 := HX8.out.cell (j := 6) rfl; have f6 := HX8.out.frozen 6; have c7 := HX8.out.cell (j := 7) rfl; have f7 := HX8.out.frozen 7
  have hlx8 := HX8.out.lt
  have c0 := HX8.out.cell (j := 0) rfl; have f0 := HX8.out.frozen 0; have d0 := HZ8.out.cell (j := 0) rfl; have g0 := HZ8.out.frozen 0; have c1 := HX8.out.cell (j := 1) rfl; have f1 := HX8.out.frozen 1; have d1 := HZ8.out.cell (j := 1) rfl; have g1 := HZ8.out.frozen 1; have c2 := HX8.out.cell (j := 2) rfl; have f2 := HX8.out.frozen 2; have d2 := HZ8.out.cell (j := 2) rfl; have g2 := HZ8.out.frozen 2; have c3 := HX8.out.cell (j := 3) rfl; have f3 := HX8.out.frozen 3; have d3 := HZ8.out.cell (j := 3) rfl; have g3 := HZ8.out.frozen 3; have c4 := HX8.out.cell (j := 4) rfl; have f4 := HX8.out.frozen 4; have d4 := HZ8.out.cell (j := 4) rfl; have g4 := HZ8.out.frozen 4; have c5 := HX8.out.cell (j := 5) rfl; have f5 := HX8.out.frozen 5; have d5 := HZ8.out.cell (j := 5) rfl; have g5 := HZ8.out.frozen 5; have c6 := HX8.out.cell (j := 6) rfl; have f6 := HX8.out.frozen 6; have d6 := HZ8.out.cell (j := 6) rfl; have g6 := HZ8.out.frozen 6; have c7 := HX8.out.cell (j := 7) rfl; have f7 := HX8.out.frozen 7; have d7 := HZ8.out.cell (j := 7) rfl; have g7 := HZ8.out.frozen 7
  have HSS := Lib.hid ((HS1.out.seq pf_cell.many (HS2.out.seq pf_shape.many (HS3.out.seq pf_text.many (HS4.out.seq pf_thread.many (HS5.out.seq pf_end.many (HS6.out.seq pf_val.many (HS7.out.seq pf_num HS8.out))))))).conv (g := fState) (fun p => (⟨p.1, p.2.1, p.2.2.1, p.2.2.2.1, p.2.2.2.2.1, p.2.2.2.2.2.1, p.2.2.2.2.2.2.1, p.2.2.2.2.2.2.2⟩ : Api.State)) (fun _ => rfl) (fun y => ⟨(y.Cells, y.Shapes, y.Texts, y.Threads, y.Ends, y.Said, y.Asked, y.Steps), rfl⟩))
  obtain ⟨aq, nq, cq, hbq, hkq⟩ := HR8.out.at'
  have q0 := hbq.cell (j := 0) rfl; have q1 := hbq.cell (j := 1) rfl
  have HK := Lib.hid (fun ys hy => (hkq ys hy).1)
  clear hbq hkq
  cases st8 with
  | none =>
    simp only [Option.isNone_none] at q1
    go_wp2_with fail
    have HY : Hid (Blk ((((((((((w8.setCell ⟨(w.heap.size + 2), 6, none⟩ (.int .i64 x7)).setCell ⟨(w.heap.size + 2), 7, none⟩ (.int .i64 x8)).setCell ⟨w.heap.size, 0, none⟩ (.slice none 0 0)).setCell ⟨w.heap.size, 1, none⟩ (.slice none 0 0)).setCell ⟨w.heap.size, 2, none⟩ (.slice none 0 0)).setCell ⟨w.heap.size, 3, none⟩ (.slice none 0 0)).setCell ⟨w.heap.size, 4, none⟩ (.slice none 0 0)).setCell ⟨w.heap.size, 5, none⟩ (.slice none 0 0)).setCell ⟨w.heap.size, 6, none⟩ (.int .i64 0)).setCell ⟨w.heap.size, 7, none⟩ (.int .i64 0)) w.heap.size 36 [.slice none 0 0, .slice none 0 0, .slice none 0 0, .slice none 0 0, .slice none 0 0, .slice none 0 0, .int .i64 0, .int .i64 0]) := ((((((((((HZ8.out.keep (blk_setCell_other _ _ _ (ne_two w))).keep (blk_setCell_other _ _ _ (ne_two w))).set 0 _).set 1 _).set 2 _).set 3 _).set 4 _).set 5 _).set 6 _).set 7 _)
    have HWF : Hid (Wrote (w.heap.size + 1) w ((((((((((w8.setCell ⟨(w.heap.size + 2), 6, none⟩ (.int .i64 x7)).setCell ⟨(w.heap.size + 2), 7, none⟩ (.int .i64 x8)).setCell ⟨w.heap.size, 0, none⟩ (.slice none 0 0)).setCell ⟨w.heap.size, 1, none⟩ (.slice none 0 0)).setCell ⟨w.heap.size, 2, none⟩ (.slice none 0 0)).setCell ⟨w.heap.size, 3, none⟩ (.slice none 0 0)).setCell ⟨w.heap.size, 4, none⟩ (.slice none 0 0)).setCell ⟨w.heap.size, 5, none⟩ (.slice none 0 0)).setCell ⟨w.heap.size, 6, none⟩ (.int .i64 0)).setCell ⟨w.heap.size, 7, none⟩ (.int .i64 0))) := ((((((((((HW8.out.set (.inr (Nat.le_add_right _ _)) _).set (.inr (Nat.le_add_right _ _)) _).set (.inr (Nat.le_refl _)) _).set (.inr (Nat.le_refl _)) _).set (.inr (Nat.le_refl _)) _).set (.inr (Nat.le_refl _)) _).set (.inr (Nat.le_refl _)) _).set (.inr (Nat.le_refl _)) _).set (.inr (Nat.le_refl _)) _).set (.inr (Nat.le_refl _)) _)
    (try simp only [Exit.inBlock, Exit.then])
    refine bodyPost_ret (results_cell_tmp_row rfl _ _ _ _ _ _ _ rfl HY.out Try.underlying36 rfl rfl) rfl ?_
    exact ⟨HWF.out.below (Nat.le_succ _) (Nat.le_refl _), .inr ⟨rfl, (HSS.out.bad (by simp))⟩⟩
  | some ys =>
    simp only [Option.isNone_some] at q1
    have hk := HK.out ys rfl
    cases ys with
    | nil =>
      obtain rfl : nq = 0 := by simpa using hk.symm
      go_wp2_with fail
      have HY : Hid (Blk ((((((((((w8.setCell ⟨(w.heap.size + 2), 6, none⟩ (.int .i64 x7)).setCell ⟨(w.heap.size + 2), 7, none⟩ (.int .i64 x8)).setCell ⟨w.heap.size, 0, none⟩ (.slice a1 n1 p1)).setCell ⟨w.heap.size, 1, none⟩ (.slice a2 n2 p2)).setCell ⟨w.heap.size, 2, none⟩ (.slice a3 n3 p3)).setCell ⟨w.heap.size, 3, none⟩ (.slice a4 n4 p4)).setCell ⟨w.heap.size, 4, none⟩ (.slice a5 n5 p5)).setCell ⟨w.heap.size, 5, none⟩ (.slice a6 n6 p6)).setCell ⟨w.heap.size, 6, none⟩ (.int .i64 x7)).setCell ⟨w.heap.size, 7, none⟩ (.int .i64 x8)) w.heap.size 36 [.slice a1 n1 p1, .slice a2 n2 p2, .slice a3 n3 p3, .slice a4 n4 p4, .slice a5 n5 p5, .slice a6 n6 p6, .int .i64 x7, .int .i64 x8]) := ((((((((((HZ8.out.keep (blk_setCell_other _ _ _ (ne_two w))).keep (blk_setCell_other _ _ _ (ne_two w))).set 0 _).set 1 _).set 2 _).set 3 _).set 4 _).set 5 _).set 6 _).set 7 _)
      have HWF : Hid (Wrote (w.heap.size + 1) w ((((((((((w8.setCell ⟨(w.heap.size + 2), 6, none⟩ (.int .i64 x7)).setCell ⟨(w.heap.size + 2), 7, none⟩ (.int .i64 x8)).setCell ⟨w.heap.size, 0, none⟩ (.slice a1 n1 p1)).setCell ⟨w.heap.size, 1, none⟩ (.slice a2 n2 p2)).setCell ⟨w.heap.size, 2, none⟩ (.slice a3 n3 p3)).setCell ⟨w.heap.size, 3, none⟩ (.slice a4 n4 p4)).setCell ⟨w.heap.size, 4, none⟩ (.slice a5 n5 p5)).setCell ⟨w.heap.size, 5, none⟩ (.slice a6 n6 p6)).setCell ⟨w.heap.size, 6, none⟩ (.int .i64 x7)).setCell ⟨w.heap.size, 7, none⟩ (.int .i64 x8))) := ((((((((((HW8.out.set (.inr (Nat.le_add_right _ _)) _).set (.inr (Nat.le_add_right _ _)) _).set (.inr (Nat.le_refl _)) _).set (.inr (Nat.le_refl _)) _).set (.inr (Nat.le_refl _)) _).set (.inr (Nat.le_refl _)) _).set (.inr (Nat.le_refl _)) _).set (.inr (Nat.le_refl _)) _).set (.inr (Nat.le_refl _)) _).set (.inr (Nat.le_refl _)) _)
      (try simp only [Exit.inBlock, Exit.then])
      refine bodyPost_ret (results_cell_tmp_row rfl _ _ _ _ _ _ _ rfl HY.out Try.underlying36 rfl rfl) rfl ?_
      have RB1 : Hid (Arr (Fresh w ((((((((((w8.setCell ⟨(w.heap.size + 2), 6, none⟩ (.int .i64 x7)).setCell ⟨(w.heap.size + 2), 7, none⟩ (.int .i64 x8)).setCell ⟨w.heap.size, 0, none⟩ (.slice a1 n1 p1)).setCell ⟨w.heap.size, 1, none⟩ (.slice a2 n2 p2)).setCell ⟨w.heap.size, 2, none⟩ (.slice a3 n3 p3)).setCell ⟨w.heap.size, 3, none⟩ (.slice a4 n4 p4)).setCell ⟨w.heap.size, 4, none⟩ (.slice a5 n5 p5)).setCell ⟨w.heap.size, 5, none⟩ (.slice a6 n6 p6)).setCell ⟨w.heap.size, 6, none⟩ (.int .i64 x7)).setCell ⟨w.heap.size, 7, none⟩ (.int .i64 x8))) ((((((((((w8.setCell ⟨(w.heap.size + 2), 6, none⟩ (.int .i64 x7)).setCell ⟨(w.heap.size + 2), 7, none⟩ (.int .i64 x8)).setCell ⟨w.heap.size, 0, none⟩ (.slice a1 n1 p1)).setCell ⟨w.heap.size, 1, none⟩ (.slice a2 n2 p2)).setCell ⟨w.heap.size, 2, none⟩ (.slice a3 n3 p3)).setCell ⟨w.heap.size, 3, none⟩ (.slice a4 n4 p4)).setCell ⟨w.heap.size, 4, none⟩ (.slice a5 n5 p5)).setCell ⟨w.heap.size, 5, none⟩ (.slice a6 n6 p6)).setCell ⟨w.heap.size, 6, none⟩ (.int .i64 x7)).setCell ⟨w.heap.size, 7, none⟩ (.int .i64 x8)) a1 x1) := Lib.hid (((((((((((T1_8.out.set (by omega) _ _).set (by omega) _ _).set (by omega) _ _).set (by omega) _ _).set (by omega) _ _).set (by omega) _ _).set (by omega) _ _).set (by omega) _ _).set (by omega) _ _).set (by omega) _ _).arr RA1.out (w0 := w) (by (try simp only [size_setCell, World.size_alloc]); omega) (by (try simp only [size_setCell, World.size_alloc]); omega))
      have RB2 : Hid (Arr (Fresh w ((((((((((w8.setCell ⟨(w.heap.size + 2), 6, none⟩ (.int .i64 x7)).setCell ⟨(w.heap.size + 2), 7, none⟩ (.int .i64 x8)).setCell ⟨w.heap.size, 0, none⟩ (.slice a1 n1 p1)).setCell ⟨w.heap.size, 1, none⟩ (.slice a2 n2 p2)).setCell ⟨w.heap.size, 2, none⟩ (.slice a3 n3 p3)).setCell ⟨w.heap.size, 3, none⟩ (.slice a4 n4 p4)).setCell ⟨w.heap.size, 4, none⟩ (.slice a5 n5 p5)).setCell ⟨w.heap.size, 5, none⟩ (.slice a6 n6 p6)).setCell ⟨w.heap.size, 6, none⟩ (.int .i64 x7)).setCell ⟨w.heap.size, 7, none⟩ (.int .i64 x8))) ((((((((((w8.setCell ⟨(w.heap.size + 2), 6, none⟩ (.int .i64 x7)).setCell ⟨(w.heap.size + 2), 7, none⟩ (.int .i64 x8)).setCell ⟨w.heap.size, 0, none⟩ (.slice a1 n1 p1)).setCell ⟨w.heap.size, 1, none⟩ (.slice a2 n2 p2)).setCell ⟨w.heap.size, 2, none⟩ (.slice a3 n3 p3)).setCell ⟨w.heap.size, 3, none⟩ (.slice a4 n4 p4)).setCell ⟨w.heap.size, 4, none⟩ (.slice a5 n5 p5)).setCell ⟨w.heap.size, 5, none⟩ (.slice a6 n6 p6)).setCell ⟨w.heap.size, 6, none⟩ (.int .i64 x7)).setCell ⟨w.heap.size, 7, none⟩ (.int .i64 x8)) a2 x2) := Lib.hid (((((((((((T2_8.out.set (by omega) _ _).set (by omega) _ _).set (by omega) _ _).set (by omega) _ _).set (by omega) _ _).set (by omega) _ _).set (by omega) _ _).set (by omega) _ _).set (by omega) _ _).set (by omega) _ _).arr RA2.out (w0 := w) (by (try simp only [size_setCell, World.size_alloc]); omega) (by (try simp only [size_setCell, World.size_alloc]); omega))
      have RB3 : Hid (Arr (Fresh w ((((((((((w8.setCell ⟨(w.heap.size + 2), 6, none⟩ (.int .i64 x7)).setCell ⟨(w.heap.size + 2), 7, none⟩ (.int .i64 x8)).setCell ⟨w.heap.size, 0, none⟩ (.slice a1 n1 p1)).setCell ⟨w.heap.size, 1, none⟩ (.slice a2 n2 p2)).setCell ⟨w.heap.size, 2, none⟩ (.slice a3 n3 p3)).setCell ⟨w.heap.size, 3, none⟩ (.slice a4 n4 p4)).setCell ⟨w.heap.size, 4, none⟩ (.slice a5 n5 p5)).setCell ⟨w.heap.size, 5, none⟩ (.slice a6 n6 p6)).setCell ⟨w.heap.size, 6, none⟩ (.int .i64 x7)).setCell ⟨w.heap.size, 7, none⟩ (.int .i64 x8))) ((((((((((w8.setCell ⟨(w.heap.size + 2), 6, none⟩ (.int .i64 x7)).setCell ⟨(w.heap.size + 2), 7, none⟩ (.int .i64 x8)).setCell ⟨w.heap.size, 0, none⟩ (.slice a1 n1 p1)).setCell ⟨w.heap.size, 1, none⟩ (.slice a2 n2 p2)).setCell ⟨w.heap.size, 2, none⟩ (.slice a3 n3 p3)).setCell ⟨w.heap.size, 3, none⟩ (.slice a4 n4 p4)).setCell ⟨w.heap.size, 4, none⟩ (.slice a5 n5 p5)).setCell ⟨w.heap.size, 5, none⟩ (.slice a6 n6 p6)).setCell ⟨w.heap.size, 6, none⟩ (.int .i64 x7)).setCell ⟨w.heap.size, 7, none⟩ (.int .i64 x8)) a3 x3) := Lib.hid (((((((((((T3_8.out.set (by omega) _ _).set (by omega) _ _).set (by omega) _ _).set (by omega) _ _).set (by omega) _ _).set (by omega) _ _).set (by omega) _ _).set (by omega) _ _).set (by omega) _ _).set (by omega) _ _).arr RA3.out (w0 := w) (by (try simp only [size_setCell, World.size_alloc]); omega) (by (try simp only [size_setCell, World.size_alloc]); omega))
      have RB4 : Hid (Arr (Fresh w ((((((((((w8.setCell ⟨(w.heap.size + 2), 6, none⟩ (.int .i64 x7)).setCell ⟨(w.heap.size + 2), 7, none⟩ (.int .i64 x8)).setCell ⟨w.heap.size, 0, none⟩ (.slice a1 n1 p1)).setCell ⟨w.heap.size, 1, none⟩ (.slice a2 n2 p2)).setCell ⟨w.heap.size, 2, none⟩ (.slice a3 n3 p3)).setCell ⟨w.heap.size, 3, none⟩ (.slice a4 n4 p4)).setCell ⟨w.heap.size, 4, none⟩ (.slice a5 n5 p5)).setCell ⟨w.heap.size, 5, none⟩ (.slice a6 n6 p6)).setCell ⟨w.heap.size, 6, none⟩ (.int .i64 x7)).setCell ⟨w.heap.size, 7, none⟩ (.int .i64 x8))) ((((((((((w8.setCell ⟨(w.heap.size + 2), 6, none⟩ (.int .i64 x7)).setCell ⟨(w.heap.size + 2), 7, none⟩ (.int .i64 x8)).setCell ⟨w.heap.size, 0, none⟩ (.slice a1 n1 p1)).setCell ⟨w.heap.size, 1, none⟩ (.slice a2 n2 p2)).setCell ⟨w.heap.size, 2, none⟩ (.slice a3 n3 p3)).setCell ⟨w.heap.size, 3, none⟩ (.slice a4 n4 p4)).setCell ⟨w.heap.size, 4, none⟩ (.slice a5 n5 p5)).setCell ⟨w.heap.size, 5, none⟩ (.slice a6 n6 p6)).setCell ⟨w.heap.size, 6, none⟩ (.int .i64 x7)).setCell ⟨w.heap.size, 7, none⟩ (.int .i64 x8)) a4 x4) := Lib.hid (((((((((((T4_8.out.set (by omega) _ _).set (by omega) _ _).set (by omega) _ _).set (by omega) _ _).set (by omega) _ _).set (by omega) _ _).set (by omega) _ _).set (by omega) _ _).set (by omega) _ _).set (by omega) _ _).arr RA4.out (w0 := w) (by (try simp only [size_setCell, World.size_alloc]); omega) (by (try simp only [size_setCell, World.size_alloc]); omega))
      have RB5 : Hid (Arr (Fresh w ((((((((((w8.setCell ⟨(w.heap.size + 2), 6, none⟩ (.int .i64 x7)).setCell ⟨(w.heap.size + 2), 7, none⟩ (.int .i64 x8)).setCell ⟨w.heap.size, 0, none⟩ (.slice a1 n1 p1)).setCell ⟨w.heap.size, 1, none⟩ (.slice a2 n2 p2)).setCell ⟨w.heap.size, 2, none⟩ (.slice a3 n3 p3)).setCell ⟨w.heap.size, 3, none⟩ (.slice a4 n4 p4)).setCell ⟨w.heap.size, 4, none⟩ (.slice a5 n5 p5)).setCell ⟨w.heap.size, 5, none⟩ (.slice a6 n6 p6)).setCell ⟨w.heap.size, 6, none⟩ (.int .i64 x7)).setCell ⟨w.heap.size, 7, none⟩ (.int .i64 x8))) ((((((((((w8.setCell ⟨(w.heap.size + 2), 6, none⟩ (.int .i64 x7)).setCell ⟨(w.heap.size + 2), 7, none⟩ (.int .i64 x8)).setCell ⟨w.heap.size, 0, none⟩ (.slice a1 n1 p1)).setCell ⟨w.heap.size, 1, none⟩ (.slice a2 n2 p2)).setCell ⟨w.heap.size, 2, none⟩ (.slice a3 n3 p3)).setCell ⟨w.heap.size, 3, none⟩ (.slice a4 n4 p4)).setCell ⟨w.heap.size, 4, none⟩ (.slice a5 n5 p5)).setCell ⟨w.heap.size, 5, none⟩ (.slice a6 n6 p6)).setCell ⟨w.heap.size, 6, none⟩ (.int .i64 x7)).setCell ⟨w.heap.size, 7, none⟩ (.int .i64 x8)) a5 x5) := Lib.hid (((((((((((T5_8.out.set (by omega) _ _).set (by omega) _ _).set (by omega) _ _).set (by omega) _ _).set (by omega) _ _).set (by omega) _ _).set (by omega) _ _).set (by omega) _ _).set (by omega) _ _).set (by omega) _ _).arr RA5.out (w0 := w) (by (try simp only [size_setCell, World.size_alloc]); omega) (by (try simp only [size_setCell, World.size_alloc]); omega))
      have RB6 : Hid (Arr (Fresh w ((((((((((w8.setCell ⟨(w.heap.size + 2), 6, none⟩ (.int .i64 x7)).setCell ⟨(w.heap.size + 2), 7, none⟩ (.int .i64 x8)).setCell ⟨w.heap.size, 0, none⟩ (.slice a1 n1 p1)).setCell ⟨w.heap.size, 1, none⟩ (.slice a2 n2 p2)).setCell ⟨w.heap.size, 2, none⟩ (.slice a3 n3 p3)).setCell ⟨w.heap.size, 3, none⟩ (.slice a4 n4 p4)).setCell ⟨w.heap.size, 4, none⟩ (.slice a5 n5 p5)).setCell ⟨w.heap.size, 5, none⟩ (.slice a6 n6 p6)).setCell ⟨w.heap.size, 6, none⟩ (.int .i64 x7)).setCell ⟨w.heap.size, 7, none⟩ (.int .i64 x8))) ((((((((((w8.setCell ⟨(w.heap.size + 2), 6, none⟩ (.int .i64 x7)).setCell ⟨(w.heap.size + 2), 7, none⟩ (.int .i64 x8)).setCell ⟨w.heap.size, 0, none⟩ (.slice a1 n1 p1)).setCell ⟨w.heap.size, 1, none⟩ (.slice a2 n2 p2)).setCell ⟨w.heap.size, 2, none⟩ (.slice a3 n3 p3)).setCell ⟨w.heap.size, 3, none⟩ (.slice a4 n4 p4)).setCell ⟨w.heap.size, 4, none⟩ (.slice a5 n5 p5)).setCell ⟨w.heap.size, 5, none⟩ (.slice a6 n6 p6)).setCell ⟨w.heap.size, 6, none⟩ (.int .i64 x7)).setCell ⟨w.heap.size, 7, none⟩ (.int .i64 x8)) a6 x6) := Lib.hid (((((((((((T6_8.out.set (by omega) _ _).set (by omega) _ _).set (by omega) _ _).set (by omega) _ _).set (by omega) _ _).set (by omega) _ _).set (by omega) _ _).set (by omega) _ _).set (by omega) _ _).set (by omega) _ _).arr RA6.out (w0 := w) (by (try simp only [size_setCell, World.size_alloc]); omega) (by (try simp only [size_setCell, World.size_alloc]); omega))
      refine ⟨HWF.out.below (Nat.le_succ _) (Nat.le_refl _), .inl ⟨_, ⟨x1, x2, x3, x4, x5, x6, x7, x8⟩, rfl, ?_, HSS.out.fine⟩⟩
      exact ⟨[.slice a1 n1 p1], _, ⟨a1, p1, by rw [HN1.out], LA1.out, MA1.out, RB1.out⟩, ⟨[.slice a2 n2 p2], _, ⟨a2, p2, by rw [HN2.out], LA2.out, MA2.out, RB2.out⟩, ⟨[.slice a3 n3 p3], _, ⟨a3, p3, by rw [HN3.out], LA3.out, MA3.out, RB3.out⟩, ⟨[.slice a4 n4 p4], _, ⟨a4, p4, by rw [HN4.out], LA4.out, MA4.out, RB4.out⟩, ⟨[.slice a5 n5 p5], _, ⟨a5, p5, by rw [HN5.out], LA5.out, MA5.out, RB5.out⟩, ⟨[.slice a6 n6 p6], _, ⟨a6, p6, by rw [HN6.out], LA6.out, MA6.out, RB6.out⟩, ⟨_, _, ⟨rfl, i7⟩, ⟨rfl, i8⟩, rfl⟩, rfl⟩, rfl⟩, rfl⟩, rfl⟩, rfl⟩, rfl⟩
    | cons y ys =>
      have z1 : decide ((0 : Int) < (nq : Int)) = true := decide_eq_true (by simp at hk; omega)
      have z2 : decide (0 < nq) = true := decide_eq_true (by simp at hk; omega)
      go_wp2_with fail
      have HY : Hid (Blk ((((((((((w8.setCell ⟨(w.heap.size + 2), 6, none⟩ (.int .i64 x7)).setCell ⟨(w.heap.size + 2), 7, none⟩ (.int .i64 x8)).setCell ⟨w.heap.size, 0, none⟩ (.slice none 0 0)).setCell ⟨w.heap.size, 1, none⟩ (.slice none 0 0)).setCell ⟨w.heap.size, 2, none⟩ (.slice none 0 0)).setCell ⟨w.heap.size, 3, none⟩ (.slice none 0 0)).setCell ⟨w.heap.size, 4, none⟩ (.slice none 0 0)).setCell ⟨w.heap.size, 5, none⟩ (.slice none 0 0)).setCell ⟨w.heap.size, 6, none⟩ (.int .i64 0)).setCell ⟨w.heap.size, 7, none⟩ (.int .i64 0)) w.heap.size 36 [.slice none 0 0, .slice none 0 0, .slice none 0 0, .slice none 0 0, .slice none 0 0, .slice none 0 0, .int .i64 0, .int .i64 0]) := ((((((((((HZ8.out.keep (blk_setCell_other _ _ _ (ne_two w))).keep (blk_setCell_other _ _ _ (ne_two w))).set 0 _).set 1 _).set 2 _).set 3 _).set 4 _).set 5 _).set 6 _).set 7 _)
      have HWF : Hid (Wrote (w.heap.size + 1) w ((((((((((w8.setCell ⟨(w.heap.size + 2), 6, none⟩ (.int .i64 x7)).setCell ⟨(w.heap.size + 2), 7, none⟩ (.int .i64 x8)).setCell ⟨w.heap.size, 0, none⟩ (.slice none 0 0)).setCell ⟨w.heap.size, 1, none⟩ (.slice none 0 0)).setCell ⟨w.heap.size, 2, none⟩ (.slice none 0 0)).setCell ⟨w.heap.size, 3, none⟩ (.slice none 0 0)).setCell ⟨w.heap.size, 4, none⟩ (.slice none 0 0)).setCell ⟨w.heap.size, 5, none⟩ (.slice none 0 0)).setCell ⟨w.heap.size, 6, none⟩ (.int .i64 0)).setCell ⟨w.heap.size, 7, none⟩ (.int .i64 0))) := ((((((((((HW8.out.set (.inr (Nat.le_add_right _ _)) _).set (.inr (Nat.le_add_right _ _)) _).set (.inr (Nat.le_refl _)) _).set (.inr (Nat.le_refl _)) _).set (.inr (Nat.le_refl _)) _).set (.inr (Nat.le_refl _)) _).set (.inr (Nat.le_refl _)) _).set (.inr (Nat.le_refl _)) _).set (.inr (Nat.le_refl _)) _).set (.inr (Nat.le_refl _)) _)
      (try simp only [Exit.inBlock, Exit.then])
      refine bodyPost_ret (results_cell_tmp_row rfl _ _ _ _ _ _ _ rfl HY.out Try.underlying36 rfl rfl) rfl ?_
      exact ⟨HWF.out.below (Nat.le_succ _) (Nat.le_refl _), .inr ⟨rfl, (HSS.out.bad (by simp))⟩⟩
end Go.Proofs.Ytimlhjjdaggiiaa.flat
