/- SnapFlats: a whole state is put, walked. -/
import Derived.Test.YtimlhjjdaggiiaaFlatF
import Derived.Test.YtimlhjjdaggiiaaSlices
set_option linter.unusedVariables false
set_option linter.unusedSimpArgs false
namespace Go.Proofs.Ytimlhjjdaggiiaa.flat
open Go.Bk Go.RowKit

theorem _root_.Go.Bk.Own.low {α : Type} [Rep α] {S : Nat → Prop} {w : World} {B B' : Nat} {e : TypeId} {v : Value} {ys : List α} (h : Own S w B e v ys) (hB : B' ≤ B) : Own S w B' e v ys := by
  obtain ⟨css, h1, h2, hl, ho⟩ := h
  refine ⟨css, h1, h2, hl, ?_⟩
  rcases ho with ho | ⟨g, cap, cur, hv, hg, hr⟩
  · exact .inl ho
  · exact .inr ⟨g, cap, cur, hv, Nat.le_trans hB hg, hr⟩

set_option maxRecDepth 100000 in
set_option maxHeartbeats 1000000 in
theorem flat_any {S : Nat → Prop} {w : World} {s : Api.State} {a0 a1 a2 a3 a4 a5 : Option Addr} {n0 n1 n2 n3 n4 n5 c0 c1 c2 c3 c4 c5 : Nat} (hS : ∀ b, S b → b < w.heap.size)
    (l0 : s.Cells.length = n0) (l1 : s.Shapes.length = n1) (l2 : s.Texts.length = n2) (l3 : s.Threads.length = n3) (l4 : s.Ends.length = n4) (l5 : s.Said.length = n5)
    (r0 : Arr S w a0 s.Cells) (r1 : Arr S w a1 s.Shapes) (r2 : Arr S w a2 s.Texts) (r3 : Arr S w a3 s.Threads) (r4 : Arr S w a4 s.Ends) (r5 : Arr S w a5 s.Said) (i6 : I64 s.Asked) (i7 : I64 s.Steps) (hl : (fState s).length ≤ 1000000000) :
    Calls Try.prog 18 #[.agg #[.slice a0 n0 c0, .slice a1 n1 c1, .slice a2 n2 c2, .slice a3 n3 c3, .slice a4 n4 c4, .slice a5 n5 c5, .int .i64 s.Asked, .int .i64 s.Steps]] w (RetOwn 3 w (fState s)) := by
  have hll : (fState s).length = (many fCell s.Cells).length + ((many fShape s.Shapes).length + ((many fText s.Texts).length + ((many fThread s.Threads).length + ((many fEnd s.Ends).length + ((many fVal s.Said).length + 2))))) := by simp only [fState, List.length_append, List.length_cons, List.length_nil]
  have HL := Lib.hid (hll ▸ hl)
  have L0 := Lib.hid l0; have L1 := Lib.hid l1; have L2 := Lib.hid l2; have L3 := Lib.hid l3; have L4 := Lib.hid l4; have L5 := Lib.hid l5
  have R0 := Lib.hid r0; have R1 := Lib.hid r1; have R2 := Lib.hid r2; have R3 := Lib.hid r3; have R4 := Lib.hid r4; have R5 := Lib.hid r5
  have HS := Lib.hid hS
  clear l0 l1 l2 l3 l4 l5 r0 r1 r2 r3 r4 r5 hll hl hS
  go_enter Try.func18, Try.ntmps18
  go_wp2_with fail
  refine cut_calls (fun wz => Below w.heap.size w wz ∧ Blk wz w.heap.size 36 [.slice a0 n0 c0, .slice a1 n1 c1, .slice a2 n2 c2, .slice a3 n3 c3, .slice a4 n4 c4, .slice a5 n5 c5, .int .i64 s.Asked, .int .i64 s.Steps] ∧ Blk wz (w.heap.size + 1) 126 [.slice none 0 0] ∧ Blk wz (w.heap.size + 1 + 1) 124 [.pointer (some ⟨w.heap.size + 1, 0, none⟩)]) ?_ ?_
  · have k1 := blk_new w [.slice a0 n0 c0, .slice a1 n1 c1, .slice a2 n2 c2, .slice a3 n3 c3, .slice a4 n4 c4, .slice a5 n5 c5, .int .i64 s.Asked, .int .i64 s.Steps] 36
    have k2 := blk_new (w.alloc (.cells #[.slice a0 n0 c0, .slice a1 n1 c1, .slice a2 n2 c2, .slice a3 n3 c3, .slice a4 n4 c4, .slice a5 n5 c5, .int .i64 s.Asked, .int .i64 s.Steps] 36)) [.slice none 0 0] 126
    have k3 := blk_new ((w.alloc (.cells #[.slice a0 n0 c0, .slice a1 n1 c1, .slice a2 n2 c2, .slice a3 n3 c3, .slice a4 n4 c4, .slice a5 n5 c5, .int .i64 s.Asked, .int .i64 s.Steps] 36)).alloc (.cells #[.slice none 0 0] 126)) [.pointer (some ⟨w.heap.size + 1, 0, none⟩)] 124
    simp only [World.size_alloc] at k2 k3
    exact ⟨(((Below.refl _ _).alloc (Nat.le_refl _) _).alloc (by simp) _).alloc (by simp; omega) _, (k1.keep (Below.heap_alloc _ _ _ k1.lt)).keep (Below.heap_alloc _ _ _ (Nat.lt_of_lt_of_le k1.lt (by simp))), k2.keep (Below.heap_alloc _ _ _ (by simp)), k3⟩
  rintro w0 ⟨hb0, k1, k2, k3⟩
  have hw0 : Wr w0 (w.heap.size + 1) (.slice none 0 0) [] := ⟨k2, Own.nil _ _ _ _⟩
  have HF : Hid (Free S w0 (w.heap.size + 1) (.slice none 0 0)) := fun b hb => ⟨Nat.lt_of_lt_of_le (HS.out b hb) hb0.size, by have := HS.out b hb; omega, by simp [Value.ownBlock]⟩
  have HV : Hid (Free (· = w.heap.size + 1 + 1) w0 (w.heap.size + 1) (.slice none 0 0)) := fun b hb => by
    subst hb
    exact ⟨k3.lt, by omega, by simp [Value.ownBlock]⟩
  have HK1 := Lib.hid k1; have HK3 := Lib.hid k3; have HB0 := Lib.hid hb0
  have hs0 : w.heap.size ≤ w0.heap.size := hb0.size
  have hvl : w.heap.size + 1 + 1 < w0.heap.size := k3.lt
  have HM0 := Lib.hid (Moved.refl (w.heap.size + 1) (.slice none 0 0) w0)
  have HW0 := Lib.hid hw0
  clear k1 k2 k3 hb0 hw0
  refine (manyCell_any (c := c0) HW0.out (HM0.out.arr (R0.out.keep (fun b hb => HB0.out.block b (HS.out b hb))) HF.out) (HF.out.moved HM0.out) L0.out (by have := HL.out; simp only [List.length_append, List.length_nil]; omega)).mono ?_
  rintro e w1 ⟨rfl, v1, hw1, hm1⟩
  have HW1 := Lib.hid hw1; have HM1 := Lib.hid (HM0.out.trans hm1)
  have q1 := (HM1.out.blk HK1.out (by omega) (by simp [Value.ownBlock])).cell (j := 1) rfl
  have q2 := (HM1.out.blk HK3.out (by omega) (by simp [Value.ownBlock])).cell0
  clear hw1 hm1
  go_wp2_with fail
  clear q1 q2
  refine (manyShape_any (vb := w.heap.size + 1 + 1) (c := c1) HW1.out (HM1.out.arr (R1.out.keep (fun b hb => HB0.out.block b (HS.out b hb))) HF.out) (HF.out.moved HM1.out) ((HM1.out.blk HK3.out (by omega) (by simp [Value.ownBlock])).cell0) (Nat.lt_of_lt_of_le hvl HM1.out.size) (by omega) ((HV.out.moved HM1.out) _ rfl).2.2 L1.out (by have := HL.out; simp only [List.length_append, List.length_nil]; omega)).mono ?_
  rintro e w2 ⟨rfl, v2, hw2, hm2⟩
  have HW2 := Lib.hid hw2; have HM2 := Lib.hid (HM1.out.trans hm2)
  have q1 := (HM2.out.blk HK1.out (by omega) (by simp [Value.ownBlock])).cell (j := 2) rfl
  have q2 := (HM2.out.blk HK3.out (by omega) (by simp [Value.ownBlock])).cell0
  clear hw2 hm2
  go_wp2_with fail
  clear q1 q2
  refine (manyString_any (c := c2) HW2.out (HM2.out.arr (R2.out.keep (fun b hb => HB0.out.block b (HS.out b hb))) HF.out) (HF.out.moved HM2.out) L2.out (by have := HL.out; simp only [List.length_append, List.length_nil]; omega)).mono ?_
  rintro e w3 ⟨rfl, v3, hw3, hm3⟩
  have HW3 := Lib.hid hw3; have HM3 := Lib.hid (HM2.out.trans hm3)
  have q1 := (HM3.out.blk HK1.out (by omega) (by simp [Value.ownBlock])).cell (j := 3) rfl
  have q2 := (HM3.out.blk HK3.out (by omega) (by simp [Value.ownBlock])).cell0
  clear hw3 hm3
  go_wp2_with fail
  clear q1 q2
  refine (manyThread_any (c := c3) HW3.out (HM3.out.arr (R3.out.keep (fun b hb => HB0.out.block b (HS.out b hb))) HF.out) (HF.out.moved HM3.out) L3.out (by have := HL.out; simp only [List.length_append, List.length_nil]; omega)).mono ?_
  rintro e w4 ⟨rfl, v4, hw4, hm4⟩
  have HW4 := Lib.hid hw4; have HM4 := Lib.hid (HM3.out.trans hm4)
  have q1 := (HM4.out.blk HK1.out (by omega) (by simp [Value.ownBlock])).cell (j := 4) rfl
  have q2 := (HM4.out.blk HK3.out (by omega) (by simp [Value.ownBlock])).cell0
  clear hw4 hm4
  go_wp2_with fail
  clear q1 q2
  refine (manyEnd_any (c := c4) HW4.out (HM4.out.arr (R4.out.keep (fun b hb => HB0.out.block b (HS.out b hb))) HF.out) (HF.out.moved HM4.out) L4.out (by have := HL.out; simp only [List.length_append, List.length_nil]; omega)).mono ?_
  rintro e w5 ⟨rfl, v5, hw5, hm5⟩
  have HW5 := Lib.hid hw5; have HM5 := Lib.hid (HM4.out.trans hm5)
  have q1 := (HM5.out.blk HK1.out (by omega) (by simp [Value.ownBlock])).cell (j := 5) rfl
  have q2 := (HM5.out.blk HK3.out (by omega) (by simp [Value.ownBlock])).cell0
  clear hw5 hm5
  go_wp2_with fail
  clear q1 q2
  refine (manyVal_any (c := c5) HW5.out (HM5.out.arr (R5.out.keep (fun b hb => HB0.out.block b (HS.out b hb))) HF.out) (HF.out.moved HM5.out) L5.out (by have := HL.out; simp only [List.length_append, List.length_nil]; omega)).mono ?_
  rintro e w6 ⟨rfl, v6, hw6, hm6⟩
  have HW6 := Lib.hid hw6; have HM6 := Lib.hid (HM5.out.trans hm6)
  have q1 := (HM6.out.blk HK1.out (by omega) (by simp [Value.ownBlock])).cell (j := 6) rfl
  have q2 := (HM6.out.blk HK1.out (by omega) (by simp [Value.ownBlock])).cell (j := 7) rfl
  have q3 := (HM6.out.blk HK3.out (by omega) (by simp [Value.ownBlock])).cell0
  clear hw6 hm6
  go_wp2_with fail
  refine (put_new (n := 2) (ys := [s.Asked, s.Steps]) (cs := [.int .i64 s.Asked, .int .i64 s.Steps]) HW6.out rfl rfl (by simp; exact ⟨i6, i7⟩) rfl (by omega) (by have := HL.out; simp only [List.length_append, List.length_nil]; omega)).mono ?_
  rintro e w7 ⟨rfl, v7, hw7, hm7⟩
  have HM7 := Lib.hid (HM6.out.trans hm7)
  have q4 := (HM7.out.blk HK3.out (by omega) (by simp [Value.ownBlock])).cell0
  have q5 := hw7.blk.cell0
  have HW7 := Lib.hid hw7
  clear hw7 hm7 q1 q2 q3
  go_wp2_with fail
  go_ret
  refine ⟨_, rfl, ?_, HB0.out.trans (HM7.out.below (by omega) (fun k hk => by simp [Value.ownBlock] at hk) hs0)⟩
  have h7 := HW7.out.own
  simp only [List.nil_append, List.append_assoc] at h7
  exact h7.low (by omega)
end Go.Proofs.Ytimlhjjdaggiiaa.flat
