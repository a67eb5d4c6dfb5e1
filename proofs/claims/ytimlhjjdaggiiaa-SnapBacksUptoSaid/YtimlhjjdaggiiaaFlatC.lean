/- SnapFlats: a frame is put, walked. -/
import Derived.Test.YtimlhjjdaggiiaaFlatB
set_option linter.unusedVariables false
set_option linter.unusedSimpArgs false
namespace Go.Proofs.Ytimlhjjdaggiiaa.flat
open Go.Bk Go.RowKit

set_option maxRecDepth 100000 in
theorem frame_any {S : Nat → Prop} {w : World} {wb n6 n7 c6 c7 : Nat} {a6 a7 : Option Addr} {v : Value} {xs : List Int} {x : Api.Frame} (hw : Wr w wb v xs) (hS : Free S w wb v) (g1 : I64 x.Fn) (g2 : I64 x.At) (g3 : I64 x.To) (g4 : I64 x.Gen) (g5 : I64 x.Self.Kind) (g6 : I64 x.Self.N)
    (hn6 : x.Regs.length = n6) (hn7 : x.Tries.length = n7) (h6 : Arr S w a6 x.Regs) (h7 : Arr S w a7 x.Tries) (hl : xs.length + (fFrame x).length ≤ 1000000000) :
    Calls Try.prog 127 #[.pointer (some ⟨wb, 0, none⟩), .agg #[.int .i64 x.Fn, .int .i64 x.At, .int .i64 x.To, .int .i64 x.Gen, .int .i64 x.Self.Kind, .int .i64 x.Self.N, .slice a6 n6 c6, .slice a7 n7 c7]] w (Puts wb v xs (fFrame x) w) := by
  have hll : (fFrame x).length = 4 + (2 + ((many fVal x.Regs).length + (many fTry x.Tries).length)) := by simp only [fFrame, fVal, List.length_append, List.length_cons, List.length_nil]
  have HL : Hid (xs.length + (4 + (2 + ((many fVal x.Regs).length + (many fTry x.Tries).length))) ≤ 1000000000) := by show _ ≤ _; rw [← hll]; exact hl
  have HW := Lib.hid hw
  have hbx := blk_new w [.int .i64 x.Fn, .int .i64 x.At, .int .i64 x.To, .int .i64 x.Gen, .int .i64 x.Self.Kind, .int .i64 x.Self.N, .slice a6 n6 c6, .slice a7 n7 c7] 207
  have hM0 := Moved.alloc wb v w (.cells #[.int .i64 x.Fn, .int .i64 x.At, .int .i64 x.To, .int .i64 x.Gen, .int .i64 x.Self.Kind, .int .i64 x.Self.N, .slice a6 n6 c6, .slice a7 n7 c7] 207)
  have hne := hw.ne
  have hlt := hw.lt
  have HBX := Lib.hid hbx; have HM0 := Lib.hid hM0; have HN6 := Lib.hid hn6; have HN7 := Lib.hid hn7; have HS := Lib.hid hS
  have H6 := Lib.hid h6; have H7 := Lib.hid h7
  clear hw hbx hM0 hn6 hn7 hl hll h6 h7 hS
  have hsp : I64 x.Fn ∧ I64 x.At ∧ I64 x.To ∧ I64 x.Gen := ⟨g1, g2, g3, g4⟩
  have HSP := Lib.hid hsp
  clear hsp
  go_enter Try.func127, Try.ntmps127
  go_wp2_with fail
  refine (put_new (n := 4) (ys := [x.Fn, x.At, x.To, x.Gen]) (cs := [.int .i64 x.Fn, .int .i64 x.At, .int .i64 x.To, .int .i64 x.Gen]) (HW.out.alloc (.cells #[.int .i64 x.Fn, .int .i64 x.At, .int .i64 x.To, .int .i64 x.Gen, .int .i64 x.Self.Kind, .int .i64 x.Self.N, .slice a6 n6 c6, .slice a7 n7 c7] 207)) (by simp) rfl (by simpa using HSP.out) rfl (by omega) (by have := HL.out; omega)).mono ?_
  rintro e w1 ⟨rfl, v1, hw1, hm1⟩
  have hb1 := hm1.blk HBX.out (by omega) hne
  have q1 := hb1.cell (j := 4) rfl
  have q2 := hb1.cell (j := 5) rfl
  have HW1 := Lib.hid hw1; have HM1 := Lib.hid hm1
  clear hw1 hm1 hb1
  go_wp2_with fail
  refine (val_any (x := x.Self) HW1.out g5 g6 (by have := HL.out; simp; omega)).mono ?_
  rintro e w2 ⟨rfl, v2, hw2, hm2⟩
  have HM2 := Lib.hid (HM1.out.trans hm2)
  have hb2 := HM2.out.blk HBX.out (by omega) hne
  have q3 := hb2.cell (j := 6) rfl
  have HW2 := Lib.hid hw2
  clear hw2 hm2 hb2 q1 q2
  go_wp2_with fail
  have HM02 := Lib.hid (HM0.out.trans HM2.out)
  refine (manyVal_any (c := c6) HW2.out (HM02.out.arr H6.out HS.out) (HS.out.moved HM02.out) HN6.out (by have := HL.out; simp [fVal]; omega)).mono ?_
  rintro e w3 ⟨rfl, v3, hw3, hm3⟩
  have HM3 := Lib.hid (HM2.out.trans hm3)
  have hb3 := HM3.out.blk HBX.out (by omega) hne
  have q4 := hb3.cell (j := 7) rfl
  have HW3 := Lib.hid hw3
  clear hw3 hm3 hb3 q3
  go_wp2_with fail
  have HM03 := Lib.hid (HM0.out.trans HM3.out)
  refine (manyTry_any (c := c7) HW3.out (HM03.out.arr H7.out HS.out) (HS.out.moved HM03.out) HN7.out (by have := HL.out; simp [fVal]; omega)).mono ?_
  rintro e w4 ⟨rfl, v4, hw4, hm4⟩
  have HW4 := Lib.hid hw4; have HM4 := Lib.hid (HM03.out.trans hm4)
  clear hw4 hm4 q4
  go_wp2_with fail
  refine bodyPost_end (results_none rfl _ _ _) rfl ?_
  refine ⟨rfl, _, ?_, HM4.out⟩
  have := HW4.out
  simp only [List.append_assoc] at this
  exact this
end Go.Proofs.Ytimlhjjdaggiiaa.flat
