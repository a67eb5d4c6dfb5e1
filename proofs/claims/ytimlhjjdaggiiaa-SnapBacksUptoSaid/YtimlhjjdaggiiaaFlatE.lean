/- SnapFlats: a cell, a thread, a text are put, walked. -/
import Derived.Test.YtimlhjjdaggiiaaFlatD
import Derived.Lib.ConvBytes
set_option linter.unusedVariables false
set_option linter.unusedSimpArgs false
namespace Go.Proofs.Ytimlhjjdaggiiaa.flat
open Go.Bk Go.RowKit

set_option maxRecDepth 100000 in
theorem cell_any {S : Nat → Prop} {w : World} {wb n6 n7 c6 c7 : Nat} {a6 a7 : Option Addr} {v : Value} {xs : List Int} {x : Api.Cell} (hw : Wr w wb v xs) (hS : Free S w wb v) (g1 : I64 x.Kind) (g2 : I64 x.Num)
    (hn6 : x.Vals.length = n6) (hn7 : x.Frames.length = n7) (h6 : Arr S w a6 x.Vals) (h7 : Arr S w a7 x.Frames) (hl : xs.length + (fCell x).length ≤ 1000000000) :
    Calls Try.prog 63 #[.pointer (some ⟨wb, 0, none⟩), .agg #[.int .i64 x.Kind, .int .i64 x.Num, .slice a6 n6 c6, .slice a7 n7 c7]] w (Puts wb v xs (fCell x) w) := by
  have hll : (fCell x).length = 2 + ((many fVal x.Vals).length + (many fFrame x.Frames).length) := by simp only [fCell, List.length_append, List.length_cons, List.length_nil]
  have HL : Hid (xs.length + (2 + ((many fVal x.Vals).length + (many fFrame x.Frames).length)) ≤ 1000000000) := by show _ ≤ _; rw [← hll]; exact hl
  have HW := Lib.hid hw
  have hbx := blk_new w [.int .i64 x.Kind, .int .i64 x.Num, .slice a6 n6 c6, .slice a7 n7 c7] 130
  have hM0 := Moved.alloc wb v w (.cells #[.int .i64 x.Kind, .int .i64 x.Num, .slice a6 n6 c6, .slice a7 n7 c7] 130)
  have hne := hw.ne
  have hlt := hw.lt
  have HBX := Lib.hid hbx; have HM0 := Lib.hid hM0; have HN6 := Lib.hid hn6; have HN7 := Lib.hid hn7; have HS := Lib.hid hS
  have H6 := Lib.hid h6; have H7 := Lib.hid h7
  clear hw hbx hM0 hn6 hn7 hl hll h6 h7 hS
  go_enter Try.func63, Try.ntmps63
  go_wp2_with fail
  refine (put_new (n := 2) (ys := [x.Kind, x.Num]) (cs := [.int .i64 x.Kind, .int .i64 x.Num]) (HW.out.alloc (.cells #[.int .i64 x.Kind, .int .i64 x.Num, .slice a6 n6 c6, .slice a7 n7 c7] 130)) (by simp) rfl (by simp; exact ⟨g1, g2⟩) rfl (by omega) (by have := HL.out; omega)).mono ?_
  rintro e w2 ⟨rfl, v2, hw2, hm2⟩
  have HM2 := Lib.hid hm2
  have hb2 := HM2.out.blk HBX.out (by omega) hne
  have q3 := hb2.cell (j := 2) rfl
  have HW2 := Lib.hid hw2
  clear hw2 hm2 hb2
  go_wp2_with fail
  have HM02 := Lib.hid (HM0.out.trans HM2.out)
  refine (manyVal_any (c := c6) HW2.out (HM02.out.arr H6.out HS.out) (HS.out.moved HM02.out) HN6.out (by have := HL.out; simp; omega)).mono ?_
  rintro e w3 ⟨rfl, v3, hw3, hm3⟩
  have HM3 := Lib.hid (HM2.out.trans hm3)
  have hb3 := HM3.out.blk HBX.out (by omega) hne
  have q4 := hb3.cell (j := 3) rfl
  have HW3 := Lib.hid hw3
  clear hw3 hm3 hb3 q3
  go_wp2_with fail
  have HM03 := Lib.hid (HM0.out.trans HM3.out)
  refine (manyFrame_any (c := c7) HW3.out (HM03.out.arr H7.out HS.out) (HS.out.moved HM03.out) HN7.out (by have := HL.out; simp; omega)).mono ?_
  rintro e w4 ⟨rfl, v4, hw4, hm4⟩
  have HW4 := Lib.hid hw4; have HM4 := Lib.hid (HM03.out.trans hm4)
  clear hw4 hm4 q4
  go_wp2_with fail
  refine bodyPost_end (results_none rfl _ _ _) rfl ?_
  refine ⟨rfl, _, ?_, HM4.out⟩
  have := HW4.out
  simp only [List.append_assoc] at this
  exact this

set_option maxRecDepth 100000 in
theorem thread_any {S : Nat → Prop} {w : World} {wb n6 c6 : Nat} {a6 : Option Addr} {v : Value} {xs : List Int} {x : Api.Thread} (hw : Wr w wb v xs) (hS : Free S w wb v) (g1 : I64 x.State) (g2 : I64 x.On) (g3 : I64 x.Val.Kind) (g4 : I64 x.Val.N)
    (hn6 : x.Frames.length = n6) (h6 : Arr S w a6 x.Frames) (hl : xs.length + (fThread x).length ≤ 1000000000) :
    Calls Try.prog 70 #[.pointer (some ⟨wb, 0, none⟩), .agg #[.slice a6 n6 c6, .int .i64 x.State, .int .i64 x.On, .int .i64 x.Val.Kind, .int .i64 x.Val.N]] w (Puts wb v xs (fThread x) w) := by
  have hll : (fThread x).length = (many fFrame x.Frames).length + 4 := by simp only [fThread, fVal, List.length_append, List.length_cons, List.length_nil]
  have HL : Hid (xs.length + ((many fFrame x.Frames).length + 4) ≤ 1000000000) := by show _ ≤ _; rw [← hll]; exact hl
  have HW := Lib.hid hw
  have hbx := blk_new w [.slice a6 n6 c6, .int .i64 x.State, .int .i64 x.On, .int .i64 x.Val.Kind, .int .i64 x.Val.N] 141
  have hM0 := Moved.alloc wb v w (.cells #[.slice a6 n6 c6, .int .i64 x.State, .int .i64 x.On, .int .i64 x.Val.Kind, .int .i64 x.Val.N] 141)
  have hne := hw.ne
  have hlt := hw.lt
  have HBX := Lib.hid hbx; have HM0 := Lib.hid hM0; have HN6 := Lib.hid hn6; have HS := Lib.hid hS
  have H6 := Lib.hid h6
  clear hw hbx hM0 hn6 hl hll h6 hS
  go_enter Try.func70, Try.ntmps70
  go_wp2_with fail
  refine (manyFrame_any (c := c6) (HW.out.alloc _) (HM0.out.arr H6.out HS.out) (HS.out.moved HM0.out) HN6.out (by have := HL.out; omega)).mono ?_
  rintro e w2 ⟨rfl, v2, hw2, hm2⟩
  have HM2 := Lib.hid hm2
  have hb2 := HM2.out.blk HBX.out (by omega) hne
  have q1 := hb2.cell (j := 1) rfl
  have q2 := hb2.cell (j := 2) rfl
  have HW2 := Lib.hid hw2
  clear hw2 hm2 hb2
  go_wp2_with fail
  refine (put_new (n := 2) (ys := [x.State, x.On]) (cs := [.int .i64 x.State, .int .i64 x.On]) HW2.out rfl rfl (by simp; exact ⟨g1, g2⟩) rfl (by omega) (by have := HL.out; simp; omega)).mono ?_
  rintro e w3 ⟨rfl, v3, hw3, hm3⟩
  have HM3 := Lib.hid (HM2.out.trans hm3)
  have hb3 := HM3.out.blk HBX.out (by omega) hne
  have q3 := hb3.cell (j := 3) rfl
  have q4 := hb3.cell (j := 4) rfl
  have HW3 := Lib.hid hw3
  clear hw3 hm3 hb3 q1 q2
  go_wp2_with fail
  refine (val_any (x := x.Val) HW3.out g3 g4 (by have := HL.out; simp; omega)).mono ?_
  rintro e w4 ⟨rfl, v4, hw4, hm4⟩
  have HW4 := Lib.hid hw4; have HM4 := Lib.hid (HM0.out.trans (HM3.out.trans hm4))
  clear hw4 hm4 q3 q4
  go_wp2_with fail
  refine bodyPost_end (results_none rfl _ _ _) rfl ?_
  refine ⟨rfl, _, ?_, HM4.out⟩
  have := HW4.out
  simp only [List.append_assoc] at this
  exact this

theorem bytes_arr {w : World} {s : ByteArray} (hs : s.size ≤ maxLen) : Arr (· = w.heap.size) (Lib.bytesWorld w 5 s) (some ⟨w.heap.size, 0, none⟩) s.data.toList := by
  refine ⟨by simpa using hs, .inr ⟨w.heap.size, 0, rfl, rfl, fun k x hk => ⟨[.int .u8 x.toNat], rfl, fun j hj => ?_⟩⟩⟩
  have hj0 : j = 0 := by have : j < 1 := hj; omega
  subst hj0
  show _ = some _
  rw [show 0 + k * Rep.sz UInt8 + 0 = k by simp [show Rep.sz UInt8 = 1 from rfl]]
  have hlt : k < s.size := by have := (List.getElem?_eq_some_iff.1 hk).1; simpa using this
  rw [Lib.bytesWorld_cell w _ s k hlt, List.getD_eq_getElem?_getD, hk]; rfl
theorem bytes_moved (wb : Nat) (v : Value) (w : World) (e : TypeId) (s : ByteArray) : Moved wb v w v (Lib.bytesWorld w e s) :=
  ⟨rfl, rfl, rfl, by rw [Lib.bytesWorld_size]; omega, fun k hk _ _ => Lib.bytesWorld_at_old w e s k hk, fun _ h => .inl h⟩

set_option maxRecDepth 100000 in
theorem text_any {w : World} {wb : Nat} {v : Value} {xs : List Int} {s : ByteArray} (hw : Wr w wb v xs) (hs : s.size ≤ maxLen) (hl : xs.length + (fText s).length ≤ 1000000000) :
    Calls Try.prog 68 #[.pointer (some ⟨wb, 0, none⟩), .string s] w (Puts wb v xs (fText s) w) := by
  have hM0 := Moved.alloc wb v w (.cells #[.pointer (some ⟨wb, 0, none⟩)] 124)
  have hbx := blk_new w [.pointer (some ⟨wb, 0, none⟩)] 124
  have hne := hw.ne
  have hlt := hw.lt
  obtain ⟨w0, hw0⟩ : ∃ w0, w.alloc (.cells #[.pointer (some ⟨wb, 0, none⟩)] 124) = w0 := ⟨_, rfl⟩
  have hcv : ∀ wx : World, (convert 9 53 (.string s)).run Try.prog wx = .ok (.slice (some ⟨wx.heap.size, 0, none⟩) s.size (grownCap wx s.size 0 5)) (Lib.bytesWorld wx 5 s) := fun wx => Lib.run_convert_string_bytes wx _ _ _ s Try.underlying9 Try.underlying53 Try.underlying5
  have HW0 := hw.alloc (.cells #[.pointer (some ⟨wb, 0, none⟩)] 124)
  rw [hw0] at hM0 hbx HW0
  have hq0 := hbx.cell0
  have hmz := bytes_moved wb v w0 5 s
  have hwz : Wr (Lib.bytesWorld w0 5 s) wb v xs := HW0.below ⟨hmz.os, hmz.tape, hmz.output, hmz.size, fun k hk => Lib.bytesWorld_at_old w0 _ s k hk⟩
  have harz := bytes_arr (w := w0) hs
  have hfr : Free (· = w0.heap.size) (Lib.bytesWorld w0 5 s) wb v := fun b hb => by
    subst hb
    exact ⟨by rw [Lib.bytesWorld_size]; omega, by have := HW0.lt; omega, HW0.ne⟩
  have hbz := hmz.blk hbx (by omega) hne
  have hsz : w.heap.size < (Lib.bytesWorld w0 5 s).heap.size := hbz.lt
  have HMZ := Lib.hid (hM0.trans hmz)
  obtain ⟨wz, hwze⟩ : ∃ wz, Lib.bytesWorld w0 5 s = wz := ⟨_, rfl⟩
  have hcv0 := hcv w0
  rw [hwze] at hwz harz hfr hbz hsz HMZ hcv0
  obtain ⟨g, hg⟩ : ∃ g, w0.heap.size = g := ⟨_, rfl⟩
  obtain ⟨K, hK⟩ : ∃ K, grownCap w0 s.size 0 5 = K := ⟨_, rfl⟩
  rw [hg, hK] at hcv0
  rw [hg] at harz hfr
  have hc1 := hbz.cell0
  have hlen : s.data.toList.length = s.size := by simp
  have HMB := Lib.hid (manyByte_any (vb := w.heap.size) (c := K) hwz harz hfr hc1 hsz (by omega) hne hlen hl)
  clear hcv hmz hwz harz hfr hbz HW0 hbx hM0
  go_enter Try.func68, Try.ntmps68
  go_wp2_with fail
  refine HMB.out.mono ?_
  rintro e w2 ⟨rfl, v2, hw2, hm2⟩
  have HW2 := Lib.hid hw2; have HM2 := Lib.hid (HMZ.out.trans hm2)
  clear hw2 hm2
  go_wp2_with fail
  refine bodyPost_end (results_none rfl _ _ _) rfl ?_
  exact ⟨rfl, _, HW2.out, HM2.out⟩
end Go.Proofs.Ytimlhjjdaggiiaa.flat
