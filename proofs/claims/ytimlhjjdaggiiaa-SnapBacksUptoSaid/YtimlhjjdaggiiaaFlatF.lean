/- SnapFlats: lists of cells, threads and texts are put, walked (printed by gen_flat.py). -/
import Derived.Test.YtimlhjjdaggiiaaFlatE
set_option linter.unusedVariables false
set_option linter.unusedSimpArgs false
namespace Go.Proofs.Ytimlhjjdaggiiaa.flat
open Go.Bk Go.RowKit

set_option maxRecDepth 100000 in
theorem manyCell_any {S : Nat → Prop} {w : World} {wb c n : Nat} {a : Option Addr} {v : Value} {xs : List Int} {l : List Api.Cell} (hw : Wr w wb v xs) (h : Arr S w a l) (hS : Free S w wb v) (hn : l.length = n) (hl : xs.length + (many fCell l).length ≤ 1000000000) :
    Calls Try.prog 62 #[.pointer (some ⟨wb, 0, none⟩), .slice a n c, .func (.func 63) #[.pointer (some ⟨wb, 0, none⟩)] #[]] w (Puts wb v xs (many fCell l) w) := by
  have hsm := h.small
  rw [hn] at hsm
  unfold maxLen at hsm
  have hen := fun args w => Try.call63 args w
  have h1 := many_one fCell l
  have HW := Lib.hid hw; have HN := Lib.hid hn; have HL := Lib.hid hl; have HFR := Lib.hid hS
  clear hw hn
  go_enter Try.func62, Try.ntmps62
  go_wp2_with fail
  refine (put_new (n := 1) (ys := [(n : Int)]) (cs := [.int .i64 (n : Int)]) HW.out rfl rfl (by simp; unfold I64; omega) rfl (by omega) (by omega)).mono ?_
  rintro e w1 ⟨rfl, v1, hw1, hm1⟩
  have HW1 : Hid (Wr w1 wb v1 (xs ++ manyTo fCell l 0)) := by show Wr _ _ _ _; rw [manyTo_zero, HN.out]; exact hw1
  have HM1 := Lib.hid hm1
  clear hw1 hm1
  go_wp2_with fail
  go_loopw [15] (manyRel fCell l w wb v xs n) (fun i _ => n - (intOf i).toNat)
  case atStart => exact ⟨0, v1, Nat.zero_le _, rfl, HW1.out, HM1.out⟩
  case round =>
    obtain ⟨q, v', hq, rfl, hw', hm'⟩ := hrel
    have HW2 := Lib.hid hw'; have HM2 := Lib.hid hm'
    have h' := hm'.arr h hS
    have HFR2 := Lib.hid (HFR.out.moved hm')
    have hsz2 : w.heap.size ≤ wr.heap.size := hm'.size
    clear hw' hm'
    by_cases hlt : q < n
    · obtain ⟨x, hx⟩ := get_lt HN.out hlt
      obtain ⟨b, off, a6, c6, a7, c7, rfl, hb, q1, q2, q3, q4, g1, g2, ⟨g7, g8, g9⟩, ⟨g10, g11, g12⟩⟩ := api_Cell_elem h' hx
      obtain ⟨n6, hn6⟩ : ∃ k, x.Vals.length = k := ⟨_, rfl⟩
      obtain ⟨n7, hn7⟩ : ∃ k, x.Frames.length = k := ⟨_, rfl⟩
      rw [hn6] at q3
      rw [hn7] at q4
      have HN6 := Lib.hid hn6; have HN7 := Lib.hid hn7; have G9 := Lib.hid g9; have G12 := Lib.hid g12
      clear hn6 hn7 g9 g12 g7 g8 g10 g11
      have hat := many_at (f := fCell) hx
      have HX := Lib.hid (manyTo_succ (f := fCell) hx)
      have HAT : Hid ((xs ++ manyTo fCell l q).length + (fCell x).length ≤ 1000000000) := by show _ ≤ _; rw [List.length_append]; have := HL.out; omega
      clear h h' hx hat
      go_wp2_with fail
      refine (cell_any (x := x) (HW2.out.alloc _) (HFR2.out.moved (Moved.alloc wb v' wr _)) g1 g2 HN6.out HN7.out ((Moved.alloc wb v' wr _).arr G9.out HFR2.out) ((Moved.alloc wb v' wr _).arr G12.out HFR2.out) HAT.out).mono ?_
      rintro e w3 ⟨rfl, v3, hw3, hm3⟩
      have HW3 : Hid (Wr w3 wb v3 (xs ++ manyTo fCell l (q + 1))) := by show Wr _ _ _ _; rw [HX.out, ← List.append_assoc]; exact hw3
      have HM3 := Lib.hid (HM2.out.trans ((Moved.alloc wb v' wr _).trans hm3))
      clear hw3 hm3
      go_wp2_with fail
      go_roundw
      case rel => exact ⟨q + 1, v3, by omega, by go_num, HW3.out, HM3.out⟩
      case measure => simp [intOf]; omega
    · obtain rfl : q = n := by omega
      have HF : Hid (xs ++ manyTo fCell l q = xs ++ many fCell l) := by show _ = _; rw [← HN.out, manyTo_all]
      clear h h'
      go_wp2_with fail
      refine bodyPost_end (results_none rfl _ _ _) rfl ?_
      exact ⟨rfl, v', by rw [← HF.out]; exact HW2.out, HM2.out⟩

set_option maxRecDepth 100000 in
theorem manyThread_any {S : Nat → Prop} {w : World} {wb c n : Nat} {a : Option Addr} {v : Value} {xs : List Int} {l : List Api.Thread} (hw : Wr w wb v xs) (h : Arr S w a l) (hS : Free S w wb v) (hn : l.length = n) (hl : xs.length + (many fThread l).length ≤ 1000000000) :
    Calls Try.prog 69 #[.pointer (some ⟨wb, 0, none⟩), .slice a n c, .func (.func 70) #[.pointer (some ⟨wb, 0, none⟩)] #[]] w (Puts wb v xs (many fThread l) w) := by
  have hsm := h.small
  rw [hn] at hsm
  unfold maxLen at hsm
  have hen := fun args w => Try.call70 args w
  have h1 := many_one fThread l
  have HW := Lib.hid hw; have HN := Lib.hid hn; have HL := Lib.hid hl; have HFR := Lib.hid hS
  clear hw hn
  go_enter Try.func69, Try.ntmps69
  go_wp2_with fail
  refine (put_new (n := 1) (ys := [(n : Int)]) (cs := [.int .i64 (n : Int)]) HW.out rfl rfl (by simp; unfold I64; omega) rfl (by omega) (by omega)).mono ?_
  rintro e w1 ⟨rfl, v1, hw1, hm1⟩
  have HW1 : Hid (Wr w1 wb v1 (xs ++ manyTo fThread l 0)) := by show Wr _ _ _ _; rw [manyTo_zero, HN.out]; exact hw1
  have HM1 := Lib.hid hm1
  clear hw1 hm1
  go_wp2_with fail
  go_loopw [15] (manyRel fThread l w wb v xs n) (fun i _ => n - (intOf i).toNat)
  case atStart => exact ⟨0, v1, Nat.zero_le _, rfl, HW1.out, HM1.out⟩
  case round =>
    obtain ⟨q, v', hq, rfl, hw', hm'⟩ := hrel
    have HW2 := Lib.hid hw'; have HM2 := Lib.hid hm'
    have h' := hm'.arr h hS
    have HFR2 := Lib.hid (HFR.out.moved hm')
    have hsz2 : w.heap.size ≤ wr.heap.size := hm'.size
    clear hw' hm'
    by_cases hlt : q < n
    · obtain ⟨x, hx⟩ := get_lt HN.out hlt
      obtain ⟨b, off, a6, c6, rfl, hb, q1, q2, q3, q4, q5, ⟨g7, g8, g9⟩, g1, g2, g3, g4⟩ := api_Thread_elem h' hx
      obtain ⟨n6, hn6⟩ : ∃ k, x.Frames.length = k := ⟨_, rfl⟩
      rw [hn6] at q1
      have HN6 := Lib.hid hn6; have G9 := Lib.hid g9
      clear hn6 g9 g7 g8
      have hat := many_at (f := fThread) hx
      have HX := Lib.hid (manyTo_succ (f := fThread) hx)
      have HAT : Hid ((xs ++ manyTo fThread l q).length + (fThread x).length ≤ 1000000000) := by show _ ≤ _; rw [List.length_append]; have := HL.out; omega
      clear h h' hx hat
      go_wp2_with fail
      refine (thread_any (x := x) (HW2.out.alloc _) (HFR2.out.moved (Moved.alloc wb v' wr _)) g1 g2 g3 g4 HN6.out ((Moved.alloc wb v' wr _).arr G9.out HFR2.out) HAT.out).mono ?_
      rintro e w3 ⟨rfl, v3, hw3, hm3⟩
      have HW3 : Hid (Wr w3 wb v3 (xs ++ manyTo fThread l (q + 1))) := by show Wr _ _ _ _; rw [HX.out, ← List.append_assoc]; exact hw3
      have HM3 := Lib.hid (HM2.out.trans ((Moved.alloc wb v' wr _).trans hm3))
      clear hw3 hm3
      go_wp2_with fail
      go_roundw
      case rel => exact ⟨q + 1, v3, by omega, by go_num, HW3.out, HM3.out⟩
      case measure => simp [intOf]; omega
    · obtain rfl : q = n := by omega
      have HF : Hid (xs ++ manyTo fThread l q = xs ++ many fThread l) := by show _ = _; rw [← HN.out, manyTo_all]
      clear h h'
      go_wp2_with fail
      refine bodyPost_end (results_none rfl _ _ _) rfl ?_
      exact ⟨rfl, v', by rw [← HF.out]; exact HW2.out, HM2.out⟩

set_option maxRecDepth 100000 in
theorem manyString_any {S : Nat → Prop} {w : World} {wb c n : Nat} {a : Option Addr} {v : Value} {xs : List Int} {l : List ByteArray} (hw : Wr w wb v xs) (h : Arr S w a l) (hS : Free S w wb v) (hn : l.length = n) (hl : xs.length + (many fText l).length ≤ 1000000000) :
    Calls Try.prog 67 #[.pointer (some ⟨wb, 0, none⟩), .slice a n c, .func (.func 68) #[.pointer (some ⟨wb, 0, none⟩)] #[]] w (Puts wb v xs (many fText l) w) := by
  have hsm := h.small
  rw [hn] at hsm
  unfold maxLen at hsm
  have hen := fun args w => Try.call68 args w
  have h1 := many_one fText l
  have HW := Lib.hid hw; have HN := Lib.hid hn; have HL := Lib.hid hl; have HFR := Lib.hid hS
  clear hw hn
  go_enter Try.func67, Try.ntmps67
  go_wp2_with fail
  refine (put_new (n := 1) (ys := [(n : Int)]) (cs := [.int .i64 (n : Int)]) HW.out rfl rfl (by simp; unfold I64; omega) rfl (by omega) (by omega)).mono ?_
  rintro e w1 ⟨rfl, v1, hw1, hm1⟩
  have HW1 : Hid (Wr w1 wb v1 (xs ++ manyTo fText l 0)) := by show Wr _ _ _ _; rw [manyTo_zero, HN.out]; exact hw1
  have HM1 := Lib.hid hm1
  clear hw1 hm1
  go_wp2_with fail
  go_loopw [15] (manyRel fText l w wb v xs n) (fun i _ => n - (intOf i).toNat)
  case atStart => exact ⟨0, v1, Nat.zero_le _, rfl, HW1.out, HM1.out⟩
  case round =>
    obtain ⟨q, v', hq, rfl, hw', hm'⟩ := hrel
    have HW2 := Lib.hid hw'; have HM2 := Lib.hid hm'
    have h' := hm'.arr h hS
    have HFR2 := Lib.hid (HFR.out.moved hm')
    have hsz2 : w.heap.size ≤ wr.heap.size := hm'.size
    clear hw' hm'
    by_cases hlt : q < n
    · obtain ⟨x, hx⟩ := get_lt HN.out hlt
      obtain ⟨b, off, rfl, hb, q1, g1⟩ := arr_text h' hx
      have hat := many_at (f := fText) hx
      have HX := Lib.hid (manyTo_succ (f := fText) hx)
      have HAT : Hid ((xs ++ manyTo fText l q).length + (fText x).length ≤ 1000000000) := by show _ ≤ _; rw [List.length_append]; have := HL.out; omega
      clear h h' hx hat
      go_wp2_with fail
      refine (text_any (s := x) HW2.out g1 HAT.out).mono ?_
      rintro e w3 ⟨rfl, v3, hw3, hm3⟩
      have HW3 : Hid (Wr w3 wb v3 (xs ++ manyTo fText l (q + 1))) := by show Wr _ _ _ _; rw [HX.out, ← List.append_assoc]; exact hw3
      have HM3 := Lib.hid (HM2.out.trans hm3)
      clear hw3 hm3
      go_wp2_with fail
      go_roundw
      case rel => exact ⟨q + 1, v3, by omega, by go_num, HW3.out, HM3.out⟩
      case measure => simp [intOf]; omega
    · obtain rfl : q = n := by omega
      have HF : Hid (xs ++ manyTo fText l q = xs ++ many fText l) := by show _ = _; rw [← HN.out, manyTo_all]
      clear h h'
      go_wp2_with fail
      refine bodyPost_end (results_none rfl _ _ _) rfl ?_
      exact ⟨rfl, v', by rw [← HF.out]; exact HW2.out, HM2.out⟩
end Go.Proofs.Ytimlhjjdaggiiaa.flat
