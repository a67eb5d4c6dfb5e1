/- SnapFlats: lists of frames are put, walked (printed by gen_flat.py). -/
import Derived.Test.YtimlhjjdaggiiaaFlatC
set_option linter.unusedVariables false
set_option linter.unusedSimpArgs false
namespace Go.Proofs.Ytimlhjjdaggiiaa.flat
open Go.Bk Go.RowKit

set_option maxRecDepth 100000 in
theorem manyFrame_any {S : Nat → Prop} {w : World} {wb c n : Nat} {a : Option Addr} {v : Value} {xs : List Int} {l : List Api.Frame} (hw : Wr w wb v xs) (h : Arr S w a l) (hS : Free S w wb v) (hn : l.length = n) (hl : xs.length + (many fFrame l).length ≤ 1000000000) :
    Calls Try.prog 126 #[.pointer (some ⟨wb, 0, none⟩), .slice a n c, .func (.func 127) #[.pointer (some ⟨wb, 0, none⟩)] #[]] w (Puts wb v xs (many fFrame l) w) := by
  have hsm := h.small
  rw [hn] at hsm
  unfold maxLen at hsm
  have hen := fun args w => Try.call127 args w
  have h1 := many_one fFrame l
  have HW := Lib.hid hw; have HN := Lib.hid hn; have HL := Lib.hid hl; have HFR := Lib.hid hS
  clear hw hn
  go_enter Try.func126, Try.ntmps126
  go_wp2_with fail
  refine (put_new (n := 1) (ys := [(n : Int)]) (cs := [.int .i64 (n : Int)]) HW.out rfl rfl (by simp; unfold I64; omega) rfl (by omega) (by omega)).mono ?_
  rintro e w1 ⟨rfl, v1, hw1, hm1⟩
  have HW1 : Hid (Wr w1 wb v1 (xs ++ manyTo fFrame l 0)) := by show Wr _ _ _ _; rw [manyTo_zero, HN.out]; exact hw1
  have HM1 := Lib.hid hm1
  clear hw1 hm1
  go_wp2_with fail
  go_loopw [15] (manyRel fFrame l w wb v xs n) (fun i _ => n - (intOf i).toNat)
  case atStart => exact ⟨0, v1, Nat.zero_le _, rfl, HW1.out, HM1.out⟩
  case round =>
    obtain ⟨q, v', hq, rfl, hw', hm'⟩ := hrel
    have HW2 := Lib.hid hw'; have HM2 := Lib.hid hm'
    have h' := hm'.arr h hS
    have HFR2 := Lib.hid (HFR.out.moved hm')
    have hsz2 : w.heap.size ≤ wr.heap.size := hm'.size
    clear hw' hm'
    by_cases hlt : q < n
    · obtain ⟨x, hx⟩ := get_lt HN.out hlt
      obtain ⟨b, off, a6, c6, a7, c7, rfl, hb, q1, q2, q3, q4, q5, q6, q7, q8, g1, g2, g3, g4, g5, g6, ⟨g7, g8, g9⟩, ⟨g10, g11, g12⟩⟩ := api_Frame_elem h' hx
      have hbl : b < wr.heap.size := (HFR2.out b hb).1
      obtain ⟨n6, hn6⟩ : ∃ k, x.Regs.length = k := ⟨_, rfl⟩
      obtain ⟨n7, hn7⟩ : ∃ k, x.Tries.length = k := ⟨_, rfl⟩
      rw [hn6] at q7
      rw [hn7] at q8
      have HN6 := Lib.hid hn6; have HN7 := Lib.hid hn7; have G9 := Lib.hid g9; have G12 := Lib.hid g12
      clear hn6 hn7 g9 g12 g7 g8 g10 g11
      have hat := many_at (f := fFrame) hx
      have HX := Lib.hid (manyTo_succ (f := fFrame) hx)
      have HAT : Hid ((xs ++ manyTo fFrame l q).length + (fFrame x).length ≤ 1000000000) := by show _ ≤ _; rw [List.length_append]; have := HL.out; omega
      clear h h' hx hat
      go_wp2_with fail
      refine (frame_any (x := x) (HW2.out.alloc _) (HFR2.out.moved (Moved.alloc wb v' wr _)) g1 g2 g3 g4 g5 g6 HN6.out HN7.out ((Moved.alloc wb v' wr _).arr G9.out HFR2.out) ((Moved.alloc wb v' wr _).arr G12.out HFR2.out) HAT.out).mono ?_
      rintro e w3 ⟨rfl, v3, hw3, hm3⟩
      have HW3 : Hid (Wr w3 wb v3 (xs ++ manyTo fFrame l (q + 1))) := by show Wr _ _ _ _; rw [HX.out, ← List.append_assoc]; exact hw3
      have HM3 := Lib.hid (HM2.out.trans ((Moved.alloc wb v' wr _).trans hm3))
      clear hw3 hm3
      go_wp2_with fail
      go_roundw
      case rel => exact ⟨q + 1, v3, by omega, by go_num, HW3.out, HM3.out⟩
      case measure => simp [intOf]; omega
    · obtain rfl : q = n := by omega
      have HF : Hid (xs ++ manyTo fFrame l q = xs ++ many fFrame l) := by show _ = _; rw [← HN.out, manyTo_all]
      clear h h'
      go_wp2_with fail
      refine bodyPost_end (results_none rfl _ _ _) rfl ?_
      exact ⟨rfl, v', by rw [← HF.out]; exact HW2.out, HM2.out⟩
end Go.Proofs.Ytimlhjjdaggiiaa.flat
