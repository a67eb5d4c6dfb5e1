/- SnapFlats: lists of small things are put, walked (printed by gen_flat.py). -/
import Derived.Test.YtimlhjjdaggiiaaFlatA
set_option linter.unusedVariables false
set_option linter.unusedSimpArgs false
namespace Go.Proofs.Ytimlhjjdaggiiaa.flat
open Go.Bk Go.RowKit

def manyRel {α : Type} (f : α → List Int) (l : List α) (w : World) (wb : Nat) (v : Value) (xs : List Int) (n : Nat) (i : Value) (w' : World) : Prop :=
  ∃ (q : Nat) (v' : Value), q ≤ n ∧ i = .int .i64 q ∧ Wr w' wb v' (xs ++ manyTo f l q) ∧ Moved wb v w v' w'
theorem get_lt {α : Type} {l : List α} {k n : Nat} (hn : l.length = n) (h : k < n) : ∃ x, l[k]? = some x := ⟨_, List.getElem?_eq_getElem (by omega)⟩
theorem arr_text {S : Nat → Prop} {w : World} {a : Option Addr} {xs : List ByteArray} (h : Arr S w a xs) {k : Nat} {x : ByteArray} (hk : xs[k]? = some x) : ∃ (b off : Nat), a = some ⟨b, off, none⟩ ∧ S b ∧ w.cell? ⟨b, off + k, none⟩ = some (.string x) ∧ x.size ≤ maxLen := by
  obtain ⟨b1, o1, cs1, rfl, hs, ⟨rfl, hi⟩, g1⟩ := h.at hk
  exact ⟨b1, o1, rfl, hs, by simpa [show Rep.sz ByteArray = 1 from rfl] using g1 0 Nat.zero_lt_one, hi⟩
theorem arr_u8 {S : Nat → Prop} {w : World} {a : Option Addr} {xs : List UInt8} (h : Arr S w a xs) {k : Nat} {x : UInt8} (hk : xs[k]? = some x) : ∃ (b off : Nat), a = some ⟨b, off, none⟩ ∧ S b ∧ w.cell? ⟨b, off + k, none⟩ = some (.int .u8 x.toNat) := by
  obtain ⟨b1, o1, cs1, rfl, hs, rfl, g1⟩ := h.at hk
  exact ⟨b1, o1, rfl, hs, by simpa [show Rep.sz UInt8 = 1 from rfl] using g1 0 Nat.zero_lt_one⟩

set_option maxRecDepth 100000 in
theorem manyVal_any {S : Nat → Prop} {w : World} {wb c n : Nat} {a : Option Addr} {v : Value} {xs : List Int} {l : List Api.Val} (hw : Wr w wb v xs) (h : Arr S w a l) (hS : Free S w wb v) (hn : l.length = n) (hl : xs.length + (many fVal l).length ≤ 1000000000) :
    Calls Try.prog 73 #[.pointer (some ⟨wb, 0, none⟩), .slice a n c, .func (.func 74) #[.pointer (some ⟨wb, 0, none⟩)] #[]] w (Puts wb v xs (many fVal l) w) := by
  have hsm := h.small
  rw [hn] at hsm
  unfold maxLen at hsm
  have hen := fun args w => Try.call74 args w
  have h1 := many_one fVal l
  have HW := Lib.hid hw; have HN := Lib.hid hn; have HL := Lib.hid hl; have HFR := Lib.hid hS
  clear hw hn
  go_enter Try.func73, Try.ntmps73
  go_wp2_with fail
  refine (put_new (n := 1) (ys := [(n : Int)]) (cs := [.int .i64 (n : Int)]) HW.out rfl rfl (by simp; unfold I64; omega) rfl (by omega) (by omega)).mono ?_
  rintro e w1 ⟨rfl, v1, hw1, hm1⟩
  have HW1 : Hid (Wr w1 wb v1 (xs ++ manyTo fVal l 0)) := by show Wr _ _ _ _; rw [manyTo_zero, HN.out]; exact hw1
  have HM1 := Lib.hid hm1
  clear hw1 hm1
  go_wp2_with fail
  go_loopw [15] (manyRel fVal l w wb v xs n) (fun i _ => n - (intOf i).toNat)
  case atStart => exact ⟨0, v1, Nat.zero_le _, rfl, HW1.out, HM1.out⟩
  case round =>
    obtain ⟨q, v', hq, rfl, hw', hm'⟩ := hrel
    have HW2 := Lib.hid hw'; have HM2 := Lib.hid hm'
    have h' := hm'.arr h hS
    have HFR2 := Lib.hid (HFR.out.moved hm')
    have hsz2 : w.heap.size ≤ wr.heap.size := hm'.size
    clear hw' hm'
    by_cases hlt : q < n
    · obtain ⟨x, hx⟩ := get_lt HN.out hlt
      obtain ⟨b, off, rfl, hb, q1, q2, g1, g2⟩ := api_Val_elem h' hx
      have hat := many_at (f := fVal) hx
      have HX := Lib.hid (manyTo_succ (f := fVal) hx)
      have HAT : Hid ((xs ++ manyTo fVal l q).length + (fVal x).length ≤ 1000000000) := by show _ ≤ _; rw [List.length_append]; have := HL.out; omega
      clear h h' hx hat
      go_wp2_with fail
      refine (val_any (x := x) (HW2.out.alloc _) g1 g2 HAT.out).mono ?_
      rintro e w3 ⟨rfl, v3, hw3, hm3⟩
      have HW3 : Hid (Wr w3 wb v3 (xs ++ manyTo fVal l (q + 1))) := by show Wr _ _ _ _; rw [HX.out, ← List.append_assoc]; exact hw3
      have HM3 := Lib.hid (HM2.out.trans ((Moved.alloc wb v' wr _).trans hm3))
      clear hw3 hm3
      go_wp2_with fail
      go_roundw
      case rel => exact ⟨q + 1, v3, by omega, by go_num, HW3.out, HM3.out⟩
      case measure => simp [intOf]; omega
    · obtain rfl : q = n := by omega
      have HF : Hid (xs ++ manyTo fVal l q = xs ++ many fVal l) := by show _ = _; rw [← HN.out, manyTo_all]
      clear h h'
      go_wp2_with fail
      refine bodyPost_end (results_none rfl _ _ _) rfl ?_
      exact ⟨rfl, v', by rw [← HF.out]; exact HW2.out, HM2.out⟩

set_option maxRecDepth 100000 in
theorem manyTry_any {S : Nat → Prop} {w : World} {wb c n : Nat} {a : Option Addr} {v : Value} {xs : List Int} {l : List Api.Try} (hw : Wr w wb v xs) (h : Arr S w a l) (hS : Free S w wb v) (hn : l.length = n) (hl : xs.length + (many fTry l).length ≤ 1000000000) :
    Calls Try.prog 149 #[.pointer (some ⟨wb, 0, none⟩), .slice a n c, .func (.func 150) #[.pointer (some ⟨wb, 0, none⟩)] #[]] w (Puts wb v xs (many fTry l) w) := by
  have hsm := h.small
  rw [hn] at hsm
  unfold maxLen at hsm
  have hen := fun args w => Try.call150 args w
  have h1 := many_one fTry l
  have HW := Lib.hid hw; have HN := Lib.hid hn; have HL := Lib.hid hl; have HFR := Lib.hid hS
  clear hw hn
  go_enter Try.func149, Try.ntmps149
  go_wp2_with fail
  refine (put_new (n := 1) (ys := [(n : Int)]) (cs := [.int .i64 (n : Int)]) HW.out rfl rfl (by simp; unfold I64; omega) rfl (by omega) (by omega)).mono ?_
  rintro e w1 ⟨rfl, v1, hw1, hm1⟩
  have HW1 : Hid (Wr w1 wb v1 (xs ++ manyTo fTry l 0)) := by show Wr _ _ _ _; rw [manyTo_zero, HN.out]; exact hw1
  have HM1 := Lib.hid hm1
  clear hw1 hm1
  go_wp2_with fail
  go_loopw [15] (manyRel fTry l w wb v xs n) (fun i _ => n - (intOf i).toNat)
  case atStart => exact ⟨0, v1, Nat.zero_le _, rfl, HW1.out, HM1.out⟩
  case round =>
    obtain ⟨q, v', hq, rfl, hw', hm'⟩ := hrel
    have HW2 := Lib.hid hw'; have HM2 := Lib.hid hm'
    have h' := hm'.arr h hS
    have HFR2 := Lib.hid (HFR.out.moved hm')
    have hsz2 : w.heap.size ≤ wr.heap.size := hm'.size
    clear hw' hm'
    by_cases hlt : q < n
    · obtain ⟨x, hx⟩ := get_lt HN.out hlt
      obtain ⟨b, off, rfl, hb, q1, q2, g1, g2⟩ := api_Try_elem h' hx
      have hat := many_at (f := fTry) hx
      have HX := Lib.hid (manyTo_succ (f := fTry) hx)
      have HAT : Hid ((xs ++ manyTo fTry l q).length + (fTry x).length ≤ 1000000000) := by show _ ≤ _; rw [List.length_append]; have := HL.out; omega
      clear h h' hx hat
      go_wp2_with fail
      refine (try_any (x := x) (HW2.out.alloc _) g1 g2 HAT.out).mono ?_
      rintro e w3 ⟨rfl, v3, hw3, hm3⟩
      have HW3 : Hid (Wr w3 wb v3 (xs ++ manyTo fTry l (q + 1))) := by show Wr _ _ _ _; rw [HX.out, ← List.append_assoc]; exact hw3
      have HM3 := Lib.hid (HM2.out.trans ((Moved.alloc wb v' wr _).trans hm3))
      clear hw3 hm3
      go_wp2_with fail
      go_roundw
      case rel => exact ⟨q + 1, v3, by omega, by go_num, HW3.out, HM3.out⟩
      case measure => simp [intOf]; omega
    · obtain rfl : q = n := by omega
      have HF : Hid (xs ++ manyTo fTry l q = xs ++ many fTry l) := by show _ = _; rw [← HN.out, manyTo_all]
      clear h h'
      go_wp2_with fail
      refine bodyPost_end (results_none rfl _ _ _) rfl ?_
      exact ⟨rfl, v', by rw [← HF.out]; exact HW2.out, HM2.out⟩

set_option maxRecDepth 100000 in
theorem manyShape_any {S : Nat → Prop} {w : World} {wb vb c n : Nat} {a : Option Addr} {v : Value} {xs : List Int} {l : List Api.Shape} (hw : Wr w wb v xs) (h : Arr S w a l) (hS : Free S w wb v) (hc : w.cell? ⟨vb, 0, none⟩ = some (.pointer (some ⟨wb, 0, none⟩))) (hvb : vb < w.heap.size) (hvw : vb ≠ wb) (hvv : v.ownBlock ≠ some vb) (hn : l.length = n) (hl : xs.length + (many fShape l).length ≤ 1000000000) :
    Calls Try.prog 64 #[.pointer (some ⟨wb, 0, none⟩), .slice a n c, .func (.func 65) #[] #[.pointer (some ⟨vb, 0, none⟩)]] w (Puts wb v xs (many fShape l) w) := by
  have hsm := h.small
  rw [hn] at hsm
  unfold maxLen at hsm
  have hen := fun args w => Try.call65 args w
  have h1 := many_one fShape l
  have HW := Lib.hid hw; have HN := Lib.hid hn; have HL := Lib.hid hl; have HFR := Lib.hid hS; have HC := Lib.hid hc; have HVB := Lib.hid hvb; have HVW := Lib.hid hvw; have HVV := Lib.hid hvv
  clear hw hn hc hvb hvw hvv
  go_enter Try.func64, Try.ntmps64
  go_wp2_with fail
  refine (put_new (n := 1) (ys := [(n : Int)]) (cs := [.int .i64 (n : Int)]) HW.out rfl rfl (by simp; unfold I64; omega) rfl (by omega) (by omega)).mono ?_
  rintro e w1 ⟨rfl, v1, hw1, hm1⟩
  have HW1 : Hid (Wr w1 wb v1 (xs ++ manyTo fShape l 0)) := by show Wr _ _ _ _; rw [manyTo_zero, HN.out]; exact hw1
  have HM1 := Lib.hid hm1
  clear hw1 hm1
  go_wp2_with fail
  go_loopw [15] (manyRel fShape l w wb v xs n) (fun i _ => n - (intOf i).toNat)
  case atStart => exact ⟨0, v1, Nat.zero_le _, rfl, HW1.out, HM1.out⟩
  case round =>
    obtain ⟨q, v', hq, rfl, hw', hm'⟩ := hrel
    have HW2 := Lib.hid hw'; have HM2 := Lib.hid hm'
    have h' := hm'.arr h hS
    have HFR2 := Lib.hid (HFR.out.moved hm')
    have HC2 := Lib.hid ((hm'.cell (o := 0) HVB.out HVW.out HVV.out).trans HC.out)
    have hsz2 : w.heap.size ≤ wr.heap.size := hm'.size
    clear hw' hm'
    by_cases hlt : q < n
    · obtain ⟨x, hx⟩ := get_lt HN.out hlt
      obtain ⟨b, off, rfl, hb, q1, q2, g1, g2⟩ := api_Shape_elem h' hx
      have hat := many_at (f := fShape) hx
      have HX := Lib.hid (manyTo_succ (f := fShape) hx)
      have HAT : Hid ((xs ++ manyTo fShape l q).length + (fShape x).length ≤ 1000000000) := by show _ ≤ _; rw [List.length_append]; have := HL.out; omega
      clear h h' hx hat
      go_wp2_with fail
      refine (shape_any (x := x) (HW2.out.alloc _) ((((Below.refl _ _).alloc (Nat.le_refl _) _).cell (p := ⟨vb, 0, none⟩) (Nat.lt_of_lt_of_le HVB.out hsz2)).trans HC2.out) (Nat.lt_of_lt_of_le (Nat.lt_of_lt_of_le HVB.out hsz2) (by simp)) g1 g2 HAT.out).mono ?_
      rintro e w3 ⟨rfl, v3, hw3, hm3⟩
      have HW3 : Hid (Wr w3 wb v3 (xs ++ manyTo fShape l (q + 1))) := by show Wr _ _ _ _; rw [HX.out, ← List.append_assoc]; exact hw3
      have HM3 := Lib.hid (HM2.out.trans ((Moved.alloc wb v' wr _).trans hm3))
      clear hw3 hm3
      go_wp2_with fail
      go_roundw
      case rel => exact ⟨q + 1, v3, by omega, by go_num, HW3.out, HM3.out⟩
      case measure => simp [intOf]; omega
    · obtain rfl : q = n := by omega
      have HF : Hid (xs ++ manyTo fShape l q = xs ++ many fShape l) := by show _ = _; rw [← HN.out, manyTo_all]
      clear h h'
      go_wp2_with fail
      refine bodyPost_end (results_none rfl _ _ _) rfl ?_
      exact ⟨rfl, v', by rw [← HF.out]; exact HW2.out, HM2.out⟩

set_option maxRecDepth 100000 in
theorem manyEnd_any {S : Nat → Prop} {w : World} {wb c n : Nat} {a : Option Addr} {v : Value} {xs : List Int} {l : List Api.End} (hw : Wr w wb v xs) (h : Arr S w a l) (hS : Free S w wb v) (hn : l.length = n) (hl : xs.length + (many fEnd l).length ≤ 1000000000) :
    Calls Try.prog 71 #[.pointer (some ⟨wb, 0, none⟩), .slice a n c, .func (.func 72) #[.pointer (some ⟨wb, 0, none⟩)] #[]] w (Puts wb v xs (many fEnd l) w) := by
  have hsm := h.small
  rw [hn] at hsm
  unfold maxLen at hsm
  have hen := fun args w => Try.call72 args w
  have h1 := many_one fEnd l
  have HW := Lib.hid hw; have HN := Lib.hid hn; have HL := Lib.hid hl; have HFR := Lib.hid hS
  clear hw hn
  go_enter Try.func71, Try.ntmps71
  go_wp2_with fail
  refine (put_new (n := 1) (ys := [(n : Int)]) (cs := [.int .i64 (n : Int)]) HW.out rfl rfl (by simp; unfold I64; omega) rfl (by omega) (by omega)).mono ?_
  rintro e w1 ⟨rfl, v1, hw1, hm1⟩
  have HW1 : Hid (Wr w1 wb v1 (xs ++ manyTo fEnd l 0)) := by show Wr _ _ _ _; rw [manyTo_zero, HN.out]; exact hw1
  have HM1 := Lib.hid hm1
  clear hw1 hm1
  go_wp2_with fail
  go_loopw [15] (manyRel fEnd l w wb v xs n) (fun i _ => n - (intOf i).toNat)
  case atStart => exact ⟨0, v1, Nat.zero_le _, rfl, HW1.out, HM1.out⟩
  case round =>
    obtain ⟨q, v', hq, rfl, hw', hm'⟩ := hrel
    have HW2 := Lib.hid hw'; have HM2 := Lib.hid hm'
    have h' := hm'.arr h hS
    have HFR2 := Lib.hid (HFR.out.moved hm')
    have hsz2 : w.heap.size ≤ wr.heap.size := hm'.size
    clear hw' hm'
    by_cases hlt : q < n
    · obtain ⟨x, hx⟩ := get_lt HN.out hlt
      obtain ⟨b, off, rfl, hb, q1, q2, q3, g1, g2, g3⟩ := api_End_elem h' hx
      have hat := many_at (f := fEnd) hx
      have HX := Lib.hid (manyTo_succ (f := fEnd) hx)
      have HAT : Hid ((xs ++ manyTo fEnd l q).length + (fEnd x).length ≤ 1000000000) := by show _ ≤ _; rw [List.length_append]; have := HL.out; omega
      clear h h' hx hat
      go_wp2_with fail
      refine (end_any (x := x) (HW2.out.alloc _) g1 g2 g3 HAT.out).mono ?_
      rintro e w3 ⟨rfl, v3, hw3, hm3⟩
      have HW3 : Hid (Wr w3 wb v3 (xs ++ manyTo fEnd l (q + 1))) := by show Wr _ _ _ _; rw [HX.out, ← List.append_assoc]; exact hw3
      have HM3 := Lib.hid (HM2.out.trans ((Moved.alloc wb v' wr _).trans hm3))
      clear hw3 hm3
      go_wp2_with fail
      go_roundw
      case rel => exact ⟨q + 1, v3, by omega, by go_num, HW3.out, HM3.out⟩
      case measure => simp [intOf]; omega
    · obtain rfl : q = n := by omega
      have HF : Hid (xs ++ manyTo fEnd l q = xs ++ many fEnd l) := by show _ = _; rw [← HN.out, manyTo_all]
      clear h h'
      go_wp2_with fail
      refine bodyPost_end (results_none rfl _ _ _) rfl ?_
      exact ⟨rfl, v', by rw [← HF.out]; exact HW2.out, HM2.out⟩

set_option maxRecDepth 100000 in
theorem manyByte_any {S : Nat → Prop} {w : World} {wb vb c n : Nat} {a : Option Addr} {v : Value} {xs : List Int} {l : List UInt8} (hw : Wr w wb v xs) (h : Arr S w a l) (hS : Free S w wb v) (hc : w.cell? ⟨vb, 0, none⟩ = some (.pointer (some ⟨wb, 0, none⟩))) (hvb : vb < w.heap.size) (hvw : vb ≠ wb) (hvv : v.ownBlock ≠ some vb) (hn : l.length = n) (hl : xs.length + (many fByte l).length ≤ 1000000000) :
    Calls Try.prog 128 #[.pointer (some ⟨wb, 0, none⟩), .slice a n c, .func (.func 129) #[] #[.pointer (some ⟨vb, 0, none⟩)]] w (Puts wb v xs (many fByte l) w) := by
  have hsm := h.small
  rw [hn] at hsm
  unfold maxLen at hsm
  have hen := fun args w => Try.call129 args w
  have h1 := many_one fByte l
  have HW := Lib.hid hw; have HN := Lib.hid hn; have HL := Lib.hid hl; have HFR := Lib.hid hS; have HC := Lib.hid hc; have HVB := Lib.hid hvb; have HVW := Lib.hid hvw; have HVV := Lib.hid hvv
  clear hw hn hc hvb hvw hvv
  go_enter Try.func128, Try.ntmps128
  go_wp2_with fail
  refine (put_new (n := 1) (ys := [(n : Int)]) (cs := [.int .i64 (n : Int)]) HW.out rfl rfl (by simp; unfold I64; omega) rfl (by omega) (by omega)).mono ?_
  rintro e w1 ⟨rfl, v1, hw1, hm1⟩
  have HW1 : Hid (Wr w1 wb v1 (xs ++ manyTo fByte l 0)) := by show Wr _ _ _ _; rw [manyTo_zero, HN.out]; exact hw1
  have HM1 := Lib.hid hm1
  clear hw1 hm1
  go_wp2_with fail
  go_loopw [15] (manyRel fByte l w wb v xs n) (fun i _ => n - (intOf i).toNat)
  case atStart => exact ⟨0, v1, Nat.zero_le _, rfl, HW1.out, HM1.out⟩
  case round =>
    obtain ⟨q, v', hq, rfl, hw', hm'⟩ := hrel
    have HW2 := Lib.hid hw'; have HM2 := Lib.hid hm'
    have h' := hm'.arr h hS
    have HFR2 := Lib.hid (HFR.out.moved hm')
    have HC2 := Lib.hid ((hm'.cell (o := 0) HVB.out HVW.out HVV.out).trans HC.out)
    have hsz2 : w.heap.size ≤ wr.heap.size := hm'.size
    clear hw' hm'
    by_cases hlt : q < n
    · obtain ⟨x, hx⟩ := get_lt HN.out hlt
      obtain ⟨b, off, rfl, hb, q1⟩ := arr_u8 h' hx
      have hat := many_at (f := fByte) hx
      have HX := Lib.hid (manyTo_succ (f := fByte) hx)
      have HAT : Hid ((xs ++ manyTo fByte l q).length + (fByte x).length ≤ 1000000000) := by show _ ≤ _; rw [List.length_append]; have := HL.out; omega
      clear h h' hx hat
      go_wp2_with fail
      refine (byte_any (b := x) HW2.out HC2.out HAT.out).mono ?_
      rintro e w3 ⟨rfl, v3, hw3, hm3⟩
      have HW3 : Hid (Wr w3 wb v3 (xs ++ manyTo fByte l (q + 1))) := by show Wr _ _ _ _; rw [HX.out, ← List.append_assoc]; exact hw3
      have HM3 := Lib.hid (HM2.out.trans hm3)
      clear hw3 hm3
      go_wp2_with fail
      go_roundw
      case rel => exact ⟨q + 1, v3, by omega, by go_num, HW3.out, HM3.out⟩
      case measure => simp [intOf]; omega
    · obtain rfl : q = n := by omega
      have HF : Hid (xs ++ manyTo fByte l q = xs ++ many fByte l) := by show _ = _; rw [← HN.out, manyTo_all]
      clear h h'
      go_wp2_with fail
      refine bodyPost_end (results_none rfl _ _ _) rfl ?_
      exact ⟨rfl, v', by rw [← HF.out]; exact HW2.out, HM2.out⟩
end Go.Proofs.Ytimlhjjdaggiiaa.flat
