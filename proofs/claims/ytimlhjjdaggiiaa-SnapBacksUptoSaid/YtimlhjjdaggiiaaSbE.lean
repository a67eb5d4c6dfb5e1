/- SnapBacks: an octet, an end, a frame, read. -/
import Derived.Test.YtimlhjjdaggiiaaSbD
set_option linter.unusedVariables false
set_option linter.unusedSimpArgs false
namespace Go.Proofs.Ytimlhjjdaggiiaa.flat
open Go.Bk Go.RowKit

theorem Rdr.flag {S0 : Nat → Prop} {w : World} {rb : Nat} {st : Option (List Int)} {v : Value} (h : Rdr S0 w rb st) (hv : v = .bool st.isNone) : Rdr S0 (w.setCell ⟨rb, 1, none⟩ v) rb st := by
  subst hv
  obtain ⟨a, n, c, h1, h2⟩ := h.at'
  exact ⟨⟨a, n, c, h1.set 1 _, fun xs hx => by
    obtain ⟨k1, k2, k3, k4, k5⟩ := h2 xs hx
    exact ⟨k1, k2, k3, k4, k5.keep (fun b hb => blk_setCell_other _ _ _ (h.free b hb).2)⟩⟩, fun b hb => by rw [size_setCell]; exact h.free b hb⟩
theorem Step.octet_bad {st : Option (List Int)} {x : Int} {ys : List Int} {b : UInt8} (h : st = some (x :: ys)) (hx : x < 0 ∨ 255 < x) : Step fByte st b none := by
  subst h
  refine .inr ⟨rfl, fun y zs e => ?_⟩
  injection e with e
  unfold fByte at e
  injection e with e1 e2
  have := y.toNat_lt
  omega
theorem Step.octet {st : Option (List Int)} {x : Int} {ys : List Int} {b : UInt8} (h : st = some (x :: ys)) (hx : x = b.toNat) : Step fByte st b (some ys) := by
  subst h hx
  exact .inl ⟨ys, rfl, rfl⟩
theorem Step.octet_none {st : Option (List Int)} {x : Int} {b : UInt8} (h : Step fNum st x none) : Step fByte st b none := by
  rcases h with ⟨zs, -, e⟩ | ⟨-, h⟩
  · cases e
  · exact .inr ⟨rfl, fun y ys e => h y.toNat ys e⟩

theorem octet_val (x : Int) : x % 256 = ((UInt8.ofNat (x % 256).toNat).toNat : Int) := by simp; omega
theorem octet_val2 (x : Int) (h : 0 ≤ x) (h2 : x ≤ 255) : x = ((UInt8.ofNat x.toNat).toNat : Int) := by simp; omega
set_option maxRecDepth 100000 in
theorem roctet_any {S0 : Nat → Prop} {w : World} {rb : Nat} {st : Option (List Int)} (h : Rdr S0 w rb st) :
    Calls Try.prog 143 #[.pointer (some ⟨rb, 0, none⟩)] w (ItemPost fByte mkOne S0 rb w st) := by
  have HR := Lib.hid h
  clear h
  go_enter Try.func143, Try.ntmps143
  go_wp2_with fail
  refine (num_any HR.out).mono ?_
  rintro e w1 ⟨x1, st1, rfl, i1, hw1, hr1, hs1, hz⟩
  have HW1 := Lib.hid hw1; have HS1 := Lib.hid hs1; have HR1 := Lib.hid hr1
  obtain ⟨a, n, c, hb, -⟩ := hr1.at'
  have q1 := hb.cell (j := 1) rfl
  have f1 := hb.frozen 1
  cases st1 with
  | none =>
    have hx0 := hz rfl
    subst hx0
    simp only [Option.isNone_none] at q1
    clear hw1 hr1 hs1 hz hb
    go_wp2_with fail
    go_ret
    exact ⟨[.int .u8 0], 0, none, rfl, rfl, HW1.out.set (.inl rfl) _, HR1.out.bad, HS1.out.octet_none⟩
  | some ys =>
    have HST := Lib.hid hs1.num_some
    simp only [Option.isNone_some] at q1
    clear hw1 hr1 hs1 hz hb
    by_cases hneg : x1 < 0
    · have z1 : decide (x1 < 0) = true := decide_eq_true hneg
      go_wp2_with fail
      go_ret
      exact ⟨[.int .u8 (UInt8.ofNat (x1 % 256).toNat).toNat], _, none, congrArg (fun z => Ending.returned (.int .u8 z)) (octet_val x1), rfl, HW1.out.set (.inl rfl) _, HR1.out.bad, Step.octet_bad HST.out (by omega)⟩
    · by_cases hbig : 255 < x1
      · go_wp2_with fail
        go_ret
        exact ⟨[.int .u8 (UInt8.ofNat (x1 % 256).toNat).toNat], _, none, congrArg (fun z => Ending.returned (.int .u8 z)) (octet_val x1), rfl, HW1.out.set (.inl rfl) _, HR1.out.bad, Step.octet_bad HST.out (by omega)⟩
      · go_wp2_with fail
        go_ret
        exact ⟨[.int .u8 (UInt8.ofNat x1.toNat).toNat], _, some ys, congrArg (fun z => Ending.returned (.int .u8 z)) (octet_val2 x1 (by omega) (by omega)), rfl, HW1.out.set (.inl rfl) _, HR1.out.flag (by simp; omega), Step.octet HST.out (octet_val2 x1 (by omega) (by omega))⟩

set_option maxRecDepth 100000 in
theorem rend_any {S0 : Nat → Prop} {w : World} {rb : Nat} {st : Option (List Int)} (h : Rdr S0 w rb st) :
    Calls Try.prog 110 #[.pointer (some ⟨rb, 0, none⟩)] w (ItemPost fEnd mkAgg S0 rb w st) := by
  have HR := Lib.hid h
  have hlt := h.lt
  have HF0 : Hid (¬ S0 w.heap.size) := fun hs => Nat.lt_irrefl _ (h.free _ hs).1
  have hbx := blk_new w [.int .i64 0, .int .i64 0, .int .i64 0] 145
  have HX := Lib.hid hbx
  clear h hbx
  go_enter Try.func110, Try.ntmps110
  go_wp2_with fail
  refine (num_any (HR.out.alloc _)).mono ?_
  rintro e w1 ⟨x1, st1, rfl, i1, hw1, hr1, hs1, -⟩
  have HW1 := Lib.hid ((Wrote.alloc rb w _).trans hw1); have HR1 := Lib.hid hr1; have HS1 := Lib.hid hs1
  have HX1 := Lib.hid (hw1.blk HX.out (by omega))
  have c0 := HX1.out.cell (j := 0) rfl
  have f0 := HX1.out.frozen 0
  have hx1 := HX1.out.lt
  clear hw1 hr1 hs1
  go_wp2_with fail
  refine (rval_any (HR1.out.set (by omega) HF0.out _)).mono ?_
  rintro e w2 ⟨cs, x2, st2, he, hcs, hw2, hr2, hs2⟩
  obtain ⟨rfl, -⟩ := api_Val_cells_eq hcs
  simp only [mkAgg] at he
  subst he
  have HX2 := Lib.hid (hw2.blk (HX1.out.set 0 _) (by omega))
  have c0 := HX2.out.cell (j := 0) rfl
  have c1 := HX2.out.cell (j := 1) rfl
  have c2 := HX2.out.cell (j := 2) rfl
  have f0 := HX2.out.frozen 0
  have f1 := HX2.out.frozen 1
  have f2 := HX2.out.frozen 2
  have hx2 := HX2.out.lt
  have HS2 := Lib.hid (((HS1.out.seq pf_num hs2)).conv (g := fEnd) (fun p => (⟨p.1, p.2⟩ : Api.End)) (fun _ => rfl) (fun y => ⟨(y.Cell, y.Fn), rfl⟩))
  have HW2 := Lib.hid ((HW1.out.set (.inr (Nat.le_refl _)) _).trans hw2); have HR2 := Lib.hid hr2
  clear hw2 hr2 hs2
  obtain ⟨g1, g2⟩ : I64 x2.Kind ∧ I64 x2.N := by obtain ⟨-, h1, h2⟩ := api_Val_cells_eq hcs; exact ⟨h1, h2⟩
  clear hcs
  go_wp2_with fail
  have HX3 : Hid (Blk (((((w2.setCell ⟨w.heap.size, 1, none⟩ (.int .i64 x2.Kind)).setCell ⟨w.heap.size, 2, none⟩ (.int .i64 x2.N)).setCell ⟨w.heap.size, 0, none⟩ (.int .i64 x1)).setCell ⟨w.heap.size, 1, none⟩ (.int .i64 x2.Kind)).setCell ⟨w.heap.size, 2, none⟩ (.int .i64 x2.N)) w.heap.size 145 [.int .i64 x1, .int .i64 x2.Kind, .int .i64 x2.N]) := ((((HX2.out.set 1 _).set 2 _).set 0 _).set 1 _).set 2 _
  (try simp only [Exit.inBlock, Exit.then])
  refine bodyPost_ret (results_cell_row rfl _ _ _ _ _ _ _ rfl HX3.out Try.underlying145 rfl rfl) rfl ?_
  exact ⟨_, ⟨x1, x2⟩, st2, rfl, api_End_cells_mk i1 g1 g2, ((((HW2.out.set (.inr (Nat.le_refl _)) _).set (.inr (Nat.le_refl _)) _).set (.inr (Nat.le_refl _)) _).set (.inr (Nat.le_refl _)) _).set (.inr (Nat.le_refl _)) _, ((((HR2.out.set (by omega) HF0.out _).set (by omega) HF0.out _).set (by omega) HF0.out _).set (by omega) HF0.out _).set (by omega) HF0.out _, HS2.out⟩
end Go.Proofs.Ytimlhjjdaggiiaa.flat
