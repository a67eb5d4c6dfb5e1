/- SnapBacks: the items of two numbers, read (printed by gen_sb1.py). -/
import Derived.Test.YtimlhjjdaggiiaaSbA
import Derived.Test.YtimlhjjdaggiiaaTy
import Derived.Laws.Rows
set_option linter.unusedVariables false
set_option linter.unusedSimpArgs false
namespace Go.Proofs.Ytimlhjjdaggiiaa.flat
open Go.Bk Go.RowKit

/-- What an item's call hands back: its cells, as new; the reader moved on. -/
def ItemPost {α : Type} [Rep α] (f : α → List Int) (mk : List Value → Value) (S0 : Nat → Prop) (rb : Nat) (w : World) (st : Option (List Int)) (e : Ending) (w' : World) : Prop :=
  ∃ (cs : List Value) (x : α) (st' : Option (List Int)), e = .returned (mk cs) ∧ Rep.cells (Fresh w w') w' cs x ∧ Wrote rb w w' ∧ Rdr S0 w' rb st' ∧ Step f st x st'
def mkAgg (cs : List Value) : Value := .agg cs.toArray
theorem Step.two {st st1 st2 : Option (List Int)} {x y : Int} (h1 : Step fNum st x st1) (h2 : Step fNum st1 y st2) : Step (fun p : Int × Int => [p.1, p.2]) st (x, y) st2 := (Step.seq pf_num h1 h2).conv id (fun _ => rfl) (fun y => ⟨y, rfl⟩)


set_option maxRecDepth 100000 in
theorem rval_any {S0 : Nat → Prop} {w : World} {rb : Nat} {st : Option (List Int)} (h : Rdr S0 w rb st) :
    Calls Try.prog 112 #[.pointer (some ⟨rb, 0, none⟩)] w (ItemPost fVal mkAgg S0 rb w st) := by
  have HR := Lib.hid h
  have hlt := h.lt
  have HF0 : Hid (¬ S0 w.heap.size) := fun hs => Nat.lt_irrefl _ (h.free _ hs).1
  have hbx := blk_new w [.int .i64 0, .int .i64 0] 48
  have HX := Lib.hid hbx
  clear h hbx
  go_enter Try.func112, Try.ntmps112
  go_wp2_with fail
  refine (num_any (HR.out.alloc _)).mono ?_
  rintro e w1 ⟨x1, st1, rfl, i1, hw1, hr1, hs1, -⟩
  have HW1 := Lib.hid ((Wrote.alloc rb w _).trans hw1); have HR1 := Lib.hid hr1; have HS1 := Lib.hid hs1
  have HX1 := Lib.hid (hw1.blk HX.out (by omega))
  clear hw1 hr1 hs1
  go_wp2_with fail
  refine (num_any HR1.out).mono ?_
  rintro e w2 ⟨x2, st2, rfl, i2, hw2, hr2, hs2, -⟩
  have HX2 := Lib.hid (hw2.blk HX1.out (by omega))
  have HW2 := Lib.hid (HW1.out.trans hw2); have HR2 := Lib.hid hr2
  have HS2 := Lib.hid ((HS1.out.two hs2).conv (g := fVal) (fun p => (⟨p.1, p.2⟩ : Api.Val)) (fun _ => rfl) (fun y => ⟨(y.Kind, y.N), rfl⟩))
  have c0 := HX2.out.cell (j := 0) rfl
  have c1 := HX2.out.cell (j := 1) rfl
  have f0 := HX2.out.frozen 0
  have f1 := HX2.out.frozen 1
  have hx2 := HX2.out.lt
  clear hw2 hr2 hs2
  go_wp2_with fail
  have HX3 : Hid (Blk ((w2.setCell ⟨w.heap.size, 0, none⟩ (.int .i64 x1)).setCell ⟨w.heap.size, 1, none⟩ (.int .i64 x2)) w.heap.size 48 [.int .i64 x1, .int .i64 x2]) := (HX2.out.set 0 _).set 1 _
  (try simp only [Exit.inBlock, Exit.then])
  refine bodyPost_ret (results_cell_row rfl _ _ _ _ _ _ _ rfl HX3.out Try.underlying48 rfl rfl) rfl ?_
  exact ⟨[.int .i64 x1, .int .i64 x2], ⟨x1, x2⟩, st2, rfl, api_Val_cells_mk i1 i2, (HW2.out.set (.inr (Nat.le_refl _)) _).set (.inr (Nat.le_refl _)) _, (HR2.out.set (by omega) HF0.out _).set (by omega) HF0.out _, HS2.out⟩

set_option maxRecDepth 100000 in
theorem rtry_any {S0 : Nat → Prop} {w : World} {rb : Nat} {st : Option (List Int)} (h : Rdr S0 w rb st) :
    Calls Try.prog 153 #[.pointer (some ⟨rb, 0, none⟩)] w (ItemPost fTry mkAgg S0 rb w st) := by
  have HR := Lib.hid h
  have hlt := h.lt
  have HF0 : Hid (¬ S0 w.heap.size) := fun hs => Nat.lt_irrefl _ (h.free _ hs).1
  have hbx := blk_new w [.int .i64 0, .int .i64 0] 212
  have HX := Lib.hid hbx
  clear h hbx
  go_enter Try.func153, Try.ntmps153
  go_wp2_with fail
  refine (num_any (HR.out.alloc _)).mono ?_
  rintro e w1 ⟨x1, st1, rfl, i1, hw1, hr1, hs1, -⟩
  have HW1 := Lib.hid ((Wrote.alloc rb w _).trans hw1); have HR1 := Lib.hid hr1; have HS1 := Lib.hid hs1
  have HX1 := Lib.hid (hw1.blk HX.out (by omega))
  clear hw1 hr1 hs1
  go_wp2_with fail
  refine (num_any HR1.out).mono ?_
  rintro e w2 ⟨x2, st2, rfl, i2, hw2, hr2, hs2, -⟩
  have HX2 := Lib.hid (hw2.blk HX1.out (by omega))
  have HW2 := Lib.hid (HW1.out.trans hw2); have HR2 := Lib.hid hr2
  have HS2 := Lib.hid ((HS1.out.two hs2).conv (g := fTry) (fun p => (⟨p.1, p.2⟩ : Api.Try)) (fun _ => rfl) (fun y => ⟨(y.Reg, y.At), rfl⟩))
  have c0 := HX2.out.cell (j := 0) rfl
  have c1 := HX2.out.cell (j := 1) rfl
  have f0 := HX2.out.frozen 0
  have f1 := HX2.out.frozen 1
  have hx2 := HX2.out.lt
  clear hw2 hr2 hs2
  go_wp2_with fail
  have HX3 : Hid (Blk ((w2.setCell ⟨w.heap.size, 0, none⟩ (.int .i64 x1)).setCell ⟨w.heap.size, 1, none⟩ (.int .i64 x2)) w.heap.size 212 [.int .i64 x1, .int .i64 x2]) := (HX2.out.set 0 _).set 1 _
  (try simp only [Exit.inBlock, Exit.then])
  refine bodyPost_ret (results_cell_row rfl _ _ _ _ _ _ _ rfl HX3.out Try.underlying212 rfl rfl) rfl ?_
  exact ⟨[.int .i64 x1, .int .i64 x2], ⟨x1, x2⟩, st2, rfl, api_Try_cells_mk i1 i2, (HW2.out.set (.inr (Nat.le_refl _)) _).set (.inr (Nat.le_refl _)) _, (HR2.out.set (by omega) HF0.out _).set (by omega) HF0.out _, HS2.out⟩

set_option maxRecDepth 100000 in
theorem rshape_any {S0 : Nat → Prop} {w : World} {rb : Nat} {st : Option (List Int)} (h : Rdr S0 w rb st) :
    Calls Try.prog 104 #[.pointer (some ⟨rb, 0, none⟩)] w (ItemPost fShape mkAgg S0 rb w st) := by
  have HR := Lib.hid h
  have hlt := h.lt
  have HF0 : Hid (¬ S0 w.heap.size) := fun hs => Nat.lt_irrefl _ (h.free _ hs).1
  have hbx := blk_new w [.int .i64 0, .int .i64 0] 134
  have HX := Lib.hid hbx
  clear h hbx
  go_enter Try.func104, Try.ntmps104
  go_wp2_with fail
  refine (num_any (HR.out.alloc _)).mono ?_
  rintro e w1 ⟨x1, st1, rfl, i1, hw1, hr1, hs1, -⟩
  have HW1 := Lib.hid ((Wrote.alloc rb w _).trans hw1); have HR1 := Lib.hid hr1; have HS1 := Lib.hid hs1
  have HX1 := Lib.hid (hw1.blk HX.out (by omega))
  clear hw1 hr1 hs1
  go_wp2_with fail
  refine (num_any HR1.out).mono ?_
  rintro e w2 ⟨x2, st2, rfl, i2, hw2, hr2, hs2, -⟩
  have HX2 := Lib.hid (hw2.blk HX1.out (by omega))
  have HW2 := Lib.hid (HW1.out.trans hw2); have HR2 := Lib.hid hr2
  have HS2 := Lib.hid ((HS1.out.two hs2).conv (g := fShape) (fun p => (⟨p.1, p.2⟩ : Api.Shape)) (fun _ => rfl) (fun y => ⟨(y.Up, y.Name), rfl⟩))
  have c0 := HX2.out.cell (j := 0) rfl
  have c1 := HX2.out.cell (j := 1) rfl
  have f0 := HX2.out.frozen 0
  have f1 := HX2.out.frozen 1
  have hx2 := HX2.out.lt
  clear hw2 hr2 hs2
  go_wp2_with fail
  have HX3 : Hid (Blk ((w2.setCell ⟨w.heap.size, 0, none⟩ (.int .i64 x1)).setCell ⟨w.heap.size, 1, none⟩ (.int .i64 x2)) w.heap.size 134 [.int .i64 x1, .int .i64 x2]) := (HX2.out.set 0 _).set 1 _
  (try simp only [Exit.inBlock, Exit.then])
  refine bodyPost_ret (results_cell_row rfl _ _ _ _ _ _ _ rfl HX3.out Try.underlying134 rfl rfl) rfl ?_
  exact ⟨[.int .i64 x1, .int .i64 x2], ⟨x1, x2⟩, st2, rfl, api_Shape_cells_mk i1 i2, (HW2.out.set (.inr (Nat.le_refl _)) _).set (.inr (Nat.le_refl _)) _, (HR2.out.set (by omega) HF0.out _).set (by omega) HF0.out _, HS2.out⟩
end Go.Proofs.Ytimlhjjdaggiiaa.flat
