/- SnapFlats, plain: the flat list is no longer than the state's bulk. -/
import Derived.Test.YtimlhjjdaggiiaaFlatPlain
import Derived.Test.YtimlhjjdaggiiaaTyB
set_option linter.unusedVariables false
set_option linter.unusedSimpArgs false
namespace Go.Proofs.Ytimlhjjdaggiiaa.flat
open Go.Bk Go.RowKit

theorem many_bulk {α : Type} [Bulk α] {f : α → List Int} (h : ∀ x, (f x).length = Bulk.bulk x) (l : List α) : (many f l).length = Bulk.bulk l := by
  show ((l.length : Int) :: (l.map f).flatten).length = sumOf Bulk.bulk l + 1
  rw [List.length_cons]
  congr 1
  induction l with
  | nil => rfl
  | cons x l ih => simp only [List.map_cons, List.flatten_cons, List.length_append, sumOf, ih, h]
theorem val_bulk (x : Api.Val) : (fVal x).length = Bulk.bulk x := rfl
theorem try_bulk (x : Api.Try) : (fTry x).length = Bulk.bulk x := rfl
theorem shape_bulk (x : Api.Shape) : (fShape x).length = Bulk.bulk x := rfl
theorem end_bulk (x : Api.End) : (fEnd x).length = Bulk.bulk x := rfl
theorem int_bulk (x : Int) : Bulk.bulk x = 1 := rfl
theorem text_bulk (s : ByteArray) : (fText s).length = Bulk.bulk s := by
  show (many fByte s.data.toList).length = s.size + 1
  rw [many_bulk (f := fByte) (fun _ => rfl)]
  show sumOf (fun _ => 1) s.data.toList + 1 = s.size + 1
  have : ∀ l : List UInt8, sumOf (fun _ => 1) l = l.length := fun l => by induction l with
    | nil => rfl
    | cons x l ih => simp only [sumOf, ih, List.length_cons]; omega
  rw [this]; simp
theorem frame_bulk (x : Api.Frame) : (fFrame x).length = Bulk.bulk x := by
  rw [api_Frame_bulk]
  simp only [fFrame, List.length_append, List.length_cons, List.length_nil, many_bulk val_bulk, many_bulk try_bulk, val_bulk, int_bulk]
  omega
theorem cell_bulk (x : Api.Cell) : (fCell x).length = Bulk.bulk x := by
  rw [api_Cell_bulk]
  simp only [fCell, List.length_append, List.length_cons, List.length_nil, many_bulk val_bulk, many_bulk frame_bulk, int_bulk]
  omega
theorem thread_bulk (x : Api.Thread) : (fThread x).length = Bulk.bulk x := by
  rw [api_Thread_bulk]
  simp only [fThread, List.length_append, List.length_cons, List.length_nil, val_bulk, many_bulk frame_bulk, int_bulk]
  omega
theorem state_bulk (x : Api.State) : (fState x).length = Bulk.bulk x := by
  rw [api_State_bulk]
  simp only [fState, List.length_append, List.length_cons, List.length_nil, many_bulk val_bulk, many_bulk cell_bulk, many_bulk thread_bulk, many_bulk end_bulk, many_bulk text_bulk, many_bulk shape_bulk, int_bulk]
  omega
end Go.Proofs.Ytimlhjjdaggiiaa.flat
