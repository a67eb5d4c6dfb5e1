/- General: a struct that lies whole in a block, loaded whole, its cells not written out. No program is named here. -/
import Derived.Test.YtjlnaiiajlahgaaDoorMem
import Derived.Laws.Rows
import Derived.BigQuiet
import Derived.BigFrame
set_option linter.unusedVariables false
set_option linter.unusedSimpArgs false
namespace Go.Bk
open Go.RowKit

/-- Block g holds just the cells X. -/
def Row (w : World) (g : Nat) (e : TypeId) (X : Array Value) : Prop := w.heap[g]? = some (.cells X e (0, 0))
theorem Row.lt {w : World} {g : Nat} {e : TypeId} {X : Array Value} (h : Row w g e X) : g < w.heap.size := (Array.getElem?_eq_some_iff.1 h).1
theorem Row.keep {w w' : World} {g : Nat} {e : TypeId} {X : Array Value} (hk : w'.heap[g]? = w.heap[g]?) (h : Row w g e X) : Row w' g e X := hk.trans h
theorem Row.blk {w : World} {g : Nat} {e : TypeId} {X : Array Value} (h : Row w g e X) : Blk w g e X.toList := by unfold Row at h; unfold Blk; simpa using h
theorem row_new (w : World) (X : Array Value) (e : TypeId) : Row (w.alloc (.cells X e)) w.heap.size e X := heap_alloc_new _ _
theorem Row.cell {w : World} {g : Nat} {e : TypeId} {X : Array Value} (h : Row w g e X) {j : Nat} {v : Value} (hj : X.toList[j]? = some v) : w.cell? ⟨g, j, none⟩ = some v := h.blk.cell hj
section
variable {P : Program} {ops : Array Oper} {C : World → Prop} {Q : Exit → Act → World → Prop} {a : Act} {o : Oper} {w : World} {rest : List Oper}
theorem run_load_row (ty : TypeId) (x : Operand) (ho : o.op = .load ty x) (g : Nat) (hx : a.eval x = .pointer (some ⟨g, 0, none⟩)) (t : TypeId) (X : Array Value) (hg : Row w g t X)
    (d : TypeDesc) (hu : P.underlying ty = some d) (hd : (match d with | .struct _ | .array _ _ => true | _ => false) = true) (hi : (P.info? ty).map (·.size) = some X.size) :
    (execOp a.eval o).run P w = .ok (.value (.agg X)) w := by
  unfold execOp
  simp only [ho, hx, Instr.loadAt, Instr.sureAddr, Sem.run_bind, Sem.run_pure, Result.andThen_ok, run_loadVar_row w g t ty X (0, 0) d hg hu hd hi]
theorem quiet_load_row {K : Act → Prop} (ty : TypeId) (x : Operand) (ho : o.op = .load ty x) (g : Nat) (hx : a.eval x = .pointer (some ⟨g, 0, none⟩)) (t : TypeId) (X : Array Value) (hg : ∀ w, C w → Row w g t X)
    (d : TypeDesc) (hu : P.underlying ty = some d) (hd : (match d with | .struct _ | .array _ _ => true | _ => false) = true) (hi : (P.info? ty).map (·.size) = some X.size)
    (hk : K (a.put o.dst (.agg X))) : o.quiet P a C K :=
  ⟨_, fun w hw => by unfold Oper.quietAt; rw [run_load_row ty x ho g hx t X (hg w hw) d hu hd hi]; exact ⟨rfl, rfl⟩, hk⟩
theorem wp_load_rowX (hw : Region.wanted o (yielded ops a.tmps) = true) (ty : TypeId) (x : Operand) (ho : o.op = .load ty x) (g : Nat) (hx : a.eval x = .pointer (some ⟨g, 0, none⟩)) (t : TypeId) (X : Array Value) (hg : Row w g t X)
    (d : TypeDesc) (hu : P.underlying ty = some d) (hd : (match d with | .struct _ | .array _ _ => true | _ => false) = true) (hi : (P.info? ty).map (·.size) = some X.size)
    (h : wpList P ops Q rest (a.put o.dst (.agg X)) w) : wpList P ops Q (o :: rest) a w :=
  BigFrame.wpList_want hw fun K hK => wp_load_row ty x ho g hx t X (0, 0) d hg hu hd hi (hK _ _ h)
end
end Go.Bk
