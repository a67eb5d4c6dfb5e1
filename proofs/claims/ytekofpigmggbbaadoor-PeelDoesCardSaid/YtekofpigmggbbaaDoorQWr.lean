/- General: a struct that lies whole in a block, loaded whole, its cells not written out. No program is named here. -/
import Derived.Test.YtekofpigmggbbaaDoorQMem
import Derived.Laws.Rows
import Derived.BigQuiet
import Derived.BigFrame
set_option linter.unusedVariables false
set_option linter.unusedSimpArgs false
namespace Go.Bk
open Go.RowKit

/-- Block g holds just the cells X. -/
def Row (w : World) (g : Nat) (e : TypeId) (X : Array Value) : Prop := w.heap[g]? = some (.cells X e (0, 0))
theorem Row.lt {w : World} {g : Nat} {e : TypeId} {X : Array Value} (h : Row w g e X) : g < w.heap.size := (Array.getElem?_eq_some_iff.1 h).1
theorem Row.keep {w w' : World} {g : Nat} {e : TypeId} {X : Array Value} (hk : w'.heap[g]? = w.heap[g]?) (h : Row w g e X) : Row w' g e X := hk.trans h
theorem Row.blk {w : World} {g : Nat} {e : TypeId} {X : Array Value} (h : Row w g e X) : Blk w g e X.toList := by unfold Row at h; unfold Blk; simpa using h
theorem row_new (w : World) (X : Array Value) (e : TypeId) : Row (w.alloc (.cells X e)) w.heap.size e X := heap_alloc_new _ _
theorem Row.cell {w : World} {g : Nat} {e : TypeId} {X : Array Value} (h : Row w g e X) {j : Nat} {v : Value} (hj : X.toList[j]? = some v) : w.cell? ⟨g, j, none⟩ = some v := h.blk.cell hj
section
variable {P : Program} {ops : Array Oper} {C : World → Prop} {Q : Exit → Act → World → Prop} {a : Act} {o : Oper} {w : World} {rest : List Oper}
theorem run_load_row (ty : TypeId) (x : Operand) (ho : o.op = .load ty x) (g : Nat) (hx : a.eval x = .pointer (some ⟨g, 0, none⟩)) (t : TypeId) (X : Array Value) (hg : Row w g t X)
    (d : TypeDesc) (hu : P.underlying ty = some d) (hd : (match d with | .struct _ | .array _ _ => true | _ => false) = true) (hi : (P.info? ty).map (·.size) = some X.size) :
    (execOp a.eval o).run P w = .ok (.value (.agg X)) w := by
  unfold execOp
  simp only [ho, hx, Instr.loadAt, Instr.sureAddr, Sem.run_bind, Sem.run_pure, Result.andThen_ok, run_loadVar_row w g t ty X (0, 0) d hg hu hd hi]
theorem quiet_load_row {K : Act → Prop} (ty : TypeId) (x : Operand) (ho : o.op = .load ty x) (g : Nat) (hx : a.eval x = .pointer (some ⟨g, 0, none⟩)) (t : TypeId) (X : Array Value) (hg : ∀ w, C w → Row w g t X)
    (d : TypeDesc) (hu : P.underlying ty = some d) (hd : (match d with | .struct _ | .array _ _ => true | _ => false) = true) (hi : (P.info? ty).map (·.size) = some X.size)
    (hk : K (a.put o.dst (.agg X))) : o.quiet P a C K :=
  ⟨_, fun w hw => by unfold Oper.quietAt; rw [run_load_row ty x ho g hx t X (hg w hw) d hu hd hi]; exact ⟨rfl, rfl⟩, hk⟩
theorem wp_load_rowX (hw : Region.wanted o (yielded ops a.tmps) = true) (ty : TypeId) (x : Operand) (ho : o.op = .load ty x) (g : Nat) (hx : a.eval x = .pointer (some ⟨g, 0, none⟩)) (t : TypeId) (X : Array Value) (hg : Row w g t X)
    (d : TypeDesc) (hu : P.underlying ty = some d) (hd : (match d with | .struct _ | .array _ _ => true | _ => false) = true) (hi : (P.info? ty).map (·.size) = some X.size)
    (h : wpList P ops Q rest (a.put o.dst (.agg X)) w) : wpList P ops Q (o :: rest) a w :=
  BigFrame.wpList_want hw fun K hK => wp_load_row ty x ho g hx t X (0, 0) d hg hu hd hi (hK _ _ h)
end
end Go.Bk

/- General: from world to world only one old block is written. No program is named here. -/
namespace Go.Bk
open Go.RowKit

/-- From w to w' the blocks below N were left, but for wb. -/
structure Wr (N wb : Nat) (w w' : World) : Prop where
  os : w'.os = w.os
  tape : w'.tape = w.tape
  output : w'.output = w.output
  size : w.heap.size ≤ w'.heap.size
  block : ∀ k, k < N → k ≠ wb → w'.heap[k]? = w.heap[k]?
section
variable {N M wb : Nat} {w w1 w2 : World}
theorem Wr.refl (N wb : Nat) (w : World) : Wr N wb w w := ⟨rfl, rfl, rfl, Nat.le_refl _, fun _ _ _ => rfl⟩
theorem Wr.trans (h : Wr N wb w w1) (k : Wr N wb w1 w2) : Wr N wb w w2 := ⟨k.os.trans h.os, k.tape.trans h.tape, k.output.trans h.output, Nat.le_trans h.size k.size, fun j hj hn => (k.block j hj hn).trans (h.block j hj hn)⟩
theorem Wr.mono (h : Wr N wb w w1) (hM : M ≤ N) : Wr M wb w w1 := ⟨h.os, h.tape, h.output, h.size, fun k hk hn => h.block k (by omega) hn⟩
theorem Wr.of_below (h : Below N w w1) : Wr N wb w w1 := ⟨h.os, h.tape, h.output, h.size, fun k hk _ => h.block k hk⟩
theorem Wr.alloc (h : Wr N wb w w1) (hN : N ≤ w1.heap.size) (o : Obj) : Wr N wb w (w1.alloc o) := h.trans (.of_below ((Below.refl _ _).alloc hN _))
theorem Wr.drew (h : Wr N wb w w1) : Wr N wb w w1.drew := h.trans (.of_below (Below.refl _ _).drew)
theorem Wr.set (h : Wr N wb w w1) {k j : Nat} (hk : k = wb ∨ N ≤ k) (v : Value) : Wr N wb w (w1.setCell ⟨k, j, none⟩ v) :=
  ⟨h.os, h.tape, h.output, by rw [size_setCell]; exact h.size, fun b hb hn => by rw [blk_setCell_other _ _ _ (show b ≠ k by omega)]; exact h.block b hb hn⟩
theorem Wr.grown {row : Option Nat} (h : Wr N wb w w1) (hg : w1.grownBy w2 row) (hN : N ≤ w1.heap.size) (hr : ∀ k, row = some k → N ≤ k) : Wr N wb w w2 :=
  h.trans ⟨hg.os, hg.tape, hg.output, hg.size, fun k hk _ => hg.block k (by omega) (fun e => by have := hr k e.symm; omega)⟩
theorem Wr.below (h : Wr N wb w w1) (hr : N ≤ wb) : Below N w w1 := ⟨h.os, h.tape, h.output, h.size, fun k hk => h.block k hk (by omega)⟩
theorem Wr.blk {b : Nat} {e : TypeId} {cs : List Value} (h : Wr N wb w w1) (hb : Blk w b e cs) (hn : b ≠ wb) (hlt : b < N) : Blk w1 b e cs := hb.keep (h.block b hlt hn)
theorem Wr.row {b : Nat} {e : TypeId} {X : Array Value} (h : Wr N wb w w1) (hb : Row w b e X) (hn : b ≠ wb) (hlt : b < N) : Row w1 b e X := hb.keep (h.block b hlt hn)
theorem Wr.cell {b o : Nat} (h : Wr N wb w w1) (hn : b ≠ wb) (hlt : b < N) : w1.cell? ⟨b, o, none⟩ = w.cell? ⟨b, o, none⟩ := World.cell?_of_block (w := w) (h.block b hlt hn)
theorem Wr.arr {α : Type} [Rep α] {S : Nat → Prop} {a : Option Addr} {xs : List α} (h : Wr N wb w w1) (ha : Arr S w a xs) (hS : ∀ b, S b → b < N ∧ b ≠ wb) : Arr S w1 a xs :=
  ha.keep (fun b hb => h.block b (hS b hb).1 (hS b hb).2)
/-- A row whose elements lead elsewhere is kept. -/
theorem own_same' {α : Type} [Rep α] {S : Nat → Prop} {B : Nat} {e : TypeId} {v : Value} {xs : List α} (h : Own S w B e v xs) (hs : ∀ b, v.ownBlock = some b → w1.heap[b]? = w.heap[b]?) (hS : ∀ b, S b → w1.heap[b]? = w.heap[b]?) : Own S w1 B e v xs := by
  obtain ⟨css, h1, h2, hl, ⟨e1, e2⟩ | ⟨g, cap, cur, he, hg, hh, hr⟩⟩ := h
  · exact ⟨css, h1, fun k x cs hx hc => Rep.keep hS (h2 k x cs hx hc), hl, .inl ⟨e1, e2⟩⟩
  · exact ⟨css, h1, fun k x cs hx hc => Rep.keep hS (h2 k x cs hx hc), hl, .inr ⟨g, cap, cur, he, hg, (hs g (by rw [he]; rfl)).trans hh, hr⟩⟩
theorem Wr.own {α : Type} [Rep α] {S : Nat → Prop} {B : Nat} {e : TypeId} {v : Value} {xs : List α} (h : Wr N wb w w1) (ho : Own S w B e v xs) (hv : ∀ b, v.ownBlock = some b → b < N ∧ b ≠ wb) (hS : ∀ b, S b → b < N ∧ b ≠ wb) : Own S w1 B e v xs :=
  own_same' ho (fun b hb => h.block b (hv b hb).1 (hv b hb).2) (fun b hb => h.block b (hS b hb).1 (hS b hb).2)
end
theorem rowsTwo (w : World) (o1 o2 : Array Value) (t1 t2 : TypeId) (W : World) (hW : W = (w.alloc (.cells o1 t1)).alloc (.cells o2 t2)) :
    Row W w.heap.size t1 o1 ∧ Row W (w.heap.size + 1) t2 o2 ∧ Below w.heap.size w W ∧ W.heap.size = w.heap.size + 1 + 1 := by
  subst hW
  have z1 : (w.alloc (.cells o1 t1)).heap.size = w.heap.size + 1 := by simp
  have b1 := row_new w o1 t1
  have b2 := row_new (w.alloc (.cells o1 t1)) o2 t2
  rw [z1] at b2
  refine ⟨b1.keep (Below.heap_alloc _ _ _ (by omega)), b2, ((Below.refl _ _).alloc (Nat.le_refl _) _).alloc (by simp) _, by simp⟩
end Go.Bk
