/- append at rows of arrays of four ints, as the walk takes it. -/
import Derived.Test.YtjlnaiiajlahgaaArr4
import Derived.Test.YtjlnaiiajlahgaaApp
set_option linter.unusedVariables false
set_option linter.unusedSimpArgs false
namespace Go.Proofs.Ytjlnaiiajlahgaa
open Go.Bk Go.RowKit
variable {ops : Array Oper} {Q : Exit → Act → World → Prop} {a : Act} {w : World} {rest : List Oper} {o : Oper}

theorem info4 : (Try.prog.info? 64).map (fun i => (i.zero, i.size, i.bytes)) = some (some (.agg #[.int .i64 0, .int .i64 0, .int .i64 0, .int .i64 0]), Rep.sz Four, 32) := by kernel_rfl
theorem wp_appd4 {S : Nat → Prop} {s x : Operand} (hgd : o.guard = none) (ho : o.op = .call { callee := .builtin .append, args := #[s, x], argTypes := #[22, 22] })
    {B : Nat} {v : Value} {xs : List Four} {y : Four} {cs : List Value} {w0 : World} {e' : TypeId} (hs : a.eval s = v) {g : Nat} (hx : a.eval x = .slice (some ⟨g, 0, none⟩) 1 1) (hw : w = w0.alloc (.cells cs.toArray e')) (hg : g = w0.heap.size) (hown : Own S w0 B 64 v xs) (hy : Rep.cells S w0 cs y)
    (hS : ∀ b, S b → b < w0.heap.size ∧ v.ownBlock ≠ some b) (h63 : xs.length + 1 ≤ 1000000000) (hbase : B ≤ w0.heap.size)
    (h : ∀ v' w', Own S w' B 64 v' (xs ++ [y]) → w0.grownBy w' v.ownBlock → Stay w0 v v' → wpList Try.prog ops Q rest (a.put o.dst v') w') : wpList Try.prog ops Q (o :: rest) a w :=
  wp_append1s hgd ho Try.underlying22 info4 (by decide) (by decide) hs hx hw hg hown hy hS (by unfold maxLen; omega) (by omega) hbase h
theorem wp_apps4 {S S2 : Nat → Prop} {s x : Operand} (hgd : o.guard = none) (ho : o.op = .call { callee := .builtin .append, args := #[s, x], argTypes := #[22, 22] })
    {B : Nat} {v : Value} {xs ys : List Four} {ao : Option Addr} {n cap : Nat} (hs : a.eval s = v) (hx : a.eval x = .slice ao n cap) (hn : ys.length = n) (hown : Own S w B 64 v xs) (hys : Arr S2 w ao ys) (hcc : ∀ (cs : List Value) (y : Four), Rep.cells S2 w cs y → Rep.cells S w cs y) (hnil : ao = none → cap = 0)
    (hS : ∀ b, S b → b < w.heap.size ∧ v.ownBlock ≠ some b) (h63 : xs.length + n ≤ 1000000000) (hbase : B ≤ w.heap.size)
    (h : ∀ v' w', Own S w' B 64 v' (xs ++ ys) → w.grownBy w' v.ownBlock → wpList Try.prog ops Q rest (a.put o.dst v') w') : wpList Try.prog ops Q (o :: rest) a w := by
  subst hn
  exact wp_append hgd ho Try.underlying22 info4 (by decide) (by decide) hs hx hown hys hcc hnil hS (by unfold maxLen; omega) (by omega) hbase h
end Go.Proofs.Ytjlnaiiajlahgaa
