/- General: a value built out of its parts, as one equation: so a great literal stays folded. No program is named here. -/
import Derived.Test.YtjlnaiiajlahgaaDoorMem
import Derived.Laws.Tables
import Derived.Deep.WholeRow
import Derived.Deep.MidRow
set_option linter.unusedVariables false
set_option linter.unusedSimpArgs false
namespace Go.Bk
open Go.RowKit
/-- A value built out of its parts: its run as one equation. -/
theorem wp_builtAt {P : Program} {ops : Array Oper} {rest : List Oper} {o : Oper} {a : Act} {w : World} {Q : Exit → Act → World → Prop} (hgd : o.guard = none) (ty : TypeId) (parts : Array (Nat × Operand)) (ho : o.op = .build ty parts)
    (cells : Array Value) (hr : (Instr.build ty (parts.map fun x => (x.1, a.eval x.2))).run P w = .ok (.agg cells) w) (h : wpList P ops Q rest (a.put o.dst (.agg cells)) w) : wpList P ops Q (o :: rest) a w :=
  wpList_plain hgd fun _ hK => by
    unfold Oper.wp execOp
    simp only [ho]
    have hr2 : (Instr.build ty (parts.map fun (i, x) => (i, a.eval x))).run P w = .ok (.agg cells) w := hr
    simp only [hr2, Sem.run_bind, Sem.run_pure, Result.andThen_ok]
    exact hK _ _ h
end Go.Bk
