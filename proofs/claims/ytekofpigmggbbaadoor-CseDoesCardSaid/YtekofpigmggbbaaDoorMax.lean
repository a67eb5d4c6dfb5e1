/- General: the builtin max of two numbers: a law for the walk, whose value is named ahead. No program is named here. -/
import Derived.Test.YtekofpigmggbbaaDoorMem
import Derived.Laws.Small
set_option linter.unusedVariables false
set_option linter.unusedSimpArgs false
namespace Go.Bk
open Go.RowKit
section
variable {P : Program} {ops : Array Oper} {Q : Exit → Act → World → Prop} {a : Act} {w : World} {rest : List Oper} {o : Oper}
theorem wp_max_int {s x : Operand} {ts : Array TypeId} (hgd : o.guard = none) (ho : o.op = .call { callee := .builtin .max, args := #[s, x], argTypes := ts })
    {p q r : Int} (hs : a.eval s = .int .i64 p) (hx : a.eval x = .int .i64 q) (hm : (if p < q then q else p) = r) (h : wpList P ops Q rest (a.put o.dst (.int .i64 r)) w) : wpList P ops Q (o :: rest) a w :=
  wpList_plain hgd fun K hK => by
    unfold Oper.wp execOp
    simp only [ho, resolve, invoke, builtin, Sem.run_bind, Sem.run_pure, Result.andThen_ok, List.map_toArray, List.map_cons, List.map_nil, hs, hx, run_max_int2, hm]
    exact hK _ _ h
end
end Go.Bk
