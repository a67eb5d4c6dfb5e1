/- The law RowsTells, walked: the answers are one. -/
import Derived.Test.YtimlhjjdaggiiaaEvLaw2
import Derived.Test.YtimlhjjdaggiiaaEvLaw3
import Derived.Test.YtimlhjjdaggiiaaEvLaw4
set_option linter.unusedVariables false
set_option linter.unusedSimpArgs false
namespace Go.Proofs.Ytimlhjjdaggiiaa
open Go.Bk Go.RowKit

set_option maxRecDepth 100000 in
theorem rowsTells_walk (W : World) (args : Array Value) (h : ArgsRead Try.prog W [39, 3, 3, 3, 3] args.toList) :
    Calls Try.prog 5 args W fun e W' => e = .returned (.bool true) ∧ Below W.heap.size W W' := by
  obtain ⟨v0, v1, v2, v3, v4, rfl, r0, r1, r2, r3, r4⟩ := h.five
  obtain ⟨a, l, c, rfl, hc, -, h0⟩ := r0.slice Try.underlying39 Try.opens39
  obtain ⟨kind, rfl, -⟩ := r1.int Try.underlying3
  obtain ⟨lo, rfl, -⟩ := r2.int Try.underlying3
  obtain ⟨hi, rfl, -⟩ := r3.int Try.underlying3
  obtain ⟨n, rfl, -⟩ := r4.int Try.underlying3
  clear r0 r1 r2 r3 r4 h hc
  by_cases hl : 200 < l.length
  · exact rowsTells_large h0 hl
  · by_cases hn0 : n < 0
    · exact rowsTells_neg h0 hl hn0
    · by_cases hn8 : 8 < n
      · exact rowsTells_big h0 hl hn8
      · exact rowsTells_ok h0 hl (by omega) (by omega)
end Go.Proofs.Ytimlhjjdaggiiaa
