/- General: lists that are the same up to a place. -/
import Derived.Test.YtjlnaiiajlahgaaDoorTy
import Derived.Test.YtjlnaiiajlahgaaDoorMem
import Derived.BigQuiet
import Derived.Outline
set_option linter.unusedVariables false
set_option linter.unusedSimpArgs false
namespace Go.Proofs.YtjlnaiiajlahgaaDoor
open Go.Bk Go.RowKit

def SameTo (xs ys : List Int) (k : Nat) : Prop := ∀ i, i < k → xs[i]? = ys[i]?

theorem SameTo.succ {xs ys : List Int} {k : Nat} (h : SameTo xs ys k) (hk : xs[k]? = ys[k]?) : SameTo xs ys (k + 1) := fun i hi => by
  by_cases he : i = k
  · rw [he]; exact hk
  · exact h i (by omega)
end Go.Proofs.YtjlnaiiajlahgaaDoor
