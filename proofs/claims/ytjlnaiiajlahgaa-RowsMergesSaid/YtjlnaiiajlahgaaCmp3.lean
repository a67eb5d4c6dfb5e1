/- Plain: what a comparison of two ints tells. -/
import Derived.Test.YtjlnaiiajlahgaaMore
set_option linter.unusedVariables false
set_option linter.unusedSimpArgs false
namespace Go.Proofs.Ytjlnaiiajlahgaa.lock
def cmp3 (a b : Int) : Int := if a < b then -1 else if b < a then 1 else 0
end Go.Proofs.Ytjlnaiiajlahgaa.lock
