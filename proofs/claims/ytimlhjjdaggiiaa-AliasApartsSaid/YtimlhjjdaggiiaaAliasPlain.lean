/- Plain: which two values are no references to one cell. -/
import Derived.Test.YtimlhjjdaggiiaaIrPlain
set_option linter.unusedVariables false
set_option linter.unusedSimpArgs false
namespace Go.Proofs.Ytimlhjjdaggiiaa.ir
open Go.Bk

/-- Is it a new cell? -/
def freshOf (op : Int) : Bool := decide (op = 16 ∨ op = 18)
def beforeOf (op : Int) : Bool := decide (op = 1 ∨ op = 2 ∨ op = 3)
/-- Two instructions whose values are no references to one cell: the one ahead, the one behind; whether the loop's begin lies between. -/
def apartIns (x y : Int) (between : Bool) : Bool :=
  if tellsOf x = false ∨ tellsOf y = false then false else if between then freshOf x && freshOf y else freshOf y || (freshOf x && beforeOf y)
theorem apartIns_tells {x y : Int} (hx : tellsOf x = true) (hy : tellsOf y = true) (b : Bool) : apartIns x y b = if b then freshOf x && freshOf y else freshOf y || (freshOf x && beforeOf y) := by
  unfold apartIns; rw [if_neg (by rw [hx, hy]; simp)]
def apartOf (t : Api.TTrace) (a b : Int) : Bool :=
  if min a b < 0 ∨ (t.Ins.length : Int) ≤ max a b ∨ a = b then false
  else match t.Ins[(min a b).toNat]?, t.Ins[(max a b).toNat]? with
    | some x, some y => apartIns x.Op y.Op (decide (min a b < t.Loop ∧ t.Loop ≤ max a b))
    | _, _ => false
theorem apartOf_at {t : Api.TTrace} {a b : Int} {n1 n2 : Nat} {x y : Api.TIns} (h1 : min a b = (n1 : Int)) (h2 : max a b = (n2 : Int)) (hn : n1 < n2) (hx : t.Ins[n1]? = some x) (hy : t.Ins[n2]? = some y) :
    apartOf t a b = apartIns x.Op y.Op (decide ((n1 : Int) < t.Loop ∧ t.Loop ≤ n2)) := by
  have hl : n2 < t.Ins.length := (List.getElem?_eq_some_iff.1 hy).1
  unfold apartOf
  rw [h1, h2, if_neg (by omega)]
  simp [hx, hy]
end Go.Proofs.Ytimlhjjdaggiiaa.ir
