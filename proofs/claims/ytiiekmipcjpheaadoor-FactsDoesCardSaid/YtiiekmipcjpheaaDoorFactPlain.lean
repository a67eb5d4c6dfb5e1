/- Plain: what guards say already. -/
import Derived.Test.YtiiekmipcjpheaaDoorChkE
import Derived.Test.YtiiekmipcjpheaaDoorChkPlain
set_option linter.unusedVariables false
set_option linter.unusedSimpArgs false
namespace Go.Proofs.YtiiekmipcjpheaaDoor.fct
open Go.Bk Go.Proofs.YtiiekmipcjpheaaDoor.ir Go.Proofs.YtiiekmipcjpheaaDoor.chk Go.Proofs.YtiiekmipcjpheaaDoor.cut

/-- The same guard. -/
def sameG (x y : Api.TIns) : Bool := decide (y.Op = x.Op) && (decide (y.A = x.A) && (decide (y.B = x.B) && (decide (y.N = x.N) && decide (y.K = x.K))))
def twinB (ins : List Api.TIns) (i : Nat) (x : Api.TIns) : Bool := (ins.take i).any (sameG x)
/-- What instruction k tells of the shape of the cell that x asks: whether it is x's; none: nothing. -/
def shapeAt (x y : Api.TIns) (k : Int) : Option Bool :=
  if y.Op = 9 ∧ y.A = x.A ∧ y.N = 1 then some (decide (y.B = x.B))
  else if y.Op = 16 ∧ k = x.A ∧ y.N = 1 then some (decide (x.B = 0))
  else if y.Op = 12 then some (decide (y.A = x.A) && decide (y.N = x.B))
  else none
def growsB (t : Api.TTrace) : Bool := (t.Ins.drop t.Loop.toNat).any fun y => decide (y.Op = 12)
def fromP (t : Api.TTrace) (i : Nat) : Nat := if t.Loop ≤ i ∧ growsB t = true then t.Loop.toNat else 0
/-- What the last of those from lo on, below k, tells. -/
def lastS (ins : List Api.TIns) (x : Api.TIns) (lo : Nat) : Nat → Option Bool
  | 0 => none
  | k + 1 => if k < lo then none else match ins[k]? with
    | none => none
    | some y => match shapeAt x y k with
      | some b => some b
      | none => lastS ins x lo k
theorem lastS_low {ins : List Api.TIns} {x : Api.TIns} {lo : Nat} : ∀ {k : Nat}, k ≤ lo → lastS ins x lo k = none
  | 0, _ => rfl
  | k + 1, h => if_pos (by omega)
theorem lastS_step {ins : List Api.TIns} {x y : Api.TIns} {lo k : Nat} (hk : lo ≤ k) (hy : ins[k]? = some y) : lastS ins x lo (k + 1) = match shapeAt x y k with
      | some b => some b
      | none => lastS ins x lo k := by
  show (if k < lo then none else match ins[k]? with
    | none => none
    | some y => match shapeAt x y k with
      | some b => some b
      | none => lastS ins x lo k) = _
  rw [if_neg (by omega), hy]
def shapedB (t : Api.TTrace) (i : Nat) (x : Api.TIns) : Bool := (lastS t.Ins x (fromP t i) i).getD false
/-- The kind, as it is known at i. -/
def kd (t : Api.TTrace) (v : Int) (i : Int) : Int := kindG t.Ins (fun _ => -1) (v.toNat + 1) v i
def truthB (k : Int) (x : Api.TIns) (twin : Bool) : Bool := (decide (k = 0) && decide (x.N = 0)) || ((decide (2 ≤ k) && (decide (k ≤ 6) && decide (x.N = 1))) || twin)
def newB (ins : List Api.TIns) (x : Api.TIns) : Bool := match ins[x.A.toNat]? with
  | none => false
  | some y => decide (y.Op = 16) && decide (y.N = x.N)
def saidB (t : Api.TTrace) (i : Nat) (x : Api.TIns) : Bool :=
  if x.Op = 4 then decide (kd t x.A i = x.N)
  else if x.Op = 5 then truthB (kd t x.A i) x (twinB t.Ins i x)
  else if x.Op = 6 ∨ x.Op = 19 then twinB t.Ins i x
  else if x.Op = 9 then (if x.N = 1 then shapedB t i x else twinB t.Ins i x || newB t.Ins x)
  else false
def factAt (t : Api.TTrace) (i : Nat) : Int := match t.Ins[i]? with
  | none => -1
  | some x => if saidB t i x = true then -1 else i
/-- What is said already is left out. -/
def factsTo (t : Api.TTrace) : List Int := (List.range t.Ins.length).map (factAt t)
theorem factsTo_len (t : Api.TTrace) : (factsTo t).length = t.Ins.length := by simp [factsTo]
theorem factsTo_at {t : Api.TTrace} {i : Nat} (h : i < t.Ins.length) : (factsTo t)[i]? = some (factAt t i) := by simp [factsTo, h]
theorem factAt_cases (t : Api.TTrace) (i : Nat) : factAt t i = -1 ∨ factAt t i = i := by
  unfold factAt
  split
  · exact .inl rfl
  · split
    · exact .inl rfl
    · exact .inr rfl
theorem factsTo_ok (t : Api.TTrace) : toOk (factsTo t) t.Ins.length = true := toOk_of fun j hj => ⟨_, factsTo_at hj, by
  rcases factAt_cases t j with h | h <;> omega⟩
theorem said_guard {t : Api.TTrace} {i : Nat} {x : Api.TIns} (h : tellsOf x.Op = true) : saidB t i x = false := by
  rw [tellsOf_eq] at h
  simp only [decide_eq_true_eq, List.mem_cons, List.not_mem_nil, or_false] at h
  unfold saidB
  rw [if_neg (by omega), if_neg (by omega), if_neg (by omega), if_neg (by omega)]
theorem facts_fine {t : Api.TTrace} (hr : RightT t) : fineT t (factsTo t) = true := by
  refine fineT_of hr (factsTo_ok t) fun k x n hx ht hn => ?_
  have hl := (List.getElem?_eq_some_iff.1 hx).1
  rw [factsTo_at hl] at hn
  obtain rfl := Option.some.inj hn
  have : factAt t k = k := by
    unfold factAt
    rw [hx]
    dsimp only
    rw [said_guard ht]
    rfl
  rw [this]
  exact ⟨by omega, x, by simpa using hx, ht⟩
end Go.Proofs.YtiiekmipcjpheaaDoor.fct
