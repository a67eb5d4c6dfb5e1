/- Plain: traces that may be. -/
import Derived.Test.YtjlnaiiajlahgaaDoorIrPlain
import Derived.Test.YtjlnaiiajlahgaaDoorCodeK
set_option linter.unusedVariables false
set_option linter.unusedSimpArgs false
namespace Go.Proofs.YtjlnaiiajlahgaaDoor.chk
open Go.Bk Go.Proofs.YtjlnaiiajlahgaaDoor.ir

/-- Is v a value, ahead of a place? -/
def valAt (ins : List Api.TIns) (v at' : Int) : Bool :=
  if 0 ≤ v ∧ v < at' ∧ v < ins.length then match ins[v.toNat]? with
    | some x => tellsOf x.Op
    | none => false
  else false
def opAt (ins : List Api.TIns) (v : Int) : Int := match ins[v.toNat]? with
  | some x => x.Op
  | none => 0
theorem valAt_not {ins : List Api.TIns} {v at' : Int} (h : ¬ (0 ≤ v ∧ v < at' ∧ v < ins.length)) : valAt ins v at' = false := if_neg h
theorem valAt_in {ins : List Api.TIns} {k : Nat} {at' : Int} {x : Api.TIns} (h : (k : Int) < at') (hx : ins[k]? = some x) : valAt ins k at' = tellsOf x.Op := by
  have := (List.getElem?_eq_some_iff.1 hx).1
  unfold valAt
  rw [if_pos ⟨by omega, h, by omega⟩]
  simp [hx]
/-- Whether it holds of all below k. -/
def allTo (c : Nat → Bool) : Nat → Bool
  | 0 => true
  | k + 1 => allTo c k && c k
theorem allTo_le {c : Nat → Bool} : ∀ {n k : Nat}, allTo c n = true → k ≤ n → allTo c k = true
  | 0, k, h, hk => by obtain rfl : k = 0 := by omega
                      rfl
  | n + 1, k, h, hk => by
    rcases Nat.lt_or_ge n k with h1 | h1
    · obtain rfl : k = n + 1 := by omega
      exact h
    · exact allTo_le (n := n) (by have h2 : (allTo c n && c n) = true := h; simp at h2; exact h2.1) h1
theorem allTo_at {c : Nat → Bool} {n k : Nat} (h : allTo c n = true) (hk : k < n) : c k = true := by
  have h2 : (allTo c k && c k) = true := allTo_le (k := k + 1) h hk
  simp at h2
  exact h2.2
theorem allTo_false {c : Nat → Bool} {n k : Nat} (h : c k = false) (hk : k < n) : allTo c n = false := by
  cases h2 : allTo c n with
  | false => rfl
  | true => rw [allTo_at h2 hk] at h; cases h
theorem allTo_all {α : Type} {p : α → Bool} {l : List α} : allTo (fun k => match l[k]? with | some x => p x | none => true) l.length = l.all p := by
  have : ∀ n, n ≤ l.length → allTo (fun k => match l[k]? with | some x => p x | none => true) n = (l.take n).all p := by
    intro n hn
    induction n with
    | zero => rfl
    | succ n ih =>
      have hx : l[n]? = some (l[n]'(by omega)) := List.getElem?_eq_getElem (by omega)
      have e : allTo (fun k => match l[k]? with | some x => p x | none => true) (n + 1) = (allTo (fun k => match l[k]? with | some x => p x | none => true) n && p (l[n]'(by omega))) := by
        show (allTo _ n && (match l[n]? with | some x => p x | none => true)) = _
        rw [hx]
      rw [e, ih (by omega), List.take_succ_eq_append_getElem (by omega), List.all_append, List.all_cons, List.all_nil, Bool.and_true]
  have := this l.length (Nat.le_refl _)
  rwa [List.take_length] at this
section
variable (regs cl : Int) (ins : List Api.TIns)
def prevR (l : List Api.TSet) (j : Nat) : Int := if j = 0 then -1 else match l[j - 1]? with
  | some s => s.Reg
  | none => -1
def setC (at' : Int) (l : List Api.TSet) (j : Nat) : Bool := match l[j]? with
  | none => true
  | some s => decide (prevR l j < s.Reg) && (decide (s.Reg < regs) && valAt ins s.Val at')
def makeOk (at' : Int) (m : Api.TMake) : Bool := valAt ins m.Cell at' && (decide (opAt ins m.Cell = 18) && ((decide (1 ≤ m.Kind) && decide (m.Kind ≤ 3)) && (decide (0 ≤ m.Num) && ((decide (m.Num = 0) || decide (m.Kind = 1)) && (decide (m.Vals.length ≤ 100) && m.Vals.all (fun v => valAt ins v at'))))))
def prevC (l : List Api.TMake) (j : Nat) : Int := if j = 0 then -1 else match l[j - 1]? with
  | some m => m.Cell
  | none => -1
def makeC (at' : Int) (l : List Api.TMake) (j : Nat) : Bool := match l[j]? with
  | none => true
  | some m => decide (prevC l j < m.Cell) && makeOk ins at' m
def placeOk (x : Api.TExit) : Bool := decide (0 ≤ x.At) && (decide (x.At < cl) && (decide (0 ≤ x.Steps) && decide (x.Steps ≤ 200)))
/-- Is an exit, at a place? -/
def exitOk (x : Api.TExit) (at' : Int) : Bool := placeOk cl x && (allTo (setC regs ins at' x.Sets) x.Sets.length && allTo (makeC ins at' x.Makes) x.Makes.length)
def shaped (x : Api.TIns) : Bool := decide (x.Op = 19) || (decide (x.Op = 9) && decide (x.N = 1))
/-- An argument, by its number. -/
def argOk (x : Api.TIns) (i : Int) (k : Nat) (v : Int) : Bool :=
  if (k : Int) < (formOf x.Op).1.asks then valAt ins v i
  else if k = 1 ∧ shaped x = true then decide (0 ≤ v)
  else decide (v = -1)
def argsOk (x : Api.TIns) (i : Int) : Bool := argOk ins x i 0 x.A && (argOk ins x i 1 x.B && argOk ins x i 2 x.C)
def numOk (x : Api.TIns) : Bool := decide ((formOf x.Op).1.low ≤ x.N) && decide (x.N ≤ if x.Op = 1 then regs - 1 else (formOf x.Op).1.high)
def keepOk (x : Api.TIns) : Bool := if (formOf x.Op).1.k = true then cod.right x.K && !(decide (x.Op = 2) && decide (x.K.Kind = 5)) else decide (x.K = ⟨0, 0⟩)
def wayOk (exits : List Api.TExit) (x : Api.TIns) (i : Int) : Bool :=
  if (formOf x.Op).1.exit = 0 ∨ ((formOf x.Op).1.exit = 1 ∧ x.Exit = -1) then decide (x.Exit = -1)
  else if 0 ≤ x.Exit ∧ x.Exit < exits.length then match exits[x.Exit.toNat]? with
    | some e => exitOk regs cl ins e i
    | none => false
  else false
/-- Is an instruction, at its place? -/
def insOk (exits : List Api.TExit) (x : Api.TIns) (i : Int) : Bool := argsOk ins x i && (numOk regs x && (keepOk x && wayOk regs cl ins exits x i))
def insC (exits : List Api.TExit) (k : Nat) : Int := match ins[k]? with
  | none => 0
  | some x => if (formOf x.Op).2 = false then 7 else if insOk regs cl ins exits x k = false then 3 else 0
/-- The first that is bad tells. -/
def insTo (exits : List Api.TExit) : Nat → Int
  | 0 => 0
  | k + 1 => if insTo exits k = 0 then insC regs cl ins exits k else insTo exits k
theorem insTo_stop {exits : List Api.TExit} : ∀ {n k : Nat}, insTo regs cl ins exits k ≠ 0 → k ≤ n → insTo regs cl ins exits n = insTo regs cl ins exits k
  | 0, k, _, hk => by obtain rfl : k = 0 := by omega
                      rfl
  | n + 1, k, h, hk => by
    rcases Nat.lt_or_ge n k with h1 | h1
    · obtain rfl : k = n + 1 := by omega
      rfl
    · have e := insTo_stop (n := n) h h1
      show (if insTo regs cl ins exits n = 0 then _ else insTo regs cl ins exits n) = _
      rw [if_neg (by rw [e]; exact h), e]
end
def bareX (x : Api.TExit) : Bool := decide (x.At = 0) && (decide (x.Steps = 0) && (decide (x.Sets = []) && decide (x.Makes = [])))
/-- The ends of a trace. -/
def endOk (regs cl : Int) (t : Api.TTrace) : Bool :=
  (if 0 < t.Loop then decide (t.Turn.At = t.At) && exitOk regs cl t.Ins t.Turn t.Loop else bareX t.Turn) &&
    ((decide (t.Back.At = t.At) && exitOk regs cl t.Ins t.Back t.Ins.length) && t.Exits.all fun x => exitOk regs cl t.Ins x t.Ins.length)
/-- What Check answers of a trace (0: it may be), of a program that may be. -/
def traceChk (p : Api.Prog) (t : Api.TTrace) : Int :=
  if 300 < t.Ins.length ∨ 200 < t.Exits.length then 2
  else match (if t.Fn < 0 then none else p.Fns[t.Fn.toNat]?) with
    | none => 3
    | some f =>
      if t.At < 0 ∨ (f.Code.length : Int) ≤ t.At ∨ t.Loop < 0 ∨ (t.Ins.length : Int) < t.Loop then 3
      else if insTo f.Regs f.Code.length t.Ins t.Exits t.Ins.length ≠ 0 then insTo f.Regs f.Code.length t.Ins t.Exits t.Ins.length
      else if endOk f.Regs f.Code.length t = false then 3
      else 0
end Go.Proofs.YtjlnaiiajlahgaaDoor.chk
