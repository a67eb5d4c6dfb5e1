/- Plain: traces that may be. -/
import Derived.Test.YtekofpigmggbbaaDoorQIrPlain
import Derived.Test.YtekofpigmggbbaaDoorQCodeK
set_option linter.unusedVariables false
set_option linter.unusedSimpArgs false
namespace Go.Proofs.YtekofpigmggbbaaDoor.chk
open Go.Bk Go.Proofs.YtekofpigmggbbaaDoor.ir

/-- Is v a value, ahead of a place? -/
def valAt (ins : List Api.TIns) (v at' : Int) : Bool :=
  if 0 ≤ v ∧ v < at' ∧ v < ins.length then match ins[v.toNat]? with
    | some x => tellsOf x.Op
    | none => false
  else false
def opAt (ins : List Api.TIns) (v : Int) : Int := match ins[v.toNat]? with
  | some x => x.Op
  | none => 0
theorem valAt_not {ins : List Api.TIns} {v at' : Int} (h : ¬ (0 ≤ v ∧ v < at' ∧ v < ins.length)) : valAt ins v at' = false := if_neg h
theorem valAt_in {ins : List Api.TIns} {k : Nat} {at' : Int} {x : Api.TIns} (h : (k : Int) < at') (hx : ins[k]? = some x) : valAt ins k at' = tellsOf x.Op := by
  have := (List.getElem?_eq_some_iff.1 hx).1
  unfold valAt
  rw [if_pos ⟨by omega, h, by omega⟩]
  simp [hx]
/-- Whether it holds of all below k. -/
def allTo (c : Nat → Bool) : Nat → Bool
  | 0 => true
  | k + 1 => allTo c k && c k
theorem allTo_le {c : Nat → Bool} : ∀ {n k : Nat}, allTo c n = true → k ≤ n → allTo c k = true
  | 0, k, h, hk => by obtain rfl : k = 0 := by omega
                      rfl
  | n + 1, k, h, hk => by
    rcases Nat.lt_or_ge n k with h1 | h1
    · obtain rfl : k = n + 1 := by omega
      exact h
    · exact allTo_le (n := n) (by have h2 : (allTo c n && c n) = true := h; simp at h2; exact h2.1) h1
theorem allTo_at {c : Nat → Bool} {n k : Nat} (h : allTo c n = true) (hk : k < n) : c k = true := by
  have h2 : (allTo c k && c k) = true := allTo_le (k := k + 1) h hk
  simp at h2
  exact h2.2
theorem allTo_false {c : Nat → Bool} {n k : Nat} (h : c k = false) (hk : k < n) : allTo c n = false := by
  cases h2 : allTo c n with
  | false => rfl
  | true => rw [allTo_at h2 hk] at h; cases h
section
variable (regs cl : Int) (ins : List Api.TIns)
def prevR (l : List Api.TSet) (j : Nat) : Int := if j = 0 then -1 else match l[j - 1]? with
  | some s => s.Reg
  | none => -1
def setC (at' : Int) (l : List Api.TSet) (j : Nat) : Bool := match l[j]? with
  | none => true
  | some s => decide (prevR l j < s.Reg) && (decide (s.Reg < regs) && valAt ins s.Val at')
def makeOk (at' : Int) (m : Api.TMake) : Bool := valAt ins m.Cell at' && (decide (opAt ins m.Cell = 18) && ((decide (1 ≤ m.Kind) && decide (m.Kind ≤ 3)) && (decide (0 ≤ m.Num) && ((decide (m.Num = 0) || decide (m.Kind = 1)) && (decide (m.Vals.length ≤ 100) && m.Vals.all (fun v => valAt ins v at'))))))
def prevC (l : List Api.TMake) (j : Nat) : Int := if j = 0 then -1 else match l[j - 1]? with
  | some m => m.Cell
  | none => -1
def makeC (at' : Int) (l : List Api.TMake) (j : Nat) : Bool := match l[j]? with
  | none => true
  | some m => decide (prevC l j < m.Cell) && makeOk ins at' m
def placeOk (x : Api.TExit) : Bool := decide (0 ≤ x.At) && (decide (x.At < cl) && (decide (0 ≤ x.Steps) && decide (x.Steps ≤ 200)))
/-- Is an exit, at a place? -/
def exitOk (x : Api.TExit) (at' : Int) : Bool := placeOk cl x && (allTo (setC regs ins at' x.Sets) x.Sets.length && allTo (makeC ins at' x.Makes) x.Makes.length)
def shaped (x : Api.TIns) : Bool := decide (x.Op = 19) || (decide (x.Op = 9) && decide (x.N = 1))
/-- An argument, by its number. -/
def argOk (x : Api.TIns) (i : Int) (k : Nat) (v : Int) : Bool :=
  if (k : Int) < (formOf x.Op).1.asks then valAt ins v i
  else if k = 1 ∧ shaped x = true then decide (0 ≤ v)
  else decide (v = -1)
def argsOk (x : Api.TIns) (i : Int) : Bool := argOk ins x i 0 x.A && (argOk ins x i 1 x.B && argOk ins x i 2 x.C)
def numOk (x : Api.TIns) : Bool := decide ((formOf x.Op).1.low ≤ x.N) && decide (x.N ≤ if x.Op = 1 then regs - 1 else (formOf x.Op).1.high)
def keepOk (x : Api.TIns) : Bool := if (formOf x.Op).1.k = true then cod.right x.K && !(decide (x.Op = 2) && decide (x.K.Kind = 5)) else decide (x.K = ⟨0, 0⟩)
def wayOk (exits : List Api.TExit) (x : Api.TIns) (i : Int) : Bool :=
  if (formOf x.Op).1.exit = 0 ∨ ((formOf x.Op).1.exit = 1 ∧ x.Exit = -1) then decide (x.Exit = -1)
  else if 0 ≤ x.Exit ∧ x.Exit < exits.length then match exits[x.Exit.toNat]? with
    | some e => exitOk regs cl ins e i
    | none => false
  else false
/-- Is an instruction, at its place? -/
def insOk (exits : List Api.TExit) (x : Api.TIns) (i : Int) : Bool := argsOk ins x i && (numOk regs x && (keepOk x && wayOk regs cl ins exits x i))
def insC (exits : List Api.TExit) (k : Nat) : Int := match ins[k]? with
  | none => 0
  | some x => if (formOf x.Op).2 = false then 7 else if insOk regs cl ins exits x k = false then 3 else 0
/-- The first that is bad tells. -/
def insTo (exits : List Api.TExit) : Nat → Int
  | 0 => 0
  | k + 1 => if insTo exits k = 0 then insC regs cl ins exits k else insTo exits k
theorem insTo_stop {exits : List Api.TExit} : ∀ {n k : Nat}, insTo regs cl ins exits k ≠ 0 → k ≤ n → insTo regs cl ins exits n = insTo regs cl ins exits k
  | 0, k, _, hk => by obtain rfl : k = 0 := by omega
                      rfl
  | n + 1, k, h, hk => by
    rcases Nat.lt_or_ge n k with h1 | h1
    · obtain rfl : k = n + 1 := by omega
      rfl
    · have e := insTo_stop (n := n) h h1
      show (if insTo regs cl ins exits n = 0 then _ else insTo regs cl ins exits n) = _
      rw [if_neg (by rw [e]; exact h), e]
end
def bareX (x : Api.TExit) : Bool := decide (x.At = 0) && (decide (x.Steps = 0) && (decide (x.Sets = []) && decide (x.Makes = [])))
/-- The ends of a trace. -/
def endOk (regs cl : Int) (t : Api.TTrace) : Bool :=
  (if 0 < t.Loop then decide (t.Turn.At = t.At) && exitOk regs cl t.Ins t.Turn t.Loop else bareX t.Turn) &&
    ((decide (t.Back.At = t.At) && exitOk regs cl t.Ins t.Back t.Ins.length) && t.Exits.all fun x => exitOk regs cl t.Ins x t.Ins.length)
/-- What Check answers of a trace (0: it may be), of a program that may be. -/
def traceChk (p : Api.Prog) (t : Api.TTrace) : Int :=
  if 300 < t.Ins.length ∨ 200 < t.Exits.length then 2
  else match (if t.Fn < 0 then none else p.Fns[t.Fn.toNat]?) with
    | none => 3
    | some f =>
      if t.At < 0 ∨ (f.Code.length : Int) ≤ t.At ∨ t.Loop < 0 ∨ (t.Ins.length : Int) < t.Loop then 3
      else if insTo f.Regs f.Code.length t.Ins t.Exits t.Ins.length ≠ 0 then insTo f.Regs f.Code.length t.Ins t.Exits t.Ins.length
      else if endOk f.Regs f.Code.length t = false then 3
      else 0
end Go.Proofs.YtekofpigmggbbaaDoor.chk

/- Plain: a trace cut. -/
namespace Go.Proofs.YtekofpigmggbbaaDoor.cut
open Go.Bk Go.Proofs.YtekofpigmggbbaaDoor.ir

/-- How many below k are left in. -/
def keptN (ts : List Int) : Nat → Nat
  | 0 => 0
  | k + 1 => keptN ts k + (if ts[k]? = some (k : Int) then 1 else 0)
theorem keptN_le (ts : List Int) : ∀ k, keptN ts k ≤ k
  | 0 => Nat.le_refl _
  | k + 1 => by
    have := keptN_le ts k
    show keptN ts k + _ ≤ _
    split <;> omega
theorem keptN_mono (ts : List Int) {j k : Nat} (h : j ≤ k) : keptN ts j ≤ keptN ts k := by
  induction k with
  | zero => obtain rfl : j = 0 := by omega
            exact Nat.le_refl _
  | succ k ih =>
    rcases Nat.lt_or_ge k j with h1 | h1
    · obtain rfl : j = k + 1 := by omega
      exact Nat.le_refl _
    · exact Nat.le_trans (ih h1) (Nat.le_add_right _ _)
/-- Where the value of the next one is. -/
def nextAt (ts at' : List Int) (k : Nat) : Int :=
  match ts[k]? with
  | none => -1
  | some n => if n = (k : Int) then (keptN ts k : Int) else if n < 0 then -1 else (at'[n.toNat]?).getD (-1)
/-- Where the values of the first k are. -/
def atOf (ts : List Int) : Nat → List Int
  | 0 => []
  | k + 1 => atOf ts k ++ [nextAt ts (atOf ts k) k]
theorem atOf_len (ts : List Int) : ∀ k, (atOf ts k).length = k
  | 0 => rfl
  | k + 1 => by show (atOf ts k ++ [_]).length = _; rw [List.length_append, atOf_len ts k]; rfl
theorem nextAt_some {ts at' : List Int} {k : Nat} {n : Int} (h : ts[k]? = some n) : nextAt ts at' k = if n = (k : Int) then (keptN ts k : Int) else if n < 0 then -1 else (at'[n.toNat]?).getD (-1) := by
  unfold nextAt
  rw [h]
theorem atOf_get (ts : List Int) {j : Nat} : ∀ {k : Nat}, j < k → (atOf ts k)[j]? = some (nextAt ts (atOf ts j) j)
  | 0, h => by omega
  | k + 1, h => by
    show (_ ++ _)[j]? = _
    by_cases hj : j < k
    · rw [List.getElem?_append_left (by rw [atOf_len]; exact hj)]
      exact atOf_get ts hj
    · obtain rfl : j = k := by omega
      rw [List.getElem?_append_right (by rw [atOf_len]; exact Nat.le_refl _), atOf_len, Nat.sub_self]
      rfl
theorem atOf_ge (ts : List Int) : ∀ (k : Nat) {x : Int}, x ∈ atOf ts k → -1 ≤ x ∧ x ≤ keptN ts k
  | 0, x, h => by cases h
  | k + 1, x, h => by
    have hm := keptN_mono ts (show k ≤ k + 1 by omega)
    rcases List.mem_append.1 (show x ∈ atOf ts k ++ _ from h) with h | h
    · have := atOf_ge ts k h
      omega
    · obtain rfl : x = nextAt ts (atOf ts k) k := by simpa using h
      unfold nextAt
      split
      · exact ⟨by omega, by omega⟩
      · split
        · exact ⟨by omega, by omega⟩
        · split
          · exact ⟨by omega, by omega⟩
          · rename_i n _ _ _
            cases hq : (atOf ts k)[n.toNat]? with
            | none => exact ⟨by simp, by simp only [Option.getD_none]; omega⟩
            | some y =>
              have := atOf_ge ts k (List.mem_of_getElem? hq)
              simp
              omega
theorem atOf_at (ts : List Int) {k v : Nat} {x : Int} (h : (atOf ts k)[v]? = some x) : -1 ≤ x ∧ x ≤ k := by
  have h1 := atOf_ge ts k (List.mem_of_getElem? h)
  have h2 := keptN_le ts k
  omega
/-- Where a value is then; -1: it is none. -/
def oneV (at' : List Int) (v : Int) : Int := if v < 0 then -1 else match at'[v.toNat]? with
  | none => -1
  | some n => if n < 0 then -1 else n
theorem oneV_neg {at' : List Int} {v : Int} (h : v < 0) : oneV at' v = -1 := if_pos h
theorem oneV_out {at' : List Int} {v : Int} (h : v < 0 ∨ (at'.length : Int) ≤ v) : oneV at' v = -1 := by
  unfold oneV
  split
  · rfl
  · rw [List.getElem?_eq_none (by omega)]
theorem oneV_at {at' : List Int} {k : Nat} {n : Int} (h : at'[k]? = some n) : oneV at' k = if n < 0 then -1 else n := by
  unfold oneV
  rw [if_neg (by omega), Int.toNat_natCast, h]
theorem oneV_ge (at' : List Int) (v : Int) : -1 ≤ oneV at' v := by
  unfold oneV
  split
  · omega
  · split
    · omega
    · split <;> omega
theorem oneV_le (ts : List Int) (k : Nat) (v : Int) : oneV (atOf ts k) v ≤ k := by
  unfold oneV
  split
  · omega
  · split
    · omega
    · rename_i n hn
      have := atOf_at ts hn
      split <;> omega
theorem oneV_i64 (ts : List Int) (k : Nat) (hk : k ≤ 1000000) (v : Int) : I64 (oneV (atOf ts k) v) := by
  have h1 := oneV_ge (atOf ts k) v
  have h2 := oneV_le ts k v
  unfold I64
  omega
theorem oneV_pre (ts : List Int) {j k : Nat} {v : Int} (hv : v < j) (hj : j ≤ k) : oneV (atOf ts j) v = oneV (atOf ts k) v := by
  by_cases h0 : v < 0
  · rw [oneV_neg h0, oneV_neg h0]
  · obtain ⟨n, rfl⟩ : ∃ n : Nat, v = n := ⟨v.toNat, by omega⟩
    rw [oneV_at (atOf_get ts (show n < j by omega)), oneV_at (atOf_get ts (show n < k by omega))]
/-- The numbers are such that may be. -/
def toOk (ts : List Int) : Nat → Bool
  | 0 => true
  | k + 1 => toOk ts k && (match ts[k]? with
    | none => false
    | some n => decide (-1 ≤ n) && decide (n ≤ k))
theorem toOk_at {ts : List Int} {j : Nat} : ∀ {k : Nat}, toOk ts k = true → j < k → ∃ n, ts[j]? = some n ∧ -1 ≤ n ∧ n ≤ j
  | 0, _, h => by omega
  | k + 1, hk, h => by
    have h2 : (toOk ts k && _) = true := hk
    simp only [Bool.and_eq_true] at h2
    by_cases hj : j < k
    · exact toOk_at h2.1 hj
    · obtain rfl : j = k := by omega
      cases hq : ts[j]? with
      | none => rw [hq] at h2; cases h2.2
      | some n =>
        rw [hq] at h2
        have h3 := h2.2
        simp only [Bool.and_eq_true, decide_eq_true_eq] at h3
        exact ⟨n, rfl, h3.1, h3.2⟩
theorem toOk_of {ts : List Int} : ∀ {k : Nat}, (∀ j, j < k → ∃ n, ts[j]? = some n ∧ -1 ≤ n ∧ n ≤ (j : Int)) → toOk ts k = true
  | 0, _ => rfl
  | k + 1, h => by
    show (toOk ts k && _) = true
    rw [toOk_of (fun j hj => h j (by omega))]
    obtain ⟨n, h1, h2, h3⟩ := h k (Nat.lt_succ_self k)
    rw [h1]
    simp
    omega
theorem toOk_stop {ts : List Int} {j : Nat} : ∀ {k : Nat}, toOk ts j = false → j ≤ k → toOk ts k = false
  | 0, h, hj => by obtain rfl : j = 0 := by omega
                   exact h
  | k + 1, h, hj => by
    rcases Nat.lt_or_ge k j with h1 | h1
    · obtain rfl : j = k + 1 := by omega
      exact h
    · show (toOk ts k && _) = false
      rw [toOk_stop h h1]
      rfl
/-- A value whose number is another's. -/
theorem oneV_step {ts : List Int} {k v : Nat} {n : Int} (hv : v < k) (hn : ts[v]? = some n) (hne : n ≠ v) (h1 : -1 ≤ n) (h2 : n ≤ v) : oneV (atOf ts k) v = oneV (atOf ts k) n := by
  rw [oneV_at (atOf_get ts hv), nextAt_some hn, if_neg hne]
  by_cases h0 : n < 0
  · rw [if_pos h0, oneV_neg h0]; rfl
  · obtain ⟨m, rfl⟩ : ∃ m : Nat, n = m := ⟨n.toNat, by omega⟩
    rw [if_neg h0, Int.toNat_natCast, atOf_get ts (show m < v by omega), oneV_at (atOf_get ts (show m < k by omega))]
    rfl
/-- A value that is left in. -/
theorem oneV_kept {ts : List Int} {k v : Nat} (hv : v < k) (hn : ts[v]? = some (v : Int)) : oneV (atOf ts k) v = keptN ts v := by
  rw [oneV_at (atOf_get ts hv), nextAt_some hn, if_pos rfl, if_neg (by omega)]

def cutSet (g : Int → Int) (s : Api.TSet) : Api.TSet := ⟨s.Reg, g s.Val⟩
def cutMake (g : Int → Int) (m : Api.TMake) : Api.TMake := ⟨g m.Cell, m.Kind, m.Num, m.Vals.map g⟩
def cutExit (g : Int → Int) (x : Api.TExit) : Api.TExit := ⟨x.At, x.Steps, x.Sets.map (cutSet g), x.Makes.map (cutMake g)⟩
def fineV (g : Int → Int) (v : Int) : Bool := decide (0 ≤ g v)
def fineMake (g : Int → Int) (m : Api.TMake) : Bool := fineV g m.Cell && m.Vals.all (fineV g)
def fineExit (g : Int → Int) (x : Api.TExit) : Bool := x.Sets.all (fun s => fineV g s.Val) && x.Makes.all (fineMake g)
/-- An instruction with its values where they are then: of n of them. -/
def cutArgs (g : Int → Int) (n : Int) (x : Api.TIns) : Api.TIns := ⟨x.Op, if 0 < n then g x.A else x.A, if 1 < n then g x.B else x.B, if 2 < n then g x.C else x.C, x.N, x.Exit, x.K⟩
/-- An instruction in cells. -/
def insL (x : Api.TIns) : List Value := [.int .i64 x.Op, .int .i64 x.A, .int .i64 x.B, .int .i64 x.C, .int .i64 x.N, .int .i64 x.Exit, .int .i64 x.K.Kind, .int .i64 x.K.N]
def cutIns (g : Int → Int) (x : Api.TIns) : Api.TIns := cutArgs g (formOf x.Op).1.asks x
def fineIns (g : Int → Int) (x : Api.TIns) : Bool := (asksOf x).all (fineV g)
/-- The first k instructions, cut. -/
def cutTo (ts : List Int) (ins : List Api.TIns) : Nat → List Api.TIns
  | 0 => []
  | k + 1 => cutTo ts ins k ++ (match ins[k]? with
    | none => []
    | some x => if ts[k]? = some (k : Int) then [cutIns (oneV (atOf ts (k + 1))) x] else [])
def fineTo (ts : List Int) (ins : List Api.TIns) : Nat → Bool
  | 0 => true
  | k + 1 => fineTo ts ins k && (match ins[k]? with
    | none => true
    | some x => if ts[k]? = some (k : Int) then fineIns (oneV (atOf ts (k + 1))) x else true)
theorem cutTo_len (ts : List Int) (ins : List Api.TIns) : ∀ k, k ≤ ins.length → (cutTo ts ins k).length = keptN ts k
  | 0, _ => rfl
  | k + 1, h => by
    show (cutTo ts ins k ++ _).length = keptN ts k + _
    rw [List.length_append, cutTo_len ts ins k (by omega), List.getElem?_eq_getElem (show k < ins.length by omega)]
    dsimp only
    split <;> simp
def cutLoop (t : Api.TTrace) (ts : List Int) : Int := (keptN ts (min t.Loop.toNat t.Ins.length) : Int)
def gOf (t : Api.TTrace) (ts : List Int) : Int → Int := oneV (atOf ts t.Ins.length)
/-- The trace without what is left out. -/
def cutT (t : Api.TTrace) (ts : List Int) : Api.TTrace := ⟨t.Fn, t.At, cutLoop t ts, cutTo ts t.Ins t.Ins.length, t.Exits.map (cutExit (gOf t ts)), cutExit (gOf t ts) t.Turn, cutExit (gOf t ts) t.Back⟩
def fineT (t : Api.TTrace) (ts : List Int) : Bool := (fineTo ts t.Ins t.Ins.length && t.Exits.all (fineExit (gOf t ts))) && (fineExit (gOf t ts) t.Turn && fineExit (gOf t ts) t.Back)
def zeroX : Api.TExit := ⟨0, 0, [], []⟩
def zeroT : Api.TTrace := ⟨0, 0, 0, [], [], zeroX, zeroX⟩
/-- The numbers are as many as the instructions, and such that may be. -/
def toRight (t : Api.TTrace) (ts : List Int) : Bool := decide (ts.length = t.Ins.length) && toOk ts t.Ins.length
/-- What Cut answers: the trace and the error. -/
def cutG (t : Api.TTrace) (ts : List Int) : Api.TTrace × Int := if toRight t ts && fineT t ts then (cutT t ts, 0) else (zeroT, 3)
/-- An argument, by its number; how many there are. -/
def argN (x : Api.TIns) (k : Nat) : Int := if k = 0 then x.A else if k = 1 then x.B else x.C
theorem asks_nat (x : Api.TIns) : ∃ n : Nat, n ≤ 3 ∧ (formOf x.Op).1.asks = n ∧ asksOf x = [x.A, x.B, x.C].take n ∧ (asksOf x).length = n := by
  rcases asks_cases x.Op with ⟨-, h⟩ | ⟨-, h | h | h | h⟩
  · exact ⟨0, by omega, by rw [h]; rfl, by unfold asksOf; rw [h]; rfl, by unfold asksOf; rw [h]; rfl⟩
  · exact ⟨0, by omega, by rw [h]; rfl, by unfold asksOf; rw [h]; rfl, by unfold asksOf; rw [h]; rfl⟩
  · exact ⟨1, by omega, by rw [h]; rfl, by unfold asksOf; rw [h]; rfl, by unfold asksOf; rw [h]; rfl⟩
  · exact ⟨2, by omega, by rw [h]; rfl, by unfold asksOf; rw [h]; rfl, by unfold asksOf; rw [h]; rfl⟩
  · exact ⟨3, by omega, by rw [h]; rfl, by unfold asksOf; rw [h]; rfl, by unfold asksOf; rw [h]; rfl⟩
/-- All that an instruction asks is ahead of it. -/
def Ahead (ins : List Api.TIns) : Prop := ∀ (i : Nat) (x : Api.TIns), ins[i]? = some x → ∀ v ∈ asksOf x, v ≤ i
theorem asks_mem {x : Api.TIns} {P : Int → Prop} (h : ∀ v ∈ asksOf x, P v) : (0 < (formOf x.Op).1.asks → P x.A) ∧ (1 < (formOf x.Op).1.asks → P x.B) ∧ (2 < (formOf x.Op).1.asks → P x.C) := by
  unfold asksOf at h
  have hc := asks_cases x.Op
  refine ⟨fun h1 => ?_, fun h1 => ?_, fun h1 => ?_⟩
  · refine h _ ?_
    rcases hc with ⟨_, e⟩ | ⟨_, e | e | e | e⟩ <;> rw [e] at h1 ⊢ <;> first | omega | simp
  · refine h _ ?_
    rcases hc with ⟨_, e⟩ | ⟨_, e | e | e | e⟩ <;> rw [e] at h1 ⊢ <;> first | omega | simp
  · refine h _ ?_
    rcases hc with ⟨_, e⟩ | ⟨_, e | e | e | e⟩ <;> rw [e] at h1 ⊢ <;> first | omega | simp
/-- An instruction cut tells nothing but of what it asks. -/
theorem cutIns_congr {g g' : Int → Int} {x : Api.TIns} (h : ∀ v ∈ asksOf x, g v = g' v) : cutIns g x = cutIns g' x := by
  obtain ⟨h1, h2, h3⟩ := asks_mem h
  unfold cutIns cutArgs
  congr 1
  · split
    · rename_i h0; exact h1 h0
    · rfl
  · split
    · rename_i h0; exact h2 h0
    · rfl
  · split
    · rename_i h0; exact h3 h0
    · rfl
theorem fineIns_congr {g g' : Int → Int} {x : Api.TIns} (h : ∀ v ∈ asksOf x, g v = g' v) : fineIns g x = fineIns g' x := by
  unfold fineIns
  rw [Bool.eq_iff_iff, List.all_eq_true, List.all_eq_true]
  unfold fineV
  constructor
  · intro hh v hv; rw [← h v hv]; exact hh v hv
  · intro hh v hv; rw [h v hv]; exact hh v hv
/-- One by one, with all places known. -/
theorem cutTo_step {ts : List Int} {ins : List Api.TIns} (ha : Ahead ins) {k n : Nat} {x : Api.TIns} (hx : ins[k]? = some x) (hk : k < n) :
    cutTo ts ins (k + 1) = cutTo ts ins k ++ (if ts[k]? = some (k : Int) then [cutIns (oneV (atOf ts n)) x] else []) := by
  show _ ++ _ = _
  rw [hx]
  dsimp only
  split
  · rw [cutIns_congr (g' := oneV (atOf ts n)) (fun v hv => oneV_pre ts (by have := ha k x hx v hv; omega) (by omega))]
  · rfl
theorem fineTo_step {ts : List Int} {ins : List Api.TIns} (ha : Ahead ins) {k n : Nat} {x : Api.TIns} (hx : ins[k]? = some x) (hk : k < n) :
    fineTo ts ins (k + 1) = (fineTo ts ins k && (if ts[k]? = some (k : Int) then fineIns (oneV (atOf ts n)) x else true)) := by
  show (_ && _) = _
  rw [hx]
  dsimp only
  split
  · rw [fineIns_congr (g' := oneV (atOf ts n)) (fun v hv => oneV_pre ts (by have := ha k x hx v hv; omega) (by omega))]
  · rfl
end Go.Proofs.YtekofpigmggbbaaDoor.cut

/- Plain: the kind of a value, as it is known at a place. -/
namespace Go.Proofs.YtekofpigmggbbaaDoor.chk
open Go.Bk Go.Proofs.YtekofpigmggbbaaDoor.ir

end Go.Proofs.YtekofpigmggbbaaDoor.chk
