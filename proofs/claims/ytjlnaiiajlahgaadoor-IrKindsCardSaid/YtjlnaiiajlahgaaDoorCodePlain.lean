/- code.Check, plain: programs that may be run, as the program reckons it. -/
import Derived.Test.YtjlnaiiajlahgaaDoorTy
set_option linter.unusedVariables false
set_option linter.unusedSimpArgs false
namespace Go.Proofs.YtjlnaiiajlahgaaDoor.cod
open Go.Bk

def within (n lo hi : Int) : Bool := decide (lo ≤ n) && decide (n ≤ hi)
abbrev U3 := UInt8 × UInt8 × UInt8
/-- What each order names: r 114, k 107, t 116, a 97, u 117, f 102, l 108, c 99, n 110, - 45. -/
def tbl : List U3 := [(0, 0, 0), (114, 107, 45), (114, 114, 45), (114, 114, 114), (114, 114, 114), (114, 114, 114), (114, 114, 114), (114, 114, 114), (114, 114, 114), (114, 114, 114), (114, 114, 114), (114, 114, 45), (114, 114, 45), (97, 45, 45), (97, 45, 45), (114, 97, 45), (114, 45, 45), (114, 114, 116), (114, 116, 114), (114, 108, 110), (114, 114, 114), (114, 114, 114), (114, 45, 45), (114, 114, 45), (114, 114, 45), (114, 117, 45), (114, 102, 45), (114, 99, 110), (114, 45, 45), (114, 45, 45), (114, 97, 45), (45, 45, 45), (114, 114, 45), (114, 45, 45), (114, 45, 45), (114, 114, 45), (114, 114, 45), (114, 45, 45), (114, 45, 45)]
def frm (op : Int) : Option U3 := if op < 1 ∨ 39 ≤ op then none else tbl[op.toNat]?
section
variable (p : Api.Prog) (f : Api.Fn)
def nam (c : UInt8) (n : Int) : Bool :=
  if c = 114 then within n 0 (f.Regs - 1)
  else if c = 107 then within n 0 ((p.Consts.length : Int) - 1)
  else if c = 116 then within n 0 ((p.Texts.length : Int) - 1)
  else if c = 97 then within n 0 ((f.Code.length : Int) - 1)
  else if c = 117 then within n 0 ((f.Caught.length : Int) - 1)
  else if c = 102 then within n 1 ((p.Fns.length : Int) - 1)
  else if c = 108 ∨ c = 99 ∨ c = 110 then within n 0 f.Regs
  else decide (n = 0)
def caughtOk (g : Api.Fn) : Bool := g.Caught.all fun c => within c 0 (f.Regs - 1) || within c (-(f.Caught.length : Int)) (-1)
def tail (at' : Nat) (i : Api.Ins) : Bool :=
  if i.Op = 14 then decide (i.A ≤ at')
  else if i.Op = 19 then decide (i.B + i.C ≤ f.Regs)
  else if i.Op = 27 then within (i.B + i.C) 0 (f.Regs - 1)
  else if i.Op = 26 then match p.Fns[i.B.toNat]? with
    | some g => caughtOk f g
    | none => true
  else if i.Op = 32 then f.Gen
  else true
def ordr (at' : Nat) (i : Api.Ins) : Bool :=
  match frm i.Op with
  | none => false
  | some (a, b, c) => within i.Line 0 2000 && (nam p f a i.A && (nam p f b i.B && (nam p f c i.C && tail p f at' i)))
end
abbrev Trs := List Api.Try
/-- A walk through the orders. -/
structure WSt where
  seen : List Bool
  out : List Trs
  todo : List Nat
  bad : Bool
def come (n : Nat) (s : WSt) (at' : Int) (l : Trs) : WSt :=
  if (n : Int) ≤ at' ∨ 20 < l.length then { s with bad := true }
  else match s.seen[at'.toNat]? with
    | some false => ⟨s.seen.set at'.toNat true, s.out.set at'.toNat l, s.todo ++ [at'.toNat], s.bad⟩
    | _ => if (s.out[at'.toNat]?).getD [] = l then s else { s with bad := true }
def from' (code : List Api.Ins) (s : WSt) (at' : Nat) : WSt :=
  match code[at']? with
  | none => s
  | some i =>
    let l := (s.out[at']?).getD []
    let n := code.length
    if i.Op = 28 ∨ i.Op = 29 then s
    else if i.Op = 13 ∨ i.Op = 14 then come n s i.A l
    else if i.Op = 15 then come n (come n s i.B l) (at' + 1) l
    else if i.Op = 30 then come n (come n s i.B l) (at' + 1) (l ++ [⟨i.A, i.B⟩])
    else if i.Op = 31 then if l = [] then { s with bad := true } else come n s (at' + 1) l.dropLast
    else come n s (at' + 1) l
def halted (s : WSt) : Bool := s.todo.isEmpty || s.bad
/-- One round: the last that is to be done. -/
def round (code : List Api.Ins) (s : WSt) : WSt :=
  match s.todo.getLast? with
  | none => s
  | some a => from' code { s with todo := s.todo.dropLast } a
def iter (code : List Api.Ins) : Nat → WSt → WSt
  | 0, s => s
  | k + 1, s => if halted s then s else iter code k (round code s)
def start (n : Nat) : WSt := come n ⟨List.replicate n false, List.replicate n [], [], false⟩ 0 []
def triesOf (code : List Api.Ins) : WSt := iter code (code.length + 1) (start code.length)
section
variable (p : Api.Prog)
def funcOk (f : Api.Fn) : Bool :=
  if f.Params < 0 ∨ f.Regs < 1 ∨ f.Regs < f.Params then false
  else if (f.Code.zipIdx.all fun x => ordr p f x.2 x.1) = false then false
  else !(triesOf f.Code).bad
def large : Bool :=
  decide (60 < p.Fns.length) || (decide (200 < p.Consts.length) || (decide (200 < p.Texts.length) || (p.Texts.any (fun t => decide (200 < t.size)) || p.Fns.any fun f => decide (600 < f.Code.length) || decide (60 < f.Regs))))
end
/-- Of the walk's states: what is to be done was seen; each is done once. -/
structure WOk (n : Nat) (s : WSt) : Prop where
  seen : s.seen.length = n
  out : s.out.length = n
  todo : ∀ a ∈ s.todo, a < n
def many (s : WSt) : Nat := (s.seen.filter (fun b => !b)).length + s.todo.length
theorem filter_set {l : List Bool} {k : Nat} (h : l[k]? = some false) : ((l.set k true).filter (fun b => !b)).length + 1 = (l.filter (fun b => !b)).length := by
  induction l generalizing k with
  | nil => simp at h
  | cons x l ih =>
    cases k with
    | zero =>
      simp at h
      subst h
      simp
    | succ k =>
      have := ih (k := k) (by simpa using h)
      cases x <;> simp [List.set] at this ⊢ <;> omega
theorem come_ok {n : Nat} {s : WSt} {at' : Int} {l : Trs} (h : WOk n s) (h0 : 0 ≤ at') : WOk n (come n s at' l) ∧ many (come n s at' l) ≤ many s ∧ (s.bad = true → (come n s at' l).bad = true) := by
  unfold come
  split
  · exact ⟨⟨h.seen, h.out, h.todo⟩, Nat.le_refl _, fun _ => rfl⟩
  · rename_i hc
    split
    · rename_i hs
      refine ⟨⟨by simp [h.seen], by simp [h.out], fun a ha => ?_⟩, ?_, fun hb => hb⟩
      · rcases List.mem_append.1 ha with ha | ha
        · exact h.todo a ha
        · simp at ha; omega
      · have := filter_set hs
        unfold many
        simp
        omega
    · split
      · exact ⟨h, Nat.le_refl _, fun hb => hb⟩
      · exact ⟨⟨h.seen, h.out, h.todo⟩, Nat.le_refl _, fun _ => rfl⟩
theorem from_ok {code : List Api.Ins} {s : WSt} {a : Nat} (h : WOk code.length s) (hA : ∀ i, code[a]? = some i → (i.Op = 13 ∨ i.Op = 14 → 0 ≤ i.A) ∧ (i.Op = 15 ∨ i.Op = 30 → 0 ≤ i.B)) : WOk code.length (from' code s a) ∧ many (from' code s a) ≤ many s := by
  unfold from'
  split
  · exact ⟨h, Nat.le_refl _⟩
  · rename_i i hi
    obtain ⟨h1, h2⟩ := hA i hi
    dsimp only
    split
    · exact ⟨h, Nat.le_refl _⟩
    · split
      · rename_i hc
        have := come_ok (l := (s.out[a]?).getD []) h (h1 hc)
        exact ⟨this.1, this.2.1⟩
      · split
        · rename_i hc
          have k1 := come_ok (l := (s.out[a]?).getD []) h (h2 (.inl hc))
          have k2 := come_ok (at' := (a : Int) + 1) (l := (s.out[a]?).getD []) k1.1 (by omega)
          exact ⟨k2.1, Nat.le_trans k2.2.1 k1.2.1⟩
        · split
          · rename_i hc
            have k1 := come_ok (l := (s.out[a]?).getD []) h (h2 (.inr hc))
            have k2 := come_ok (at' := (a : Int) + 1) (l := (s.out[a]?).getD [] ++ [⟨i.A, i.B⟩]) k1.1 (by omega)
            exact ⟨k2.1, Nat.le_trans k2.2.1 k1.2.1⟩
          · split
            · split
              · exact ⟨⟨h.seen, h.out, h.todo⟩, Nat.le_refl _⟩
              · have k2 := come_ok (at' := (a : Int) + 1) (l := ((s.out[a]?).getD []).dropLast) h (by omega)
                exact ⟨k2.1, k2.2.1⟩
            · have k2 := come_ok (at' := (a : Int) + 1) (l := (s.out[a]?).getD []) h (by omega)
              exact ⟨k2.1, k2.2.1⟩
/-- The orders' targets are none below 0. -/
def Aims (code : List Api.Ins) : Prop := ∀ (a : Nat) i, code[a]? = some i → (i.Op = 13 ∨ i.Op = 14 → 0 ≤ i.A) ∧ (i.Op = 15 ∨ i.Op = 30 → 0 ≤ i.B)
theorem round_ok {code : List Api.Ins} {s : WSt} (h : WOk code.length s) (hA : Aims code) (hn : halted s = false) : WOk code.length (round code s) ∧ many (round code s) + 1 ≤ many s := by
  unfold halted at hn
  rw [Bool.or_eq_false_iff] at hn
  unfold round
  cases hl : s.todo.getLast? with
  | none => rw [List.getLast?_eq_none_iff] at hl; rw [hl] at hn; simp at hn
  | some a =>
    dsimp only
    have hd : WOk code.length { s with todo := s.todo.dropLast } := ⟨h.seen, h.out, fun x hx => h.todo x ((List.dropLast_sublist _).subset hx)⟩
    have k := from_ok (a := a) hd (hA a)
    refine ⟨k.1, ?_⟩
    have : many { s with todo := s.todo.dropLast } + 1 = many s := by
      unfold many
      have : s.todo ≠ [] := fun e => by rw [e] at hn; simp at hn
      have hp := List.length_pos_iff.2 this
      simp
      omega
    have := k.2
    omega
theorem iter_more {code : List Api.Ins} : ∀ (k : Nat) (s : WSt), halted (iter code k s) = true → iter code (k + 1) s = iter code k s
  | 0, s, h => by
    show (if halted s then s else _) = s
    have : halted s = true := h
    rw [if_pos this]
  | k + 1, s, h => by
    show (if halted s then s else iter code (k + 1) (round code s)) = if halted s then s else iter code k (round code s)
    by_cases hs : halted s = true
    · rw [if_pos hs, if_pos hs]
    · rw [if_neg hs, if_neg hs]
      refine iter_more k _ ?_
      have h2 : halted (if halted s then s else iter code k (round code s)) = true := h
      rw [if_neg hs] at h2
      exact h2
theorem iter_halts {code : List Api.Ins} (hA : Aims code) : ∀ (k : Nat) (s : WSt), WOk code.length s → many s ≤ k → halted (iter code k s) = true
  | 0, s, h, hm => by
    show halted s = true
    unfold many at hm
    unfold halted
    have : s.todo = [] := List.eq_nil_of_length_eq_zero (by omega)
    rw [this]; rfl
  | k + 1, s, h, hm => by
    show halted (if halted s then s else iter code k (round code s)) = true
    by_cases hs : halted s = true
    · rw [if_pos hs]; exact hs
    · rw [if_neg hs]
      have := round_ok h hA (by simpa using hs)
      exact iter_halts hA k _ this.1 (by omega)
/-- Whatever number of rounds leads to where it halts: there it is. -/
theorem iter_at {code : List Api.Ins} : ∀ (k m : Nat) (s : WSt), halted (iter code k s) = true → halted (iter code m s) = true → iter code k s = iter code m s
  | 0, m, s, h1, _ => by
    have : halted s = true := h1
    cases m with
    | zero => rfl
    | succ m => show s = if halted s then s else _; rw [if_pos this]
  | k + 1, 0, s, _, h2 => by
    have : halted s = true := h2
    show (if halted s then s else _) = s
    rw [if_pos this]
  | k + 1, m + 1, s, h1, h2 => by
    by_cases hs : halted s = true
    · show (if halted s then s else _) = if halted s then s else _
      rw [if_pos hs, if_pos hs]
    · have e1 : iter code (k + 1) s = iter code k (round code s) := if_neg hs
      have e2 : iter code (m + 1) s = iter code m (round code s) := if_neg hs
      rw [e1] at h1 ⊢
      rw [e2] at h2 ⊢
      exact iter_at k m _ h1 h2
theorem start_ok (n : Nat) : WOk n (start n) ∧ many (start n) ≤ n := by
  have h : WOk n ⟨List.replicate n false, List.replicate n [], [], false⟩ := ⟨by simp, by simp, fun a ha => by simp at ha⟩
  have k := come_ok (at' := 0) (l := []) h (Int.le_refl _)
  refine ⟨k.1, Nat.le_trans k.2.1 ?_⟩
  unfold many
  simp
end Go.Proofs.YtjlnaiiajlahgaaDoor.cod
