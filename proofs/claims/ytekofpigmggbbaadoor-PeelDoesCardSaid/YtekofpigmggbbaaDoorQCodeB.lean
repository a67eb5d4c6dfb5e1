/- code.Check, plain: programs that may be run, as the program reckons it. -/
import Derived.Test.YtekofpigmggbbaaDoorQTy
import Derived.Test.YtekofpigmggbbaaDoorQMem
import Derived.Laws.Tables
import Derived.Deep.WholeRow
import Derived.Deep.MidRow
import Derived.Test.YtekofpigmggbbaaDoorQFuncsV
import Derived.BigQuiet
set_option linter.unusedVariables false
set_option linter.unusedSimpArgs false
namespace Go.Proofs.YtekofpigmggbbaaDoor.cod
open Go.Bk

def within (n lo hi : Int) : Bool := decide (lo ≤ n) && decide (n ≤ hi)
abbrev U3 := UInt8 × UInt8 × UInt8
/-- What each order names: r 114, k 107, t 116, a 97, u 117, f 102, l 108, c 99, n 110, - 45. -/
def tbl : List U3 := [(0, 0, 0), (114, 107, 45), (114, 114, 45), (114, 114, 114), (114, 114, 114), (114, 114, 114), (114, 114, 114), (114, 114, 114), (114, 114, 114), (114, 114, 114), (114, 114, 114), (114, 114, 45), (114, 114, 45), (97, 45, 45), (97, 45, 45), (114, 97, 45), (114, 45, 45), (114, 114, 116), (114, 116, 114), (114, 108, 110), (114, 114, 114), (114, 114, 114), (114, 45, 45), (114, 114, 45), (114, 114, 45), (114, 117, 45), (114, 102, 45), (114, 99, 110), (114, 45, 45), (114, 45, 45), (114, 97, 45), (45, 45, 45), (114, 114, 45), (114, 45, 45), (114, 45, 45), (114, 114, 45), (114, 114, 45), (114, 45, 45), (114, 45, 45)]
def frm (op : Int) : Option U3 := if op < 1 ∨ 39 ≤ op then none else tbl[op.toNat]?
section
variable (p : Api.Prog) (f : Api.Fn)
def nam (c : UInt8) (n : Int) : Bool :=
  if c = 114 then within n 0 (f.Regs - 1)
  else if c = 107 then within n 0 ((p.Consts.length : Int) - 1)
  else if c = 116 then within n 0 ((p.Texts.length : Int) - 1)
  else if c = 97 then within n 0 ((f.Code.length : Int) - 1)
  else if c = 117 then within n 0 ((f.Caught.length : Int) - 1)
  else if c = 102 then within n 1 ((p.Fns.length : Int) - 1)
  else if c = 108 ∨ c = 99 ∨ c = 110 then within n 0 f.Regs
  else decide (n = 0)
def caughtOk (g : Api.Fn) : Bool := g.Caught.all fun c => within c 0 (f.Regs - 1) || within c (-(f.Caught.length : Int)) (-1)
def tail (at' : Nat) (i : Api.Ins) : Bool :=
  if i.Op = 14 then decide (i.A ≤ at')
  else if i.Op = 19 then decide (i.B + i.C ≤ f.Regs)
  else if i.Op = 27 then within (i.B + i.C) 0 (f.Regs - 1)
  else if i.Op = 26 then match p.Fns[i.B.toNat]? with
    | some g => caughtOk f g
    | none => true
  else if i.Op = 32 then f.Gen
  else true
def ordr (at' : Nat) (i : Api.Ins) : Bool :=
  match frm i.Op with
  | none => false
  | some (a, b, c) => within i.Line 0 2000 && (nam p f a i.A && (nam p f b i.B && (nam p f c i.C && tail p f at' i)))
end
abbrev Trs := List Api.Try
/-- A walk through the orders. -/
structure WSt where
  seen : List Bool
  out : List Trs
  todo : List Nat
  bad : Bool
def come (n : Nat) (s : WSt) (at' : Int) (l : Trs) : WSt :=
  if (n : Int) ≤ at' ∨ 20 < l.length then { s with bad := true }
  else match s.seen[at'.toNat]? with
    | some false => ⟨s.seen.set at'.toNat true, s.out.set at'.toNat l, s.todo ++ [at'.toNat], s.bad⟩
    | _ => if (s.out[at'.toNat]?).getD [] = l then s else { s with bad := true }
def from' (code : List Api.Ins) (s : WSt) (at' : Nat) : WSt :=
  match code[at']? with
  | none => s
  | some i =>
    let l := (s.out[at']?).getD []
    let n := code.length
    if i.Op = 28 ∨ i.Op = 29 then s
    else if i.Op = 13 ∨ i.Op = 14 then come n s i.A l
    else if i.Op = 15 then come n (come n s i.B l) (at' + 1) l
    else if i.Op = 30 then come n (come n s i.B l) (at' + 1) (l ++ [⟨i.A, i.B⟩])
    else if i.Op = 31 then if l = [] then { s with bad := true } else come n s (at' + 1) l.dropLast
    else come n s (at' + 1) l
def halted (s : WSt) : Bool := s.todo.isEmpty || s.bad
/-- One round: the last that is to be done. -/
def round (code : List Api.Ins) (s : WSt) : WSt :=
  match s.todo.getLast? with
  | none => s
  | some a => from' code { s with todo := s.todo.dropLast } a
def iter (code : List Api.Ins) : Nat → WSt → WSt
  | 0, s => s
  | k + 1, s => if halted s then s else iter code k (round code s)
def start (n : Nat) : WSt := come n ⟨List.replicate n false, List.replicate n [], [], false⟩ 0 []
def triesOf (code : List Api.Ins) : WSt := iter code (code.length + 1) (start code.length)
section
variable (p : Api.Prog)
def funcOk (f : Api.Fn) : Bool :=
  if f.Params < 0 ∨ f.Regs < 1 ∨ f.Regs < f.Params then false
  else if (f.Code.zipIdx.all fun x => ordr p f x.2 x.1) = false then false
  else !(triesOf f.Code).bad
def large : Bool :=
  decide (60 < p.Fns.length) || (decide (200 < p.Consts.length) || (decide (200 < p.Texts.length) || (p.Texts.any (fun t => decide (200 < t.size)) || p.Fns.any fun f => decide (600 < f.Code.length) || decide (60 < f.Regs))))
end
/-- Of the walk's states: what is to be done was seen; each is done once. -/
structure WOk (n : Nat) (s : WSt) : Prop where
  seen : s.seen.length = n
  out : s.out.length = n
  todo : ∀ a ∈ s.todo, a < n
def many (s : WSt) : Nat := (s.seen.filter (fun b => !b)).length + s.todo.length
theorem filter_set {l : List Bool} {k : Nat} (h : l[k]? = some false) : ((l.set k true).filter (fun b => !b)).length + 1 = (l.filter (fun b => !b)).length := by
  induction l generalizing k with
  | nil => simp at h
  | cons x l ih =>
    cases k with
    | zero =>
      simp at h
      subst h
      simp
    | succ k =>
      have := ih (k := k) (by simpa using h)
      cases x <;> simp [List.set] at this ⊢ <;> omega
theorem come_ok {n : Nat} {s : WSt} {at' : Int} {l : Trs} (h : WOk n s) (h0 : 0 ≤ at') : WOk n (come n s at' l) ∧ many (come n s at' l) ≤ many s ∧ (s.bad = true → (come n s at' l).bad = true) := by
  unfold come
  split
  · exact ⟨⟨h.seen, h.out, h.todo⟩, Nat.le_refl _, fun _ => rfl⟩
  · rename_i hc
    split
    · rename_i hs
      refine ⟨⟨by simp [h.seen], by simp [h.out], fun a ha => ?_⟩, ?_, fun hb => hb⟩
      · rcases List.mem_append.1 ha with ha | ha
        · exact h.todo a ha
        · simp at ha; omega
      · have := filter_set hs
        unfold many
        simp
        omega
    · split
      · exact ⟨h, Nat.le_refl _, fun hb => hb⟩
      · exact ⟨⟨h.seen, h.out, h.todo⟩, Nat.le_refl _, fun _ => rfl⟩
theorem from_ok {code : List Api.Ins} {s : WSt} {a : Nat} (h : WOk code.length s) (hA : ∀ i, code[a]? = some i → (i.Op = 13 ∨ i.Op = 14 → 0 ≤ i.A) ∧ (i.Op = 15 ∨ i.Op = 30 → 0 ≤ i.B)) : WOk code.length (from' code s a) ∧ many (from' code s a) ≤ many s := by
  unfold from'
  split
  · exact ⟨h, Nat.le_refl _⟩
  · rename_i i hi
    obtain ⟨h1, h2⟩ := hA i hi
    dsimp only
    split
    · exact ⟨h, Nat.le_refl _⟩
    · split
      · rename_i hc
        have := come_ok (l := (s.out[a]?).getD []) h (h1 hc)
        exact ⟨this.1, this.2.1⟩
      · split
        · rename_i hc
          have k1 := come_ok (l := (s.out[a]?).getD []) h (h2 (.inl hc))
          have k2 := come_ok (at' := (a : Int) + 1) (l := (s.out[a]?).getD []) k1.1 (by omega)
          exact ⟨k2.1, Nat.le_trans k2.2.1 k1.2.1⟩
        · split
          · rename_i hc
            have k1 := come_ok (l := (s.out[a]?).getD []) h (h2 (.inr hc))
            have k2 := come_ok (at' := (a : Int) + 1) (l := (s.out[a]?).getD [] ++ [⟨i.A, i.B⟩]) k1.1 (by omega)
            exact ⟨k2.1, Nat.le_trans k2.2.1 k1.2.1⟩
          · split
            · split
              · exact ⟨⟨h.seen, h.out, h.todo⟩, Nat.le_refl _⟩
              · have k2 := come_ok (at' := (a : Int) + 1) (l := ((s.out[a]?).getD []).dropLast) h (by omega)
                exact ⟨k2.1, k2.2.1⟩
            · have k2 := come_ok (at' := (a : Int) + 1) (l := (s.out[a]?).getD []) h (by omega)
              exact ⟨k2.1, k2.2.1⟩
/-- The orders' targets are none below 0. -/
def Aims (code : List Api.Ins) : Prop := ∀ (a : Nat) i, code[a]? = some i → (i.Op = 13 ∨ i.Op = 14 → 0 ≤ i.A) ∧ (i.Op = 15 ∨ i.Op = 30 → 0 ≤ i.B)
theorem round_ok {code : List Api.Ins} {s : WSt} (h : WOk code.length s) (hA : Aims code) (hn : halted s = false) : WOk code.length (round code s) ∧ many (round code s) + 1 ≤ many s := by
  unfold halted at hn
  rw [Bool.or_eq_false_iff] at hn
  unfold round
  cases hl : s.todo.getLast? with
  | none => rw [List.getLast?_eq_none_iff] at hl; rw [hl] at hn; simp at hn
  | some a =>
    dsimp only
    have hd : WOk code.length { s with todo := s.todo.dropLast } := ⟨h.seen, h.out, fun x hx => h.todo x ((List.dropLast_sublist _).subset hx)⟩
    have k := from_ok (a := a) hd (hA a)
    refine ⟨k.1, ?_⟩
    have : many { s with todo := s.todo.dropLast } + 1 = many s := by
      unfold many
      have : s.todo ≠ [] := fun e => by rw [e] at hn; simp at hn
      have hp := List.length_pos_iff.2 this
      simp
      omega
    have := k.2
    omega
theorem iter_halts {code : List Api.Ins} (hA : Aims code) : ∀ (k : Nat) (s : WSt), WOk code.length s → many s ≤ k → halted (iter code k s) = true
  | 0, s, h, hm => by
    show halted s = true
    unfold many at hm
    unfold halted
    have : s.todo = [] := List.eq_nil_of_length_eq_zero (by omega)
    rw [this]; rfl
  | k + 1, s, h, hm => by
    show halted (if halted s then s else iter code k (round code s)) = true
    by_cases hs : halted s = true
    · rw [if_pos hs]; exact hs
    · rw [if_neg hs]
      have := round_ok h hA (by simpa using hs)
      exact iter_halts hA k _ this.1 (by omega)
/-- Whatever number of rounds leads to where it halts: there it is. -/
theorem iter_at {code : List Api.Ins} : ∀ (k m : Nat) (s : WSt), halted (iter code k s) = true → halted (iter code m s) = true → iter code k s = iter code m s
  | 0, m, s, h1, _ => by
    have : halted s = true := h1
    cases m with
    | zero => rfl
    | succ m => show s = if halted s then s else _; rw [if_pos this]
  | k + 1, 0, s, _, h2 => by
    have : halted s = true := h2
    show (if halted s then s else _) = s
    rw [if_pos this]
  | k + 1, m + 1, s, h1, h2 => by
    by_cases hs : halted s = true
    · show (if halted s then s else _) = if halted s then s else _
      rw [if_pos hs, if_pos hs]
    · have e1 : iter code (k + 1) s = iter code k (round code s) := if_neg hs
      have e2 : iter code (m + 1) s = iter code m (round code s) := if_neg hs
      rw [e1] at h1 ⊢
      rw [e2] at h2 ⊢
      exact iter_at k m _ h1 h2
theorem start_ok (n : Nat) : WOk n (start n) ∧ many (start n) ≤ n := by
  have h : WOk n ⟨List.replicate n false, List.replicate n [], [], false⟩ := ⟨by simp, by simp, fun a ha => by simp at ha⟩
  have k := come_ok (at' := 0) (l := []) h (Int.le_refl _)
  refine ⟨k.1, Nat.le_trans k.2.1 ?_⟩
  unfold many
  simp
end Go.Proofs.YtekofpigmggbbaaDoor.cod

/- General: a value built out of its parts, as one equation: so a great literal stays folded. No program is named here. -/
namespace Go.Bk
open Go.RowKit
/-- A value built out of its parts: its run as one equation. -/
theorem wp_builtAt {P : Program} {ops : Array Oper} {rest : List Oper} {o : Oper} {a : Act} {w : World} {Q : Exit → Act → World → Prop} (hgd : o.guard = none) (ty : TypeId) (parts : Array (Nat × Operand)) (ho : o.op = .build ty parts)
    (cells : Array Value) (hr : (Instr.build ty (parts.map fun x => (x.1, a.eval x.2))).run P w = .ok (.agg cells) w) (h : wpList P ops Q rest (a.put o.dst (.agg cells)) w) : wpList P ops Q (o :: rest) a w :=
  wpList_plain hgd fun _ hK => by
    unfold Oper.wp execOp
    simp only [ho]
    have hr2 : (Instr.build ty (parts.map fun (i, x) => (i, a.eval x))).run P w = .ok (.agg cells) w := hr
    simp only [hr2, Sem.run_bind, Sem.run_pure, Result.andThen_ok]
    exact hK _ _ h
end Go.Bk

/- code.Check: within, form, reg, at, text, names, caught: walked. -/
namespace Go.Proofs.YtekofpigmggbbaaDoor.cod
open Go.Bk Go.RowKit Go.Proofs.YtekofpigmggbbaaDoor.funs

/-- A look at a function, as a value: its eight cells. -/
abbrev lkV (a0 a1 a2 a3 a4 : Option Addr) (nF c0 nC c1 nT c2 nA c3 nO c4 : Nat) (pa rg : Int) (gn : Bool) : Value :=
  .agg #[.slice a0 nF c0, .slice a1 nC c1, .slice a2 nT c2, .int .i64 pa, .int .i64 rg, .bool gn, .slice a3 nA c3, .slice a4 nO c4]
set_option maxRecDepth 100000 in
theorem within_any (w : World) (n lo hi : Int) : Calls Tryd.prog 146 #[.int .i64 n, .int .i64 lo, .int .i64 hi] w fun e w' => e = .returned (.bool (within n lo hi)) ∧ w = w' := by
  have HD : Hid (within n lo hi = (decide (lo ≤ n) && decide (n ≤ hi))) := rfl
  by_cases h1 : lo ≤ n <;> by_cases h2 : n ≤ hi
  all_goals
    go_enter Tryd.func146, Tryd.ntmps146
    go_wp2
    go_ret
    exact ⟨by rw [HD.out]; simp [h1, h2], rfl⟩
set_option maxRecDepth 100000 in
theorem owithin_any (w : World) (n lo hi : Int) : Calls Tryd.prog 143 #[.int .i64 n, .int .i64 lo, .int .i64 hi] w fun e w' => e = .returned (.bool (within n lo hi)) ∧ w = w' := by
  have HD : Hid (within n lo hi = (decide (lo ≤ n) && decide (n ≤ hi))) := rfl
  by_cases h1 : lo ≤ n <;> by_cases h2 : n ≤ hi
  all_goals
    go_enter Tryd.func143, Tryd.ntmps143
    go_wp2
    go_ret
    exact ⟨by rw [HD.out]; simp [h1, h2], rfl⟩
theorem below_al2 {w : World} (o : Obj) : RowKit.Below w.heap.size w (w.alloc o) := (RowKit.Below.refl _ _).alloc (Nat.le_refl _) _
section
variable {a0 a1 a2 a3 a4 : Option Addr} {nF c0 nC c1 nT c2 nA c3 nO c4 : Nat} {pa rg : Int} {gn : Bool}
set_option maxRecDepth 100000 in
theorem reg_any (w : World) (n : Int) (h1 : 1 ≤ rg) (h2 : rg ≤ 1000) : Calls Tryd.prog 148 #[lkV a0 a1 a2 a3 a4 nF c0 nC c1 nT c2 nA c3 nO c4 pa rg gn, .int .i64 n] w fun e w' => e = .returned (.bool (within n 0 (rg - 1))) ∧ RowKit.Below w.heap.size w w' := by
  have HB : Hid (∀ o, RowKit.Below w.heap.size w (w.alloc o)) := fun o => below_al2 o
  go_enter Tryd.func148, Tryd.ntmps148
  go_wp2_with (go_at_call 146; (with_reducible refine (within_any _ _ _ _).mono ?_); rintro e w1 ⟨rfl, rfl⟩)
  go_ret
  exact ⟨rfl, HB.out _⟩
set_option maxRecDepth 100000 in
theorem at_any (w : World) (n : Int) (h2 : nO ≤ 1000) : Calls Tryd.prog 160 #[lkV a0 a1 a2 a3 a4 nF c0 nC c1 nT c2 nA c3 nO c4 pa rg gn, .int .i64 n] w fun e w' => e = .returned (.bool (within n 0 ((nO : Int) - 1))) ∧ RowKit.Below w.heap.size w w' := by
  have HB : Hid (∀ o, RowKit.Below w.heap.size w (w.alloc o)) := fun o => below_al2 o
  go_enter Tryd.func160, Tryd.ntmps160
  go_wp2_with (go_at_call 146; (with_reducible refine (within_any _ _ _ _).mono ?_); rintro e w1 ⟨rfl, rfl⟩)
  go_ret
  exact ⟨rfl, HB.out _⟩
set_option maxRecDepth 100000 in
theorem text_any (w : World) (n : Int) (h2 : nT ≤ 1000) : Calls Tryd.prog 159 #[lkV a0 a1 a2 a3 a4 nF c0 nC c1 nT c2 nA c3 nO c4 pa rg gn, .int .i64 n] w fun e w' => e = .returned (.bool (within n 0 ((nT : Int) - 1))) ∧ RowKit.Below w.heap.size w w' := by
  have HB : Hid (∀ o, RowKit.Below w.heap.size w (w.alloc o)) := fun o => below_al2 o
  go_enter Tryd.func159, Tryd.ntmps159
  go_wp2_with (go_at_call 146; (with_reducible refine (within_any _ _ _ _).mono ?_); rintro e w1 ⟨rfl, rfl⟩)
  go_ret
  exact ⟨rfl, HB.out _⟩
/-- The letters that occur. -/
def letters : List UInt8 := [114, 107, 116, 97, 117, 102, 108, 99, 110, 45]
set_option maxRecDepth 100000 in
set_option maxHeartbeats 2000000 in
theorem names_any {p : Api.Prog} {f : Api.Fn} (w : World) (c : UInt8) (n : Int) (hc : c ∈ letters) (h1 : 1 ≤ rg) (h2 : rg ≤ 1000) (hF : nF ≤ 1000) (hC : nC ≤ 1000) (hT : nT ≤ 1000) (hA : nA ≤ 9223372036854775807) (hO : nO ≤ 1000)
    (e1 : rg = f.Regs) (e2 : nF = p.Fns.length) (e3 : nC = p.Consts.length) (e4 : nT = p.Texts.length) (e5 : nA = f.Caught.length) (e6 : nO = f.Code.length) :
    Calls Tryd.prog 147 #[lkV a0 a1 a2 a3 a4 nF c0 nC c1 nT c2 nA c3 nO c4 pa rg gn, .int .u8 c.toNat, .int .i64 n] w fun e w' => e = .returned (.bool (nam p f c n)) ∧ RowKit.Below w.heap.size w w' := by
  have HB : Hid (∀ o, RowKit.Below w.heap.size w (w.alloc o)) := fun o => below_al2 o
  have HB2 : Hid (∀ o w', RowKit.Below (w.alloc o).heap.size (w.alloc o) w' → RowKit.Below w.heap.size w w') := fun o w' h => (below_al2 o).trans (h.mono (below_al2 o).size)
  have HE : Hid (nam p f c n = if c = 114 then within n 0 (rg - 1) else if c = 107 then within n 0 ((nC : Int) - 1) else if c = 116 then within n 0 ((nT : Int) - 1) else if c = 97 then within n 0 ((nO : Int) - 1) else if c = 117 then within n 0 ((nA : Int) - 1) else if c = 102 then within n 1 ((nF : Int) - 1) else if c = 108 ∨ c = 99 ∨ c = 110 then within n 0 rg else decide (n = 0)) := by
    show _ = _
    unfold nam
    rw [e1, e2, e3, e4, e5, e6]
  have HR : Hid (∀ w n, Calls Tryd.prog 148 #[lkV a0 a1 a2 a3 a4 nF c0 nC c1 nT c2 nA c3 nO c4 pa rg gn, .int .i64 n] w fun e w' => e = .returned (.bool (within n 0 (rg - 1))) ∧ RowKit.Below w.heap.size w w') := fun w n => reg_any w n h1 h2
  have HAt : Hid (∀ w n, Calls Tryd.prog 160 #[lkV a0 a1 a2 a3 a4 nF c0 nC c1 nT c2 nA c3 nO c4 pa rg gn, .int .i64 n] w fun e w' => e = .returned (.bool (within n 0 ((nO : Int) - 1))) ∧ RowKit.Below w.heap.size w w') := fun w n => at_any w n hO
  have HT : Hid (∀ w n, Calls Tryd.prog 159 #[lkV a0 a1 a2 a3 a4 nF c0 nC c1 nT c2 nA c3 nO c4 pa rg gn, .int .i64 n] w fun e w' => e = .returned (.bool (within n 0 ((nT : Int) - 1))) ∧ RowKit.Below w.heap.size w w') := fun w n => text_any w n hT
  clear e1 e2 e3 e4 e5 e6
  simp only [letters, List.mem_cons, List.not_mem_nil, or_false] at hc
  rcases hc with rfl | rfl | rfl | rfl | rfl | rfl | rfl | rfl | rfl | rfl
  all_goals
    go_enter Tryd.func147, Tryd.ntmps147
    go_wp2_with (first
      | (go_at_call 146; (with_reducible refine (within_any _ _ _ _).mono ?_); rintro e w1 ⟨rfl, rfl⟩; have HW := Lib.hid (HB.out (.cells #[.slice a0 nF c0, .slice a1 nC c1, .slice a2 nT c2, .int .i64 pa, .int .i64 rg, .bool gn, .slice a3 nA c3, .slice a4 nO c4] 170)))
      | (go_at_call 148; (with_reducible refine (HR.out _ _).mono ?_); rintro e w1 ⟨rfl, hb⟩; have HW := Lib.hid (HB2.out _ _ hb); clear hb)
      | (go_at_call 160; (with_reducible refine (HAt.out _ _).mono ?_); rintro e w1 ⟨rfl, hb⟩; have HW := Lib.hid (HB2.out _ _ hb); clear hb)
      | (go_at_call 159; (with_reducible refine (HT.out _ _).mono ?_); rintro e w1 ⟨rfl, hb⟩; have HW := Lib.hid (HB2.out _ _ hb); clear hb))
    go_ret
    exact ⟨by rw [HE.out]; first | rfl | (simp; done) | (simp [BEq.beq]; done), by first | exact HW.out | exact HB.out _⟩
end
def u3s (x : U3) : ByteArray := ⟨#[x.1, x.2.1, x.2.2]⟩
/-- The text of an order's form. -/
def frmS (op : Int) : ByteArray := match frm op with
  | none => ⟨#[]⟩
  | some x => u3s x
abbrev forms39 : List Value := [.string ⟨#[]⟩, .string ⟨#[114, 107, 45]⟩, .string ⟨#[114, 114, 45]⟩, .string ⟨#[114, 114, 114]⟩, .string ⟨#[114, 114, 114]⟩, .string ⟨#[114, 114, 114]⟩, .string ⟨#[114, 114, 114]⟩, .string ⟨#[114, 114, 114]⟩, .string ⟨#[114, 114, 114]⟩, .string ⟨#[114, 114, 114]⟩, .string ⟨#[114, 114, 114]⟩, .string ⟨#[114, 114, 45]⟩, .string ⟨#[114, 114, 45]⟩, .string ⟨#[97, 45, 45]⟩, .string ⟨#[97, 45, 45]⟩, .string ⟨#[114, 97, 45]⟩, .string ⟨#[114, 45, 45]⟩, .string ⟨#[114, 114, 116]⟩, .string ⟨#[114, 116, 114]⟩, .string ⟨#[114, 108, 110]⟩, .string ⟨#[114, 114, 114]⟩, .string ⟨#[114, 114, 114]⟩, .string ⟨#[114, 45, 45]⟩, .string ⟨#[114, 114, 45]⟩, .string ⟨#[114, 114, 45]⟩, .string ⟨#[114, 117, 45]⟩, .string ⟨#[114, 102, 45]⟩, .string ⟨#[114, 99, 110]⟩, .string ⟨#[114, 45, 45]⟩, .string ⟨#[114, 45, 45]⟩, .string ⟨#[114, 97, 45]⟩, .string ⟨#[45, 45, 45]⟩, .string ⟨#[114, 114, 45]⟩, .string ⟨#[114, 45, 45]⟩, .string ⟨#[114, 45, 45]⟩, .string ⟨#[114, 114, 45]⟩, .string ⟨#[114, 114, 45]⟩, .string ⟨#[114, 45, 45]⟩, .string ⟨#[114, 45, 45]⟩]
theorem forms_at {k : Nat} (h1 : 1 ≤ k) (h2 : k < 39) : forms39[k]? = some (.string (frmS (k : Int))) := by
  have : ∀ j, j < 39 → 1 ≤ j → forms39[j]? = some (.string (frmS (j : Int))) := by
    intro j hj h
    match j, hj, h with
    | 0, _, h => exact absurd h (by omega)
    | 1, _, _ => exact rfl
    | 2, _, _ => exact rfl
    | 3, _, _ => exact rfl
    | 4, _, _ => exact rfl
    | 5, _, _ => exact rfl
    | 6, _, _ => exact rfl
    | 7, _, _ => exact rfl
    | 8, _, _ => exact rfl
    | 9, _, _ => exact rfl
    | 10, _, _ => exact rfl
    | 11, _, _ => exact rfl
    | 12, _, _ => exact rfl
    | 13, _, _ => exact rfl
    | 14, _, _ => exact rfl
    | 15, _, _ => exact rfl
    | 16, _, _ => exact rfl
    | 17, _, _ => exact rfl
    | 18, _, _ => exact rfl
    | 19, _, _ => exact rfl
    | 20, _, _ => exact rfl
    | 21, _, _ => exact rfl
    | 22, _, _ => exact rfl
    | 23, _, _ => exact rfl
    | 24, _, _ => exact rfl
    | 25, _, _ => exact rfl
    | 26, _, _ => exact rfl
    | 27, _, _ => exact rfl
    | 28, _, _ => exact rfl
    | 29, _, _ => exact rfl
    | 30, _, _ => exact rfl
    | 31, _, _ => exact rfl
    | 32, _, _ => exact rfl
    | 33, _, _ => exact rfl
    | 34, _, _ => exact rfl
    | 35, _, _ => exact rfl
    | 36, _, _ => exact rfl
    | 37, _, _ => exact rfl
    | 38, _, _ => exact rfl
    | k + 39, h, _ => exact absurd h (by omega)
  exact this k h2 h1
theorem frmS_none {op : Int} (h : op < 1 ∨ 39 ≤ op) : frmS op = ⟨#[]⟩ := by unfold frmS frm; rw [if_pos h]
def fparts : Array (Nat × Operand) := #[(0, .const (.string ⟨#[]⟩)), (1, .const (.string ⟨#[114, 107, 45]⟩)), (2, .const (.string ⟨#[114, 114, 45]⟩)), (3, .const (.string ⟨#[114, 114, 114]⟩)), (4, .const (.string ⟨#[114, 114, 114]⟩)), (5, .const (.string ⟨#[114, 114, 114]⟩)), (6, .const (.string ⟨#[114, 114, 114]⟩)), (7, .const (.string ⟨#[114, 114, 114]⟩)), (8, .const (.string ⟨#[114, 114, 114]⟩)), (9, .const (.string ⟨#[114, 114, 114]⟩)), (10, .const (.string ⟨#[114, 114, 114]⟩)), (11, .const (.string ⟨#[114, 114, 45]⟩)), (12, .const (.string ⟨#[114, 114, 45]⟩)), (13, .const (.string ⟨#[97, 45, 45]⟩)), (14, .const (.string ⟨#[97, 45, 45]⟩)), (15, .const (.string ⟨#[114, 97, 45]⟩)), (16, .const (.string ⟨#[114, 45, 45]⟩)), (17, .const (.string ⟨#[114, 114, 116]⟩)), (18, .const (.string ⟨#[114, 116, 114]⟩)), (19, .const (.string ⟨#[114, 108, 110]⟩)), (20, .const (.string ⟨#[114, 114, 114]⟩)), (21, .const (.string ⟨#[114, 114, 114]⟩)), (22, .const (.string ⟨#[114, 45, 45]⟩)), (23, .const (.string ⟨#[114, 114, 45]⟩)), (24, .const (.string ⟨#[114, 114, 45]⟩)), (25, .const (.string ⟨#[114, 117, 45]⟩)), (26, .const (.string ⟨#[114, 102, 45]⟩)), (27, .const (.string ⟨#[114, 99, 110]⟩)), (28, .const (.string ⟨#[114, 45, 45]⟩)), (29, .const (.string ⟨#[114, 45, 45]⟩)), (30, .const (.string ⟨#[114, 97, 45]⟩)), (31, .const (.string ⟨#[45, 45, 45]⟩)), (32, .const (.string ⟨#[114, 114, 45]⟩)), (33, .const (.string ⟨#[114, 45, 45]⟩)), (34, .const (.string ⟨#[114, 45, 45]⟩)), (35, .const (.string ⟨#[114, 114, 45]⟩)), (36, .const (.string ⟨#[114, 114, 45]⟩)), (37, .const (.string ⟨#[114, 45, 45]⟩)), (38, .const (.string ⟨#[114, 45, 45]⟩))]
set_option maxRecDepth 100000 in
theorem fparts_run (a : Act) (w : World) : (Instr.build 210 (fparts.map fun x => (x.1, a.eval x.2))).run Tryd.prog w = .ok (.agg forms39.toArray) w := run_build w _ _ _ (by kernel_rfl)
set_option maxRecDepth 100000 in
set_option maxHeartbeats 2000000 in
theorem form_any (w : World) (op : Int) : Calls Tryd.prog 145 #[.int .i64 op] w fun e w' => e = .returned (.string (frmS op)) ∧ RowKit.Below w.heap.size w w' := by
  have hr0 := fparts_run
  obtain ⟨cl, hcl⟩ : ∃ cl, cl = forms39.toArray := ⟨_, rfl⟩
  rw [← hcl] at hr0
  have HBD := Lib.hid hr0
  have hcs : cl.size = 39 := by rw [hcl]; rfl
  have hone : cl.all (·.oneCell') = true := by rw [hcl]; kernel_rfl
  have HAT : Hid (∀ k : Nat, 1 ≤ k → k < 39 → cl.toList[k]? = some (.string (frmS (k : Int)))) := fun k h1 h2 => by rw [hcl]; exact forms_at h1 h2
  clear hr0 hcl
  have HB : Hid (RowKit.Below w.heap.size w (w.alloc (.cells cl 210))) := below_al2 _
  have hst : ∀ zl : Array Value, zl.size = 39 → (storeCells ⟨w.heap.size, 0, none⟩ cl.toList 0).run Tryd.prog (w.alloc (.cells zl 210)) = .ok () (w.alloc (.cells cl 210)) := fun zl hz => run_storeCells_new (P := Tryd.prog) w 210 zl cl (by rw [hcs]; kernel_rfl) (hz.trans hcs.symm) hone
  go_enter Tryd.func145, Tryd.ntmps145
  go_upto_region 2 with (with_reducible refine wp_builtAt rfl 210 fparts (by with_unfolding_all rfl) cl (HBD.out _ _) ?_)
  by_cases h : op < 1 ∨ 39 ≤ op
  · have HN := Lib.hid (frmS_none h)
    have hcc : decide (op < 1) = true ∨ (decide (op < 1) = false ∧ decide (39 ≤ op) = true) := by simp only [decide_eq_true_eq, decide_eq_false_iff_not]; omega
    clear h hst
    rcases hcc with d1 | ⟨d1, d2⟩
    all_goals
      go_wp2_with fail
      go_ret
      exact ⟨by rw [HN.out]; rfl, HB.out⟩
  · obtain ⟨k, rfl⟩ : ∃ k : Nat, op = k := ⟨op.toNat, by omega⟩
    have d1 : decide ((k : Int) < 1) = false := decide_eq_false (by omega)
    have d2 : decide (39 ≤ (k : Int)) = false := decide_eq_false (by omega)
    have hk : k < 39 := by omega
    have hk0 : ¬ (k : Int) < 1 := by omega
    have hk1 : ¬ 39 ≤ (k : Int) := by omega
    obtain ⟨s, hs⟩ : ∃ s, s = frmS (k : Int) := ⟨_, rfl⟩
    have hcl2 := HAT.out k (by omega) hk
    rw [← hs] at hcl2
    have HSE := Lib.hid hs
    have hcell : (w.alloc (.cells cl 210)).cell? ⟨w.heap.size, k, none⟩ = some (.string s) := by
      have h1 := blk_new w cl.toList 210
      rw [Array.toArray_toList] at h1
      exact h1.cell hcl2
    clear h hs hst hcl2
    generalize w.alloc (.cells cl 210) = w1 at *
    go_wp2_with fail
    go_ret
    exact ⟨by rw [HSE.out]; rfl, HB.out⟩
theorem caught_not (rg : Int) (nA : Nat) (l : List Int) : (!(l.any fun c => !(within c 0 (rg - 1)) && !(within c (-(nA : Int)) (-1)))) = l.all fun c => within c 0 (rg - 1) || within c (-(nA : Int)) (-1) := by
  induction l with
  | nil => rfl
  | cons x l ih =>
    rw [List.any_cons, List.all_cons, ← ih]
    cases within x 0 (rg - 1) <;> cases within x (-(nA : Int)) (-1) <;> simp
section
variable {a0 a1 a2 a3 a4 : Option Addr} {nF c0 nC c1 nT c2 nA c3 nO c4 : Nat} {pa rg : Int} {gn : Bool}
abbrev lkC (a0 a1 a2 a3 a4 : Option Addr) (nF c0 nC c1 nT c2 nA c3 nO c4 : Nat) (pa rg : Int) (gn : Bool) : List Value :=
  [.slice a0 nF c0, .slice a1 nC c1, .slice a2 nT c2, .int .i64 pa, .int .i64 rg, .bool gn, .slice a3 nA c3, .slice a4 nO c4]
set_option maxRecDepth 100000 in
theorem caughtF_any {w : World} {g : Nat} (c : Int) (hb : Blk w g 170 (lkC a0 a1 a2 a3 a4 nF c0 nC c1 nT c2 nA c3 nO c4 pa rg gn)) (h1 : 1 ≤ rg) (h2 : rg ≤ 1000) (hA : nA ≤ 9223372036854775807) :
    Calls Tryd.prog 161 #[.int .i64 c, .pointer (some ⟨g, 0, none⟩)] w fun e w' => e = .returned (.bool (!(within c 0 (rg - 1)) && !(within c (-(nA : Int)) (-1)))) ∧ RowKit.Below w.heap.size w w' := by
  have HR : Hid (∀ w n, Calls Tryd.prog 148 #[lkV a0 a1 a2 a3 a4 nF c0 nC c1 nT c2 nA c3 nO c4 pa rg gn, .int .i64 n] w fun e w' => e = .returned (.bool (within n 0 (rg - 1))) ∧ RowKit.Below w.heap.size w w') := fun w n => reg_any w n h1 h2
  have HBK := Lib.hid hb
  have p0 := hb.cell (j := 0) rfl; have p1 := hb.cell (j := 1) rfl; have p2 := hb.cell (j := 2) rfl; have p3 := hb.cell (j := 3) rfl; have p4 := hb.cell (j := 4) rfl; have p5 := hb.cell (j := 5) rfl; have p6 := hb.cell (j := 6) rfl; have p7 := hb.cell (j := 7) rfl
  clear hb
  obtain ⟨r1, hr1⟩ : ∃ r, r = within c 0 (rg - 1) := ⟨_, rfl⟩
  obtain ⟨r2, hr2⟩ : ∃ r, r = within c (-(nA : Int)) (-1) := ⟨_, rfl⟩
  have HW : Hid (∀ w, Calls Tryd.prog 146 #[.int .i64 c, .int .i64 (-(nA : Int)), .int .i64 (-1)] w fun e w' => e = .returned (.bool r2) ∧ w = w') := fun w => by rw [hr2]; exact within_any w c _ _
  have HRR : Hid (∀ w, Calls Tryd.prog 148 #[lkV a0 a1 a2 a3 a4 nF c0 nC c1 nT c2 nA c3 nO c4 pa rg gn, .int .i64 c] w fun e w' => e = .returned (.bool r1) ∧ RowKit.Below w.heap.size w w') := fun w => by rw [hr1]; exact HR.out w c
  rw [← hr1, ← hr2]
  clear hr1 hr2
  cases r1 <;> cases r2
  all_goals
    go_enter Tryd.func161, Tryd.ntmps161
    go_wp2_with (first
      | (go_at_call 146; (with_reducible refine (HW.out _).mono ?_); rintro e w1 ⟨rfl, rfl⟩)
      | (go_at_call 148; (with_reducible refine (HRR.out _).mono ?_); rintro e w1 ⟨rfl, hb1⟩; have HB1 := Lib.hid hb1; have hb2 := HBK.out.keep (hb1.block _ HBK.out.lt); have q6 := hb2.cell (j := 6) rfl; clear hb1 hb2))
    go_ret
    exact ⟨rfl, HB1.out⟩
set_option maxRecDepth 100000 in
theorem caught_any {S : Nat → Prop} {w : World} {f q : Api.Fn} {b3 b4 : Option Addr} {d3 d4 nB : Nat} {pb rb : Int} {gb : Bool} (hq : Arr S w b3 q.Caught) (hS : ∀ b, S b → b < w.heap.size) (h1 : 1 ≤ rg) (h2 : rg ≤ 1000) (hA : nA ≤ 9223372036854775807) (e1 : rg = f.Regs) (e5 : nA = f.Caught.length) (nQ : Nat) (hn : nQ = q.Caught.length) :
    Calls Tryd.prog 149 #[lkV a0 a1 a2 a3 a4 nF c0 nC c1 nT c2 nA c3 nO c4 pa rg gn, .agg #[.int .i64 pb, .int .i64 rb, .bool gb, .slice b3 nQ d3, .slice b4 nB d4]] w fun e w' => e = .returned (.bool (caughtOk f q)) ∧ RowKit.Below w.heap.size w w' := by
  have HE : Hid (caughtOk f q = !(q.Caught.any fun c => !(within c 0 (rg - 1)) && !(within c (-(nA : Int)) (-1)))) := by show _ = _; rw [caught_not, e1, e5]; rfl
  have z1 : (w.alloc (.cells #[.slice a0 nF c0, .slice a1 nC c1, .slice a2 nT c2, .int .i64 pa, .int .i64 rg, .bool gn, .slice a3 nA c3, .slice a4 nO c4] 170)).heap.size = w.heap.size + 1 := by simp
  have hb1 : RowKit.Below w.heap.size w ((w.alloc (.cells #[.slice a0 nF c0, .slice a1 nC c1, .slice a2 nT c2, .int .i64 pa, .int .i64 rg, .bool gn, .slice a3 nA c3, .slice a4 nO c4] 170)).alloc (.cells #[.int .i64 pb, .int .i64 rb, .bool gb, .slice b3 nQ d3, .slice b4 nB d4] 123)) := (below_al2 _).alloc (by simp) _
  have hblk : Blk ((w.alloc (.cells #[.slice a0 nF c0, .slice a1 nC c1, .slice a2 nT c2, .int .i64 pa, .int .i64 rg, .bool gn, .slice a3 nA c3, .slice a4 nO c4] 170)).alloc (.cells #[.int .i64 pb, .int .i64 rb, .bool gb, .slice b3 nQ d3, .slice b4 nB d4] 123)) w.heap.size 170 (lkC a0 a1 a2 a3 a4 nF c0 nC c1 nT c2 nA c3 nO c4 pa rg gn) :=
    (blk_new w (lkC a0 a1 a2 a3 a4 nF c0 nC c1 nT c2 nA c3 nO c4 pa rg gn) 170).keep (Below.heap_alloc _ _ _ (by simp))
  obtain ⟨w2, hw2⟩ : ∃ w2, w2 = (w.alloc (.cells #[.slice a0 nF c0, .slice a1 nC c1, .slice a2 nT c2, .int .i64 pa, .int .i64 rg, .bool gn, .slice a3 nA c3, .slice a4 nO c4] 170)).alloc (.cells #[.int .i64 pb, .int .i64 rb, .bool gb, .slice b3 nQ d3, .slice b4 nB d4] 123) := ⟨_, rfl⟩
  rw [← hw2] at hb1 hblk
  have HP : ∀ (y : Int) (wx : World), y ∈ q.Caught → Grow w2 wx → Calls Tryd.prog 161 (#[.int .i64 y] ++ #[.pointer (some ⟨w.heap.size, 0, none⟩)]) wx fun e w' => e = .returned (.bool (!(within y 0 (rg - 1)) && !(within y (-(nA : Int)) (-1)))) ∧ Grow wx w' := fun y wx _ hg => by
    have hk := hblk.keep (w' := wx) (hg.block _ hblk.lt)
    exact caughtF_any y hk h1 h2 hA
  have HC : Hid (Calls Tryd.prog 50 #[.slice b3 nQ d3, .func (.func 161) #[] #[.pointer (some ⟨w.heap.size, 0, none⟩)]] w2 fun e w' => e = .returned (.bool (q.Caught.any fun c => !(within c 0 (rg - 1)) && !(within c (-(nA : Int)) (-1)))) ∧ RowKit.Below w.heap.size w w') := by
    have h := containsI_any (c := d3) (F := 161) (caps := #[.pointer (some ⟨w.heap.size, 0, none⟩)]) mild_grow hn.symm (hq.keep fun b hb => hb1.block b (hS b hb)) (fun b hb => Nat.lt_of_lt_of_le (hS b hb) hb1.size) (fun _ _ => by simp) HP
    exact h.mono fun e w' ⟨he, hg⟩ => ⟨he, hb1.trans (RowKit.Below.mono hg hb1.size)⟩
  rw [hw2] at HC
  clear HP hw2
  clear hq hS e1 e5 hn hb1 hblk
  go_enter Tryd.func149, Tryd.ntmps149
  go_wp2_with (go_at_call 50; (with_reducible refine HC.out.mono ?_); rintro e w1 ⟨rfl, hb⟩; have HB := Lib.hid hb; clear hb)
  go_ret
  exact ⟨by rw [HE.out]; rfl, HB.out⟩
end
end Go.Proofs.YtekofpigmggbbaaDoor.cod

/- code.Check: order: walked. -/
namespace Go.Proofs.YtekofpigmggbbaaDoor.cod
open Go.Bk Go.RowKit Go.Proofs.YtekofpigmggbbaaDoor.funs

/-- A look at a function of a program, as the walks have it. -/
structure LkAt (S : Nat → Prop) (w : World) (a0 a3 a4 : Option Addr) (nF nC nT nA nO : Nat) (rg : Int) (gn : Bool) (p : Api.Prog) (f : Api.Fn) : Prop where
  fns : Arr S w a0 p.Fns
  caught : Arr S w a3 f.Caught
  code : Arr S w a4 f.Code
  lenF : nF = p.Fns.length
  lenC : nC = p.Consts.length
  lenT : nT = p.Texts.length
  lenA : nA = f.Caught.length
  lenO : nO = f.Code.length
  regs : rg = f.Regs
  gen : gn = f.Gen
  r1 : 1 ≤ rg
  r2 : rg ≤ 1000
  fewF : nF ≤ 1000
  fewC : nC ≤ 1000
  fewT : nT ≤ 1000
  fewO : nO ≤ 1000
theorem LkAt.keep {S : Nat → Prop} {w w' : World} {a0 a3 a4 : Option Addr} {nF nC nT nA nO : Nat} {rg : Int} {gn : Bool} {p : Api.Prog} {f : Api.Fn} (h : LkAt S w a0 a3 a4 nF nC nT nA nO rg gn p f) (hb : ∀ b, S b → w'.heap[b]? = w.heap[b]?) : LkAt S w' a0 a3 a4 nF nC nT nA nO rg gn p f :=
  ⟨h.fns.keep hb, h.caught.keep hb, h.code.keep hb, h.lenF, h.lenC, h.lenT, h.lenA, h.lenO, h.regs, h.gen, h.r1, h.r2, h.fewF, h.fewC, h.fewT, h.fewO⟩
theorem LkAt.fewA {S : Nat → Prop} {w : World} {a0 a3 a4 : Option Addr} {nF nC nT nA nO : Nat} {rg : Int} {gn : Bool} {p : Api.Prog} {f : Api.Fn} (h : LkAt S w a0 a3 a4 nF nC nT nA nO rg gn p f) : nA ≤ 9223372036854775807 := by
  rw [h.lenA]; have := h.caught.small; unfold maxLen at this; omega
theorem frm_letters {op : Int} {a b c : UInt8} (h : frm op = some (a, b, c)) : a ∈ letters ∧ b ∈ letters ∧ c ∈ letters := by
  have : ∀ k, k < 39 → 1 ≤ k → ∀ x : U3, tbl[k]? = some x → x.1 ∈ letters ∧ x.2.1 ∈ letters ∧ x.2.2 ∈ letters := by
    intro k hk h1 x hx
    have hm : x ∈ tbl.drop 1 := by
      refine List.mem_of_getElem? (i := k - 1) ?_
      rw [List.getElem?_drop, show 1 + (k - 1) = k by omega]
      exact hx
    have hall : ∀ y ∈ tbl.drop 1, y.1 ∈ letters ∧ y.2.1 ∈ letters ∧ y.2.2 ∈ letters := by decide
    exact hall x hm
  unfold frm at h
  split at h
  · cases h
  · exact this op.toNat (by omega) (by omega) _ h
theorem within_iff {n lo hi : Int} : within n lo hi = true ↔ lo ≤ n ∧ n ≤ hi := by unfold within; simp
abbrev insV (i : Api.Ins) : Value := .agg #[.int .i64 i.Op, .int .i64 i.A, .int .i64 i.B, .int .i64 i.C, .int .i64 i.Line]
section
variable {a0 a1 a2 a3 a4 : Option Addr} {nF c0 nC c1 nT c2 nA c3 nO c4 : Nat} {pa rg : Int} {gn : Bool}
set_option maxRecDepth 100000 in
set_option maxHeartbeats 4000000 in
theorem order_any {S : Nat → Prop} {w : World} {p : Api.Prog} {f : Api.Fn} {i : Api.Ins} {k : Nat} (h : LkAt S w a0 a3 a4 nF nC nT nA nO rg gn p f) (hS : ∀ b, S b → b < w.heap.size) :
    Calls Tryd.prog 114 #[lkV a0 a1 a2 a3 a4 nF c0 nC c1 nT c2 nA c3 nO c4 pa rg gn, .int .i64 k, insV i] w fun e w' => e = .returned (.bool (ordr p f k i)) ∧ RowKit.Below w.heap.size w w' := by
  obtain ⟨op, iA, iB, iC, iL⟩ := i
  show Calls Tryd.prog 114 #[lkV a0 a1 a2 a3 a4 nF c0 nC c1 nT c2 nA c3 nO c4 pa rg gn, .int .i64 k, .agg #[.int .i64 op, .int .i64 iA, .int .i64 iB, .int .i64 iC, .int .i64 iL]] w _
  have HN : Hid (∀ (w : World) c n, c ∈ letters → Calls Tryd.prog 147 #[lkV a0 a1 a2 a3 a4 nF c0 nC c1 nT c2 nA c3 nO c4 pa rg gn, .int .u8 c.toNat, .int .i64 n] w fun e w' => e = .returned (.bool (nam p f c n)) ∧ RowKit.Below w.heap.size w w') := fun w c n hc => names_any w c n hc h.r1 h.r2 h.fewF h.fewC h.fewT h.fewA h.fewO h.regs h.lenF h.lenC h.lenT h.lenA h.lenO
  have HWI : Hid (∀ (w : World) n lo hi, Calls Tryd.prog 146 #[.int .i64 n, .int .i64 lo, .int .i64 hi] w fun e w' => e = .returned (.bool (within n lo hi)) ∧ RowKit.Below w.heap.size w w') := fun w n lo hi => (within_any w n lo hi).mono fun e w' ⟨he, hw⟩ => ⟨he, hw ▸ RowKit.Below.refl _ _⟩
  have HFM : Hid (∀ w, Calls Tryd.prog 145 #[.int .i64 op] w fun e w' => e = .returned (.string (frmS op)) ∧ RowKit.Below w.heap.size w w') := fun w => form_any w op
  have HLK : Hid (∀ w', RowKit.Below w.heap.size w w' → LkAt S w' a0 a3 a4 nF nC nT nA nO rg gn p f) := fun w' hb => h.keep fun b hb' => hb.block b (hS b hb')
  have HSS : Hid (∀ b, S b → b < w.heap.size) := hS
  have z1 : (w.alloc (.cells #[.slice a0 nF c0, .slice a1 nC c1, .slice a2 nT c2, .int .i64 pa, .int .i64 rg, .bool gn, .slice a3 nA c3, .slice a4 nO c4] 170)).heap.size = w.heap.size + 1 := by simp
  have hb1 : RowKit.Below w.heap.size w ((w.alloc (.cells #[.slice a0 nF c0, .slice a1 nC c1, .slice a2 nT c2, .int .i64 pa, .int .i64 rg, .bool gn, .slice a3 nA c3, .slice a4 nO c4] 170)).alloc (.cells #[.int .i64 op, .int .i64 iA, .int .i64 iB, .int .i64 iC, .int .i64 iL] 172)) := (below_al2 _).alloc (by simp) _
  have hk1 : Blk ((w.alloc (.cells #[.slice a0 nF c0, .slice a1 nC c1, .slice a2 nT c2, .int .i64 pa, .int .i64 rg, .bool gn, .slice a3 nA c3, .slice a4 nO c4] 170)).alloc (.cells #[.int .i64 op, .int .i64 iA, .int .i64 iB, .int .i64 iC, .int .i64 iL] 172)) w.heap.size 170 (lkC a0 a1 a2 a3 a4 nF c0 nC c1 nT c2 nA c3 nO c4 pa rg gn) :=
    (blk_new w (lkC a0 a1 a2 a3 a4 nF c0 nC c1 nT c2 nA c3 nO c4 pa rg gn) 170).keep (Below.heap_alloc _ _ _ (by simp))
  have hk2 : Blk ((w.alloc (.cells #[.slice a0 nF c0, .slice a1 nC c1, .slice a2 nT c2, .int .i64 pa, .int .i64 rg, .bool gn, .slice a3 nA c3, .slice a4 nO c4] 170)).alloc (.cells #[.int .i64 op, .int .i64 iA, .int .i64 iB, .int .i64 iC, .int .i64 iL] 172)) (w.heap.size + 1) 172 [.int .i64 op, .int .i64 iA, .int .i64 iB, .int .i64 iC, .int .i64 iL] := by
    have := blk_new (w.alloc (.cells #[.slice a0 nF c0, .slice a1 nC c1, .slice a2 nT c2, .int .i64 pa, .int .i64 rg, .bool gn, .slice a3 nA c3, .slice a4 nO c4] 170)) [.int .i64 op, .int .i64 iA, .int .i64 iB, .int .i64 iC, .int .i64 iL] 172
    rwa [z1] at this
  obtain ⟨w2, hw2⟩ : ∃ w2, w2 = (w.alloc (.cells #[.slice a0 nF c0, .slice a1 nC c1, .slice a2 nT c2, .int .i64 pa, .int .i64 rg, .bool gn, .slice a3 nA c3, .slice a4 nO c4] 170)).alloc (.cells #[.int .i64 op, .int .i64 iA, .int .i64 iB, .int .i64 iC, .int .i64 iL] 172) := ⟨_, rfl⟩
  rw [← hw2] at hb1 hk1 hk2
  have HB2 : Hid (RowKit.Below w.heap.size w w2 ∧ Blk w2 w.heap.size 170 (lkC a0 a1 a2 a3 a4 nF c0 nC c1 nT c2 nA c3 nO c4 pa rg gn) ∧ Blk w2 (w.heap.size + 1) 172 [.int .i64 op, .int .i64 iA, .int .i64 iB, .int .i64 iC, .int .i64 iL]) := ⟨hb1, hk1, hk2⟩
  -- the cells of both boxes, in whatever later world
  have HCE : Hid (∀ w', RowKit.Below w2.heap.size w2 w' → Blk w' w.heap.size 170 (lkC a0 a1 a2 a3 a4 nF c0 nC c1 nT c2 nA c3 nO c4 pa rg gn) ∧ Blk w' (w.heap.size + 1) 172 [.int .i64 op, .int .i64 iA, .int .i64 iB, .int .i64 iC, .int .i64 iL]) := fun w' hb => ⟨hk1.keep (hb.block _ hk1.lt), hk2.keep (hb.block _ hk2.lt)⟩
  have HOP : Hid (ordr p f k ⟨op, iA, iB, iC, iL⟩ = match frm op with
    | none => false
    | some (a, b, c) => within iL 0 2000 && (nam p f a iA && (nam p f b iB && (nam p f c iC && tail p f k ⟨op, iA, iB, iC, iL⟩)))) := rfl
  have y0 := hk2.cell (j := 0) rfl
  clear h hS hb1 hk1 hk2 z1
  go_enter Tryd.func114, Tryd.ntmps114
  go_upto_region 1 with fail
  rw [← hw2]
  clear hw2
  go_upto_region 2 with (go_at_call 145; (with_reducible refine (HFM.out _).mono ?_); rintro e w3 ⟨rfl, hb⟩; have HB3 := Lib.hid hb; clear hb)
  have HB4 : Hid (RowKit.Below w.heap.size w w3) := HB2.out.1.trans (HB3.out.mono HB2.out.1.size)
  obtain ⟨hq1, hq2⟩ := HCE.out w3 HB3.out
  have p0 := hq1.cell (j := 0) rfl; have p1 := hq1.cell (j := 1) rfl; have p2 := hq1.cell (j := 2) rfl; have p3 := hq1.cell (j := 3) rfl; have p4 := hq1.cell (j := 4) rfl; have p5 := hq1.cell (j := 5) rfl; have p6 := hq1.cell (j := 6) rfl; have p7 := hq1.cell (j := 7) rfl
  have q0 := hq2.cell (j := 0) rfl; have q1 := hq2.cell (j := 1) rfl; have q2 := hq2.cell (j := 2) rfl; have q3 := hq2.cell (j := 3) rfl; have q4 := hq2.cell (j := 4) rfl
  have hl1 := hq1.lt; have hl2 := hq2.lt
  clear hq1 hq2 y0
  have hfin : ∀ wd, RowKit.Below w3.heap.size w3 wd → RowKit.Below w.heap.size w wd := fun wd hb => HB4.out.trans (hb.mono HB4.out.size)
  have HFIN := Lib.hid hfin
  clear hfin
  cases hfr : frm op with
  | none =>
    have hs : frmS op = ⟨#[]⟩ := by unfold frmS; rw [hfr]
    have HR : Hid (ordr p f k ⟨op, iA, iB, iC, iL⟩ = false) := by show _ = _; rw [HOP.out, hfr]
    rw [hs]
    clear hs hfr
    first | (refine wp_region_drift_lit (by kernel_rfl) (by kernel_rfl) (fun hdr => ?_); (repeat (go_big_quiet_step (fail))); refine wpQuiet_nil ?_; intro wq hw'; obtain ⟨⟨wd, hbd⟩, hw''⟩ := hw'; dsimp only at hw''; subst wq; clear hdr)
    go_wp2_with fail
    go_ret
    exact ⟨by rw [HR.out]; rfl, HFIN.out _ hbd⟩
  | some x =>
    obtain ⟨a, b, c⟩ := x
    obtain ⟨la, lb, lc⟩ := frm_letters hfr
    have hs : frmS op = ⟨#[a, b, c]⟩ := by unfold frmS; rw [hfr]; rfl
    have HRR : Hid (ordr p f k ⟨op, iA, iB, iC, iL⟩ = (within iL 0 2000 && (nam p f a iA && (nam p f b iB && (nam p f c iC && tail p f k ⟨op, iA, iB, iC, iL⟩))))) := by show _ = _; rw [HOP.out, hfr]
    have HFR := Lib.hid hfr
    obtain ⟨x1, hx1⟩ : ∃ x, x = within iL 0 2000 := ⟨_, rfl⟩
    obtain ⟨x2, hx2⟩ : ∃ x, x = nam p f a iA := ⟨_, rfl⟩
    obtain ⟨x3, hx3⟩ : ∃ x, x = nam p f b iB := ⟨_, rfl⟩
    obtain ⟨x4, hx4⟩ : ∃ x, x = nam p f c iC := ⟨_, rfl⟩
    have HW1 : Hid (∀ d : Drift w3, Calls Tryd.prog 146 #[.int .i64 iL, .int .i64 0, .int .i64 2000] d.val fun e w' => e = .returned (.bool x1) ∧ RowKit.Below d.val.heap.size d.val w') := fun d => by rw [hx1]; exact HWI.out _ _ _ _
    have HN1 : Hid (∀ d : Drift w3, Calls Tryd.prog 147 #[lkV a0 a1 a2 a3 a4 nF c0 nC c1 nT c2 nA c3 nO c4 pa rg gn, .int .u8 a.toNat, .int .i64 iA] d.val fun e w' => e = .returned (.bool x2) ∧ RowKit.Below d.val.heap.size d.val w') := fun d => by rw [hx2]; exact HN.out _ a iA la
    have HN2 : Hid (∀ d : Drift w3, Calls Tryd.prog 147 #[lkV a0 a1 a2 a3 a4 nF c0 nC c1 nT c2 nA c3 nO c4 pa rg gn, .int .u8 b.toNat, .int .i64 iB] d.val fun e w' => e = .returned (.bool x3) ∧ RowKit.Below d.val.heap.size d.val w') := fun d => by rw [hx3]; exact HN.out _ b iB lb
    have HN3 : Hid (∀ d : Drift w3, Calls Tryd.prog 147 #[lkV a0 a1 a2 a3 a4 nF c0 nC c1 nT c2 nA c3 nO c4 pa rg gn, .int .u8 c.toNat, .int .i64 iC] d.val fun e w' => e = .returned (.bool x4) ∧ RowKit.Below d.val.heap.size d.val w') := fun d => by rw [hx4]; exact HN.out _ c iC lc
    have HXX : Hid (x1 = within iL 0 2000 ∧ x2 = nam p f a iA ∧ x3 = nam p f b iB ∧ x4 = nam p f c iC) := ⟨hx1, hx2, hx3, hx4⟩
    rw [← hx1, ← hx2, ← hx3, ← hx4] at HRR
    have g0 : ∀ h, (⟨#[a, b, c]⟩ : ByteArray)[0]'h = a := fun _ => rfl
    have g1 : ∀ h, (⟨#[a, b, c]⟩ : ByteArray)[1]'h = b := fun _ => rfl
    have g2 : ∀ h, (⟨#[a, b, c]⟩ : ByteArray)[2]'h = c := fun _ => rfl
    rw [hs]
    clear hs hfr la lb lc hx1 hx2 hx3 hx4
    cases x1
    · clear HXX
      first | (refine wp_region_drift_lit (by kernel_rfl) (by kernel_rfl) (fun hdr => ?_); (repeat (go_big_quiet_step ((go_at_call 146; exact drift_of (HW1.out _))))); refine wpQuiet_nil ?_; intro wq hw'; obtain ⟨⟨wd, hbd⟩, hw''⟩ := hw'; dsimp only at hw''; subst wq; clear hdr)
      go_wp2_with fail
      go_ret
      exact ⟨by rw [HRR.out]; rfl, HFIN.out _ hbd⟩
    cases x2
    · clear HXX
      first | (refine wp_region_drift_lit (by kernel_rfl) (by kernel_rfl) (fun hdr => ?_); (repeat (go_big_quiet_step ((first | (go_at_call 146; exact drift_of (HW1.out _)) | (go_at_call 147; with_reducible exact drift_of (HN1.out _)))))); refine wpQuiet_nil ?_; intro wq hw'; obtain ⟨⟨wd, hbd⟩, hw''⟩ := hw'; dsimp only at hw''; subst wq; clear hdr)
      go_wp2_with fail
      go_ret
      exact ⟨by rw [HRR.out]; rfl, HFIN.out _ hbd⟩
    cases x3
    · clear HXX
      first | (refine wp_region_drift_lit (by kernel_rfl) (by kernel_rfl) (fun hdr => ?_); (repeat (go_big_quiet_step ((first | (go_at_call 146; exact drift_of (HW1.out _)) | (go_at_call 147; with_reducible exact drift_of (HN1.out _)) | (go_at_call 147; with_reducible exact drift_of (HN2.out _)))))); refine wpQuiet_nil ?_; intro wq hw'; obtain ⟨⟨wd, hbd⟩, hw''⟩ := hw'; dsimp only at hw''; subst wq; clear hdr)
      go_wp2_with fail
      go_ret
      exact ⟨by rw [HRR.out]; rfl, HFIN.out _ hbd⟩
    cases x4
    · clear HXX
      first | (refine wp_region_drift_lit (by kernel_rfl) (by kernel_rfl) (fun hdr => ?_); (repeat (go_big_quiet_step ((first | (go_at_call 146; exact drift_of (HW1.out _)) | (go_at_call 147; with_reducible exact drift_of (HN1.out _)) | (go_at_call 147; with_reducible exact drift_of (HN2.out _)) | (go_at_call 147; with_reducible exact drift_of (HN3.out _)))))); refine wpQuiet_nil ?_; intro wq hw'; obtain ⟨⟨wd, hbd⟩, hw''⟩ := hw'; dsimp only at hw''; subst wq; clear hdr)
      go_wp2_with fail
      go_ret
      exact ⟨by rw [HRR.out]; rfl, HFIN.out _ hbd⟩
    · first | (refine wp_region_drift_lit (by kernel_rfl) (by kernel_rfl) (fun hdr => ?_); (repeat (go_big_quiet_step ((first | (go_at_call 146; exact drift_of (HW1.out _)) | (go_at_call 147; with_reducible exact drift_of (HN1.out _)) | (go_at_call 147; with_reducible exact drift_of (HN2.out _)) | (go_at_call 147; with_reducible exact drift_of (HN3.out _)))))); refine wpQuiet_nil ?_; intro wq hw'; obtain ⟨⟨wd, hbd⟩, hw''⟩ := hw'; dsimp only at hw''; subst wq; clear hdr)
      have h23 : RowKit.Below w2.heap.size w2 wd := HB3.out.trans (hbd.mono HB3.out.size)
      have HBF := Lib.hid (HFIN.out _ hbd)
      obtain ⟨hq1, hq2⟩ := HCE.out wd h23
      clear p0 p1 p2 p3 p4 p5 p6 p7 q0 q1 q2 q3 q4 hl1 hl2
      have p0 := hq1.cell (j := 0) rfl; have p1 := hq1.cell (j := 1) rfl; have p2 := hq1.cell (j := 2) rfl; have p3 := hq1.cell (j := 3) rfl; have p4 := hq1.cell (j := 4) rfl; have p5 := hq1.cell (j := 5) rfl; have p6 := hq1.cell (j := 6) rfl; have p7 := hq1.cell (j := 7) rfl
      have q0 := hq2.cell (j := 0) rfl; have q1 := hq2.cell (j := 1) rfl; have q2 := hq2.cell (j := 2) rfl; have q3 := hq2.cell (j := 3) rfl; have q4 := hq2.cell (j := 4) rfl
      have hl1 := hq1.lt; have hl2 := hq2.lt
      have HRT : Hid (ordr p f k ⟨op, iA, iB, iC, iL⟩ = tail p f k ⟨op, iA, iB, iC, iL⟩) := by show _ = _; rw [HRR.out]; rfl
      have lk := HLK.out wd HBF.out
      have HLW := Lib.hid lk
      have hr1 := lk.r1; have hr2 := lk.r2
      clear hbd hq1 hq2 h23 HW1 HN1 HN2 HN3 HRR HOP g0 g1 g2 lk HCE
      by_cases o14 : op = 14
      · subst o14
        have HT : Hid (tail p f k ⟨14, iA, iB, iC, iL⟩ = decide (iA ≤ (k : Int))) := rfl
        go_wp2_with fail
        go_ret
        exact ⟨by rw [HRT.out, HT.out]; rfl, HBF.out⟩
      have n14 : (op == 14) = false := by simpa using o14
      by_cases o19 : op = 19
      · subst o19
        have e := HFR.out
        rw [show frm 19 = some (114, 108, 110) from rfl] at e
        injection e with e
        injection e with ea e
        injection e with eb ec
        subst ea eb ec
        have hB : within iB 0 f.Regs = true := by rw [HXX.out.2.2.1]; simp [nam]
        have hC : within iC 0 f.Regs = true := by rw [HXX.out.2.2.2]; simp [nam]
        rw [within_iff, ← HLW.out.regs] at hB hC
        obtain ⟨hB1, hB2⟩ := hB
        obtain ⟨hC1, hC2⟩ := hC
        have HT : Hid (tail p f k ⟨19, iA, iB, iC, iL⟩ = decide (iB + iC ≤ rg)) := by show _ = _; rw [HLW.out.regs]; rfl
        clear o14
        go_wp2_with fail
        go_ret
        exact ⟨by rw [HRT.out, HT.out]; rfl, HBF.out⟩
      have n19 : (op == 19) = false := by simpa using o19
      by_cases o27 : op = 27
      · subst o27
        have e := HFR.out
        rw [show frm 27 = some (114, 99, 110) from rfl] at e
        injection e with e
        injection e with ea e
        injection e with eb ec
        subst ea eb ec
        have hB : within iB 0 f.Regs = true := by rw [HXX.out.2.2.1]; simp [nam]
        have hC : within iC 0 f.Regs = true := by rw [HXX.out.2.2.2]; simp [nam]
        rw [within_iff, ← HLW.out.regs] at hB hC
        obtain ⟨hB1, hB2⟩ := hB
        obtain ⟨hC1, hC2⟩ := hC
        have HT : Hid (tail p f k ⟨27, iA, iB, iC, iL⟩ = within (iB + iC) 0 (rg - 1)) := by show _ = _; rw [HLW.out.regs]; rfl
        have HRG : Hid (∀ w n, Calls Tryd.prog 148 #[lkV a0 a1 a2 a3 a4 nF c0 nC c1 nT c2 nA c3 nO c4 pa rg gn, .int .i64 n] w fun e w' => e = .returned (.bool (within n 0 (rg - 1))) ∧ RowKit.Below w.heap.size w w') := fun w n => reg_any w n HLW.out.r1 HLW.out.r2
        clear o14 o19
        go_wp2_with (go_at_call 148; (with_reducible refine (HRG.out _ _).mono ?_); rintro e w6 ⟨rfl, hb⟩; have HB6 := Lib.hid (HBF.out.trans (hb.mono HBF.out.size)); clear hb)
        go_ret
        exact ⟨by rw [HRT.out, HT.out]; rfl, HB6.out⟩
      have n27 : (op == 27) = false := by simpa using o27
      by_cases o26 : op = 26
      · subst o26
        have e := HFR.out
        rw [show frm 26 = some (114, 102, 45) from rfl] at e
        injection e with e
        injection e with ea e
        injection e with eb ec
        subst ea eb ec
        have hB : within iB 1 ((p.Fns.length : Int) - 1) = true := by rw [HXX.out.2.2.1]; simp [nam]
        rw [within_iff, ← HLW.out.lenF] at hB
        obtain ⟨q, rfl⟩ : ∃ q : Nat, iB = q := ⟨iB.toNat, by omega⟩
        have hqF : q < nF := by omega
        obtain ⟨gq, hgq⟩ : ∃ g, p.Fns[q]? = some g := ⟨_, List.getElem?_eq_getElem (by rw [← HLW.out.lenF]; exact hqF)⟩
        have HT : Hid (tail p f k ⟨26, iA, q, iC, iL⟩ = caughtOk f gq) := by
          show (match p.Fns[((q : Nat) : Int).toNat]? with | some g => caughtOk f g | none => true) = _
          rw [show ((q : Nat) : Int).toNat = q from rfl, hgq]
        obtain ⟨b1, o1, d3, e3, d4, e4, rfl, hs1, k0, k1, k2, k3, k4, -, -, hq3, -⟩ := api_Fn_elem HLW.out.fns hgq
        have hlf : b1 < wd.heap.size := Nat.lt_of_lt_of_le (HSS.out b1 hs1) HBF.out.size
        obtain ⟨nQ, hnQ⟩ : ∃ n, n = gq.Caught.length := ⟨_, rfl⟩
        have HCA : Hid (∀ d : Drift wd, Calls Tryd.prog 149 #[lkV (some ⟨b1, o1, none⟩) a1 a2 a3 a4 nF c0 nC c1 nT c2 nA c3 nO c4 pa rg gn, .agg #[.int .i64 gq.Params, .int .i64 gq.Regs, .bool gq.Gen, .slice d3 nQ e3, .slice d4 gq.Code.length e4]] d.val fun e w' => e = .returned (.bool (caughtOk f gq)) ∧ RowKit.Below d.val.heap.size d.val w') := fun d =>
          caught_any (S := S) (hq3.2.2.keep fun b hb => d.below.block b (Nat.lt_of_lt_of_le (HSS.out b hb) HBF.out.size)) (fun b hb => Nat.lt_of_lt_of_le (HSS.out b hb) (Nat.le_trans HBF.out.size d.below.size)) HLW.out.r1 HLW.out.r2 HLW.out.fewA HLW.out.regs HLW.out.lenA nQ hnQ
        rw [← hnQ] at k3
        obtain ⟨ck, hck⟩ : ∃ ck, ck = caughtOk f gq := ⟨_, rfl⟩
        rw [← hck] at HT HCA
        have hqz : (q : Int) < (nF : Int) := by omega
        clear o14 o19 o27 hgq hq3 hnQ hB hck
        go_wp2_with fail
        first | (refine wp_region_drift_lit (by kernel_rfl) (by kernel_rfl) (fun hdr => ?_); (repeat (go_big_quiet_step ((go_at_call 149; with_reducible exact drift_of (HCA.out _))))); refine wpQuiet_nil ?_; intro wq hw'; obtain ⟨⟨wd, hbd⟩, hw''⟩ := hw'; dsimp only at hw''; subst wq; clear hdr)
        go_wp2_with fail
        go_ret
        exact ⟨by rw [HRT.out, HT.out]; rfl, HBF.out.trans (hbd.mono HBF.out.size)⟩
      have n26 : (op == 26) = false := by simpa using o26
      by_cases o32 : op = 32
      · subst o32
        have HT : Hid (tail p f k ⟨32, iA, iB, iC, iL⟩ = gn) := by show _ = _; rw [HLW.out.gen]; rfl
        clear o14 o19 o27 o26
        go_wp2_with fail
        go_ret
        exact ⟨by rw [HRT.out, HT.out]; rfl, HBF.out⟩
      · have n32 : (op == 32) = false := by simpa using o32
        have HT : Hid (tail p f k ⟨op, iA, iB, iC, iL⟩ = true) := by
          show _ = _
          unfold tail
          rw [if_neg o14, if_neg o19, if_neg o27, if_neg o26, if_neg o32]
        clear o14 o19 o27 o26 o32
        go_wp2_with fail
        go_ret
        exact ⟨by rw [HRT.out, HT.out]; rfl, HBF.out⟩
end
end Go.Proofs.YtekofpigmggbbaaDoor.cod
