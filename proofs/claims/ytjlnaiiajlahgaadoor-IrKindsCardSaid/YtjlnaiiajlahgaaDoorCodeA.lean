/- code.Check: within, form, reg, at, text, names, caught: walked. -/
import Derived.Test.YtjlnaiiajlahgaaDoorCodePlain
import Derived.Test.YtjlnaiiajlahgaaDoorFuncsV
import Derived.BigQuiet
import Derived.Test.YtjlnaiiajlahgaaDoorBuild
set_option linter.unusedVariables false
set_option linter.unusedSimpArgs false
namespace Go.Proofs.YtjlnaiiajlahgaaDoor.cod
open Go.Bk Go.RowKit Go.Proofs.YtjlnaiiajlahgaaDoor.funs

/-- A look at a function, as a value: its eight cells. -/
abbrev lkV (a0 a1 a2 a3 a4 : Option Addr) (nF c0 nC c1 nT c2 nA c3 nO c4 : Nat) (pa rg : Int) (gn : Bool) : Value :=
  .agg #[.slice a0 nF c0, .slice a1 nC c1, .slice a2 nT c2, .int .i64 pa, .int .i64 rg, .bool gn, .slice a3 nA c3, .slice a4 nO c4]
set_option maxRecDepth 100000 in
theorem within_any (w : World) (n lo hi : Int) : Calls Tryd.prog 114 #[.int .i64 n, .int .i64 lo, .int .i64 hi] w fun e w' => e = .returned (.bool (within n lo hi)) ∧ w = w' := by
  have HD : Hid (within n lo hi = (decide (lo ≤ n) && decide (n ≤ hi))) := rfl
  by_cases h1 : lo ≤ n <;> by_cases h2 : n ≤ hi
  all_goals
    go_enter Tryd.func114, Tryd.ntmps114
    go_wp2
    go_ret
    exact ⟨by rw [HD.out]; simp [h1, h2], rfl⟩
set_option maxRecDepth 100000 in
theorem owithin_any (w : World) (n lo hi : Int) : Calls Tryd.prog 111 #[.int .i64 n, .int .i64 lo, .int .i64 hi] w fun e w' => e = .returned (.bool (within n lo hi)) ∧ w = w' := by
  have HD : Hid (within n lo hi = (decide (lo ≤ n) && decide (n ≤ hi))) := rfl
  by_cases h1 : lo ≤ n <;> by_cases h2 : n ≤ hi
  all_goals
    go_enter Tryd.func111, Tryd.ntmps111
    go_wp2
    go_ret
    exact ⟨by rw [HD.out]; simp [h1, h2], rfl⟩
theorem below_al2 {w : World} (o : Obj) : RowKit.Below w.heap.size w (w.alloc o) := (RowKit.Below.refl _ _).alloc (Nat.le_refl _) _
section
variable {a0 a1 a2 a3 a4 : Option Addr} {nF c0 nC c1 nT c2 nA c3 nO c4 : Nat} {pa rg : Int} {gn : Bool}
set_option maxRecDepth 100000 in
theorem reg_any (w : World) (n : Int) (h1 : 1 ≤ rg) (h2 : rg ≤ 1000) : Calls Tryd.prog 116 #[lkV a0 a1 a2 a3 a4 nF c0 nC c1 nT c2 nA c3 nO c4 pa rg gn, .int .i64 n] w fun e w' => e = .returned (.bool (within n 0 (rg - 1))) ∧ RowKit.Below w.heap.size w w' := by
  have HB : Hid (∀ o, RowKit.Below w.heap.size w (w.alloc o)) := fun o => below_al2 o
  go_enter Tryd.func116, Tryd.ntmps116
  go_wp2_with (go_at_call 114; (with_reducible refine (within_any _ _ _ _).mono ?_); rintro e w1 ⟨rfl, rfl⟩)
  go_ret
  exact ⟨rfl, HB.out _⟩
set_option maxRecDepth 100000 in
theorem at_any (w : World) (n : Int) (h2 : nO ≤ 1000) : Calls Tryd.prog 132 #[lkV a0 a1 a2 a3 a4 nF c0 nC c1 nT c2 nA c3 nO c4 pa rg gn, .int .i64 n] w fun e w' => e = .returned (.bool (within n 0 ((nO : Int) - 1))) ∧ RowKit.Below w.heap.size w w' := by
  have HB : Hid (∀ o, RowKit.Below w.heap.size w (w.alloc o)) := fun o => below_al2 o
  go_enter Tryd.func132, Tryd.ntmps132
  go_wp2_with (go_at_call 114; (with_reducible refine (within_any _ _ _ _).mono ?_); rintro e w1 ⟨rfl, rfl⟩)
  go_ret
  exact ⟨rfl, HB.out _⟩
set_option maxRecDepth 100000 in
theorem text_any (w : World) (n : Int) (h2 : nT ≤ 1000) : Calls Tryd.prog 131 #[lkV a0 a1 a2 a3 a4 nF c0 nC c1 nT c2 nA c3 nO c4 pa rg gn, .int .i64 n] w fun e w' => e = .returned (.bool (within n 0 ((nT : Int) - 1))) ∧ RowKit.Below w.heap.size w w' := by
  have HB : Hid (∀ o, RowKit.Below w.heap.size w (w.alloc o)) := fun o => below_al2 o
  go_enter Tryd.func131, Tryd.ntmps131
  go_wp2_with (go_at_call 114; (with_reducible refine (within_any _ _ _ _).mono ?_); rintro e w1 ⟨rfl, rfl⟩)
  go_ret
  exact ⟨rfl, HB.out _⟩
/-- The letters that occur. -/
def letters : List UInt8 := [114, 107, 116, 97, 117, 102, 108, 99, 110, 45]
set_option maxRecDepth 100000 in
set_option maxHeartbeats 2000000 in
theorem names_any {p : Api.Prog} {f : Api.Fn} (w : World) (c : UInt8) (n : Int) (hc : c ∈ letters) (h1 : 1 ≤ rg) (h2 : rg ≤ 1000) (hF : nF ≤ 1000) (hC : nC ≤ 1000) (hT : nT ≤ 1000) (hA : nA ≤ 9223372036854775807) (hO : nO ≤ 1000)
    (e1 : rg = f.Regs) (e2 : nF = p.Fns.length) (e3 : nC = p.Consts.length) (e4 : nT = p.Texts.length) (e5 : nA = f.Caught.length) (e6 : nO = f.Code.length) :
    Calls Tryd.prog 115 #[lkV a0 a1 a2 a3 a4 nF c0 nC c1 nT c2 nA c3 nO c4 pa rg gn, .int .u8 c.toNat, .int .i64 n] w fun e w' => e = .returned (.bool (nam p f c n)) ∧ RowKit.Below w.heap.size w w' := by
  have HB : Hid (∀ o, RowKit.Below w.heap.size w (w.alloc o)) := fun o => below_al2 o
  have HB2 : Hid (∀ o w', RowKit.Below (w.alloc o).heap.size (w.alloc o) w' → RowKit.Below w.heap.size w w') := fun o w' h => (below_al2 o).trans (h.mono (below_al2 o).size)
  have HE : Hid (nam p f c n = if c = 114 then within n 0 (rg - 1) else if c = 107 then within n 0 ((nC : Int) - 1) else if c = 116 then within n 0 ((nT : Int) - 1) else if c = 97 then within n 0 ((nO : Int) - 1) else if c = 117 then within n 0 ((nA : Int) - 1) else if c = 102 then within n 1 ((nF : Int) - 1) else if c = 108 ∨ c = 99 ∨ c = 110 then within n 0 rg else decide (n = 0)) := by
    show _ = _
    unfold nam
    rw [e1, e2, e3, e4, e5, e6]
  have HR : Hid (∀ w n, Calls Tryd.prog 116 #[lkV a0 a1 a2 a3 a4 nF c0 nC c1 nT c2 nA c3 nO c4 pa rg gn, .int .i64 n] w fun e w' => e = .returned (.bool (within n 0 (rg - 1))) ∧ RowKit.Below w.heap.size w w') := fun w n => reg_any w n h1 h2
  have HAt : Hid (∀ w n, Calls Tryd.prog 132 #[lkV a0 a1 a2 a3 a4 nF c0 nC c1 nT c2 nA c3 nO c4 pa rg gn, .int .i64 n] w fun e w' => e = .returned (.bool (within n 0 ((nO : Int) - 1))) ∧ RowKit.Below w.heap.size w w') := fun w n => at_any w n hO
  have HT : Hid (∀ w n, Calls Tryd.prog 131 #[lkV a0 a1 a2 a3 a4 nF c0 nC c1 nT c2 nA c3 nO c4 pa rg gn, .int .i64 n] w fun e w' => e = .returned (.bool (within n 0 ((nT : Int) - 1))) ∧ RowKit.Below w.heap.size w w') := fun w n => text_any w n hT
  clear e1 e2 e3 e4 e5 e6
  simp only [letters, List.mem_cons, List.not_mem_nil, or_false] at hc
  rcases hc with rfl | rfl | rfl | rfl | rfl | rfl | rfl | rfl | rfl | rfl
  all_goals
    go_enter Tryd.func115, Tryd.ntmps115
    go_wp2_with (first
      | (go_at_call 114; (with_reducible refine (within_any _ _ _ _).mono ?_); rintro e w1 ⟨rfl, rfl⟩; have HW := Lib.hid (HB.out (.cells #[.slice a0 nF c0, .slice a1 nC c1, .slice a2 nT c2, .int .i64 pa, .int .i64 rg, .bool gn, .slice a3 nA c3, .slice a4 nO c4] 167)))
      | (go_at_call 116; (with_reducible refine (HR.out _ _).mono ?_); rintro e w1 ⟨rfl, hb⟩; have HW := Lib.hid (HB2.out _ _ hb); clear hb)
      | (go_at_call 132; (with_reducible refine (HAt.out _ _).mono ?_); rintro e w1 ⟨rfl, hb⟩; have HW := Lib.hid (HB2.out _ _ hb); clear hb)
      | (go_at_call 131; (with_reducible refine (HT.out _ _).mono ?_); rintro e w1 ⟨rfl, hb⟩; have HW := Lib.hid (HB2.out _ _ hb); clear hb))
    go_ret
    exact ⟨by rw [HE.out]; first | rfl | (simp; done) | (simp [BEq.beq]; done), by first | exact HW.out | exact HB.out _⟩
end
def u3s (x : U3) : ByteArray := ⟨#[x.1, x.2.1, x.2.2]⟩
/-- The text of an order's form. -/
def frmS (op : Int) : ByteArray := match frm op with
  | none => ⟨#[]⟩
  | some x => u3s x
abbrev forms39 : List Value := [.string ⟨#[]⟩, .string ⟨#[114, 107, 45]⟩, .string ⟨#[114, 114, 45]⟩, .string ⟨#[114, 114, 114]⟩, .string ⟨#[114, 114, 114]⟩, .string ⟨#[114, 114, 114]⟩, .string ⟨#[114, 114, 114]⟩, .string ⟨#[114, 114, 114]⟩, .string ⟨#[114, 114, 114]⟩, .string ⟨#[114, 114, 114]⟩, .string ⟨#[114, 114, 114]⟩, .string ⟨#[114, 114, 45]⟩, .string ⟨#[114, 114, 45]⟩, .string ⟨#[97, 45, 45]⟩, .string ⟨#[97, 45, 45]⟩, .string ⟨#[114, 97, 45]⟩, .string ⟨#[114, 45, 45]⟩, .string ⟨#[114, 114, 116]⟩, .string ⟨#[114, 116, 114]⟩, .string ⟨#[114, 108, 110]⟩, .string ⟨#[114, 114, 114]⟩, .string ⟨#[114, 114, 114]⟩, .string ⟨#[114, 45, 45]⟩, .string ⟨#[114, 114, 45]⟩, .string ⟨#[114, 114, 45]⟩, .string ⟨#[114, 117, 45]⟩, .string ⟨#[114, 102, 45]⟩, .string ⟨#[114, 99, 110]⟩, .string ⟨#[114, 45, 45]⟩, .string ⟨#[114, 45, 45]⟩, .string ⟨#[114, 97, 45]⟩, .string ⟨#[45, 45, 45]⟩, .string ⟨#[114, 114, 45]⟩, .string ⟨#[114, 45, 45]⟩, .string ⟨#[114, 45, 45]⟩, .string ⟨#[114, 114, 45]⟩, .string ⟨#[114, 114, 45]⟩, .string ⟨#[114, 45, 45]⟩, .string ⟨#[114, 45, 45]⟩]
theorem forms_at {k : Nat} (h1 : 1 ≤ k) (h2 : k < 39) : forms39[k]? = some (.string (frmS (k : Int))) := by
  have : ∀ j, j < 39 → 1 ≤ j → forms39[j]? = some (.string (frmS (j : Int))) := by
    intro j hj h
    match j, hj, h with
    | 0, _, h => exact absurd h (by omega)
    | 1, _, _ => exact rfl
    | 2, _, _ => exact rfl
    | 3, _, _ => exact rfl
    | 4, _, _ => exact rfl
    | 5, _, _ => exact rfl
    | 6, _, _ => exact rfl
    | 7, _, _ => exact rfl
    | 8, _, _ => exact rfl
    | 9, _, _ => exact rfl
    | 10, _, _ => exact rfl
    | 11, _, _ => exact rfl
    | 12, _, _ => exact rfl
    | 13, _, _ => exact rfl
    | 14, _, _ => exact rfl
    | 15, _, _ => exact rfl
    | 16, _, _ => exact rfl
    | 17, _, _ => exact rfl
    | 18, _, _ => exact rfl
    | 19, _, _ => exact rfl
    | 20, _, _ => exact rfl
    | 21, _, _ => exact rfl
    | 22, _, _ => exact rfl
    | 23, _, _ => exact rfl
    | 24, _, _ => exact rfl
    | 25, _, _ => exact rfl
    | 26, _, _ => exact rfl
    | 27, _, _ => exact rfl
    | 28, _, _ => exact rfl
    | 29, _, _ => exact rfl
    | 30, _, _ => exact rfl
    | 31, _, _ => exact rfl
    | 32, _, _ => exact rfl
    | 33, _, _ => exact rfl
    | 34, _, _ => exact rfl
    | 35, _, _ => exact rfl
    | 36, _, _ => exact rfl
    | 37, _, _ => exact rfl
    | 38, _, _ => exact rfl
    | k + 39, h, _ => exact absurd h (by omega)
  exact this k h2 h1
theorem frmS_none {op : Int} (h : op < 1 ∨ 39 ≤ op) : frmS op = ⟨#[]⟩ := by unfold frmS frm; rw [if_pos h]
def fparts : Array (Nat × Operand) := #[(0, .const (.string ⟨#[]⟩)), (1, .const (.string ⟨#[114, 107, 45]⟩)), (2, .const (.string ⟨#[114, 114, 45]⟩)), (3, .const (.string ⟨#[114, 114, 114]⟩)), (4, .const (.string ⟨#[114, 114, 114]⟩)), (5, .const (.string ⟨#[114, 114, 114]⟩)), (6, .const (.string ⟨#[114, 114, 114]⟩)), (7, .const (.string ⟨#[114, 114, 114]⟩)), (8, .const (.string ⟨#[114, 114, 114]⟩)), (9, .const (.string ⟨#[114, 114, 114]⟩)), (10, .const (.string ⟨#[114, 114, 114]⟩)), (11, .const (.string ⟨#[114, 114, 45]⟩)), (12, .const (.string ⟨#[114, 114, 45]⟩)), (13, .const (.string ⟨#[97, 45, 45]⟩)), (14, .const (.string ⟨#[97, 45, 45]⟩)), (15, .const (.string ⟨#[114, 97, 45]⟩)), (16, .const (.string ⟨#[114, 45, 45]⟩)), (17, .const (.string ⟨#[114, 114, 116]⟩)), (18, .const (.string ⟨#[114, 116, 114]⟩)), (19, .const (.string ⟨#[114, 108, 110]⟩)), (20, .const (.string ⟨#[114, 114, 114]⟩)), (21, .const (.string ⟨#[114, 114, 114]⟩)), (22, .const (.string ⟨#[114, 45, 45]⟩)), (23, .const (.string ⟨#[114, 114, 45]⟩)), (24, .const (.string ⟨#[114, 114, 45]⟩)), (25, .const (.string ⟨#[114, 117, 45]⟩)), (26, .const (.string ⟨#[114, 102, 45]⟩)), (27, .const (.string ⟨#[114, 99, 110]⟩)), (28, .const (.string ⟨#[114, 45, 45]⟩)), (29, .const (.string ⟨#[114, 45, 45]⟩)), (30, .const (.string ⟨#[114, 97, 45]⟩)), (31, .const (.string ⟨#[45, 45, 45]⟩)), (32, .const (.string ⟨#[114, 114, 45]⟩)), (33, .const (.string ⟨#[114, 45, 45]⟩)), (34, .const (.string ⟨#[114, 45, 45]⟩)), (35, .const (.string ⟨#[114, 114, 45]⟩)), (36, .const (.string ⟨#[114, 114, 45]⟩)), (37, .const (.string ⟨#[114, 45, 45]⟩)), (38, .const (.string ⟨#[114, 45, 45]⟩))]
set_option maxRecDepth 100000 in
theorem fparts_run (a : Act) (w : World) : (Instr.build 214 (fparts.map fun x => (x.1, a.eval x.2))).run Tryd.prog w = .ok (.agg forms39.toArray) w := run_build w _ _ _ (by kernel_rfl)
set_option maxRecDepth 100000 in
set_option maxHeartbeats 2000000 in
theorem form_any (w : World) (op : Int) : Calls Tryd.prog 113 #[.int .i64 op] w fun e w' => e = .returned (.string (frmS op)) ∧ RowKit.Below w.heap.size w w' := by
  have hr0 := fparts_run
  obtain ⟨cl, hcl⟩ : ∃ cl, cl = forms39.toArray := ⟨_, rfl⟩
  rw [← hcl] at hr0
  have HBD := Lib.hid hr0
  have hcs : cl.size = 39 := by rw [hcl]; rfl
  have hone : cl.all (·.oneCell') = true := by rw [hcl]; kernel_rfl
  have HAT : Hid (∀ k : Nat, 1 ≤ k → k < 39 → cl.toList[k]? = some (.string (frmS (k : Int)))) := fun k h1 h2 => by rw [hcl]; exact forms_at h1 h2
  clear hr0 hcl
  have HB : Hid (RowKit.Below w.heap.size w (w.alloc (.cells cl 214))) := below_al2 _
  have hst : ∀ zl : Array Value, zl.size = 39 → (storeCells ⟨w.heap.size, 0, none⟩ cl.toList 0).run Tryd.prog (w.alloc (.cells zl 214)) = .ok () (w.alloc (.cells cl 214)) := fun zl hz => run_storeCells_new (P := Tryd.prog) w 214 zl cl (by rw [hcs]; kernel_rfl) (hz.trans hcs.symm) hone
  go_enter Tryd.func113, Tryd.ntmps113
  go_upto_region 2 with (with_reducible refine wp_builtAt rfl 214 fparts (by with_unfolding_all rfl) cl (HBD.out _ _) ?_)
  by_cases h : op < 1 ∨ 39 ≤ op
  · have HN := Lib.hid (frmS_none h)
    have hcc : decide (op < 1) = true ∨ (decide (op < 1) = false ∧ decide (39 ≤ op) = true) := by simp only [decide_eq_true_eq, decide_eq_false_iff_not]; omega
    clear h hst
    rcases hcc with d1 | ⟨d1, d2⟩
    all_goals
      go_wp2_with fail
      go_ret
      exact ⟨by rw [HN.out]; rfl, HB.out⟩
  · obtain ⟨k, rfl⟩ : ∃ k : Nat, op = k := ⟨op.toNat, by omega⟩
    have d1 : decide ((k : Int) < 1) = false := decide_eq_false (by omega)
    have d2 : decide (39 ≤ (k : Int)) = false := decide_eq_false (by omega)
    have hk : k < 39 := by omega
    have hk0 : ¬ (k : Int) < 1 := by omega
    have hk1 : ¬ 39 ≤ (k : Int) := by omega
    obtain ⟨s, hs⟩ : ∃ s, s = frmS (k : Int) := ⟨_, rfl⟩
    have hcl2 := HAT.out k (by omega) hk
    rw [← hs] at hcl2
    have HSE := Lib.hid hs
    have hcell : (w.alloc (.cells cl 214)).cell? ⟨w.heap.size, k, none⟩ = some (.string s) := by
      have h1 := blk_new w cl.toList 214
      rw [Array.toArray_toList] at h1
      exact h1.cell hcl2
    clear h hs hst hcl2
    generalize w.alloc (.cells cl 214) = w1 at *
    go_wp2_with fail
    go_ret
    exact ⟨by rw [HSE.out]; rfl, HB.out⟩
theorem caught_not (rg : Int) (nA : Nat) (l : List Int) : (!(l.any fun c => !(within c 0 (rg - 1)) && !(within c (-(nA : Int)) (-1)))) = l.all fun c => within c 0 (rg - 1) || within c (-(nA : Int)) (-1) := by
  induction l with
  | nil => rfl
  | cons x l ih =>
    rw [List.any_cons, List.all_cons, ← ih]
    cases within x 0 (rg - 1) <;> cases within x (-(nA : Int)) (-1) <;> simp
section
variable {a0 a1 a2 a3 a4 : Option Addr} {nF c0 nC c1 nT c2 nA c3 nO c4 : Nat} {pa rg : Int} {gn : Bool}
abbrev lkC (a0 a1 a2 a3 a4 : Option Addr) (nF c0 nC c1 nT c2 nA c3 nO c4 : Nat) (pa rg : Int) (gn : Bool) : List Value :=
  [.slice a0 nF c0, .slice a1 nC c1, .slice a2 nT c2, .int .i64 pa, .int .i64 rg, .bool gn, .slice a3 nA c3, .slice a4 nO c4]
set_option maxRecDepth 100000 in
theorem caughtF_any {w : World} {g : Nat} (c : Int) (hb : Blk w g 167 (lkC a0 a1 a2 a3 a4 nF c0 nC c1 nT c2 nA c3 nO c4 pa rg gn)) (h1 : 1 ≤ rg) (h2 : rg ≤ 1000) (hA : nA ≤ 9223372036854775807) :
    Calls Tryd.prog 134 #[.int .i64 c, .pointer (some ⟨g, 0, none⟩)] w fun e w' => e = .returned (.bool (!(within c 0 (rg - 1)) && !(within c (-(nA : Int)) (-1)))) ∧ RowKit.Below w.heap.size w w' := by
  have HR : Hid (∀ w n, Calls Tryd.prog 116 #[lkV a0 a1 a2 a3 a4 nF c0 nC c1 nT c2 nA c3 nO c4 pa rg gn, .int .i64 n] w fun e w' => e = .returned (.bool (within n 0 (rg - 1))) ∧ RowKit.Below w.heap.size w w') := fun w n => reg_any w n h1 h2
  have HBK := Lib.hid hb
  have p0 := hb.cell (j := 0) rfl; have p1 := hb.cell (j := 1) rfl; have p2 := hb.cell (j := 2) rfl; have p3 := hb.cell (j := 3) rfl; have p4 := hb.cell (j := 4) rfl; have p5 := hb.cell (j := 5) rfl; have p6 := hb.cell (j := 6) rfl; have p7 := hb.cell (j := 7) rfl
  clear hb
  obtain ⟨r1, hr1⟩ : ∃ r, r = within c 0 (rg - 1) := ⟨_, rfl⟩
  obtain ⟨r2, hr2⟩ : ∃ r, r = within c (-(nA : Int)) (-1) := ⟨_, rfl⟩
  have HW : Hid (∀ w, Calls Tryd.prog 114 #[.int .i64 c, .int .i64 (-(nA : Int)), .int .i64 (-1)] w fun e w' => e = .returned (.bool r2) ∧ w = w') := fun w => by rw [hr2]; exact within_any w c _ _
  have HRR : Hid (∀ w, Calls Tryd.prog 116 #[lkV a0 a1 a2 a3 a4 nF c0 nC c1 nT c2 nA c3 nO c4 pa rg gn, .int .i64 c] w fun e w' => e = .returned (.bool r1) ∧ RowKit.Below w.heap.size w w') := fun w => by rw [hr1]; exact HR.out w c
  rw [← hr1, ← hr2]
  clear hr1 hr2
  cases r1 <;> cases r2
  all_goals
    go_enter Tryd.func134, Tryd.ntmps134
    go_wp2_with (first
      | (go_at_call 114; (with_reducible refine (HW.out _).mono ?_); rintro e w1 ⟨rfl, rfl⟩)
      | (go_at_call 116; (with_reducible refine (HRR.out _).mono ?_); rintro e w1 ⟨rfl, hb1⟩; have HB1 := Lib.hid hb1; have hb2 := HBK.out.keep (hb1.block _ HBK.out.lt); have q6 := hb2.cell (j := 6) rfl; clear hb1 hb2))
    go_ret
    exact ⟨rfl, HB1.out⟩
set_option maxRecDepth 100000 in
theorem caught_any {S : Nat → Prop} {w : World} {f q : Api.Fn} {b3 b4 : Option Addr} {d3 d4 nB : Nat} {pb rb : Int} {gb : Bool} (hq : Arr S w b3 q.Caught) (hS : ∀ b, S b → b < w.heap.size) (h1 : 1 ≤ rg) (h2 : rg ≤ 1000) (hA : nA ≤ 9223372036854775807) (e1 : rg = f.Regs) (e5 : nA = f.Caught.length) (nQ : Nat) (hn : nQ = q.Caught.length) :
    Calls Tryd.prog 117 #[lkV a0 a1 a2 a3 a4 nF c0 nC c1 nT c2 nA c3 nO c4 pa rg gn, .agg #[.int .i64 pb, .int .i64 rb, .bool gb, .slice b3 nQ d3, .slice b4 nB d4]] w fun e w' => e = .returned (.bool (caughtOk f q)) ∧ RowKit.Below w.heap.size w w' := by
  have HE : Hid (caughtOk f q = !(q.Caught.any fun c => !(within c 0 (rg - 1)) && !(within c (-(nA : Int)) (-1)))) := by show _ = _; rw [caught_not, e1, e5]; rfl
  have z1 : (w.alloc (.cells #[.slice a0 nF c0, .slice a1 nC c1, .slice a2 nT c2, .int .i64 pa, .int .i64 rg, .bool gn, .slice a3 nA c3, .slice a4 nO c4] 167)).heap.size = w.heap.size + 1 := by simp
  have hb1 : RowKit.Below w.heap.size w ((w.alloc (.cells #[.slice a0 nF c0, .slice a1 nC c1, .slice a2 nT c2, .int .i64 pa, .int .i64 rg, .bool gn, .slice a3 nA c3, .slice a4 nO c4] 167)).alloc (.cells #[.int .i64 pb, .int .i64 rb, .bool gb, .slice b3 nQ d3, .slice b4 nB d4] 128)) := (below_al2 _).alloc (by simp) _
  have hblk : Blk ((w.alloc (.cells #[.slice a0 nF c0, .slice a1 nC c1, .slice a2 nT c2, .int .i64 pa, .int .i64 rg, .bool gn, .slice a3 nA c3, .slice a4 nO c4] 167)).alloc (.cells #[.int .i64 pb, .int .i64 rb, .bool gb, .slice b3 nQ d3, .slice b4 nB d4] 128)) w.heap.size 167 (lkC a0 a1 a2 a3 a4 nF c0 nC c1 nT c2 nA c3 nO c4 pa rg gn) :=
    (blk_new w (lkC a0 a1 a2 a3 a4 nF c0 nC c1 nT c2 nA c3 nO c4 pa rg gn) 167).keep (Below.heap_alloc _ _ _ (by simp))
  obtain ⟨w2, hw2⟩ : ∃ w2, w2 = (w.alloc (.cells #[.slice a0 nF c0, .slice a1 nC c1, .slice a2 nT c2, .int .i64 pa, .int .i64 rg, .bool gn, .slice a3 nA c3, .slice a4 nO c4] 167)).alloc (.cells #[.int .i64 pb, .int .i64 rb, .bool gb, .slice b3 nQ d3, .slice b4 nB d4] 128) := ⟨_, rfl⟩
  rw [← hw2] at hb1 hblk
  have HP : ∀ (y : Int) (wx : World), y ∈ q.Caught → Grow w2 wx → Calls Tryd.prog 134 (#[.int .i64 y] ++ #[.pointer (some ⟨w.heap.size, 0, none⟩)]) wx fun e w' => e = .returned (.bool (!(within y 0 (rg - 1)) && !(within y (-(nA : Int)) (-1)))) ∧ Grow wx w' := fun y wx _ hg => by
    have hk := hblk.keep (w' := wx) (hg.block _ hblk.lt)
    exact caughtF_any y hk h1 h2 hA
  have HC : Hid (Calls Tryd.prog 133 #[.slice b3 nQ d3, .func (.func 134) #[] #[.pointer (some ⟨w.heap.size, 0, none⟩)]] w2 fun e w' => e = .returned (.bool (q.Caught.any fun c => !(within c 0 (rg - 1)) && !(within c (-(nA : Int)) (-1)))) ∧ RowKit.Below w.heap.size w w') := by
    have h := containsI_any (c := d3) (F := 134) (caps := #[.pointer (some ⟨w.heap.size, 0, none⟩)]) mild_grow hn.symm (hq.keep fun b hb => hb1.block b (hS b hb)) (fun b hb => Nat.lt_of_lt_of_le (hS b hb) hb1.size) (fun _ _ => by simp) HP
    exact h.mono fun e w' ⟨he, hg⟩ => ⟨he, hb1.trans (RowKit.Below.mono hg hb1.size)⟩
  rw [hw2] at HC
  clear HP hw2
  clear hq hS e1 e5 hn hb1 hblk
  go_enter Tryd.func117, Tryd.ntmps117
  go_wp2_with (go_at_call 133; (with_reducible refine HC.out.mono ?_); rintro e w1 ⟨rfl, hb⟩; have HB := Lib.hid hb; clear hb)
  go_ret
  exact ⟨by rw [HE.out]; rfl, HB.out⟩
end
end Go.Proofs.YtjlnaiiajlahgaaDoor.cod
