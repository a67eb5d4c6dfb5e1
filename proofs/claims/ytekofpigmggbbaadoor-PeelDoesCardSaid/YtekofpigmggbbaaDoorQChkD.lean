/- The document's: RightExit: walked. -/
import Derived.Test.YtekofpigmggbbaaDoorQChkB
import Derived.Deep.DeepCutAuto
set_option linter.unusedVariables false
set_option linter.unusedSimpArgs false
namespace Go.Proofs.YtekofpigmggbbaaDoor.chk
open Go.Bk Go.RowKit Go.Proofs.YtekofpigmggbbaaDoor.ir
theorem rep_size {S : Nat → Prop} {w : World} {X : Array Value} {α : Type} [Rep α] {x : α} (h : Rep.cells S w X.toList x) : X.size = Rep.sz α := by
 have := Rep.len h
 simpa using this
/-- An exit as it is handed over. -/
structure XIn (S : Nat → Prop) (w : World) (X : Array Value) (x : Api.TExit) (a2 a3 : Option Addr) (nS c2 nM c3 : Nat) : Prop where
 size : X.size = 4
 c0 : X.toList[0]? = some (.int .i64 x.At)
 c1 : X.toList[1]? = some (.int .i64 x.Steps)
 c2 : X.toList[2]? = some (.slice a2 nS c2)
 c3 : X.toList[3]? = some (.slice a3 nM c3)
 sets : Arr S w a2 x.Sets
 makes : Arr S w a3 x.Makes
 lenS : x.Sets.length = nS
 lenM : x.Makes.length = nM
 fewS : nS ≤ 9223372036854775807
 fewM : nM ≤ 9223372036854775807
theorem xin_of {S : Nat → Prop} {w : World} {X : Array Value} {x : Api.TExit} (h : Rep.cells S w X.toList x) : ∃ a2 a3 nS c2 nM c3, XIn S w X x a2 a3 nS c2 nM c3 := by
 obtain ⟨a2, c2, a3, c3, e, -, -, h2, h3⟩ := api_TExit_cells_eq h
 refine ⟨a2, a3, _, c2, _, c3, ?_, by rw [e]; rfl, by rw [e]; rfl, by rw [e]; rfl, by rw [e]; rfl, h2.2.2, h3.2.2, rfl, rfl, ?_, ?_⟩
 · have := congrArg List.length e
   simpa using this
 · have := h2.2.2.small
   unfold maxLen at this
   omega
 · have := h3.2.2.small
   unfold maxLen at this
   omega
/-- A program as it is handed over. -/
structure PIn (S : Nat → Prop) (w : World) (X : Array Value) (p : Api.Prog) (a0 : Option Addr) (nF c0 : Nat) : Prop where
 size : X.size = 3
 c0 : X.toList[0]? = some (.slice a0 nF c0)
 fns : Arr S w a0 p.Fns
 len : p.Fns.length = nF
theorem pin_of {S : Nat → Prop} {w : World} {X : Array Value} {p : Api.Prog} (h : Rep.cells S w X.toList p) : ∃ a0 nF c0, PIn S w X p a0 nF c0 := by
 obtain ⟨a0, c0, a1, c1, a2, c2, e, h0, -⟩ := api_Prog_cells_eq h
 refine ⟨a0, _, c0, ?_, by rw [e]; rfl, h0.2.2, rfl⟩
 have := congrArg List.length e
 simpa using this
theorem four (a b c d : Bool) : a = false ∨ (a = true ∧ b = false) ∨ (a = true ∧ b = true ∧ c = false) ∨ (a = true ∧ b = true ∧ c = true ∧ d = false) ∨ (a = true ∧ b = true ∧ c = true ∧ d = true) := by
 cases a <;> cases b <;> cases c <;> cases d <;> simp
end Go.Proofs.YtekofpigmggbbaaDoor.chk

namespace Go.Proofs.YtekofpigmggbbaaDoor.chk
open Go.Bk Go.RowKit Go.Proofs.YtekofpigmggbbaaDoor.ir
theorem rows3 (w : World) (o1 o2 o3 : Array Value) (t1 t2 t3 : TypeId) (W : World) (hW : W = ((w.alloc (.cells o1 t1)).alloc (.cells o2 t2)).alloc (.cells o3 t3)) :
 Row W w.heap.size t1 o1 ∧ Row W (w.heap.size + 1) t2 o2 ∧ Row W (w.heap.size + 1 + 1) t3 o3 ∧ Below w.heap.size w W := by
 subst hW
 have z1 : (w.alloc (.cells o1 t1)).heap.size = w.heap.size + 1 := by simp
 have z2 : ((w.alloc (.cells o1 t1)).alloc (.cells o2 t2)).heap.size = w.heap.size + 1 + 1 := by simp
 have b1 := row_new w o1 t1
 have b2 := row_new (w.alloc (.cells o1 t1)) o2 t2
 have b3 := row_new ((w.alloc (.cells o1 t1)).alloc (.cells o2 t2)) o3 t3
 rw [z1] at b2
 rw [z2] at b3
 refine ⟨?_, ?_, b3, ?_⟩
 · exact (b1.keep (Below.heap_alloc _ _ _ (by omega))).keep (Below.heap_alloc _ _ _ (by omega))
 · exact b2.keep (Below.heap_alloc _ _ _ (by omega))
 · exact (((Below.refl _ _).alloc (Nat.le_refl _) _).alloc (by simp) _).alloc (by simp; omega) _
theorem rows2 (w : World) (o1 o2 : Array Value) (t1 t2 : TypeId) (W : World) (hW : W = (w.alloc (.cells o1 t1)).alloc (.cells o2 t2)) :
 Row W w.heap.size t1 o1 ∧ Row W (w.heap.size + 1) t2 o2 ∧ Below w.heap.size w W ∧ W.heap.size = w.heap.size + 1 + 1 := by
 subst hW
 have z1 : (w.alloc (.cells o1 t1)).heap.size = w.heap.size + 1 := by simp
 have b1 := row_new w o1 t1
 have b2 := row_new (w.alloc (.cells o1 t1)) o2 t2
 rw [z1] at b2
 refine ⟨b1.keep (Below.heap_alloc _ _ _ (by omega)), b2, ((Below.refl _ _).alloc (Nat.le_refl _) _).alloc (by simp) _, by simp⟩
theorem texit_at {S : Nat → Prop} {w : World} {a : Option Addr} {xs : List Api.TExit} (h : Arr S w a xs) {k : Nat} {e : Api.TExit} (hk : xs[k]? = some e) :
 ∃ (b off : Nat) (a2 : Option Addr) (n2 c2 : Nat) (a3 : Option Addr) (n3 c3 : Nat), a = some ⟨b, off, none⟩ ∧ S b ∧ w.cell? ⟨b, off + k * 4, none⟩ = some (.int .i64 e.At) ∧ w.cell? ⟨b, off + k * 4 + 1, none⟩ = some (.int .i64 e.Steps) ∧ w.cell? ⟨b, off + k * 4 + 2, none⟩ = some (.slice a2 n2 c2) ∧ w.cell? ⟨b, off + k * 4 + 3, none⟩ = some (.slice a3 n3 c3) ∧
   Rep.cells S w [.int .i64 e.At, .int .i64 e.Steps, .slice a2 n2 c2, .slice a3 n3 c3] e := by
 obtain ⟨b, off, cs, ha, hb, hc, hj⟩ := h.at hk
 obtain ⟨a2, c2, a3, c3, rfl, -⟩ := api_TExit_cells_eq hc
 exact ⟨b, off, a2, _, c2, a3, _, c3, ha, hb, by have := hj 0 (by show 0 < 4; omega); simpa [api_TExit_sz] using this, by have := hj 1 (by show 1 < 4; omega); simpa [api_TExit_sz] using this, by have := hj 2 (by show 2 < 4; omega); simpa [api_TExit_sz] using this, by have := hj 3 (by show 3 < 4; omega); simpa [api_TExit_sz] using this, hc⟩
theorem k_eq (op : Int) : (formOf op).1.k = (decide (op = 2) || decide (op = 6)) := by
 rcases op_cases op with h | rfl | rfl | rfl | rfl | rfl | rfl | rfl | rfl | rfl | rfl | rfl | rfl | rfl | rfl | rfl | rfl | rfl | rfl | rfl
 · rw [formOf_else h]; simp; omega
 all_goals decide
/-- The arguments, by their numbers. -/
def argN (x : Api.TIns) (k : Nat) : Int := if k = 0 then x.A else if k = 1 then x.B else x.C
def ArgsTo (ins : List Api.TIns) (x : Api.TIns) (i : Int) (k : Nat) : Prop := ∀ j, j < k → argOk ins x i j (argN x j) = true
theorem insOk_arg {regs cl : Int} {ins : List Api.TIns} {exits : List Api.TExit} {x : Api.TIns} {i : Int} {j : Nat} (hj : j < 3) (h : argOk ins x i j (argN x j) = false) : insOk regs cl ins exits x i = false := by
 have : argsOk ins x i = false := by
  unfold argsOk
  have : j = 0 ∨ j = 1 ∨ j = 2 := by omega
  rcases this with rfl | rfl | rfl
  · rw [show argN x 0 = x.A from rfl] at h; rw [h]; rfl
  · rw [show argN x 1 = x.B from rfl] at h; rw [h]; simp
  · rw [show argN x 2 = x.C from rfl] at h; rw [h]; simp
 unfold insOk
 rw [this]; rfl
theorem insOk_args {regs cl : Int} {ins : List Api.TIns} {exits : List Api.TExit} {x : Api.TIns} {i : Int} (h : ArgsTo ins x i 3) : insOk regs cl ins exits x i = (numOk regs x && (keepOk x && wayOk regs cl ins exits x i)) := by
 have h0 := h 0 (by omega); have h1 := h 1 (by omega); have h2 := h 2 (by omega)
 have e : argsOk ins x i = true := by
  unfold argsOk
  rw [show argN x 0 = x.A from rfl] at h0
  rw [show argN x 1 = x.B from rfl] at h1
  rw [show argN x 2 = x.C from rfl] at h2
  rw [h0, h1, h2]; rfl
 unfold insOk
 rw [e]; rfl
end Go.Proofs.YtekofpigmggbbaaDoor.chk
