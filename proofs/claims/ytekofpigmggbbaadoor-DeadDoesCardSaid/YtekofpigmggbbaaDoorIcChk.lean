/- The law IrChecks: walked. -/
import Derived.Test.YtekofpigmggbbaaDoorIcG
import Derived.Test.YtekofpigmggbbaaDoorMay
set_option linter.unusedVariables false
set_option linter.unusedSimpArgs false
namespace Go.Proofs.YtekofpigmggbbaaDoor.chk
open Go.Bk Go.RowKit Go.Proofs.YtekofpigmggbbaaDoor.ir
attribute [local go_sem ↓] Go.wp_at_zero Go.wp_at_succ

theorem plan_opG {P : Program} {ops : Array Oper} {Q : Exit → Act → World → Prop} {C : World → Prop} {k : Nat} {o : Oper} {r : List (Bool × Nat)} {lt : List Oper} {a : Act} {w : World} (h0 : ops[k]? = some o) (hw : Region.wanted o (yielded ops a.tmps) = true)
    (h : ∀ R : Act → World → Prop, (∀ a' w', C w' → wpPlan P ops Q C lt r a' w' → R a' w') → wpList P ops (AfterT R Q) [o] a w) : wpPlan P ops Q C lt ((false, k) :: r) a w := by
  unfold wpPlan
  rw [h0]
  have h1 := h (fun a' w' => C w' ∧ wpPlan P ops Q C lt r a' w') fun _ _ h1 h2 => ⟨h1, h2⟩
  unfold wpList at h1
  rw [if_pos hw] at h1
  show if _ then _ else _
  rw [if_pos hw]
  rcases h1 with h1 | h1
  · refine .inl ?_
    unfold Oper.wp at *
    generalize (execOp a.eval o).run P w = r at *
    cases r with
    | ok n w' => cases n <;> exact h1
    | halt x w' => cases x <;> exact h1
  · exact .inr ⟨h1.1, h1.2⟩
/-- What Check answers, whatever the program. -/
def chkAll (p : Api.Prog) (t : Api.TTrace) : Int := if cod.codeChk p = 0 then traceChk p t else cod.codeChk p
theorem icheck_any {S : Nat → Prop} {w : World} {P T : Array Value} {p : Api.Prog} {t : Api.TTrace} (hp : Rep.cells S w P.toList p) (ht : Rep.cells S w T.toList t) (hS : ∀ b, S b → b < w.heap.size) (hA : cod.Asc w) :
    Calls Tryd.prog 35 #[.agg P, .agg T] w fun e w' => e = .returned (.int .i64 (chkAll p t)) ∧ Below w.heap.size w w' := by
  unfold chkAll
  by_cases h : cod.codeChk p = 0
  · rw [if_pos h]
    exact icheck_good hp ht hS hA h
  · rw [if_neg h]
    exact icheck_bad hp hS hA h
/-- What is known of the handed over all along. -/
structure LK (S : Nat → Prop) (w : World) (P T : Array Value) (p : Api.Prog) (t : Api.TTrace) (aI : Option Addr) (W : World) : Prop where
  rp : Row W w.heap.size 26 P
  rt : Row W (w.heap.size + 1) 34 T
  rep : Rep.cells S W P.toList p
  ret : Rep.cells S W T.toList t
  ins : Arr S W aI t.Ins
  dom : ∀ b, S b → b < W.heap.size
  below : Below w.heap.size w W
  asc : cod.Asc W
theorem tcap2_of {S : Nat → Prop} {w : World} {X : Array Value} {t : Api.TTrace} (h : Rep.cells S w X.toList t) : ∃ a3 nI c3, TIn S w X t a3 nI c3 ∧ nI ≤ c3 := by
  obtain ⟨a3, c3, a4, c4, a7, c7, a8, c8, a11, c11, a12, c12, e, -, -, -, h3, -⟩ := api_TTrace_cells_eq h
  refine ⟨a3, _, c3, ⟨?_, by rw [e]; rfl, h3.2.2, rfl, ?_⟩, h3.1⟩
  · have := congrArg List.length e
    simpa using this
  · have := h3.2.2.small
    unfold maxLen at this
    omega
end Go.Proofs.YtekofpigmggbbaaDoor.chk
