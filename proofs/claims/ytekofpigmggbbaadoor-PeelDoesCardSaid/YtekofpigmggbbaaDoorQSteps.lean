/- General: calls and appends as steps of a region that draws its order. No program is named here. -/
import Derived.Test.YtekofpigmggbbaaDoorQMem
import Derived.Deep.RegionLaw
set_option linter.unusedVariables false
set_option linter.unusedSimpArgs false
namespace Go.Bk
open Go.RowKit

section
variable {P : Program} {ops : Array Oper} {K : Act → World → Prop} {Q : Exit → Act → World → Prop} {E : Prop} {a : Act} {w : World} {o : Oper}
/-- A call of a Go function, by its contract. -/
theorem step_call {f : FuncId} {xs : Array Operand} {ts : Array TypeId} {vs : Array Value} (hgd : o.guard = none) (ho : o.op = .call { callee := .value (.func f), args := xs, argTypes := ts }) (hv : xs.map a.eval = vs)
    (he : ∀ args w, (callFunc f args).run P w = .ok (.enter f args) w) {R : Ending → World → Prop} (hc : Calls P f vs w R) (h : ∀ e w', R e w' → ∃ v, e = .returned v ∧ K (a.put o.dst v) w') :
    if Region.wanted o (yielded ops a.tmps) = true then Oper.wp P o a w K Q else E := by
  have hw : Region.wanted o (yielded ops a.tmps) = true := by simp [Region.wanted, hgd]
  rw [if_pos hw]
  subst hv
  unfold Oper.wp execOp
  simp only [ho]
  have := he (xs.map a.eval) w
  simp [resolve, invoke, go_sem, this]
  refine hc.mono ?_
  intro e w' hr
  obtain ⟨v, rfl, hk⟩ := h e w' hr
  exact hk

/-- The post where nothing but going on is allowed. -/
def OnlyOn (K : Act → World → Prop) : Exit → Act → World → Prop
  | .normal, a, w => K a w
  | _, _, _ => False
theorem wp_post {Q' : Exit → Act → World → Prop} (hQ : ∀ c a w, Q' (.panic c) a w → Q (.panic c) a w) (hl : LetsOut Q' → LetsOut Q) (hh : o.wp P a w K Q') : o.wp P a w K Q := by
  unfold Oper.wp at *
  generalize (execOp a.eval o).run P w = r at *
  cases r with
  | ok n w' =>
    cases n <;> simp only [Oper.upon] at hh ⊢ <;>
      first
        | exact hh
        | exact Calls.mono hh (fun e w'' he => by cases e <;> first | exact he | exact hQ _ _ _ he | exact hl he)
  | halt x w' => cases x <;> simp only [Oper.upon] at hh ⊢ <;> first | exact hh | exact hQ _ _ _ hh
/-- A law for the walk of a list, as one step of a region that draws its order. -/
theorem step_of_list (hgd : o.guard = none) (h : ∀ Q' : Exit → Act → World → Prop, (∀ a w, Q' .normal a w ↔ K a w) → wpList P ops Q' [o] a w) : if Region.wanted o (yielded ops a.tmps) = true then Oper.wp P o a w K Q else E := by
  have hw : Region.wanted o (yielded ops a.tmps) = true := by simp [Region.wanted, hgd]
  rw [if_pos hw]
  have h1 := h (OnlyOn K) (fun _ _ => Iff.rfl)
  simp only [wpList, hw, if_true] at h1
  rcases h1 with h1 | ⟨-, ⟨a', w', h1⟩⟩
  · exact wp_post (Q' := OnlyOn K) (fun c a w he => he.elim) (fun ⟨a', w', hl⟩ => hl.elim) h1
  · exact h1.elim
end
end Go.Bk

/- General: a call of a function value as a step of a region that draws its order. No program is named here. -/
namespace Go.Bk
open Go.RowKit
section
variable {P : Program} {ops : Array Oper} {K : Act → World → Prop} {Q : Exit → Act → World → Prop} {E : Prop} {a : Act} {w : World} {o : Oper}
/-- A call of a function value, by the function's contract. -/
theorem step_callc {f : FuncId} {x : Operand} {xs : Array Operand} {ts : Array TypeId} {vs caps : Array Value} (hgd : o.guard = none) (ho : o.op = .call { callee := .value x, args := xs, argTypes := ts }) (hx : a.eval x = .func (.func f) #[] caps) (hv : xs.map a.eval = vs)
    (he : ∀ args w, (callFunc f args).run P w = .ok (.enter f args) w) {R : Ending → World → Prop} (hc : Calls P f (vs ++ caps) w R) (h : ∀ e w', R e w' → ∃ v, e = .returned v ∧ K (a.put o.dst v) w') :
    if Region.wanted o (yielded ops a.tmps) = true then Oper.wp P o a w K Q else E := by
  have hw : Region.wanted o (yielded ops a.tmps) = true := by simp [Region.wanted, hgd]
  rw [if_pos hw]
  subst hv
  unfold Oper.wp execOp
  simp only [ho, resolve, hx]
  have := he (xs.map a.eval ++ caps) w
  simp [invoke, go_sem, this]
  refine hc.mono ?_
  intro e w' hr
  obtain ⟨v, rfl, hk⟩ := h e w' hr
  exact hk
end
end Go.Bk
