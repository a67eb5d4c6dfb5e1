/- ClocksTell's law, plain: the count, step by step. -/
import Derived.Test.YtffebdngmbbcoaaTellC
set_option linter.unusedVariables false
set_option linter.unusedSimpArgs false
namespace Go.Proofs.Ytffebdngmbbcoaa.clk
open Go.Bk Go.RowKit Go.Maps Go.Proofs.Ytffebdngmbbcoaa.lock

theorem past_ahead (l : List Api.Event) (k q : Nat) : past l k q = (ahead l k q || decide (q = k)) := by
  unfold ahead
  by_cases e : q = k
  · subst e; rw [past_refl]; simp
  · simp [e]
theorem inT_step {l : List Api.Event} {k q T : Nat} {x : Api.Event} (hx : l[q]? = some x) (hT : x.Thread = (T : Int)) (u : Nat) : cntP (inT l k u) (q + 1) = cntP (inT l k u) q + if (ahead l k q || decide (q = k)) = true ∧ u = T then 1 else 0 := by
  rw [cntP]
  congr 1
  have h1 : thr l (u : Int) q = decide (u = T) := by
    unfold thr
    rw [hx]
    simp only [hT, decide_eq_decide]
    omega
  have h2 : inT l k u q = ((ahead l k q || decide (q = k)) && decide (u = T)) := by
    unfold inT
    rw [past_ahead, h1]
  rw [h2]
  simp only [Bool.and_eq_true, decide_eq_true_eq]
theorem cntP_none {p : Nat → Bool} {M : Nat} : ∀ {N}, M ≤ N → (∀ n, M ≤ n → n < N → p n = false) → cntP p N = cntP p M
  | 0, h, _ => by obtain rfl : M = 0 := by omega
                  rfl
  | N + 1, h, hno => by
    by_cases e : M = N + 1
    · subst e; rfl
    · rw [cntP, hno N (by omega) (by omega), cntP_none (N := N) (by omega) fun n h1 h2 => hno n h1 (by omega)]
      rfl
theorem cnt_full {l : List Api.Event} {k n : Nat} {t : Int} (h : k < n) : cntP (inT l k t) n = cnt l k t :=
  cntP_none (by omega) fun x h1 h2 => by
    unfold inT
    cases hp : past l k x with
    | true => have := past_le k k x (Nat.le_refl _) hp; omega
    | false => rfl
end Go.Proofs.Ytffebdngmbbcoaa.clk
