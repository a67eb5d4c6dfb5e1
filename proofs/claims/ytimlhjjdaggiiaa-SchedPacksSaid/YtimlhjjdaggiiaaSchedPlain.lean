/- Plain: words as runs, and back. -/
import Derived.Test.YtimlhjjdaggiiaaTy
set_option linter.unusedVariables false
set_option linter.unusedSimpArgs false
namespace Go.Proofs.Ytimlhjjdaggiiaa.sched
open Go.Bk Go.RowKit

def rleCons (x : Int) : List Api.DRun → List Api.DRun
  | [] => [⟨x, 1⟩]
  | r :: rs => if r.Thread = x then ⟨x, r.Many + 1⟩ :: rs else ⟨x, 1⟩ :: r :: rs
/-- A list's runs. -/
def rle : List Int → List Api.DRun
  | [] => []
  | x :: xs => rleCons x (rle xs)
def packStep : List Api.DRun → Int → List Api.DRun
  | [], n => [⟨n, 1⟩]
  | [r], n => if r.Thread = n then [⟨n, r.Many + 1⟩] else [r, ⟨n, 1⟩]
  | r :: s :: rs, n => r :: packStep (s :: rs) n
theorem rleCons_step (x n : Int) (R : List Api.DRun) : rleCons x (packStep R n) = packStep (rleCons x R) n := by
  match R with
  | [] => simp only [packStep, rleCons]; by_cases h : n = x; (subst h; simp); (have h' : ¬x = n := fun e => h e.symm; simp [h, h'])
  | [⟨t, m⟩] =>
    simp only [packStep, rleCons]
    by_cases h : t = x
    · subst h; by_cases h2 : t = n <;> simp [h2, rleCons, packStep]
    · by_cases h2 : t = n
      · subst h2; simp [h, rleCons, packStep]
      · simp [h2, h, rleCons, packStep]
  | ⟨t, m⟩ :: s :: rs =>
    simp only [packStep, rleCons]
    by_cases h : t = x <;> simp [h, packStep]
theorem rle_snoc (l : List Int) (n : Int) : rle (l ++ [n]) = packStep (rle l) n := by
  induction l with
  | nil => rfl
  | cons x l ih => rw [List.cons_append, rle, ih, rleCons_step]; rfl
theorem packStep_snoc (R : List Api.DRun) (r : Api.DRun) (n : Int) : packStep (R ++ [r]) n = if r.Thread = n then R ++ [⟨n, r.Many + 1⟩] else (R ++ [r]) ++ [⟨n, 1⟩] := by
  induction R with
  | nil => simp only [List.nil_append, packStep]; split <;> rfl
  | cons x R ih =>
    cases R with
    | nil => simp only [List.cons_append, List.nil_append, packStep]; split <;> rfl
    | cons y R => simp only [List.cons_append] at ih ⊢; rw [packStep, ih]; split <;> rfl
theorem rle_mem (l : List Int) : ∀ r ∈ rle l, r.Thread ∈ l ∧ 1 ≤ r.Many ∧ r.Many ≤ l.length := by
  induction l with
  | nil => simp [rle]
  | cons x l ih =>
    intro r hr
    unfold rle rleCons at hr
    split at hr
    · simp at hr; subst hr; simp; omega
    · rename_i q rs hq
      have hq' := ih q (by rw [hq]; simp)
      split at hr
      · rcases List.mem_cons.1 hr with rfl | hr
        · simp; omega
        · have := ih r (by rw [hq]; simp [hr]); simp [this.1]; omega
      · rcases List.mem_cons.1 hr with rfl | hr
        · simp; omega
        · have := ih r (by rw [hq]; exact hr); simp [this.1]; omega
theorem rle_len (l : List Int) : (rle l).length ≤ l.length := by
  induction l with
  | nil => simp [rle]
  | cons x l ih =>
    unfold rle rleCons
    split
    · simp
    · rename_i q rs hq
      rw [hq] at ih
      split <;> simp at ih ⊢ <;> omega
theorem rle_run (x : Int) (m : Nat) (rest : List Int) (h : rest.head? ≠ some x) : rle (List.replicate (m + 1) x ++ rest) = ⟨x, ((m + 1 : Nat) : Int)⟩ :: rle rest := by
  induction m with
  | zero =>
    show rleCons x (rle rest) = _
    cases rest with
    | nil => rfl
    | cons y rest =>
      have hy : y ≠ x := fun e => h (by rw [e]; rfl)
      have : ∃ k rs, rle (y :: rest) = ⟨y, k⟩ :: rs := by
        show ∃ k rs, rleCons y (rle rest) = _
        unfold rleCons
        split
        · exact ⟨_, _, rfl⟩
        · split <;> exact ⟨_, _, rfl⟩
      obtain ⟨k, rs, hk⟩ := this
      rw [hk]
      simp [rleCons, hy]
  | succ m ih =>
    rw [List.replicate_succ, List.cons_append]
    show rleCons x (rle _) = _
    rw [ih]
    simp [rleCons]

def inRange (n : Int) : Bool := decide (0 ≤ n) && decide (n < 8)
/-- Pack's answer. -/
def packOf (l : List Int) : List Api.DRun × Int := if 200 < l.length then ([], 2) else if l.all inRange then (rle l, 0) else ([], 1)
/-- Unpack's answer, of what is left. -/
def unpackOf : Option Int → List Api.DRun → List Int → List Int × Int
  | _, [], acc => (acc, 0)
  | p, r :: rs, acc =>
    if inRange r.Thread = false then ([], 1)
    else if r.Many < 1 ∨ p = some r.Thread then ([], 3)
    else if 200 - (acc.length : Int) < r.Many then ([], 2)
    else unpackOf (some r.Thread) rs (acc ++ List.replicate r.Many.toNat r.Thread)
end Go.Proofs.Ytimlhjjdaggiiaa.sched
