/- The law SmallTells, walked: for whatever list, stretch and truths. -/
import Derived.Test.YtimlhjjdaggiiaaSmallI
set_option linter.unusedVariables false
set_option linter.unusedSimpArgs false
namespace Go.Proofs.Ytimlhjjdaggiiaa.small
open Go.Bk Go.RowKit

theorem bytes_int : Try.prog.bytesOf 3 = 8 := by kernel_rfl
theorem smallTells_walk (W : World) (args : Array Value) (h : ArgsSized Try.prog W [22, 3, 3, 4, 4] args.toList) :
    Calls Try.prog 12 args W fun e W' => e = .returned (.bool true) ∧ Below W.heap.size W W' := by
  obtain ⟨v0, v1, v2, v3, v4, rfl, r0, r1, r2, r3, r4⟩ := h.five
  obtain ⟨a, l, c, rfl, hc, hnil, h1⟩ := r0.read.slice Try.underlying22 Try.opens22
  obtain ⟨f, rfl, hf⟩ := r1.read.int Try.underlying3
  obtain ⟨t, rfl, ht⟩ := r2.read.int Try.underlying3
  obtain ⟨none', rfl⟩ := r3.read.bool Try.underlying4
  obtain ⟨never, rfl⟩ := r4.read.bool Try.underlying4
  have hcap := r0.read.cap Try.underlying22
  have hz := r0.len Try.underlying22
  rw [bytes_int] at hz
  unfold maxLen at hcap
  unfold reachBytes at hz
  by_cases hl : 200 < l.length
  · exact small_large rfl h1 hnil (by omega) hl
  · by_cases hb : f < 0 ∨ t < f ∨ (l.length : Int) < t
    · exact small_bad rfl h1 hnil hc hcap (by omega) (by unfold wErr; rw [if_neg hl, if_pos hb])
    · obtain ⟨f', rfl⟩ : ∃ f' : Nat, f = f' := ⟨f.toNat, by omega⟩
      obtain ⟨t', rfl⟩ : ∃ t' : Nat, t = t' := ⟨t.toNat, by omega⟩
      exact small_ok rfl h1 hnil hc hcap (by omega) (by omega) (by omega)
end Go.Proofs.Ytimlhjjdaggiiaa.small
