/- For whatever input the law RowsMerges returns true, and what came in reads as it did: the frame round the walk. No condition. -/
import Derived.Test.YtjlnaiiajlahgaaRows
import Derived.Test.YtjlnaiiajlahgaaMergeLaw
set_option linter.unusedVariables false
set_option linter.unusedSimpArgs false
namespace Go.Proofs.Ytjlnaiiajlahgaa.lawRowsMerges
open Go.Bk Go.RowKit Go.ChangeShapes Go.WideShapes Go.ChangeAt

theorem own : ownKnob Try.prog.godebug = none := by kernel_rfl
theorem laidOut : laidOutB Try.prog = true := by kernel_rfl

set_option maxRecDepth 100000 in
theorem lifted (os : Os) (started : os.Started) (H : Type) (enc : TypeId × Value → H) :
    ReturnsInHanded {} Try.checked os 4 .any (Rows.rowsMergesSpec.pre6 enc Try.prog Try.f4 Rows.rowsMergesRow.domain false) (Rows.rowsMergesSpec.post enc Try.prog Try.f4 false true false false) := by
  refine law_lift_sized (C := Try.checked) (tb := 4) laidOut own started (by kernel_rfl) Try.func4 (by kernel_rfl) (by kernel_rfl) Try.underlying4 rfl ?_
    (ChangeSpec.witness6 (enc := enc) (C := Try.checked) false ⟨#[], #[.slice none 0 0, .slice none 0 0], []⟩ 8 (by kernel_rfl) (by kernel_rfl) (by kernel_rfl) (by kernel_rfl)) ?_
  · intro ds h
    rw [Try.params4] at h
    match ds, h with
    | [d0, d1], _ => rfl
  · intro W args h
    rw [Try.params4] at h
    exact merge.rowsMerges_walk W args h

theorem proved : Rows.RowsMergesSaid :=
  OpenClaim.holds_of_wide 4 Try.f4 rfl rfl rfl rfl rfl rfl rfl ⟨rfl, rfl, rfl, rfl, rfl⟩ rfl rfl rfl rfl rfl (by kernel_rfl) Try.func4 (by kernel_rfl)
    (of_decide_eq_true (by kernel_rfl)) (by unfold Func.isWrapper; first | (rw [if_pos (by decide +kernel)]; kernel_rfl) | (rw [if_neg (by decide +kernel)]; exact ⟨rfl, rfl⟩))
    (fun os started H enc _ => lifted os started H enc)
end Go.Proofs.Ytjlnaiiajlahgaa.lawRowsMerges
