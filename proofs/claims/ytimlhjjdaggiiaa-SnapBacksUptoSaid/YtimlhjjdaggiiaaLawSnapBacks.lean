/- For whatever input the law SnapBacks returns true, and what came in reads as it did: the frame round the walk. No condition. -/
import Derived.Test.YtimlhjjdaggiiaaRows
import Derived.Test.YtimlhjjdaggiiaaBulk
import Derived.Test.YtimlhjjdaggiiaaTyB
import Derived.Test.YtimlhjjdaggiiaaSbLaw
set_option linter.unusedVariables false
set_option linter.unusedSimpArgs false
namespace Go.Proofs.Ytimlhjjdaggiiaa.lawSnapBacks
open Go.Bk Go.RowKit Go.ChangeShapes Go.WideShapes Go.ChangeAt

theorem own : ownKnob Try.prog.godebug = none := by kernel_rfl
theorem laidOut : laidOutB Try.prog = true := by kernel_rfl

set_option maxRecDepth 100000 in
theorem lifted (os : Os) (started : os.Started) (H : Type) (enc : TypeId × Value → H) (F : Stop.Interp) :
    ReturnsInHanded {} Try.checked os 11 .any ((Rows.OpenSpec.upto Rows.snapBacksSpec).pre6 enc Try.prog Try.f11 Rows.snapBacksUptoRow.domain false) (((Rows.OpenSpec.upto Rows.snapBacksSpec).at F).post enc Try.prog Try.f11 false true false false) := by
  refine law_lift_upto (C := Try.checked) (tb := 4) laidOut own started (by kernel_rfl) Try.func11 (by kernel_rfl) (by kernel_rfl) Try.underlying4 rfl ?_
    (OpenSpec.witness (enc := enc) (C := Try.checked) (s := Rows.OpenSpec.upto Rows.snapBacksSpec) (k := Rows.uptoSmall) rfl false ⟨#[], #[.slice none 0 0, .agg #[.slice none 0 0, .slice none 0 0, .slice none 0 0, .slice none 0 0, .slice none 0 0, .slice none 0 0, .int .i64 0, .int .i64 0], .int .i64 0, .int .i64 0], []⟩ 8 (by kernel_rfl) (by kernel_rfl) (by kernel_rfl)
      (x := ([.nil, .agg [.nil, .nil, .nil, .nil, .nil, .nil, .lit (.int .i64 0), .lit (.int .i64 0)], .lit (.int .i64 0), .lit (.int .i64 0)], [], [])) (by kernel_rfl) rfl (by kernel_rfl)) ?_
  · intro ds h
    rw [Try.params11] at h
    match ds, h with
    | [d0, d1, d2, d3], _ => rfl
  · intro W args h
    rw [Try.params11] at h
    exact flat.snapBacks_walk W args h

theorem proved : Rows.SnapBacksUptoSaid :=
  OpenClaim.holds_of_cond 11 Try.f11 rfl rfl rfl rfl rfl rfl rfl ⟨rfl, rfl, rfl, rfl, rfl⟩ rfl rfl rfl rfl rfl (by kernel_rfl) Try.func11 (by kernel_rfl)
    (of_decide_eq_true (by kernel_rfl)) (by unfold Func.isWrapper; first | (rw [if_pos (by decide +kernel)]; kernel_rfl) | (rw [if_neg (by decide +kernel)]; exact ⟨rfl, rfl⟩))
    (fun os started H enc _ F => lifted os started H enc F)
end Go.Proofs.Ytimlhjjdaggiiaa.lawSnapBacks
