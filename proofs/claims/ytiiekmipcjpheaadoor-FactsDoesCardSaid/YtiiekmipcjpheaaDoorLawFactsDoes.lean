/- For whatever input the law FactsDoes returns true, and what came in reads as it did: the frame round the walk. No condition. -/
import Derived.Test.YtiiekmipcjpheaaDoorRows
import Derived.Test.YtiiekmipcjpheaaDoorTie
import Derived.Test.YtiiekmipcjpheaaDoorCards
import Derived.SevenTiedAt
import Derived.Test.YtiiekmipcjpheaaDoorFctLaw
set_option linter.unusedVariables false
set_option linter.unusedSimpArgs false
namespace Go.Proofs.YtiiekmipcjpheaaDoor.lawFactsDoes
open Go.Bk Go.RowKit Go.ChangeShapes Go.WideShapes Go.ChangeAt

theorem own : ownKnob Tryd.prog.godebug = none := by kernel_rfl
theorem laidOut : laidOutB Tryd.prog = true := by kernel_rfl

set_option maxRecDepth 100000 in
theorem lifted (os : Os) (started : os.Started) (H : Type) (enc : TypeId × Value → H) :
    ReturnsInHanded {} Tryd.checked os 9 .any (fun w args => (Rows.factsDoesSpec.pre enc Tryd.prog Tryd.f9 [] false w args ∧ laidMetH Tryd.prog laidL w) ∧ sizedMet enc Tryd.prog Tryd.f9 (OpenSpec.ofChange Rows.factsDoesSpec) false w args) (Rows.factsDoesSpec.post enc Tryd.prog Tryd.f9 false true false false) := by
  refine law_lift_laid (C := Tryd.checked) (tb := 4) (laid := laidL) laidOut own started (by kernel_rfl) Tryd.func9 (by kernel_rfl) (by kernel_rfl) Tryd.underlying4 rfl ?_
    (witness_ref (enc := enc) (C := Tryd.checked) (os := os) (X := fun w _ => laidMetH Tryd.prog laidL w) false (laidWorld os) #[.agg #[.slice none 0 0, .slice none 0 0, .slice none 0 0], .agg #[.int .i64 0, .int .i64 0, .int .i64 0, .slice none 0 0, .slice none 0 0, .int .i64 0, .int .i64 0, .slice none 0 0, .slice none 0 0, .int .i64 0, .int .i64 0, .slice none 0 0, .slice none 0 0]] 8 rfl (by kernel_rfl) (by kernel_rfl) (by kernel_rfl) (by kernel_rfl) (by kernel_rfl) (laid_met os _)) ?_
  · intro ds h
    rw [Tryd.params9] at h
    match ds, h with
    | [d0, d1], _ => rfl
  · intro W args h hL
    rw [Tryd.params9] at h
    exact fct.factsDoes_walk W args h hL

theorem row_holds : Rows.FactsDoesSaid :=
  OpenClaim.holds_of_wide 9 Tryd.f9 rfl rfl rfl rfl rfl rfl rfl ⟨rfl, rfl, rfl, rfl, rfl⟩ rfl rfl rfl rfl rfl (by kernel_rfl) Tryd.func9 (by kernel_rfl)
    (of_decide_eq_true (by kernel_rfl)) (by unfold Func.isWrapper; first | (rw [if_pos (by decide +kernel)]; kernel_rfl) | (rw [if_neg (by decide +kernel)]; exact ⟨rfl, rfl⟩))
    (fun os started H enc _ => lifted os started H enc)
theorem proved : Rows.FactsDoesCardSaid :=
  Claim7.holds_tied_plain_at .later [] [.listed, .data] true (true, "b86e6a55d5153967e751dbd5ae5252f1f1eb52f13b4c7c0e805714f86534c017") false
    row_holds (fun _ h => by cases h) (by kernel_rfl) (fun _ h => by cases h) factsDoes_row_tie rfl ⟨rfl, rfl⟩ (by kernel_rfl) rfl
    (fun f fn hf hfn => by
      obtain rfl : f = 9 := Option.some.inj ((show Tryd.prog.funcNamed "backstitch/backstitchlaw2.FactsDoes" = some 9 by kernel_rfl).symm.trans hf) |>.symm
      obtain rfl : fn = Tryd.f9 := (Option.some.inj (Tryd.func9.symm.trans hfn)).symm
      exact ⟨by kernel_rfl, fun j t ht => by
        have hall : (Tryd.f9.params.toList.all fun t => !Tryd.prog.wantsStandIn t) = true := by kernel_rfl
        have hm : t ∈ Tryd.f9.params.toList := List.mem_of_getElem? (i := j) (by simpa using ht)
        have h5 : Tryd.prog.wantsStandIn t = false := by simpa using List.all_eq_true.1 hall t hm
        exact h5⟩)
    (by kernel_rfl)
end Go.Proofs.YtiiekmipcjpheaaDoor.lawFactsDoes
