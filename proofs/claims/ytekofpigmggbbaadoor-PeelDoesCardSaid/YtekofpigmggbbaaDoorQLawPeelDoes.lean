/- For whatever input the law PeelDoes returns true, and what came in reads as it did: the frame round the walk. No condition. -/
import Derived.Test.YtekofpigmggbbaaDoorRows
import Derived.Test.YtekofpigmggbbaaDoorTie
import Derived.Test.YtekofpigmggbbaaDoorCards
import Derived.SevenTiedAt
import Derived.Test.YtekofpigmggbbaaDoorQPeelLaw
set_option linter.unusedVariables false
set_option linter.unusedSimpArgs false
namespace Go.Proofs.YtekofpigmggbbaaDoor.lawPeelDoes
open Go.Bk Go.RowKit Go.ChangeShapes Go.WideShapes Go.ChangeAt

theorem own : ownKnob Tryd.prog.godebug = none := by kernel_rfl
theorem laidOut : laidOutB Tryd.prog = true := by kernel_rfl

set_option maxRecDepth 100000 in
theorem lifted (os : Os) (started : os.Started) (H : Type) (enc : TypeId × Value → H) :
    ReturnsInHanded {} Tryd.checked os 6 .any (fun w args => (Rows.peelDoesSpec.pre enc Tryd.prog Tryd.f6 [] false w args ∧ laidMetH Tryd.prog laidL w) ∧ sizedMet enc Tryd.prog Tryd.f6 (OpenSpec.ofChange Rows.peelDoesSpec) false w args) (Rows.peelDoesSpec.post enc Tryd.prog Tryd.f6 false true false false) := by
  refine law_lift_laid (C := Tryd.checked) (tb := 4) (laid := laidL) laidOut own started (by kernel_rfl) Tryd.func6 (by kernel_rfl) (by kernel_rfl) Tryd.underlying4 rfl ?_
    (witness_ref (enc := enc) (C := Tryd.checked) (os := os) (X := fun w _ => laidMetH Tryd.prog laidL w) false (laidWorld os) #[.agg #[.slice none 0 0, .slice none 0 0, .slice none 0 0], .agg #[.int .i64 0, .int .i64 0, .int .i64 0, .slice none 0 0, .slice none 0 0, .int .i64 0, .int .i64 0, .slice none 0 0, .slice none 0 0, .int .i64 0, .int .i64 0, .slice none 0 0, .slice none 0 0]] 8 rfl (by kernel_rfl) (by kernel_rfl) (by kernel_rfl) (by kernel_rfl) (by kernel_rfl) (laid_met os _)) ?_
  · intro ds h
    rw [Tryd.params6] at h
    match ds, h with
    | [d0, d1], _ => rfl
  · intro W args h hL
    rw [Tryd.params6] at h
    exact peel.peelDoes_walk W args h hL

theorem row_holds : Rows.PeelDoesSaid :=
  OpenClaim.holds_of_wide 6 Tryd.f6 rfl rfl rfl rfl rfl rfl rfl ⟨rfl, rfl, rfl, rfl, rfl⟩ rfl rfl rfl rfl rfl (by kernel_rfl) Tryd.func6 (by kernel_rfl)
    (of_decide_eq_true (by kernel_rfl)) (by unfold Func.isWrapper; first | (rw [if_pos (by decide +kernel)]; kernel_rfl) | (rw [if_neg (by decide +kernel)]; exact ⟨rfl, rfl⟩))
    (fun os started H enc _ => lifted os started H enc)
theorem proved : Rows.PeelDoesCardSaid :=
  Claim7.holds_tied_plain_at .later [] [.listed, .data] true (true, "01c40a6173f78ba6b5b5351860c46af5fbf9776147dc04d141d4e17afe91d5de") false
    row_holds (fun _ h => by cases h) (by kernel_rfl) (fun _ h => by cases h) peelDoes_row_tie rfl ⟨rfl, rfl⟩ (by kernel_rfl) rfl
    (fun f fn hf hfn => by
      obtain rfl : f = 6 := Option.some.inj ((show Tryd.prog.funcNamed "backstitch/backstitchlaw2.PeelDoes" = some 6 by kernel_rfl).symm.trans hf) |>.symm
      obtain rfl : fn = Tryd.f6 := (Option.some.inj (Tryd.func6.symm.trans hfn)).symm
      exact ⟨by kernel_rfl, fun j t ht => by
        have hall : (Tryd.f6.params.toList.all fun t => !Tryd.prog.wantsStandIn t) = true := by kernel_rfl
        have hm : t ∈ Tryd.f6.params.toList := List.mem_of_getElem? (i := j) (by simpa using ht)
        have h5 : Tryd.prog.wantsStandIn t = false := by simpa using List.all_eq_true.1 hall t hm
        exact h5⟩)
    (by kernel_rfl)
end Go.Proofs.YtekofpigmggbbaaDoor.lawPeelDoes
