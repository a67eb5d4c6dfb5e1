/- The law HuntTells, walked: the six paths joined. -/
import Derived.Test.YtfdpannanpipdaaHuntLaw1
import Derived.Test.YtfdpannanpipdaaHuntLaw2
import Derived.Test.YtfdpannanpipdaaHuntLaw3
import Derived.Test.YtfdpannanpipdaaHuntLaw4
import Derived.Test.YtfdpannanpipdaaHuntLaw5
import Derived.Test.YtfdpannanpipdaaHuntLaw6
set_option linter.unusedVariables false
set_option linter.unusedSimpArgs false
namespace Go.Proofs.Ytfdpannanpipdaa.hunt
open Go.Bk Go.RowKit slice

theorem huntTells_walk (W : World) (args : Array Value) (h : ArgsRead Try.prog W [60, 3, 30, 61, 4] args.toList) :
    Calls Try.prog 6 args W fun e W' => e = .returned (.bool true) ∧ Below W.heap.size W W' := by
  obtain ⟨v0, v1, v2, v3, v4, rfl, r0, r1, r2, r3, r4⟩ := h.five
  obtain ⟨a, l, c, rfl, hc, hnil, hl⟩ := r0.slice Try.underlying60 Try.opens60
  obtain ⟨bad, rfl, hbad⟩ := r1.int Try.underlying3
  obtain ⟨a2, good, c2, rfl, hc2, hnil2, hl2⟩ := r2.slice Try.underlying30 Try.opens30
  obtain ⟨a3, tr, c3, rfl, hc3, hnil3, hl3⟩ := r3.slice Try.underlying61 Try.opens61
  obtain ⟨nn, rfl⟩ := r4.bool Try.underlying4
  obtain ⟨m0, hm0⟩ : ∃ k, l.length = k := ⟨_, rfl⟩
  obtain ⟨m2, hm2⟩ : ∃ k, good.length = k := ⟨_, rfl⟩
  obtain ⟨m3, hm3⟩ : ∃ k, tr.length = k := ⟨_, rfl⟩
  rw [hm0] at hc ⊢
  rw [hm2] at hc2 ⊢
  rw [hm3] at hc3 ⊢
  by_cases h5 : m2 ≤ 5
  · by_cases h200 : m0 ≤ 200
    · by_cases h20 : m0 ≤ 20
      · exact hunt_path1 hl hl2 hl3 hm0 hm2 hm3 hc hc2 hnil2 hbad h20 h5
      · exact hunt_path3 hl hl2 hl3 hm0 hm2 hm3 hc hc2 hnil2 hbad (by omega) h200 h5
    · exact hunt_path5 hl hl2 hl3 hm0 hm2 hm3 hc hc2 hnil2 hbad (by omega) h5
  · by_cases h200 : m0 ≤ 200
    · by_cases h20 : m0 ≤ 20
      · exact hunt_path2 hl hl2 hl3 hm0 hm2 hm3 hc hc2 hnil2 hbad h20 (by omega)
      · exact hunt_path4 hl hl2 hl3 hm0 hm2 hm3 hc hc2 hnil2 hbad (by omega) h200 (by omega)
    · exact hunt_path6 hl hl2 hl3 hm0 hm2 hm3 hc hc2 hnil2 hbad (by omega) (by omega)
end Go.Proofs.Ytfdpannanpipdaa.hunt
