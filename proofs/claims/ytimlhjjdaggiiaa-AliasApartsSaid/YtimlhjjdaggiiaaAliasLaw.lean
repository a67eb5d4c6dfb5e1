/- The law AliasAparts, walked: the two answers are one. -/
import Derived.Test.YtimlhjjdaggiiaaAliasB
set_option linter.unusedVariables false
set_option linter.unusedSimpArgs false
namespace Go.Proofs.Ytimlhjjdaggiiaa.ir
open Go.Bk Go.RowKit

set_option maxRecDepth 100000 in
theorem aliasAparts_walk (W : World) (args : Array Value) (h : ArgsRead Try.prog W [78, 3, 3] args.toList) :
    Calls Try.prog 8 args W fun e W' => e = .returned (.bool true) ∧ Below W.heap.size W W' := by
  obtain ⟨v0, v1, v2, rfl, r0, r1, r2⟩ := h.three
  obtain ⟨cs, t, rfl, hc⟩ := r0.struct Try.underlying78 Try.opens78
  obtain ⟨a3, c3, a4, c4, a7, c7, a8, c8, a11, c11, a12, c12, rfl, -, -, -, ⟨-, -, h3⟩, -⟩ := api_TTrace_cells_eq hc
  obtain ⟨a, rfl, -⟩ := r1.int Try.underlying3
  obtain ⟨b, rfl, -⟩ := r2.int Try.underlying3
  clear r0 r1 r2 h hc
  have hee : (apartOf t a b == apartOf t a b) = true := by simp
  go_enter Try.func8, Try.ntmps8
  go_wp2_with fail
  generalize hwb : W.alloc _ = wb
  have hb0 : Below W.heap.size W wb := hwb ▸ (Below.refl _ _).alloc (Nat.le_refl _) _
  have hs0 : W.heap.size < wb.heap.size := by rw [← hwb]; simp
  have h0 := h3.keep (w' := wb) (keep_of_below hb0)
  clear h3
  have q0 : ∀ j : Nat, wb.cell? ⟨W.heap.size, j, none⟩ = _ := fun j => hwb ▸ World.cell?_alloc_new _ _ _ _
  have p0 := q0 0; have p1 := q0 1; have p2 := q0 2; have p3 := q0 3; have p4 := q0 4; have p5 := q0 5; have p6 := q0 6; have p7 := q0 7; have p8 := q0 8; have p9 := q0 9; have p10 := q0 10; have p11 := q0 11; have p12 := q0 12
  simp at p0 p1 p2 p3 p4 p5 p6 p7 p8 p9 p10 p11 p12
  clear q0 hwb
  first | (refine wp_region_drift_lit (by kernel_rfl) (by kernel_rfl) (fun hdr => ?_); (repeat (go_big_quiet_step ((first | (go_at_call 35; exact drift_of irred_any) | (go_at_call 36; exact drift_of (apart_any (t := t) (h0.keep (fun b hb => Below.block (Drift.below _) b (by exact Nat.lt_trans hb hs0))) (fun b hb => Nat.lt_of_lt_of_le (Nat.lt_trans hb hs0) (Drift.below _).size))) | (go_at_call 37; exact drift_of (rapart_any (t := t) (h0.keep (fun b hb => Below.block (Drift.below _) b (by exact Nat.lt_trans hb hs0))) (fun b hb => Nat.lt_of_lt_of_le (Nat.lt_trans hb hs0) (Drift.below _).size))))))); refine wpQuiet_nil ?_; intro wq hw'; obtain ⟨⟨wd, hbd⟩, hw''⟩ := hw'; dsimp only at hw''; subst wq; clear hdr)
  go_wp2
  go_ret
  exact ⟨rfl, hb0.trans (hbd.mono (Nat.le_of_lt hs0))⟩
end Go.Proofs.Ytimlhjjdaggiiaa.ir
