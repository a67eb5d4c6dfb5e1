/- SnapFlats: the law, walked: the two flat lists are one. -/
import Derived.Test.YtimlhjjdaggiiaaFlatS
import Derived.Test.YtimlhjjdaggiiaaFlatBulk
import Derived.Test.YtimlhjjdaggiiaaSame
import Derived.Test.YtimlhjjdaggiiaaSteps
set_option linter.unusedVariables false
set_option linter.unusedSimpArgs false
namespace Go.Proofs.Ytimlhjjdaggiiaa.flat
open Go.Bk Go.RowKit

theorem below_al' {N : Nat} {w wz : World} (h : Below N w wz) (hN : N ≤ w.heap.size) (o : Obj) : Below N w (wz.alloc o) := h.alloc (Nat.le_trans hN h.size) o
theorem flat_arr {wz : World} {v : Value} {xs : List Int} {B n : Nat} (hn : xs.length = n) (h : Own (fun _ => False) wz B 3 v xs) : ∃ a c, v = .slice a n c ∧ Arr (fun b => b < wz.heap.size) wz a xs := by
  subst hn
  obtain ⟨a, c, rfl, -, -, h⟩ := h.arr
  exact ⟨a, c, rfl, h.mono (fun b hb => hb.elim False.elim (fun h => h.2))⟩

theorem same_flat {S1 S2 : Nat → Prop} {w : World} {a1 a2 : Option Addr} {c1 c2 n : Nat} {xs : List Int} (hn : xs.length = n) (h1 : Arr S1 w a1 xs) (h2 : Arr S2 w a2 xs) :
    Calls Try.prog 17 #[.slice a1 n c1, .slice a2 n c2] w fun e w' => e = .returned (.bool true) ∧ Quiet w w' := by subst hn; exact same_ints_refl h1 h2

set_option maxRecDepth 100000 in
set_option maxHeartbeats 1000000 in
theorem snapFlats_walk (W : World) (args : Array Value) (h : ArgsBulk Try.prog W 1048576 [36] args.toList) :
    Calls Try.prog 4 args W fun e W' => e = .returned (.bool true) ∧ Below W.heap.size W W' := by
  obtain ⟨v0, rfl, r0⟩ := h.one
  obtain ⟨cs, s, rfl, hc, hb⟩ := r0.struct Try.underlying36 Try.opensB36
  rw [← state_bulk] at hb
  obtain ⟨a0, c0, a1, c1, a2, c2, a3, c3, a4, c4, a5, c5, rfl, ⟨-, -, g0⟩, ⟨-, -, g1⟩, ⟨-, -, g2⟩, ⟨-, -, g3⟩, ⟨-, -, g4⟩, ⟨-, -, g5⟩, g6, g7⟩ := api_State_cells_eq hc
  obtain ⟨n0, hn0⟩ : ∃ k, s.Cells.length = k := ⟨_, rfl⟩
  obtain ⟨n1, hn1⟩ : ∃ k, s.Shapes.length = k := ⟨_, rfl⟩
  obtain ⟨n2, hn2⟩ : ∃ k, s.Texts.length = k := ⟨_, rfl⟩
  obtain ⟨n3, hn3⟩ : ∃ k, s.Threads.length = k := ⟨_, rfl⟩
  obtain ⟨n4, hn4⟩ : ∃ k, s.Ends.length = k := ⟨_, rfl⟩
  obtain ⟨n5, hn5⟩ : ∃ k, s.Said.length = k := ⟨_, rfl⟩
  rw [hn0, hn1, hn2, hn3, hn4, hn5]
  have hk : ∀ wz, Below W.heap.size W wz → ∀ b, b < W.heap.size → wz.heap[b]? = W.heap[b]? := fun wz h b hb => h.block b hb
  obtain ⟨A, hA⟩ : ∃ A, A = Value.agg #[.slice a0 n0 c0, .slice a1 n1 c1, .slice a2 n2 c2, .slice a3 n3 c3, .slice a4 n4 c4, .slice a5 n5 c5, .int .i64 s.Asked, .int .i64 s.Steps] := ⟨_, rfl⟩
  have HF : Hid (∀ wz, Below W.heap.size W wz → Calls Try.prog 18 #[.agg #[.slice a0 n0 c0, .slice a1 n1 c1, .slice a2 n2 c2, .slice a3 n3 c3, .slice a4 n4 c4, .slice a5 n5 c5, .int .i64 s.Asked, .int .i64 s.Steps]] wz (RetOwn 3 wz (fState s))) := fun wz hbz =>
    flat_any (S := (· < W.heap.size)) (fun b hb => Nat.lt_of_lt_of_le hb hbz.size) hn0 hn1 hn2 hn3 hn4 hn5 (g0.keep (hk wz hbz)) (g1.keep (hk wz hbz)) (g2.keep (hk wz hbz)) (g3.keep (hk wz hbz)) (g4.keep (hk wz hbz)) (g5.keep (hk wz hbz)) g6 g7 (by omega)
  have HR : Hid (∀ wz, Below W.heap.size W wz → Calls Try.prog 19 #[.agg #[.slice a0 n0 c0, .slice a1 n1 c1, .slice a2 n2 c2, .slice a3 n3 c3, .slice a4 n4 c4, .slice a5 n5 c5, .int .i64 s.Asked, .int .i64 s.Steps]] wz (RetOwn 3 wz (fState s))) := fun wz hbz =>
    snapFlat_any (S := (· < W.heap.size)) (fun b hb => Nat.lt_of_lt_of_le hb hbz.size) hn0 hn1 hn2 hn3 hn4 hn5 (g0.keep (hk wz hbz)) (g1.keep (hk wz hbz)) (g2.keep (hk wz hbz)) (g3.keep (hk wz hbz)) (g4.keep (hk wz hbz)) (g5.keep (hk wz hbz)) g6 g7 (by omega)
  have HB0 : Hid (Below W.heap.size W (W.alloc (.cells #[.slice a0 n0 c0, .slice a1 n1 c1, .slice a2 n2 c2, .slice a3 n3 c3, .slice a4 n4 c4, .slice a5 n5 c5, .int .i64 s.Asked, .int .i64 s.Steps] 36))) := (Below.refl _ _).alloc (Nat.le_refl _) _
  have HX : Hid (Blk (W.alloc (.cells #[.slice a0 n0 c0, .slice a1 n1 c1, .slice a2 n2 c2, .slice a3 n3 c3, .slice a4 n4 c4, .slice a5 n5 c5, .int .i64 s.Asked, .int .i64 s.Steps] 36)) W.heap.size 36 [.slice a0 n0 c0, .slice a1 n1 c1, .slice a2 n2 c2, .slice a3 n3 c3, .slice a4 n4 c4, .slice a5 n5 c5, .int .i64 s.Asked, .int .i64 s.Steps]) := blk_new W _ _
  obtain ⟨n, hn⟩ : ∃ k, (fState s).length = k := ⟨_, rfl⟩
  have HN := Lib.hid hn
  clear hn hb g0 g1 g2 g3 g4 g5 g6 g7 hc r0 h hA hk
  have HE1 := Lib.hid (fun args w => Try.call18 args w)
  have HE2 := Lib.hid (fun args w => Try.call19 args w)
  have HE3 := Lib.hid (fun args w => Try.call17 args w)
  go_enter Try.func4, Try.ntmps4
  go_wp2_with fail
  obtain ⟨w0, hw0⟩ : ∃ w0, W.alloc (.cells #[.slice a0 n0 c0, .slice a1 n1 c1, .slice a2 n2 c2, .slice a3 n3 c3, .slice a4 n4 c4, .slice a5 n5 c5, .int .i64 s.Asked, .int .i64 s.Steps] 36) = w0 := ⟨_, rfl⟩
  rw [hw0] at HB0 HX
  try rw [hw0]
  have z0 := HX.out.cell (j := 0) rfl; have z1 := HX.out.cell (j := 1) rfl; have z2 := HX.out.cell (j := 2) rfl; have z3 := HX.out.cell (j := 3) rfl; have z4 := HX.out.cell (j := 4) rfl; have z5 := HX.out.cell (j := 5) rfl; have z6 := HX.out.cell (j := 6) rfl; have z7 := HX.out.cell (j := 7) rfl
  have HXD : Hid (Blk w0.drew W.heap.size 36 [.slice a0 n0 c0, .slice a1 n1 c1, .slice a2 n2 c2, .slice a3 n3 c3, .slice a4 n4 c4, .slice a5 n5 c5, .int .i64 s.Asked, .int .i64 s.Steps]) := HX.out.keep rfl
  go_region_law (first
    | (refine step_call (f := 18) (vs := #[.agg #[.slice a0 n0 c0, .slice a1 n1 c1, .slice a2 n2 c2, .slice a3 n3 c3, .slice a4 n4 c4, .slice a5 n5 c5, .int .i64 s.Asked, .int .i64 s.Steps]]) rfl rfl (by simp [Act.eval, Act.put]) HE1.out (HF.out _ (by first | exact HB0.out.drew | exact HBR.out)) fun e wF hp => ?_
       obtain ⟨vF, rfl, hoF, hbF⟩ := hp
       obtain ⟨aF, kF, rfl, harF⟩ := flat_arr HN.out hoF
       have HAF := Lib.hid harF
       have HYF := Lib.hid hbF
       have HBF : Hid (Below W.heap.size W wF) := by
         first
           | exact HBR.out.trans (below_low HYF.out HBR.out.size)
           | exact HB0.out.drew.trans (below_low HYF.out HB0.out.drew.size)
       have HXF : Hid (Blk wF W.heap.size 36 [.slice a0 n0 c0, .slice a1 n1 c1, .slice a2 n2 c2, .slice a3 n3 c3, .slice a4 n4 c4, .slice a5 n5 c5, .int .i64 s.Asked, .int .i64 s.Steps]) := by
         first
           | exact HXR.out.keep (HYF.out.block _ HXR.out.lt)
           | exact (HXD.out.keep (HYF.out.block _ HXD.out.lt))
       have zF0 := HXF.out.cell (j := 0) rfl; have zF1 := HXF.out.cell (j := 1) rfl; have zF2 := HXF.out.cell (j := 2) rfl; have zF3 := HXF.out.cell (j := 3) rfl; have zF4 := HXF.out.cell (j := 4) rfl; have zF5 := HXF.out.cell (j := 5) rfl; have zF6 := HXF.out.cell (j := 6) rfl; have zF7 := HXF.out.cell (j := 7) rfl
       clear hoF harF hbF
       refine ⟨_, rfl, ?_⟩)
    | (refine step_call (f := 19) (vs := #[.agg #[.slice a0 n0 c0, .slice a1 n1 c1, .slice a2 n2 c2, .slice a3 n3 c3, .slice a4 n4 c4, .slice a5 n5 c5, .int .i64 s.Asked, .int .i64 s.Steps]]) rfl rfl (by simp [Act.eval, Act.put]) HE2.out (HR.out _ (by first | exact HB0.out.drew | exact HBF.out)) fun e wR hp => ?_
       obtain ⟨vR, rfl, hoR, hbR⟩ := hp
       obtain ⟨aR, kR, rfl, harR⟩ := flat_arr HN.out hoR
       have HAR := Lib.hid harR
       have HYR := Lib.hid hbR
       have HBR : Hid (Below W.heap.size W wR) := by
         first
           | exact HBF.out.trans (below_low HYR.out HBF.out.size)
           | exact HB0.out.drew.trans (below_low HYR.out HB0.out.drew.size)
       have HXR : Hid (Blk wR W.heap.size 36 [.slice a0 n0 c0, .slice a1 n1 c1, .slice a2 n2 c2, .slice a3 n3 c3, .slice a4 n4 c4, .slice a5 n5 c5, .int .i64 s.Asked, .int .i64 s.Steps]) := by
         first
           | exact HXF.out.keep (HYR.out.block _ HXF.out.lt)
           | exact (HXD.out.keep (HYR.out.block _ HXD.out.lt))
       have zR0 := HXR.out.cell (j := 0) rfl; have zR1 := HXR.out.cell (j := 1) rfl; have zR2 := HXR.out.cell (j := 2) rfl; have zR3 := HXR.out.cell (j := 3) rfl; have zR4 := HXR.out.cell (j := 4) rfl; have zR5 := HXR.out.cell (j := 5) rfl; have zR6 := HXR.out.cell (j := 6) rfl; have zR7 := HXR.out.cell (j := 7) rfl
       clear hoR harR hbR
       refine ⟨_, rfl, ?_⟩)
    | (refine step_call (f := 17) (vs := #[.slice aF n kF, .slice aR n kR]) rfl rfl (by simp [Act.eval, Act.put]) HE3.out (same_flat HN.out (by first | exact HAF.out | exact HAF.out.keep (fun b hb => HYR.out.block b hb)) (by first | exact HAR.out | exact HAR.out.keep (fun b hb => HYF.out.block b hb))) fun e wz hp => ?_
       obtain ⟨rfl, hq⟩ := hp
       have HZ : Hid (Below W.heap.size W wz) := by
         first
           | exact HBF.out.trans (hq.below _)
           | exact HBR.out.trans (hq.below _)
       clear hq
       refine ⟨_, rfl, ?_⟩))
  all_goals (go_wp2_with fail)
  all_goals go_ret
  all_goals exact ⟨rfl, HZ.out⟩
end Go.Proofs.Ytimlhjjdaggiiaa.flat
