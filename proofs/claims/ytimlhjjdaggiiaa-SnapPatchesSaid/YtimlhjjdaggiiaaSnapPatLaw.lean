/- The law SnapPatches, walked: the two answers are one. -/
import Derived.Test.YtimlhjjdaggiiaaSnapPatRef
namespace Go.Proofs.Ytimlhjjdaggiiaa
open Go.Bk Go.RowKit

theorem PatchIs.unique {xs : List Int} {n : Int} {l : List Api.DPatch} {o1 o2 : List Int} {e1 e2 : Int} (h1 : PatchIs xs n l o1 e1) (h2 : PatchIs xs n l o2 e2) : o1 = o2 ∧ e1 = e2 := by
  by_cases ha : n < 0 ∨ 20000 < n
  · have := h1.arg ha; have := h2.arg ha; simp_all
  · by_cases hg : okTo n l l.length
    · have := h1.good (by omega) (by omega) hg; have := h2.good (by omega) (by omega) hg; simp_all
    · have := h1.form (by omega) (by omega) hg; have := h2.form (by omega) (by omega) hg; simp_all

set_option maxRecDepth 100000 in
theorem snapPatches_walk (W : World) (args : Array Value) (h : ArgsRead Try.prog W [22, 3, 23] args.toList) :
    Calls Try.prog 3 args W fun e W' => e = .returned (.bool true) ∧ Below W.heap.size W W' := by
  obtain ⟨v0, v1, v2, rfl, r0, r1, r2⟩ := h.three
  obtain ⟨a1, xs, c1, rfl, -, -, h1⟩ := r0.slice Try.underlying22 Try.opens22
  obtain ⟨n, rfl, hn⟩ := r1.int Try.underlying3
  obtain ⟨a2, l, c2, rfl, -, -, h2⟩ := r2.slice Try.underlying23 Try.opens23
  clear r0 r1 r2 h
  go_enter Try.func3, Try.ntmps3
  go_wp2_with fail
  refine (patched_imp h1 h2 (fun _ h => h) (fun _ h => h)).mono ?_
  rintro e w1 ⟨b1, o1, k1, e1, rfl, g1, p1, hb1⟩
  have HP1 := Lib.hid p1; have HB1 := Lib.hid hb1
  have g2 := h1.keep (keep_of_below hb1)
  have g3 := h2.keep (keep_of_below hb1)
  have hsz := hb1.size
  clear p1 hb1 h1 h2
  go_wp2_with fail
  refine (patched_ref g2 g3 (fun b h => by omega) (fun b h => by omega)).mono ?_
  rintro e w2 ⟨b2, o2, k2, e2, rfl, g4, p2, hb2⟩
  obtain ⟨rfl, rfl⟩ := HP1.out.unique p2
  have g5 := g1.keep (w' := w2) (fun b hb => hb2.block b hb.2)
  have HB2 := Lib.hid hb2
  clear hb2 p2 g1 g2 g3 hsz
  go_wp2_with fail
  refine (same_ints_refl g5 g4).mono ?_
  rintro e w3 ⟨rfl, hq⟩
  have HQ := Lib.hid hq
  have hee : (e1 == e1) = true := by simp
  clear hq g4 g5
  go_wp2
  go_ret
  exact ⟨rfl, (HB1.out.trans (HB2.out.mono HB1.out.size)).trans (HQ.out.below _)⟩
end Go.Proofs.Ytimlhjjdaggiiaa
