/- The law SpoolReads, walked: the two answers are one. -/
import Derived.Test.YtimlhjjdaggiiaaSpoolF
set_option linter.unusedVariables false
set_option linter.unusedSimpArgs false
namespace Go.Proofs.Ytimlhjjdaggiiaa.spool
open Go.Bk Go.RowKit

theorem readAll_len (k : Nat) (bs : List UInt8) (acc : List Api.Val) : (readAll k bs acc).1.length ≤ k + acc.length := by
  induction k generalizing bs acc with
  | zero => simp [readAll]
  | succ k ih =>
    unfold readAll
    split
    · have := ih (bs.drop 13) (acc ++ [(oneOf (bs.take 13)).1])
      simp at this
      omega
    · simp
theorem readOf_len (bs : List UInt8) : (readOf bs).1.length ≤ 4000 := by
  unfold readOf
  split
  · simp
  · have := readAll_len (bs.length / 13) bs []
    simp at this
    omega
theorem same_vals_own {S1 S2 : Nat → Prop} {w : World} {a1 a2 : Option Addr} {c1 c2 : Nat} {xs : List Api.Val} (h1 : Arr S1 w a1 xs) (h2 : Arr S2 w a2 xs) :
    Calls Try.prog 28 #[.slice a1 xs.length c1, .slice a2 xs.length c2] w fun e w' => e = .returned (.bool true) ∧ Quiet w w' :=
  (same_vals_any h1 h2).mono fun e w' ⟨he, hq⟩ => ⟨by rw [he]; simp, hq⟩

set_option maxRecDepth 100000 in
theorem spoolReads_walk (W : World) (args : Array Value) (h : ArgsRead Try.prog W [53] args.toList) :
    Calls Try.prog 6 args W fun e W' => e = .returned (.bool true) ∧ Below W.heap.size W W' := by
  obtain ⟨v0, rfl, r0⟩ := h.one
  obtain ⟨a, xs, c, rfl, hc, hnil, harr⟩ := r0.slice Try.underlying53 Try.opens53
  clear r0 h hnil
  have hl := readOf_len xs
  go_enter Try.func6, Try.ntmps6
  go_wp2_with fail
  refine (read_any harr hc (fun _ h => h)).mono ?_
  rintro e w1 ⟨⟨a1, c1, rfl, h1⟩, hb1⟩
  have HB1 := Lib.hid hb1; have HA1 := Lib.hid h1
  have harr1 := harr.keep (w' := w1) (keep_of_below hb1)
  clear hb1 h1
  go_wp2_with fail
  refine (rread_any harr1 hc (fun b hb => Nat.lt_of_lt_of_le hb HB1.out.size)).mono ?_
  rintro e w2 ⟨⟨a2, c2, rfl, h2⟩, hb2⟩
  have HA1' : Hid (Arr (Fresh W w1) w2 a1 (readOf xs).1) := HA1.out.keep (fun b hb => hb2.block b hb.2)
  have HA2 := Lib.hid h2
  have HB2 := Lib.hid (HB1.out.trans (hb2.mono HB1.out.size))
  clear hb2 h2 harr harr1 HA1 HB1
  generalize (readOf xs).1 = l at *
  generalize (readOf xs).2 = E at *
  have hw : IntKind.i64.wrap (13 * (l.length : Int)) = ((13 * l.length : Nat) : Int) := by rw [IntWalk.i64_in _ (by omega)]; omega
  go_wp2_with ((with_reducible refine (same_vals_own HA1'.out HA2.out).mono ?_); rintro e w3 ⟨rfl, hq⟩)
  all_goals
    go_ret
    exact ⟨by simp, HB2.out.trans (hq.below _)⟩
end Go.Proofs.Ytimlhjjdaggiiaa.spool
