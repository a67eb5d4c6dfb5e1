/- slices.Clone at arrays of four ints, walked: what comes back is the call's own. -/
import Derived.Test.YtjlnaiiajlahgaaApp4
import Derived.Test.YtjlnaiiajlahgaaCloneI
set_option linter.unusedVariables false
set_option linter.unusedSimpArgs false
namespace Go.Proofs.Ytjlnaiiajlahgaa
open Go.Bk Go.RowKit

set_option maxRecDepth 100000 in
theorem clone4_any {S : Nat → Prop} {w : World} {a : Option Addr} {c n : Nat} {xs : List Four} (hn : xs.length = n) (h : Arr S w a xs) (hnil : a = none → c = 0) (hS : ∀ b, S b → b < w.heap.size) (hm : n ≤ 100000000) :
    Calls Try.prog 53 #[.slice a n c] w (RetOwn 64 w xs) := by
  have q22 : ∀ (w : World) (a : Option Addr) (n c n' c' : Nat), (binOp .eql 22 (.slice a n c) (.slice none n' c')).run Try.prog w = .ok (.bool a.isNone) w := fun w a n c n' c' => Lib.run_eql_slice_nil w _ _ a n c n' c' Try.underlying22
  cases a with
  | none =>
    obtain rfl := arr_none h
    go_enter Try.func53, Try.ntmps53
    go_wp2_with fail
    go_ret
    exact ⟨_, rfl, Own.nil _ _ _ _, Below.refl _ _⟩
  | some ad =>
    have HB : Hid (Own (fun _ => False) (w.alloc (.cells #[] 64)) w.heap.size 64 (.slice (some ⟨w.heap.size, 0, none⟩) 0 0) ([] : List Four)) := own_zero (Nat.le_refl _) box_zero
    have HA : Hid (Arr S (w.alloc (.cells #[] 64)) (some ad) xs) := h.keep (fun b hb => Below.heap_alloc _ _ _ (hS b hb))
    have HN := Lib.hid hn; have HNI := Lib.hid hnil
    have HC : Hid (∀ (W : World) (cs : List Value) (y : Four), Rep.cells S W cs y → Rep.cells (fun _ => False) W cs y) := fun W cs y h => by
      obtain ⟨rfl, i1, i2, i3, i4⟩ := cells_int4 h
      exact cells_int4_mk i1 i2 i3 i4
    clear h hnil hn
    go_enter Try.func53, Try.ntmps53
    go_wp2_with (at_builtin; (with_reducible refine wp_apps4 rfl rfl rfl rfl HN.out HB.out HA.out (HC.out _) HNI.out (fun _ h => h.elim) (by simp; omega) (by first | omega | (simp; omega) | simp) fun v' w' hown' hg' => ?_); have hbw : Below w.heap.size w w' := box_below (n := 0) (c := 0) (by with_unfolding_all exact hg'); have HO := Lib.hid hown'; have HW := Lib.hid hbw; clear hown' hg' hbw)
    go_ret
    exact ⟨_, rfl, by simpa using HO.out, HW.out⟩
end Go.Proofs.Ytjlnaiiajlahgaa
