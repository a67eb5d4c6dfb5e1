/- HeatTurns: the document's side: Eq, Copy, at heads: walked. -/
import Derived.Test.YtjlnaiiajlahgaaHeatB
import Derived.Test.YtjlnaiiajlahgaaEqG
import Derived.Test.YtjlnaiiajlahgaaHeatPlainB
import Derived.Test.YtjlnaiiajlahgaaSlices
import Derived.BigQuiet
set_option linter.unusedVariables false
set_option linter.unusedSimpArgs false
namespace Go.Proofs.Ytjlnaiiajlahgaa.heat
open Go.Bk Go.RowKit Go.Maps

set_option maxRecDepth 100000 in
theorem eqh_true {S1 S2 : Nat → Prop} {w : World} {a1 a2 : Option Addr} {c1 c2 n : Nat} {xs : List Api.THead} (hn : xs.length = n) (h1 : Arr S1 w a1 xs) (h2 : Arr S2 w a2 xs) (hS1 : ∀ b, S1 b → b < w.heap.size) (hS2 : ∀ b, S2 b → b < w.heap.size) :
    Calls Try.prog 28 #[.slice a1 n c1, .slice a2 n c2] w fun e w' => e = .returned (.bool true) ∧ RowKit.Below w.heap.size w w' := by
  have hm1 := h1.small
  rw [hn] at hm1
  unfold maxLen at hm1
  have H1 := Lib.hid hn
  clear hn
  have hb : ((n : Int) != (n : Int)) = false := by simp
  have HA1 : Hid (∀ w', RowKit.Below w.heap.size w w' → Arr S1 w' a1 xs) := fun w' hb => h1.keep (fun b hb' => hb.block b (hS1 b hb'))
  have HA2 : Hid (∀ w', RowKit.Below w.heap.size w w' → Arr S2 w' a2 xs) := fun w' hb => h2.keep (fun b hb' => hb.block b (hS2 b hb'))
  clear h1 h2 hS1 hS2
  go_enter Try.func28, Try.ntmps28
  go_wp2_with fail
  go_loopw [14] (fun i w' => ∃ k : Nat, k ≤ n ∧ i = .int .i64 k ∧ RowKit.Below w.heap.size w w') (fun i _ => n - (intOf i).toNat)
  case atStart => exact ⟨0, Nat.zero_le _, rfl, RowKit.Below.refl _ _⟩
  case round =>
    obtain ⟨k, hk, rfl, hbel⟩ := hrel
    have HB := Lib.hid hbel
    clear hbel
    by_cases hlt : k < n
    · obtain ⟨x, hx⟩ : ∃ x, xs[k]? = some x := ⟨_, List.getElem?_eq_getElem (by have := H1.out; omega)⟩
      obtain ⟨b1, o1, rfl, -, p0, p1, p2, p3, p4, p5, -⟩ := api_THead_elem (HA1.out _ HB.out) hx
      obtain ⟨b2, o2, rfl, -, q0, q1, q2, q3, q4, q5, -⟩ := api_THead_elem (HA2.out _ (HB.out.alloc HB.out.size (.cells #[.int .i64 x.Fn, .int .i64 x.At, .int .i64 x.Count, .int .i64 x.Limit, .int .i64 x.Fails, .int .i64 x.Is] 60))) hx
      have HB2 := Lib.hid (HB.out.alloc HB.out.size (.cells #[.int .i64 x.Fn, .int .i64 x.At, .int .i64 x.Count, .int .i64 x.Limit, .int .i64 x.Fails, .int .i64 x.Is] 60))
      clear hx
      go_wp2_with fail
      go_quiet (fail)
      go_wp2_with fail
      go_roundw
      case rel => exact ⟨k + 1, by omega, by go_num, Go.Bk.Below.drewN HB2.out _⟩
      case measure => simp [intOf]; omega
    · go_wp2
      go_ret
      exact ⟨rfl, HB.out⟩

set_option maxRecDepth 100000 in
/-- backstitchref2.Copy at heads. -/
theorem copy_any {S : Nat → Prop} {w : World} {a : Option Addr} {c n : Nat} {xs : List Api.THead} (hn : xs.length = n) (h : Arr S w a xs) (hnil : a = none → c = 0) (hl : n ≤ 1000) :
    Calls Try.prog 48 #[.slice a n c] w (RetOwn 60 w xs) := by
  have HN := Lib.hid hn; have HA := Lib.hid h; have HNIL := Lib.hid hnil
  clear hn h hnil
  go_enter Try.func48, Try.ntmps48
  go_wp2_with (at_builtin; (at_builtin; with_reducible refine Try.wp_apps54 rfl rfl rfl rfl (HN.out) ((Own.nil (fun _ => False) w w.heap.size 60 : Own (fun _ => False) w w.heap.size 60 (.slice none 0 0) ([] : List Api.THead))) (HA.out) Try.flat54 (HNIL.out) (fun _ h => h.elim) (by (simp; omega)) (by first | omega | (simp; omega)) fun v' w' hown' hg' => ?_); have HO' := Lib.hid hown'; have HG := Lib.hid hg'; clear hown' hg')
  go_ret
  exact ⟨_, rfl, HO'.out, (RowKit.Below.refl _ _).grown HG.out (Nat.le_refl _) (fun r hr => by cases hr)⟩
end Go.Proofs.Ytjlnaiiajlahgaa.heat
