/- slices.Clone at ints, walked: what comes back is the call's own. -/
import Derived.Test.YtjlnaiiajlahgaaApp
import Derived.WalkSpells
import Derived.Test.YtjlnaiiajlahgaaSlices
set_option linter.unusedVariables false
set_option linter.unusedSimpArgs false
namespace Go.Bk
open Go.RowKit
theorem own_zero {α : Type} [Rep α] {S : Nat → Prop} {w : World} {B g : Nat} {e : TypeId} (hg : B ≤ g) (hb : Blk w g e []) : Own S w B e (.slice (some ⟨g, 0, none⟩) 0 0) ([] : List α) :=
  ⟨[], rfl, fun k x cs hk => by simp at hk, by simp, .inr ⟨g, 0, #[], rfl, hg, hb, Nat.le_refl _, by simp, by simp, by simp⟩⟩
theorem box_zero {w : World} {e : TypeId} : Blk (w.alloc (.cells #[] e)) w.heap.size e [] := blk_new w [] e
theorem box_below {w w' : World} {o : Obj} {n c : Nat} (hg : (w.alloc o).grownBy w' (Value.slice (some ⟨w.heap.size, 0, none⟩) n c).ownBlock) : Below w.heap.size w w' :=
  ((Below.refl _ _).alloc (Nat.le_refl _) _).grown hg (by simp) (fun r hr => by have : w.heap.size = r := Option.some.inj hr; omega)
theorem arr_none {α : Type} [Rep α] {S : Nat → Prop} {w : World} {xs : List α} (h : Arr S w none xs) : xs = [] := by
  rcases h.lies with h | ⟨_, _, h, _⟩
  · exact h
  · cases h
end Go.Bk
namespace Go.Proofs.Ytjlnaiiajlahgaa
open Go.Bk Go.RowKit

set_option maxRecDepth 100000 in
theorem cloneI_any {S : Nat → Prop} {w : World} {a : Option Addr} {c n : Nat} {xs : List Int} (hn : xs.length = n) (h : Arr S w a xs) (hnil : a = none → c = 0) (hS : ∀ b, S b → b < w.heap.size) (hm : n ≤ 100000000) :
    Calls Try.prog 33 #[.slice a n c] w (RetOwn 3 w xs) := by
  have q22 : ∀ (w : World) (a : Option Addr) (n c n' c' : Nat), (binOp .eql 23 (.slice a n c) (.slice none n' c')).run Try.prog w = .ok (.bool a.isNone) w := fun w a n c n' c' => Lib.run_eql_slice_nil w _ _ a n c n' c' Try.underlying23
  cases a with
  | none =>
    obtain rfl := arr_none h
    go_enter Try.func33, Try.ntmps33
    go_wp2_with fail
    go_ret
    exact ⟨_, rfl, Own.nil _ _ _ _, Below.refl _ _⟩
  | some ad =>
    have HB : Hid (Own (fun _ => False) (w.alloc (.cells #[] 3)) w.heap.size 3 (.slice (some ⟨w.heap.size, 0, none⟩) 0 0) ([] : List Int)) := own_zero (Nat.le_refl _) box_zero
    have HA : Hid (Arr S (w.alloc (.cells #[] 3)) (some ad) xs) := h.keep (fun b hb => Below.heap_alloc _ _ _ (hS b hb))
    have HN := Lib.hid hn; have HNI := Lib.hid hnil
    clear h hnil hn
    go_enter Try.func33, Try.ntmps33
    go_wp2_with ((at_builtin; with_reducible refine Try.wp_apps23 rfl rfl rfl rfl (HN.out) (HB.out) (HA.out) Try.flat23 (HNI.out) (fun _ h => h.elim) (by (simp; omega)) (by first | omega | (simp; omega) | simp) fun v' w' hown' hg' => ?_); have hbw : Below w.heap.size w w' := box_below (n := 0) (c := 0) (by with_unfolding_all exact hg'); have HO := Lib.hid hown'; have HW := Lib.hid hbw; clear hown' hg' hbw)
    go_ret
    exact ⟨_, rfl, by simpa using HO.out, HW.out⟩
end Go.Proofs.Ytjlnaiiajlahgaa
