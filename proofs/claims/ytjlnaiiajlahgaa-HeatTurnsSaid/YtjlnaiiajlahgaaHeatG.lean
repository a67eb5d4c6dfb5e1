/- HeatTurns: what the law holds across the calls. -/
import Derived.Test.YtjlnaiiajlahgaaHeatF
import Derived.Test.YtjlnaiiajlahgaaCap
import Derived.Test.YtjlnaiiajlahgaaMin
set_option linter.unusedVariables false
set_option linter.unusedSimpArgs false
namespace Go.Proofs.Ytjlnaiiajlahgaa.heat
open Go.Bk Go.RowKit Go.Maps

structure FSt (W w1 w' : World) (gH gm n : Nat) (hot : Int) (v7 : Value) (r : List Api.THead × List Int) : Prop where
  heat : HeatAt w' W.heap.size gH gm n hot r.1
  told : Own (fun _ => False) w' w1.heap.size 3 v7 r.2
  below : RowKit.Below W.heap.size W w'
  size : w1.heap.size ≤ w'.heap.size
  lt : gH < w1.heap.size ∧ gm < w1.heap.size
  base : W.heap.size ≤ w1.heap.size
section
variable {W w1 w2 w3 : World} {gH gm n : Nat} {hot : Int} {v7 v7' : Value} {l l' : List Api.THead} {o : List Int} {r : List Api.THead × List Int}
theorem FSt.keep (h : FSt W w1 w2 gH gm n hot v7 r) (hb : RowKit.Below w2.heap.size w2 w3) : FSt W w1 w3 gH gm n hot v7 r :=
  ⟨h.heat.below hb, h.told.below hb (fun _ h => h.elim), h.below.trans (hb.mono h.below.size), Nat.le_trans h.size hb.size, h.lt, h.base⟩
theorem FSt.call (h : FSt W w1 w2 gH gm n hot v7 (l, o)) (hh : HeatAt w3 W.heap.size gH gm (n + 1) hot l') (hg : w2.grownBy w3 (some gm)) : FSt W w1 w3 gH gm (n + 1) hot v7 (l', o) :=
  ⟨hh, h.told.keep hg (.inr (fun e => by have := (h.told.lt gm e).1; have := h.lt.2; omega)) (fun _ h => h.elim), below_grow h.below hg h.below.size h.heat.low.2, Nat.le_trans h.size hg.size, h.lt, h.base⟩
theorem FSt.push {t : Int} (h : FSt W w1 w2 gH gm n hot v7 (l, o)) (h1 : Own (fun _ => False) w3 w1.heap.size 3 v7' (o ++ [t])) (hg : w2.grownBy w3 v7.ownBlock) : FSt W w1 w3 gH gm n hot v7' (l, o ++ [t]) := by
  have hs := h.size
  refine ⟨h.heat.same (hg.block gH (by have := h.lt.1; omega) (fun e => ?_)) (hg.block gm (by have := h.lt.2; omega) (fun e => ?_)), h1, h.below.grown hg h.below.size (fun r hr => Nat.le_trans h.base (h.told.lt r hr).1), Nat.le_trans h.size hg.size, h.lt, h.base⟩
  · have := (h.told.lt gH e.symm).1; have := h.lt.1; omega
  · have := (h.told.lt gm e.symm).1; have := h.lt.2; omega
end
def fRel (W w1 : World) (hot : Int) (cs : List (Int × Int × Int)) (n gH gm : Nat) (v7 v47 : Value) (w' : World) : Prop := ∃ k : Nat, k ≤ n ∧ v47 = .int .i64 k ∧ FSt W w1 w' gH gm k hot v7 (runTo hot cs k)
theorem turn_told {hot fn at' : Int} {l : List Api.THead} (h1 : 1 ≤ hot) (h2 : hot ≤ 1000) (h : Inv l) : (turnL hot l fn at').2 = -1 ∨ (turnL hot l fn at').2 = -2 ∨ (0 ≤ (turnL hot l fn at').2 ∧ (turnL hot l fn at').2 ≤ 3) := by
  unfold turnL
  split
  · exact .inl rfl
  · rename_i hr
    split
    · rename_i x hx
      exact .inr (.inr (bump_told (cur_good h hx).1))
    · split
      · exact .inr (.inl rfl)
      · exact .inr (.inr (bump_told (new_good h1 h2 hr)))
theorem taken_told {l : List Api.THead} {fn at' : Int} {g : Bool} : 0 ≤ (takenL l fn at' g).2 ∧ (takenL l fn at' g).2 ≤ 8 := by
  unfold takenL
  split
  · exact ⟨by omega, by omega⟩
  · split
    · exact ⟨by omega, by omega⟩
    · split <;> exact ⟨by omega, by omega⟩
theorem opens_calls : Opens Try.prog 46 (List (Int × Int × Int)) := Opens.slice Try.underlying46 (by kernel_rfl) (by decide) (Opens.arr3 Try.underlying51 (by kernel_rfl) Try.opens3)
end Go.Proofs.Ytjlnaiiajlahgaa.heat
