/- SnapBacks: what a list that grows of elements with memory of their own asks: its row lies apart from theirs. -/
import Derived.Test.YtimlhjjdaggiiaaSbB
set_option linter.unusedVariables false
set_option linter.unusedSimpArgs false
namespace Go.Proofs.Ytimlhjjdaggiiaa.flat
open Go.Bk Go.RowKit

/-- New blocks, but the row's own. -/
def Sep (w w' : World) (v : Value) (b : Nat) : Prop := w.heap.size ≤ b ∧ b < w'.heap.size ∧ v.ownBlock ≠ some b
def mkOne (cs : List Value) : Value := cs.headD (.int .i64 0)
section
variable {α : Type} [Rep α] {w w1 w2 : World} {e : TypeId} {v : Value} {l : List α} {rb : Nat}
/-- A call that writes the reader and new blocks alone: the list stands, what is new lies apart too. -/
theorem sep_call (h : Own (Sep w w1 v) w1 w.heap.size e v l) (hw : Wrote rb w1 w2) (hr : rb < w.heap.size) : Own (Sep w w2 v) w2 w.heap.size e v l :=
  (h.keep hw.grown (by
    cases hv : v.ownBlock with
    | none => exact .inl rfl
    | some k => right; intro e; have h1 := (h.lt k hv).1; have := Option.some.inj e; omega) (fun b hb => hw.block b hb.2.1 (by have := hb.1; omega))).mono
    (fun b hb => ⟨hb.1, Nat.lt_of_lt_of_le hb.2.1 hw.size, hb.2.2⟩)
theorem sep_rep {cs : List Value} {x : α} (h : Own (Sep w w1 v) w1 w.heap.size e v l) (hs : w.heap.size ≤ w1.heap.size) (hc : Rep.cells (Fresh w1 w2) w2 cs x) : Rep.cells (Sep w w2 v) w2 cs x :=
  Rep.mono (fun b hb => ⟨Nat.le_trans hs hb.1, hb.2, fun he => by have := (h.lt b he).2; have := hb.1; omega⟩) hc
theorem sep_grow {v' : Value} {l' : List α} (h : Own (Sep w w1 v) w2 w.heap.size e v' l') (hg : w1.grownBy w2 v.ownBlock) (hst : Stay w1 v v') : Own (Sep w w2 v') w2 w.heap.size e v' l' :=
  h.mono (fun b hb => ⟨hb.1, Nat.lt_of_lt_of_le hb.2.1 hg.size, fun he => by
    rcases hst b he with h1 | h1
    · exact hb.2.2 h1
    · have := hb.2.1; omega⟩)
theorem wrote_grow (h : Wrote rb w w1) (hv : ∀ k, v.ownBlock = some k → w.heap.size ≤ k) (hg : w1.grownBy w2 v.ownBlock) : Wrote rb w w2 :=
  ⟨hg.os.trans h.os, hg.tape.trans h.tape, hg.output.trans h.output, Nat.le_trans h.size hg.size, fun k hk hn => by
    rw [hg.block k (Nat.lt_of_lt_of_le hk h.size) (fun e => by have := hv k e.symm; omega)]
    exact h.block k hk hn⟩
theorem rdr_grow {S0 : Nat → Prop} {st : Option (List Int)} (h : Rdr S0 w1 rb st) (hr : rb < w.heap.size) (hS : ∀ b, S0 b → b < w.heap.size) (hw : w.heap.size ≤ w1.heap.size) (hv : ∀ k, v.ownBlock = some k → w.heap.size ≤ k) (hg : w1.grownBy w2 v.ownBlock) : Rdr S0 w2 rb st :=
  h.keep2 hr hS hg.size (fun k hk => hg.block k (Nat.lt_of_lt_of_le hk hw) (fun e => by have := hv k e.symm; omega))
/-- What the list is, handed back. -/
theorem sep_done (h : Own (Sep w w1 v) w1 w.heap.size e v l) (hl : l.length ≤ maxLen) : ∃ a c, v = .slice a l.length c ∧ Rep.cells (α := List α) (Fresh w w1) w1 [.slice a l.length c] l := by
  obtain ⟨a, c, rfl, h1, h2, h3⟩ := h.arr
  refine ⟨a, c, rfl, a, c, rfl, h1, h2, h3.mono (fun b hb => ?_)⟩
  rcases hb with hb | hb
  · exact ⟨hb.1, hb.2.1⟩
  · exact hb
end
def someRel {α : Type} [Rep α] (f : α → List Int) (e : TypeId) (S0 : Nat → Prop) (rb : Nat) (w : World) (ys : List Int) (m : Nat) (out i : Value) (w' : World) : Prop :=
  ∃ (q : Nat) (l : List α) (st' : Option (List Int)) (V : Value), V = out ∧ q ≤ m ∧ i = .int .i64 q ∧ l.length = q ∧ Own (Sep w w' out) w' w.heap.size e out l ∧ Wrote rb w w' ∧ Rdr S0 w' rb st' ∧ SomeTo f m ys l st'
theorem Step.num_some {st : Option (List Int)} {x : Int} {ys : List Int} (h : Step fNum st x (some ys)) : st = some (x :: ys) := by
  rcases h with ⟨zs, rfl, e⟩ | ⟨e, -⟩
  · injection e with e; rw [e]; rfl
  · cases e
theorem Step.many_of {α : Type} {f : α → List Int} {st : Option (List Int)} {x : Int} (h : Step fNum st x none) : Step (many f) st [] none := by
  rcases h with ⟨zs, -, e⟩ | ⟨-, h⟩
  · cases e
  · exact .inr ⟨rfl, fun l ys e => h l.length ((l.map f).flatten ++ ys) (by rw [e]; rfl)⟩
theorem Rdr.bad {S0 : Nat → Prop} {w : World} {rb : Nat} {st : Option (List Int)} (h : Rdr S0 w rb st) : Rdr S0 (w.setCell ⟨rb, 1, none⟩ (.bool true)) rb none := by
  obtain ⟨a, n, c, h1, h2⟩ := h.at'
  exact ⟨⟨a, n, c, h1.set 1 _, fun xs hx => by cases hx⟩, fun b hb => by rw [size_setCell]; exact h.free b hb⟩
end Go.Proofs.Ytimlhjjdaggiiaa.flat
