/- SnapBacks: the reader: num, and the small things, walked. -/
import Derived.Test.YtimlhjjdaggiiaaSbPlain
import Derived.Test.YtimlhjjdaggiiaaMoved
import Derived.Test.YtimlhjjdaggiiaaSlices
set_option linter.unusedVariables false
set_option linter.unusedSimpArgs false
namespace Go.Proofs.Ytimlhjjdaggiiaa.flat
open Go.Bk Go.RowKit

/-- From w to w' only block rb and new ones were written. -/
structure Wrote (rb : Nat) (w w' : World) : Prop where
  os : w'.os = w.os
  tape : w'.tape = w.tape
  output : w'.output = w.output
  size : w.heap.size ≤ w'.heap.size
  block : ∀ k, k < w.heap.size → k ≠ rb → w'.heap[k]? = w.heap[k]?
section
variable {rb : Nat} {w w1 w2 : World}
theorem Wrote.refl (rb : Nat) (w : World) : Wrote rb w w := ⟨rfl, rfl, rfl, Nat.le_refl _, fun _ _ _ => rfl⟩
theorem Wrote.trans (h : Wrote rb w w1) (k : Wrote rb w1 w2) : Wrote rb w w2 := ⟨k.os.trans h.os, k.tape.trans h.tape, k.output.trans h.output, Nat.le_trans h.size k.size, fun j hj hn => (k.block j (Nat.lt_of_lt_of_le hj h.size) hn).trans (h.block j hj hn)⟩
theorem Wrote.of_below (h : Below w.heap.size w w1) : Wrote rb w w1 := ⟨h.os, h.tape, h.output, h.size, fun k hk _ => h.block k hk⟩
theorem Wrote.alloc (rb : Nat) (w : World) (o : Obj) : Wrote rb w (w.alloc o) := .of_below ((Below.refl _ _).alloc (Nat.le_refl _) _)
theorem Wrote.set (h : Wrote rb w w1) {k j : Nat} (hk : k = rb ∨ w.heap.size ≤ k) (v : Value) : Wrote rb w (w1.setCell ⟨k, j, none⟩ v) :=
  ⟨h.os, h.tape, h.output, by rw [size_setCell]; exact h.size, fun b hb hn => by rw [blk_setCell_other _ _ _ (show b ≠ k by omega)]; exact h.block b hb hn⟩
theorem Wrote.blk {b : Nat} {e : TypeId} {cs : List Value} (h : Wrote rb w w1) (hb : Blk w b e cs) (hn : b ≠ rb) : Blk w1 b e cs := hb.keep (h.block b hb.lt hn)
theorem Wrote.arr {α : Type} [Rep α] {S : Nat → Prop} {a : Option Addr} {xs : List α} (h : Wrote rb w w1) (ha : Arr S w a xs) (hS : ∀ b, S b → b < w.heap.size ∧ b ≠ rb) : Arr S w1 a xs :=
  ha.keep (fun b hb => h.block b (hS b hb).1 (hS b hb).2)
theorem Wrote.below {N : Nat} (h : Wrote rb w w1) (hr : N ≤ rb) (hs : N ≤ w.heap.size) : Below N w w1 := ⟨h.os, h.tape, h.output, h.size, fun k hk => h.block k (by omega) (by omega)⟩
theorem Wrote.grown (h : Wrote rb w w1) : w.grownBy w1 (some rb) := ⟨h.os, h.tape, h.output, h.size, fun k hk hne => h.block k hk (fun e => hne (by rw [e]))⟩
end

/-- At block rb lies a reader: what it has left (nothing: it is bad). -/
structure Rdr (S0 : Nat → Prop) (w : World) (rb : Nat) (st : Option (List Int)) : Prop where
  at' : ∃ a n c, Blk w rb 179 [.slice a n c, .bool st.isNone] ∧ ∀ xs, st = some xs → xs.length = n ∧ n ≤ c ∧ xs.length ≤ maxLen ∧ n ≤ 1000000000 ∧ Arr S0 w a xs
  free : ∀ b, S0 b → b < w.heap.size ∧ b ≠ rb
section
variable {S0 : Nat → Prop} {rb : Nat} {w w1 : World} {st : Option (List Int)}
theorem Rdr.lt (h : Rdr S0 w rb st) : rb < w.heap.size := by obtain ⟨a, n, c, hb, -⟩ := h.at'; exact hb.lt
theorem Rdr.keep (h : Rdr S0 w rb st) (hb : Below w.heap.size w w1) : Rdr S0 w1 rb st := by
  obtain ⟨a, n, c, h1, h2⟩ := h.at'
  refine ⟨⟨a, n, c, h1.keep (hb.block _ h1.lt), fun xs hx => ?_⟩, fun b hb' => ⟨Nat.lt_of_lt_of_le (h.free b hb').1 hb.size, (h.free b hb').2⟩⟩
  obtain ⟨k1, k2, k3, k4, k5⟩ := h2 xs hx
  exact ⟨k1, k2, k3, k4, k5.keep (fun b hb' => hb.block b (h.free b hb').1)⟩
theorem Rdr.alloc (h : Rdr S0 w rb st) (o : Obj) : Rdr S0 (w.alloc o) rb st := h.keep ((Below.refl _ _).alloc (Nat.le_refl _) _)
/-- What is written lies above the reader and its list. -/
theorem Rdr.keep2 (h : Rdr S0 w rb st) {N : Nat} (hr : rb < N) (hS : ∀ b, S0 b → b < N) (hs : w.heap.size ≤ w1.heap.size) (hb : ∀ k, k < N → w1.heap[k]? = w.heap[k]?) : Rdr S0 w1 rb st := by
  obtain ⟨a, n, c, h1, h2⟩ := h.at'
  refine ⟨⟨a, n, c, h1.keep (hb _ hr), fun xs hx => ?_⟩, fun b hb' => ⟨Nat.lt_of_lt_of_le (h.free b hb').1 hs, (h.free b hb').2⟩⟩
  obtain ⟨k1, k2, k3, k4, k5⟩ := h2 xs hx
  exact ⟨k1, k2, k3, k4, k5.keep (fun b hb' => hb b (hS b hb'))⟩
/-- A new block, or one that is neither the reader's nor the list's, is written. -/
theorem Rdr.set (h : Rdr S0 w rb st) {k j : Nat} (hk : k ≠ rb) (hs : ¬ S0 k) (v : Value) : Rdr S0 (w.setCell ⟨k, j, none⟩ v) rb st := by
  obtain ⟨a, n, c, h1, h2⟩ := h.at'
  refine ⟨⟨a, n, c, h1.keep (blk_setCell_other _ _ _ (fun e => hk e.symm)), fun xs hx => ?_⟩, fun b hb' => by rw [size_setCell]; exact h.free b hb'⟩
  obtain ⟨k1, k2, k3, k4, k5⟩ := h2 xs hx
  exact ⟨k1, k2, k3, k4, k5.keep (fun b hb' => blk_setCell_other _ _ _ (show b ≠ k from fun e => hs (by rw [← e]; exact hb')))⟩
end

def NumPost (S0 : Nat → Prop) (rb : Nat) (w : World) (st : Option (List Int)) (e : Ending) (w' : World) : Prop :=
  ∃ (x : Int) (st' : Option (List Int)), e = .returned (.int .i64 x) ∧ I64 x ∧ Wrote rb w w' ∧ Rdr S0 w' rb st' ∧ Step fNum st x st' ∧ (st' = none → x = 0)

theorem decide_f' {p : Prop} [Decidable p] (h : ¬ p) : decide p = false := decide_eq_false h
set_option maxRecDepth 100000 in
theorem num_any {S0 : Nat → Prop} {w : World} {rb : Nat} {st : Option (List Int)} (h : Rdr S0 w rb st) :
    Calls Try.prog 113 #[.pointer (some ⟨rb, 0, none⟩)] w (NumPost S0 rb w st) := by
  obtain ⟨a, n, c, hk, h2⟩ := h.at'
  have HB := Lib.hid hk; have HF := Lib.hid h.free
  have q0 := hk.cell (j := 0) rfl
  have q1 := hk.cell (j := 1) rfl
  have f0 := hk.frozen 0
  have f1 := hk.frozen 1
  cases st with
  | none =>
    clear h h2 hk
    go_enter Try.func113, Try.ntmps113
    go_wp2_with fail
    go_ret
    exact ⟨0, none, rfl, by unfold I64; omega, (Wrote.refl _ _).set (.inl rfl) _, ⟨⟨a, n, c, HB.out.set 1 _, fun xs hx => by cases hx⟩, fun b hb => by rw [size_setCell]; exact HF.out b hb⟩, Step.num_none, fun _ => rfl⟩
  | some xs =>
    obtain ⟨k1, k2, k3, k4, k5⟩ := h2 xs rfl
    cases xs with
    | nil =>
      simp at k1
      subst k1
      clear h h2 hk k5
      go_enter Try.func113, Try.ntmps113
      go_wp2_with fail
      go_ret
      exact ⟨0, none, rfl, by unfold I64; omega, (Wrote.refl _ _).set (.inl rfl) _, ⟨⟨a, 0, c, HB.out.set 1 _, fun xs hx => by cases hx⟩, fun b hb => by rw [size_setCell]; exact HF.out b hb⟩, Step.num_nil, fun _ => rfl⟩
    | cons v vs =>
      simp at k1
      subst k1
      obtain ⟨b, off, cs, rfl, hb, ⟨rfl, hi⟩, g1⟩ := k5.at (k := 0) rfl
      have e0 := g1 0 Nat.zero_lt_one
      have HA := Lib.hid (k5.from c 1 (by simp) (by simpa using k2))
      simp only [show Rep.sz Int = 1 from rfl, Nat.mul_one, Nat.zero_add, Nat.add_zero, List.getElem?_cons_zero] at e0
      have hz : decide (((vs.length + 1 : Nat) : Int) = 0) = false := decide_f' (by omega)
      have hsl := fun w => run_slice_tail (P := Try.prog) (t := 22) Try.underlying22 (z := 1) rfl (some ⟨b, off, none⟩) (vs.length + 1) c 1 (by omega) k2 w
      clear h h2 hk k5 g1
      go_enter Try.func113, Try.ntmps113
      go_wp2_with fail
      all_goals go_ret
      · have hc : c = 1 := by assumption
        subst hc
        refine ⟨v, some vs, rfl, hi, (Wrote.refl _ _).set (.inl rfl) _, ⟨⟨_, _, _, HB.out.set 0 _, fun xs hx => ?_⟩, fun b hb => by rw [size_setCell]; exact HF.out b hb⟩, Step.num v vs, fun h => by cases h⟩
        injection hx with hx
        subst hx
        have h5 := HA.out
        simp at h5
        exact ⟨rfl, by omega, by unfold maxLen; omega, by omega, h5.keep (fun b hb => blk_setCell_other _ _ _ (HF.out b hb).2)⟩
      · have hc : ¬ c = 1 := by assumption
        refine ⟨v, some vs, rfl, hi, (Wrote.refl _ _).set (.inl rfl) _, ⟨⟨_, _, _, HB.out.set 0 _, fun xs hx => ?_⟩, fun b hb => by rw [size_setCell]; exact HF.out b hb⟩, Step.num v vs, fun h => by cases h⟩
        injection hx with hx
        subst hx
        have h5 := HA.out
        rw [if_neg hc] at h5
        simp [Addr.add, show Rep.sz Int = 1 from rfl] at h5
        exact ⟨rfl, by omega, by unfold maxLen; omega, by omega, h5.keep (fun b hb => blk_setCell_other _ _ _ (HF.out b hb).2)⟩
end Go.Proofs.Ytimlhjjdaggiiaa.flat
