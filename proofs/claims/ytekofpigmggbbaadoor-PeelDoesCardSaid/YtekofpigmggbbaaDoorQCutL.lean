/- ir.Cut: how what it makes lies while it is made. -/
import Derived.Test.YtekofpigmggbbaaDoorQCutC
import Derived.Test.YtekofpigmggbbaaDoorQCutB
import Derived.Test.YtekofpigmggbbaaDoorQChkE
set_option linter.unusedVariables false
set_option linter.unusedSimpArgs false
namespace Go.Proofs.YtekofpigmggbbaaDoor.cut
open Go.Bk Go.RowKit Go.Proofs.YtekofpigmggbbaaDoor.ir

def outZ (t : Api.TTrace) (lv : Int) (vI vE : Value) : List Value := [.int .i64 t.Fn, .int .i64 t.At, .int .i64 lv, vI, vE, .int .i64 0, .int .i64 0, .slice none 0 0, .slice none 0 0, .int .i64 0, .int .i64 0, .slice none 0 0, .slice none 0 0]
def zeroTL : List Value := [.int .i64 0, .int .i64 0, .int .i64 0, .slice none 0 0, .slice none 0 0, .int .i64 0, .int .i64 0, .slice none 0 0, .slice none 0 0, .int .i64 0, .int .i64 0, .slice none 0 0, .slice none 0 0]
/-- Within the first loop: where values are (la), what is left in (li), the loop's place, whether all was fine. -/
structure IL (T : Array Value) (t : Api.TTrace) (w W : World) (vA vI : Value) (la : List Int) (li : List Api.TIns) (lv : Int) (b : Bool) : Prop where
  box : Row W w.heap.size 34 T
  res : Blk W (w.heap.size + 1) 34 zeroTL
  cut : Blk W (w.heap.size + 2) 145 [vA, .bool b]
  out : Blk W (w.heap.size + 3) 34 (outZ t lv vI (.slice none 0 0))
  at' : Own (fun _ => False) W (w.heap.size + 4) 3 vA la
  ins : Own (fun _ => False) W (w.heap.size + 4) 43 vI li
  apart : Apart vA vI
  below : Below w.heap.size w W
  size : w.heap.size + 4 ≤ W.heap.size
section
variable {T : Array Value} {t : Api.TTrace} {w W W' : World} {vA vI vA' vI' : Value} {la : List Int} {li : List Api.TIns} {lv : Int} {b : Bool}
theorem IL.call (h : IL T t w W vA vI la li lv b) (hb : Below W.heap.size W W') : IL T t w W' vA vI la li lv b :=
  have k : ∀ j, j < W.heap.size → W'.heap[j]? = W.heap[j]? := fun j hj => hb.block j hj
  have hz := h.size
  ⟨h.box.keep (k _ h.box.lt), h.res.keep (k _ h.res.lt), h.cut.keep (k _ h.cut.lt), h.out.keep (k _ h.out.lt), h.at'.below hb (fun _ h => h.elim), h.ins.below hb (fun _ h => h.elim), h.apart, h.below.trans (hb.mono h.below.size), Nat.le_trans hz hb.size⟩
theorem IL.alloc (h : IL T t w W vA vI la li lv b) (o : Obj) : IL T t w (W.alloc o) vA vI la li lv b := h.call ((Below.refl _ _).alloc (Nat.le_refl _) _)
theorem IL.drew (h : IL T t w W vA vI la li lv b) : IL T t w W.drew vA vI la li lv b := h.call (Below.refl _ _).drew
theorem IL.far (h : IL T t w W vA vI la li lv b) {c : Nat} (hc : c < w.heap.size + 4) : vA.ownBlock ≠ some c ∧ vI.ownBlock ≠ some c :=
  ⟨fun e => by have := (h.at'.lt c e).1; omega, fun e => by have := (h.ins.lt c e).1; omega⟩
/-- A cell of one of the first four blocks is written. -/
theorem IL.wrote {c : Nat} (h : IL T t w W vA vI la li lv b) (hc : c < w.heap.size + 4) (j : Nat) (v : Value) :
    (∀ k, k ≠ c → (W.setCell ⟨c, j, none⟩ v).heap[k]? = W.heap[k]?) ∧ Own (fun _ => False) (W.setCell ⟨c, j, none⟩ v) (w.heap.size + 4) 3 vA la ∧ Own (fun _ => False) (W.setCell ⟨c, j, none⟩ v) (w.heap.size + 4) 43 vI li := by
  have hk : ∀ k, k ≠ c → (W.setCell ⟨c, j, none⟩ v).heap[k]? = W.heap[k]? := fun k hk => blk_setCell_other _ _ _ hk
  exact ⟨hk, own_same' h.at' (fun k hk' => hk k (by have := (h.at'.lt k hk').1; omega)) (fun _ h => h.elim), own_same' h.ins (fun k hk' => hk k (by have := (h.ins.lt k hk').1; omega)) (fun _ h => h.elim)⟩
theorem below_set {N c j : Nat} {v : Value} (h : Below N w W) (hc : N ≤ c) : Below N w (W.setCell ⟨c, j, none⟩ v) :=
  ⟨h.os, h.tape, h.output, by rw [size_setCell]; exact h.size, fun k hk => by rw [blk_setCell_other _ _ _ (show k ≠ c by omega)]; exact h.block k hk⟩
theorem IL.loop (h : IL T t w W vA vI la li lv b) (l : Int) : IL T t w (W.setCell ⟨w.heap.size + 3, 2, none⟩ (.int .i64 l)) vA vI la li l b := by
  obtain ⟨k, h1, h2⟩ := h.wrote (c := w.heap.size + 3) (by omega) 2 (.int .i64 l)
  exact ⟨h.box.keep (k _ (by omega)), h.res.keep (k _ (by omega)), h.cut.keep (k _ (by omega)), h.out.set 2 _, h1, h2, h.apart, below_set h.below (by omega), by rw [size_setCell]; exact h.size⟩
/-- The list of places grows. -/
theorem IL.more (h : IL T t w W vA vI la li lv b) {x : Int} (ho : Own (fun _ => False) W' (w.heap.size + 4) 3 vA' (la ++ [x])) (hg : W.grownBy W' vA.ownBlock) (hst : Stay W vA vA') :
    IL T t w (W'.setCell ⟨w.heap.size + 2, 0, none⟩ vA') vA' vI (la ++ [x]) li lv b ∧ Blk W' (w.heap.size + 2) 145 [vA, .bool b] := by
  have hz := h.size
  have k : ∀ c, c < w.heap.size + 4 → W'.heap[c]? = W.heap[c]? := fun c hc => hg.block c (by omega) (fun e => (h.far hc).1 e.symm)
  have hI : Own (fun _ => False) W' (w.heap.size + 4) 43 vI li := h.ins.apart hg h.apart (fun _ h => h.elim)
  have hb : Below w.heap.size w W' := h.below.grown hg h.below.size (fun r hr => by have := (h.at'.lt r hr).1; omega)
  have hh : ∀ c, c ≠ w.heap.size + 2 → (W'.setCell ⟨w.heap.size + 2, 0, none⟩ vA').heap[c]? = W'.heap[c]? := fun c hc => blk_setCell_other _ _ _ hc
  have hc := h.cut.keep (k _ (by omega))
  refine ⟨⟨h.box.keep ((hh _ (by omega)).trans (k _ (by omega))), h.res.keep ((hh _ (by omega)).trans (k _ (by omega))), hc.set 0 _, h.out.keep ((hh _ (by omega)).trans (k _ (by omega))), ?_, ?_, ?_, below_set hb (by omega), by rw [size_setCell]; have := hg.size; omega⟩, hc⟩
  · exact own_same' ho (fun c hc' => hh c (by have := (ho.lt c hc').1; omega)) (fun _ h => h.elim)
  · exact own_same' hI (fun c hc' => hh c (by have := (hI.lt c hc').1; omega)) (fun _ h => h.elim)
  · exact h.apart.moved hst (fun c hc' => (h.ins.lt c hc').2)
/-- What is left in grows. -/
theorem IL.keep1 (h : IL T t w W vA vI la li lv b) {x : Api.TIns} (ho : Own (fun _ => False) W' (w.heap.size + 4) 43 vI' (li ++ [x])) (hg : W.grownBy W' vI.ownBlock) (hst : Stay W vI vI') :
    IL T t w (W'.setCell ⟨w.heap.size + 3, 3, none⟩ vI') vA vI' la (li ++ [x]) lv b ∧ Blk W' (w.heap.size + 3) 34 (outZ t lv vI (.slice none 0 0)) := by
  have hz := h.size
  have k : ∀ c, c < w.heap.size + 4 → W'.heap[c]? = W.heap[c]? := fun c hc => hg.block c (by omega) (fun e => (h.far hc).2 e.symm)
  have hA : Own (fun _ => False) W' (w.heap.size + 4) 3 vA la := h.at'.apart hg h.apart.symm (fun _ h => h.elim)
  have hb : Below w.heap.size w W' := h.below.grown hg h.below.size (fun r hr => by have := (h.ins.lt r hr).1; omega)
  have hh : ∀ c, c ≠ w.heap.size + 3 → (W'.setCell ⟨w.heap.size + 3, 3, none⟩ vI').heap[c]? = W'.heap[c]? := fun c hc => blk_setCell_other _ _ _ hc
  have hc := h.out.keep (k _ (by omega))
  refine ⟨⟨h.box.keep ((hh _ (by omega)).trans (k _ (by omega))), h.res.keep ((hh _ (by omega)).trans (k _ (by omega))), h.cut.keep ((hh _ (by omega)).trans (k _ (by omega))), hc.set 3 _, ?_, ?_, ?_, below_set hb (by omega), by rw [size_setCell]; have := hg.size; omega⟩, hc⟩
  · exact own_same' hA (fun c hc' => hh c (by have := (hA.lt c hc').1; omega)) (fun _ h => h.elim)
  · exact own_same' ho (fun c hc' => hh c (by have := (ho.lt c hc').1; omega)) (fun _ h => h.elim)
  · exact (h.apart.symm.moved hst (fun c hc' => (h.at'.lt c hc').2)).symm
/-- The cutter as its methods read it. -/
theorem IL.cst (h : IL T t w W vA vI la li lv b) : ∃ (a : Option Addr) (c : Nat), vA = .slice a la.length c ∧ CSt (fun k => w.heap.size + 4 ≤ k ∧ k < W.heap.size) W (w.heap.size + 2) a la.length c la b := by
  obtain ⟨a, cap, rfl, -, -, h3⟩ := h.at'.arr
  exact ⟨a, cap, rfl, h.cut, h3.mono fun k hk => hk.elim False.elim id, rfl, fun k hk => ⟨hk.2, by have := hk.1; omega⟩⟩
/-- Behind a call of one of the cutter's methods. -/
theorem IL.called (h : IL T t w W vA vI la li lv b) {R : Nat → Prop} {a : Option Addr} {n c : Nat} {b' : Bool} (hv : vA = .slice a n c) (hw : Wr W.heap.size (w.heap.size + 2) W W') (hc : CSt R W' (w.heap.size + 2) a n c la b') : IL T t w W' vA vI la li lv b' := by
  have hz := h.size
  have k : ∀ j, j < W.heap.size → j ≠ w.heap.size + 2 → W'.heap[j]? = W.heap[j]? := hw.block
  refine ⟨h.box.keep (k _ h.box.lt (by omega)), h.res.keep (k _ h.res.lt (by omega)), by rw [hv]; exact hc.blk, h.out.keep (k _ h.out.lt (by omega)), ?_, ?_, h.apart, h.below.trans ((hw.mono h.below.size).below (by omega)), Nat.le_trans hz hw.size⟩
  · exact own_same' h.at' (fun j hj => k j (h.at'.lt j hj).2 (by have := (h.at'.lt j hj).1; omega)) (fun _ h => h.elim)
  · exact own_same' h.ins (fun j hj => k j (h.ins.lt j hj).2 (by have := (h.ins.lt j hj).1; omega)) (fun _ h => h.elim)
end
/-- Within the second loop: k exits are made. -/
structure EL (T : Array Value) (t : Api.TTrace) (w : World) (n1 : Nat) (aA : Option Addr) (nA cA : Nat) (la : List Int) (li : List Api.TIns) (lv : Int) (vI : Value) (W : World) (vE : Value) (le : List Api.TExit) (b : Bool) : Prop where
  box : Row W w.heap.size 34 T
  res : Blk W (w.heap.size + 1) 34 zeroTL
  cst : CSt (fun k => w.heap.size + 4 ≤ k ∧ k < n1) W (w.heap.size + 2) aA nA cA la b
  out : Blk W (w.heap.size + 3) 34 (outZ t lv vI vE)
  ins : Rep.cells (fun k => w.heap.size + 4 ≤ k ∧ k < n1) W [vI] li
  exits : Own (SB n1 W vE) W n1 32 vE le
  below : Below w.heap.size w W
  size : n1 ≤ W.heap.size
  far : w.heap.size + 4 ≤ n1
section
variable {T : Array Value} {t : Api.TTrace} {w W W' : World} {vA vI vE vE' : Value} {la : List Int} {li : List Api.TIns} {le : List Api.TExit} {lv : Int} {b b' : Bool} {n1 nA cA : Nat} {aA : Option Addr}
theorem IL.exits (h : IL T t w W vA vI la li lv b) (hv : vA = .slice aA nA cA) (hn : la.length = nA) : EL T t w W.heap.size aA nA cA la li lv vI W (.slice none 0 0) [] b := by
  subst hv
  refine ⟨h.box, h.res, ⟨h.cut, ?_, hn, fun k hk => ⟨hk.2, by have := hk.1; omega⟩⟩, h.out, ?_, Own.nil _ _ _ _, h.below, Nat.le_refl _, h.size⟩
  · obtain ⟨a, cap, e, -, -, h3⟩ := h.at'.arr
    injection e with e1 e2 e3
    rw [e1]
    exact h3.mono fun k hk => hk.elim False.elim id
  · obtain ⟨a, cap, rfl, h1, h2, h3⟩ := h.ins.arr
    exact ⟨a, cap, rfl, h1, h2, h3.mono fun k hk => hk.elim False.elim id⟩
theorem EL.lt (h : EL T t w n1 aA nA cA la li lv vI W vE le b) {c : Nat} (hc : vE.ownBlock = some c) : n1 ≤ c ∧ c < W.heap.size := h.exits.lt c hc
theorem EL.call (h : EL T t w n1 aA nA cA la li lv vI W vE le b) (hb : Below W.heap.size W W') : EL T t w n1 aA nA cA la li lv vI W' vE le b := by
  have k : ∀ j, j < W.heap.size → W'.heap[j]? = W.heap[j]? := fun j hj => hb.block j hj
  have hz := h.size; have hf := h.far
  refine ⟨h.box.keep (k _ h.box.lt), h.res.keep (k _ h.res.lt), h.cst.keep hb.size (fun j hj => k j ?_), h.out.keep (k _ h.out.lt), Rep.keep (fun j hj => k j (by have := hj.2; omega)) h.ins, ?_, h.below.trans (hb.mono h.below.size), Nat.le_trans hz hb.size, hf⟩
  · rcases hj with rfl | hj
    · omega
    · have := hj.2; omega
  · exact (own_same' h.exits (fun j hj => k j (h.lt hj).2) (fun j hj => k j hj.2.1)).mono (SB.mono hb.size)
theorem EL.alloc (h : EL T t w n1 aA nA cA la li lv vI W vE le b) (o : Obj) : EL T t w n1 aA nA cA la li lv vI (W.alloc o) vE le b := h.call ((Below.refl _ _).alloc (Nat.le_refl _) _)
theorem EL.drew (h : EL T t w n1 aA nA cA la li lv vI W vE le b) : EL T t w n1 aA nA cA la li lv vI W.drew vE le b := h.call (Below.refl _ _).drew
/-- What the cutter's exit asks of its state. -/
theorem cst_keeps {R : Nat → Prop} {N c : Nat} (hR : ∀ k, R k → k < N) (hc : c < N) : Keeps N (fun b W => CSt R W c aA nA cA la b) := fun b W W' h hk hs => h.keep hs fun k hk' => hk k (by
  rcases hk' with rfl | hk'
  · exact hc
  · exact hR k hk')
theorem EL.called (h : EL T t w n1 aA nA cA la li lv vI W vE le b) (hw : Wr W.heap.size (w.heap.size + 2) W W') (hc : CSt (fun k => w.heap.size + 4 ≤ k ∧ k < n1) W' (w.heap.size + 2) aA nA cA la b') : EL T t w n1 aA nA cA la li lv vI W' vE le b' := by
  have hz := h.size; have hf := h.far
  have k : ∀ j, j < W.heap.size → j ≠ w.heap.size + 2 → W'.heap[j]? = W.heap[j]? := hw.block
  refine ⟨h.box.keep (k _ h.box.lt (by omega)), h.res.keep (k _ h.res.lt (by omega)), hc, h.out.keep (k _ h.out.lt (by omega)), Rep.keep (fun j hj => k j (by have := hj.2; omega) (by have := hj.1; omega)) h.ins, ?_, h.below.trans ((hw.mono h.below.size).below (by omega)), Nat.le_trans hz hw.size, hf⟩
  exact (own_same' h.exits (fun j hj => k j (h.lt hj).2 (by have := (h.lt hj).1; omega)) (fun j hj => k j hj.2.1 (by have := hj.1; omega))).mono (SB.mono hw.size)
/-- What is handed to append. -/
theorem EL.ready {w0 : World} (h : EL T t w n1 aA nA cA la li lv vI W vE le b) (hs : W.heap.size ≤ w0.heap.size) (h0 : EL T t w n1 aA nA cA la li lv vI w0 vE le b') {cs : List Value} {x : Api.TExit} (hr : Rep.cells (Fresh W w0) w0 cs x) : Rep.cells (SB n1 w0 vE) w0 cs x :=
  Rep.mono (fun k hk => ⟨by have := h.size; have := hk.1; omega, hk.2, fun e => by have := (h.lt e).2; have := hk.1; omega⟩) hr
theorem EL.more (h : EL T t w n1 aA nA cA la li lv vI W vE le b) {x : Api.TExit} (ho : Own (SB n1 W vE) W' n1 32 vE' (le ++ [x])) (hg : W.grownBy W' vE.ownBlock) (hst : Stay W vE vE') :
    EL T t w n1 aA nA cA la li lv vI (W'.setCell ⟨w.heap.size + 3, 4, none⟩ vE') vE' (le ++ [x]) b ∧ Blk W' (w.heap.size + 3) 34 (outZ t lv vI vE) := by
  have hz := h.size; have hf := h.far
  have k : ∀ c, c < n1 → W'.heap[c]? = W.heap[c]? := fun c hc => hg.block c (by omega) (fun e => by have := (h.lt e.symm).1; omega)
  have hb : Below w.heap.size w W' := h.below.grown hg h.below.size (fun r hr => by have := (h.lt hr).1; omega)
  have hh : ∀ c, c ≠ w.heap.size + 3 → (W'.setCell ⟨w.heap.size + 3, 4, none⟩ vE').heap[c]? = W'.heap[c]? := fun c hc => blk_setCell_other _ _ _ hc
  have hkk : ∀ c, c < n1 → c ≠ w.heap.size + 3 → (W'.setCell ⟨w.heap.size + 3, 4, none⟩ vE').heap[c]? = W.heap[c]? := fun c h1 h2 => (hh c h2).trans (k c h1)
  have hc := h.out.keep (k _ (by omega))
  have hsz := hg.size
  refine ⟨⟨h.box.keep (hkk _ (by omega) (by omega)), h.res.keep (hkk _ (by omega) (by omega)), h.cst.keep (by rw [size_setCell]; exact hsz) (fun j hj => ?_), hc.set 4 _, Rep.keep (fun j hj => hkk j hj.2 (by have := hj.1; omega)) h.ins, ?_, below_set hb (by omega), by rw [size_setCell]; omega, hf⟩, hc⟩
  · rcases hj with rfl | hj
    · exact hkk _ (by omega) (by omega)
    · exact hkk _ hj.2 (by have := hj.1; omega)
  · have ho2 : Own (SB n1 (W'.setCell ⟨w.heap.size + 3, 4, none⟩ vE') vE') W' n1 32 vE' (le ++ [x]) := ho.mono fun c hc => ⟨hc.1, by rw [size_setCell]; have := hc.2.1; omega, fun e => by
      rcases hst c e with h1 | h1
      · exact hc.2.2 h1
      · have := hc.2.1; omega⟩
    refine own_same' ho2 (fun c hc' => hh c ?_) (fun c hc' => hh c ?_)
    · have := (ho.lt c hc').1; omega
    · have := hc'.1; omega
end
/-- All is made. -/
structure EndAt (w W : World) (t' : Api.TTrace) (vA : Value) (b : Bool) : Prop where
  res : Row W (w.heap.size + 1) 34 zeroTL.toArray
  cut : Blk W (w.heap.size + 2) 145 [vA, .bool b]
  out : ∃ C : Array Value, Row W (w.heap.size + 3) 34 C ∧ Rep.cells (fun k => w.heap.size + 4 ≤ k ∧ k < W.heap.size) W C.toList t'
  below : Below w.heap.size w W
  size : w.heap.size + 4 ≤ W.heap.size
theorem EL.done {T : Array Value} {t : Api.TTrace} {w W : World} {vI vE : Value} {la : List Int} {li : List Api.TIns} {le : List Api.TExit} {lv : Int} {b : Bool} {n1 nA cA : Nat} {aA : Option Addr} (h : EL T t w n1 aA nA cA la li lv vI W vE le b)
    {x y : Api.TExit} {u0 u1 u2 u3 v0 v1 v2 v3 : Value} (hx : Rep.cells (fun k => n1 ≤ k ∧ k < W.heap.size) W [u0, u1, u2, u3] x) (hy : Rep.cells (fun k => n1 ≤ k ∧ k < W.heap.size) W [v0, v1, v2, v3] y) (h1 : I64 t.Fn) (h2 : I64 t.At) (h3 : I64 lv)
    {W' : World} (hb : Blk W' (w.heap.size + 3) 34 [.int .i64 t.Fn, .int .i64 t.At, .int .i64 lv, vI, vE, u0, u1, u2, u3, v0, v1, v2, v3]) (hk : ∀ k, k ≠ w.heap.size + 3 → W'.heap[k]? = W.heap[k]?) (hs : W'.heap.size = W.heap.size) (hbw : Below w.heap.size w W') :
    EndAt w W' ⟨t.Fn, t.At, lv, li, le, x, y⟩ (.slice aA nA cA) b := by
  have hf := h.far; have hz := h.size
  refine ⟨h.res.keep (hk _ (by omega)), h.cst.blk.keep (hk _ (by omega)), ⟨_, hb, ?_⟩, hbw, by omega⟩
  have hS : ∀ k, (w.heap.size + 4 ≤ k ∧ k < W.heap.size) → W'.heap[k]? = W.heap[k]? := fun k hk' => hk k (by omega)
  have i1 : Rep.cells (fun k => w.heap.size + 4 ≤ k ∧ k < W'.heap.size) W' [vI] li := Rep.mono (fun k hk' => ⟨hk'.1, by have := hk'.2; omega⟩) (Rep.keep (fun k hk' => hk k (by have := hk'.1; omega)) h.ins)
  have i2 : Rep.cells (fun k => w.heap.size + 4 ≤ k ∧ k < W'.heap.size) W' [vE] le := by
    obtain ⟨a, c, rfl, q1, q2, q3⟩ := h.exits.arr
    refine Rep.mono (fun k hk' => ?_) (Rep.keep (S := fun k => SB n1 W (.slice a le.length c) k ∨ (n1 ≤ k ∧ k < W.heap.size)) (fun k hk' => hk k ?_) (⟨a, c, rfl, q1, q2, q3⟩ : Rep.cells (fun k => SB n1 W (.slice a le.length c) k ∨ (n1 ≤ k ∧ k < W.heap.size)) W [.slice a le.length c] le))
    · rcases hk' with hk' | hk'
      · exact ⟨by have := hk'.1; omega, by have := hk'.2.1; omega⟩
      · exact ⟨by have := hk'.1; omega, by have := hk'.2; omega⟩
    · rcases hk' with hk' | hk'
      · have := hk'.1; omega
      · have := hk'.1; omega
  have i3 : Rep.cells (fun k => w.heap.size + 4 ≤ k ∧ k < W'.heap.size) W' [u0, u1, u2, u3] x := Rep.mono (fun k hk' => ⟨by have := hk'.1; omega, by have := hk'.2; omega⟩) (Rep.keep (fun k hk' => hk k (by have := hk'.1; omega)) hx)
  have i4 : Rep.cells (fun k => w.heap.size + 4 ≤ k ∧ k < W'.heap.size) W' [v0, v1, v2, v3] y := Rep.mono (fun k hk' => ⟨by have := hk'.1; omega, by have := hk'.2; omega⟩) (Rep.keep (fun k hk' => hk k (by have := hk'.1; omega)) hy)
  exact ⟨_, _, ⟨rfl, h1⟩, ⟨_, _, ⟨rfl, h2⟩, ⟨_, _, ⟨rfl, h3⟩, ⟨_, _, i1, ⟨_, _, i2, ⟨_, _, i3, i4, rfl⟩, rfl⟩, rfl⟩, rfl⟩, rfl⟩, rfl⟩
/-- A call of the cutter's exit. -/
theorem EL.exit_any {S : Nat → Prop} {T : Array Value} {t : Api.TTrace} {w W : World} {vI vE : Value} {ts : List Int} {k : Nat} {li : List Api.TIns} {le : List Api.TExit} {lv : Int} {b : Bool} {n1 nA cA : Nat} {aA : Option Addr} (h : EL T t w n1 aA nA cA (atOf ts k) li lv vI W vE le b)
    (hk : k ≤ 1000000) {X : Array Value} {z : Api.TExit} (hr : Rep.cells S W X.toList z) (hS : ∀ k, S k → k < w.heap.size) (hf : FewX z) {y : Api.TExit} (hy : y = cutExit (oneV (atOf ts k)) z) :
    Calls Tryd.prog 86 #[.pointer (some ⟨w.heap.size + 2, 0, none⟩), .agg X] W fun e w6 => ∃ a2' n2' c2' a3' n3' c3', e = .returned (.agg #[.int .i64 y.At, .int .i64 y.Steps, .slice a2' n2' c2', .slice a3' n3' c3']) ∧
      Rep.cells (Fresh W w6) w6 [.int .i64 y.At, .int .i64 y.Steps, .slice a2' n2' c2', .slice a3' n3' c3'] y ∧ EL T t w n1 aA nA cA (atOf ts k) li lv vI w6 vE le (b && fineExit (oneV (atOf ts k)) z) ∧ Wr W.heap.size (w.heap.size + 2) W w6 := by
  have hz := h.size
  have hfar := h.far
  have hq : Keeps W.heap.size (fun b W => CSt (fun j => w.heap.size + 4 ≤ j ∧ j < n1) W (w.heap.size + 2) aA nA cA (atOf ts k) b) := cst_keeps (fun j hj => Nat.lt_of_lt_of_le hj.2 hz) (by omega)
  have hg : ∀ v, I64 (oneV (atOf ts k) v) := fun v => oneV_i64 ts k hk v
  have hgood : GoodX (oneV (atOf ts k)) z := ⟨fun s _ => hg _, fun m _ => ⟨hg _, fun v _ => hg v⟩⟩
  have hS' : ∀ j, S j → j < W.heap.size ∧ j ≠ w.heap.size + 2 := fun j hj => by have := hS j hj; omega
  have hcall : ∀ (b : Bool) (W' : World) (v : Int), (fun b W => CSt (fun j => w.heap.size + 4 ≤ j ∧ j < n1) W (w.heap.size + 2) aA nA cA (atOf ts k) b) b W' → W.heap.size ≤ W'.heap.size →
      Calls Tryd.prog 129 #[.pointer (some ⟨w.heap.size + 2, 0, none⟩), .int .i64 v] W' fun e W'' => e = .returned (.int .i64 (oneV (atOf ts k) v)) ∧ (fun b W => CSt (fun j => w.heap.size + 4 ≤ j ∧ j < n1) W (w.heap.size + 2) aA nA cA (atOf ts k) b) (b && fineV (oneV (atOf ts k)) v) W'' ∧ Wr W'.heap.size (w.heap.size + 2) W' W'' ∧ W''.heap.size = W'.heap.size := fun b W' v hq _ => one_any hq v
  have hh := exitG_any (b := b) (X := X) (x := z) (S := S) h.cst hq (by omega) hcall hr hS' hf hgood
  refine hh.mono ?_
  rintro e w6 ⟨cs, rfl, hr, hc, hw⟩
  rw [← hy] at hr
  obtain ⟨a2', c2', a3', c3', rfl, -⟩ := api_TExit_cells_eq hr
  exact ⟨a2', _, c2', a3', _, c3', rfl, hr, h.called hw hc, hw⟩
end Go.Proofs.YtekofpigmggbbaaDoor.cut
