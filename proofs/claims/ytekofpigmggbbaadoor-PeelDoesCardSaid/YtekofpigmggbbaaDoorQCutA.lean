/- A cutter: one value; walked. -/
import Derived.Test.YtekofpigmggbbaaDoorQChkPlain
import Derived.Test.YtekofpigmggbbaaDoorQWr
set_option linter.unusedVariables false
set_option linter.unusedSimpArgs false
namespace Go.Proofs.YtekofpigmggbbaaDoor.cut
open Go.Bk Go.RowKit Go.Proofs.YtekofpigmggbbaaDoor.ir

/-- At block c lies a cutter: where values are then; whether all was fine. -/
structure CSt (R : Nat → Prop) (W : World) (c : Nat) (aA : Option Addr) (nA cA : Nat) (at' : List Int) (b : Bool) : Prop where
  blk : Blk W c 145 [.slice aA nA cA, .bool b]
  arr : Arr R W aA at'
  len : at'.length = nA
  free : ∀ k, R k → k < W.heap.size ∧ k ≠ c
theorem CSt.keep {R : Nat → Prop} {W W' : World} {c : Nat} {aA : Option Addr} {nA cA : Nat} {at' : List Int} {b : Bool} (h : CSt R W c aA nA cA at' b) (hs : W.heap.size ≤ W'.heap.size) (hk : ∀ k, k = c ∨ R k → W'.heap[k]? = W.heap[k]?) : CSt R W' c aA nA cA at' b :=
  ⟨h.blk.keep (hk c (.inl rfl)), h.arr.keep fun k hk' => hk k (.inr hk'), h.len, fun k hk' => ⟨Nat.lt_of_lt_of_le (h.free k hk').1 hs, (h.free k hk').2⟩⟩
theorem CSt.bad {R : Nat → Prop} {W : World} {c : Nat} {aA : Option Addr} {nA cA : Nat} {at' : List Int} {b : Bool} (h : CSt R W c aA nA cA at' b) : CSt R (W.setCell ⟨c, 1, none⟩ (.bool false)) c aA nA cA at' false :=
  ⟨h.blk.set 1 _, h.arr.keep fun k hk => blk_setCell_other _ _ _ (h.free k hk).2, h.len, fun k hk => by rw [size_setCell]; exact h.free k hk⟩
set_option maxRecDepth 100000 in
theorem one_any {R : Nat → Prop} {W : World} {c : Nat} {aA : Option Addr} {nA cA : Nat} {at' : List Int} {b : Bool} (h : CSt R W c aA nA cA at' b) (v : Int) :
    Calls Tryd.prog 129 #[.pointer (some ⟨c, 0, none⟩), .int .i64 v] W fun e W' => e = .returned (.int .i64 (oneV at' v)) ∧ CSt R W' c aA nA cA at' (b && fineV (oneV at') v) ∧ Wr W.heap.size c W W' ∧ W'.heap.size = W.heap.size := by
  have h0 := h.blk.cell (j := 0) rfl
  have h1 := h.blk.cell (j := 1) rfl
  have f1 := h.blk.frozen 1
  have hlt := h.blk.lt
  have hsm : nA ≤ 9223372036854775807 := by have := h.arr.small; rw [h.len] at this; unfold maxLen at this; omega
  have HB := Lib.hid h
  have HBAD : Hid (oneV at' v = -1 → (Ending.returned (.int .i64 (-1)) = Ending.returned (.int .i64 (oneV at' v))) ∧ CSt R (W.setCell ⟨c, 1, none⟩ (.bool false)) c aA nA cA at' (b && fineV (oneV at') v) ∧ Wr W.heap.size c W (W.setCell ⟨c, 1, none⟩ (.bool false)) ∧ (W.setCell ⟨c, 1, none⟩ (.bool false)).heap.size = W.heap.size) := fun e => by
    refine ⟨by rw [e], ?_, (Wr.refl _ _ _).set (.inl rfl) _, by rw [size_setCell]⟩
    unfold fineV
    rw [e]
    simpa using h.bad
  obtain ⟨g, hg⟩ : ∃ g, g = oneV at' v := ⟨_, rfl⟩
  have HG := Lib.hid hg
  by_cases hin : 0 ≤ v ∧ v < nA
  · obtain ⟨k, rfl⟩ : ∃ k : Nat, v = k := ⟨v.toNat, by omega⟩
    obtain ⟨x, hx⟩ : ∃ x, at'[k]? = some x := ⟨_, List.getElem?_eq_getElem (by rw [h.len]; omega)⟩
    obtain ⟨bk, off, cs, rfl, hb, ⟨rfl, -⟩, g1⟩ := h.arr.at hx
    have y0 : W.cell? ⟨bk, off + k, none⟩ = some (.int .i64 x) := by simpa [show Rep.sz Int = 1 from rfl] using g1 0 Nat.zero_lt_one
    have hbl := (h.free bk hb).1
    have hv := oneV_at hx
    have dk : decide ((k : Int) < 0) = false := decide_eq_false (by omega)
    by_cases hneg : x < 0
    · have HR := Lib.hid (HBAD.out (by rw [hv, if_pos hneg]))
      clear h hx hb g1 hv HBAD hg HG
      go_enter Tryd.func129, Tryd.ntmps129
      go_wp2_with fail
      go_ret
      exact HR.out
    · have HE : Hid (oneV at' k = x) := by show _ = _; rw [hv, if_neg hneg]
      clear h hx hb g1 hv HBAD hg HG
      go_enter Tryd.func129, Tryd.ntmps129
      go_wp2_with fail
      go_ret
      refine ⟨by rw [HE.out]; rfl, ?_, Wr.refl _ _ _, rfl⟩
      have : (b && fineV (oneV at') k) = b := by
        unfold fineV
        rw [HE.out, decide_eq_true (by omega)]
        simp
      rw [this]
      exact HB.out
  · have HR := Lib.hid (HBAD.out (oneV_out (by rw [h.len]; omega)))
    rcases (show v < 0 ∨ (¬ v < 0 ∧ (nA : Int) ≤ v) by omega) with d | ⟨d, d2⟩
    all_goals
      clear h HBAD hg HG hin
      go_enter Tryd.func129, Tryd.ntmps129
      go_wp2_with fail
      go_ret
      exact HR.out
end Go.Proofs.YtekofpigmggbbaaDoor.cut

/- An exit, its values turned one by one: how it lies while it is made. -/
namespace Go.Proofs.YtekofpigmggbbaaDoor.cut
open Go.Bk Go.RowKit Go.Proofs.YtekofpigmggbbaaDoor.ir

/-- What the state of the one that turns values keeps. -/
def Keeps (N : Nat) (Q : Bool → World → Prop) : Prop := ∀ (b : Bool) (W W' : World), Q b W → (∀ k, k < N → W'.heap[k]? = W.heap[k]?) → W.heap.size ≤ W'.heap.size → Q b W'
def zeroXL : List Value := [.int .i64 0, .int .i64 0, .slice none 0 0, .slice none 0 0]
/-- How long the lists of an exit may be here. -/
structure FewX (x : Api.TExit) : Prop where
  sets : x.Sets.length ≤ 1000000
  makes : x.Makes.length ≤ 1000000
  vals : ∀ m ∈ x.Makes, m.Vals.length ≤ 1000000
structure GoodX (g : Int → Int) (x : Api.TExit) : Prop where
  sets : ∀ s ∈ x.Sets, I64 (g s.Val)
  makes : ∀ m ∈ x.Makes, I64 (g m.Cell) ∧ ∀ v ∈ m.Vals, I64 (g v)
section
variable (Q : Bool → World → Prop) (g : Int → Int) (b : Bool) (w : World) (wb : Nat) (X : Array Value) (x : Api.TExit)
def setsB (k : Nat) : Bool := (x.Sets.take k).all fun s => fineV g s.Val
/-- k sets are made. -/
structure SetsAt (W : World) (vs : Value) (k : Nat) : Prop where
  q : Q (b && setsB g x k) W
  box : Row W w.heap.size 32 X
  res : Blk W (w.heap.size + 1) 32 zeroXL
  out : Blk W (w.heap.size + 2) 32 [.int .i64 x.At, .int .i64 x.Steps, vs, .slice none 0 0]
  own : Own (fun _ => False) W (w.heap.size + 3) 98 vs ((x.Sets.take k).map (cutSet g))
  wr : Wr w.heap.size wb w W
  size : w.heap.size + 3 ≤ W.heap.size
/-- What is apart from a row that is grown. -/
def SB (n1 : Nat) (W : World) (v : Value) (b : Nat) : Prop := n1 ≤ b ∧ b < W.heap.size ∧ v.ownBlock ≠ some b
def makesB (k : Nat) : Bool := (x.Makes.take k).all (fineMake g)
/-- All sets are made, and k makes. -/
structure MakesAt (n1 : Nat) (vS : Value) (W : World) (vm : Value) (k : Nat) : Prop where
  q : Q (b && (setsB g x x.Sets.length && makesB g x k)) W
  box : Row W w.heap.size 32 X
  res : Blk W (w.heap.size + 1) 32 zeroXL
  out : Blk W (w.heap.size + 2) 32 [.int .i64 x.At, .int .i64 x.Steps, vS, vm]
  sets : Rep.cells (fun b => w.heap.size + 3 ≤ b ∧ b < n1) W [vS] (x.Sets.map (cutSet g))
  own : Own (SB n1 W vm) W n1 100 vm ((x.Makes.take k).map (cutMake g))
  wr : Wr w.heap.size wb w W
  size : n1 ≤ W.heap.size
  far : w.heap.size + 3 ≤ n1
def valsB (m : Api.TMake) (j : Nat) : Bool := fineV g m.Cell && (m.Vals.take j).all (fineV g)
/-- Within the round that begins at wr: j values are made. -/
structure ValsAt (w0 : World) (bk : Bool) (m : Api.TMake) (W : World) (vv : Value) (j : Nat) : Prop where
  q : Q (bk && valsB g m j) W
  new : Blk W (w0.heap.size + 1) 100 [.int .i64 (g m.Cell), .int .i64 m.Kind, .int .i64 m.Num, vv]
  own : Own (fun _ => False) W (w0.heap.size + 2) 3 vv ((m.Vals.take j).map g)
  wr : Wr w0.heap.size wb w0 W
  size : w0.heap.size + 2 ≤ W.heap.size
end
section
variable {Q : Bool → World → Prop} {g : Int → Int} {b : Bool} {w : World} {wb : Nat} {X : Array Value} {x : Api.TExit}
theorem setsB_succ {k : Nat} {s : Api.TSet} (h : x.Sets[k]? = some s) : setsB g x (k + 1) = (setsB g x k && fineV g s.Val) := by
  unfold setsB
  rw [List.take_add_one, h, List.all_append]
  simp
theorem makesB_succ {k : Nat} {m : Api.TMake} (h : x.Makes[k]? = some m) : makesB g x (k + 1) = (makesB g x k && fineMake g m) := by
  unfold makesB
  rw [List.take_add_one, h, List.all_append]
  simp
theorem valsB_succ {m : Api.TMake} {j : Nat} {v : Int} (h : m.Vals[j]? = some v) : valsB g m (j + 1) = (valsB g m j && fineV g v) := by
  unfold valsB
  rw [List.take_add_one, h, List.all_append]
  simp [Bool.and_assoc]
theorem map_take_succ {α β : Type} {f : α → β} {l : List α} {k : Nat} {a : α} (h : l[k]? = some a) : (l.take (k + 1)).map f = (l.take k).map f ++ [f a] := by
  rw [List.take_add_one, h]
  simp
/-- The set's cells. -/
theorem set_cells {s : Api.TSet} (h1 : I64 s.Reg) (h2 : I64 (g s.Val)) (S : Nat → Prop) (W : World) : Rep.cells S W [.int .i64 s.Reg, .int .i64 (g s.Val)] (cutSet g s) := ⟨_, _, ⟨rfl, h1⟩, ⟨rfl, h2⟩, rfl⟩
/-- Behind the call for a set: what is still so. -/
theorem SetsAt.called {W w5 : World} {vs : Value} {k : Nat} {o : Obj} (h : SetsAt Q g b w wb X x W vs k) (hwb : wb ≤ w.heap.size) (hne : wb ≠ w.heap.size) (hw : Wr (W.heap.size + 1) wb (W.alloc o) w5) :
    Own (fun _ => False) w5 (w.heap.size + 3) 98 vs ((x.Sets.take k).map (cutSet g)) ∧ Blk w5 (w.heap.size + 2) 32 [.int .i64 x.At, .int .i64 x.Steps, vs, .slice none 0 0] := by
  have hz := h.size
  refine ⟨hw.own (h.own.alloc o fun _ h => h.elim) (fun b hb => ?_) (fun _ h => h.elim), hw.blk (h.out.keep (Below.heap_alloc _ _ _ h.out.lt)) (by omega) (by omega)⟩
  have := h.own.lt b hb
  omega
/-- A set more. -/
theorem SetsAt.step {W w5 w6 : World} {vs v6 : Value} {k : Nat} {o : Obj} {s : Api.TSet} (h : SetsAt Q g b w wb X x W vs k) (hk : Keeps w.heap.size Q) (hwb : wb < w.heap.size) (hs : x.Sets[k]? = some s) (hw : Wr (W.heap.size + 1) wb (W.alloc o) w5)
    (hq : Q ((b && setsB g x k) && fineV g s.Val) w5) (ho : Own (fun _ => False) w6 (w.heap.size + 3) 98 v6 ((x.Sets.take k).map (cutSet g) ++ [cutSet g s])) (hg : w5.grownBy w6 vs.ownBlock) :
    SetsAt Q g b w wb X x (w6.setCell ⟨w.heap.size + 2, 2, none⟩ v6) v6 (k + 1) ∧ Blk w6 (w.heap.size + 2) 32 [.int .i64 x.At, .int .i64 x.Steps, vs, .slice none 0 0] := by
  have hz := h.size
  obtain ⟨h1, h2⟩ := h.called (o := o) (by omega) (by omega) hw
  have hr : ∀ k, vs.ownBlock = some k → w.heap.size + 3 ≤ k := fun k hk => (h.own.lt k hk).1
  have hsz5 : W.heap.size + 1 ≤ w5.heap.size := by have := hw.size; simpa using this
  have hkeep : ∀ c, c < w.heap.size + 3 → c ≠ w.heap.size + 2 → (w6.setCell ⟨w.heap.size + 2, 2, none⟩ v6).heap[c]? = w5.heap[c]? := fun c hc hn => by
    rw [blk_setCell_other _ _ _ (show c ≠ w.heap.size + 2 from hn)]
    exact hg.block c (by omega) (fun e => by have := hr c e.symm; omega)
  have hkeep5 : ∀ c, c < w.heap.size + 3 → c ≠ wb → w5.heap[c]? = W.heap[c]? := fun c hc hn => (hw.block c (by omega) hn).trans (Below.heap_alloc _ _ _ (by omega))
  have h6 := h2.keep (w' := w6) (hg.block _ h2.lt (fun e => by have := hr _ e.symm; omega))
  refine ⟨⟨?_, ?_, ?_, ?_, ?_, ?_, ?_⟩, h6⟩
  · rw [setsB_succ hs, ← Bool.and_assoc]
    exact hk _ _ _ hq (fun k hk' => hkeep k (by omega) (by omega)) (by rw [size_setCell]; exact hg.size)
  · exact h.box.keep ((hkeep _ (by omega) (by omega)).trans (hkeep5 _ (by omega) (by omega)))
  · exact h.res.keep ((hkeep _ (by omega) (by omega)).trans (hkeep5 _ (by omega) (by omega)))
  · exact h6.set 2 _
  · rw [map_take_succ hs]
    refine own_same' ho (fun c hc => blk_setCell_other _ _ _ ?_) (fun _ h => h.elim)
    have := (ho.lt c hc).1
    show c ≠ w.heap.size + 2
    omega
  · exact (((h.wr.alloc (by omega) o).trans (hw.mono (by omega))).grown hg (by omega) (fun k hk' => by have := hr k hk'; omega)).set (.inr (by omega)) _
  · rw [size_setCell]; have := hg.size; omega
theorem SB.mono {n1 : Nat} {W W' : World} {v : Value} (h : W.heap.size ≤ W'.heap.size) : ∀ b, SB n1 W v b → SB n1 W' v b := fun b hb => ⟨hb.1, Nat.lt_of_lt_of_le hb.2.1 h, hb.2.2⟩
/-- All sets are made. -/
theorem SetsAt.makes {W : World} {vs : Value} (h : SetsAt Q g b w wb X x W vs x.Sets.length) : MakesAt Q g b w wb X x W.heap.size vs W (.slice none 0 0) 0 := by
  refine ⟨by simpa [makesB] using h.q, h.box, h.res, h.out, ?_, Own.nil _ _ _ _, h.wr, Nat.le_refl _, h.size⟩
  obtain ⟨a, cap, rfl, h1, h2, h3⟩ := h.own.arr
  rw [List.take_length] at h1 h3
  refine ⟨a, cap, ?_, h1, h2, h3.mono fun b hb => hb.elim False.elim id⟩
  rw [List.take_length]
/-- The first value of a make. -/
theorem MakesAt.vals {W w5 : World} {k : Nat} {m : Api.TMake} (hw : Wr W.heap.size wb W w5) (hs : W.heap.size + 2 ≤ w5.heap.size) (hq : Q ((b && (setsB g x x.Sets.length && makesB g x k)) && fineV g m.Cell) w5)
    (hb : Blk w5 (W.heap.size + 1) 100 [.int .i64 (g m.Cell), .int .i64 m.Kind, .int .i64 m.Num, .slice none 0 0]) : ValsAt Q g wb W (b && (setsB g x x.Sets.length && makesB g x k)) m w5 (.slice none 0 0) 0 :=
  ⟨by simpa [valsB] using hq, hb, Own.nil _ _ _ _, hw, hs⟩
theorem ValsAt.called {wr W w5 : World} {bk : Bool} {m : Api.TMake} {vv : Value} {j : Nat} (h : ValsAt Q g wb wr bk m W vv j) (hwb : wb < wr.heap.size) (hw : Wr W.heap.size wb W w5) :
    Own (fun _ => False) w5 (wr.heap.size + 2) 3 vv ((m.Vals.take j).map g) ∧ Blk w5 (wr.heap.size + 1) 100 [.int .i64 (g m.Cell), .int .i64 m.Kind, .int .i64 m.Num, vv] := by
  have hz := h.size
  refine ⟨hw.own h.own (fun b hb => ?_) (fun _ h => h.elim), hw.blk h.new (by omega) (by omega)⟩
  have := h.own.lt b hb
  omega
theorem ValsAt.step {wr W w5 w6 : World} {bk : Bool} {m : Api.TMake} {vv v6 : Value} {j : Nat} {v : Int} (h : ValsAt Q g wb wr bk m W vv j) {N : Nat} (hk : Keeps N Q) (hN : N ≤ wr.heap.size) (hwb : wb < wr.heap.size) (hv : m.Vals[j]? = some v) (hw : Wr W.heap.size wb W w5)
    (hq : Q ((bk && valsB g m j) && fineV g v) w5) (ho : Own (fun _ => False) w6 (wr.heap.size + 2) 3 v6 ((m.Vals.take j).map g ++ [g v])) (hg : w5.grownBy w6 vv.ownBlock) :
    ValsAt Q g wb wr bk m (w6.setCell ⟨wr.heap.size + 1, 3, none⟩ v6) v6 (j + 1) ∧ Blk w6 (wr.heap.size + 1) 100 [.int .i64 (g m.Cell), .int .i64 m.Kind, .int .i64 m.Num, vv] := by
  have hz := h.size
  obtain ⟨h1, h2⟩ := h.called hwb hw
  have hr : ∀ k, vv.ownBlock = some k → wr.heap.size + 2 ≤ k := fun k hk => (h.own.lt k hk).1
  have hsz5 := hw.size
  have h6 := h2.keep (w' := w6) (hg.block _ h2.lt (fun e => by have := hr _ e.symm; omega))
  refine ⟨⟨?_, h6.set 3 _, ?_, ?_, ?_⟩, h6⟩
  · rw [valsB_succ hv, ← Bool.and_assoc]
    refine hk _ _ _ hq (fun c hc => ?_) (by rw [size_setCell]; exact hg.size)
    rw [blk_setCell_other _ _ _ (show c ≠ wr.heap.size + 1 by omega)]
    exact hg.block c (by omega) (fun e => by have := hr c e.symm; omega)
  · rw [map_take_succ hv]
    refine own_same' ho (fun c hc => blk_setCell_other _ _ _ ?_) (fun _ h => h.elim)
    have := (ho.lt c hc).1
    show c ≠ wr.heap.size + 1
    omega
  · exact ((h.wr.trans (hw.mono (by omega))).grown hg (by omega) (fun k hk' => by have := hr k hk'; omega)).set (.inr (by omega)) _
  · rw [size_setCell]; have := hg.size; omega
/-- A make whole: what is handed to append. -/
theorem MakesAt.ready {wr W : World} {n1 : Nat} {vS vm vv : Value} {k : Nat} {m : Api.TMake} (h : MakesAt Q g b w wb X x n1 vS wr vm k) (hwb : wb ≤ w.heap.size) (hm : I64 (g m.Cell)) (hm2 : I64 m.Kind) (hm3 : I64 m.Num)
    (hv : ValsAt Q g wb wr (b && (setsB g x x.Sets.length && makesB g x k)) m W vv m.Vals.length) :
    Own (SB n1 W vm) W n1 100 vm ((x.Makes.take k).map (cutMake g)) ∧ Rep.cells (SB n1 W vm) W [.int .i64 (g m.Cell), .int .i64 m.Kind, .int .i64 m.Num, vv] (cutMake g m) ∧ Blk W (w.heap.size + 2) 32 [.int .i64 x.At, .int .i64 x.Steps, vS, vm] := by
  have hz := h.size; have hf := h.far; have hz2 := hv.size
  have hb : ∀ c, vm.ownBlock = some c → n1 ≤ c ∧ c < wr.heap.size := fun c hc => h.own.lt c hc
  refine ⟨?_, ?_, hv.wr.blk h.out (by omega) (by omega)⟩
  · exact (hv.wr.own h.own (fun c hc => by have := hb c hc; omega) (fun c hc => by have := hc.1; have := hc.2.1; omega)).mono (SB.mono (by omega))
  · obtain ⟨a, cap, rfl, h1, h2, h3⟩ := hv.own.arr
    rw [List.take_length] at h1 h3
    refine ⟨_, _, ⟨rfl, hm⟩, ⟨_, _, ⟨rfl, hm2⟩, ⟨_, _, ⟨rfl, hm3⟩, ⟨a, cap, rfl, h1, h2, h3.mono fun c hc => ?_⟩, rfl⟩, rfl⟩, ?_⟩
    · rcases hc with h | ⟨q1, q2⟩
      · exact h.elim
      · exact ⟨by omega, q2, fun e => by have := hb c e; omega⟩
    · rw [List.take_length]
      rfl
/-- A make more. -/
theorem MakesAt.step {wr W w6 : World} {n1 : Nat} {vS vm vv v6 : Value} {k : Nat} {m : Api.TMake} (h : MakesAt Q g b w wb X x n1 vS wr vm k) (hk : Keeps w.heap.size Q) (hwb : wb < w.heap.size) (hm : x.Makes[k]? = some m)
    (hv : ValsAt Q g wb wr (b && (setsB g x x.Sets.length && makesB g x k)) m W vv m.Vals.length)
    (ho : Own (SB n1 W vm) w6 n1 100 v6 ((x.Makes.take k).map (cutMake g) ++ [cutMake g m])) (hg : W.grownBy w6 vm.ownBlock) (hst : Stay W vm v6) :
    MakesAt Q g b w wb X x n1 vS (w6.setCell ⟨w.heap.size + 2, 3, none⟩ v6) v6 (k + 1) ∧ Blk w6 (w.heap.size + 2) 32 [.int .i64 x.At, .int .i64 x.Steps, vS, vm] := by
  have hz := h.size; have hf := h.far; have hz2 := hv.size
  have hr : ∀ k, vm.ownBlock = some k → n1 ≤ k := fun k hk => (h.own.lt k hk).1
  have hsz6 := hg.size
  have hkeep : ∀ c, c < n1 → c ≠ w.heap.size + 2 → (w6.setCell ⟨w.heap.size + 2, 3, none⟩ v6).heap[c]? = W.heap[c]? := fun c hc hn => by
    rw [blk_setCell_other _ _ _ (show c ≠ w.heap.size + 2 from hn)]
    exact hg.block c (by omega) (fun e => by have := hr c e.symm; omega)
  have hkeep5 : ∀ c, c < n1 → c ≠ wb → W.heap[c]? = wr.heap[c]? := fun c hc hn => hv.wr.block c (by omega) hn
  have hkk : ∀ c, c < n1 → c ≠ w.heap.size + 2 → c ≠ wb → (w6.setCell ⟨w.heap.size + 2, 3, none⟩ v6).heap[c]? = wr.heap[c]? := fun c h1 h2 h3 => (hkeep c h1 h2).trans (hkeep5 c h1 h3)
  have h6 : Blk w6 (w.heap.size + 2) 32 [.int .i64 x.At, .int .i64 x.Steps, vS, vm] := h.out.keep ((hg.block _ (by omega) (fun e => by have := hr _ e.symm; omega)).trans (hkeep5 _ (by omega) (by omega)))
  refine ⟨⟨?_, ?_, ?_, h6.set 3 _, ?_, ?_, ?_, ?_, hf⟩, h6⟩
  · rw [makesB_succ hm]
    have hq := hv.q
    have e : (b && (setsB g x x.Sets.length && makesB g x k) && valsB g m m.Vals.length) = (b && (setsB g x x.Sets.length && (makesB g x k && fineMake g m))) := by
      have : valsB g m m.Vals.length = fineMake g m := by unfold valsB fineMake; rw [List.take_length]
      rw [this, Bool.and_assoc, Bool.and_assoc]
    rw [e] at hq
    exact hk _ _ _ hq (fun c hc => hkeep c (by omega) (by omega)) (by rw [size_setCell]; exact hsz6)
  · exact h.box.keep (hkk _ (by omega) (by omega) (by omega))
  · exact h.res.keep (hkk _ (by omega) (by omega) (by omega))
  · refine Rep.keep (fun c hc => hkk c hc.2 (by have := hc.1; omega) (by have := hc.1; omega)) h.sets
  · rw [map_take_succ hm]
    have ho2 : Own (SB n1 (w6.setCell ⟨w.heap.size + 2, 3, none⟩ v6) v6) w6 n1 100 v6 ((x.Makes.take k).map (cutMake g) ++ [cutMake g m]) := ho.mono fun c hc => ⟨hc.1, by rw [size_setCell]; have := hc.2.1; omega, fun e => by
      rcases hst c e with h1 | h1
      · exact hc.2.2 h1
      · have := hc.2.1; omega⟩
    refine own_same' ho2 (fun c hc => blk_setCell_other _ _ _ ?_) (fun c hc => blk_setCell_other _ _ _ ?_)
    · have := (ho.lt c hc).1
      show c ≠ w.heap.size + 2
      omega
    · have := hc.1
      show c ≠ w.heap.size + 2
      omega
  · exact ((h.wr.trans (hv.wr.mono (by omega))).grown hg (by omega) (fun k hk' => by have := hr k hk'; omega)).set (.inr (by omega)) _
  · rw [size_setCell]; omega
/-- The exit whole. -/
theorem MakesAt.done {W : World} {n1 : Nat} {vS vm : Value} (h : MakesAt Q g b w wb X x n1 vS W vm x.Makes.length) (h1 : I64 x.At) (h2 : I64 x.Steps) :
    Q (b && fineExit g x) W ∧ Rep.cells (fun k => w.heap.size + 3 ≤ k ∧ k < W.heap.size) W [.int .i64 x.At, .int .i64 x.Steps, vS, vm] (cutExit g x) := by
  have hz := h.size; have hf := h.far
  refine ⟨?_, ?_⟩
  · have hq := h.q
    have e : (setsB g x x.Sets.length && makesB g x x.Makes.length) = fineExit g x := by unfold setsB makesB fineExit; rw [List.take_length, List.take_length]
    rw [e] at hq
    exact hq
  · obtain ⟨a, cap, rfl, q1, q2, q3⟩ := h.own.arr
    rw [List.take_length] at q1 q3
    refine ⟨_, _, ⟨rfl, h1⟩, ⟨_, _, ⟨rfl, h2⟩, ⟨_, _, Rep.mono (fun c hc => ⟨by have := hc.1; omega, by have := hc.2; omega⟩) h.sets, ⟨a, cap, rfl, q1, q2, q3.mono fun c hc => ?_⟩, rfl⟩, rfl⟩, ?_⟩
    · rcases hc with hc | hc
      · exact ⟨by have := hc.1; omega, hc.2.1⟩
      · exact ⟨by have := hc.1; omega, hc.2⟩
    · rw [List.take_length]
      rfl
end
end Go.Proofs.YtekofpigmggbbaaDoor.cut

/- The document's Cut: the place of a value; walked. -/
namespace Go.Proofs.YtekofpigmggbbaaDoor.cut
open Go.Bk Go.RowKit Go.Proofs.YtekofpigmggbbaaDoor.ir

/-- What the document's place reads and writes: the numbers, and whether all was fine. -/
structure PSt (R : Nat → Prop) (W : World) (gt gf : Nat) (aT : Option Addr) (nT cT : Nat) (ts : List Int) (b : Bool) : Prop where
  box : W.cell? ⟨gt, 0, none⟩ = some (.slice aT nT cT)
  fine : Blk W gf 4 [.bool b]
  arr : Arr R W aT ts
  len : ts.length = nT
  ne : gt ≠ gf
  lt : gt < W.heap.size
  free : ∀ k, R k → k < W.heap.size ∧ k ≠ gf
theorem PSt.keep {R : Nat → Prop} {W W' : World} {gt gf : Nat} {aT : Option Addr} {nT cT : Nat} {ts : List Int} {b : Bool} (h : PSt R W gt gf aT nT cT ts b) (hs : W.heap.size ≤ W'.heap.size) (hk : ∀ k, k = gt ∨ k = gf ∨ R k → W'.heap[k]? = W.heap[k]?) : PSt R W' gt gf aT nT cT ts b :=
  ⟨(World.cell?_of_block (w := W) (hk gt (.inl rfl))).trans h.box, h.fine.keep (hk gf (.inr (.inl rfl))), h.arr.keep fun k hk' => hk k (.inr (.inr hk')), h.len, h.ne, Nat.lt_of_lt_of_le h.lt hs, fun k hk' => ⟨Nat.lt_of_lt_of_le (h.free k hk').1 hs, (h.free k hk').2⟩⟩
theorem PSt.bad {R : Nat → Prop} {W : World} {gt gf : Nat} {aT : Option Addr} {nT cT : Nat} {ts : List Int} {b : Bool} (h : PSt R W gt gf aT nT cT ts b) : PSt R (W.setCell ⟨gf, 0, none⟩ (.bool false)) gt gf aT nT cT ts false :=
  ⟨(World.cell?_of_block (w := W) (blk_setCell_other _ _ _ h.ne)).trans h.box, h.fine.set 0 _, h.arr.keep fun k hk => blk_setCell_other _ _ _ (h.free k hk).2, h.len, h.ne, by rw [size_setCell]; exact h.lt, fun k hk => by rw [size_setCell]; exact h.free k hk⟩
set_option maxRecDepth 100000 in
set_option maxHeartbeats 1000000 in
theorem place_any {R : Nat → Prop} {W : World} {gt gf : Nat} {aT : Option Addr} {nT cT : Nat} {ts : List Int} {b : Bool} (h : PSt R W gt gf aT nT cT ts b) (hok : toOk ts ts.length = true) (v : Int) :
    Calls Tryd.prog 88 #[.int .i64 v, .pointer (some ⟨gt, 0, none⟩), .pointer (some ⟨gf, 0, none⟩)] W fun e W' => e = .returned (.int .i64 (oneV (atOf ts ts.length) v)) ∧ PSt R W' gt gf aT nT cT ts (b && fineV (oneV (atOf ts ts.length)) v) ∧ Wr W.heap.size gf W W' ∧ W'.heap.size = W.heap.size := by
  have p0 := h.box
  have lt := h.lt
  have f0 := h.fine.frozen 0
  have e0 := h.fine.cell (j := 0) rfl
  have lf := h.fine.lt
  have hsm : nT ≤ 9223372036854775807 := by have := h.arr.small; rw [h.len] at this; unfold maxLen at this; omega
  have HB := Lib.hid h
  have HLN := Lib.hid h.len
  have HOK := Lib.hid hok
  clear h hok
  go_enter Tryd.func88, Tryd.ntmps88
  go_wp2_with fail
  go_loopw [0] (fun i wr => ∃ v' : Int, i = .int .i64 v' ∧ oneV (atOf ts ts.length) v' = oneV (atOf ts ts.length) v ∧ wr = W) (fun i _ => (intOf i + 1).toNat)
  case atStart => exact ⟨v, rfl, rfl, rfl⟩
  case round =>
    obtain ⟨v', rfl, hv, hwr⟩ := hrel
    subst hwr
    have HV := Lib.hid hv
    clear hv
    by_cases hin : 0 ≤ v' ∧ v' < nT
    · obtain ⟨k, rfl⟩ : ∃ k : Nat, v' = k := ⟨v'.toNat, by omega⟩
      obtain ⟨n, hn⟩ : ∃ n, ts[k]? = some n := ⟨_, List.getElem?_eq_getElem (by rw [HLN.out]; omega)⟩
      obtain ⟨n', hn', h1, h2⟩ := toOk_at HOK.out (show k < ts.length by rw [HLN.out]; omega)
      obtain rfl : n' = n := Option.some.inj (hn'.symm.trans hn)
      obtain ⟨bk, off, cs, rfl, hb, ⟨rfl, -⟩, g1⟩ := HB.out.arr.at hn
      have y0 : wr.cell? ⟨bk, off + k, none⟩ = some (.int .i64 n') := by simpa [show Rep.sz Int = 1 from rfl] using g1 0 Nat.zero_lt_one
      have hbl := (HB.out.free bk hb).1
      have dk : decide ((k : Int) < 0) = false := decide_eq_false (by omega)
      have hkn : (k : Int) < nT := hin.2
      have HN := Lib.hid hn
      clear hn hn' hb g1
      by_cases he : n' = k
      · subst he
        have HE : Hid (oneV (atOf ts ts.length) v = keptN ts k) := by show _ = _; rw [← HV.out]; exact oneV_kept (by rw [HLN.out]; omega) HN.out
        have dn : ((k : Int) != (k : Int)) = false := by simp
        clear hin h1 h2
        go_wp2_with fail
        clear y0 dn
        go_loopw [5, 36] (fun s5 s36 wz => ∃ j : Nat, j ≤ k ∧ s36 = .int .i64 j ∧ s5 = .int .i64 (keptN ts j) ∧ wz = wr) (fun _ s36 _ => k - (intOf s36).toNat)
        case atStart => exact ⟨0, Nat.zero_le _, rfl, rfl, rfl⟩
        case round =>
          obtain ⟨j, hj, rfl, rfl, rfl⟩ := hrel
          by_cases hlt : j < k
          · obtain ⟨n, hn⟩ : ∃ n, ts[j]? = some n := ⟨_, List.getElem?_eq_getElem (by rw [HLN.out]; omega)⟩
            obtain ⟨bk2, off2, cs, he2, hb, ⟨rfl, -⟩, g1⟩ := HB.out.arr.at hn
            injection he2 with he2
            injection he2 with e1 e2
            subst e1 e2
            have y0 : wr.cell? ⟨bk, off + j, none⟩ = some (.int .i64 n) := by simpa [show Rep.sz Int = 1 from rfl] using g1 0 Nat.zero_lt_one
            have hjn : (j : Int) < nT := by omega
            have HNJ := Lib.hid hn
            have hkl := keptN_le ts j
            clear hn hb g1
            by_cases hej : n = j
            · subst hej
              have dn : ((j : Int) == (j : Int)) = true := by simp
              have HS : Hid (keptN ts (j + 1) = keptN ts j + 1) := by show keptN ts j + _ = _; rw [if_pos HNJ.out]
              go_wp2_with fail
              go_roundw
              case rel => exact ⟨j + 1, by omega, by go_num, by rw [HS.out]; go_num, trivial⟩
              case measure => simp [intOf]; omega
            · have dn : (n == (j : Int)) = false := by simpa using hej
              have HS : Hid (keptN ts (j + 1) = keptN ts j) := by show keptN ts j + _ = _; rw [if_neg (by rw [HNJ.out]; intro e; exact hej (Option.some.inj e))]; rfl
              go_wp2_with fail
              go_roundw
              case rel => exact ⟨j + 1, by omega, by go_num, by rw [HS.out], trivial⟩
              case measure => simp [intOf]; omega
          · obtain rfl : j = k := by omega
            go_wp2_with fail
            go_ret
            refine ⟨by rw [HE.out]; rfl, ?_, Wr.refl _ _ _, rfl⟩
            have : (b && fineV (oneV (atOf ts ts.length)) v) = b := by
              unfold fineV
              rw [HE.out, decide_eq_true (by omega)]
              simp
            rw [this]
            exact HB.out
      · have dn : (n' != (k : Int)) = true := by simpa using he
        have HS : Hid (oneV (atOf ts ts.length) n' = oneV (atOf ts ts.length) v) := by show _ = _; rw [← HV.out]; exact (oneV_step (by rw [HLN.out]; omega) HN.out he h1 h2).symm
        go_wp2_with fail
        go_roundw
        case rel => exact ⟨n', rfl, HS.out, trivial⟩
        case measure => simp [intOf]; omega
    · have HE : Hid (oneV (atOf ts ts.length) v = -1) := by show _ = _; rw [← HV.out]; exact oneV_out (by rw [atOf_len, HLN.out]; omega)
      rcases (show v' < 0 ∨ (¬ v' < 0 ∧ (nT : Int) ≤ v') by omega) with d | ⟨d, d2⟩
      all_goals
        clear hin
        go_wp2_with fail
        go_ret
        refine ⟨by rw [HE.out]; rfl, ?_, (Wr.refl _ _ _).set (.inl rfl) _, by rw [size_setCell]⟩
        have : (b && fineV (oneV (atOf ts ts.length)) v) = false := by
          unfold fineV
          rw [HE.out]
          simp
        rw [this]
        exact HB.out.bad
end Go.Proofs.YtekofpigmggbbaaDoor.cut
