/- General: a range over a function, at the wide fence: what the caller owes, in the words of these texts. No program is named here. -/
import Derived.RangeFuncNested
import Derived.RangeFuncBound
import Derived.RangeFuncCalls
import Derived.RangeFuncLeaves
import Derived.RangeFuncBox
import Derived.Shelf.Abstract
import Derived.Shelf.RegionOpen
import Derived.OwnWalkIn
import Derived.TacticsInMore
import Derived.LoopNIn
import Derived.LoopIn
import Derived.Test.YtekofpigmggbbaaDoorMem
set_option linter.unusedVariables false
set_option linter.unusedSimpArgs false
namespace Go.Bk
open Go.RowKit Go.Shelf

/-- These blocks are as they were. -/
def Keeps (T : Nat → Prop) (W W' : World) : Prop := ∀ b, T b → W'.heap[b]? = W.heap[b]?
theorem Keeps.refl (T : Nat → Prop) (W : World) : Keeps T W W := fun _ _ => rfl
theorem Keeps.trans {T : Nat → Prop} {A B C : World} (h : Keeps T A B) (k : Keeps T B C) : Keeps T A C := fun b hb => (k b hb).trans (h b hb)
theorem Keeps.below {T : Nat → Prop} {n : Nat} {W W' : World} (hT : ∀ b, T b → b < n) (h : Below n W W') : Keeps T W W' := fun b hb => h.block b (hT b hb)
theorem keeps_b {T : Nat → Prop} {w : World} (hT : ∀ b, T b → b < w.heap.size) (W : World) (l : Nat) (o o' : Obj) (hl : w.heap.size ≤ l) (_ : W.heap[l]? = some o) (_ : o.isCells = false) (_ : o.isWalk = false) : Keeps T W (W.putObj l o') :=
  fun b hb => World.putObj_heap_other (by have := hT b hb; omega)

/-- What has come when k rounds are over. -/
def upto {α : Type} (f : Nat → α) (k : Nat) : List α := (List.range k).map f
theorem upto_succ {α : Type} (f : Nat → α) (k : Nat) : upto f (k + 1) = upto f k ++ [f k] := by simp [upto, List.range_succ]
theorem upto_length {α : Type} (f : Nat → α) (k : Nat) : (upto f k).length = k := by simp [upto]
theorem mem_upto {α : Type} {f : Nat → α} {k : Nat} {x : α} : x ∈ upto f k ↔ ∃ j, j < k ∧ f j = x := by simp [upto]
/-- Round j's, backward: the index, and the element. -/
def backOf {α : Type} [Inhabited α] (l : List α) (j : Nat) : Nat × α := (l.length - 1 - j, l[l.length - 1 - j]?.getD default)
theorem backOf_at {α : Type} [Inhabited α] {l : List α} {n j m : Nat} {x : α} (hn : l.length = n) (hm : m + 1 + j = n) (hx : l[m]? = some x) : backOf l j = (m, x) := by
  unfold backOf
  rw [hn, show n - 1 - j = m by omega, hx]
  rfl

/-- All cells lie as they lay. -/
def CellsKept (W W' : World) : Prop := ∀ (k : Nat) (e : TypeId) (cs : List Value), Blk W k e cs → Blk W' k e cs
theorem cellsKept_of {W W' : World} {row : Option Nat} (hg : W.grownBy W' row) (hr : ∀ r, row = some r → ∃ o : Obj, W.heap[r]? = some o ∧ o.isCells = false) : CellsKept W W' := fun k e cs h =>
  Blk.keep (hg.block k h.lt (fun e' => by
    obtain ⟨o, ho, hc⟩ := hr k e'.symm
    rw [show W.heap[k]? = _ from h] at ho
    cases ho
    cases hc)) h
/-- From block B on nothing that was there has turned. -/
theorem keepsFrom_of {B : Nat} {W W' : World} (hs : W.heap.size ≤ W'.heap.size) (h : ∀ k, B ≤ k → k < W.heap.size → W'.heap[k]? = W.heap[k]?) : KeepsFrom B W W' :=
  ⟨hs, fun k o hB hk _ => (h k hB (Array.getElem?_eq_some_iff.1 hk).1).trans hk⟩
theorem keepsFrom_below {B : Nat} {W W' : World} (h : Below W.heap.size W W') : KeepsFrom B W W' := keepsFrom_of h.size (fun k _ hk => h.block k hk)

section
variable {P : Program} {N : Nat}
theorem wp_rangeK {α : Type} {g : Operand} {ps : Array Tmp} {assign body : Code} {Q : Exit → Act → World → Prop} {a : Act} {w : World} (h1 : 1 ≤ N) {gf : Nat} {lb : Array Value} (hg : a.eval g = .func (.func gf) #[] lb) (eg : ∀ args w, (callFunc gf args).run P w = .ok (.enter gf args) w)
    {encs : α → Array Value} {Kp : World → World → Prop} {S Sp : List α → Prop} {M : Nat} {w0 : World} (hseq : SeqStopsK Fence.wide (N - 1) P gf lb encs Kp S Sp M w0) (hKt : ∀ {A B C : World}, Kp A B → Kp B C → Kp A C) (hKb : ∀ (W : World) (l : Nat) (o o' : Obj), w.heap.size ≤ l → W.heap[l]? = some o → o.isCells = false → o.isWalk = false → Kp W (W.putObj l o')) (hb0 : Below w0.heap.size w0 w) (hps : ∀ x, (encs x).size = ps.size)
    (I : List α → World → Prop) (Ix : Code → List α → World → Prop) (hI : ∀ pre W W', I pre W → Below w.heap.size W W' → CellsKept W W' → I pre W') (hIx : ∀ c pre W W', Ix c pre W → Below w.heap.size W W' → CellsKept W W' → Ix c pre W')
    (hIs : ∀ pre W, I pre W → w.heap.size ≤ W.heap.size) (hIxs : ∀ c pre W, Ix c pre W → w.heap.size ≤ W.heap.size) (h0 : I [] w)
    (Ax : α → Act → World → Prop) (hAx : ∀ x a' W W', Ax x a' W → CellsKept W W' → Ax x a' W')
    (hassign : ∀ (l : Nat) (pre : List α) (x : α) (W : World) (K : Act → World → Prop), I pre W → (∀ a' W', KeepsFrom w.heap.size W W' → Kp W W' → I pre W' → Ax x a' W' → K a' W') →
      assign.wpIn (Fence.wide.inRound l) (N - 1 - 1) P (Exit.then K (fun _ _ _ => False)) { tmps := (ps.zip (encs x)).foldl (fun t (p, v) => t.setIfInBounds p v) a.tmps, defers := [] } W)
    (hbody : ∀ (l : Nat) (pre : List α) (x : α) (a' : Act) (W : World), w.heap.size ≤ l → I pre W → Ax x a' W → pre.length < M → body.wpIn (Fence.wide.inRound l) (N - 1 - 1) P (ownPostG w.heap.size Kp I Ix (pre ++ [x]) W) a' W)
    (hdone : ∀ (D : Nat) (xs : List α) (W : World), w.heap.size ≤ D → S xs → I xs W → W.heap[D]? = some (.deferred (some [])) → Q .normal { a with defers := { target := .collected D, args := #[] } :: a.defers } W)
    (hstop : ∀ (D : Nat) (c : Code) (pre : List α) (W : World), w.heap.size ≤ D → Sp pre → Ix c pre W → W.heap[D]? = some (.deferred (some [])) → c.wpIn Fence.wide N P Q { a with defers := { target := .collected D, args := #[] } :: a.defers } W) :
    (Code.rangeFunc g ps assign body).wpIn Fence.wide N P Q a w :=
  wpIn_rangeFunc_ownH rfl h1 hg trivial eg hseq hKt hKb hb0 hps I Ix
    (fun s W W' row hs hgr hr => hI s W W' hs ((Below.refl _ W).grown hgr (hIs s W hs) (fun r e => (hr r e).1)) (cellsKept_of hgr (fun r e => (hr r e).2)))
    (fun c s W W' row hs hgr hr => hIx c s W W' hs ((Below.refl _ W).grown hgr (hIxs c s W hs) (fun r e => (hr r e).1)) (cellsKept_of hgr (fun r e => (hr r e).2)))
    h0 Ax (fun x a' _ W W' row hs hgr hr => hAx x a' W W' hs (cellsKept_of hgr (fun r e => (hr r e).2)))
    hassign (fun l pre x a' W hl _ hi ha hlt => hbody l pre x a' W hl hi ha hlt) hdone hstop

theorem wp_range {α : Type} {g : Operand} {ps : Array Tmp} {assign body : Code} {Q : Exit → Act → World → Prop} {a : Act} {w : World} (h1 : 1 ≤ N) {gf : Nat} {lb : Array Value} (hg : a.eval g = .func (.func gf) #[] lb) (eg : ∀ args w, (callFunc gf args).run P w = .ok (.enter gf args) w)
    {encs : α → Array Value} {T : Nat → Prop} {S Sp : List α → Prop} {M : Nat} {w0 : World} (hseq : SeqStopsK Fence.wide (N - 1) P gf lb encs (Keeps T) S Sp M w0) (hT : ∀ b, T b → b < w.heap.size) (hb0 : Below w0.heap.size w0 w) (hps : ∀ x, (encs x).size = ps.size)
    (I : List α → World → Prop) (Ix : Code → List α → World → Prop) (hI : ∀ pre W W', I pre W → Below w.heap.size W W' → CellsKept W W' → I pre W') (hIx : ∀ c pre W W', Ix c pre W → Below w.heap.size W W' → CellsKept W W' → Ix c pre W')
    (hIs : ∀ pre W, I pre W → w.heap.size ≤ W.heap.size) (hIxs : ∀ c pre W, Ix c pre W → w.heap.size ≤ W.heap.size) (h0 : I [] w)
    (Ax : α → Act → World → Prop) (hAx : ∀ x a' W W', Ax x a' W → CellsKept W W' → Ax x a' W')
    (hassign : ∀ (l : Nat) (pre : List α) (x : α) (W : World) (K : Act → World → Prop), I pre W → (∀ a' W', KeepsFrom w.heap.size W W' → Keeps T W W' → I pre W' → Ax x a' W' → K a' W') →
      assign.wpIn (Fence.wide.inRound l) (N - 1 - 1) P (Exit.then K (fun _ _ _ => False)) { tmps := (ps.zip (encs x)).foldl (fun t (p, v) => t.setIfInBounds p v) a.tmps, defers := [] } W)
    (hbody : ∀ (l : Nat) (pre : List α) (x : α) (a' : Act) (W : World), w.heap.size ≤ l → I pre W → Ax x a' W → pre.length < M → body.wpIn (Fence.wide.inRound l) (N - 1 - 1) P (ownPostG w.heap.size (Keeps T) I Ix (pre ++ [x]) W) a' W)
    (hdone : ∀ (D : Nat) (xs : List α) (W : World), w.heap.size ≤ D → S xs → I xs W → W.heap[D]? = some (.deferred (some [])) → Q .normal { a with defers := { target := .collected D, args := #[] } :: a.defers } W)
    (hstop : ∀ (D : Nat) (c : Code) (pre : List α) (W : World), w.heap.size ≤ D → Sp pre → Ix c pre W → W.heap[D]? = some (.deferred (some [])) → c.wpIn Fence.wide N P Q { a with defers := { target := .collected D, args := #[] } :: a.defers } W) :
    (Code.rangeFunc g ps assign body).wpIn Fence.wide N P Q a w :=
  wpIn_rangeFunc_ownH rfl h1 hg trivial eg hseq Keeps.trans (keeps_b hT) hb0 hps I Ix
    (fun s W W' row hs hgr hr => hI s W W' hs ((Below.refl _ W).grown hgr (hIs s W hs) (fun r e => (hr r e).1)) (cellsKept_of hgr (fun r e => (hr r e).2)))
    (fun c s W W' row hs hgr hr => hIx c s W W' hs ((Below.refl _ W).grown hgr (hIxs c s W hs) (fun r e => (hr r e).1)) (cellsKept_of hgr (fun r e => (hr r e).2)))
    h0 Ax (fun x a' _ W W' row hs hgr hr => hAx x a' W W' hs (cellsKept_of hgr (fun r e => (hr r e).2)))
    hassign (fun l pre x a' W hl _ hi ha hlt => hbody l pre x a' W hl hi ha hlt) hdone hstop

/-- A function that ends with one list of deferred calls taken. -/
theorem leaves_taken {fn : Func} {tmps : Array Value} {R : Ending → World → Prop} {D : Nat} {w : World} (hK : w.heap[D]? = some (.deferred (some []))) (h : LeavesInM Fence.wide N P fn tmps R [] .returning (w.putObj D (.deferred none))) :
    LeavesInM Fence.wide N P fn tmps R [{ target := .collected D, args := #[] }] .returning w := ⟨by simp, .inl ⟨_, _, rfl, run_takeDeferred hK, h⟩⟩
theorem below_taken {w W : World} {D : Nat} (h : Below w.heap.size w W) (hD : w.heap.size ≤ D) : Below w.heap.size w (W.putObj D (.deferred none)) :=
  h.grown (grownBy_putObj' W D _) h.size (fun r e => by cases e; exact hD)
theorem cells_taken {W : World} {D : Nat} (hK : W.heap[D]? = some (.deferred (some []))) : CellsKept W (W.putObj D (.deferred none)) := cellsKept_of (grownBy_putObj' W D _) (fun r e => by cases e; exact ⟨_, hK, rfl⟩)
end
end Go.Bk
