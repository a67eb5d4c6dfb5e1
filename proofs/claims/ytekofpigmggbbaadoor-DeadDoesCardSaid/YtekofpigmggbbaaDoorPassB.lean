/- What all of the document's passes have: the numbers, in a row of their own. -/
import Derived.Test.YtekofpigmggbbaaDoorPass
set_option linter.unusedVariables false
set_option linter.unusedSimpArgs false
namespace Go.Proofs.YtekofpigmggbbaaDoor.pas
open Go.Bk Go.RowKit Go.Proofs.YtekofpigmggbbaaDoor.ir Go.Proofs.YtekofpigmggbbaaDoor.chk Go.Proofs.YtekofpigmggbbaaDoor.cut

/-- Numbers in a row of the document's own, and what is known along with it. -/
structure RL (S : Nat → Prop) (w : World) (T : Array Value) (t : Api.TTrace) (v : Value) (l : List Int) (W : World) : Prop where
  rt : Row W w.heap.size 34 T
  res : Row W (w.heap.size + 1) 34 zeroTL.toArray
  nums : Own (fun _ => False) W (w.heap.size + 3) 3 v l
  ret : Rep.cells S W T.toList t
  dom : ∀ b, S b → b < w.heap.size
  below : Below w.heap.size w W
theorem RL.call {S : Nat → Prop} {w W W' : World} {T : Array Value} {t : Api.TTrace} {v : Value} {l : List Int} (h : RL S w T t v l W) (hb : Below W.heap.size W W') : RL S w T t v l W' :=
  ⟨h.rt.keep (hb.block _ h.rt.lt), h.res.keep (hb.block _ h.res.lt), h.nums.below hb (fun _ h => h.elim), Rep.keep (fun b hb' => hb.block b (Nat.lt_of_lt_of_le (h.dom b hb') h.below.size)) h.ret, h.dom, h.below.trans (hb.mono h.below.size)⟩
theorem RL.set {S : Nat → Prop} {w W : World} {T : Array Value} {t : Api.TTrace} {v : Value} {l : List Int} (h : RL S w T t v l W) {k : Nat} {x : Int} (hx : l[k]? = some x) : ∃ g cap, v = .slice (some ⟨g, 0, none⟩) l.length cap ∧ g < W.heap.size ∧ W.cell? ⟨g, k, none⟩ = some (.int .i64 x) ∧ (∀ j, W.frozen? ⟨g, j, none⟩ = false) ∧ (w.heap.size + 3 ≤ g) ∧ ∀ y, I64 y → RL S w T t v (l.set k y) (W.setCell ⟨g, k, none⟩ (.int .i64 y)) := by
  obtain ⟨g, cap, cs, h1, h2, h3, h4, ⟨rfl, hi⟩, h6, h7, h8⟩ := h.nums.at hx
  have h6' : W.cell? ⟨g, k, none⟩ = some (.int .i64 x) := by simpa [show Rep.sz Int = 1 from rfl] using h6 0 Nat.zero_lt_one
  refine ⟨g, cap, h1, h3, h6', h7, h2, fun y hy => ?_⟩
  have hk : ∀ j, j ≠ g → (W.setCell ⟨g, k, none⟩ (.int .i64 y)).heap[j]? = W.heap[j]? := fun j hj => blk_setCell_other _ _ _ hj
  refine ⟨h.rt.keep (hk _ (by omega)), h.res.keep (hk _ (by omega)), ?_, Rep.keep (fun b hb' => hk b (by have := h.dom b hb'; omega)) h.ret, h.dom, below_set h.below (by omega)⟩
  have := h8 0 (.int .i64 y) y Nat.zero_lt_one (fun _ h => h.elim) ⟨rfl, hy⟩
  simpa [show Rep.sz Int = 1 from rfl] using this
/-- Likewise, where the row's place is known. -/
theorem RL.at' {S : Nat → Prop} {w W : World} {T : Array Value} {t : Api.TTrace} {g n cap : Nat} {l : List Int} (h : RL S w T t (.slice (some ⟨g, 0, none⟩) n cap) l W) {k : Nat} {x : Int} (hx : l[k]? = some x) : g < W.heap.size ∧ W.cell? ⟨g, k, none⟩ = some (.int .i64 x) ∧ (∀ j, W.frozen? ⟨g, j, none⟩ = false) ∧ (w.heap.size + 3 ≤ g) ∧ ∀ y, I64 y → RL S w T t (.slice (some ⟨g, 0, none⟩) n cap) (l.set k y) (W.setCell ⟨g, k, none⟩ (.int .i64 y)) := by
  obtain ⟨g2, cap2, h1, h2⟩ := h.set hx
  injection h1 with e1 e2 e3
  injection e1 with e1
  injection e1 with e1 e4
  subst e1
  exact h2
theorem RL.arr {S : Nat → Prop} {w W : World} {T : Array Value} {t : Api.TTrace} {g n cap : Nat} {l : List Int} (h : RL S w T t (.slice (some ⟨g, 0, none⟩) n cap) l W) : Arr (fun b => b < W.heap.size) W (some ⟨g, 0, none⟩) l := by
  obtain ⟨a, c, hv, -, -, harr⟩ := h.nums.arr
  injection hv with e1 e2 e3
  rw [← e1] at harr
  exact harr.mono fun b hb => hb.elim False.elim (·.2)
end Go.Proofs.YtekofpigmggbbaaDoor.pas
