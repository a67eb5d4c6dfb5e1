/- A trace's head is written anew; what lies beside a row that grows. -/
import Derived.Test.YtekofpigmggbbaaDoorQPeelF
set_option linter.unusedVariables false
set_option linter.unusedSimpArgs false
namespace Go.Proofs.YtekofpigmggbbaaDoor.peel
open Go.Bk Go.RowKit Go.Proofs.YtekofpigmggbbaaDoor.ir Go.Proofs.YtekofpigmggbbaaDoor.chk Go.Proofs.YtekofpigmggbbaaDoor.cut Go.Proofs.YtekofpigmggbbaaDoor.pas

/-- Numbers of one's own beside a row that grows, and beside a cell that is written. -/
theorem own_beside {W W' : World} {N go j : Nat} {v vI vI' u : Value} {xs : List Int} (h : Own (fun _ => False) W N 3 v xs) (hg : W.grownBy W' vI.ownBlock) (hst : Stay W vI vI') (hap : Apart vI v) (hgo : go < N) :
    Own (fun _ => False) (W'.setCell ⟨go, j, none⟩ u) N 3 v xs ∧ Apart vI' v := by
  have hl := h.lt
  refine ⟨own_same' h (fun b hb => ?_) (fun _ h => h.elim), hap.moved hst (fun k hk => (hl k hk).2)⟩
  exact (blk_setCell_other _ _ _ (show b ≠ go by have := (hl b hb).1; omega)).trans (hg.block b (hl b hb).2 (fun e => hap b e.symm hb))
/-- Three parts of a trace's head are stored. -/
theorem head_cells {w wa wb wf : World} {g : Nat} {f a l0 l p q p' q' : Int} {vI vE u0 u1 u2 u3 v0 v1 v2 v3 : Value} {a2 a3 b2 b3 : Option Addr} {n2 c2 n3 c3 m2 d2 m3 d3 : Nat}
    (h : Row w g 34 #[.int .i64 f, .int .i64 a, .int .i64 l0, vI, vE, u0, u1, u2, u3, v0, v1, v2, v3])
    (ha : wa = w.setCell ⟨g, 2, none⟩ (.int .i64 l))
    (hb : wb = (((wa.setCell ⟨g, 5, none⟩ (.int .i64 p)).setCell ⟨g, 6, none⟩ (.int .i64 q)).setCell ⟨g, 7, none⟩ (.slice a2 n2 c2)).setCell ⟨g, 8, none⟩ (.slice a3 n3 c3))
    (hf : wf = (((wb.setCell ⟨g, 9, none⟩ (.int .i64 p')).setCell ⟨g, 10, none⟩ (.int .i64 q')).setCell ⟨g, 11, none⟩ (.slice b2 m2 d2)).setCell ⟨g, 12, none⟩ (.slice b3 m3 d3)) :
    (Instr.storeAt 3 (.pointer (some ⟨g, 2, none⟩)) (.int .i64 l)).run Tryd.prog w = .ok () wa ∧
    (Instr.storeAt 32 (.pointer (some ⟨g, 5, none⟩)) (.agg #[.int .i64 p, .int .i64 q, .slice a2 n2 c2, .slice a3 n3 c3])).run Tryd.prog wa = .ok () wb ∧
    (Instr.storeAt 32 (.pointer (some ⟨g, 9, none⟩)) (.agg #[.int .i64 p', .int .i64 q', .slice b2 m2 d2, .slice b3 m3 d3])).run Tryd.prog wb = .ok () wf ∧
    Row wf g 34 #[.int .i64 f, .int .i64 a, .int .i64 l, vI, vE, .int .i64 p, .int .i64 q, .slice a2 n2 c2, .slice a3 n3 c3, .int .i64 p', .int .i64 q', .slice b2 m2 d2, .slice b3 m3 d3] ∧
    (∀ k, k ≠ g → wf.heap[k]? = w.heap[k]?) ∧ (∀ N, N ≤ g → ∀ v : World, Below N v w → Below N v wf) := by
  have hbl := h.blk
  have e2 := hbl.cell (j := 2) rfl
  have hA : Blk wa g 34 [.int .i64 f, .int .i64 a, .int .i64 l, vI, vE, u0, u1, u2, u3, v0, v1, v2, v3] := by rw [ha]; exact hbl.set 2 _
  obtain ⟨s1, s2⟩ := two_stores hA rfl (p := p) (q := q) (p' := p') (q' := q') (a2 := a2) (n2 := n2) (c2 := c2) (a3 := a3) (n3 := n3) (c3 := c3) (b2 := b2) (m2 := m2) (d2 := d2) (b3 := b3) (m3 := m3) (d3 := d3) hb
  have hlt := h.lt
  have hfz := hbl.frozen 2
  refine ⟨by rw [ha]; simp [Instr.storeAt, go_sem, e2, hfz, hlt], s1, by rw [hf]; exact s2, ?_, fun k hk => ?_, fun N hN v hv => ?_⟩
  · have h5 := (((hA.set 5 (.int .i64 p)).set 6 (.int .i64 q)).set 7 (.slice a2 n2 c2)).set 8 (.slice a3 n3 c3)
    rw [← hb] at h5
    have h9 := (((h5.set 9 (.int .i64 p')).set 10 (.int .i64 q')).set 11 (.slice b2 m2 d2)).set 12 (.slice b3 m3 d3)
    rw [← hf] at h9
    exact h9
  · rw [hf, hb, ha]
    repeat rw [blk_setCell_other _ _ _ hk]
  · rw [hf, hb, ha]
    repeat refine below_set ?_ hN
    exact hv
/-- A trace whose head is new. -/
theorem PW.head {w W W' : World} {N0 N1 go : Nat} {u0 u1 u2 u3 v0 v1 v2 v3 x0 x1 x2 x3 y0 y1 y2 y3 vI vE : Value} {t : Api.TTrace} {l : Int} {x y : Api.TExit} (h : PW w N0 go u0 u1 u2 u3 v0 v1 v2 v3 W vI vE t) (hN : N0 ≤ N1)
    (hr : Row W' go 34 #[.int .i64 t.Fn, .int .i64 t.At, .int .i64 l, vI, vE, x0, x1, x2, x3, y0, y1, y2, y3]) (hk : ∀ k, k ≠ go → W'.heap[k]? = W.heap[k]?) (hb : Below w.heap.size w W') (hs : W.heap.size ≤ W'.heap.size)
    (hx : Rep.cells (SX N1 w.heap.size go W vI vE) W [x0, x1, x2, x3] x) (hy : Rep.cells (SX N1 w.heap.size go W vI vE) W [y0, y1, y2, y3] y) :
    PW w N1 go x0 x1 x2 x3 y0 y1 y2 y3 W' vI vE ⟨t.Fn, t.At, l, t.Ins, t.Exits, x, y⟩ := by
  have li := h.ins.lt; have le := h.exs.lt
  have hm0 : ∀ k, SX N0 w.heap.size go W vI vE k → SX N1 w.heap.size go W' vI vE k := fun k hk' => ⟨hk'.1, Nat.lt_of_lt_of_le hk'.2.1 hs, hk'.2.2.1, hk'.2.2.2.1, hk'.2.2.2.2.imp (fun e => by omega) id⟩
  have hm1 : ∀ k, SX N1 w.heap.size go W vI vE k → SX N1 w.heap.size go W' vI vE k := fun k hk' => ⟨hk'.1, Nat.lt_of_lt_of_le hk'.2.1 hs, hk'.2.2⟩
  refine ⟨hr, own_same' h.ins (fun b hb' => hk b fun e => h.ne.1 (by rw [← e]; exact hb')) (fun _ h => h.elim), (own_same' h.exs (fun b hb' => hk b fun e => h.ne.2 (by rw [← e]; exact hb')) (fun b hb' => hk b hb'.1)).mono hm0, h.apart, Rep.mono hm1 (Rep.keep (fun b hb' => hk b hb'.1) hx), Rep.mono hm1 (Rep.keep (fun b hb' => hk b hb'.1) hy), h.ne, hb, h.far⟩
end Go.Proofs.YtekofpigmggbbaaDoor.peel
