/- The document's Cut: how what it makes lies while it is made. -/
import Derived.Test.YtekofpigmggbbaaDoorQCutL
import Derived.Test.YtekofpigmggbbaaDoorQCutE
import Derived.Test.YtekofpigmggbbaaDoorQCutA
import Derived.Test.YtekofpigmggbbaaDoorQChkB
set_option linter.unusedVariables false
set_option linter.unusedSimpArgs false
namespace Go.Proofs.YtekofpigmggbbaaDoor.cut
open Go.Bk Go.RowKit Go.Proofs.YtekofpigmggbbaaDoor.ir

def placeV (n0 : Nat) : Value := .func (.func 88) #[] #[.pointer (some ⟨n0 + 1, 0, none⟩), .pointer (some ⟨n0 + 3, 0, none⟩)]
/-- What is there all the while: the trace, the numbers, the answer's place, whether all was fine, the places' function; the trace that is made, at block go. -/
structure RC (R : Nat → Prop) (T : Array Value) (t : Api.TTrace) (w : World) (ts : List Int) (aT : Option Addr) (nT cT n1 go : Nat) (x y : Api.TExit) (u0 u1 u2 u3 v0 v1 v2 v3 : Value) (W : World) (lv : Int) (vI vE : Value) (b : Bool) : Prop where
  box : Row W w.heap.size 34 T
  res : Row W (w.heap.size + 2) 34 zeroTL.toArray
  pst : PSt R W (w.heap.size + 1) (w.heap.size + 3) aT nT cT ts b
  clo : W.cell? ⟨w.heap.size + 4, 0, none⟩ = some (placeV w.heap.size)
  tu : Rep.cells (fun j => w.heap.size + 5 ≤ j ∧ j < n1 ∧ j ≠ go) W [u0, u1, u2, u3] x
  ba : Rep.cells (fun j => w.heap.size + 5 ≤ j ∧ j < n1 ∧ j ≠ go) W [v0, v1, v2, v3] y
  out : Blk W go 34 [.int .i64 t.Fn, .int .i64 t.At, .int .i64 lv, vI, vE, u0, u1, u2, u3, v0, v1, v2, v3]
  at' : w.heap.size + 5 ≤ go ∧ go < n1
  below : Below w.heap.size w W
  size : n1 ≤ W.heap.size
  low : ∀ k, R k → k < w.heap.size
section
variable {R : Nat → Prop} {T : Array Value} {t : Api.TTrace} {w W W' : World} {ts : List Int} {aT : Option Addr} {nT cT n1 go : Nat} {x y : Api.TExit} {u0 u1 u2 u3 v0 v1 v2 v3 : Value} {lv : Int} {vI vE : Value} {b b' : Bool}
theorem RC.keep (h : RC R T t w ts aT nT cT n1 go x y u0 u1 u2 u3 v0 v1 v2 v3 W lv vI vE b) (hs : W.heap.size ≤ W'.heap.size) (hk : ∀ k, k < n1 → k ≠ w.heap.size + 3 → W'.heap[k]? = W.heap[k]?) (hp : PSt R W' (w.heap.size + 1) (w.heap.size + 3) aT nT cT ts b') (hb : Below w.heap.size w W') :
    RC R T t w ts aT nT cT n1 go x y u0 u1 u2 u3 v0 v1 v2 v3 W' lv vI vE b' := by
  have ha := h.at'
  exact ⟨h.box.keep (hk _ (by omega) (by omega)), h.res.keep (hk _ (by omega) (by omega)), hp, (World.cell?_of_block (w := W) (hk (w.heap.size + 4) (by omega) (by omega))).trans h.clo, Rep.keep (fun k hk' => hk k hk'.2.1 (by have := hk'.1; omega)) h.tu, Rep.keep (fun k hk' => hk k hk'.2.1 (by have := hk'.1; omega)) h.ba, h.out.keep (hk _ (by omega) (by omega)), ha, hb, Nat.le_trans h.size hs, h.low⟩
theorem RC.same (h : RC R T t w ts aT nT cT n1 go x y u0 u1 u2 u3 v0 v1 v2 v3 W lv vI vE b) (hs : W.heap.size ≤ W'.heap.size) (hk : ∀ k, k < n1 → W'.heap[k]? = W.heap[k]?) (hb : Below w.heap.size w W') : RC R T t w ts aT nT cT n1 go x y u0 u1 u2 u3 v0 v1 v2 v3 W' lv vI vE b := by
  have ha := h.at'
  refine h.keep hs (fun k hk' _ => hk k hk') (h.pst.keep hs fun k hk' => hk k ?_) hb
  rcases hk' with rfl | rfl | hk'
  · omega
  · omega
  · have := h.low k hk'; omega
theorem RC.call (h : RC R T t w ts aT nT cT n1 go x y u0 u1 u2 u3 v0 v1 v2 v3 W lv vI vE b) (hb : Below W.heap.size W W') : RC R T t w ts aT nT cT n1 go x y u0 u1 u2 u3 v0 v1 v2 v3 W' lv vI vE b :=
  h.same hb.size (fun k hk => hb.block k (Nat.lt_of_lt_of_le hk h.size)) (h.below.trans (hb.mono h.below.size))
theorem RC.called (h : RC R T t w ts aT nT cT n1 go x y u0 u1 u2 u3 v0 v1 v2 v3 W lv vI vE b) (hw : Wr W.heap.size (w.heap.size + 3) W W') (hp : PSt R W' (w.heap.size + 1) (w.heap.size + 3) aT nT cT ts b') : RC R T t w ts aT nT cT n1 go x y u0 u1 u2 u3 v0 v1 v2 v3 W' lv vI vE b' := by
  have hz := h.size; have ha := h.at'
  exact h.keep hw.size (fun k hk hn => hw.block k (by omega) hn) hp (h.below.trans ((hw.mono h.below.size).below (by omega)))
/-- Above n1 all may turn. -/
theorem RC.grown {row : Option Nat} (h : RC R T t w ts aT nT cT n1 go x y u0 u1 u2 u3 v0 v1 v2 v3 W lv vI vE b) (hg : W.grownBy W' row) (hr : ∀ k, row = some k → n1 ≤ k) : RC R T t w ts aT nT cT n1 go x y u0 u1 u2 u3 v0 v1 v2 v3 W' lv vI vE b := by
  have hz := h.size; have ha := h.at'
  exact h.same hg.size (fun k hk => hg.block k (by omega) (fun e => by have := hr k e.symm; omega)) (h.below.grown hg h.below.size (fun k hk => by have := hr k hk; omega))
theorem RC.high (h : RC R T t w ts aT nT cT n1 go x y u0 u1 u2 u3 v0 v1 v2 v3 W lv vI vE b) {c j : Nat} (hc : n1 ≤ c) (v : Value) : RC R T t w ts aT nT cT n1 go x y u0 u1 u2 u3 v0 v1 v2 v3 (W.setCell ⟨c, j, none⟩ v) lv vI vE b := by
  have ha := h.at'
  exact h.same (by rw [size_setCell]; exact Nat.le_refl _) (fun k hk => blk_setCell_other _ _ _ (show k ≠ c by omega)) (below_set h.below (by omega))
/-- A cell of the trace that is made. -/
theorem RC.wrote (h : RC R T t w ts aT nT cT n1 go x y u0 u1 u2 u3 v0 v1 v2 v3 W lv vI vE b) {j : Nat} {v : Value} {lv' : Int} {vI' vE' : Value} (hl : ([.int .i64 t.Fn, .int .i64 t.At, .int .i64 lv, vI, vE, u0, u1, u2, u3, v0, v1, v2, v3] : List Value).set j v = [.int .i64 t.Fn, .int .i64 t.At, .int .i64 lv', vI', vE', u0, u1, u2, u3, v0, v1, v2, v3]) :
    RC R T t w ts aT nT cT n1 go x y u0 u1 u2 u3 v0 v1 v2 v3 (W.setCell ⟨go, j, none⟩ v) lv' vI' vE' b := by
  have ha := h.at'
  have hk : ∀ k, k ≠ go → (W.setCell ⟨go, j, none⟩ v).heap[k]? = W.heap[k]? := fun k hk => blk_setCell_other _ _ _ hk
  have hs : W.heap.size ≤ (W.setCell ⟨go, j, none⟩ v).heap.size := by rw [size_setCell]; exact Nat.le_refl _
  refine ⟨h.box.keep (hk _ (by omega)), h.res.keep (hk _ (by omega)), h.pst.keep hs (fun k hk' => hk k ?_), (World.cell?_of_block (w := W) (hk (w.heap.size + 4) (by omega))).trans h.clo, Rep.keep (fun k hk' => hk k hk'.2.2) h.tu, Rep.keep (fun k hk' => hk k hk'.2.2) h.ba, ?_, ha, below_set h.below (by omega), Nat.le_trans h.size hs, h.low⟩
  · rcases hk' with rfl | rfl | hk'
    · omega
    · omega
    · have := h.low k hk'; omega
  · have := h.out.set j v
    rwa [hl] at this
/-- What the document's exit asks of its state. -/
theorem pst_keeps {N gt gf : Nat} (hR : ∀ k, R k → k < N) (h1 : gt < N) (h2 : gf < N) : Keeps N (fun b W => PSt R W gt gf aT nT cT ts b) := fun b W W' h hk hs => h.keep hs fun k hk' => hk k (by
  rcases hk' with rfl | rfl | hk'
  · exact h1
  · exact h2
  · exact hR k hk')
end
/-- A call of the document's exit. -/
theorem rexit_call {S R : Nat → Prop} {w W : World} {ts : List Int} {aT : Option Addr} {nT cT : Nat} {b : Bool} (hp : PSt R W (w.heap.size + 1) (w.heap.size + 3) aT nT cT ts b) (hc : W.cell? ⟨w.heap.size + 4, 0, none⟩ = some (placeV w.heap.size)) (hok : toOk ts ts.length = true) (hl : ts.length ≤ 1000000) (hR : ∀ k, R k → k < w.heap.size) (hW : w.heap.size + 5 ≤ W.heap.size)
    {X : Array Value} {z : Api.TExit} (hr : Rep.cells S W X.toList z) (hS : ∀ k, S k → k < w.heap.size) (hf : FewX z) {y : Api.TExit} (hy : y = cutExit (oneV (atOf ts ts.length)) z) :
    Calls Tryd.prog 89 #[.agg X, .pointer (some ⟨w.heap.size + 4, 0, none⟩)] W fun e w6 => ∃ a2' n2' c2' a3' n3' c3', e = .returned (.agg #[.int .i64 y.At, .int .i64 y.Steps, .slice a2' n2' c2', .slice a3' n3' c3']) ∧
      Rep.cells (Fresh W w6) w6 [.int .i64 y.At, .int .i64 y.Steps, .slice a2' n2' c2', .slice a3' n3' c3'] y ∧ PSt R w6 (w.heap.size + 1) (w.heap.size + 3) aT nT cT ts (b && fineExit (oneV (atOf ts ts.length)) z) ∧ Wr W.heap.size (w.heap.size + 3) W w6 := by
  have hq : Keeps W.heap.size (fun b W => PSt R W (w.heap.size + 1) (w.heap.size + 3) aT nT cT ts b) := pst_keeps (fun k hk => by have := hR k hk; omega) (by omega) (by omega)
  have hg : ∀ v, I64 (oneV (atOf ts ts.length) v) := fun v => oneV_i64 ts _ hl v
  have hgood : GoodX (oneV (atOf ts ts.length)) z := ⟨fun s _ => hg _, fun m _ => ⟨hg _, fun v _ => hg v⟩⟩
  have hS' : ∀ j, S j → j < W.heap.size ∧ j ≠ w.heap.size + 3 := fun j hj => by have := hS j hj; omega
  have hcall : ∀ (b : Bool) (W' : World) (v : Int), (fun b W => PSt R W (w.heap.size + 1) (w.heap.size + 3) aT nT cT ts b) b W' → W.heap.size ≤ W'.heap.size →
      Calls Tryd.prog 88 #[.int .i64 v, .pointer (some ⟨w.heap.size + 1, 0, none⟩), .pointer (some ⟨w.heap.size + 3, 0, none⟩)] W' fun e W'' => e = .returned (.int .i64 (oneV (atOf ts ts.length) v)) ∧ (fun b W => PSt R W (w.heap.size + 1) (w.heap.size + 3) aT nT cT ts b) (b && fineV (oneV (atOf ts ts.length)) v) W'' ∧ Wr W'.heap.size (w.heap.size + 3) W' W'' ∧ W''.heap.size = W'.heap.size := fun b W' v hq _ => place_any hq hok v
  have hh := rexitG_any (b := b) (X := X) (x := z) (S := S) (gt := w.heap.size + 1) (c := w.heap.size + 3) (gp := w.heap.size + 4) hp hq (by omega) hc (by omega) (by omega) hcall hr hS' hf hgood
  refine hh.mono ?_
  rintro e w6 ⟨cs, rfl, hr, hc, hw⟩
  rw [← hy] at hr
  obtain ⟨a2', c2', a3', c3', rfl, -⟩ := api_TExit_cells_eq hr
  exact ⟨a2', _, c2', a3', _, c3', rfl, hr, hc, hw⟩
end Go.Proofs.YtekofpigmggbbaaDoor.cut

/- The document's Cut: how what it makes lies while it is made, in its loops. -/
namespace Go.Proofs.YtekofpigmggbbaaDoor.cut
open Go.Bk Go.RowKit Go.Proofs.YtekofpigmggbbaaDoor.ir

/-- What is there from the beginning. -/
structure RB (R : Nat → Prop) (T : Array Value) (w : World) (ts : List Int) (aT : Option Addr) (nT cT : Nat) (W : World) (b : Bool) : Prop where
  box : Row W w.heap.size 34 T
  res : Row W (w.heap.size + 2) 34 zeroTL.toArray
  pst : PSt R W (w.heap.size + 1) (w.heap.size + 3) aT nT cT ts b
  clo : W.cell? ⟨w.heap.size + 4, 0, none⟩ = some (placeV w.heap.size)
  below : Below w.heap.size w W
  size : w.heap.size + 5 ≤ W.heap.size
  low : ∀ k, R k → k < w.heap.size
section
variable {R : Nat → Prop} {T : Array Value} {t : Api.TTrace} {w W W' : World} {ts : List Int} {aT : Option Addr} {nT cT : Nat} {b b' : Bool}
theorem RB.keep (h : RB R T w ts aT nT cT W b) (hs : W.heap.size ≤ W'.heap.size) (hk : ∀ k, k < W.heap.size → k ≠ w.heap.size + 3 → W'.heap[k]? = W.heap[k]?) (hp : PSt R W' (w.heap.size + 1) (w.heap.size + 3) aT nT cT ts b') (hb : Below w.heap.size w W') : RB R T w ts aT nT cT W' b' :=
  have hz := h.size
  ⟨h.box.keep (hk _ (by omega) (by omega)), h.res.keep (hk _ (by omega) (by omega)), hp, (World.cell?_of_block (w := W) (hk (w.heap.size + 4) (by omega) (by omega))).trans h.clo, hb, Nat.le_trans hz hs, h.low⟩
theorem RB.call (h : RB R T w ts aT nT cT W b) (hb : Below W.heap.size W W') : RB R T w ts aT nT cT W' b := by
  have hz := h.size
  refine h.keep hb.size (fun k hk _ => hb.block k hk) (h.pst.keep hb.size fun k hk' => hb.block k ?_) (h.below.trans (hb.mono h.below.size))
  rcases hk' with rfl | rfl | hk'
  · omega
  · omega
  · have := h.low k hk'; omega
theorem RB.alloc (h : RB R T w ts aT nT cT W b) (o : Obj) : RB R T w ts aT nT cT (W.alloc o) b := h.call ((Below.refl _ _).alloc (Nat.le_refl _) _)
theorem RB.drew (h : RB R T w ts aT nT cT W b) : RB R T w ts aT nT cT W.drew b := h.call (Below.refl _ _).drew
theorem RB.called (h : RB R T w ts aT nT cT W b) (hw : Wr W.heap.size (w.heap.size + 3) W W') (hp : PSt R W' (w.heap.size + 1) (w.heap.size + 3) aT nT cT ts b') : RB R T w ts aT nT cT W' b' := by
  have hz := h.size
  exact h.keep hw.size (fun k hk hn => hw.block k hk hn) hp (h.below.trans ((hw.mono h.below.size).below (by omega)))
theorem RB.made (h : RB R T w ts aT nT cT W b) {go : Nat} {OLD : Array Value} {x y : Api.TExit} {u0 u1 u2 u3 v0 v1 v2 v3 : Value} (ho : Row W go 34 OLD) (hgo : w.heap.size + 5 ≤ go)
    (hx : Rep.cells (fun j => w.heap.size + 5 ≤ j ∧ j < W.heap.size ∧ j ≠ go) W [u0, u1, u2, u3] x) (hy : Rep.cells (fun j => w.heap.size + 5 ≤ j ∧ j < W.heap.size ∧ j ≠ go) W [v0, v1, v2, v3] y) :
    RC R T t w ts aT nT cT W.heap.size go x y u0 u1 u2 u3 v0 v1 v2 v3 (W.setRow go #[.int .i64 t.Fn, .int .i64 t.At, .int .i64 0, .slice none 0 0, .slice none 0 0, u0, u1, u2, u3, v0, v1, v2, v3]) 0 (.slice none 0 0) (.slice none 0 0) b := by
  have hz := h.size
  have hlt := ho.lt
  have hs : (W.setRow go #[.int .i64 t.Fn, .int .i64 t.At, .int .i64 0, .slice none 0 0, .slice none 0 0, u0, u1, u2, u3, v0, v1, v2, v3]).heap.size = W.heap.size := by simp [World.setRow]
  have hk : ∀ k, k ≠ go → (W.setRow go #[.int .i64 t.Fn, .int .i64 t.At, .int .i64 0, .slice none 0 0, .slice none 0 0, u0, u1, u2, u3, v0, v1, v2, v3]).heap[k]? = W.heap[k]? := fun k hk => setRow_other _ _ _ _ hk
  refine ⟨h.box.keep (hk _ (by omega)), h.res.keep (hk _ (by omega)), h.pst.keep (by omega) (fun k hk' => hk k ?_), (World.cell?_of_block (w := W) (hk (w.heap.size + 4) (by omega))).trans h.clo, Rep.keep (fun k hk' => hk k hk'.2.2) hx, Rep.keep (fun k hk' => hk k hk'.2.2) hy, ?_, ⟨hgo, hlt⟩, below_setRow h.below (by omega) _, by omega, h.low⟩
  · rcases hk' with rfl | rfl | hk'
    · omega
    · omega
    · have := h.low k hk'; omega
  · have := setRow_heap _ _ _ #[.int .i64 t.Fn, .int .i64 t.At, .int .i64 0, .slice none 0 0, .slice none 0 0, u0, u1, u2, u3, v0, v1, v2, v3] _ _ ho
    exact this
end
/-- A call of the document's exit. -/
theorem RB.exit_any {S R : Nat → Prop} {T : Array Value} {w W : World} {ts : List Int} {aT : Option Addr} {nT cT : Nat} {b : Bool} (h : RB R T w ts aT nT cT W b) (hok : toOk ts ts.length = true) (hl : ts.length ≤ 1000000) {X : Array Value} {z : Api.TExit} (hr : Rep.cells S W X.toList z) (hS : ∀ k, S k → k < w.heap.size) (hf : FewX z) {q : Api.TExit} (hq : q = cutExit (oneV (atOf ts ts.length)) z) :
    Calls Tryd.prog 89 #[.agg X, .pointer (some ⟨w.heap.size + 4, 0, none⟩)] W fun e w6 => ∃ a2' n2' c2' a3' n3' c3', e = .returned (.agg #[.int .i64 q.At, .int .i64 q.Steps, .slice a2' n2' c2', .slice a3' n3' c3']) ∧
      Rep.cells (Fresh W w6) w6 [.int .i64 q.At, .int .i64 q.Steps, .slice a2' n2' c2', .slice a3' n3' c3'] q ∧ RB R T w ts aT nT cT w6 (b && fineExit (oneV (atOf ts ts.length)) z) ∧ Wr W.heap.size (w.heap.size + 3) W w6 := by
  have hsz := h.size
  refine (rexit_call h.pst h.clo hok hl h.low (by omega) hr hS hf hq).mono ?_
  rintro e w6 ⟨a2', n2', c2', a3', n3', c3', rfl, hr6, hp6, hw6⟩
  exact ⟨a2', n2', c2', a3', n3', c3', rfl, hr6, h.called hw6 hp6, hw6⟩
/-- Both exits are made, and a block for the trace. -/
theorem RB.leaf {R : Nat → Prop} {T : Array Value} {t : Api.TTrace} {w W : World} {ts : List Int} {aT : Option Addr} {nT cT : Nat} {b : Bool} (h : RB R T w ts aT nT cT W b) {go : Nat} {OLD : Array Value} {x y : Api.TExit} {u0 u1 u2 u3 v0 v1 v2 v3 : Value} (ho : Row W go 34 OLD) (hgo : w.heap.size + 5 ≤ go)
    {A1 A2 B1 B2 : World} (hx : Rep.cells (Fresh A1 A2) A2 [u0, u1, u2, u3] x) (hxk : ∀ k, A1.heap.size ≤ k → k < A2.heap.size → W.heap[k]? = A2.heap[k]?) (hx1 : w.heap.size + 5 ≤ A1.heap.size ∧ A2.heap.size ≤ W.heap.size ∧ (go < A1.heap.size ∨ A2.heap.size ≤ go))
    (hy : Rep.cells (Fresh B1 B2) B2 [v0, v1, v2, v3] y) (hyk : ∀ k, B1.heap.size ≤ k → k < B2.heap.size → W.heap[k]? = B2.heap[k]?) (hy1 : w.heap.size + 5 ≤ B1.heap.size ∧ B2.heap.size ≤ W.heap.size ∧ (go < B1.heap.size ∨ B2.heap.size ≤ go)) :
    RC R T t w ts aT nT cT W.heap.size go x y u0 u1 u2 u3 v0 v1 v2 v3 (W.setRow go #[.int .i64 t.Fn, .int .i64 t.At, .int .i64 0, .slice none 0 0, .slice none 0 0, u0, u1, u2, u3, v0, v1, v2, v3]) 0 (.slice none 0 0) (.slice none 0 0) b := by
  refine h.made ho hgo ?_ ?_
  · exact Rep.mono (fun j hj => ⟨by have := hj.1; omega, by have := hj.2; omega, by have := hj.1; have := hj.2; omega⟩) (Rep.keep (fun k hk => hxk k hk.1 hk.2) hx)
  · exact Rep.mono (fun j hj => ⟨by have := hj.1; omega, by have := hj.2; omega, by have := hj.1; have := hj.2; omega⟩) (Rep.keep (fun k hk => hyk k hk.1 hk.2) hy)
/-- Within the first loop: what is left in, so far. -/
structure RI (R : Nat → Prop) (T : Array Value) (t : Api.TTrace) (w : World) (ts : List Int) (aT : Option Addr) (nT cT n1 go : Nat) (x y : Api.TExit) (u0 u1 u2 u3 v0 v1 v2 v3 : Value) (W : World) (lv : Int) (vI : Value) (li : List Api.TIns) (b : Bool) : Prop where
  rc : RC R T t w ts aT nT cT n1 go x y u0 u1 u2 u3 v0 v1 v2 v3 W lv vI (.slice none 0 0) b
  own : Own (fun _ => False) W n1 43 vI li
section
variable {R : Nat → Prop} {T : Array Value} {t : Api.TTrace} {w W W' : World} {ts : List Int} {aT : Option Addr} {nT cT n1 go : Nat} {x y : Api.TExit} {u0 u1 u2 u3 v0 v1 v2 v3 vI vI' : Value} {lv lv' : Int} {li : List Api.TIns} {b b' : Bool}
theorem RI.call (h : RI R T t w ts aT nT cT n1 go x y u0 u1 u2 u3 v0 v1 v2 v3 W lv vI li b) (hb : Below W.heap.size W W') : RI R T t w ts aT nT cT n1 go x y u0 u1 u2 u3 v0 v1 v2 v3 W' lv vI li b := ⟨h.rc.call hb, h.own.below hb (fun _ h => h.elim)⟩
theorem RI.alloc (h : RI R T t w ts aT nT cT n1 go x y u0 u1 u2 u3 v0 v1 v2 v3 W lv vI li b) (o : Obj) : RI R T t w ts aT nT cT n1 go x y u0 u1 u2 u3 v0 v1 v2 v3 (W.alloc o) lv vI li b := h.call ((Below.refl _ _).alloc (Nat.le_refl _) _)
theorem RI.called (h : RI R T t w ts aT nT cT n1 go x y u0 u1 u2 u3 v0 v1 v2 v3 W lv vI li b) (hw : Wr W.heap.size (w.heap.size + 3) W W') (hp : PSt R W' (w.heap.size + 1) (w.heap.size + 3) aT nT cT ts b') : RI R T t w ts aT nT cT n1 go x y u0 u1 u2 u3 v0 v1 v2 v3 W' lv vI li b' := by
  have ha := h.rc.at'
  exact ⟨h.rc.called hw hp, hw.own h.own (fun c hc => by have := h.own.lt c hc; omega) (fun _ h => h.elim)⟩
theorem RI.high (h : RI R T t w ts aT nT cT n1 go x y u0 u1 u2 u3 v0 v1 v2 v3 W lv vI li b) {c j : Nat} (hc : n1 ≤ c) (hne : vI.ownBlock ≠ some c) (v : Value) : RI R T t w ts aT nT cT n1 go x y u0 u1 u2 u3 v0 v1 v2 v3 (W.setCell ⟨c, j, none⟩ v) lv vI li b :=
  ⟨h.rc.high hc v, own_same' h.own (fun k hk => blk_setCell_other _ _ _ (by show k ≠ c; intro e; exact hne (by rw [← e]; exact hk))) (fun _ h => h.elim)⟩
theorem RI.loop (h : RI R T t w ts aT nT cT n1 go x y u0 u1 u2 u3 v0 v1 v2 v3 W lv vI li b) (l : Int) : RI R T t w ts aT nT cT n1 go x y u0 u1 u2 u3 v0 v1 v2 v3 (W.setCell ⟨go, 2, none⟩ (.int .i64 l)) l vI li b := by
  have ha := h.rc.at'
  exact ⟨h.rc.wrote rfl, own_same' h.own (fun k hk => blk_setCell_other _ _ _ (by show k ≠ go; have := (h.own.lt k hk).1; omega)) (fun _ h => h.elim)⟩
theorem RI.more (h : RI R T t w ts aT nT cT n1 go x y u0 u1 u2 u3 v0 v1 v2 v3 W lv vI li b) {z : Api.TIns} (ho : Own (fun _ => False) W' n1 43 vI' (li ++ [z])) (hg : W.grownBy W' vI.ownBlock) :
    RI R T t w ts aT nT cT n1 go x y u0 u1 u2 u3 v0 v1 v2 v3 (W'.setCell ⟨go, 3, none⟩ vI') lv vI' (li ++ [z]) b ∧ W'.cell? ⟨go, 3, none⟩ = some vI ∧ W'.frozen? ⟨go, 3, none⟩ = false ∧ go < W'.heap.size := by
  have ha := h.rc.at'
  have h1 := h.rc.grown hg (fun k hk => (h.own.lt k hk).1)
  exact ⟨⟨h1.wrote rfl, own_same' ho (fun k hk => blk_setCell_other _ _ _ (by show k ≠ go; have := (ho.lt k hk).1; omega)) (fun _ h => h.elim)⟩, h1.out.cell rfl, h1.out.frozen 3, h1.out.lt⟩
end
/-- Within a round of it: an instruction lies in a block of its own. -/
structure RX (R : Nat → Prop) (T : Array Value) (t : Api.TTrace) (w : World) (ts : List Int) (aT : Option Addr) (nT cT n1 go : Nat) (x y : Api.TExit) (u0 u1 u2 u3 v0 v1 v2 v3 : Value) (W : World) (lv : Int) (vI : Value) (li : List Api.TIns) (gx : Nat) (z : Api.TIns) (b : Bool) : Prop where
  ri : RI R T t w ts aT nT cT n1 go x y u0 u1 u2 u3 v0 v1 v2 v3 W lv vI li b
  ins : Blk W gx 43 (insL z)
  far : n1 ≤ gx
  ne : vI.ownBlock ≠ some gx
section
variable {R : Nat → Prop} {T : Array Value} {t : Api.TTrace} {w W W' : World} {ts : List Int} {aT : Option Addr} {nT cT n1 go gx : Nat} {x y : Api.TExit} {u0 u1 u2 u3 v0 v1 v2 v3 vI vI' : Value} {lv lv' : Int} {li : List Api.TIns} {z z' : Api.TIns} {b b' : Bool}
theorem RI.box (h : RI R T t w ts aT nT cT n1 go x y u0 u1 u2 u3 v0 v1 v2 v3 W lv vI li b) (z : Api.TIns) : RX R T t w ts aT nT cT n1 go x y u0 u1 u2 u3 v0 v1 v2 v3 (W.alloc (.cells (insL z).toArray 43)) lv vI li W.heap.size z b :=
  ⟨h.alloc _, blk_new _ _ _, h.rc.size, fun e => by have := (h.own.lt _ e).2; omega⟩
theorem RX.call (h : RX R T t w ts aT nT cT n1 go x y u0 u1 u2 u3 v0 v1 v2 v3 W lv vI li gx z b) (hb : Below W.heap.size W W') : RX R T t w ts aT nT cT n1 go x y u0 u1 u2 u3 v0 v1 v2 v3 W' lv vI li gx z b := ⟨h.ri.call hb, h.ins.keep (hb.block _ h.ins.lt), h.far, h.ne⟩
theorem RX.called (h : RX R T t w ts aT nT cT n1 go x y u0 u1 u2 u3 v0 v1 v2 v3 W lv vI li gx z b) (hw : Wr W.heap.size (w.heap.size + 3) W W') (hp : PSt R W' (w.heap.size + 1) (w.heap.size + 3) aT nT cT ts b') : RX R T t w ts aT nT cT n1 go x y u0 u1 u2 u3 v0 v1 v2 v3 W' lv vI li gx z b' := by
  have ha := h.ri.rc.at'; have hf := h.far
  exact ⟨h.ri.called hw hp, h.ins.keep (hw.block _ h.ins.lt (by omega)), h.far, h.ne⟩
theorem RX.set (h : RX R T t w ts aT nT cT n1 go x y u0 u1 u2 u3 v0 v1 v2 v3 W lv vI li gx z b) {j : Nat} {v : Value} (hz : (insL z).set j v = insL z') : RX R T t w ts aT nT cT n1 go x y u0 u1 u2 u3 v0 v1 v2 v3 (W.setCell ⟨gx, j, none⟩ v) lv vI li gx z' b :=
  ⟨h.ri.high h.far h.ne v, by have := h.ins.set j v; rwa [hz] at this, h.far, h.ne⟩
theorem RX.loop (h : RX R T t w ts aT nT cT n1 go x y u0 u1 u2 u3 v0 v1 v2 v3 W lv vI li gx z b) (l : Int) : RX R T t w ts aT nT cT n1 go x y u0 u1 u2 u3 v0 v1 v2 v3 (W.setCell ⟨go, 2, none⟩ (.int .i64 l)) l vI li gx z b := by
  have ha := h.ri.rc.at'; have hf := h.far
  exact ⟨h.ri.loop l, h.ins.keep (blk_setCell_other _ _ _ (by show gx ≠ go; omega)), h.far, h.ne⟩
/-- What a call of the places' function leaves. -/
theorem RX.place (h : RX R T t w ts aT nT cT n1 go x y u0 u1 u2 u3 v0 v1 v2 v3 W lv vI li gx z b) (hok : toOk ts ts.length = true) (v : Int) :
    Calls Tryd.prog 88 #[.int .i64 v, .pointer (some ⟨w.heap.size + 1, 0, none⟩), .pointer (some ⟨w.heap.size + 3, 0, none⟩)] W fun e W' => e = .returned (.int .i64 (oneV (atOf ts ts.length) v)) ∧ RX R T t w ts aT nT cT n1 go x y u0 u1 u2 u3 v0 v1 v2 v3 W' lv vI li gx z (b && fineV (oneV (atOf ts ts.length)) v) :=
  (place_any h.ri.rc.pst hok v).mono fun e W' ⟨he, hp, hw, _⟩ => ⟨he, h.called hw hp⟩
/-- What the walk reads. -/
theorem RX.reads (h : RX R T t w ts aT nT cT n1 go x y u0 u1 u2 u3 v0 v1 v2 v3 W lv vI li gx z b) : W.cell? ⟨w.heap.size + 4, 0, none⟩ = some (placeV w.heap.size) ∧ (∀ j v, (insL z)[j]? = some v → W.cell? ⟨gx, j, none⟩ = some v) ∧ (∀ j, W.frozen? ⟨gx, j, none⟩ = false) ∧ gx < W.heap.size ∧ w.heap.size + 4 < W.heap.size := by
  have ha := h.ri.rc.at'; have hs := h.ri.rc.size
  exact ⟨h.ri.rc.clo, fun j v hj => h.ins.cell hj, h.ins.frozen, h.ins.lt, by omega⟩
end
theorem own_base2 {α : Type} [Rep α] {S : Nat → Prop} {w : World} {B B' : Nat} {e : TypeId} {v : Value} {xs : List α} (h : Own S w B e v xs) (hB : B' ≤ B) : Own S w B' e v xs := by
  obtain ⟨css, h1, h2, h3, h4⟩ := h
  refine ⟨css, h1, h2, h3, ?_⟩
  rcases h4 with h4 | ⟨g, cap, cur, h4, h5, h6⟩
  · exact .inl h4
  · exact .inr ⟨g, cap, cur, h4, Nat.le_trans hB h5, h6⟩
/-- Blocks of neither row. -/
def SBT (B : Nat) (W : World) (vI vE : Value) (k : Nat) : Prop := B ≤ k ∧ k < W.heap.size ∧ vI.ownBlock ≠ some k ∧ vE.ownBlock ≠ some k
/-- A trace in cells whose instructions and whose exits lie each in a row of their own from block B on, all else in other blocks. -/
def OwnT (B : Nat) (W : World) (cs : List Value) (t : Api.TTrace) : Prop := ∃ vI vE u0 u1 u2 u3 v0 v1 v2 v3, cs = [.int .i64 t.Fn, .int .i64 t.At, .int .i64 t.Loop, vI, vE, u0, u1, u2, u3, v0, v1, v2, v3] ∧
  Own (fun _ => False) W B 43 vI t.Ins ∧ Own (SBT B W vI vE) W B 32 vE t.Exits ∧ Apart vI vE ∧ Rep.cells (SBT B W vI vE) W [u0, u1, u2, u3] t.Turn ∧ Rep.cells (SBT B W vI vE) W [v0, v1, v2, v3] t.Back
theorem OwnT.keep {B : Nat} {W W' : World} {cs : List Value} {t : Api.TTrace} (h : OwnT B W cs t) (hk : ∀ k, B ≤ k → k < W.heap.size → W'.heap[k]? = W.heap[k]?) (hs : W.heap.size ≤ W'.heap.size) : OwnT B W' cs t := by
  obtain ⟨vI, vE, u0, u1, u2, u3, v0, v1, v2, v3, rfl, h1, h2, h3, h4, h5⟩ := h
  have hm : ∀ k, SBT B W vI vE k → SBT B W' vI vE k := fun k hk' => ⟨hk'.1, Nat.lt_of_lt_of_le hk'.2.1 hs, hk'.2.2⟩
  exact ⟨vI, vE, u0, u1, u2, u3, v0, v1, v2, v3, rfl, own_same' h1 (fun b hb => hk b (h1.lt b hb).1 (h1.lt b hb).2) (fun _ h => h.elim), (own_same' h2 (fun b hb => hk b (h2.lt b hb).1 (h2.lt b hb).2) (fun b hb => hk b hb.1 hb.2.1)).mono hm, h3,
    Rep.mono hm (Rep.keep (fun b hb => hk b hb.1 hb.2.1) h4), Rep.mono hm (Rep.keep (fun b hb => hk b hb.1 hb.2.1) h5)⟩
theorem OwnT.base {B B' : Nat} {W : World} {cs : List Value} {t : Api.TTrace} (h : OwnT B W cs t) (hB : B' ≤ B) : OwnT B' W cs t := by
  obtain ⟨vI, vE, u0, u1, u2, u3, v0, v1, v2, v3, rfl, h1, h2, h3, h4, h5⟩ := h
  have hm : ∀ k, SBT B W vI vE k → SBT B' W vI vE k := fun k hk' => ⟨Nat.le_trans hB hk'.1, hk'.2⟩
  exact ⟨vI, vE, u0, u1, u2, u3, v0, v1, v2, v3, rfl, own_base2 h1 hB, own_base2 (h2.mono hm) hB, h3, Rep.mono hm h4, Rep.mono hm h5⟩
/-- Within the second loop: the exits made so far. -/
structure RE (R : Nat → Prop) (T : Array Value) (t : Api.TTrace) (w : World) (ts : List Int) (aT : Option Addr) (nT cT n1 go : Nat) (x y : Api.TExit) (u0 u1 u2 u3 v0 v1 v2 v3 : Value) (n2 : Nat) (W : World) (lv : Int) (vI : Value) (li : List Api.TIns) (vE : Value) (le : List Api.TExit) (b : Bool) : Prop where
  rc : RC R T t w ts aT nT cT n1 go x y u0 u1 u2 u3 v0 v1 v2 v3 W lv vI vE b
  ins : Own (fun _ => False) W n1 43 vI li
  low : ∀ c, vI.ownBlock = some c → c < n2
  exits : Own (SB n2 W vE) W n2 32 vE le
  far : n1 ≤ n2
  size : n2 ≤ W.heap.size
section
variable {R : Nat → Prop} {T : Array Value} {t : Api.TTrace} {w W W' : World} {ts : List Int} {aT : Option Addr} {nT cT n1 n2 go : Nat} {x y : Api.TExit} {u0 u1 u2 u3 v0 v1 v2 v3 vI vE vE' : Value} {lv lv' : Int} {li : List Api.TIns} {le : List Api.TExit} {b b' : Bool}
theorem RI.exits (h : RI R T t w ts aT nT cT n1 go x y u0 u1 u2 u3 v0 v1 v2 v3 W lv vI li b) : RE R T t w ts aT nT cT n1 go x y u0 u1 u2 u3 v0 v1 v2 v3 W.heap.size W lv vI li (.slice none 0 0) [] b := by
  exact ⟨h.rc, h.own, fun c hc => (h.own.lt c hc).2, Own.nil _ _ _ _, h.rc.size, Nat.le_refl _⟩
theorem RE.lt (h : RE R T t w ts aT nT cT n1 go x y u0 u1 u2 u3 v0 v1 v2 v3 n2 W lv vI li vE le b) {c : Nat} (hc : vE.ownBlock = some c) : n2 ≤ c ∧ c < W.heap.size := h.exits.lt c hc
theorem RE.call (h : RE R T t w ts aT nT cT n1 go x y u0 u1 u2 u3 v0 v1 v2 v3 n2 W lv vI li vE le b) (hb : Below W.heap.size W W') : RE R T t w ts aT nT cT n1 go x y u0 u1 u2 u3 v0 v1 v2 v3 n2 W' lv vI li vE le b := by
  have hz := h.size
  refine ⟨h.rc.call hb, h.ins.below hb (fun _ h => h.elim), h.low, ?_, h.far, Nat.le_trans hz hb.size⟩
  exact (own_same' h.exits (fun j hj => hb.block j (h.lt hj).2) (fun j hj => hb.block j hj.2.1)).mono (SB.mono hb.size)
theorem RE.alloc (h : RE R T t w ts aT nT cT n1 go x y u0 u1 u2 u3 v0 v1 v2 v3 n2 W lv vI li vE le b) (o : Obj) : RE R T t w ts aT nT cT n1 go x y u0 u1 u2 u3 v0 v1 v2 v3 n2 (W.alloc o) lv vI li vE le b := h.call ((Below.refl _ _).alloc (Nat.le_refl _) _)
theorem RE.drew (h : RE R T t w ts aT nT cT n1 go x y u0 u1 u2 u3 v0 v1 v2 v3 n2 W lv vI li vE le b) : RE R T t w ts aT nT cT n1 go x y u0 u1 u2 u3 v0 v1 v2 v3 n2 W.drew lv vI li vE le b := h.call (Below.refl _ _).drew
theorem RE.called (h : RE R T t w ts aT nT cT n1 go x y u0 u1 u2 u3 v0 v1 v2 v3 n2 W lv vI li vE le b) (hw : Wr W.heap.size (w.heap.size + 3) W W') (hp : PSt R W' (w.heap.size + 1) (w.heap.size + 3) aT nT cT ts b') : RE R T t w ts aT nT cT n1 go x y u0 u1 u2 u3 v0 v1 v2 v3 n2 W' lv vI li vE le b' := by
  have hz := h.size; have hf := h.far; have ha := h.rc.at'
  refine ⟨h.rc.called hw hp, own_same' h.ins (fun j hj => hw.block j (by have := h.low j hj; omega) (by have := (h.ins.lt j hj).1; have := h.rc.at'; omega)) (fun _ h => h.elim), h.low, ?_, hf, Nat.le_trans hz hw.size⟩
  exact (own_same' h.exits (fun j hj => hw.block j (h.lt hj).2 (by have := (h.lt hj).1; omega)) (fun j hj => hw.block j hj.2.1 (by have := hj.1; omega))).mono (SB.mono hw.size)
/-- What is handed to append. -/
theorem RE.ready {w0 : World} (h : RE R T t w ts aT nT cT n1 go x y u0 u1 u2 u3 v0 v1 v2 v3 n2 W lv vI li vE le b) (hs : W.heap.size ≤ w0.heap.size) {cs : List Value} {z : Api.TExit} (hr : Rep.cells (Fresh W w0) w0 cs z) : Rep.cells (SB n2 w0 vE) w0 cs z :=
  Rep.mono (fun k hk => ⟨by have := h.size; have := hk.1; omega, hk.2, fun e => by have := (h.lt e).2; have := hk.1; omega⟩) hr
/-- A call of the document's exit. -/
theorem RE.exit_any {S : Nat → Prop} (h : RE R T t w ts aT nT cT n1 go x y u0 u1 u2 u3 v0 v1 v2 v3 n2 W lv vI li vE le b) (hok : toOk ts ts.length = true) (hl : ts.length ≤ 1000000) {X : Array Value} {z : Api.TExit} (hr : Rep.cells S W X.toList z) (hS : ∀ k, S k → k < w.heap.size) (hf : FewX z) {q : Api.TExit} (hq : q = cutExit (oneV (atOf ts ts.length)) z) :
    Calls Tryd.prog 89 #[.agg X, .pointer (some ⟨w.heap.size + 4, 0, none⟩)] W fun e w6 => ∃ a2' n2' c2' a3' n3' c3', e = .returned (.agg #[.int .i64 q.At, .int .i64 q.Steps, .slice a2' n2' c2', .slice a3' n3' c3']) ∧
      Rep.cells (SB n2 w6 vE) w6 [.int .i64 q.At, .int .i64 q.Steps, .slice a2' n2' c2', .slice a3' n3' c3'] q ∧ RE R T t w ts aT nT cT n1 go x y u0 u1 u2 u3 v0 v1 v2 v3 n2 w6 lv vI li vE le (b && fineExit (oneV (atOf ts ts.length)) z) ∧ Wr W.heap.size (w.heap.size + 3) W w6 := by
  have hz := h.size; have ha := h.rc.at'; have hsz := h.rc.size
  refine (rexit_call h.rc.pst h.rc.clo hok hl h.rc.low (by omega) hr hS hf hq).mono ?_
  rintro e w6 ⟨a2', n2', c2', a3', n3', c3', rfl, hr6, hp6, hw6⟩
  exact ⟨a2', n2', c2', a3', n3', c3', rfl, h.ready hw6.size hr6, h.called hw6 hp6, hw6⟩
theorem RE.more (h : RE R T t w ts aT nT cT n1 go x y u0 u1 u2 u3 v0 v1 v2 v3 n2 W lv vI li vE le b) {z : Api.TExit} (ho : Own (SB n2 W vE) W' n2 32 vE' (le ++ [z])) (hg : W.grownBy W' vE.ownBlock) (hst : Stay W vE vE') :
    RE R T t w ts aT nT cT n1 go x y u0 u1 u2 u3 v0 v1 v2 v3 n2 (W'.setCell ⟨go, 4, none⟩ vE') lv vI li vE' (le ++ [z]) b ∧ W'.cell? ⟨go, 4, none⟩ = some vE ∧ W'.frozen? ⟨go, 4, none⟩ = false ∧ go < W'.heap.size := by
  have hz := h.size; have hf := h.far; have ha := h.rc.at'
  have k : ∀ c, c < n2 → W'.heap[c]? = W.heap[c]? := fun c hc => hg.block c (by omega) (fun e => by have := (h.lt e.symm).1; omega)
  have h1 := h.rc.grown hg (fun c hc => by have := (h.lt hc).1; omega)
  have hh : ∀ c, c ≠ go → (W'.setCell ⟨go, 4, none⟩ vE').heap[c]? = W'.heap[c]? := fun c hc => blk_setCell_other _ _ _ hc
  have hsz := hg.size
  refine ⟨⟨h1.wrote rfl, own_same' h.ins (fun j hj => (hh j (by have := (h.ins.lt j hj).1; omega)).trans (k j (h.low j hj))) (fun _ h => h.elim), h.low, ?_, hf, by rw [size_setCell]; omega⟩, h1.out.cell rfl, h1.out.frozen 4, h1.out.lt⟩
  have ho2 : Own (SB n2 (W'.setCell ⟨go, 4, none⟩ vE') vE') W' n2 32 vE' (le ++ [z]) := ho.mono fun c hc => ⟨hc.1, by rw [size_setCell]; have := hc.2.1; omega, fun e => by
    rcases hst c e with h1 | h1
    · exact hc.2.2 h1
    · have := hc.2.1; omega⟩
  refine own_same' ho2 (fun c hc' => hh c ?_) (fun c hc' => hh c ?_)
  · have := (ho.lt c hc').1; omega
  · have := hc'.1; omega
/-- All is made. -/
theorem RE.done (h : RE R T t w ts aT nT cT n1 go x y u0 u1 u2 u3 v0 v1 v2 v3 n2 W lv vI li vE le b) (h1 : I64 t.Fn) (h2 : I64 t.At) (h3 : I64 lv) :
    ∃ C : Array Value, Row W go 34 C ∧ Rep.cells (fun k => w.heap.size + 5 ≤ k ∧ k < W.heap.size) W C.toList (⟨t.Fn, t.At, lv, li, le, x, y⟩ : Api.TTrace) ∧ OwnT (w.heap.size + 5) W C.toList ⟨t.Fn, t.At, lv, li, le, x, y⟩ := by
  have hf := h.far; have hz := h.size; have ha := h.rc.at'; have hs := h.rc.size
  refine ⟨_, h.rc.out, ?_, ?_⟩
  case refine_2 =>
    have hlow : ∀ c, vI.ownBlock = some c → n1 ≤ c ∧ c < n2 := fun c hc => ⟨(h.ins.lt c hc).1, h.low c hc⟩
    have hE : ∀ c, vE.ownBlock = some c → n2 ≤ c ∧ c < W.heap.size := fun c hc => h.exits.lt c hc
    refine ⟨vI, vE, u0, u1, u2, u3, v0, v1, v2, v3, rfl, own_base2 h.ins (by omega), own_base2 (h.exits.mono fun k hk => ⟨by have := hk.1; omega, hk.2.1, fun e => by have := (hlow k e).2; have := hk.1; omega, hk.2.2⟩) (by omega), fun k h1 h2 => by have := (hlow k h1).2; have := (hE k h2).1; omega, ?_, ?_⟩
    · exact Rep.mono (fun k hk => ⟨by have := hk.1; omega, by have := hk.2.1; omega, fun e => by have := (hlow k e).1; have := hk.2.1; omega, fun e => by have := (hE k e).1; have := hk.2.1; omega⟩) h.rc.tu
    · exact Rep.mono (fun k hk => ⟨by have := hk.1; omega, by have := hk.2.1; omega, fun e => by have := (hlow k e).1; have := hk.2.1; omega, fun e => by have := (hE k e).1; have := hk.2.1; omega⟩) h.rc.ba
  have i1 : Rep.cells (fun k => w.heap.size + 5 ≤ k ∧ k < W.heap.size) W [vI] li := by
    obtain ⟨a, c, rfl, q1, q2, q3⟩ := h.ins.arr
    exact ⟨a, c, rfl, q1, q2, q3.mono fun k hk' => hk'.elim False.elim fun hk' => ⟨by omega, hk'.2⟩⟩
  have i2 : Rep.cells (fun k => w.heap.size + 5 ≤ k ∧ k < W.heap.size) W [vE] le := by
    obtain ⟨a, c, rfl, q1, q2, q3⟩ := h.exits.arr
    refine Rep.mono (fun k hk' => ?_) (⟨a, c, rfl, q1, q2, q3⟩ : Rep.cells (fun k => SB n2 W (.slice a le.length c) k ∨ (n2 ≤ k ∧ k < W.heap.size)) W [.slice a le.length c] le)
    rcases hk' with hk' | hk'
    · exact ⟨by have := hk'.1; omega, by have := hk'.2.1; omega⟩
    · exact ⟨by have := hk'.1; omega, by have := hk'.2; omega⟩
  have i3 : Rep.cells (fun k => w.heap.size + 5 ≤ k ∧ k < W.heap.size) W [u0, u1, u2, u3] x := Rep.mono (fun k hk' => ⟨hk'.1, by have := hk'.2.1; omega⟩) h.rc.tu
  have i4 : Rep.cells (fun k => w.heap.size + 5 ≤ k ∧ k < W.heap.size) W [v0, v1, v2, v3] y := Rep.mono (fun k hk' => ⟨hk'.1, by have := hk'.2.1; omega⟩) h.rc.ba
  exact ⟨_, _, ⟨rfl, h1⟩, ⟨_, _, ⟨rfl, h2⟩, ⟨_, _, ⟨rfl, h3⟩, ⟨_, _, i1, ⟨_, _, i2, ⟨_, _, i3, i4, rfl⟩, rfl⟩, rfl⟩, rfl⟩, rfl⟩, rfl⟩
end
end Go.Proofs.YtekofpigmggbbaaDoor.cut
