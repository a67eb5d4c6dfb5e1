/- General: a row that a call grows, told so that all other blocks, the call's own too, are known to stand. No program is named here. -/
import Derived.Test.YtimlhjjdaggiiaaCells
import Derived.Test.YtimlhjjdaggiiaaApart
set_option linter.unusedVariables false
set_option linter.unusedSimpArgs false
namespace Go.Bk
open Go.RowKit

/-- From w to w': block wb was written, the row v was grown to v'; all else stands. -/
structure Moved (wb : Nat) (v : Value) (w : World) (v' : Value) (w' : World) : Prop where
  os : w'.os = w.os
  tape : w'.tape = w.tape
  output : w'.output = w.output
  size : w.heap.size ≤ w'.heap.size
  block : ∀ k, k < w.heap.size → k ≠ wb → v.ownBlock ≠ some k → w'.heap[k]? = w.heap[k]?
  stay : Stay w v v'
section
variable {wb : Nat} {v v1 v2 : Value} {w w1 w2 : World}
theorem Moved.refl (wb : Nat) (v : Value) (w : World) : Moved wb v w v w := ⟨rfl, rfl, rfl, Nat.le_refl _, fun _ _ _ _ => rfl, fun _ h => .inl h⟩
theorem Moved.trans (h : Moved wb v w v1 w1) (k : Moved wb v1 w1 v2 w2) : Moved wb v w v2 w2 where
  os := k.os.trans h.os
  tape := k.tape.trans h.tape
  output := k.output.trans h.output
  size := Nat.le_trans h.size k.size
  block := fun j hj hne hv => (k.block j (Nat.lt_of_lt_of_le hj h.size) hne (fun he => by
    rcases h.stay j he with h1 | h1
    · exact hv h1
    · omega)).trans (h.block j hj hne hv)
  stay := fun j hj => by
    rcases k.stay j hj with h1 | h1
    · exact h.stay j h1
    · exact .inr (Nat.le_trans h.size h1)
theorem Moved.below {N : Nat} (h : Moved wb v w v1 w1) (hN : N ≤ wb) (hv : ∀ k, v.ownBlock = some k → N ≤ k) (hs : N ≤ w.heap.size) : Below N w w1 :=
  ⟨h.os, h.tape, h.output, h.size, fun k hk => h.block k (by omega) (by omega) (fun he => by have := hv k he; omega)⟩
theorem Moved.alloc (wb : Nat) (v : Value) (w : World) (o : Obj) : Moved wb v w v (w.alloc o) :=
  ⟨rfl, rfl, rfl, by simp, fun k hk _ _ => Below.heap_alloc _ _ _ hk, fun _ h => .inl h⟩
theorem Moved.drew (wb : Nat) (v : Value) (w : World) : Moved wb v w v w.drew := ⟨rfl, rfl, rfl, Nat.le_refl _, fun _ _ _ _ => rfl, fun _ h => .inl h⟩
theorem Moved.cell {b o : Nat} (h : Moved wb v w v1 w1) (hb : b < w.heap.size) (hne : b ≠ wb) (hv : v.ownBlock ≠ some b) : w1.cell? ⟨b, o, none⟩ = w.cell? ⟨b, o, none⟩ := World.cell?_of_block (w := w) (h.block b hb hne hv)
theorem Moved.blk {b : Nat} {e : TypeId} {cs : List Value} (h : Moved wb v w v1 w1) (hb : Blk w b e cs) (hne : b ≠ wb) (hv : v.ownBlock ≠ some b) : Blk w1 b e cs := hb.keep (h.block b hb.lt hne hv)
theorem Moved.arr {α : Type} [Rep α] {S : Nat → Prop} {a : Option Addr} {xs : List α} (h : Moved wb v w v1 w1) (ha : Arr S w a xs) (hS : ∀ b, S b → b < w.heap.size ∧ b ≠ wb ∧ v.ownBlock ≠ some b) : Arr S w1 a xs :=
  ha.keep (fun b hb => h.block b (hS b hb).1 (hS b hb).2.1 (hS b hb).2.2)
end
section
variable {P : Program} {w : World} {B : Nat} {e : TypeId} {v : Value} {xs ys : List Int}
/-- Numbers are appended that lie in cells: where the row is then. -/
theorem run_append_ints {t ty : TypeId} {z : Value} {bytes : Nat} (ht : P.underlying t = some (.slice e)) (hi : (P.info? e).map (fun i => (i.zero, i.size, i.bytes)) = some (some z, 1, bytes)) (hz : z.cells.size = 1) (hown : Own (fun _ => False) w B e v xs) (hy : ∀ y ∈ ys, I64 y)
    {a : Addr} {c m : Nat} (hm : ys.length = m) (h0 : 0 < m) (hbox : ∀ (j : Nat) (u : Value), (intsV ys)[j]? = some u → w.cell? (a.add j) = some u) (hxs : xs.length + m ≤ 1000000000) (hb : bytes ≤ 1000) (hB : B ≤ w.heap.size) :
    ∃ v' w', (Builtin.append_ #[t, t] ty #[v, .slice (some a) m c]).run P w = .ok v' w' ∧ Own (fun _ => False) w' B e v' (xs ++ ys) ∧ w.grownBy w' v.ownBlock ∧ Stay w v v' := by
  subst hm
  obtain ⟨i, hi, hz0, hz1, hz2⟩ := info_parts hi
  obtain ⟨hrow, hxi⟩ := own_int_row hown
  have hby : (xs.length + ys.length) * bytes ≤ 140737488355328 := Nat.le_trans (Nat.mul_le_mul hxs hb) (by decide)
  obtain ⟨v', w', hr, ho', hg, -⟩ := run_append_own (P := P) w B t ty e i z 1 bytes ht hi hz0 hz1 hz2 hz (by decide) v xs.length (intsV xs) hrow a ys.length c (intsV ys) (by simp [intsV]) hbox (intsV_one ys) (by unfold maxLen; omega) hby hB
  have hst := append_block (P := P) ht hi hz0 (base := B) (hz1 ▸ hrow) (a := a) (m := ys.length) (c := c) (news := intsV ys) (by rw [hz1]; simp [intsV]) hbox (intsV_one ys) h0 (by unfold maxLen; omega) (by rw [hz2]; exact hby) hr
  refine ⟨v', w', hr, own_int_mk (by rw [intsV_append, List.length_append]; simpa [intsV] using ho') (fun x hx => ?_), hg, hst⟩
  rcases List.mem_append.1 hx with h | h
  · exact hxi x h
  · exact hy x h
end
end Go.Bk
namespace Go.Bk
open Go.RowKit
/-- Blocks that lie apart from what is written. -/
def Free (S : Nat → Prop) (w : World) (wb : Nat) (v : Value) : Prop := ∀ b, S b → b < w.heap.size ∧ b ≠ wb ∧ v.ownBlock ≠ some b
theorem Free.moved {S : Nat → Prop} {w w1 : World} {wb : Nat} {v v1 : Value} (h : Free S w wb v) (hm : Moved wb v w v1 w1) : Free S w1 wb v1 := fun b hb =>
  ⟨Nat.lt_of_lt_of_le (h b hb).1 hm.size, (h b hb).2.1, fun he => by
    rcases hm.stay b he with h1 | h1
    · exact (h b hb).2.2 h1
    · have := (h b hb).1; omega⟩
end Go.Bk
namespace Go.Bk
open Go.RowKit
section
variable {P : Program} {ops : Array Oper} {Q : Exit → Act → World → Prop} {K : Act → World → Prop} {E : Prop} {a : Act} {w : World} {rest : List Oper} {o : Oper}
/-- 'append(s, x, y, ..)' of numbers in the box that the statement has just laid: as one step of a region that draws its order. -/
theorem step_append_ints {s x : Operand} {t e : TypeId} {z : Value} {bytes : Nat} (hgd : o.guard = none) (ho : o.op = .call { callee := .builtin .append, args := #[s, x], argTypes := #[t, t] }) (ht : P.underlying t = some (.slice e))
    (hi : (P.info? e).map (fun i => (i.zero, i.size, i.bytes)) = some (some z, 1, bytes)) (hz : z.cells.size = 1) (hb : bytes ≤ 1000)
    {B : Nat} {v : Value} {xs ys : List Int} {cs : List Value} {w0 : World} {e' : TypeId} {g m : Nat} (hs : a.eval s = v) (hx : a.eval x = .slice (some ⟨g, 0, none⟩) m m) (hw : w = w0.alloc (.cells cs.toArray e')) (hg : g = w0.heap.size) (hown : Own (fun _ => False) w0 B e v xs)
    (hcs : cs = intsV ys) (hy : ∀ y ∈ ys, I64 y) (hm : ys.length = m) (h0 : 0 < m) (hl : xs.length + m ≤ 1000000000) (hbase : B ≤ w0.heap.size)
    (h : ∀ v' w', Own (fun _ => False) w' B e v' (xs ++ ys) → w0.grownBy w' v.ownBlock → Stay w0 v v' → K (a.put o.dst v') w') : if Region.wanted o (yielded ops a.tmps) = true then Oper.wp P o a w K Q else E := by
  have hwt : Region.wanted o (yielded ops a.tmps) = true := by simp [Region.wanted, hgd]
  rw [if_pos hwt]
  subst hw hg hcs
  obtain ⟨v', w', hr, ho', hgr, hst⟩ := run_append_ints (P := P) (ty := o.type) (c := m) ht hi hz (hown.alloc (.cells (intsV ys).toArray e') (fun _ h => h.elim)) hy hm h0 (a := ⟨w0.heap.size, 0, none⟩) (fun j u hu => by rw [Addr.add_lit, Nat.zero_add]; exact (blk_new w0 _ _).cell hu) hl hb (by simp; omega)
  unfold Oper.wp execOp
  simp only [ho, resolve, invoke, builtin, Sem.run_bind, Sem.run_pure, Result.andThen_ok, List.map_toArray, List.map_cons, List.map_nil, hs, hx, hr]
  refine h v' w' ho' ⟨hgr.os, hgr.tape, hgr.output, Nat.le_trans (by simp) hgr.size, fun k hk hne => ?_⟩ (fun k hk => ?_)
  · rw [hgr.block k (by simp; omega) hne]
    exact Below.heap_alloc _ _ _ hk
  · rcases hst k hk with h1 | h1
    · exact .inl h1
    · right; simp at h1; omega
/-- The same in a list that is walked in order. -/
theorem wp_append_ints {s x : Operand} {t e : TypeId} {z : Value} {bytes : Nat} (hgd : o.guard = none) (ho : o.op = .call { callee := .builtin .append, args := #[s, x], argTypes := #[t, t] }) (ht : P.underlying t = some (.slice e))
    (hi : (P.info? e).map (fun i => (i.zero, i.size, i.bytes)) = some (some z, 1, bytes)) (hz : z.cells.size = 1) (hb : bytes ≤ 1000)
    {B : Nat} {v : Value} {xs ys : List Int} {cs : List Value} {w0 : World} {e' : TypeId} {g m : Nat} (hs : a.eval s = v) (hx : a.eval x = .slice (some ⟨g, 0, none⟩) m m) (hw : w = w0.alloc (.cells cs.toArray e')) (hg : g = w0.heap.size) (hown : Own (fun _ => False) w0 B e v xs)
    (hcs : cs = intsV ys) (hy : ∀ y ∈ ys, I64 y) (hm : ys.length = m) (h0 : 0 < m) (hl : xs.length + m ≤ 1000000000) (hbase : B ≤ w0.heap.size)
    (h : ∀ v' w', Own (fun _ => False) w' B e v' (xs ++ ys) → w0.grownBy w' v.ownBlock → Stay w0 v v' → wpList P ops Q rest (a.put o.dst v') w') : wpList P ops Q (o :: rest) a w :=
  wpList_plain hgd fun K hK => by
    have hs := step_append_ints (ops := ops) (Q := Q) (K := K) (E := True) hgd ho ht hi hz hb hs hx hw hg hown hcs hy hm h0 hl hbase (fun v' w' h1 h2 h3 => hK _ _ (h v' w' h1 h2 h3))
    rw [if_pos (by simp [Region.wanted, hgd])] at hs
    exact hs
end
end Go.Bk
namespace Go.Bk
open Go.RowKit
/-- From w to w': the row v was grown to v'; all else stands. -/
def Grew (v : Value) (w : World) (v' : Value) (w' : World) : Prop := ∀ wb, Moved wb v w v' w'
section
variable {v v1 v2 : Value} {w w1 w2 : World}
theorem Grew.refl (v : Value) (w : World) : Grew v w v w := fun wb => Moved.refl wb v w
theorem Grew.trans (h : Grew v w v1 w1) (k : Grew v1 w1 v2 w2) : Grew v w v2 w2 := fun wb => (h wb).trans (k wb)
theorem Grew.alloc (v : Value) (w : World) (o : Obj) : Grew v w v (w.alloc o) := fun wb => Moved.alloc wb v w o
theorem Grew.drew (v : Value) (w : World) : Grew v w v w.drew := fun wb => Moved.drew wb v w
theorem Grew.of_below (h : Below w.heap.size w w1) : Grew v w v w1 := fun wb => ⟨h.os, h.tape, h.output, h.size, fun k hk _ _ => h.block k hk, fun _ h => .inl h⟩
theorem Grew.of_grown (h : w.grownBy w1 v.ownBlock) (hs : Stay w v v1) : Grew v w v1 w1 := fun wb => ⟨h.os, h.tape, h.output, h.size, fun k hk _ hv => h.block k hk (fun e => hv e.symm), hs⟩
theorem Grew.size (h : Grew v w v1 w1) : w.heap.size ≤ w1.heap.size := (h 0).size
theorem Grew.blk {b : Nat} {e : TypeId} {cs : List Value} (h : Grew v w v1 w1) (hb : Blk w b e cs) (hv : v.ownBlock ≠ some b) : Blk w1 b e cs := (h (b + 1)).blk hb (by omega) hv
theorem Grew.ne {b : Nat} (h : Grew v w v1 w1) (hb : b < w.heap.size) (hv : v.ownBlock ≠ some b) : v1.ownBlock ≠ some b := fun he => by
  rcases (h 0).stay b he with h1 | h1
  · exact hv h1
  · omega
theorem Grew.arr {α : Type} [Rep α] {S : Nat → Prop} {a : Option Addr} {xs : List α} (h : Grew v w v1 w1) (ha : Arr S w a xs) (hS : ∀ b, S b → b < w.heap.size ∧ v.ownBlock ≠ some b) : Arr S w1 a xs :=
  ha.keep (fun b hb => (h (b + 1)).block b (hS b hb).1 (by omega) (hS b hb).2)
theorem Grew.below {N : Nat} (h : Grew v w v1 w1) (hv : ∀ k, v.ownBlock = some k → N ≤ k) (hs : N ≤ w.heap.size) : Below N w w1 := (h N).below (Nat.le_refl _) hv hs
end
section
variable {P : Program} {ops : Array Oper} {Q : Exit → Act → World → Prop} {a : Act} {w : World} {rest : List Oper} {o : Oper}
/-- 'append(s, t...)' of numbers that another list holds. -/
theorem wp_append_row {s x : Operand} {t e : TypeId} {z : Value} {bytes : Nat} (hgd : o.guard = none) (ho : o.op = .call { callee := .builtin .append, args := #[s, x], argTypes := #[t, t] }) (ht : P.underlying t = some (.slice e))
    (hi : (P.info? e).map (fun i => (i.zero, i.size, i.bytes)) = some (some z, 1, bytes)) (hz : z.cells.size = 1) (hb : bytes ≤ 1000)
    {B : Nat} {v : Value} {xs ys : List Int} {S2 : Nat → Prop} {ao : Option Addr} {m c : Nat} (hs : a.eval s = v) (hx : a.eval x = .slice ao m c) (hown : Own (fun _ => False) w B e v xs) (harr : Arr S2 w ao ys)
    (hm : ys.length = m) (h0 : 0 < m) (hl : xs.length + m ≤ 1000000000) (hbase : B ≤ w.heap.size)
    (h : ∀ v' w', Own (fun _ => False) w' B e v' (xs ++ ys) → w.grownBy w' v.ownBlock → Stay w v v' → wpList P ops Q rest (a.put o.dst v') w') : wpList P ops Q (o :: rest) a w := by
  have hy : ∀ y ∈ ys, I64 y := fun y hy => by
    obtain ⟨k, hk⟩ := List.getElem?_of_mem hy
    obtain ⟨b1, o1, cs1, -, -, hc, -⟩ := harr.at hk
    exact hc.2
  obtain ⟨ad, rfl⟩ : ∃ ad, ao = some ad := by
    rcases harr.lies with h1 | ⟨b, off, rfl, -, -⟩
    · subst h1; simp at hm; omega
    · exact ⟨_, rfl⟩
  have hbox : ∀ (j : Nat) (u : Value), (intsV ys)[j]? = some u → w.cell? (ad.add j) = some u := fun j u hu => by
    unfold intsV at hu
    rw [List.getElem?_map] at hu
    obtain ⟨y, hj, rfl⟩ := Option.map_eq_some_iff.1 hu
    obtain ⟨b1, o1, cs1, he, hs1, ⟨rfl, -⟩, g1⟩ := harr.at hj
    injection he with he
    subst he
    have := g1 0 Nat.zero_lt_one
    rw [Addr.add_lit]
    simpa [show Rep.sz Int = 1 from rfl] using this
  obtain ⟨v', w', hr, ho', hgr, hst⟩ := run_append_ints (P := P) (ty := o.type) (c := c) ht hi hz hown hy hm h0 hbox hl hb hbase
  refine wpList_plain hgd fun K hK => ?_
  unfold Oper.wp execOp
  simp only [ho, resolve, invoke, builtin, Sem.run_bind, Sem.run_pure, Result.andThen_ok, List.map_toArray, List.map_cons, List.map_nil, hs, hx, hr]
  exact hK _ _ (h v' w' ho' hgr hst)
end
end Go.Bk
