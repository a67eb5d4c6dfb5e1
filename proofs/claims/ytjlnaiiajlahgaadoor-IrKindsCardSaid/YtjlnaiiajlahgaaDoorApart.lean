/- General: several slices that a call grows, apart from each other. No program is named here. -/
import Derived.Test.YtjlnaiiajlahgaaDoorMore
set_option linter.unusedVariables false
set_option linter.unusedSimpArgs false
namespace Go.Bk
open Go.RowKit

/-- Where a slice's row is after it was grown: where it was, or in a block that is new. -/
def Stay (w : World) (v v' : Value) : Prop := ∀ k, v'.ownBlock = some k → v.ownBlock = some k ∨ w.heap.size ≤ k
def Apart (u v : Value) : Prop := ∀ k, u.ownBlock = some k → v.ownBlock ≠ some k
theorem Apart.symm {u v : Value} (h : Apart u v) : Apart v u := fun k h1 h2 => h k h2 h1
theorem Apart.nil_left (v : Value) (n c : Nat) : Apart (.slice none n c) v := fun k h => by cases h
theorem Apart.nil_right (v : Value) (n c : Nat) : Apart v (.slice none n c) := (Apart.nil_left v n c).symm
theorem Apart.moved {w : World} {u v v' : Value} (h : Apart v u) (hs : Stay w v v') (hu : ∀ k, u.ownBlock = some k → k < w.heap.size) : Apart v' u := fun k hk he => by
  rcases hs k hk with h1 | h1
  · exact h k h1 he
  · have := hu k he; omega
theorem Own.apart {α : Type} [Rep α] {S : Nat → Prop} {w w' : World} {B : Nat} {e : TypeId} {u v : Value} {xs : List α} (h : Own S w B e u xs) (hg : w.grownBy w' v.ownBlock) (ha : Apart v u) (hS : ∀ b, S b → w'.heap[b]? = w.heap[b]?) : Own S w' B e u xs :=
  h.keep hg (by
    cases hu : u.ownBlock with
    | none => exact .inl rfl
    | some k => right; intro e; exact ha k e.symm hu) hS

theorem Own.mono {α : Type} [Rep α] {S S' : Nat → Prop} {w : World} {B : Nat} {e : TypeId} {v : Value} {xs : List α} (h : Own S w B e v xs) (hs : ∀ b, S b → S' b) : Own S' w B e v xs := by
  obtain ⟨css, h1, h2, ho⟩ := h
  exact ⟨css, h1, fun k x cs hx hc => Rep.mono hs (h2 k x cs hx hc), ho⟩
theorem cell_grown {w w' : World} {r : Option Nat} (hg : w.grownBy w' r) {b o : Nat} (hb : b < w.heap.size) (hne : r ≠ some b) : w'.cell? ⟨b, o, none⟩ = w.cell? ⟨b, o, none⟩ :=
  World.cell?_of_block (w := w) (hg.block b hb (fun e => hne e.symm))
theorem frozen_grown {w w' : World} {r : Option Nat} (hg : w.grownBy w' r) {b o : Nat} (hb : b < w.heap.size) (hne : r ≠ some b) : w'.frozen? ⟨b, o, none⟩ = w.frozen? ⟨b, o, none⟩ :=
  World.frozen?_of_block (w := w) (hg.block b hb (fun e => hne e.symm))
theorem append_block {P : Program} {w : World} {base : Nat} {t ty e : TypeId} {i : TypeInfo} {z : Value} (ht : P.underlying t = some (.slice e)) (hi : P.info? e = some i) (hz : i.zero = some z)
    {v : Value} {n : Nat} {xs : List Value} (hown : w.ownsRow base e i.size v n xs) {a : Addr} {m c : Nat} {news : List Value} (hl : news.length = m * i.size) (hnews : ∀ j u, news[j]? = some u → w.cell? (a.add j) = some u) (h1 : ∀ u ∈ news, u.oneCell' = true)
    (h0 : 0 < m) (h63 : n + m ≤ maxLen) (hbytes : (n + m) * i.bytes ≤ 140737488355328) {v' : Value} {w' : World} (hr : (Builtin.append_ #[t, t] ty #[v, .slice (some a) m c]).run P w = .ok v' w') : Stay w v v' := by
  have hsmall : n + m ≤ 9223372036854775807 := by simp only [maxLen] at h63; omega
  rcases hown.2 with ⟨rfl, rfl⟩ | ⟨g, cap, cur, rfl, hbg, hg, hnc, hcm, hcs, htake⟩
  · have h2 := run_append_nil (P := P) w t ty e i z ht hi hz a m c news hl hnews h0 (by omega) (by have hb := hbytes; simp only [Nat.zero_add] at hb; omega)
    rw [hr] at h2
    injection h2 with h2 _
    subst h2
    intro k hk
    simp [Value.ownBlock] at hk
    right; omega
  · by_cases hroom : n + m ≤ cap
    · have hfit : n * i.size + news.length ≤ cur.size := by rw [hl, hcs, ← Nat.add_mul]; exact Nat.mul_le_mul_right _ hroom
      have h2 := run_append_room (P := P) w t ty e i ht hi g n cap cur hg a m c news hl hnews h1 hroom hfit
      rw [hr] at h2
      injection h2 with h2 _
      subst h2
      intro k hk
      exact .inl hk
    · have holds : ∀ j u, xs[j]? = some u → w.cell? ((⟨g, 0, none⟩ : Addr).add j) = some u := hown.cells (g := g) rfl
      have h2 := run_append_grow (P := P) w t ty e i z ht hi hz ⟨g, 0, none⟩ n cap xs hown.1 holds a m c news hl hnews (by omega) (by omega) (growslice_fits (by omega) hbytes)
      rw [hr] at h2
      injection h2 with h2 _
      subst h2
      intro k hk
      simp [Value.ownBlock] at hk
      right; omega

section
variable {P : Program} {ops : Array Oper} {Q : Exit → Act → World → Prop} {a : Act} {w : World} {rest : List Oper} {o : Oper}
/-- 'append(s, y)', and where the row is behind it. -/
theorem wp_append1s {α : Type} [Rep α] {S : Nat → Prop} {s x : Operand} {t e : TypeId} {z : Value} {bytes : Nat} (hgd : o.guard = none)
    (ho : o.op = .call { callee := .builtin .append, args := #[s, x], argTypes := #[t, t] }) (ht : P.underlying t = some (.slice e))
    (hi : (P.info? e).map (fun i => (i.zero, i.size, i.bytes)) = some (some z, Rep.sz α, bytes)) (hz : z.cells.size = Rep.sz α) (hp : 0 < Rep.sz α)
    {B : Nat} {v : Value} {xs : List α} {y : α} {cs : List Value} {w0 : World} {e' : TypeId} (hs : a.eval s = v) {g : Nat} (hx : a.eval x = .slice (some ⟨g, 0, none⟩) 1 1) (hw : w = w0.alloc (.cells cs.toArray e')) (hg : g = w0.heap.size) (hown : Own S w0 B e v xs) (hy : Rep.cells S w0 cs y)
    (hS : ∀ b, S b → b < w0.heap.size ∧ v.ownBlock ≠ some b) (h63 : xs.length + 1 ≤ maxLen) (hbytes : (xs.length + 1) * bytes ≤ 140737488355328) (hbase : B ≤ w0.heap.size)
    (h : ∀ v' w', Own S w' B e v' (xs ++ [y]) → w0.grownBy w' v.ownBlock → Stay w0 v v' → wpList P ops Q rest (a.put o.dst v') w') : wpList P ops Q (o :: rest) a w := by
  subst hw hg
  have hal : ∀ b, b < w0.heap.size → (w0.alloc (.cells cs.toArray e')).heap[b]? = w0.heap[b]? := fun b hb => Below.heap_alloc _ _ _ hb
  obtain ⟨i, hi, hz0, hz1, hz2⟩ := info_parts hi
  obtain ⟨css, h1, h2, hrow⟩ := hown.alloc (.cells cs.toArray e') (fun b hb => (hS b hb).1)
  have hcl : cs.length = Rep.sz α := Rep.len hy
  have hcell : ∀ j u, cs[j]? = some u → (w0.alloc (.cells cs.toArray e')).cell? ((⟨w0.heap.size, 0, none⟩ : Addr).add j) = some u := fun j u hu => by
    rw [Addr.add_lit, Nat.zero_add]
    have : (w0.alloc (.cells cs.toArray e')).heap[w0.heap.size]? = some (.cells cs.toArray e' (0, 0)) := heap_alloc_new _ _
    simp only [World.cell?]
    rw [this]
    simpa using hu
  have hone : ∀ u ∈ cs, u.oneCell' = true := Rep.one hy
  obtain ⟨v', w', hr, ho', hgr, -⟩ := run_append_own (P := P) (w0.alloc (.cells cs.toArray e')) B t o.type e i z (Rep.sz α) bytes ht hi hz0 hz1 hz2 hz hp v xs.length css.flatten hrow ⟨w0.heap.size, 0, none⟩ 1 1 cs (by simpa using hcl) hcell hone h63 hbytes (by simp; omega)
  have hst := append_block (P := P) ht hi hz0 (base := B) (hz1 ▸ hrow) (by rw [hz1]; simpa using hcl) hcell hone (by omega) h63 (by rw [hz2]; exact hbytes) hr
  refine wpList_plain hgd fun K hK => ?_
  unfold Oper.wp execOp
  simp only [ho, resolve, invoke, builtin, Sem.run_bind, Sem.run_pure, Result.andThen_ok, List.map_toArray, List.map_cons, List.map_nil, hs, hx, hr]
  refine hK _ _ (h v' w' ?_ ?_ ?_)
  · refine Own.more (S := S) (w0 := w0.alloc (.cells cs.toArray e')) (dss := [cs]) (ys := [y]) h1 h2 rfl (fun k x cs' hx hc => ?_) (fun b hb => ?_) (by simpa using ho')
    · have hk : k = 0 := by have := (List.getElem?_eq_some_iff.1 hx).1; simp at this; exact this
      subst hk
      simp at hx hc
      subst hx hc
      exact Rep.keep (fun b hb => hal b (hS b hb).1) hy
    · exact hgr.block b (by have := (hS b hb).1; simp; omega) (fun e => (hS b hb).2 e.symm)
  · refine ⟨hgr.os, hgr.tape, hgr.output, Nat.le_trans (by simp) hgr.size, fun k hk hne => ?_⟩
    rw [hgr.block k (by simp; omega) hne]
    exact hal k hk
  · intro k hk
    rcases hst k hk with h | h
    · exact .inl h
    · right; simp at h; omega
/-- The same as one step of a region that draws its order. -/
theorem step_append1s {α : Type} [Rep α] {S : Nat → Prop} {K : Act → World → Prop} {E : Prop} {s x : Operand} {t e : TypeId} {z : Value} {bytes : Nat} (hgd : o.guard = none)
    (ho : o.op = .call { callee := .builtin .append, args := #[s, x], argTypes := #[t, t] }) (ht : P.underlying t = some (.slice e))
    (hi : (P.info? e).map (fun i => (i.zero, i.size, i.bytes)) = some (some z, Rep.sz α, bytes)) (hz : z.cells.size = Rep.sz α) (hp : 0 < Rep.sz α)
    {B : Nat} {v : Value} {xs : List α} {y : α} {cs : List Value} {w0 : World} {e' : TypeId} (hs : a.eval s = v) {g : Nat} (hx : a.eval x = .slice (some ⟨g, 0, none⟩) 1 1) (hw : w = w0.alloc (.cells cs.toArray e')) (hg : g = w0.heap.size) (hown : Own S w0 B e v xs) (hy : Rep.cells S w0 cs y)
    (hS : ∀ b, S b → b < w0.heap.size ∧ v.ownBlock ≠ some b) (h63 : xs.length + 1 ≤ maxLen) (hbytes : (xs.length + 1) * bytes ≤ 140737488355328) (hbase : B ≤ w0.heap.size)
    (h : ∀ v' w', Own S w' B e v' (xs ++ [y]) → w0.grownBy w' v.ownBlock → Stay w0 v v' → K (a.put o.dst v') w') : if Region.wanted o (yielded ops a.tmps) = true then Oper.wp P o a w K Q else E := by
  have hwt : Region.wanted o (yielded ops a.tmps) = true := by simp [Region.wanted, hgd]
  rw [if_pos hwt]
  subst hw hg
  have hal : ∀ b, b < w0.heap.size → (w0.alloc (.cells cs.toArray e')).heap[b]? = w0.heap[b]? := fun b hb => Below.heap_alloc _ _ _ hb
  obtain ⟨i, hi, hz0, hz1, hz2⟩ := info_parts hi
  obtain ⟨css, h1, h2, hrow⟩ := hown.alloc (.cells cs.toArray e') (fun b hb => (hS b hb).1)
  have hcl : cs.length = Rep.sz α := Rep.len hy
  have hcell : ∀ j u, cs[j]? = some u → (w0.alloc (.cells cs.toArray e')).cell? ((⟨w0.heap.size, 0, none⟩ : Addr).add j) = some u := fun j u hu => by
    rw [Addr.add_lit, Nat.zero_add]
    have : (w0.alloc (.cells cs.toArray e')).heap[w0.heap.size]? = some (.cells cs.toArray e' (0, 0)) := heap_alloc_new _ _
    simp only [World.cell?]
    rw [this]
    simpa using hu
  have hone : ∀ u ∈ cs, u.oneCell' = true := Rep.one hy
  obtain ⟨v', w', hr, ho', hgr, -⟩ := run_append_own (P := P) (w0.alloc (.cells cs.toArray e')) B t o.type e i z (Rep.sz α) bytes ht hi hz0 hz1 hz2 hz hp v xs.length css.flatten hrow ⟨w0.heap.size, 0, none⟩ 1 1 cs (by simpa using hcl) hcell hone h63 hbytes (by simp; omega)
  have hst := append_block (P := P) ht hi hz0 (base := B) (hz1 ▸ hrow) (by rw [hz1]; simpa using hcl) hcell hone (by omega) h63 (by rw [hz2]; exact hbytes) hr
  unfold Oper.wp execOp
  simp only [ho, resolve, invoke, builtin, Sem.run_bind, Sem.run_pure, Result.andThen_ok, List.map_toArray, List.map_cons, List.map_nil, hs, hx, hr]
  refine h v' w' ?_ ?_ ?_
  · refine Own.more (S := S) (w0 := w0.alloc (.cells cs.toArray e')) (dss := [cs]) (ys := [y]) h1 h2 rfl (fun k x cs' hx hc => ?_) (fun b hb => ?_) (by simpa using ho')
    · have hk : k = 0 := by have := (List.getElem?_eq_some_iff.1 hx).1; simp at this; exact this
      subst hk
      simp at hx hc
      subst hx hc
      exact Rep.keep (fun b hb => hal b (hS b hb).1) hy
    · exact hgr.block b (by have := (hS b hb).1; simp; omega) (fun e => (hS b hb).2 e.symm)
  · refine ⟨hgr.os, hgr.tape, hgr.output, Nat.le_trans (by simp) hgr.size, fun k hk hne => ?_⟩
    rw [hgr.block k (by simp; omega) hne]
    exact hal k hk
  · intro k hk
    rcases hst k hk with h | h
    · exact .inl h
    · right; simp at h; omega
end
end Go.Bk
