/- General: append of one element that lies in a box of its own, wherever that was laid. No program is named here. -/
import Derived.Test.YtjlnaiiajlahgaaApart
set_option linter.unusedVariables false
set_option linter.unusedSimpArgs false
namespace Go.Bk
open Go.RowKit
section
variable {P : Program} {ops : Array Oper} {Q : Exit → Act → World → Prop} {a : Act} {w : World} {rest : List Oper} {o : Oper}
theorem wp_appB {α : Type} [Rep α] {s x : Operand} {t e : TypeId} {z : Value} {bytes : Nat} (hgd : o.guard = none)
    (ho : o.op = .call { callee := .builtin .append, args := #[s, x], argTypes := #[t, t] }) (ht : P.underlying t = some (.slice e))
    (hi : (P.info? e).map (fun i => (i.zero, i.size, i.bytes)) = some (some z, Rep.sz α, bytes)) (hz : z.cells.size = Rep.sz α) (hp : 0 < Rep.sz α)
    {B b : Nat} {v : Value} {xs : List α} {y : α} {cs : List Value} {e' : TypeId} (hs : a.eval s = v) (hx : a.eval x = .slice (some ⟨b, 0, none⟩) 1 1) (hbk : Blk w b e' cs) (hown : Own (fun _ => False) w B e v xs) (hy : Rep.cells (fun _ => False) w cs y)
    (h63 : xs.length + 1 ≤ maxLen) (hbytes : (xs.length + 1) * bytes ≤ 140737488355328) (hbase : B ≤ w.heap.size)
    (h : ∀ v' w', Own (fun _ => False) w' B e v' (xs ++ [y]) → w.grownBy w' v.ownBlock → Stay w v v' → wpList P ops Q rest (a.put o.dst v') w') : wpList P ops Q (o :: rest) a w := by
  obtain ⟨i, hi, hz0, hz1, hz2⟩ := info_parts hi
  obtain ⟨css, h1, h2, hrow⟩ := hown
  have hcl : cs.length = Rep.sz α := Rep.len hy
  have hcell : ∀ j u, cs[j]? = some u → w.cell? ((⟨b, 0, none⟩ : Addr).add j) = some u := fun j u hu => by
    rw [Addr.add_lit, Nat.zero_add]
    exact hbk.cell hu
  have hone : ∀ u ∈ cs, u.oneCell' = true := Rep.one hy
  obtain ⟨v', w', hr, ho', hgr, -⟩ := run_append_own (P := P) w B t o.type e i z (Rep.sz α) bytes ht hi hz0 hz1 hz2 hz hp v xs.length css.flatten hrow ⟨b, 0, none⟩ 1 1 cs (by simpa using hcl) hcell hone h63 hbytes hbase
  have hst := append_block (P := P) ht hi hz0 (base := B) (hz1 ▸ hrow) (by rw [hz1]; simpa using hcl) hcell hone (by omega) h63 (by rw [hz2]; exact hbytes) hr
  refine wpList_plain hgd fun K hK => ?_
  unfold Oper.wp execOp
  simp only [ho, resolve, invoke, builtin, Sem.run_bind, Sem.run_pure, Result.andThen_ok, List.map_toArray, List.map_cons, List.map_nil, hs, hx, hr]
  refine hK _ _ (h v' w' ?_ hgr hst)
  refine Own.more (S := fun _ => False) (w0 := w) (dss := [cs]) (ys := [y]) h1 h2 rfl (fun k x cs' hx hc => ?_) (fun b hb => hb.elim) (by simpa using ho')
  have hk : k = 0 := by have := (List.getElem?_eq_some_iff.1 hx).1; simp at this; exact this
  subst hk
  simp at hx hc
  subst hx hc
  exact hy
end
end Go.Bk
