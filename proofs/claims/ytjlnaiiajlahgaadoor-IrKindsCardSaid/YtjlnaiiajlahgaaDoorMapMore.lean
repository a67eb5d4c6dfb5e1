/- General: more of a map from ints to ints that a call makes itself: delete, len, range. No program is named here. -/
import Derived.Test.YtjlnaiiajlahgaaDoorMap
import Derived.Maps.RangeWalk
set_option linter.unusedVariables false
set_option linter.unusedSimpArgs false
namespace Go.Bk
open Go.RowKit Go.Maps
open Go.WideElems (Fit rd rg rd_key rg_of)

section
variable {P : Program} {K E T : TypeId} {w w' : World} {g n : Nat} {f : Int → Option Int}
variable {ops : Array Oper} {Q : Exit → Act → World → Prop} {a : Act} {rest : List Oper} {o : Oper}

/-- 'delete(m, x)'. -/
theorem wp_imap_del (hg : o.guard = none) {m x : Operand} (hop : o.op = Op.call { callee := Callee.builtin Builtin.delete, args := #[m, x], argTypes := #[T, K] })
    (hK : P.underlying K = some (.int .i64)) (hT : P.underlying T = some (.map K E)) (hm : a.eval m = .map (some g)) (h : IMap P K E w g n f) {y : Int} (hx : a.eval x = .int .i64 y) (hy : I64 y)
    (hk : ∀ w', IMap P K E w' g n (fun k => if k = y then none else f k) → w.grownBy w' (some g) → wpList P ops Q rest (a.put o.dst (.tuple #[])) w') : wpList P ops Q (o :: rest) a w := by
  obtain ⟨D, h, hmm, hf⟩ := h
  refine wpList_delete_own w hg m x T K hop E (int_keyed hK) hT (plainElem P E) g n D hm h (.int .i64 y) (ik y) hx (keyOf_int_mk hK hy.wf) fun w' h1 h2 => hk w' ⟨_, h1, hmm.del _, fun k => ?_⟩ h2.grown
  by_cases hky : k = y
  · subst hky
    simp only [if_true]
    exact ⟨has_del_same, atKey_del_same _⟩
  · simp only [hky, if_false]
    have hne : ik k ≠ ik y := fun e => hky (by injection e)
    rw [has_del_other hne, atKey_del_other hne]
    exact hf k

theorem same_ik (x y : Int) : (ik x).sameKey (ik y) = decide (x = y) := by
  by_cases h : x = y
  · subst h; simp [Lit.sameKey]
  · simp [Lit.sameKey, h]
theorem size_zero {D : DataW Unit} (hK : P.underlying K = some (.int .i64)) (h : w.ownsMap P K (plainElem P E) g n D) (hf : ∀ x : Int, has D (ik x) = (f x).isSome) : size D = 0 ↔ ∀ x, f x = none := by
  obtain ⟨es, clock, -, F, -, rfl⟩ := h
  constructor
  · intro h0 x
    have := hf x
    rw [size_eq] at h0
    rw [has_eq, List.length_eq_zero_iff.1 h0] at this
    cases hx : f x with
    | none => rfl
    | some _ => rw [hx] at this; cases this
  · intro h0
    refine Classical.byContradiction fun hne => ?_
    rw [size_eq] at hne
    obtain ⟨p, hp⟩ := List.exists_mem_of_length_pos (Nat.pos_of_ne_zero hne)
    have hp' := mem_sorted.1 hp
    obtain ⟨e, he, rfl⟩ := List.mem_map.1 hp'
    obtain ⟨y, hy⟩ := F.reads e he
    obtain ⟨z, -, hz, -⟩ := keyOf_int_inv hK (rd_key hy)
    have := hf z
    rw [h0 z, has_eq] at this
    have hany : (List.foldr DataW.insert [] (List.map (rg P K (plainElem P E)) es.toList)).any (fun p => p.1.sameKey (ik z)) = true := List.any_eq_true.2 ⟨_, hp, by rw [rg_of hy, hz, same_ik]; simp⟩
    rw [hany] at this
    cases this

/-- 'len(m)': nought just where nothing is there. -/
theorem wp_imap_len (hg : o.guard = none) {m : Operand} (hop : o.op = Op.call { callee := Callee.builtin Builtin.len, args := #[m], argTypes := #[T] })
    (hK : P.underlying K = some (.int .i64)) (hT : P.underlying T = some (.map K E)) (hm : a.eval m = .map (some g)) (h : IMap P K E w g n f)
    (hk : ∀ s : Nat, (s = 0 ↔ ∀ x, f x = none) → wpList P ops Q rest (a.put o.dst (.int .i64 (s : Int))) w) : wpList P ops Q (o :: rest) a w := by
  obtain ⟨D, h, hmm, hf⟩ := h
  exact wpList_len_own w hg m T hop K E hT (plainElem P E) g n D hm h (hk _ (size_zero hK h (fun x => (hf x).1)))

/-- Block r is an iterator over the map that block g is; 'left x': is the entry at x still to come? -/
def IRng (P : Program) (K E : TypeId) (w : World) (g r n : Nat) (f : Int → Option Int) (left : Int → Bool) (cnt : Nat) : Prop :=
  ∃ (D : DataW Unit) (lf : Lit → Bool), w.ranges P K (plainElem P E) g r n D lf cnt ∧ IsMap D ∧ (∀ x : Int, has D (ik x) = (f x).isSome ∧ D.atKey (ik x) (.lit (.int .i64 0)) = .lit (.int .i64 ((f x).getD 0))) ∧ (∀ x, lf (ik x) = left x) ∧ ∀ x, left x = true → (f x).isSome = true
theorem IRng.map {r : Nat} {left : Int → Bool} {cnt : Nat} (h : IRng P K E w g r n f left cnt) : IMap P K E w g n f := by
  obtain ⟨D, lf, h1, h2, h3, -⟩ := h
  exact ⟨D, h1.owns, h2, h3⟩
theorem IRng.left_eq {r : Nat} {left : Int → Bool} {cnt : Nat} (h : IRng P K E w g r n f left cnt) : w.rangeLeft g r = cnt := by
  obtain ⟨D, lf, h1, -⟩ := h
  exact h1.left_eq
/-- 'range m'. -/
theorem wp_imap_range (hg : o.guard = none) {m : Operand} (hop : o.op = Op.range T m) (hK : P.underlying K = some (.int .i64)) (hT : P.underlying T = some (.map K E)) (hm : a.eval m = .map (some g)) (h : IMap P K E w g n f)
    (hk : ∀ w' cnt, IRng P K E w' g w.heap.size n f (fun x => (f x).isSome) cnt → w.grownBy w' none → w'.heap.size = w.heap.size + 1 → wpList P ops Q rest (a.put o.dst (.pointer (some ⟨w.heap.size, 0, none⟩))) w') : wpList P ops Q (o :: rest) a w := by
  obtain ⟨D, h, hmm, hf⟩ := h
  exact wpList_range_own w hg m T hop K E (int_keyed hK) hT (plainElem P E) g n D hm h fun w' h1 h2 h3 => hk w' _ ⟨D, _, h1, hmm, hf, fun x => (hf x).1, fun x hx => hx⟩ h2 h3
/-- The step. -/
theorem wp_imap_next {r : Nat} {left : Int → Bool} {cnt : Nat} (hg : o.guard = none) {it : Operand} (hop : o.op = Op.next it false) (hK : P.underlying K = some (.int .i64)) (hE : P.underlying E = some (.int .i64)) (hit : a.eval it = .pointer (some ⟨r, 0, none⟩)) (h : IRng P K E w g r n f left cnt)
    (hDone : (∀ x, left x = false) → wpList P ops Q rest (a.put o.dst (.tuple #[.bool false])) w)
    (hMore : ∀ (x c : Int) (w' : World) (cnt' : Nat), I64 x → I64 c → left x = true → f x = some c → IRng P K E w' g r n f (fun z => left z && !decide (z = x)) cnt' → cnt' < cnt →
      w.grownBy w' (some r) → w'.heap.size = w.heap.size → (Instr.entry (.pointer (some ⟨r, 0, none⟩))).run P w' = .ok (.tuple #[.int .i64 x, .int .i64 c]) w' → wpList P ops Q rest (a.put o.dst (.tuple #[.bool true, .int .i64 x, .int .i64 c])) w') : wpList P ops Q (o :: rest) a w := by
  obtain ⟨D, lf, h, hmm, hf, hl, hi⟩ := h
  refine wpList_next_ranges_ii w hg it hop K E .i64 .i64 (int_keyed hK) hK hE g r n D lf cnt hit h (fun _ h0 => hDone fun x => by rw [← hl x]; exact h0 _) fun x c w' cnt' hwx hwc hlx hat hrg hlt hgr hsz hen => ?_
  have hx : left x = true := by rw [← hl x]; exact hlx
  have hfx : f x = some c := by
    have h1 := hat (.lit (.int .i64 0))
    rw [(hf x).2] at h1
    have h2 := hi x hx
    cases hv : f x with
    | none => rw [hv] at h2; cases h2
    | some z => rw [hv] at h1; injection h1 with h1; injection h1 with _ h1; rw [← h1]; rfl
  refine hMore x c w' cnt' (I64.of_wf hwx) (I64.of_wf hwc) hx hfx ⟨D, _, hrg, hmm, hf, fun z => ?_, fun z hz => hi z ?_⟩ hlt hgr hsz hen
  · rw [hl z, same_ik]
  · simp at hz; exact hz.1
end
end Go.Bk
