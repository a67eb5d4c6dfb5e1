/- General: a map of a call's own, of whatever keys, with the number of its entries; a range over it. No program is named here. -/
import Derived.Test.YtjlnaiiajlahgaaMapG
import Derived.Maps.RangeWalk
set_option linter.unusedVariables false
set_option linter.unusedSimpArgs false
namespace Go.Bk
open Go.RowKit Go.Maps

/-- Block g is a map of just s entries that reads as f. -/
def ZMap {P : Program} {K : TypeId} {κ : Type} (T : KeyT P K κ) (w : World) (g n s : Nat) (f : κ → Option Value) : Prop :=
  ∃ D : DataW Value, w.ownsMap P K anyElem g n D ∧ IsMap D ∧ (∀ k, T.good k → ∀ z, D.atKey (T.lit k) (.held z) = .held ((f k).getD z)) ∧ Maps.size D = s ∧
    (∀ kl, Maps.has D kl = true → ∃ k, T.good k ∧ kl = T.lit k ∧ (f k).isSome = true) ∧ (∀ k, T.good k → Maps.has D (T.lit k) = (f k).isSome)
section
variable {P : Program} {K E M : TypeId} {κ : Type} {T : KeyT P K κ} {w w' : World} {g n s : Nat} {f : κ → Option Value}
theorem ZMap.gmap (h : ZMap T w g n s f) : GMap T w g n f := by obtain ⟨D, h1, h2, h3, -⟩ := h; exact ⟨D, h1, h2, h3⟩
theorem ZMap.made (T : KeyT P K κ) (w : World) : ZMap T (w.alloc (.map #[] 0)) w.heap.size 0 0 (fun _ => none) :=
  ⟨.map [], World.ownsMap_made _ _ _ _, isMap_empty, fun _ _ _ => rfl, rfl, fun kl h => absurd (show (false : Bool) = true from h) (by simp), fun _ _ => rfl⟩
theorem ZMap.lt (h : ZMap T w g n s f) : g < w.heap.size := h.gmap.lt
theorem ZMap.block (h : ZMap T w g n s f) (hb : w'.heap[g]? = w.heap[g]?) : ZMap T w' g n s f := by
  obtain ⟨D, ⟨es, clock, h1, h3⟩, h2⟩ := h
  exact ⟨D, ⟨es, clock, hb.trans h1, h3⟩, h2⟩
theorem ZMap.below (h : ZMap T w g n s f) (hb : Below w.heap.size w w') : ZMap T w' g n s f := h.block (hb.block g h.lt)
theorem ZMap.boxed (h : ZMap T w g n s f) (b : Obj) : ZMap T (w.alloc b) g n s f := h.below ((Below.refl _ _).alloc (Nat.le_refl _) _)
theorem ZMap.quiet (h : ZMap T w g n s f) (hq : Quiet w w') : ZMap T w' g n s f := h.block (hq.heap g)
theorem ZMap.congr {f' : κ → Option Value} (h : ZMap T w g n s f) (he : ∀ x, f x = f' x) : ZMap T w g n s f' := by rw [← funext he]; exact h
/-- What is left of it behind a store. -/
theorem ZMap.stored [DecidableEq κ] {D : DataW Value} (h1 : w.ownsMap P K anyElem g n D) (h2 : IsMap D) (h3 : ∀ k, T.good k → ∀ z, D.atKey (T.lit k) (.held z) = .held ((f k).getD z)) (h4 : Maps.size D = s)
    (h5 : ∀ kl, Maps.has D kl = true → ∃ k, T.good k ∧ kl = T.lit k ∧ (f k).isSome = true) (h6 : ∀ k, T.good k → Maps.has D (T.lit k) = (f k).isSome) {k : κ} (hk : T.good k) (z : Value) {m : Nat} (hown : w'.ownsMap P K anyElem g m (D.put (T.lit k) (.held z))) :
    ZMap T w' g m (if (f k).isSome then s else s + 1) (fun k' => if k' = k then some z else f k') := by
  have hkey := T.keyed.key (T.reads k hk)
  refine ⟨_, hown, h2.put _ _, fun k' hk' z' => ?_, ?_, fun kl hkl => ?_, fun k' hk' => ?_⟩
  · by_cases hky : k' = k
    · subst hky
      simp only [if_true]
      exact atKey_put_same h2 hkey _ _
    · simp only [hky, if_false]
      rw [atKey_put_other (T.ne hk' hk hky)]
      exact h3 k' hk' z'
  · rw [size_put (h1.tidy T.keyed), h6 k hk, h4]
  · by_cases e : kl = T.lit k
    · exact ⟨k, hk, e, by simp⟩
    · rw [has_put_other e] at hkl
      obtain ⟨k', hk', e', hs⟩ := h5 kl hkl
      refine ⟨k', hk', e', ?_⟩
      by_cases hky : k' = k
      · simp [hky]
      · simp only [hky, if_false]; exact hs
  · by_cases hky : k' = k
    · subst hky
      simp only [if_true]
      rw [has_put_same h2 hkey]; rfl
    · simp only [hky, if_false]
      rw [has_put_other (T.ne hk' hk hky)]
      exact h6 k' hk'
section
variable {ops : Array Oper} {Q : Exit → Act → World → Prop} {a : Act} {rest : List Oper} {o : Oper}
/-- 'm[k] = v'. -/
theorem wp_zmap_put [DecidableEq κ] (hg : o.guard = none) {m x v : Operand} (hop : o.op = Op.mapUpdate M m x v) (hM : P.underlying M = some (.map K E)) (hm : a.eval m = .map (some g)) (h : ZMap T w g n s f) (hn : n < 1000000000) {k : κ} {z : Value} (hx : a.eval x = T.val k) (hv : a.eval v = z) (hk : T.good k)
    (hK : ∀ w', ZMap T w' g (n + 1) (if (f k).isSome then s else s + 1) (fun k' => if k' = k then some z else f k') → w.grownBy w' (some g) → wpList P ops Q rest (a.put o.dst undef) w') : wpList P ops Q (o :: rest) a w := by
  obtain ⟨D, h1, h2, h3, h4, h5, h6⟩ := h
  exact wpList_mapUpdate_own w hg m x v M hop K E T.keyed hM anyElem g n D hm h1 (by unfold maxLen; omega) (T.val k) z (T.lit k) hx hv (T.reads k hk) (.held z) [] rfl fun w' k1 k2 => hK w' (ZMap.stored h1 h2 h3 h4 h5 h6 hk z k1) k2
/-- 'len(m)'. -/
theorem wp_zmap_len (hg : o.guard = none) {m : Operand} (hop : o.op = Op.call { callee := Callee.builtin Builtin.len, args := #[m], argTypes := #[M] }) (hM : P.underlying M = some (.map K E)) (hm : a.eval m = .map (some g)) (h : ZMap T w g n s f)
    (hK : wpList P ops Q rest (a.put o.dst (.int .i64 (s : Int))) w) : wpList P ops Q (o :: rest) a w := by
  obtain ⟨D, h1, -, -, h4, -⟩ := h
  exact wpList_len_own w hg m M hop K E hM anyElem g n D hm h1 (by rw [h4]; exact hK)
end
/-- A range over it under way: acc are the keys that have come. -/
def ZRange (T : KeyT P K κ) (w : World) (g r n : Nat) (f : κ → Option Value) (acc : List κ) (cnt : Nat) : Prop :=
  ∃ (D : DataW Value) (left : Lit → Bool), w.ranges P K anyElem g r n D left cnt ∧ (∀ k, T.good k → ∀ z, D.atKey (T.lit k) (.held z) = .held ((f k).getD z)) ∧
    (∀ kl, left kl = true → ∃ k, T.good k ∧ kl = T.lit k ∧ (f k).isSome = true) ∧ (∀ k, T.good k → (left (T.lit k) = true ↔ (f k).isSome = true ∧ k ∉ acc))
theorem ZRange.left_eq {r cnt : Nat} {acc : List κ} (h : ZRange T w g r n f acc cnt) : w.rangeLeft g r = cnt := by obtain ⟨D, left, h, -⟩ := h; exact h.left_eq
theorem ZRange.kept {r cnt : Nat} {acc : List κ} {row : Option Nat} (h : ZRange T w g r n f acc cnt) (hg : w.grownBy w' row) (hb : some g ≠ row) (hr : some r ≠ row) : ZRange T w' g r n f acc cnt := by
  obtain ⟨D, left, h1, h2⟩ := h
  exact ⟨D, left, h1.kept hg hb hr, h2⟩
theorem ZRange.alloc {r cnt : Nat} {acc : List κ} (h : ZRange T w g r n f acc cnt) (o : Obj) : ZRange T (w.alloc o) g r n f acc cnt := by
  obtain ⟨D, left, h1, h2⟩ := h
  exact ⟨D, left, h1.alloc o, h2⟩
theorem ZRange.lt {r cnt : Nat} {acc : List κ} (h : ZRange T w g r n f acc cnt) : r < w.heap.size := by obtain ⟨D, left, h, -⟩ := h; exact h.lt
theorem ZRange.ne {r cnt : Nat} {acc : List κ} (h : ZRange T w g r n f acc cnt) : r ≠ g := by obtain ⟨D, left, h, -⟩ := h; exact h.ne
section
variable {ops : Array Oper} {Q : Exit → Act → World → Prop} {a : Act} {rest : List Oper} {o : Oper}
/-- 'range m'. -/
theorem wp_zmap_range (hg : o.guard = none) {m : Operand} (hop : o.op = Op.range M m) (hM : P.underlying M = some (.map K E)) (hm : a.eval m = .map (some g)) (h : ZMap T w g n s f)
    (hK : ∀ w', ZRange T w' g w.heap.size n f [] s → w.grownBy w' none → w'.heap.size = w.heap.size + 1 → wpList P ops Q rest (a.put o.dst (.pointer (some ⟨w.heap.size, 0, none⟩))) w') : wpList P ops Q (o :: rest) a w := by
  obtain ⟨D, h1, h2, h3, h4, h5, h6⟩ := h
  refine wpList_range_own w hg m M hop K E T.keyed hM anyElem g n D hm h1 fun w' k1 k2 k3 => hK w' ⟨D, _, h4 ▸ k1, h3, h5, fun k hk => ?_⟩ k2 k3
  rw [h6 k hk]
  simp
/-- The step. -/
theorem wp_zmap_next (hg : o.guard = none) {it : Operand} (hop : o.op = Op.next it false) {r cnt : Nat} {acc : List κ} (hit : a.eval it = .pointer (some ⟨r, 0, none⟩)) (h : ZRange T w g r n f acc cnt)
    (hDone : (∀ k, T.good k → (f k).isSome = true → k ∈ acc) → wpList P ops Q rest (a.put o.dst (.tuple #[.bool false])) w)
    (hMore : ∀ (x c : Value) (k : κ) (w' : World) (cnt' : Nat), T.good k → f k = some c → k ∉ acc → ZRange T w' g r n f (acc ++ [k]) cnt' → cnt' < cnt → w.grownBy w' (some r) → w'.heap.size = w.heap.size →
      (Instr.entry (.pointer (some ⟨r, 0, none⟩))).run P w' = .ok (.tuple #[x, c]) w' → wpList P ops Q rest (a.put o.dst (.tuple #[.bool true, x, c])) w') : wpList P ops Q (o :: rest) a w := by
  obtain ⟨D, left, h1, h3, h5, h6⟩ := h
  refine wpList_next_ranges (α := Value) (β := Value) w hg it hop K T.keyed anyElem id id (fun key kl _ => ⟨key, rfl⟩) (fun v y _ => ⟨v, rfl⟩) g r n D left cnt hit h1 (fun h0 hl => hDone fun k hk hs => ?_) fun x c kl y w' cnt' hkey hlk hv hat hrg hlt hgr hsz hen => ?_
  · refine Classical.byContradiction fun hno => ?_
    have := (h6 k hk).2 ⟨hs, hno⟩
    rw [hl] at this
    cases this
  · obtain ⟨k, hk, rfl, hs⟩ := h5 kl hlk
    obtain ⟨-, hno⟩ := (h6 k hk).1 hlk
    have hc : f k = some c := by
      have e1 := h3 k hk c
      rw [hat] at e1
      have e2 : y = (.held c, []) := (Option.some.inj hv).symm
      rw [e2] at e1
      cases hfk : f k with
      | none => rw [hfk] at hs; cases hs
      | some v => rw [hfk] at e1; injection e1 with e1; exact congrArg some e1.symm
    refine hMore x c k w' cnt' hk hc hno ⟨D, _, hrg, h3, fun kl' hl' => ?_, fun k' hk' => ?_⟩ hlt hgr hsz hen
    · simp only [Bool.and_eq_true] at hl'
      exact h5 kl' hl'.1
    · have hkl := T.keyed.key (T.reads k hk)
      simp only [Bool.and_eq_true, Bool.not_eq_true', List.mem_append, List.mem_singleton, not_or]
      rw [h6 k' hk']
      constructor
      · rintro ⟨⟨q1, q2⟩, q3⟩
        refine ⟨q1, q2, fun e => ?_⟩
        subst e
        rw [WideAt.sameKey_self hkl] at q3
        cases q3
      · rintro ⟨q1, q2, q3⟩
        exact ⟨⟨q1, q2⟩, sameKey_ne (T.ne hk' hk q3)⟩
end
end
end Go.Bk
