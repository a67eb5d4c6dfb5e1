/- General: a map from ints to ints that a call makes itself, read as a function. No program is named here. -/
import Derived.Test.YtekofpigmggbbaaDoorMem
import Derived.Maps.OwnOps
import Derived.Maps.OwnSet
import Derived.Maps.Views
import Derived.Maps.RangeWalk
import Derived.DeepKeys5
set_option linter.unusedVariables false
set_option linter.unusedSimpArgs false
namespace Go.Bk
open Go.RowKit Go.Maps

abbrev ik (k : Int) : Lit := .int .i64 k
/-- Block g is a map of at most n entries that reads as f. -/
def IMap (P : Program) (K E : TypeId) (w : World) (g n : Nat) (f : Int → Option Int) : Prop :=
  ∃ D : DataW Unit, w.ownsMap P K (plainElem P E) g n D ∧ IsMap D ∧ ∀ x : Int, has D (ik x) = (f x).isSome ∧ D.atKey (ik x) (.lit (.int .i64 0)) = .lit (.int .i64 ((f x).getD 0))

section
variable {P : Program} {K E T : TypeId} {w w' : World} {g n : Nat} {f : Int → Option Int}

theorem IMap.made (P : Program) (K E : TypeId) (w : World) : IMap P K E (w.alloc (.map #[] 0)) w.heap.size 0 (fun _ => none) :=
  ⟨.map [], World.ownsMap_made _ _ _ _, isMap_empty, fun _ => ⟨rfl, rfl⟩⟩
theorem IMap.lt (h : IMap P K E w g n f) : g < w.heap.size := by obtain ⟨D, h, _⟩ := h; exact h.lt
theorem IMap.mono (h : IMap P K E w g n f) {m : Nat} (hn : n ≤ m) : IMap P K E w g m f := by obtain ⟨D, h, h2⟩ := h; exact ⟨D, h.mono hn, h2⟩
theorem IMap.kept {row : Option Nat} (h : IMap P K E w g n f) (hg : w.grownBy w' row) (hne : some g ≠ row) : IMap P K E w' g n f := by obtain ⟨D, h, h2⟩ := h; exact ⟨D, h.kept hg hne, h2⟩
theorem IMap.block (h : IMap P K E w g n f) (hb : w'.heap[g]? = w.heap[g]?) : IMap P K E w' g n f := by
  obtain ⟨D, ⟨es, clock, h1, h3⟩, h2⟩ := h
  exact ⟨D, ⟨es, clock, hb.trans h1, h3⟩, h2⟩
theorem IMap.below (h : IMap P K E w g n f) (hb : Below w.heap.size w w') : IMap P K E w' g n f := h.block (hb.block g h.lt)
theorem IMap.congr {f' : Int → Option Int} (h : IMap P K E w g n f) (he : ∀ x, f x = f' x) : IMap P K E w g n f' := by rw [← funext he]; exact h

/-- 'm[x]': the run. -/
theorem IMap.get (h : IMap P K E w g n f) (hK : P.underlying K = some (.int .i64)) (hE : P.underlying E = some (.int .i64)) (hT : P.underlying T = some (.map K E)) (hz : (zeroValue E).run P w = .ok (.int .i64 0) w) {x : Int} (hx : I64 x) :
    (Instr.lookup T (.map (some g)) (.int .i64 x) false).run P w = .ok (.int .i64 ((f x).getD 0)) w := by
  obtain ⟨D, h, hm, hf⟩ := h
  obtain ⟨c, hrun, hat, _⟩ := h.lookup_int (int_keyed hK) hT hE hz (key := .int .i64 x) (kl := ik x) (keyOf_int_mk hK hx.wf)
  rw [(hf x).2] at hat
  have : c = (f x).getD 0 := by injection hat with h1; injection h1 with _ h2; exact h2.symm
  rw [hrun, this]

/-- 'm[x] = v'. -/
theorem wp_imap_put {ops : Array Oper} {Q : Exit → Act → World → Prop} {a : Act} {rest : List Oper} {o : Oper} (hg : o.guard = none) {m x v : Operand} (hop : o.op = Op.mapUpdate T m x v)
    (hK : P.underlying K = some (.int .i64)) (hE : P.underlying E = some (.int .i64)) (hT : P.underlying T = some (.map K E)) (hm : a.eval m = .map (some g)) (h : IMap P K E w g n f) (hn : n < 1000000000) {y z : Int} (hx : a.eval x = .int .i64 y) (hv : a.eval v = .int .i64 z) (hy : I64 y) (hz : I64 z)
    (hk : ∀ w', IMap P K E w' g (n + 1) (fun k => if k = y then some z else f k) → w.grownBy w' (some g) → wpList P ops Q rest (a.put o.dst undef) w') : wpList P ops Q (o :: rest) a w := by
  obtain ⟨D, h, hmm, hf⟩ := h
  refine wpList_mapUpdate_own w hg m x v T hop K E (int_keyed hK) hT (plainElem P E) g n D hm h (by unfold maxLen; omega) (.int .i64 y) (.int .i64 z) (ik y) hx hv (keyOf_int_mk hK hy.wf) (.lit (.int .i64 z)) [] (plainElem_int hE hz.wf) fun w' h1 h2 => hk w' ⟨_, h1, hmm.put _ _, fun k => ?_⟩ h2
  by_cases hky : k = y
  · subst hky
    simp only [if_true]
    exact ⟨has_put_same hmm (by simp [WideAt.IsKeyLit]) _, atKey_put_same hmm (by simp [WideAt.IsKeyLit]) _ _⟩
  · simp only [hky, if_false]
    have hne : ik k ≠ ik y := fun e => hky (by injection e)
    rw [has_put_other hne, atKey_put_other hne]
    exact hf k
/-- 'm[x]', as an operation. -/
theorem wp_imap_get {ops : Array Oper} {Q : Exit → Act → World → Prop} {a : Act} {rest : List Oper} {o : Oper} (hg : o.guard = none) {m x : Operand} (hop : o.op = Op.lookup T m x false)
    (hK : P.underlying K = some (.int .i64)) (hE : P.underlying E = some (.int .i64)) (hT : P.underlying T = some (.map K E)) (hz : (zeroValue E).run P w = .ok (.int .i64 0) w) (hm : a.eval m = .map (some g)) (h : IMap P K E w g n f) {y : Int} (hx : a.eval x = .int .i64 y) (hy : I64 y)
    (hk : wpList P ops Q rest (a.put o.dst (.int .i64 ((f y).getD 0))) w) : wpList P ops Q (o :: rest) a w := by
  obtain ⟨D, h, hmm, hf⟩ := h
  refine wpList_lookup_own_int w hg m x T hop K E .i64 (int_keyed hK) hT hE hz g n D hm h (.int .i64 y) (ik y) hx (keyOf_int_mk hK hy.wf) fun c hat _ => ?_
  rw [(hf y).2] at hat
  have : c = (f y).getD 0 := by injection hat with h1; injection h1 with _ h2; exact h2.symm
  rw [this]
  exact hk
/-- 'v, ok := m[x]'. -/
theorem wp_imap_getok {ops : Array Oper} {Q : Exit → Act → World → Prop} {a : Act} {rest : List Oper} {o : Oper} (hg : o.guard = none) {m x : Operand} (hop : o.op = Op.lookup T m x true)
    (hK : P.underlying K = some (.int .i64)) (hE : P.underlying E = some (.int .i64)) (hT : P.underlying T = some (.map K E)) (hz : (zeroValue E).run P w = .ok (.int .i64 0) w) (hm : a.eval m = .map (some g)) (h : IMap P K E w g n f) {y : Int} (hx : a.eval x = .int .i64 y) (hy : I64 y)
    (hk : wpList P ops Q rest (a.put o.dst (.tuple #[.int .i64 ((f y).getD 0), .bool (f y).isSome])) w) : wpList P ops Q (o :: rest) a w := by
  obtain ⟨D, h, hmm, hf⟩ := h
  refine wpList_lookup_own_ok_int w hg m x T hop K E .i64 (int_keyed hK) hT hE hz g n D hm h (.int .i64 y) (ik y) hx (keyOf_int_mk hK hy.wf) fun c hat _ => ?_
  rw [(hf y).2] at hat
  have : c = (f y).getD 0 := by injection hat with h1; injection h1 with _ h2; exact h2.symm
  rw [this, (hf y).1]
  exact hk
end
end Go.Bk

/- General: more of a map from ints to ints that a call makes itself: delete, len, range. No program is named here. -/
namespace Go.Bk
open Go.RowKit Go.Maps
open Go.WideElems (Fit rd rg rd_key rg_of)

section
variable {P : Program} {K E T : TypeId} {w w' : World} {g n : Nat} {f : Int → Option Int}
variable {ops : Array Oper} {Q : Exit → Act → World → Prop} {a : Act} {rest : List Oper} {o : Oper}

/-- 'delete(m, x)'. -/
theorem wp_imap_del (hg : o.guard = none) {m x : Operand} (hop : o.op = Op.call { callee := Callee.builtin Builtin.delete, args := #[m, x], argTypes := #[T, K] })
    (hK : P.underlying K = some (.int .i64)) (hT : P.underlying T = some (.map K E)) (hm : a.eval m = .map (some g)) (h : IMap P K E w g n f) {y : Int} (hx : a.eval x = .int .i64 y) (hy : I64 y)
    (hk : ∀ w', IMap P K E w' g n (fun k => if k = y then none else f k) → w.grownBy w' (some g) → wpList P ops Q rest (a.put o.dst (.tuple #[])) w') : wpList P ops Q (o :: rest) a w := by
  obtain ⟨D, h, hmm, hf⟩ := h
  refine wpList_delete_own w hg m x T K hop E (int_keyed hK) hT (plainElem P E) g n D hm h (.int .i64 y) (ik y) hx (keyOf_int_mk hK hy.wf) fun w' h1 h2 => hk w' ⟨_, h1, hmm.del _, fun k => ?_⟩ h2.grown
  by_cases hky : k = y
  · subst hky
    simp only [if_true]
    exact ⟨has_del_same, atKey_del_same _⟩
  · simp only [hky, if_false]
    have hne : ik k ≠ ik y := fun e => hky (by injection e)
    rw [has_del_other hne, atKey_del_other hne]
    exact hf k

theorem same_ik (x y : Int) : (ik x).sameKey (ik y) = decide (x = y) := by
  by_cases h : x = y
  · subst h; simp [Lit.sameKey]
  · simp [Lit.sameKey, h]
theorem size_zero {D : DataW Unit} (hK : P.underlying K = some (.int .i64)) (h : w.ownsMap P K (plainElem P E) g n D) (hf : ∀ x : Int, has D (ik x) = (f x).isSome) : size D = 0 ↔ ∀ x, f x = none := by
  obtain ⟨es, clock, -, F, -, rfl⟩ := h
  constructor
  · intro h0 x
    have := hf x
    rw [size_eq] at h0
    rw [has_eq, List.length_eq_zero_iff.1 h0] at this
    cases hx : f x with
    | none => rfl
    | some _ => rw [hx] at this; cases this
  · intro h0
    refine Classical.byContradiction fun hne => ?_
    rw [size_eq] at hne
    obtain ⟨p, hp⟩ := List.exists_mem_of_length_pos (Nat.pos_of_ne_zero hne)
    have hp' := mem_sorted.1 hp
    obtain ⟨e, he, rfl⟩ := List.mem_map.1 hp'
    obtain ⟨y, hy⟩ := F.reads e he
    obtain ⟨z, -, hz, -⟩ := keyOf_int_inv hK (rd_key hy)
    have := hf z
    rw [h0 z, has_eq] at this
    have hany : (List.foldr DataW.insert [] (List.map (rg P K (plainElem P E)) es.toList)).any (fun p => p.1.sameKey (ik z)) = true := List.any_eq_true.2 ⟨_, hp, by rw [rg_of hy, hz, same_ik]; simp⟩
    rw [hany] at this
    cases this

/-- 'len(m)': nought just where nothing is there. -/
theorem wp_imap_len (hg : o.guard = none) {m : Operand} (hop : o.op = Op.call { callee := Callee.builtin Builtin.len, args := #[m], argTypes := #[T] })
    (hK : P.underlying K = some (.int .i64)) (hT : P.underlying T = some (.map K E)) (hm : a.eval m = .map (some g)) (h : IMap P K E w g n f)
    (hk : ∀ s : Nat, (s = 0 ↔ ∀ x, f x = none) → wpList P ops Q rest (a.put o.dst (.int .i64 (s : Int))) w) : wpList P ops Q (o :: rest) a w := by
  obtain ⟨D, h, hmm, hf⟩ := h
  exact wpList_len_own w hg m T hop K E hT (plainElem P E) g n D hm h (hk _ (size_zero hK h (fun x => (hf x).1)))

/-- Block r is an iterator over the map that block g is; 'left x': is the entry at x still to come? -/
def IRng (P : Program) (K E : TypeId) (w : World) (g r n : Nat) (f : Int → Option Int) (left : Int → Bool) (cnt : Nat) : Prop :=
  ∃ (D : DataW Unit) (lf : Lit → Bool), w.ranges P K (plainElem P E) g r n D lf cnt ∧ IsMap D ∧ (∀ x : Int, has D (ik x) = (f x).isSome ∧ D.atKey (ik x) (.lit (.int .i64 0)) = .lit (.int .i64 ((f x).getD 0))) ∧ (∀ x, lf (ik x) = left x) ∧ ∀ x, left x = true → (f x).isSome = true
theorem IRng.map {r : Nat} {left : Int → Bool} {cnt : Nat} (h : IRng P K E w g r n f left cnt) : IMap P K E w g n f := by
  obtain ⟨D, lf, h1, h2, h3, -⟩ := h
  exact ⟨D, h1.owns, h2, h3⟩
theorem IRng.left_eq {r : Nat} {left : Int → Bool} {cnt : Nat} (h : IRng P K E w g r n f left cnt) : w.rangeLeft g r = cnt := by
  obtain ⟨D, lf, h1, -⟩ := h
  exact h1.left_eq
/-- 'range m'. -/
theorem wp_imap_range (hg : o.guard = none) {m : Operand} (hop : o.op = Op.range T m) (hK : P.underlying K = some (.int .i64)) (hT : P.underlying T = some (.map K E)) (hm : a.eval m = .map (some g)) (h : IMap P K E w g n f)
    (hk : ∀ w' cnt, IRng P K E w' g w.heap.size n f (fun x => (f x).isSome) cnt → w.grownBy w' none → w'.heap.size = w.heap.size + 1 → wpList P ops Q rest (a.put o.dst (.pointer (some ⟨w.heap.size, 0, none⟩))) w') : wpList P ops Q (o :: rest) a w := by
  obtain ⟨D, h, hmm, hf⟩ := h
  exact wpList_range_own w hg m T hop K E (int_keyed hK) hT (plainElem P E) g n D hm h fun w' h1 h2 h3 => hk w' _ ⟨D, _, h1, hmm, hf, fun x => (hf x).1, fun x hx => hx⟩ h2 h3
/-- The step. -/
theorem wp_imap_next {r : Nat} {left : Int → Bool} {cnt : Nat} (hg : o.guard = none) {it : Operand} (hop : o.op = Op.next it false) (hK : P.underlying K = some (.int .i64)) (hE : P.underlying E = some (.int .i64)) (hit : a.eval it = .pointer (some ⟨r, 0, none⟩)) (h : IRng P K E w g r n f left cnt)
    (hDone : (∀ x, left x = false) → wpList P ops Q rest (a.put o.dst (.tuple #[.bool false])) w)
    (hMore : ∀ (x c : Int) (w' : World) (cnt' : Nat), I64 x → I64 c → left x = true → f x = some c → IRng P K E w' g r n f (fun z => left z && !decide (z = x)) cnt' → cnt' < cnt →
      w.grownBy w' (some r) → w'.heap.size = w.heap.size → (Instr.entry (.pointer (some ⟨r, 0, none⟩))).run P w' = .ok (.tuple #[.int .i64 x, .int .i64 c]) w' → wpList P ops Q rest (a.put o.dst (.tuple #[.bool true, .int .i64 x, .int .i64 c])) w') : wpList P ops Q (o :: rest) a w := by
  obtain ⟨D, lf, h, hmm, hf, hl, hi⟩ := h
  refine wpList_next_ranges_ii w hg it hop K E .i64 .i64 (int_keyed hK) hK hE g r n D lf cnt hit h (fun _ h0 => hDone fun x => by rw [← hl x]; exact h0 _) fun x c w' cnt' hwx hwc hlx hat hrg hlt hgr hsz hen => ?_
  have hx : left x = true := by rw [← hl x]; exact hlx
  have hfx : f x = some c := by
    have h1 := hat (.lit (.int .i64 0))
    rw [(hf x).2] at h1
    have h2 := hi x hx
    cases hv : f x with
    | none => rw [hv] at h2; cases h2
    | some z => rw [hv] at h1; injection h1 with h1; injection h1 with _ h1; rw [← h1]; rfl
  refine hMore x c w' cnt' (I64.of_wf hwx) (I64.of_wf hwc) hx hfx ⟨D, _, hrg, hmm, hf, fun z => ?_, fun z hz => hi z ?_⟩ hlt hgr hsz hen
  · rw [hl z, same_ik]
  · simp at hz; exact hz.1
end
end Go.Bk

/- General: a map that a call makes itself, its keys of a type that is told, its elements whatever values, read as a function. No program is named here. -/
namespace Go.Bk
open Go.RowKit Go.Maps

def anyElem (v : Value) : Option (DataW Value × List MemPlace) := some (.held v, [])

/-- Keys of a type: how they lie in a cell, how they are told. -/
structure KeyT (P : Program) (K : TypeId) (κ : Type) where
  val : κ → Value
  lit : κ → Lit
  good : κ → Prop
  keyed : Keyed P K
  reads : ∀ k, good k → keyOf P K (val k) = some (lit k)
  inj : ∀ k k', val k = val k' → k = k'

theorem KeyT.ne {P : Program} {K : TypeId} {κ : Type} (T : KeyT P K κ) {k k' : κ} (h : T.good k) (h' : T.good k') (hne : k ≠ k') : T.lit k ≠ T.lit k' := fun e =>
  hne (T.inj _ _ (T.keyed.inj (T.reads k h) (e ▸ T.reads k' h')))

/-- Block g is a map of at most n entries that reads as f. -/
def GMap {P : Program} {K : TypeId} {κ : Type} (T : KeyT P K κ) (w : World) (g n : Nat) (f : κ → Option Value) : Prop :=
  ∃ D : DataW Value, w.ownsMap P K anyElem g n D ∧ IsMap D ∧ ∀ k, T.good k → ∀ z, D.atKey (T.lit k) (.held z) = .held ((f k).getD z)

section
variable {P : Program} {K E M : TypeId} {κ : Type} {T : KeyT P K κ} {w w' : World} {g n : Nat} {f : κ → Option Value}

theorem GMap.made (T : KeyT P K κ) (w : World) : GMap T (w.alloc (.map #[] 0)) w.heap.size 0 (fun _ => none) :=
  ⟨.map [], World.ownsMap_made _ _ _ _, isMap_empty, fun _ _ _ => rfl⟩
theorem GMap.lt (h : GMap T w g n f) : g < w.heap.size := by obtain ⟨D, h, _⟩ := h; exact h.lt
theorem GMap.mono (h : GMap T w g n f) {m : Nat} (hn : n ≤ m) : GMap T w g m f := by obtain ⟨D, h, h2⟩ := h; exact ⟨D, h.mono hn, h2⟩
theorem GMap.kept {row : Option Nat} (h : GMap T w g n f) (hg : w.grownBy w' row) (hne : some g ≠ row) : GMap T w' g n f := by obtain ⟨D, h, h2⟩ := h; exact ⟨D, h.kept hg hne, h2⟩
theorem GMap.block (h : GMap T w g n f) (hb : w'.heap[g]? = w.heap[g]?) : GMap T w' g n f := by
  obtain ⟨D, ⟨es, clock, h1, h3⟩, h2⟩ := h
  exact ⟨D, ⟨es, clock, hb.trans h1, h3⟩, h2⟩
theorem GMap.below (h : GMap T w g n f) (hb : Below w.heap.size w w') : GMap T w' g n f := h.block (hb.block g h.lt)
theorem GMap.boxed (h : GMap T w g n f) (b : Obj) : GMap T (w.alloc b) g n f := h.below ((Below.refl _ _).alloc (Nat.le_refl _) _)
theorem GMap.quiet (h : GMap T w g n f) (hq : Quiet w w') : GMap T w' g n f := h.block (hq.heap g)
theorem GMap.congr {f' : κ → Option Value} (h : GMap T w g n f) (he : ∀ x, f x = f' x) : GMap T w g n f' := by rw [← funext he]; exact h

/-- 'm[k]', 'v, ok := m[k]': the run. -/
theorem GMap.look (h : GMap T w g n f) (c : Bool) (hM : P.underlying M = some (.map K E)) {z : Value} (hz : (zeroValue E).run P w = .ok z w) {k : κ} (hk : T.good k) :
    (Instr.lookup M (.map (some g)) (T.val k) c).run P w = .ok (if c then .tuple #[(f k).getD z, .bool (f k).isSome] else (f k).getD z) w := by
  obtain ⟨D, ⟨es, clock, hb, F, _, rfl⟩, _, hf⟩ := h
  have hfk := hf k hk
  rcases fit_look c T.keyed hM hz hb F (T.reads k hk) with ⟨hrun, _, hat⟩ | ⟨e0, y, _, _, hrun, hRv, hat, _⟩
  · have hn : f k = none := by
      cases hv : f k with
      | none => rfl
      | some v =>
        rw [hv] at hfk
        have h1 := hfk (.bool true); have h2 := hfk (.bool false)
        rw [hat] at h1 h2
        injection h1 with h1; injection h2 with h2
        simp at h1 h2
        rw [← h1] at h2
        cases h2
    rw [hrun, hn]
    rfl
  · have hs : f k = some e0.val := by
      have hy : y.1 = .held e0.val := by unfold anyElem at hRv; injection hRv with hRv; rw [← hRv]
      cases hv : f k with
      | none =>
        rw [hv] at hfk
        have h1 := hfk (.bool true); have h2 := hfk (.bool false)
        rw [hat] at h1 h2
        rw [h1] at h2
        injection h2 with h2
        simp at h2
      | some v =>
        rw [hv] at hfk
        have h1 := hfk (.bool true)
        rw [hat, hy] at h1
        injection h1 with h1
        rw [h1]; rfl
    rw [hrun, hs]
    rfl
section
variable {ops : Array Oper} {Q : Exit → Act → World → Prop} {a : Act} {rest : List Oper} {o : Oper}
/-- 'v, ok := m[k]', as an operation. -/
theorem wp_gmap_getok (hg : o.guard = none) {m x : Operand} (hop : o.op = Op.lookup M m x true) (hM : P.underlying M = some (.map K E)) {z : Value} (hz : (zeroValue E).run P w = .ok z w) (hm : a.eval m = .map (some g)) (h : GMap T w g n f) {k : κ} (hx : a.eval x = T.val k) (hk : T.good k)
    (hK : wpList P ops Q rest (a.put o.dst (.tuple #[(f k).getD z, .bool (f k).isSome])) w) : wpList P ops Q (o :: rest) a w := by
  refine wpList_plain hg fun K' hK' => ?_
  have hrun := h.look true hM hz hk
  unfold Oper.wp
  simp [execOp, hop, hm, hx, hrun, Result.andThen]
  exact hK' _ _ hK
/-- 'm[k]', as an operation. -/
theorem wp_gmap_get (hg : o.guard = none) {m x : Operand} (hop : o.op = Op.lookup M m x false) (hM : P.underlying M = some (.map K E)) {z : Value} (hz : (zeroValue E).run P w = .ok z w) (hm : a.eval m = .map (some g)) (h : GMap T w g n f) {k : κ} (hx : a.eval x = T.val k) (hk : T.good k)
    (hK : wpList P ops Q rest (a.put o.dst ((f k).getD z)) w) : wpList P ops Q (o :: rest) a w := by
  refine wpList_plain hg fun K' hK' => ?_
  have hrun := h.look false hM hz hk
  unfold Oper.wp
  simp [execOp, hop, hm, hx, hrun, Result.andThen]
  exact hK' _ _ hK
/-- 'm[k] = v'. -/
theorem wp_gmap_put [DecidableEq κ] (hg : o.guard = none) {m x v : Operand} (hop : o.op = Op.mapUpdate M m x v) (hM : P.underlying M = some (.map K E)) (hm : a.eval m = .map (some g)) (h : GMap T w g n f) (hn : n < 1000000000) {k : κ} {z : Value} (hx : a.eval x = T.val k) (hv : a.eval v = z) (hk : T.good k)
    (hK : ∀ w', GMap T w' g (n + 1) (fun k' => if k' = k then some z else f k') → w.grownBy w' (some g) → wpList P ops Q rest (a.put o.dst undef) w') : wpList P ops Q (o :: rest) a w := by
  obtain ⟨D, h, hmm, hf⟩ := h
  refine wpList_mapUpdate_own w hg m x v M hop K E T.keyed hM anyElem g n D hm h (by unfold maxLen; omega) (T.val k) z (T.lit k) hx hv (T.reads k hk) (.held z) [] rfl fun w' h1 h2 => hK w' ⟨_, h1, hmm.put _ _, fun k' hk' z' => ?_⟩ h2
  by_cases hky : k' = k
  · subst hky
    simp only [if_true]
    exact atKey_put_same hmm (T.keyed.key (T.reads k' hk)) _ _
  · simp only [hky, if_false]
    rw [atKey_put_other (T.ne hk' hk hky)]
    exact hf k' hk' z'
/-- 'delete(m, k)'. -/
theorem wp_gmap_del [DecidableEq κ] (hg : o.guard = none) {m x : Operand} (hop : o.op = Op.call { callee := Callee.builtin Builtin.delete, args := #[m, x], argTypes := #[M, K] })
    (hM : P.underlying M = some (.map K E)) (hm : a.eval m = .map (some g)) (h : GMap T w g n f) {k : κ} (hx : a.eval x = T.val k) (hk : T.good k)
    (hK : ∀ w', GMap T w' g n (fun k' => if k' = k then none else f k') → w.grownBy w' (some g) → wpList P ops Q rest (a.put o.dst (.tuple #[])) w') : wpList P ops Q (o :: rest) a w := by
  obtain ⟨D, h, hmm, hf⟩ := h
  refine wpList_delete_own w hg m x M K hop E T.keyed hM anyElem g n D hm h (T.val k) (T.lit k) hx (T.reads k hk) fun w' h1 h2 => hK w' ⟨_, h1, hmm.del _, fun k' hk' z' => ?_⟩ h2.grown
  by_cases hky : k' = k
  · subst hky
    simp only [if_true]
    exact atKey_del_same _
  · simp only [hky, if_false]
    rw [atKey_del_other (T.ne hk' hk hky)]
    exact hf k' hk' z'
end
end
end Go.Bk
