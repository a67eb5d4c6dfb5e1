/- General: a map from ints to ints that a call makes itself, read as a function. No program is named here. -/
import Derived.Test.YtjlnaiiajlahgaaDoorApart
import Derived.Maps.OwnOps
import Derived.Maps.OwnSet
import Derived.Maps.Views
set_option linter.unusedVariables false
set_option linter.unusedSimpArgs false
namespace Go.Bk
open Go.RowKit Go.Maps

abbrev ik (k : Int) : Lit := .int .i64 k
/-- Block g is a map of at most n entries that reads as f. -/
def IMap (P : Program) (K E : TypeId) (w : World) (g n : Nat) (f : Int → Option Int) : Prop :=
  ∃ D : DataW Unit, w.ownsMap P K (plainElem P E) g n D ∧ IsMap D ∧ ∀ x : Int, has D (ik x) = (f x).isSome ∧ D.atKey (ik x) (.lit (.int .i64 0)) = .lit (.int .i64 ((f x).getD 0))

section
variable {P : Program} {K E T : TypeId} {w w' : World} {g n : Nat} {f : Int → Option Int}

theorem IMap.made (P : Program) (K E : TypeId) (w : World) : IMap P K E (w.alloc (.map #[] 0)) w.heap.size 0 (fun _ => none) :=
  ⟨.map [], World.ownsMap_made _ _ _ _, isMap_empty, fun _ => ⟨rfl, rfl⟩⟩
theorem IMap.lt (h : IMap P K E w g n f) : g < w.heap.size := by obtain ⟨D, h, _⟩ := h; exact h.lt
theorem IMap.mono (h : IMap P K E w g n f) {m : Nat} (hn : n ≤ m) : IMap P K E w g m f := by obtain ⟨D, h, h2⟩ := h; exact ⟨D, h.mono hn, h2⟩
theorem IMap.kept {row : Option Nat} (h : IMap P K E w g n f) (hg : w.grownBy w' row) (hne : some g ≠ row) : IMap P K E w' g n f := by obtain ⟨D, h, h2⟩ := h; exact ⟨D, h.kept hg hne, h2⟩
theorem IMap.block (h : IMap P K E w g n f) (hb : w'.heap[g]? = w.heap[g]?) : IMap P K E w' g n f := by
  obtain ⟨D, ⟨es, clock, h1, h3⟩, h2⟩ := h
  exact ⟨D, ⟨es, clock, hb.trans h1, h3⟩, h2⟩
theorem IMap.below (h : IMap P K E w g n f) (hb : Below w.heap.size w w') : IMap P K E w' g n f := h.block (hb.block g h.lt)
theorem IMap.congr {f' : Int → Option Int} (h : IMap P K E w g n f) (he : ∀ x, f x = f' x) : IMap P K E w g n f' := by rw [← funext he]; exact h

/-- 'm[x]': the run. -/
theorem IMap.get (h : IMap P K E w g n f) (hK : P.underlying K = some (.int .i64)) (hE : P.underlying E = some (.int .i64)) (hT : P.underlying T = some (.map K E)) (hz : (zeroValue E).run P w = .ok (.int .i64 0) w) {x : Int} (hx : I64 x) :
    (Instr.lookup T (.map (some g)) (.int .i64 x) false).run P w = .ok (.int .i64 ((f x).getD 0)) w := by
  obtain ⟨D, h, hm, hf⟩ := h
  obtain ⟨c, hrun, hat, _⟩ := h.lookup_int (int_keyed hK) hT hE hz (key := .int .i64 x) (kl := ik x) (keyOf_int_mk hK hx.wf)
  rw [(hf x).2] at hat
  have : c = (f x).getD 0 := by injection hat with h1; injection h1 with _ h2; exact h2.symm
  rw [hrun, this]

/-- 'm[x] = v'. -/
theorem wp_imap_put {ops : Array Oper} {Q : Exit → Act → World → Prop} {a : Act} {rest : List Oper} {o : Oper} (hg : o.guard = none) {m x v : Operand} (hop : o.op = Op.mapUpdate T m x v)
    (hK : P.underlying K = some (.int .i64)) (hE : P.underlying E = some (.int .i64)) (hT : P.underlying T = some (.map K E)) (hm : a.eval m = .map (some g)) (h : IMap P K E w g n f) (hn : n < 1000000000) {y z : Int} (hx : a.eval x = .int .i64 y) (hv : a.eval v = .int .i64 z) (hy : I64 y) (hz : I64 z)
    (hk : ∀ w', IMap P K E w' g (n + 1) (fun k => if k = y then some z else f k) → w.grownBy w' (some g) → wpList P ops Q rest (a.put o.dst undef) w') : wpList P ops Q (o :: rest) a w := by
  obtain ⟨D, h, hmm, hf⟩ := h
  refine wpList_mapUpdate_own w hg m x v T hop K E (int_keyed hK) hT (plainElem P E) g n D hm h (by unfold maxLen; omega) (.int .i64 y) (.int .i64 z) (ik y) hx hv (keyOf_int_mk hK hy.wf) (.lit (.int .i64 z)) [] (plainElem_int hE hz.wf) fun w' h1 h2 => hk w' ⟨_, h1, hmm.put _ _, fun k => ?_⟩ h2
  by_cases hky : k = y
  · subst hky
    simp only [if_true]
    exact ⟨has_put_same hmm (by simp [WideAt.IsKeyLit]) _, atKey_put_same hmm (by simp [WideAt.IsKeyLit]) _ _⟩
  · simp only [hky, if_false]
    have hne : ik k ≠ ik y := fun e => hky (by injection e)
    rw [has_put_other hne, atKey_put_other hne]
    exact hf k
/-- 'm[x]', as an operation. -/
theorem wp_imap_get {ops : Array Oper} {Q : Exit → Act → World → Prop} {a : Act} {rest : List Oper} {o : Oper} (hg : o.guard = none) {m x : Operand} (hop : o.op = Op.lookup T m x false)
    (hK : P.underlying K = some (.int .i64)) (hE : P.underlying E = some (.int .i64)) (hT : P.underlying T = some (.map K E)) (hz : (zeroValue E).run P w = .ok (.int .i64 0) w) (hm : a.eval m = .map (some g)) (h : IMap P K E w g n f) {y : Int} (hx : a.eval x = .int .i64 y) (hy : I64 y)
    (hk : wpList P ops Q rest (a.put o.dst (.int .i64 ((f y).getD 0))) w) : wpList P ops Q (o :: rest) a w := by
  obtain ⟨D, h, hmm, hf⟩ := h
  refine wpList_lookup_own_int w hg m x T hop K E .i64 (int_keyed hK) hT hE hz g n D hm h (.int .i64 y) (ik y) hx (keyOf_int_mk hK hy.wf) fun c hat _ => ?_
  rw [(hf y).2] at hat
  have : c = (f y).getD 0 := by injection hat with h1; injection h1 with _ h2; exact h2.symm
  rw [this]
  exact hk
/-- 'v, ok := m[x]'. -/
theorem wp_imap_getok {ops : Array Oper} {Q : Exit → Act → World → Prop} {a : Act} {rest : List Oper} {o : Oper} (hg : o.guard = none) {m x : Operand} (hop : o.op = Op.lookup T m x true)
    (hK : P.underlying K = some (.int .i64)) (hE : P.underlying E = some (.int .i64)) (hT : P.underlying T = some (.map K E)) (hz : (zeroValue E).run P w = .ok (.int .i64 0) w) (hm : a.eval m = .map (some g)) (h : IMap P K E w g n f) {y : Int} (hx : a.eval x = .int .i64 y) (hy : I64 y)
    (hk : wpList P ops Q rest (a.put o.dst (.tuple #[.int .i64 ((f y).getD 0), .bool (f y).isSome])) w) : wpList P ops Q (o :: rest) a w := by
  obtain ⟨D, h, hmm, hf⟩ := h
  refine wpList_lookup_own_ok_int w hg m x T hop K E .i64 (int_keyed hK) hT hE hz g n D hm h (.int .i64 y) (ik y) hx (keyOf_int_mk hK hy.wf) fun c hat _ => ?_
  rw [(hf y).2] at hat
  have : c = (f y).getD 0 := by injection hat with h1; injection h1 with _ h2; exact h2.symm
  rw [this, (hf y).1]
  exact hk
end
end Go.Bk
