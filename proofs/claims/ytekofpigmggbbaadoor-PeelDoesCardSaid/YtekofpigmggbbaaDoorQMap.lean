/- General: a map from ints to ints that a call makes itself, read as a function. No program is named here. -/
import Derived.Test.YtekofpigmggbbaaDoorQMem
import Derived.Maps.OwnOps
import Derived.Maps.OwnSet
import Derived.Maps.Views
import Derived.Maps.RangeWalk
import Derived.DeepKeys5
set_option linter.unusedVariables false
set_option linter.unusedSimpArgs false
namespace Go.Bk
open Go.RowKit Go.Maps

abbrev ik (k : Int) : Lit := .int .i64 k
/-- Block g is a map of at most n entries that reads as f. -/
def IMap (P : Program) (K E : TypeId) (w : World) (g n : Nat) (f : Int → Option Int) : Prop :=
  ∃ D : DataW Unit, w.ownsMap P K (plainElem P E) g n D ∧ IsMap D ∧ ∀ x : Int, has D (ik x) = (f x).isSome ∧ D.atKey (ik x) (.lit (.int .i64 0)) = .lit (.int .i64 ((f x).getD 0))

section
variable {P : Program} {K E T : TypeId} {w w' : World} {g n : Nat} {f : Int → Option Int}

/-- 'm[x] = v'. -/
theorem wp_imap_put {ops : Array Oper} {Q : Exit → Act → World → Prop} {a : Act} {rest : List Oper} {o : Oper} (hg : o.guard = none) {m x v : Operand} (hop : o.op = Op.mapUpdate T m x v)
    (hK : P.underlying K = some (.int .i64)) (hE : P.underlying E = some (.int .i64)) (hT : P.underlying T = some (.map K E)) (hm : a.eval m = .map (some g)) (h : IMap P K E w g n f) (hn : n < 1000000000) {y z : Int} (hx : a.eval x = .int .i64 y) (hv : a.eval v = .int .i64 z) (hy : I64 y) (hz : I64 z)
    (hk : ∀ w', IMap P K E w' g (n + 1) (fun k => if k = y then some z else f k) → w.grownBy w' (some g) → wpList P ops Q rest (a.put o.dst undef) w') : wpList P ops Q (o :: rest) a w := by
  obtain ⟨D, h, hmm, hf⟩ := h
  refine wpList_mapUpdate_own w hg m x v T hop K E (int_keyed hK) hT (plainElem P E) g n D hm h (by unfold maxLen; omega) (.int .i64 y) (.int .i64 z) (ik y) hx hv (keyOf_int_mk hK hy.wf) (.lit (.int .i64 z)) [] (plainElem_int hE hz.wf) fun w' h1 h2 => hk w' ⟨_, h1, hmm.put _ _, fun k => ?_⟩ h2
  by_cases hky : k = y
  · subst hky
    simp only [if_true]
    exact ⟨has_put_same hmm (by simp [WideAt.IsKeyLit]) _, atKey_put_same hmm (by simp [WideAt.IsKeyLit]) _ _⟩
  · simp only [hky, if_false]
    have hne : ik k ≠ ik y := fun e => hky (by injection e)
    rw [has_put_other hne, atKey_put_other hne]
    exact hf k
end
end Go.Bk

/- General: more of a map from ints to ints that a call makes itself: delete, len, range. No program is named here. -/
namespace Go.Bk
open Go.RowKit Go.Maps
open Go.WideElems (Fit rd rg rd_key rg_of)

section
variable {P : Program} {K E T : TypeId} {w w' : World} {g n : Nat} {f : Int → Option Int}
variable {ops : Array Oper} {Q : Exit → Act → World → Prop} {a : Act} {rest : List Oper} {o : Oper}

end
end Go.Bk

/- General: a map that a call makes itself, its keys of a type that is told, its elements whatever values, read as a function. No program is named here. -/
namespace Go.Bk
open Go.RowKit Go.Maps

def anyElem (v : Value) : Option (DataW Value × List MemPlace) := some (.held v, [])

/-- Keys of a type: how they lie in a cell, how they are told. -/
structure KeyT (P : Program) (K : TypeId) (κ : Type) where
  val : κ → Value
  lit : κ → Lit
  good : κ → Prop
  keyed : Keyed P K
  reads : ∀ k, good k → keyOf P K (val k) = some (lit k)
  inj : ∀ k k', val k = val k' → k = k'

theorem KeyT.ne {P : Program} {K : TypeId} {κ : Type} (T : KeyT P K κ) {k k' : κ} (h : T.good k) (h' : T.good k') (hne : k ≠ k') : T.lit k ≠ T.lit k' := fun e =>
  hne (T.inj _ _ (T.keyed.inj (T.reads k h) (e ▸ T.reads k' h')))

/-- Block g is a map of at most n entries that reads as f. -/
def GMap {P : Program} {K : TypeId} {κ : Type} (T : KeyT P K κ) (w : World) (g n : Nat) (f : κ → Option Value) : Prop :=
  ∃ D : DataW Value, w.ownsMap P K anyElem g n D ∧ IsMap D ∧ ∀ k, T.good k → ∀ z, D.atKey (T.lit k) (.held z) = .held ((f k).getD z)

section
variable {P : Program} {K E M : TypeId} {κ : Type} {T : KeyT P K κ} {w w' : World} {g n : Nat} {f : κ → Option Value}

theorem GMap.made (T : KeyT P K κ) (w : World) : GMap T (w.alloc (.map #[] 0)) w.heap.size 0 (fun _ => none) :=
  ⟨.map [], World.ownsMap_made _ _ _ _, isMap_empty, fun _ _ _ => rfl⟩
theorem GMap.congr {f' : κ → Option Value} (h : GMap T w g n f) (he : ∀ x, f x = f' x) : GMap T w g n f' := by rw [← funext he]; exact h

/-- 'm[k]', 'v, ok := m[k]': the run. -/
theorem GMap.look (h : GMap T w g n f) (c : Bool) (hM : P.underlying M = some (.map K E)) {z : Value} (hz : (zeroValue E).run P w = .ok z w) {k : κ} (hk : T.good k) :
    (Instr.lookup M (.map (some g)) (T.val k) c).run P w = .ok (if c then .tuple #[(f k).getD z, .bool (f k).isSome] else (f k).getD z) w := by
  obtain ⟨D, ⟨es, clock, hb, F, _, rfl⟩, _, hf⟩ := h
  have hfk := hf k hk
  rcases fit_look c T.keyed hM hz hb F (T.reads k hk) with ⟨hrun, _, hat⟩ | ⟨e0, y, _, _, hrun, hRv, hat, _⟩
  · have hn : f k = none := by
      cases hv : f k with
      | none => rfl
      | some v =>
        rw [hv] at hfk
        have h1 := hfk (.bool true); have h2 := hfk (.bool false)
        rw [hat] at h1 h2
        injection h1 with h1; injection h2 with h2
        simp at h1 h2
        rw [← h1] at h2
        cases h2
    rw [hrun, hn]
    rfl
  · have hs : f k = some e0.val := by
      have hy : y.1 = .held e0.val := by unfold anyElem at hRv; injection hRv with hRv; rw [← hRv]
      cases hv : f k with
      | none =>
        rw [hv] at hfk
        have h1 := hfk (.bool true); have h2 := hfk (.bool false)
        rw [hat] at h1 h2
        rw [h1] at h2
        injection h2 with h2
        simp at h2
      | some v =>
        rw [hv] at hfk
        have h1 := hfk (.bool true)
        rw [hat, hy] at h1
        injection h1 with h1
        rw [h1]; rfl
    rw [hrun, hs]
    rfl
section
variable {ops : Array Oper} {Q : Exit → Act → World → Prop} {a : Act} {rest : List Oper} {o : Oper}
/-- 'm[k]', as an operation. -/
theorem wp_gmap_get (hg : o.guard = none) {m x : Operand} (hop : o.op = Op.lookup M m x false) (hM : P.underlying M = some (.map K E)) {z : Value} (hz : (zeroValue E).run P w = .ok z w) (hm : a.eval m = .map (some g)) (h : GMap T w g n f) {k : κ} (hx : a.eval x = T.val k) (hk : T.good k)
    (hK : wpList P ops Q rest (a.put o.dst ((f k).getD z)) w) : wpList P ops Q (o :: rest) a w := by
  refine wpList_plain hg fun K' hK' => ?_
  have hrun := h.look false hM hz hk
  unfold Oper.wp
  simp [execOp, hop, hm, hx, hrun, Result.andThen]
  exact hK' _ _ hK
/-- 'm[k] = v'. -/
theorem wp_gmap_put [DecidableEq κ] (hg : o.guard = none) {m x v : Operand} (hop : o.op = Op.mapUpdate M m x v) (hM : P.underlying M = some (.map K E)) (hm : a.eval m = .map (some g)) (h : GMap T w g n f) (hn : n < 1000000000) {k : κ} {z : Value} (hx : a.eval x = T.val k) (hv : a.eval v = z) (hk : T.good k)
    (hK : ∀ w', GMap T w' g (n + 1) (fun k' => if k' = k then some z else f k') → w.grownBy w' (some g) → wpList P ops Q rest (a.put o.dst undef) w') : wpList P ops Q (o :: rest) a w := by
  obtain ⟨D, h, hmm, hf⟩ := h
  refine wpList_mapUpdate_own w hg m x v M hop K E T.keyed hM anyElem g n D hm h (by unfold maxLen; omega) (T.val k) z (T.lit k) hx hv (T.reads k hk) (.held z) [] rfl fun w' h1 h2 => hK w' ⟨_, h1, hmm.put _ _, fun k' hk' z' => ?_⟩ h2
  by_cases hky : k' = k
  · subst hky
    simp only [if_true]
    exact atKey_put_same hmm (T.keyed.key (T.reads k' hk)) _ _
  · simp only [hky, if_false]
    rw [atKey_put_other (T.ne hk' hk hky)]
    exact hf k' hk' z'
end
end
end Go.Bk
