/- General: a map of a call's own whose elements are lists of the call's own, all apart. No program is named here. -/
import Derived.Test.YtffebdngmbbcoaaMapG
import Derived.Test.YtffebdngmbbcoaaApart
set_option linter.unusedVariables false
set_option linter.unusedSimpArgs false
namespace Go.Bk
open Go.RowKit Go.Maps

/-- 'm[k] = v': the run. -/
theorem GMap.put_run {P : Program} {K E M : TypeId} {κ : Type} [DecidableEq κ] {T : KeyT P K κ} {w : World} {g n : Nat} {f : κ → Option Value} (h : GMap T w g n f) (hM : P.underlying M = some (.map K E)) (hn : n < 1000000000) {k : κ} (hk : T.good k) (z : Value) :
    ∃ w', (Instr.mapUpdate M (.map (some g)) (T.val k) z).run P w = .ok () w' ∧ GMap T w' g (n + 1) (fun k' => if k' = k then some z else f k') ∧ w.grownBy w' (some g) := by
  obtain ⟨D, h, hmm, hf⟩ := h
  obtain ⟨w', h1, h2, h3⟩ := h.store T.keyed hM (by unfold maxLen; omega) (T.reads k hk) (val := z) (d := .held z) (ps := []) rfl
  refine ⟨w', h1, ⟨_, h2, hmm.put _ _, fun k' hk' z' => ?_⟩, h3.grown⟩
  by_cases hky : k' = k
  · subst hky
    simp only [if_true]
    exact atKey_put_same hmm (T.keyed.key (T.reads k' hk)) _ _
  · simp only [hky, if_false]
    rw [atKey_put_other (T.ne hk' hk hky)]
    exact hf k' hk' z'
def nilV : Value := .slice none 0 0
/-- Block g is a map of lists that the call owns. -/
structure MapRows {P : Program} {K : TypeId} {κ α : Type} [Rep α] (T : KeyT P K κ) (w : World) (B g n : Nat) (e : TypeId) (f : κ → Option Value) (L : κ → List α) : Prop where
  map : GMap T w g n f
  row : ∀ t, Own (fun _ => False) w B e ((f t).getD nilV) (L t)
  apart : ∀ t u, t ≠ u → Apart ((f t).getD nilV) ((f u).getD nilV)
  off : ∀ t, ((f t).getD nilV).ownBlock ≠ some g
section
variable {P : Program} {K : TypeId} {κ α : Type} [Rep α] {T : KeyT P K κ} {w w1 w2 : World} {B g n m : Nat} {e : TypeId} {f : κ → Option Value} {L : κ → List α}
theorem ne_or {v : Value} {b : Option Nat} (h : v.ownBlock ≠ b) : v.ownBlock = none ∨ v.ownBlock ≠ b := .inr h
theorem MapRows.start (h : GMap T w g n (fun _ => none)) (B : Nat) (e : TypeId) : MapRows T w B g n e (fun _ => none) (fun _ => ([] : List α)) :=
  ⟨h, fun _ => Own.nil _ _ _ _, fun _ _ _ => Apart.nil_left _ _ _, fun _ h => by cases h⟩
theorem MapRows.below (h : MapRows T w B g n e f L) (hb : Below w.heap.size w w1) : MapRows T w1 B g n e f L :=
  ⟨h.map.below hb, fun t => (h.row t).below hb (fun _ h => h.elim), h.apart, h.off⟩
theorem MapRows.alloc (h : MapRows T w B g n e f L) (o : Obj) : MapRows T (w.alloc o) B g n e f L := h.below ((Below.refl _ _).alloc (Nat.le_refl _) _)
/-- A row that is none of these was written. -/
theorem MapRows.keep (h : MapRows T w B g n e f L) {u : Value} (hg : w.grownBy w1 u.ownBlock) (hu : ∀ t, Apart u ((f t).getD nilV)) (hug : u.ownBlock ≠ some g) : MapRows T w1 B g n e f L :=
  ⟨h.map.kept hg (fun e => hug e.symm), fun t => (h.row t).apart hg (hu t) (fun _ h => h.elim), h.apart, h.off⟩
/-- One list was turned, and stored. -/
theorem MapRows.put [DecidableEq κ] (h : MapRows T w B g n e f L) {t : κ} {v' : Value} {l' : List α} (ho : Own (fun _ => False) w1 B e v' l') (hg : w.grownBy w1 ((f t).getD nilV).ownBlock) (hst : Stay w ((f t).getD nilV) v')
    (hm : GMap T w2 g m (fun k => if k = t then some v' else f k)) (hg2 : w1.grownBy w2 (some g)) : MapRows T w2 B g m e (fun k => if k = t then some v' else f k) (fun k => if k = t then l' else L k) := by
  have hv' : v'.ownBlock ≠ some g := fun he => by
    rcases hst g he with h1 | h1
    · exact h.off t h1
    · have := h.map.lt; omega
  have hlt : ∀ u k, ((f u).getD nilV).ownBlock = some k → k < w.heap.size := fun u k hk => ((h.row u).lt k hk).2
  refine ⟨hm, fun k => ?_, fun k u hne => ?_, fun k => ?_⟩
  · by_cases hk : k = t
    · simp only [hk, if_true, Option.getD_some]
      exact ho.keep hg2 (ne_or hv') (fun _ h => h.elim)
    · simp only [hk, if_false]
      exact ((h.row k).apart hg (h.apart t k (fun e => hk e.symm)) (fun _ h => h.elim)).keep hg2 (ne_or (h.off k)) (fun _ h => h.elim)
  · by_cases hk : k = t
    · subst hk
      simp only [if_true, Option.getD_some, show u ≠ k from fun e => hne e.symm, if_false]
      exact (h.apart k u hne).moved hst (hlt u)
    · by_cases hu : u = t
      · subst hu
        simp only [hk, if_false, if_true, Option.getD_some]
        exact ((h.apart u k (fun e => hk e.symm)).moved hst (hlt k)).symm
      · simp only [hk, hu, if_false]
        exact h.apart k u hne
  · by_cases hk : k = t
    · simp only [hk, if_true, Option.getD_some]; exact hv'
    · simp only [hk, if_false]; exact h.off k
/-- One list was taken out. -/
theorem MapRows.del [DecidableEq κ] (h : MapRows T w B g n e f L) {t : κ} (hm : GMap T w1 g m (fun k => if k = t then none else f k)) (hg : w.grownBy w1 (some g)) :
    MapRows T w1 B g m e (fun k => if k = t then none else f k) (fun k => if k = t then [] else L k) := by
  refine ⟨hm, fun k => ?_, fun k u hne => ?_, fun k => ?_⟩
  · by_cases hk : k = t
    · simp only [hk, if_true]; exact Own.nil _ _ _ _
    · simp only [hk, if_false]; exact (h.row k).keep hg (ne_or (h.off k)) (fun _ h => h.elim)
  · by_cases hk : k = t
    · simp only [hk, if_true]; exact Apart.nil_left _ _ _
    · by_cases hu : u = t
      · simp only [hu, if_true]; exact Apart.nil_right _ _ _
      · simp only [hk, hu, if_false]; exact h.apart k u hne
  · by_cases hk : k = t
    · simp only [hk, if_true]; intro h; cases h
    · simp only [hk, if_false]; exact h.off k
theorem MapRows.mono (h : MapRows T w B g n e f L) (hn : n ≤ m) : MapRows T w B g m e f L := ⟨h.map.mono hn, h.row, h.apart, h.off⟩
theorem MapRows.congr {L' : κ → List α} (h : MapRows T w B g n e f L) (hL : ∀ k, L k = L' k) : MapRows T w B g n e f L' := by rw [← funext hL]; exact h
/-- A map of lists, and one more list beside it. -/
structure RowsAnd {β : Type} [Rep β] (T : KeyT P K κ) (W w : World) (g n : Nat) (e e2 : TypeId) (f : κ → Option Value) (L : κ → List α) (v : Value) (ps : List β) : Prop where
  rows : MapRows T w W.heap.size g n e f L
  out : Own (fun _ => False) w W.heap.size e2 v ps
  apart : ∀ t, Apart v ((f t).getD nilV)
  off : v.ownBlock ≠ some g
  below : Below W.heap.size W w
section
variable {β : Type} [Rep β] {W : World} {e2 : TypeId} {v v' : Value} {ps ps' : List β}
theorem RowsAnd.later (h : RowsAnd T W w g n e e2 f L v ps) (hb : Below w.heap.size w w1) : RowsAnd T W w1 g n e e2 f L v ps :=
  ⟨h.rows.below hb, h.out.below hb (fun _ h => h.elim), h.apart, h.off, h.below.trans (hb.mono h.below.size)⟩
theorem RowsAnd.mono (h : RowsAnd T W w g n e e2 f L v ps) (hn : n ≤ m) : RowsAnd T W w g m e e2 f L v ps := ⟨h.rows.mono hn, h.out, h.apart, h.off, h.below⟩
theorem RowsAnd.congr {L' : κ → List α} (h : RowsAnd T W w g n e e2 f L v ps) (hL : ∀ k, L k = L' k) : RowsAnd T W w g n e e2 f L' v ps := by rw [← funext hL]; exact h
/-- The list beside it was turned. -/
theorem RowsAnd.turn (h : RowsAnd T W w g n e e2 f L v ps) (ho : Own (fun _ => False) w1 W.heap.size e2 v' ps') (hg : w.grownBy w1 v.ownBlock) (hst : Stay w v v') : RowsAnd T W w1 g n e e2 f L v' ps' :=
  ⟨h.rows.keep hg h.apart h.off, ho, fun t => (h.apart t).moved hst (fun k hk => ((h.rows.row t).lt k hk).2), fun he => by
    rcases hst g he with h1 | h1
    · exact h.off h1
    · have := h.rows.map.lt; omega, h.below.grown hg h.below.size (fun k hk => (h.out.lt k hk).1)⟩
/-- One list of the map was turned, and stored. -/
theorem RowsAnd.put [DecidableEq κ] (h : RowsAnd T W w g n e e2 f L v ps) (hW : W.heap.size ≤ g) {t : κ} {u' : Value} {l' : List α} (ho : Own (fun _ => False) w1 W.heap.size e u' l') (hg : w.grownBy w1 ((f t).getD nilV).ownBlock) (hst : Stay w ((f t).getD nilV) u')
    (hm : GMap T w2 g m (fun k => if k = t then some u' else f k)) (hg2 : w1.grownBy w2 (some g)) : RowsAnd T W w2 g m e e2 (fun k => if k = t then some u' else f k) (fun k => if k = t then l' else L k) v ps := by
  have ha : Apart v u' := ((h.apart t).symm.moved hst (fun k hk => (h.out.lt k hk).2)).symm
  refine ⟨h.rows.put ho hg hst hm hg2, (h.out.apart hg (h.apart t).symm (fun _ h => h.elim)).keep hg2 (ne_or h.off) (fun _ h => h.elim), fun k => ?_, h.off, (h.below.grown hg h.below.size (fun k hk => ((h.rows.row t).lt k hk).1)).grown hg2 (Nat.le_trans h.below.size hg.size) (fun k hk => by cases hk; exact hW)⟩
  by_cases hk : k = t
  · simp only [hk, if_true, Option.getD_some]; exact ha
  · simp only [hk, if_false]; exact h.apart k
end
end
end Go.Bk
