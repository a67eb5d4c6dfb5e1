/- HeatTurns: Heads of the document: its states. -/
import Derived.Test.YtjlnaiiajlahgaaHeatC
import Derived.Test.YtjlnaiiajlahgaaArr3
set_option linter.unusedVariables false
set_option linter.unusedSimpArgs false
namespace Go.Proofs.Ytjlnaiiajlahgaa.heat
open Go.Bk Go.RowKit Go.Maps

theorem int_cells {n : Int} (h : I64 n) (S : Nat → Prop) (w : World) : Rep.cells S w [.int .i64 n] n := ⟨rfl, h⟩
structure HSt (w w' : World) (v6 v7 : Value) (r : List Api.THead × List Int) : Prop where
  heads : Own (fun _ => False) w' w.heap.size 60 v6 r.1
  told : Own (fun _ => False) w' w.heap.size 3 v7 r.2
  apart : Apart v6 v7
  below : RowKit.Below w.heap.size w w'
theorem HSt.keep {w w1 w2 : World} {v6 v7 : Value} {r : List Api.THead × List Int} (h : HSt w w1 v6 v7 r) (hb : RowKit.Below w1.heap.size w1 w2) : HSt w w2 v6 v7 r :=
  ⟨h.heads.below hb (fun _ h => h.elim), h.told.below hb (fun _ h => h.elim), h.apart, h.below.trans (hb.mono h.below.size)⟩
theorem HSt.push {w w1 w2 : World} {v6 v7 v7' : Value} {l : List Api.THead} {o : List Int} {t : Int} (h : HSt w w1 v6 v7 (l, o)) (h1 : Own (fun _ => False) w2 w.heap.size 3 v7' (o ++ [t])) (hg : w1.grownBy w2 v7.ownBlock) (hst : Stay w1 v7 v7') : HSt w w2 v6 v7' (l, o ++ [t]) :=
  ⟨h.heads.apart hg h.apart.symm (fun _ h => h.elim), h1, (h.apart.symm.moved hst (fun k hk => (h.heads.lt k hk).2)).symm, h.below.grown hg h.below.size (fun r hr => (h.told.lt r hr).1)⟩
/-- A list of heads of its own, new. -/
theorem HSt.fresh {w w1 w2 : World} {v6 v6' v7 : Value} {l l' : List Api.THead} {o : List Int} (h : HSt w w1 v6 v7 (l, o)) (hb : RowKit.Below w1.heap.size w1 w2) (h1 : Own (fun _ => False) w2 w1.heap.size 60 v6' l') : HSt w w2 v6' v7 (l', o) :=
  ⟨own_base h1 h.below.size, h.told.below hb (fun _ h => h.elim), fun k hk e => by have := (h1.lt k hk).1; have := (h.told.lt k e).2; omega, h.below.trans (hb.mono h.below.size)⟩
abbrev HInts (x : Api.THead) : Prop := I64 x.Fn ∧ I64 x.At ∧ I64 x.Count ∧ I64 x.Limit ∧ I64 x.Fails ∧ I64 x.Is
theorem HSt.at {w w1 : World} {v6 v7 : Value} {l : List Api.THead} {o : List Int} (h : HSt w w1 v6 v7 (l, o)) {k : Nat} {x : Api.THead} (hk : l[k]? = some x) :
    ∃ g cap, v6 = .slice (some ⟨g, 0, none⟩) l.length cap ∧ w.heap.size ≤ g ∧ g < w1.heap.size ∧ l.length ≤ cap ∧
      (w1.cell? ⟨g, k * 6, none⟩ = some (.int .i64 x.Fn) ∧ w1.cell? ⟨g, k * 6 + 1, none⟩ = some (.int .i64 x.At) ∧ w1.cell? ⟨g, k * 6 + 2, none⟩ = some (.int .i64 x.Count) ∧ w1.cell? ⟨g, k * 6 + 3, none⟩ = some (.int .i64 x.Limit) ∧ w1.cell? ⟨g, k * 6 + 4, none⟩ = some (.int .i64 x.Fails) ∧ w1.cell? ⟨g, k * 6 + 5, none⟩ = some (.int .i64 x.Is)) ∧
      (∀ j, w1.frozen? ⟨g, j, none⟩ = false) ∧
      (∀ (j : Nat) (u : Value) (x' : Api.THead), j < 6 → (hC x).set j u = hC x' → HInts x' → HSt w (w1.setCell ⟨g, k * 6 + j, none⟩ u) v6 v7 (l.set k x', o)) := by
  obtain ⟨g, cap, cs, hv, hB, hg, hle, hc, hj, hf, hset⟩ := Own.at h.heads hk
  obtain ⟨rfl, -⟩ := api_THead_cells_eq hc
  refine ⟨g, cap, hv, hB, hg, hle, ⟨hj 0 (by show 0 < 6; omega), hj 1 (by show 1 < 6; omega), hj 2 (by show 2 < 6; omega), hj 3 (by show 3 < 6; omega), hj 4 (by show 4 < 6; omega), hj 5 (by show 5 < 6; omega)⟩, hf, fun j u x' hj6 he hi => ?_⟩
  have h1 := hset j u x' hj6 (fun b hb => hb.elim) (by
    have e : ([.int .i64 x.Fn, .int .i64 x.At, .int .i64 x.Count, .int .i64 x.Limit, .int .i64 x.Fails, .int .i64 x.Is] : List Value).set j u = hC x' := he
    rw [e]
    exact api_THead_cells_mk hi.1 hi.2.1 hi.2.2.1 hi.2.2.2.1 hi.2.2.2.2.1 hi.2.2.2.2.2)
  have hgr : w1.grownBy (w1.setCell ⟨g, k * 6 + j, none⟩ u) (some g) := grownBy_setCell (World.grownBy.refl _ _) _ _
  have hown : v6.ownBlock = some g := by rw [hv]; rfl
  exact ⟨h1, h.told.keep hgr (.inr (h.apart g hown)) (fun b hb => hb.elim), h.apart, h.below.grown hgr h.below.size (fun r hr => by cases hr; exact hB)⟩
theorem HSt.at2 {w w1 : World} {g m c6 : Nat} {v7 : Value} {l : List Api.THead} {o : List Int} (h : HSt w w1 (.slice (some ⟨g, 0, none⟩) m c6) v7 (l, o)) {k : Nat} {x : Api.THead} (hk : l[k]? = some x) :
    g < w1.heap.size ∧
      (w1.cell? ⟨g, k * 6, none⟩ = some (.int .i64 x.Fn) ∧ w1.cell? ⟨g, k * 6 + 1, none⟩ = some (.int .i64 x.At) ∧ w1.cell? ⟨g, k * 6 + 2, none⟩ = some (.int .i64 x.Count) ∧ w1.cell? ⟨g, k * 6 + 3, none⟩ = some (.int .i64 x.Limit) ∧ w1.cell? ⟨g, k * 6 + 4, none⟩ = some (.int .i64 x.Fails) ∧ w1.cell? ⟨g, k * 6 + 5, none⟩ = some (.int .i64 x.Is)) ∧
      (∀ j, w1.frozen? ⟨g, j, none⟩ = false) ∧
      (∀ (j : Nat) (u : Value) (x' : Api.THead), j < 6 → (hC x).set j u = hC x' → HInts x' → HSt w (w1.setCell ⟨g, k * 6 + j, none⟩ u) (.slice (some ⟨g, 0, none⟩) m c6) v7 (l.set k x', o)) := by
  obtain ⟨g2, cap, he, hB, hg, hle, hcs, hf, hset⟩ := h.at hk
  injection he with e1 e2 e3
  injection e1 with e1
  injection e1 with e1
  subst e1
  exact ⟨hg, hcs, hf, hset⟩
def HeadsPost (w : World) (r : List Api.THead × List Int) (e : Ending) (w' : World) : Prop := ∃ v6 v7, e = .returned (.tuple #[v7, v6]) ∧ HSt w w' v6 v7 r
def hRel (w : World) (hot : Int) (cs : List (Int × Int × Int)) (n : Nat) (v6 v7 v18 : Value) (w' : World) : Prop := ∃ k : Nat, k ≤ n ∧ v18 = .int .i64 k ∧ HSt w w' v6 v7 (runTo hot cs k)
def iRel (w1 : World) (l : List Api.THead) (n : Nat) (fn at' : Int) (v10 v24 : Value) (w' : World) : Prop := ∃ j : Nat, j ≤ n ∧ v24 = .int .i64 j ∧ v10 = .int .i64 (idxTo l fn at' j) ∧ RowKit.Below w1.heap.size w1 w'
theorem idx_succ {l : List Api.THead} {fn at' : Int} {j : Nat} {x : Api.THead} (h : l[j]? = some x) : idxTo l fn at' (j + 1) = if x.Fn = fn ∧ x.At = at' then (j : Int) else idxTo l fn at' j := by
  rw [idxTo, h]
  dsimp only
  by_cases hk : x.Fn = fn ∧ x.At = at'
  · rw [if_pos hk, if_pos (isK_iff.2 hk)]
  · rw [if_neg hk, if_neg (fun e => hk (isK_iff.1 e))]
end Go.Proofs.Ytjlnaiiajlahgaa.heat
