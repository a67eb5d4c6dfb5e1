/- Exits in a row of one's own made bare; lists while they are made. -/
import Derived.Test.YtekofpigmggbbaaDoorDeadPlain
import Derived.Test.YtekofpigmggbbaaDoorRcutM
set_option linter.unusedVariables false
set_option linter.unusedSimpArgs false
namespace Go.Proofs.YtekofpigmggbbaaDoor.ded
open Go.Bk Go.RowKit Go.Proofs.YtekofpigmggbbaaDoor.ir Go.Proofs.YtekofpigmggbbaaDoor.chk Go.Proofs.YtekofpigmggbbaaDoor.cut

theorem exit_mk {S : Nat → Prop} {w : World} {x : Api.TExit} {s2 s3 : Value} (h0 : I64 x.At) (h1 : I64 x.Steps) (h2 : Rep.cells S w [s2] x.Sets) (h3 : Rep.cells S w [s3] x.Makes) : Rep.cells S w [.int .i64 x.At, .int .i64 x.Steps, s2, s3] x :=
  ⟨_, _, ⟨rfl, h0⟩, ⟨_, _, ⟨rfl, h1⟩, ⟨_, _, h2, h3, rfl⟩, rfl⟩, rfl⟩
theorem nil_cells {α : Type} [Rep α] {S : Nat → Prop} {w : World} : Rep.cells S w [.slice none 0 0] ([] : List α) := ⟨none, 0, rfl, by simp, fun _ => rfl, Arr.nil _ _ _⟩
/-- An exit of a row of one's own made bare, cell by cell. -/
theorem own_bare {S : Nat → Prop} {W : World} {B : Nat} {v : Value} {xs : List Api.TExit} (h : Own S W B 32 v xs) {k : Nat} {x : Api.TExit} (hx : xs[k]? = some x) : ∃ g cap, v = .slice (some ⟨g, 0, none⟩) xs.length cap ∧ B ≤ g ∧ g < W.heap.size ∧ (∀ j, W.frozen? ⟨g, j, none⟩ = false) ∧ W.cell? ⟨g, k * 4 + 0, none⟩ = some (.int .i64 x.At) ∧ (∃ u, W.cell? ⟨g, k * 4 + 2, none⟩ = some u) ∧ (∃ u, W.cell? ⟨g, k * 4 + 3, none⟩ = some u) ∧
    ((∀ b, S b → b ≠ g) → Own S ((W.setCell ⟨g, k * 4 + 2, none⟩ (.slice none 0 0)).setCell ⟨g, k * 4 + 3, none⟩ (.slice none 0 0)) B 32 v (xs.set k ⟨x.At, x.Steps, [], []⟩)) := by
  have hlt := (List.getElem?_eq_some_iff.1 hx).1
  obtain ⟨g, cap, cs, h1, h2, h3, h4, h5, h6, h7, h8⟩ := h.at hx
  obtain ⟨a2, c2, a3, c3, rfl, i0, i1, q2, q3⟩ := api_TExit_cells_eq h5
  have c0 := h6 0 (by show 0 < 4; omega); have d2 := h6 2 (by show 2 < 4; omega); have d3 := h6 3 (by show 3 < 4; omega)
  simp only [show Rep.sz Api.TExit = 4 from rfl, List.getElem?_cons_zero, List.getElem?_cons_succ] at c0 d2 d3
  refine ⟨g, cap, h1, h2, h3, h7, c0, ⟨_, d2⟩, ⟨_, d3⟩, fun hS => ?_⟩
  have r1 : Rep.cells S W ([Value.int .i64 x.At, .int .i64 x.Steps, .slice a2 x.Sets.length c2, .slice a3 x.Makes.length c3].set 2 (.slice none 0 0)) (⟨x.At, x.Steps, [], x.Makes⟩ : Api.TExit) := exit_mk (x := ⟨x.At, x.Steps, [], x.Makes⟩) i0 i1 nil_cells ⟨a3, c3, rfl, q3⟩
  have o1 := h8 2 (.slice none 0 0) _ (by show 2 < 4; omega) hS r1
  have hx1 : (xs.set k ⟨x.At, x.Steps, [], x.Makes⟩)[k]? = some ⟨x.At, x.Steps, [], x.Makes⟩ := List.getElem?_set_self hlt
  obtain ⟨g', cap', cs', e1, -, -, -, e5, -, -, e8⟩ := o1.at hx1
  have hg : g' = g := by
    rw [h1] at e1
    injection e1 with e1
    injection e1 with e1
    injection e1 with e1
    exact e1.symm
  subst hg
  obtain ⟨b2, f2, b3, f3, rfl, -, -, -, -⟩ := api_TExit_cells_eq e5
  have r2 : Rep.cells S (W.setCell ⟨g', k * 4 + 2, none⟩ (.slice none 0 0)) ([Value.int .i64 x.At, .int .i64 x.Steps, .slice b2 ([] : List Api.TSet).length f2, .slice b3 x.Makes.length f3].set 3 (.slice none 0 0)) (⟨x.At, x.Steps, [], []⟩ : Api.TExit) := by
    obtain ⟨t2, u2, t3, u3, e9, _, _, z2, _⟩ := api_TExit_cells_eq e5
    simp only [List.cons.injEq, and_true] at e9
    obtain ⟨-, -, e9, -⟩ := e9
    refine exit_mk (x := ⟨x.At, x.Steps, [], []⟩) i0 i1 ?_ nil_cells
    rw [e9]
    exact ⟨t2, u2, rfl, z2⟩
  have o2 := e8 3 (.slice none 0 0) _ (by show 3 < 4; omega) hS r2
  rw [List.set_set] at o2
  exact o2
theorem OwnT.bare {B : Nat} {W : World} {cs : List Value} {t : Api.TTrace} (h : OwnT B W cs t) {k : Nat} {x : Api.TExit} (hx : t.Exits[k]? = some x) : ∃ g cap, cs[4]? = some (.slice (some ⟨g, 0, none⟩) t.Exits.length cap) ∧ B ≤ g ∧ g < W.heap.size ∧ (∀ j, W.frozen? ⟨g, j, none⟩ = false) ∧ (∃ u, W.cell? ⟨g, k * 4 + 2, none⟩ = some u) ∧ (∃ u, W.cell? ⟨g, k * 4 + 3, none⟩ = some u) ∧
    OwnT B ((W.setCell ⟨g, k * 4 + 2, none⟩ (.slice none 0 0)).setCell ⟨g, k * 4 + 3, none⟩ (.slice none 0 0)) cs ⟨t.Fn, t.At, t.Loop, t.Ins, t.Exits.set k ⟨x.At, x.Steps, [], []⟩, t.Turn, t.Back⟩ := by
  obtain ⟨vI, vE, u0, u1, u2, u3, v0, v1, v2, v3, rfl, h1, h2, h3, h4, h5⟩ := h
  obtain ⟨g, cap, e1, e2, e3, e4, -, e5, e6, e7⟩ := own_bare h2 hx
  have hog : vE.ownBlock = some g := by rw [e1]; rfl
  have hne : ∀ b, SBT B W vI vE b → b ≠ g := fun b hb e => hb.2.2.2 (by rw [hog, e])
  have hk : ∀ b, b ≠ g → ((W.setCell ⟨g, k * 4 + 2, none⟩ (.slice none 0 0)).setCell ⟨g, k * 4 + 3, none⟩ (.slice none 0 0)).heap[b]? = W.heap[b]? := fun b hb => (blk_setCell_other _ _ _ hb).trans (blk_setCell_other _ _ _ hb)
  have hs : ((W.setCell ⟨g, k * 4 + 2, none⟩ (.slice none 0 0)).setCell ⟨g, k * 4 + 3, none⟩ (.slice none 0 0)).heap.size = W.heap.size := by rw [size_setCell, size_setCell]
  have hm : ∀ b, SBT B W vI vE b → SBT B ((W.setCell ⟨g, k * 4 + 2, none⟩ (.slice none 0 0)).setCell ⟨g, k * 4 + 3, none⟩ (.slice none 0 0)) vI vE b := fun b hb => ⟨hb.1, by rw [hs]; exact hb.2.1, hb.2.2⟩
  refine ⟨g, cap, by rw [e1]; rfl, e2, e3, e4, e5, e6, vI, vE, u0, u1, u2, u3, v0, v1, v2, v3, rfl, own_same' h1 (fun b hb => hk b fun e => h3 b hb (by rw [hog, e])) (fun _ h => h.elim), (e7 hne).mono hm, h3, Rep.mono hm (Rep.keep (fun b hb => hk b (hne b hb)) h4), Rep.mono hm (Rep.keep (fun b hb => hk b (hne b hb)) h5)⟩
/-- Read as a trace. -/
theorem OwnT.rep {B : Nat} {W : World} {cs : List Value} {t : Api.TTrace} (h : OwnT B W cs t) (h1 : I64 t.Fn) (h2 : I64 t.At) (h3 : I64 t.Loop) : Rep.cells (fun k => B ≤ k ∧ k < W.heap.size) W cs t := by
  obtain ⟨vI, vE, u0, u1, u2, u3, v0, v1, v2, v3, rfl, g1, g2, g3, g4, g5⟩ := h
  have i1 : Rep.cells (fun k => B ≤ k ∧ k < W.heap.size) W [vI] t.Ins := by
    obtain ⟨a, c, e, q1, q2, q3⟩ := g1.arr
    rw [e]
    exact ⟨a, c, rfl, q1, q2, q3.mono fun k hk' => hk'.elim False.elim id⟩
  have i2 : Rep.cells (fun k => B ≤ k ∧ k < W.heap.size) W [vE] t.Exits := by
    obtain ⟨a, c, e, q1, q2, q3⟩ := g2.arr
    rw [e] at q3 ⊢
    exact ⟨a, c, rfl, q1, q2, q3.mono fun k hk' => hk'.elim (fun hk' => ⟨hk'.1, hk'.2.1⟩) id⟩
  have i3 : Rep.cells (fun k => B ≤ k ∧ k < W.heap.size) W [u0, u1, u2, u3] t.Turn := Rep.mono (fun k hk' => ⟨hk'.1, hk'.2.1⟩) g4
  have i4 : Rep.cells (fun k => B ≤ k ∧ k < W.heap.size) W [v0, v1, v2, v3] t.Back := Rep.mono (fun k hk' => ⟨hk'.1, hk'.2.1⟩) g5
  exact ⟨_, _, ⟨rfl, h1⟩, ⟨_, _, ⟨rfl, h2⟩, ⟨_, _, ⟨rfl, h3⟩, ⟨_, _, i1, ⟨_, _, i2, ⟨_, _, i3, i4, rfl⟩, rfl⟩, rfl⟩, rfl⟩, rfl⟩, rfl⟩
/-- The exits while the first k are made bare. -/
def exL (t : Api.TTrace) (k : Nat) : List Api.TExit := t.Exits.mapIdx fun i x => if i < k then bareAt t.Ins i x else x
def bareL (t : Api.TTrace) (k : Nat) : Api.TTrace := ⟨t.Fn, t.At, t.Loop, t.Ins, exL t k, t.Turn, t.Back⟩
theorem exL_zero (t : Api.TTrace) : exL t 0 = t.Exits := by
  apply List.ext_getElem?
  intro i
  simp [exL]
theorem bareL_zero (t : Api.TTrace) : bareL t 0 = t := by unfold bareL; rw [exL_zero]
theorem exL_len (t : Api.TTrace) (k : Nat) : (exL t k).length = t.Exits.length := by simp [exL]
theorem exL_at {t : Api.TTrace} {k : Nat} {x : Api.TExit} (hx : t.Exits[k]? = some x) : (exL t k)[k]? = some x := by
  simp [exL, hx]
theorem exL_yes {t : Api.TTrace} {k : Nat} (h : usedE t.Ins k = true) : exL t (k + 1) = exL t k := by
  apply List.ext_getElem?
  intro i
  simp only [exL, List.getElem?_mapIdx]
  cases h1 : t.Exits[i]? with
  | none => rfl
  | some x =>
    simp only [Option.map_some, Option.some.injEq]
    by_cases h2 : i < k
    · rw [if_pos (by omega), if_pos h2]
    · rw [if_neg h2]
      by_cases h3 : i = k
      · subst h3
        rw [if_pos (by omega)]
        unfold bareAt
        rw [if_pos h]
      · rw [if_neg (by omega)]
theorem exL_no {t : Api.TTrace} {k : Nat} {x : Api.TExit} (hx : t.Exits[k]? = some x) (h : usedE t.Ins k = false) : exL t (k + 1) = (exL t k).set k ⟨x.At, x.Steps, [], []⟩ := by
  have hl := (List.getElem?_eq_some_iff.1 hx).1
  apply List.ext_getElem?
  intro i
  rw [List.getElem?_set]
  by_cases h3 : k = i
  · subst h3
    rw [if_pos rfl, if_pos (by rw [exL_len]; exact hl)]
    simp only [exL, List.getElem?_mapIdx, hx, Option.map_some]
    rw [if_pos (by omega)]
    unfold bareAt
    rw [h]
    rfl
  · rw [if_neg h3]
    simp only [exL, List.getElem?_mapIdx]
    cases h1 : t.Exits[i]? with
    | none => rfl
    | some x =>
      simp only [Option.map_some, Option.some.injEq]
      by_cases h2 : i < k
      · rw [if_pos (by omega), if_pos h2]
      · rw [if_neg h2, if_neg (by omega)]
theorem bareL_all (t : Api.TTrace) : bareL t t.Exits.length = bareT t := by
  unfold bareL bareT
  congr 1
  apply List.ext_getElem?
  intro i
  simp only [exL, List.getElem?_mapIdx]
  cases h1 : t.Exits[i]? with
  | none => rfl
  | some x =>
    simp only [Option.map_some, Option.some.injEq]
    rw [if_pos (List.getElem?_eq_some_iff.1 h1).1]
/-- Which exits the first k instructions take. -/
def usedL (t : Api.TTrace) (n k : Nat) : List Bool := (List.range n).map fun i => usedE (t.Ins.take k) i
theorem usedL_len (t : Api.TTrace) (n k : Nat) : (usedL t n k).length = n := by simp [usedL]
theorem usedL_zero (t : Api.TTrace) (n : Nat) : usedL t n 0 = List.replicate n false := by
  apply List.ext_getElem
  · simp [usedL]
  · intro i h1 h2
    simp [usedL, usedE]
theorem usedL_at {t : Api.TTrace} {n k i : Nat} (h : i < n) : (usedL t n k)[i]? = some (usedE (t.Ins.take k) i) := by simp [usedL, h]
theorem usedL_all {t : Api.TTrace} {n i : Nat} (h : i < n) : (usedL t n t.Ins.length)[i]? = some (usedE t.Ins i) := by rw [usedL_at h, List.take_length]
theorem used_succ {t : Api.TTrace} {k i : Nat} {x : Api.TIns} (hx : t.Ins[k]? = some x) : usedE (t.Ins.take (k + 1)) i = (usedE (t.Ins.take k) i || decide (x.Exit = (i : Int))) := by
  unfold usedE
  rw [List.take_add_one, hx, List.any_append]
  simp
theorem usedL_no {t : Api.TTrace} {n k : Nat} {x : Api.TIns} (hx : t.Ins[k]? = some x) (h : x.Exit < 0) : usedL t n (k + 1) = usedL t n k := by
  unfold usedL
  apply List.map_congr_left
  intro i _
  rw [used_succ hx, decide_eq_false (by omega), Bool.or_false]
theorem usedL_set {t : Api.TTrace} {n k e : Nat} {x : Api.TIns} (hx : t.Ins[k]? = some x) (h : x.Exit = (e : Int)) : (usedL t n k).set e true = usedL t n (k + 1) := by
  apply List.ext_getElem?
  intro i
  rw [List.getElem?_set]
  by_cases hi : i < n
  · rw [usedL_at hi, usedL_at hi, used_succ hx, h]
    by_cases he : e = i
    · subst he
      rw [if_pos rfl, if_pos (by rw [usedL_len]; exact hi)]
      simp
    · rw [if_neg he, decide_eq_false (by omega), Bool.or_false]
  · have g1 : (usedL t n k)[i]? = none := List.getElem?_eq_none (by rw [usedL_len]; omega)
    have g2 : (usedL t n (k + 1))[i]? = none := List.getElem?_eq_none (by rw [usedL_len]; omega)
    rw [g1, g2]
    by_cases he : e = i
    · subst he
      rw [if_pos rfl, if_neg (by rw [usedL_len]; exact hi)]
    · rw [if_neg he]
theorem blk_false {w : World} {g n : Nat} {e : TypeId} (h : Blk w g e (List.replicate n (Value.bool false))) : Blk w g e (boolsV (List.replicate n false)) := by
  unfold boolsV
  rw [List.map_replicate]
  exact h
end Go.Proofs.YtekofpigmggbbaaDoor.ded
