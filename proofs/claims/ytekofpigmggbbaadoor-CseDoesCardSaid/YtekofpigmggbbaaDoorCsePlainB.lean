/- Plain: the numbers while they are made, by both. -/
import Derived.Test.YtekofpigmggbbaaDoorCsePlain
set_option linter.unusedVariables false
set_option linter.unusedSimpArgs false
namespace Go.Proofs.YtekofpigmggbbaaDoor.cse
open Go.Bk Go.Proofs.YtekofpigmggbbaaDoor.ir Go.Proofs.YtekofpigmggbbaaDoor.chk Go.Proofs.YtekofpigmggbbaaDoor.cut

theorem putI_congr {ts ts' : List Int} {x : Api.TIns} (h : ∀ v ∈ asksOf x, ∃ k : Nat, v = k ∧ ts[k]? = ts'[k]?) : putI ts x = putI ts' x := by
  obtain ⟨n, hn3, hasks, htk, hln⟩ := asks_nat x
  have hv : ∀ v ∈ asksOf x, forV ts v = forV ts' v := fun v hv => by
    obtain ⟨k, rfl, e⟩ := h v hv
    unfold forV
    rw [Int.toNat_natCast, e]
  rw [htk] at hv
  unfold putI cutIns cutArgs
  rw [hasks]
  rcases (show n = 0 ∨ n = 1 ∨ n = 2 ∨ n = 3 by omega) with rfl | rfl | rfl | rfl
  · simp
  · simp [hv x.A (by simp)]
  · simp [hv x.A (by simp), hv x.B (by simp)]
  · simp [hv x.A (by simp), hv x.B (by simp), hv x.C (by simp)]
/-- The numbers while the code makes them: the first k of n. -/
def cseL (t : Api.TTrace) (n k : Nat) : List Int := (List.range n).map fun j => if j < k then stepAt t j else 0
/-- The numbers while the document makes them. -/
def cseI (t : Api.TTrace) (n k : Nat) : List Int := (List.range n).map fun j => if j < k then stepAt t j else (j : Int)
theorem cseL_len (t : Api.TTrace) (n k : Nat) : (cseL t n k).length = n := by simp [cseL]
theorem cseI_len (t : Api.TTrace) (n k : Nat) : (cseI t n k).length = n := by simp [cseI]
theorem cseL_at {t : Api.TTrace} {n k j : Nat} (h : j < n) : (cseL t n k)[j]? = some (if j < k then stepAt t j else 0) := by simp [cseL, h]
theorem cseI_at {t : Api.TTrace} {n k j : Nat} (h : j < n) : (cseI t n k)[j]? = some (if j < k then stepAt t j else (j : Int)) := by simp [cseI, h]
theorem cseL_zero (t : Api.TTrace) (n : Nat) : cseL t n 0 = List.replicate n 0 := by
  apply List.ext_getElem
  · simp [cseL]
  · intro i h1 h2
    simp [cseL]
theorem cseI_zero (t : Api.TTrace) (n : Nat) : cseI t n 0 = idTo n := by
  unfold cseI idTo
  apply List.map_congr_left
  intro j hj
  rw [if_neg (by omega)]
theorem upTo_set {f d : Nat → Int} {n k : Nat} : ((List.range n).map fun j => if j < k then f j else d j).set k (f k) = (List.range n).map fun j => if j < k + 1 then f j else d j := by
  apply List.ext_getElem
  · simp
  · intro i h1 h2
    rw [List.getElem_set]
    by_cases h : k = i
    · subst h
      simp
    · rw [if_neg h]
      simp only [List.getElem_map, List.getElem_range]
      by_cases h3 : i < k
      · rw [if_pos h3, if_pos (by omega)]
      · rw [if_neg h3, if_neg (by omega)]
theorem cseL_set {t : Api.TTrace} {n k : Nat} : (cseL t n k).set k (stepAt t k) = cseL t n (k + 1) := upTo_set
theorem cseI_set {t : Api.TTrace} {n k : Nat} : (cseI t n k).set k (stepAt t k) = cseI t n (k + 1) := upTo_set
theorem cseI_same {t : Api.TTrace} {n k : Nat} (h : stepAt t k = k) : cseI t n (k + 1) = cseI t n k := by
  rw [← cseI_set]
  apply List.ext_getElem
  · simp [cseI]
  · intro i h1 h2
    rw [List.getElem_set]
    by_cases h3 : k = i
    · subst h3
      simp [cseI, h]
    · rw [if_neg h3]
theorem cseL_all (t : Api.TTrace) : cseL t t.Ins.length t.Ins.length = cseTo t := by
  apply List.ext_getElem?
  intro j
  by_cases hj : j < t.Ins.length
  · rw [cseL_at hj, cseTo_at t hj, if_pos hj]
  · rw [List.getElem?_eq_none (by rw [cseL_len]; omega), List.getElem?_eq_none (by rw [cseTo_len]; omega)]
theorem cseI_all (t : Api.TTrace) : cseI t t.Ins.length t.Ins.length = cseTo t := by
  apply List.ext_getElem?
  intro j
  by_cases hj : j < t.Ins.length
  · rw [cseI_at hj, cseTo_at t hj, if_pos hj]
  · rw [List.getElem?_eq_none (by rw [cseI_len]; omega), List.getElem?_eq_none (by rw [cseTo_len]; omega)]
theorem cseI_putI {t : Api.TTrace} (hr : RightT t) {i k : Nat} {x : Api.TIns} (hx : t.Ins[k]? = some x) (hk : k ≤ i) : putI (cseI t t.Ins.length i) x = putI (cseSt t k).1 x := by
  have hl := (List.getElem?_eq_some_iff.1 hx).1
  refine putI_congr fun v hv => ?_
  obtain ⟨u, y, rfl, h1, h2, -⟩ := valAt_iff.1 (hr.asks k x hx v hv)
  refine ⟨u, rfl, ?_⟩
  rw [cseI_at (by omega), if_pos (by omega), cse_at t (by omega)]
theorem cseL_putI {t : Api.TTrace} (hr : RightT t) {i k : Nat} {x : Api.TIns} (hx : t.Ins[k]? = some x) (hk : k ≤ i) : putI (cseL t t.Ins.length i) x = putI (cseSt t k).1 x := by
  have hl := (List.getElem?_eq_some_iff.1 hx).1
  refine putI_congr fun v hv => ?_
  obtain ⟨u, y, rfl, h1, h2, -⟩ := valAt_iff.1 (hr.asks k x hx v hv)
  refine ⟨u, rfl, ?_⟩
  rw [cseL_at (by omega), if_pos (by omega), cse_at t (by omega)]
/-- Does the k-th stand for the i-th? -/
def hitB (t : Api.TTrace) (i k : Nat) : Bool := match t.Ins[i]?, t.Ins[k]? with
  | some x, some y => decide (stepAt t k = k) && alikeB (putI (cseSt t i).1 x) (putI (cseSt t k).1 y) (decide ((i : Int) < t.Loop)) (decide ((k : Int) < t.Loop))
  | _, _ => false
theorem hit_eq {t : Api.TTrace} {i k : Nat} {x y : Api.TIns} (hx : t.Ins[i]? = some x) (hy : t.Ins[k]? = some y) : hitB t i k = (decide (stepAt t k = k) && alikeB (putI (cseSt t i).1 x) (putI (cseSt t k).1 y) (decide ((i : Int) < t.Loop)) (decide ((k : Int) < t.Loop))) := by
  unfold hitB
  rw [hx, hy]
theorem hit_iff {t : Api.TTrace} {i k : Nat} (hi : i < t.Ins.length) (hk : k < t.Ins.length) : hitB t i k = true ↔ stepAt t k = k ∧ ∃ q, keyAt t (cseSt t i).1 i = some q ∧ keyAt t (cseSt t k).1 k = some q := by
  obtain ⟨x, hx⟩ : ∃ x, t.Ins[i]? = some x := ⟨_, List.getElem?_eq_getElem hi⟩
  obtain ⟨y, hy⟩ : ∃ y, t.Ins[k]? = some y := ⟨_, List.getElem?_eq_getElem hk⟩
  rw [hit_eq hx hy, Bool.and_eq_true, decide_eq_true_eq, alike_key]
  unfold keyAt
  rw [hx, hy]
/-- The first that has a key stands for itself. -/
theorem first_self {t : Api.TTrace} {i j : Nat} {q : Key} (hj : firstK (cseSt t i).2 q = some j) : j < i ∧ keyAt t (cseSt t j).1 j = some q ∧ stepAt t j = j := by
  obtain ⟨h1, h2⟩ := firstK_some hj
  have hji : j < i := by
    have := (List.getElem?_eq_some_iff.1 h1).1
    rwa [(cseSt_len t i).2] at this
  have h3 : keyAt t (cseSt t j).1 j = some q := Option.some.inj ((cseSt_at t hji).2.symm.trans h1)
  refine ⟨hji, h3, ?_⟩
  unfold stepAt
  rw [h3]
  dsimp only
  cases h4 : firstK (cseSt t j).2 q with
  | none => rfl
  | some u =>
    exfalso
    obtain ⟨g1, -⟩ := firstK_some h4
    have huj : u < j := by
      have := (List.getElem?_eq_some_iff.1 g1).1
      rwa [(cseSt_len t j).2] at this
    refine h2 u huj ?_
    rw [(cseSt_at t (show u < i by omega)).2, ← (cseSt_at t huj).2, g1]
theorem hit_none {t : Api.TTrace} {i : Nat} (hi : i < t.Ins.length) (h : ∀ k, k < i → hitB t i k = false) : stepAt t i = i := by
  unfold stepAt
  split
  · rfl
  · rename_i q hq
    split
    · rfl
    · rename_i j hj
      exfalso
      obtain ⟨h1, h2, h3⟩ := first_self hj
      have := h j h1
      rw [(hit_iff hi (by omega)).2 ⟨h3, q, hq, h2⟩] at this
      cases this
theorem hit_first {t : Api.TTrace} {i k : Nat} (hi : i < t.Ins.length) (hk : k < i) (h1 : hitB t i k = true) (h : ∀ j, j < k → hitB t i j = false) : stepAt t i = k := by
  obtain ⟨h2, q, h3, h4⟩ := (hit_iff hi (by omega)).1 h1
  unfold stepAt
  rw [h3]
  dsimp only
  cases h5 : firstK (cseSt t i).2 q with
  | none =>
    exfalso
    refine firstK_none h5 k ?_
    rw [(cseSt_at t hk).2, h4]
  | some j =>
    dsimp only
    obtain ⟨g1, g2, g3⟩ := first_self h5
    have hjk : ¬ k < j := fun hc => (firstK_some h5).2 k hc (by rw [(cseSt_at t hk).2, h4])
    have hkj : ¬ j < k := fun hc => by
      have := h j hc
      rw [(hit_iff hi (by omega)).2 ⟨g3, q, h3, g2⟩] at this
      cases this
    omega
/-- The map of what was seen, as a function. -/
def seenF (t : Api.TTrace) (k : Nat) (q : Key) : Option Value := (firstK (cseSt t k).2 q).map fun (j : Nat) => Value.int .i64 (j : Int)
theorem seen_zero (t : Api.TTrace) (q : Key) : seenF t 0 q = none := rfl
theorem seen_none {t : Api.TTrace} {k : Nat} (h : keyAt t (cseSt t k).1 k = none) (q : Key) : seenF t (k + 1) q = seenF t k q := by
  unfold seenF
  show Option.map _ (firstK ((cseSt t k).2 ++ [keyAt t (cseSt t k).1 k]) q) = _
  rw [firstK_snoc, h]
  cases firstK (cseSt t k).2 q with
  | some j => rfl
  | none => rfl
theorem seen_was {t : Api.TTrace} {k j : Nat} {q0 : Key} (h : keyAt t (cseSt t k).1 k = some q0) (h1 : firstK (cseSt t k).2 q0 = some j) (q : Key) : seenF t (k + 1) q = seenF t k q := by
  unfold seenF
  show Option.map _ (firstK ((cseSt t k).2 ++ [keyAt t (cseSt t k).1 k]) q) = _
  rw [firstK_snoc, h]
  cases h2 : firstK (cseSt t k).2 q with
  | some j => rfl
  | none =>
    dsimp only
    rw [if_neg]
    intro e
    injection e with e
    rw [← e, h1] at h2
    cases h2
theorem seen_new {t : Api.TTrace} {k : Nat} {q0 : Key} (h : keyAt t (cseSt t k).1 k = some q0) (h1 : firstK (cseSt t k).2 q0 = none) (q : Key) : (if q = q0 then some (Value.int .i64 (k : Int)) else seenF t k q) = seenF t (k + 1) q := by
  unfold seenF
  show _ = Option.map _ (firstK ((cseSt t k).2 ++ [keyAt t (cseSt t k).1 k]) q)
  rw [firstK_snoc, h]
  by_cases he : q = q0
  · subst he
    rw [if_pos rfl, h1]
    dsimp only
    rw [if_pos rfl, (cseSt_len t k).2]
    rfl
  · rw [if_neg he]
    cases h2 : firstK (cseSt t k).2 q with
    | some j => rfl
    | none =>
      dsimp only
      rw [if_neg (fun e => he (Option.some.inj e).symm)]
theorem step_none {t : Api.TTrace} {k : Nat} (h : keyAt t (cseSt t k).1 k = none) : stepAt t k = k := by unfold stepAt; rw [h]
theorem step_new {t : Api.TTrace} {k : Nat} {q : Key} (h : keyAt t (cseSt t k).1 k = some q) (h1 : firstK (cseSt t k).2 q = none) : stepAt t k = k := by unfold stepAt; rw [h]; dsimp only; rw [h1]
theorem step_was {t : Api.TTrace} {k j : Nat} {q : Key} (h : keyAt t (cseSt t k).1 k = some q) (h1 : firstK (cseSt t k).2 q = some j) : stepAt t k = j := by unfold stepAt; rw [h]; dsimp only; rw [h1]
end Go.Proofs.YtekofpigmggbbaaDoor.cse
