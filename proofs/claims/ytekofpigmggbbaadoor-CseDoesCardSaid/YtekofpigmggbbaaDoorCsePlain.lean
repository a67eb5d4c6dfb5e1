/- Plain: what was reckoned already. -/
import Derived.Test.YtekofpigmggbbaaDoorPut
set_option linter.unusedVariables false
set_option linter.unusedSimpArgs false
namespace Go.Proofs.YtekofpigmggbbaaDoor.cse
open Go.Bk Go.Proofs.YtekofpigmggbbaaDoor.ir Go.Proofs.YtekofpigmggbbaaDoor.chk Go.Proofs.YtekofpigmggbbaaDoor.cut

/-- Those that are alike have one. -/
structure Key where
  op : Int
  n : Int
  a : Int
  b : Int
  ahead : Bool
  k : Api.Val
deriving DecidableEq
def swaps (n : Int) : Prop := n = 3 ∨ n = 5 ∨ n = 8
instance (n : Int) : Decidable (swaps n) := by unfold swaps; infer_instance
/-- The key of an instruction. -/
def keyOf (x : Api.TIns) (ahead : Bool) : Option Key :=
  if x.Op = 2 then some ⟨2, 0, 0, 0, false, x.K⟩
  else if x.Op = 3 then some ⟨3, 0, 0, 0, false, ⟨0, 0⟩⟩
  else if x.Op = 1 then some ⟨1, x.N, 0, 0, ahead, ⟨0, 0⟩⟩
  else if x.Op = 8 then some ⟨8, x.N, x.A, 0, false, ⟨0, 0⟩⟩
  else if x.Op = 7 then some (if swaps x.N then ⟨7, x.N, min x.A x.B, max x.A x.B, false, ⟨0, 0⟩⟩ else ⟨7, x.N, x.A, x.B, false, ⟨0, 0⟩⟩)
  else none
def keyAt (t : Api.TTrace) (ts : List Int) (k : Nat) : Option Key := match t.Ins[k]? with
  | none => none
  | some x => keyOf (putI ts x) (decide ((k : Int) < t.Loop))
/-- The first that has a key. -/
def firstK (keys : List (Option Key)) (q : Key) : Option Nat := keys.findIdx? (fun o => decide (o = some q))
/-- What stands for the first k, and their keys. -/
def cseSt (t : Api.TTrace) : Nat → List Int × List (Option Key)
  | 0 => ([], [])
  | k + 1 => ((cseSt t k).1 ++ [match keyAt t (cseSt t k).1 k with
      | none => (k : Int)
      | some q => match firstK (cseSt t k).2 q with
        | none => (k : Int)
        | some j => (j : Int)], (cseSt t k).2 ++ [keyAt t (cseSt t k).1 k])
def cseTo (t : Api.TTrace) : List Int := (cseSt t t.Ins.length).1
theorem cseSt_len (t : Api.TTrace) : ∀ k, (cseSt t k).1.length = k ∧ (cseSt t k).2.length = k
  | 0 => ⟨rfl, rfl⟩
  | k + 1 => by
    obtain ⟨h1, h2⟩ := cseSt_len t k
    constructor
    · show ((cseSt t k).1 ++ [_]).length = _; rw [List.length_append, h1]; rfl
    · show ((cseSt t k).2 ++ [_]).length = _; rw [List.length_append, h2]; rfl
theorem firstK_some {keys : List (Option Key)} {q : Key} {j : Nat} (h : firstK keys q = some j) : keys[j]? = some (some q) ∧ ∀ i, i < j → keys[i]? ≠ some (some q) := by
  unfold firstK at h
  rw [List.findIdx?_eq_some_iff_getElem] at h
  obtain ⟨hj, h1, h2⟩ := h
  refine ⟨by rw [List.getElem?_eq_getElem hj]; simpa using h1, fun i hi e => ?_⟩
  have h3 := h2 i hi
  rw [List.getElem?_eq_getElem (by omega)] at e
  simp at h3
  exact h3 (Option.some.inj e)
theorem firstK_none {keys : List (Option Key)} {q : Key} (h : firstK keys q = none) : ∀ i : Nat, keys[i]? ≠ some (some q) := by
  unfold firstK at h
  rw [List.findIdx?_eq_none_iff] at h
  intro i e
  have := h _ (List.mem_of_getElem? e)
  simp at this
theorem firstK_snoc (keys : List (Option Key)) (o : Option Key) (q : Key) : firstK (keys ++ [o]) q = match firstK keys q with
    | some j => some j
    | none => if o = some q then some keys.length else none := by
  unfold firstK
  rw [List.findIdx?_append]
  cases h : keys.findIdx? (fun o => decide (o = some q)) with
  | some j => rfl
  | none =>
    by_cases he : o = some q
    · simp [he]
    · simp [he]
/-- The k-th, and what stands for it. -/
theorem cseSt_at (t : Api.TTrace) {j : Nat} : ∀ {k : Nat}, j < k → (cseSt t k).1[j]? = (cseSt t (j + 1)).1[j]? ∧ (cseSt t k).2[j]? = some (keyAt t (cseSt t j).1 j)
  | 0, h => by omega
  | k + 1, h => by
    have h1 := cseSt_len t k
    by_cases hj : j < k
    · obtain ⟨g1, g2⟩ := cseSt_at t hj
      refine ⟨?_, ?_⟩
      · rw [← g1]
        show (_ ++ _)[j]? = _
        rw [List.getElem?_append_left (by omega)]
      · rw [← g2]
        show (_ ++ _)[j]? = _
        rw [List.getElem?_append_left (by omega)]
    · obtain rfl : j = k := by omega
      refine ⟨rfl, ?_⟩
      show (_ ++ _)[j]? = _
      rw [List.getElem?_append_right (by omega), h1.2, Nat.sub_self]
      rfl
def stepAt (t : Api.TTrace) (k : Nat) : Int := match keyAt t (cseSt t k).1 k with
      | none => (k : Int)
      | some q => match firstK (cseSt t k).2 q with
        | none => (k : Int)
        | some j => (j : Int)
theorem cse_at (t : Api.TTrace) {j k : Nat} (h : j < k) : (cseSt t k).1[j]? = some (stepAt t j) := by
  rw [(cseSt_at t h).1]
  show (_ ++ _)[j]? = _
  rw [List.getElem?_append_right (by rw [(cseSt_len t j).1]; exact Nat.le_refl _), (cseSt_len t j).1, Nat.sub_self]
  rfl
theorem stepAt_ge (t : Api.TTrace) (k : Nat) : 0 ≤ stepAt t k ∧ stepAt t k ≤ k := by
  unfold stepAt
  split
  · omega
  · split
    · omega
    · rename_i j hj
      have := (List.getElem?_eq_some_iff.1 (firstK_some hj).1).1
      rw [(cseSt_len t k).2] at this
      omega
theorem cseTo_len (t : Api.TTrace) : (cseTo t).length = t.Ins.length := (cseSt_len t _).1
theorem cseTo_at (t : Api.TTrace) {k : Nat} (h : k < t.Ins.length) : (cseTo t)[k]? = some (stepAt t k) := cse_at t h
theorem cseTo_ok (t : Api.TTrace) : toOk (cseTo t) t.Ins.length = true := toOk_of fun j hj => ⟨_, cseTo_at t hj, by have := stepAt_ge t j; omega, (stepAt_ge t j).2⟩
theorem putI_op (ts : List Int) (x : Api.TIns) : (putI ts x).Op = x.Op := rfl
theorem keyOf_tells {x : Api.TIns} {b : Bool} {q : Key} (h : keyOf x b = some q) : tellsOf x.Op = true := by
  rw [tellsOf_eq]
  simp only [decide_eq_true_eq, List.mem_cons, List.not_mem_nil, or_false]
  unfold keyOf at h
  repeat (first | (split at h; rename_i h0; omega) | cases h)
theorem cse_fine {t : Api.TTrace} (hr : RightT t) : fineT t (cseTo t) = true := by
  refine fineT_of hr (cseTo_ok t) fun k x n hx ht hn => ?_
  have hl := (List.getElem?_eq_some_iff.1 hx).1
  rw [cseTo_at t hl] at hn
  obtain rfl := Option.some.inj hn
  have hg := stepAt_ge t k
  refine ⟨hg.1, ?_⟩
  unfold stepAt at hg ⊢
  split
  · exact ⟨x, by simpa using hx, ht⟩
  · split
    · exact ⟨x, by simpa using hx, ht⟩
    · rename_i q hq _ j hj
      have h1 := (firstK_some hj).1
      have hjk : j < k := by
        have := (List.getElem?_eq_some_iff.1 h1).1
        rw [(cseSt_len t k).2] at this
        exact this
      rw [(cseSt_at t hjk).2] at h1
      have h2 : keyAt t (cseSt t j).1 j = some q := Option.some.inj h1
      unfold keyAt at h2
      obtain ⟨y, hy⟩ : ∃ y, t.Ins[j]? = some y := ⟨_, List.getElem?_eq_getElem (by omega)⟩
      rw [hy] at h2
      have h3 : keyOf (putI (cseSt t j).1 y) (decide ((j : Int) < t.Loop)) = some q := h2
      have h4 : tellsOf (putI (cseSt t j).1 y).Op = true := keyOf_tells h3
      exact ⟨y, by simpa using hy, h4⟩
/-- Instructions that are alike, as the document has it. -/
def alikeB (x y : Api.TIns) (a b : Bool) : Bool :=
  if x.Op ≠ y.Op then false
  else if x.Op = 2 then decide (x.K = y.K)
  else if x.Op = 3 then true
  else if x.Op = 1 then decide (x.N = y.N) && decide (a = b)
  else if x.Op = 8 then decide (x.N = y.N) && decide (x.A = y.A)
  else if x.Op = 7 then decide (x.N = y.N) && ((decide (x.A = y.A) && decide (x.B = y.B)) || (decide (swaps x.N) && (decide (x.A = y.B) && decide (x.B = y.A))))
  else false
theorem alike_key (x y : Api.TIns) (a b : Bool) : alikeB x y a b = true ↔ ∃ q, keyOf x a = some q ∧ keyOf y b = some q := by
  unfold alikeB keyOf
  by_cases he : x.Op = y.Op
  · rw [if_neg (by simpa using he), ← he]
    by_cases h2 : x.Op = 2
    · rw [if_pos h2, if_pos h2, if_pos h2]
      simp
      exact eq_comm
    rw [if_neg h2, if_neg h2, if_neg h2]
    by_cases h3 : x.Op = 3
    · rw [if_pos h3, if_pos h3, if_pos h3]
      simp
    rw [if_neg h3, if_neg h3, if_neg h3]
    by_cases h1 : x.Op = 1
    · rw [if_pos h1, if_pos h1, if_pos h1]
      simp
      constructor
      · rintro ⟨h, h'⟩; exact ⟨h.symm, h'.symm⟩
      · rintro ⟨h, h'⟩; exact ⟨h.symm, h'.symm⟩
    rw [if_neg h1, if_neg h1, if_neg h1]
    by_cases h8 : x.Op = 8
    · rw [if_pos h8, if_pos h8, if_pos h8]
      simp
      constructor
      · rintro ⟨h, h'⟩; exact ⟨h.symm, h'.symm⟩
      · rintro ⟨h, h'⟩; exact ⟨h.symm, h'.symm⟩
    rw [if_neg h8, if_neg h8, if_neg h8]
    by_cases h7 : x.Op = 7
    · rw [if_pos h7, if_pos h7, if_pos h7]
      by_cases hn : x.N = y.N
      · rw [← hn]
        by_cases hs : swaps x.N
        · simp [hs]
          constructor
          · rintro (⟨h, h'⟩ | ⟨h, h'⟩)
            · rw [h, h']; exact ⟨rfl, rfl⟩
            · rw [h, h']; exact ⟨Int.min_comm _ _, Int.max_comm _ _⟩
          · rintro ⟨h, h'⟩
            omega
        · simp [hs]
          constructor
          · rintro ⟨h, h'⟩; exact ⟨h.symm, h'.symm⟩
          · rintro ⟨h, h'⟩; exact ⟨h.symm, h'.symm⟩
      · constructor
        · intro h; simp [hn] at h
        · rintro ⟨q, h, h'⟩
          exfalso
          apply hn
          have e1 : q.n = x.N := by split at h <;> (injection h with h; rw [← h])
          have e2 : q.n = y.N := by split at h' <;> (injection h' with h'; rw [← h'])
          omega
    · rw [if_neg h7, if_neg h7]
      simp
  · rw [if_pos he]
    constructor
    · intro h; cases h
    · rintro ⟨q, h, h'⟩
      exfalso
      apply he
      have e1 : q.op = x.Op := by
        repeat (first | (split at h; rename_i h0; (injection h with h; rw [← h]; first | exact h0.symm | (split <;> exact h0.symm))) | cases h)
      have e2 : q.op = y.Op := by
        repeat (first | (split at h'; rename_i h0; (injection h' with h'; rw [← h']; first | exact h0.symm | (split <;> exact h0.symm))) | cases h')
      omega
end Go.Proofs.YtekofpigmggbbaaDoor.cse
