/- Plain: one turn ahead. -/
import Derived.Test.YtekofpigmggbbaaDoorQChkE
set_option linter.unusedVariables false
set_option linter.unusedSimpArgs false
namespace Go.Proofs.YtekofpigmggbbaaDoor.peel
open Go.Bk Go.Proofs.YtekofpigmggbbaaDoor.ir Go.Proofs.YtekofpigmggbbaaDoor.chk Go.Proofs.YtekofpigmggbbaaDoor.cut

/-- An exit with its values n further on. -/
def movedX (n : Int) (x : Api.TExit) : Api.TExit := cutExit (fun v => v + n) x
def movedI (n m : Int) (x : Api.TIns) : Api.TIns := let y := cutIns (fun v => v + n) x; ⟨y.Op, y.A, y.B, y.C, y.N, if 0 ≤ y.Exit then y.Exit + m else y.Exit, y.K⟩
/-- The trace with a turn ahead. -/
def twiceT (t : Api.TTrace) : Api.TTrace := ⟨t.Fn, t.At, t.Ins.length, t.Ins ++ t.Ins.map (movedI t.Ins.length t.Exits.length), t.Exits ++ t.Exits.map (movedX t.Ins.length), t.Back, movedX t.Ins.length t.Back⟩
def hasOp (t : Api.TTrace) (a b : Int) : Bool := t.Ins.any fun x => decide (x.Op = a) || decide (x.Op = b)
/-- Does an instruction tell the same turn by turn, if all that it asks does? -/
def firmB (t : Api.TTrace) (x : Api.TIns) : Bool :=
  if x.Op = 1 then !(t.Back.Sets.any fun s => decide (s.Reg = x.N))
  else if x.Op = 9 then !(decide (x.N = 1)) || !(hasOp t 12 12)
  else if x.Op = 10 ∨ x.Op = 13 then !(hasOp t 11 14)
  else if x.Op = 15 then !(hasOp t 17 12)
  else if x.Op = 2 ∨ x.Op = 3 ∨ x.Op = 19 ∨ x.Op = 7 ∨ x.Op = 8 ∨ x.Op = 4 ∨ x.Op = 5 ∨ x.Op = 6 then true
  else false
/-- Which of the first k are firm. -/
def firmTo (t : Api.TTrace) : Nat → List Bool
  | 0 => []
  | k + 1 => firmTo t k ++ [match t.Ins[k]? with
    | none => false
    | some x => firmB t x && (asksOf x).all fun v => ((firmTo t k)[v.toNat]?).getD false]
theorem firmTo_len (t : Api.TTrace) : ∀ k, (firmTo t k).length = k
  | 0 => rfl
  | k + 1 => by show (firmTo t k ++ [_]).length = _; rw [List.length_append, firmTo_len t k]; rfl
def peelAt (t : Api.TTrace) (k : Nat) : Int := match t.Ins[k]? with
  | none => -1
  | some x => if ((firmTo t (k + 1))[k]?).getD false = true then (if tellsOf x.Op = true then k else -1) else (t.Ins.length : Int) + k
/-- What stands for what: the turn ahead as it is, then each that is firm by the one ahead. -/
def peelTo (t : Api.TTrace) : List Int := idTo t.Ins.length ++ (List.range t.Ins.length).map (peelAt t)
/-- Is there nothing to be done? -/
def peelNot (t : Api.TTrace) : Bool := decide (0 < t.Loop) || (decide (t.Ins.length = 0) || (decide (150 < t.Ins.length) || decide (100 < t.Exits.length)))
def peelT (t : Api.TTrace) : Api.TTrace := if peelNot t = true then t else cutT (twiceT t) (peelTo t)
end Go.Proofs.YtekofpigmggbbaaDoor.peel

namespace Go.Proofs.YtekofpigmggbbaaDoor.peel
open Go.Bk Go.Proofs.YtekofpigmggbbaaDoor.ir Go.Proofs.YtekofpigmggbbaaDoor.chk Go.Proofs.YtekofpigmggbbaaDoor.cut

theorem valAt_two {l m : List Api.TIns} {v a b : Int} (h : valAt l v a = true) (hab : a ≤ b) : valAt (l ++ m) v b = true := by
  obtain ⟨k, x, h1, h2, h3, h4⟩ := valAt_iff.1 h
  exact valAt_iff.2 ⟨k, x, h1, by omega, by rw [List.getElem?_append_left (List.getElem?_eq_some_iff.1 h3).1]; exact h3, h4⟩
theorem valAt_moved {l : List Api.TIns} {g : Api.TIns → Api.TIns} (hg : ∀ x, (g x).Op = x.Op) {v a : Int} (h : valAt l v a = true) : valAt (l ++ l.map g) (v + l.length) (a + l.length) = true := by
  obtain ⟨k, x, h1, h2, h3, h4⟩ := valAt_iff.1 h
  refine valAt_iff.2 ⟨l.length + k, g x, by omega, by omega, ?_, by rw [hg]; exact h4⟩
  rw [List.getElem?_append_right (by omega), show l.length + k - l.length = k by omega, List.getElem?_map, h3]
  rfl
theorem moved_asks (n m : Int) (x : Api.TIns) : asksOf (movedI n m x) = (asksOf x).map (· + n) := by
  have h : asksOf (movedI n m x) = asksOf (cutIns (fun v => v + n) x) := rfl
  rw [h]
  unfold asksOf cutIns cutArgs
  dsimp only
  have hc := asks_cases x.Op
  have e : ∀ c : Int, (c = 0 ∨ c = 1 ∨ c = 2 ∨ c = 3) → [if 0 < c then x.A + n else x.A, if 1 < c then x.B + n else x.B, if 2 < c then x.C + n else x.C].take c.toNat = ([x.A, x.B, x.C].take c.toNat).map (· + n) := by
    rintro c (rfl | rfl | rfl | rfl) <;> simp
  refine e _ ?_
  rcases hc with ⟨-, h⟩ | ⟨-, h | h | h | h⟩
  all_goals rw [h]; simp
theorem exitR_two {t : Api.TTrace} {x : Api.TExit} {m : List Api.TIns} (h : ExitR t.Ins x) : ExitR (t.Ins ++ m) x := by
  refine ⟨h.fewS, h.fewM, fun s hs => valAt_two (h.sets s hs) (by simp; omega), fun k hk => ?_⟩
  obtain ⟨h1, h2, h3⟩ := h.makes k hk
  exact ⟨valAt_two h1 (by simp; omega), h2, fun v hv => valAt_two (h3 v hv) (by simp; omega)⟩
theorem exitR_moved {l : List Api.TIns} {x : Api.TExit} {g : Api.TIns → Api.TIns} (hg : ∀ x, (g x).Op = x.Op) (h : ExitR l x) : ExitR (l ++ l.map g) (movedX l.length x) := by
  have e : ((l ++ l.map g).length : Int) = (l.length : Int) + l.length := by simp
  refine ⟨by show (x.Sets.map _).length ≤ _; rw [List.length_map]; exact h.fewS, by show (x.Makes.map _).length ≤ _; rw [List.length_map]; exact h.fewM, fun s hs => ?_, fun k hk => ?_⟩
  · obtain ⟨s', hs', rfl⟩ := List.mem_map.1 hs
    have := valAt_moved hg (h.sets s' hs')
    rw [← e] at this
    exact this
  · obtain ⟨k', hk', rfl⟩ := List.mem_map.1 hk
    obtain ⟨h1, h2, h3⟩ := h.makes k' hk'
    have h1 := valAt_moved hg h1
    rw [← e] at h1
    refine ⟨h1, by show (k'.Vals.map _).length ≤ _; rw [List.length_map]; exact h2, fun v hv => ?_⟩
    obtain ⟨v', hv', rfl⟩ := List.mem_map.1 hv
    have h3 := valAt_moved hg (h3 v' hv')
    rw [← e] at h3
    exact h3
theorem twice_right {t : Api.TTrace} (hr : RightT t) (hn : t.Ins.length ≤ 150) (hm : t.Exits.length ≤ 100) : RightT (twiceT t) := by
  have hg : ∀ x, (movedI t.Ins.length t.Exits.length x).Op = x.Op := fun x => rfl
  refine ⟨?_, ?_, ?_, ?_, ?_, ?_, ?_, ?_, ?_⟩
  · show (t.Ins ++ _).length ≤ _
    rw [List.length_append, List.length_map]; omega
  · show (t.Exits ++ _).length ≤ _
    rw [List.length_append, List.length_map]; omega
  · show (0 : Int) ≤ (t.Ins.length : Int) ∧ (t.Ins.length : Int) ≤ (((t.Ins ++ _).length : Nat) : Int)
    rw [List.length_append]; omega
  · intro i x hx
    rcases Nat.lt_or_ge i t.Ins.length with hi | hi
    · have hx : (t.Ins ++ _)[i]? = some x := hx
      rw [List.getElem?_append_left hi] at hx
      exact hr.form i x hx
    · have hx : (t.Ins ++ _)[i]? = some x := hx
      rw [List.getElem?_append_right hi, List.getElem?_map] at hx
      cases hy : t.Ins[i - t.Ins.length]? with
      | none => rw [hy] at hx; cases hx
      | some y => rw [hy] at hx; cases hx; exact hr.form _ y hy
  · intro i x hx v hv
    show valAt (t.Ins ++ _) v i = true
    rcases Nat.lt_or_ge i t.Ins.length with hi | hi
    · have hx : (t.Ins ++ _)[i]? = some x := hx
      rw [List.getElem?_append_left hi] at hx
      exact valAt_two (hr.asks i x hx v hv) (Int.le_refl _)
    · have hx : (t.Ins ++ _)[i]? = some x := hx
      rw [List.getElem?_append_right hi, List.getElem?_map] at hx
      cases hy : t.Ins[i - t.Ins.length]? with
      | none => rw [hy] at hx; cases hx
      | some y =>
        rw [hy] at hx
        cases hx
        rw [moved_asks] at hv
        obtain ⟨u, hu, rfl⟩ := List.mem_map.1 hv
        have h := valAt_moved hg (hr.asks _ y hy u hu)
        rw [show (((i - t.Ins.length : Nat) : Int) + t.Ins.length) = (i : Int) by omega] at h
        exact h
  · intro i x hx
    show _ ∨ (_ ∧ x.Exit < (((t.Exits ++ _).length : Nat) : Int))
    rw [List.length_append, List.length_map]
    have hx : (t.Ins ++ _)[i]? = some x := hx
    rcases Nat.lt_or_ge i t.Ins.length with hi | hi
    · rw [List.getElem?_append_left hi] at hx
      rcases hr.way i x hx with h | h
      · exact .inl h
      · exact .inr ⟨h.1, by omega⟩
    · rw [List.getElem?_append_right hi, List.getElem?_map] at hx
      cases hy : t.Ins[i - t.Ins.length]? with
      | none => rw [hy] at hx; cases hx
      | some y =>
        rw [hy] at hx
        cases hx
        show (if 0 ≤ y.Exit then y.Exit + (t.Exits.length : Int) else y.Exit) = -1 ∨ (0 ≤ (if 0 ≤ y.Exit then y.Exit + (t.Exits.length : Int) else y.Exit) ∧ (if 0 ≤ y.Exit then y.Exit + (t.Exits.length : Int) else y.Exit) < _)
        rcases hr.way _ y hy with h | h
        · left; rw [if_neg (by omega)]; exact h
        · right; rw [if_pos h.1]; omega
  · intro x hx
    rcases List.mem_append.1 hx with hx | hx
    · exact exitR_two (hr.exits x hx)
    · obtain ⟨y, hy, rfl⟩ := List.mem_map.1 hx
      exact exitR_moved hg (hr.exits y hy)
  · exact exitR_two hr.back
  · exact exitR_moved hg hr.back
theorem peelTo_len (t : Api.TTrace) : (peelTo t).length = t.Ins.length + t.Ins.length := by
  unfold peelTo
  rw [List.length_append, idTo_len, List.length_map, List.length_range]
theorem twice_len (t : Api.TTrace) : (twiceT t).Ins.length = t.Ins.length + t.Ins.length := by
  show (t.Ins ++ t.Ins.map _).length = _
  rw [List.length_append, List.length_map]
theorem peelTo_lo {t : Api.TTrace} {k : Nat} (h : k < t.Ins.length) : (peelTo t)[k]? = some (k : Int) := by
  unfold peelTo
  rw [List.getElem?_append_left (by rw [idTo_len]; exact h), idTo_at h]
theorem peelTo_hi {t : Api.TTrace} {k : Nat} (h : k < t.Ins.length) : (peelTo t)[t.Ins.length + k]? = some (peelAt t k) := by
  unfold peelTo
  rw [List.getElem?_append_right (by rw [idTo_len]; omega), idTo_len, show t.Ins.length + k - t.Ins.length = k by omega]
  simp [h]
theorem peelAt_le (t : Api.TTrace) (k : Nat) : -1 ≤ peelAt t k ∧ peelAt t k ≤ (t.Ins.length : Int) + k := by
  unfold peelAt
  split
  · omega
  · split
    · split <;> omega
    · omega
theorem peelTo_ok (t : Api.TTrace) : toOk (peelTo t) (twiceT t).Ins.length = true := by
  rw [twice_len]
  refine toOk_of fun j hj => ?_
  rcases Nat.lt_or_ge j t.Ins.length with h | h
  · exact ⟨_, peelTo_lo h, by omega, Int.le_refl _⟩
  · obtain ⟨k, rfl⟩ : ∃ k, j = t.Ins.length + k := ⟨j - t.Ins.length, by omega⟩
    have := peelAt_le t k
    exact ⟨_, peelTo_hi (by omega), by omega, by omega⟩
theorem peel_fine {t : Api.TTrace} (hr : RightT t) (hn : t.Ins.length ≤ 150) (hm : t.Exits.length ≤ 100) : fineT (twiceT t) (peelTo t) = true := by
  refine fineT_of (twice_right hr hn hm) (peelTo_ok t) fun k x n hx ht hk => ?_
  have hx : (t.Ins ++ t.Ins.map (movedI t.Ins.length t.Exits.length))[k]? = some x := hx
  have hl := (List.getElem?_eq_some_iff.1 hx).1
  rw [List.length_append, List.length_map] at hl
  show 0 ≤ n ∧ ∃ y, (t.Ins ++ t.Ins.map (movedI t.Ins.length t.Exits.length))[n.toNat]? = some y ∧ tellsOf y.Op = true
  rcases Nat.lt_or_ge k t.Ins.length with h | h
  · rw [peelTo_lo h] at hk
    obtain rfl := Option.some.inj hk
    exact ⟨by omega, x, by simpa using hx, ht⟩
  · obtain ⟨j, rfl⟩ : ∃ j, k = t.Ins.length + j := ⟨k - t.Ins.length, by omega⟩
    have hj : j < t.Ins.length := by omega
    rw [peelTo_hi hj] at hk
    obtain rfl := Option.some.inj hk
    have hx2 := hx
    rw [List.getElem?_append_right (by omega), show t.Ins.length + j - t.Ins.length = j by omega, List.getElem?_map] at hx2
    cases hy : t.Ins[j]? with
    | none => rw [hy] at hx2; cases hx2
    | some y =>
      rw [hy] at hx2
      have hop : tellsOf y.Op = true := by rw [← Option.some.inj hx2] at ht; exact ht
      unfold peelAt
      rw [hy]
      dsimp only
      split
      · exact ⟨by omega, y, by simpa [List.getElem?_append_left hj] using hy, hop⟩
      · exact ⟨by omega, x, by rw [show ((t.Ins.length : Int) + j).toNat = t.Ins.length + j by omega]; exact hx, ht⟩
end Go.Proofs.YtekofpigmggbbaaDoor.peel
