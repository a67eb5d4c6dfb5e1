/- HeatTurns, plain: the document's list, call by call. -/
import Derived.Test.YtjlnaiiajlahgaaHeatPlain
set_option linter.unusedVariables false
set_option linter.unusedSimpArgs false
namespace Go.Proofs.Ytjlnaiiajlahgaa.heat
open Go.Bk

/-- The last match among the first j. -/
def idxTo (l : List Api.THead) (fn at' : Int) : Nat → Int
  | 0 => -1
  | j + 1 => match l[j]? with
    | some x => if isK fn at' x then j else idxTo l fn at' j
    | none => idxTo l fn at' j
theorem idx_none {l : List Api.THead} {fn at' : Int} (h : cur l fn at' = none) : ∀ j, idxTo l fn at' j = -1
  | 0 => rfl
  | j + 1 => by
    rw [idxTo]
    cases hx : l[j]? with
    | none => exact idx_none h j
    | some x =>
      dsimp only
      unfold cur at h
      rw [List.find?_eq_none] at h
      rw [if_neg (h x (List.mem_of_getElem? hx))]
      exact idx_none (by unfold cur; rw [List.find?_eq_none]; exact h) j
theorem idx_some {l : List Api.THead} (hs : Srt l) {fn at' : Int} {x : Api.THead} (h : cur l fn at' = some x) : ∀ {j}, posn l fn at' < j → idxTo l fn at' j = posn l fn at'
  | 0, hj => by omega
  | j + 1, hj => by
    obtain ⟨hx, h1, h2⟩ := (cur_iff hs).1 h
    rw [idxTo]
    by_cases e : j = posn l fn at'
    · rw [e, hx]
      dsimp only
      rw [if_pos (isK_iff.2 ⟨h1, h2⟩)]
    · cases hy : l[j]? with
      | none => exact idx_some hs h (by omega)
      | some y =>
        dsimp only
        rw [if_neg (fun hk => e (by
          have hk := isK_iff.1 hk
          have := at_posn hs hy
          rw [hk.1, hk.2] at this
          exact this))]
        exact idx_some hs h (by omega)
theorem put_put {x y : Api.THead} (h1 : y.Fn = x.Fn) (h2 : y.At = x.At) : ∀ l, put y (put x l) = put y l
  | [] => by
    have e1 : put x [] = [x] := rfl
    have e2 : put y [] = [y] := rfl
    rw [e1, e2, put, if_neg (by unfold hlt; omega), if_pos (isK_iff.2 ⟨h1.symm, h2.symm⟩)]
  | z :: l => by
    have hzz : hlt z y ↔ hlt z x := by unfold hlt; rw [h1, h2]
    have hkk : isK y.Fn y.At z = isK x.Fn x.At z := by rw [h1, h2]
    rw [put, put, hkk]
    by_cases hz : hlt z x
    · rw [if_pos hz, if_pos (hzz.2 hz), put, if_pos (hzz.2 hz), put_put h1 h2 l]
    · rw [if_neg hz, if_neg (fun h => hz (hzz.1 h))]
      have hxy : ¬ hlt x y := by unfold hlt; omega
      have hky : isK y.Fn y.At x = true := isK_iff.2 ⟨h1.symm, h2.symm⟩
      split
      · rw [put, if_neg hxy, if_pos hky]
      · rw [put, if_neg hxy, if_pos hky]
theorem cur_put_self (x : Api.THead) (l : List Api.THead) : cur (put x l) x.Fn x.At = some x := by rw [cur_put, if_pos ⟨rfl, rfl⟩]
/-- Where the new one lies. -/
theorem put_at {l : List Api.THead} {x : Api.THead} (h : cur l x.Fn x.At = none) : (put x l)[posn l x.Fn x.At]? = some x := by
  have := posn_le l x.Fn x.At
  rw [put_new h, List.getElem?_append_right (by simp; omega), List.length_take, Nat.min_eq_left this, Nat.sub_self]
  rfl
theorem put_posn {l : List Api.THead} (hs : Srt l) {x : Api.THead} (h : cur l x.Fn x.At = none) : posn (put x l) x.Fn x.At = posn l x.Fn x.At := (at_posn (put_srt x hs) (put_at h)).symm
theorem put_set_new {l : List Api.THead} (hs : Srt l) {x y : Api.THead} (h1 : y.Fn = x.Fn) (h2 : y.At = x.At) (h : cur l x.Fn x.At = none) : (put x l).set (posn l x.Fn x.At) y = put y l := by
  rw [← put_put h1 h2 l, put_set (put_srt x hs) (by rw [h1, h2]; exact cur_put_self x l), h1, h2, put_posn hs h]
/-- What the first k calls lead to. -/
def runTo (hot : Int) (cs : List (Int × Int × Int)) : Nat → List Api.THead × List Int
  | 0 => ([], [])
  | k + 1 => match cs[k]? with
    | some c => ((stepL hot (runTo hot cs k).1 c.1 c.2.1 c.2.2).1, (runTo hot cs k).2 ++ [(stepL hot (runTo hot cs k).1 c.1 c.2.1 c.2.2).2])
    | none => runTo hot cs k
theorem runTo_succ {hot : Int} {cs : List (Int × Int × Int)} {k : Nat} {c : Int × Int × Int} (h : cs[k]? = some c) : runTo hot cs (k + 1) = ((stepL hot (runTo hot cs k).1 c.1 c.2.1 c.2.2).1, (runTo hot cs k).2 ++ [(stepL hot (runTo hot cs k).1 c.1 c.2.1 c.2.2).2]) := by
  rw [runTo, h]
theorem runTo_inv {hot : Int} (h1 : 1 ≤ hot) (h2 : hot ≤ 1000) (cs : List (Int × Int × Int)) : ∀ k, Inv (runTo hot cs k).1
  | 0 => ⟨List.Pairwise.nil, fun x hx => absurd hx (by simp [runTo]), by simp [runTo]⟩
  | k + 1 => by
    rw [runTo]
    cases cs[k]? with
    | none => exact runTo_inv h1 h2 cs k
    | some c => exact step_inv h1 h2 (runTo_inv h1 h2 cs k) _ _ _
theorem runTo_len {hot : Int} {cs : List (Int × Int × Int)} : ∀ {k}, k ≤ cs.length → (runTo hot cs k).2.length = k
  | 0, _ => rfl
  | k + 1, h => by
    obtain ⟨c, hc⟩ : ∃ c, cs[k]? = some c := ⟨_, List.getElem?_eq_getElem (by omega)⟩
    rw [runTo_succ hc]
    rw [List.length_append, runTo_len (by omega : k ≤ cs.length)]
    rfl
theorem step_taken {hot : Int} {l : List Api.THead} {fn at' k : Int} (h : k ≠ 0) : stepL hot l fn at' k = takenL l fn at' (decide (k = 1)) := by unfold stepL; rw [if_pos h]
theorem step_turn {hot : Int} {l : List Api.THead} {fn at' k : Int} (h : k = 0) : stepL hot l fn at' k = turnL hot l fn at' := by unfold stepL; rw [if_neg (by omega)]
theorem bump_told {x : Api.THead} (h : Good x) : 0 ≤ (bump x).2 ∧ (bump x).2 ≤ 3 := by
  unfold Good at h
  unfold bump
  split
  · split <;> (dsimp only; omega)
  · split <;> (dsimp only; omega)
end Go.Proofs.Ytjlnaiiajlahgaa.heat
