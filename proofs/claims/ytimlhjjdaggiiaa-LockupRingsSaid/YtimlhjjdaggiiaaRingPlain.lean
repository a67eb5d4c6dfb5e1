/- Rings of waiting threads: what both sides compute, in plain words. -/
import Derived.Test.YtimlhjjdaggiiaaTy
set_option linter.unusedVariables false
set_option linter.unusedSimpArgs false
namespace Go.Proofs.Ytimlhjjdaggiiaa.ring
open Go.Bk

theorem nodup_sub {xs ys : List Int} (hn : xs.Nodup) (h : ∀ x ∈ xs, x ∈ ys) : xs.length ≤ ys.length := by
  induction xs generalizing ys with
  | nil => simp
  | cons x t ih =>
    have hx : x ∈ ys := h x (List.mem_cons_self ..)
    have hn' := List.nodup_cons.1 hn
    have := ih hn'.2 (ys := ys.erase x) (fun z hz => (List.mem_erase_of_ne (fun e => hn'.1 (by rw [← e]; exact hz))).2 (h z (List.mem_cons_of_mem _ hz)))
    rw [List.length_erase_of_mem hx] at this
    have := List.length_pos_of_mem hx
    simp; omega

/-- For whom a thread waits. -/
def nextOf : List Api.DWait → Int → Option Int
  | [], _ => none
  | x :: l, t => if x.Thread = t then some x.For else nextOf l t
theorem nextOf_append (l : List Api.DWait) (x : Api.DWait) (t : Int) : nextOf (l ++ [x]) t = (nextOf l t).or (if x.Thread = t then some x.For else none) := by
  induction l with
  | nil => simp [nextOf]
  | cons y l ih => simp only [List.cons_append, nextOf, ih]; split <;> simp
theorem nextOf_mem {l : List Api.DWait} {t n : Int} (h : nextOf l t = some n) : ∃ x ∈ l, x.Thread = t ∧ x.For = n := by
  induction l with
  | nil => simp [nextOf] at h
  | cons y l ih =>
    simp only [nextOf] at h
    split at h
    · exact ⟨y, List.mem_cons_self .., ‹_›, by simpa using h⟩
    · obtain ⟨x, h1, h2⟩ := ih h
      exact ⟨x, List.mem_cons_of_mem _ h1, h2⟩

def okT (n : Int) : Prop := 0 ≤ n ∧ n < 8
instance (n : Int) : Decidable (okT n) := by unfold okT; infer_instance
/-- What is wrong with an element behind those ahead of it. -/
def errW (pre : List Api.DWait) (x : Api.DWait) : Int := if ¬ (okT x.Thread ∧ okT x.For) then 1 else if (nextOf pre x.Thread).isSome then 6 else 0
def errTo (l : List Api.DWait) : Nat → Int
  | 0 => 0
  | k + 1 => if errTo l k ≠ 0 then errTo l k else match l[k]? with
    | some x => errW (l.take k) x
    | none => 0
def errOf (l : List Api.DWait) : Int := if 8 < l.length then 2 else errTo l l.length
theorem errTo_stays {l : List Api.DWait} {k n : Nat} (h : errTo l k ≠ 0) (hk : k ≤ n) : errTo l n = errTo l k := by
  induction n with
  | zero => rw [show k = 0 by omega]
  | succ n ih =>
    rcases Nat.lt_or_ge n k with h1 | h1
    · rw [show k = n + 1 by omega]
    · have := ih h1
      rw [errTo, if_pos (by rw [this]; exact h), this]
theorem errTo_succ {l : List Api.DWait} {k : Nat} {x : Api.DWait} (h0 : errTo l k = 0) (hx : l[k]? = some x) : errTo l (k + 1) = errW (l.take k) x := by
  rw [errTo, if_neg (by simp [h0]), hx]
theorem errOf_bad {l : List Api.DWait} {k : Nat} {x : Api.DWait} (hl : l.length ≤ 8) (h0 : errTo l k = 0) (hx : l[k]? = some x) (he : errW (l.take k) x ≠ 0) : errOf l = errW (l.take k) x := by
  have hk : k < l.length := (List.getElem?_eq_some_iff.1 hx).1
  rw [errOf, if_neg (by omega), ← errTo_succ h0 hx]
  exact errTo_stays (by rw [errTo_succ h0 hx]; exact he) (by omega)
theorem errTo_zero {l : List Api.DWait} {n k : Nat} (h : errTo l n = 0) (hk : k ≤ n) : errTo l k = 0 := by
  by_cases h0 : errTo l k = 0
  · exact h0
  · rw [errTo_stays h0 hk] at h; exact absurd h h0
theorem errOf_zero {l : List Api.DWait} (h : errOf l = 0) : l.length ≤ 8 ∧ errTo l l.length = 0 := by
  unfold errOf at h
  split at h
  · simp at h
  · exact ⟨by omega, h⟩
theorem ok_of_zero {l : List Api.DWait} (h : errTo l l.length = 0) {x : Api.DWait} (hx : x ∈ l) : okT x.Thread ∧ okT x.For := by
  obtain ⟨k, hk⟩ := List.getElem?_of_mem hx
  have hlt := (List.getElem?_eq_some_iff.1 hk).1
  have h1 := errTo_succ (errTo_zero h (by omega)) hk
  rw [errTo_zero h (by omega)] at h1
  unfold errW at h1
  split at h1
  · simp at h1
  · exact Classical.not_not.1 ‹_›

/-- The way from t on. -/
def path (l : List Api.DWait) (t : Int) : Nat → Option Int
  | 0 => some t
  | k + 1 => (path l t k).bind (nextOf l)
theorem path_none {l : List Api.DWait} {t : Int} {k m : Nat} (h : path l t k = none) (hk : k ≤ m) : path l t m = none := by
  induction m with
  | zero => rw [show k = 0 by omega] at h; exact h
  | succ m ih =>
    rcases Nat.lt_or_ge m k with h1 | h1
    · rw [show m + 1 = k by omega]; exact h
    · rw [path, ih h1]; rfl
theorem path_ok {l : List Api.DWait} (h : errTo l l.length = 0) {t n : Int} (ht : okT t) : ∀ {k : Nat}, path l t k = some n → okT n
  | 0, hp => by simp [path] at hp; rw [← hp]; exact ht
  | k + 1, hp => by
    rw [path] at hp
    obtain ⟨m, -, h2⟩ := Option.bind_eq_some_iff.1 hp
    obtain ⟨x, h3, -, rfl⟩ := nextOf_mem h2
    exact (ok_of_zero h h3).2

/-- The first place behind the beginning where the way is back. -/
def back (l : List Api.DWait) (t : Int) : Option Nat := (List.range 9).find? (fun k => path l t (k + 1) == some t)
def way (l : List Api.DWait) (t : Int) (k : Nat) : List Int := (List.range k).map fun j => (path l t j).getD 0
theorem way_succ (l : List Api.DWait) (t : Int) (k : Nat) : way l t (k + 1) = way l t k ++ [(path l t k).getD 0] := by simp [way, List.range_succ]
theorem way_len (l : List Api.DWait) (t : Int) (k : Nat) : (way l t k).length = k := by simp [way]
def ringFrom (l : List Api.DWait) : Nat → Int → List Int
  | 0, _ => []
  | n + 1, t => match back l t with
    | some k => way l t (k + 1)
    | none => ringFrom l n (t + 1)
/-- The ring: it begins with the least thread that stands in one. -/
def ringOf (l : List Api.DWait) : List Int := ringFrom l 8 0
def ringRes (l : List Api.DWait) : List Int := if errOf l = 0 then ringOf l else []

theorem back_some {l : List Api.DWait} {t : Int} {j : Nat} (hj : j < 9) (h : ∀ i, i < j → path l t (i + 1) ≠ some t) (hb : path l t (j + 1) = some t) : back l t = some j := by
  unfold back
  rw [List.find?_eq_some_iff_getElem]
  refine ⟨by simp [hb], j, by simpa using hj, by simp, fun i hi => ?_⟩
  simp [h i hi]
theorem back_none {l : List Api.DWait} {t : Int} (h : ∀ i, i < 9 → path l t (i + 1) ≠ some t) : back l t = none := by
  unfold back
  rw [List.find?_eq_none]
  intro x hx
  simp at hx
  simp [h x hx]

/-- What the walk along a way knows: its steps are there, all of them apart. -/
structure Along (l : List Api.DWait) (t : Int) (j : Nat) : Prop where
  there : ∀ i, i ≤ j → (path l t i).isSome = true
  apart : (way l t (j + 1)).Nodup
theorem Along.zero (l : List Api.DWait) (t : Int) : Along l t 0 := ⟨fun i hi => by rw [show i = 0 by omega]; rfl, by simp [way, path]⟩
theorem Along.at {l : List Api.DWait} {t : Int} {j i : Nat} (h : Along l t j) (hi : i ≤ j) : path l t i = some ((way l t (j + 1))[i]'(by rw [way_len]; omega)) := by
  obtain ⟨n, hn⟩ := Option.isSome_iff_exists.1 (h.there i hi)
  simp [way, hn]
theorem Along.ne {l : List Api.DWait} {t : Int} {j i : Nat} (h : Along l t j) (hi : i ≤ j) (h0 : 0 < i) : path l t i ≠ some t := by
  intro e
  have h1 := h.at hi
  have h2 := h.at (i := 0) (Nat.zero_le _)
  rw [show path l t 0 = some t from rfl] at h2
  rw [e, h2] at h1
  have := (List.getElem_inj h.apart).1 (Option.some.inj h1)
  omega
theorem Along.lt {l : List Api.DWait} {t : Int} {j : Nat} (h : Along l t j) (he : errTo l l.length = 0) (ht : okT t) : j < 8 := by
  have := nodup_sub (ys := [0, 1, 2, 3, 4, 5, 6, 7]) h.apart (fun x hx => by
    obtain ⟨i, hi, rfl⟩ := List.getElem_of_mem hx
    rw [way_len] at hi
    have := path_ok he ht (h.at (i := i) (by omega))
    unfold okT at this
    simp
    omega)
  rw [way_len] at this
  simp at this
  omega
theorem Along.step {l : List Api.DWait} {t n : Int} {j : Nat} (h : Along l t j) (hn : path l t (j + 1) = some n) (hnot : n ∉ way l t (j + 1)) : Along l t (j + 1) :=
  ⟨fun i hi => by
    rcases Nat.lt_or_ge i (j + 1) with h1 | h1
    · exact h.there i (by omega)
    · rw [show i = j + 1 by omega, hn]; rfl,
   by
    rw [way_succ, hn]
    refine List.nodup_append.2 ⟨h.apart, by simp, fun a ha b hb e => ?_⟩
    simp at hb
    subst hb
    subst e
    exact hnot ha⟩
theorem Along.ends {l : List Api.DWait} {t : Int} {j : Nat} (h : Along l t j) (hn : path l t (j + 1) = none) : back l t = none :=
  back_none fun i _ => by
    rcases Nat.lt_or_ge i j with h1 | h1
    · exact h.ne (by omega) (by omega)
    · rw [path_none hn (by omega)]; simp
theorem Along.found {l : List Api.DWait} {t : Int} {j : Nat} (h : Along l t j) (he : errTo l l.length = 0) (ht : okT t) (hn : path l t (j + 1) = some t) : back l t = some j :=
  back_some (by have := h.lt he ht; omega) (fun i hi => h.ne (by omega) (by omega)) hn
theorem Along.stuck {l : List Api.DWait} {t n : Int} {j : Nat} (h : Along l t j) (hn : path l t (j + 1) = some n) (hne : n ≠ t) (hin : n ∈ way l t (j + 1)) : back l t = none := by
  obtain ⟨i, hi, he⟩ := List.getElem_of_mem hin
  rw [way_len] at hi
  have hpi := h.at (i := i) (by omega)
  rw [he] at hpi
  have hi0 : 0 < i := by
    rcases Nat.eq_zero_or_pos i with h0 | h0
    · subst h0
      exact absurd (Option.some.inj hpi).symm hne
    · exact h0
  have key : ∀ m, ∃ i', 0 < i' ∧ i' ≤ j ∧ path l t (j + 1 + m) = path l t i' := by
    intro m
    induction m with
    | zero => exact ⟨i, hi0, by omega, by rw [Nat.add_zero, hn, hpi]⟩
    | succ m ih =>
      obtain ⟨i', h1, h2, h3⟩ := ih
      have e1 : path l t (j + 1 + (m + 1)) = path l t (i' + 1) := by
        show (path l t (j + 1 + m)).bind _ = (path l t i').bind _
        rw [h3]
      rcases Nat.lt_or_ge i' j with h4 | h4
      · exact ⟨i' + 1, by omega, by omega, e1⟩
      · refine ⟨i, hi0, by omega, ?_⟩
        rw [e1, show i' = j by omega, hn, hpi]
  refine back_none fun k _ => ?_
  rcases Nat.lt_or_ge k j with h1 | h1
  · exact h.ne (by omega) (by omega)
  · obtain ⟨i', h2, h3, h4⟩ := key (k - j)
    rw [show j + 1 + (k - j) = k + 1 by omega] at h4
    rw [h4]
    exact h.ne h3 h2
theorem nextOf_put {l : List Api.DWait} {k : Nat} {x : Api.DWait} (hx : l[k]? = some x) (h : nextOf (l.take k) x.Thread = none) (m : Int) : nextOf (l.take (k + 1)) m = if m = x.Thread then some x.For else nextOf (l.take k) m := by
  rw [List.take_add_one, hx]
  show nextOf (l.take k ++ [x]) m = _
  rw [nextOf_append]
  by_cases hm : m = x.Thread
  · subst hm
    simp [h]
  · rw [if_neg hm, if_neg (fun e => hm e.symm)]
    simp
theorem ringFrom_some {l : List Api.DWait} {n k : Nat} {t : Int} {R : List Int} (h : ringFrom l (n + 1) t = R) (hb : back l t = some k) : R = way l t (k + 1) := by rw [← h, ringFrom, hb]
theorem ringFrom_none {l : List Api.DWait} {n : Nat} {t : Int} {R : List Int} (h : ringFrom l (n + 1) t = R) (hb : back l t = none) : ringFrom l n (t + 1) = R := by rw [← h, ringFrom, hb]
theorem ring_back {l : List Api.DWait} {R : List Int} {t : Nat} {k : Nat} (h : ringFrom l (8 - t) t = R) (ht : t < 8) (hb : back l t = some k) : R = way l t (k + 1) := by
  rw [show 8 - t = (7 - t) + 1 by omega] at h
  exact ringFrom_some h hb
theorem ring_next {l : List Api.DWait} {R : List Int} {t : Nat} (h : ringFrom l (8 - t) t = R) (ht : t < 8) (hb : back l t = none) : ringFrom l (8 - (t + 1)) ((t + 1 : Nat) : Int) = R := by
  rw [show 8 - t = (8 - (t + 1)) + 1 by omega] at h
  exact ringFrom_none h hb
end Go.Proofs.Ytimlhjjdaggiiaa.ring
