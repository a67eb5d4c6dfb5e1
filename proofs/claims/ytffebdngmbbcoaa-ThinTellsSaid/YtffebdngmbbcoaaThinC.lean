/- ThinTells: From, walked. -/
import Derived.Test.YtffebdngmbbcoaaThinB
set_option linter.unusedVariables false
set_option linter.unusedSimpArgs false
namespace Go.Proofs.Ytffebdngmbbcoaa.thin
open Go.Bk Go.RowKit Go.Bk.srt

/-- What stands ahead of place k. -/
def lastAt (l : List Int) (k : Nat) : Int := if k = 0 then -1 else (l[k - 1]?).getD 0
def okTo (l : List Int) (k : Nat) : Prop := ∀ j x, j < k → l[j]? = some x → lastAt l j < x
theorem okTo.succ {l : List Int} {k : Nat} {x : Int} (h : okTo l k) (hx : l[k]? = some x) (hlt : lastAt l k < x) : okTo l (k + 1) := fun j y hj hy => by
  by_cases e : j = k
  · subst e; rw [hx] at hy; cases hy; exact hlt
  · exact h j y (by omega) hy
theorem lastAt_succ {l : List Int} {k : Nat} {x : Int} (hx : l[k]? = some x) : lastAt l (k + 1) = x := by
  unfold lastAt
  rw [if_neg (by omega), show k + 1 - 1 = k by omega, hx]
  rfl
theorem okTo.neg {l : List Int} {k : Nat} {x : Int} (hx : l[k]? = some x) (hlt : ¬ lastAt l k < x) {n : Nat} (hn : k < n) : ¬ okTo l n := fun h => hlt (h k x hn hx)
theorem okTo.lt {l : List Int} {n : Nat} (h : okTo l n) : ∀ d i x y, i + d + 1 < n → l[i]? = some x → l[i + d + 1]? = some y → x < y
  | 0, i, x, y, hi, hx, hy => by
    have := h (i + 1) y (by omega) hy
    rwa [lastAt_succ hx] at this
  | d + 1, i, x, y, hi, hx, hy => by
    have hl : i + (d + 1) + 1 < l.length := (List.getElem?_eq_some_iff.1 hy).1
    obtain ⟨z, hz⟩ : ∃ z, l[i + d + 1]? = some z := ⟨_, List.getElem?_eq_getElem (by omega)⟩
    have h1 := okTo.lt h d i x z (by omega) hx hz
    have h2 := h (i + d + 1 + 1) y (by omega) (by rw [← hy]; congr 1)
    rw [lastAt_succ hz] at h2
    omega
theorem okTo.sorted {l : List Int} (h : okTo l l.length) : l.Pairwise (· < ·) := by
  rw [List.pairwise_iff_getElem]
  intro i j hi hj hij
  obtain ⟨d, rfl⟩ : ∃ d, j = i + d + 1 := ⟨j - i - 1, by omega⟩
  exact h.lt d i _ _ (by omega) (List.getElem?_eq_getElem hi) (List.getElem?_eq_getElem hj)
theorem okTo.nonneg {l : List Int} {n : Nat} (h : okTo l n) : ∀ k x, k < n → l[k]? = some x → 0 ≤ x
  | 0, x, hk, hx => by
    have := h 0 x hk hx
    simp [lastAt] at this
    omega
  | k + 1, x, hk, hx => by
    have hl : k + 1 < l.length := (List.getElem?_eq_some_iff.1 hx).1
    obtain ⟨z, hz⟩ : ∃ z, l[k]? = some z := ⟨_, List.getElem?_eq_getElem (by omega)⟩
    have h1 := h.nonneg k z (by omega) hz
    have h2 := h (k + 1) x hk hx
    rw [lastAt_succ hz] at h2
    omega
theorem okTo.mono {l : List Int} {k n : Nat} (h : okTo l n) (hk : k ≤ n) : okTo l k := fun j x hj hx => h j x (by omega) hx
/-- The last of the first k that is not behind. -/
def fromTo (l : List Int) (t : Int) : Nat → Option Int
  | 0 => none
  | k + 1 => match l[k]? with
    | some x => if x ≤ t then some x else fromTo l t k
    | none => fromTo l t k
theorem fromTo_succ {l : List Int} {k : Nat} {x : Int} (hx : l[k]? = some x) (t : Int) : fromTo l t (k + 1) = if x ≤ t then some x else fromTo l t k := by rw [fromTo, hx]
theorem fromTo_pre {l : List Int} {t : Int} {i : Nat} (hlt : ∀ k x, k < i → l[k]? = some x → x ≤ t) (hl : i ≤ l.length) : fromTo l t i = if i = 0 then none else l[i - 1]? := by
  cases i with
  | zero => rfl
  | succ i =>
    obtain ⟨x, hx⟩ : ∃ x, l[i]? = some x := ⟨_, List.getElem?_eq_getElem (by omega)⟩
    rw [fromTo_succ hx, if_pos (hlt i x (by omega) hx), if_neg (by omega), show i + 1 - 1 = i by omega, hx]
theorem fromTo_post {l : List Int} {t : Int} {i : Nat} (hge : ∀ k x, i ≤ k → l[k]? = some x → ¬ x ≤ t) : ∀ d, fromTo l t (i + d) = fromTo l t i
  | 0 => rfl
  | d + 1 => by
    show fromTo l t (i + d + 1) = _
    rw [fromTo]
    split
    · rename_i x hx
      rw [if_neg (hge _ x (by omega) hx), fromTo_post hge d]
    · exact fromTo_post hge d
/-- In a list that rises: the one that is there, or the one ahead of the first place of what is not less. -/
theorem fromTo_mem {l : List Int} {t : Int} (hs : l.Pairwise (· < ·)) (h : t ∈ l) : fromTo l t l.length = some t := by
  have h1 := (mem_firstGe hs).1 h
  have hf : firstGe t l < l.length := (List.getElem?_eq_some_iff.1 h1).1
  have h2 : fromTo l t (firstGe t l + 1) = some t := by rw [fromTo_succ h1, if_pos (Int.le_refl _)]
  rw [← h2, show l.length = firstGe t l + 1 + (l.length - (firstGe t l + 1)) by omega]
  refine fromTo_post (fun k x hk hx hle => ?_) _
  have h3 : ¬ x < t := fun h => by have := (firstGe_spec hs hx).1 h; omega
  have e : x = t := by omega
  subst e
  have hk2 := (List.getElem?_eq_some_iff.1 hx).1
  have := List.pairwise_iff_getElem.1 hs (firstGe x l) k hf hk2 (by omega)
  have := (List.getElem?_eq_some_iff.1 hx).2
  have := (List.getElem?_eq_some_iff.1 h1).2
  omega
theorem fromTo_not {l : List Int} {t : Int} (hs : l.Pairwise (· < ·)) (h : t ∉ l) : fromTo l t l.length = if firstGe t l = 0 then none else l[firstGe t l - 1]? := by
  have hle := firstGe_le t l
  rw [show l.length = firstGe t l + (l.length - firstGe t l) by omega, fromTo_post (fun k x hk hx hle => ?_), fromTo_pre (fun k x hk hx => ?_) hle]
  · have := (firstGe_spec hs hx).2 hk; omega
  · have h3 : ¬ x < t := fun h => by have := (firstGe_spec hs hx).1 h; omega
    have e : x = t := by omega
    subst e
    exact h (List.mem_of_getElem? hx)
instance (l : List Int) (k : Nat) : Decidable (okTo l k) := decidable_of_iff (∀ j, j < k → ∀ x, l[j]? = some x → lastAt l j < x) ⟨fun h j x hj hx => h j hj x hx, fun h j hj x hx => h j x hj hx⟩
def fromRes (l : List Int) (t : Int) : Int × Int := if okTo l l.length then (match fromTo l t l.length with | some x => (x, 0) | none => (0, 5)) else (0, 3)
theorem fromRes_bad {l : List Int} {t : Int} (h : ¬ okTo l l.length) : fromRes l t = (0, 3) := by unfold fromRes; rw [if_neg h]
theorem fromRes_some {l : List Int} {t x : Int} (h : okTo l l.length) (hf : fromTo l t l.length = some x) : fromRes l t = (x, 0) := by unfold fromRes; rw [if_pos h, hf]
theorem fromRes_none {l : List Int} {t : Int} (h : okTo l l.length) (hf : fromTo l t l.length = none) : fromRes l t = (0, 5) := by unfold fromRes; rw [if_pos h, hf]
def frRel (w : World) (l : List Int) (n : Nat) (v6 v13 : Value) (w' : World) : Prop := ∃ k : Nat, k ≤ n ∧ v13 = .int .i64 k ∧ v6 = .int .i64 (lastAt l k) ∧ okTo l k ∧ w = w'
def FromPost (w : World) (r : Int × Int) (e : Ending) (w' : World) : Prop := e = .returned (.tuple #[.int .i64 r.1, .int .i64 r.2]) ∧ w = w'
set_option maxRecDepth 100000 in
set_option maxHeartbeats 1000000 in
theorem From_any {S : Nat → Prop} {w : World} {a : Option Addr} {c n : Nat} {l : List Int} {t : Int} (hn : l.length = n) (h : Arr S w a l) :
    Calls Try.prog 17 #[.slice a n c, .int .i64 t] w (FromPost w (fromRes l t)) := by
  have hsm := h.small
  rw [hn] at hsm
  unfold maxLen at hsm
  have HN := Lib.hid hn
  clear hn
  go_enter Try.func17, Try.ntmps17
  go_wp2
  go_loopw [6, 13] (frRel w l n) (fun _ i _ => n - (intOf i).toNat)
  case atStart => exact ⟨0, Nat.zero_le _, rfl, rfl, (fun j x hj => by omega), rfl⟩
  case round =>
    obtain ⟨k, hk, rfl, rfl, hok, rfl⟩ := hrel
    have HOK := Lib.hid hok
    clear hok
    by_cases hlt : k < n
    · obtain ⟨x, hx⟩ : ∃ x, l[k]? = some x := ⟨_, List.getElem?_eq_getElem (by have := HN.out; omega)⟩
      obtain ⟨b1, o1, rfl, -, q1, -⟩ := arr_int h hx
      have HX := Lib.hid hx
      have HLS := Lib.hid (lastAt_succ hx)
      clear hx h
      by_cases hle : x ≤ lastAt l k
      · have d1 : decide (x ≤ lastAt l k) = true := decide_eq_true hle
        have HB : Hid (fromRes l t = (0, 3)) := by show _ = _; exact fromRes_bad (okTo.neg HX.out (by omega) (by rw [HN.out]; exact hlt))
        clear hle
        go_wp2
        go_ret2
        exact ⟨by rw [HB.out]; rfl, rfl⟩
      · have d1 : decide (x ≤ lastAt l k) = false := decide_eq_false hle
        have HOK2 := Lib.hid (HOK.out.succ HX.out (by omega))
        clear hle
        go_wp2
        go_roundw
        case rel => exact ⟨k + 1, by omega, by go_num, by rw [HLS.out], HOK2.out, rfl⟩
        case measure => simp [intOf]; omega
    · obtain rfl : k = n := by omega
      have HOKN : Hid (okTo l l.length) := by show okTo _ _; rw [HN.out]; exact HOK.out
      have HSRT := Lib.hid HOKN.out.sorted
      have HBS := Lib.hid (bsearch_any (c := c) (x := t) HN.out h HSRT.out)
      by_cases hm : t ∈ l
      · have HR := Lib.hid (fromRes_some HOKN.out (fromTo_mem HSRT.out hm))
        rw [decide_eq_true hm] at HBS
        clear hm h
        go_wp2_with (go_at_call 36; (with_reducible refine HBS.out.mono ?_); rintro e w' ⟨rfl, rfl⟩)
        go_ret2
        exact ⟨by rw [HR.out]; rfl, rfl⟩
      · have HF := Lib.hid (fromTo_not HSRT.out hm)
        rw [decide_eq_false hm] at HBS
        have hfl := firstGe_le t l
        rw [HN.out] at hfl
        obtain ⟨i, hi⟩ : ∃ i, firstGe t l = i := ⟨_, rfl⟩
        rw [hi] at HF HBS hfl
        clear hm hi
        by_cases h0 : i = 0
        · have HR := Lib.hid (fromRes_none HOKN.out (by rw [HF.out, if_pos h0]))
          subst h0
          clear h
          go_wp2_with (go_at_call 36; (with_reducible refine HBS.out.mono ?_); rintro e w' ⟨rfl, rfl⟩)
          go_ret2
          exact ⟨by rw [HR.out]; rfl, rfl⟩
        · obtain ⟨x, hx⟩ : ∃ x, l[i - 1]? = some x := ⟨_, List.getElem?_eq_getElem (by have := HN.out; omega)⟩
          have HR := Lib.hid (fromRes_some HOKN.out (by rw [HF.out, if_neg h0, hx]))
          have d0 : (((i : Nat) : Int) == 0) = false := by simp; omega
          have hsub : ((i : Nat) : Int) - 1 = ((i - 1 : Nat) : Int) := by omega
          have hik : i - 1 < k := by omega
          obtain ⟨b1, o1, rfl, -, q1, -⟩ := arr_int h hx
          clear hx h h0
          go_wp2_with (go_at_call 36; (with_reducible refine HBS.out.mono ?_); rintro e w' ⟨rfl, rfl⟩)
          go_ret2
          exact ⟨by rw [HR.out]; rfl, rfl⟩
end Go.Proofs.Ytffebdngmbbcoaa.thin
