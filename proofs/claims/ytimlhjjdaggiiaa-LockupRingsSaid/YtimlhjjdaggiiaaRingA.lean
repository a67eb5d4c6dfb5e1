/- Small askers of the law LockupRings: is a number in a list; for whom a thread waits; the reference's errors of a ring. -/
import Derived.Test.YtimlhjjdaggiiaaRingPlain
import Derived.Test.YtimlhjjdaggiiaaSame
import Derived.Test.YtimlhjjdaggiiaaFuncs
set_option linter.unusedVariables false
set_option linter.unusedSimpArgs false
namespace Go.Proofs.Ytimlhjjdaggiiaa.ring
open Go.Bk Go.RowKit

theorem notin_succ {xs : List Int} {k : Nat} {x y : Int} (h : x ∉ xs.take k) (hy : xs[k]? = some y) (hne : y ≠ x) : x ∉ xs.take (k + 1) := by
  rw [List.take_add_one, hy]
  simp only [Option.toList, List.mem_append, List.mem_singleton, not_or]
  exact ⟨h, fun e => hne e.symm⟩
theorem notin_all {xs : List Int} {x : Int} (h : x ∉ xs.take xs.length) : x ∉ xs := by rwa [List.take_of_length_le (Nat.le_refl _)] at h
theorem nextOf_append2 (l m : List Api.DWait) (t : Int) : nextOf (l ++ m) t = (nextOf l t).or (nextOf m t) := by
  induction l with
  | nil => simp [nextOf]
  | cons y l ih => simp only [List.cons_append, nextOf, ih]; split <;> simp
theorem nextOf_hit {l : List Api.DWait} {k : Nat} {t : Int} {x : Api.DWait} (h : nextOf (l.take k) t = none) (hx : l[k]? = some x) (ht : x.Thread = t) : nextOf l t = some x.For := by
  obtain ⟨hk, e⟩ := List.getElem?_eq_some_iff.1 hx
  conv => lhs; rw [← List.take_append_drop k l, nextOf_append2, h, List.drop_eq_getElem_cons hk, e]
  simp [nextOf, ht]
theorem nextOf_miss {l : List Api.DWait} {k : Nat} {t : Int} {x : Api.DWait} (h : nextOf (l.take k) t = none) (hx : l[k]? = some x) (ht : x.Thread ≠ t) : nextOf (l.take (k + 1)) t = none := by
  rw [List.take_add_one, hx, nextOf_append2, h]
  simp [nextOf, ht]

theorem thread_any (w : World) (n : Int) :
    Calls Try.prog 93 #[.int .i64 n] w fun e w' => e = .returned (.bool (decide (okT n))) ∧ w = w' := by
  go_enter Try.func93, Try.ntmps93
  go_wp2
  all_goals
    go_ret
    exact ⟨by (first | (simp [okT]; done) | (simp [okT]; omega) | (go_light; simp_all [okT]; done) | (go_light; simp_all [okT]; omega) | (go_light; simp_all [okT]; grind) | (go_light; rw [Bool.eq_iff_iff]; simp_all [okT]; done)), rfl⟩

set_option maxRecDepth 100000 in
theorem index_any {S : Nat → Prop} {w : World} {a : Option Addr} {c n : Nat} {xs : List Int} {x : Int} (hn : xs.length = n) (h : Arr S w a xs) :
    Calls Try.prog 135 #[.slice a n c, .int .i64 x] w fun e w' => (∃ r : Int, e = .returned (.int .i64 r) ∧ (0 ≤ r ↔ x ∈ xs)) ∧ w = w' := by
  have hm := h.small
  rw [hn] at hm
  unfold maxLen at hm
  have HN := Lib.hid hn
  clear hn
  go_enter Try.func135, Try.ntmps135
  go_wp2
  go_loopw [8] (fun i w' => ∃ k : Nat, k ≤ n ∧ i = .int .i64 k ∧ x ∉ xs.take k ∧ w = w') (fun i _ => n - (intOf i).toNat)
  case atStart => exact ⟨0, Nat.zero_le _, rfl, by simp, rfl⟩
  case round =>
    obtain ⟨k, hk, rfl, hni, rfl⟩ := hrel
    have HNI := Lib.hid hni
    clear hni
    by_cases hlt : k < n
    · obtain ⟨y, hy⟩ : ∃ y, xs[k]? = some y := ⟨_, List.getElem?_eq_getElem (by have := HN.out; omega)⟩
      obtain ⟨b1, o1, rfl, -, q1, hi⟩ := arr_int h hy
      have HY := Lib.hid hy
      clear hy h hi
      by_cases he : x = y
      · have he2 : (x == y) = true := by simpa using he
        have HE := Lib.hid he
        clear he
        go_wp2
        go_ret
        exact ⟨⟨k, rfl, ⟨fun _ => by rw [HE.out]; exact List.mem_of_getElem? HY.out, fun _ => by omega⟩⟩, rfl⟩
      · have he2 : (x == y) = false := by simpa using he
        have HE := Lib.hid he
        clear he
        go_wp2
        go_roundw
        case rel => exact ⟨k + 1, by omega, by go_num, notin_succ HNI.out HY.out (fun e => HE.out e.symm), by trivial⟩
        case measure => simp [intOf]; omega
    · obtain rfl : k = n := by omega
      go_wp2
      go_ret
      have h1 := HNI.out
      rw [← HN.out] at h1
      exact ⟨⟨-1, rfl, ⟨fun e => by omega, fun e => absurd e (notin_all h1)⟩⟩, rfl⟩

set_option maxRecDepth 100000 in
theorem contains_any {S : Nat → Prop} {w : World} {a : Option Addr} {c n : Nat} {xs : List Int} {x : Int} (hn : xs.length = n) (h : Arr S w a xs) :
    Calls Try.prog 94 #[.slice a n c, .int .i64 x] w fun e w' => e = .returned (.bool (decide (x ∈ xs))) ∧ w = w' := by
  have HC := Lib.hid (index_any (c := c) (x := x) hn h)
  clear h hn
  go_enter Try.func94, Try.ntmps94
  go_wp2_with fail
  refine HC.out.mono ?_
  rintro e w' ⟨⟨r, rfl, hr⟩, rfl⟩
  have HR := Lib.hid hr
  clear hr
  go_wp2_with fail
  go_ret
  exact ⟨by
    have := HR.out
    by_cases h : x ∈ xs
    · have h0 := this.2 h
      simp [h, h0]
    · have h0 : ¬ 0 ≤ r := fun e => h (this.1 e)
      simp [h]; omega, rfl⟩

set_option maxRecDepth 100000 in
theorem hasInt_any {S : Nat → Prop} {w : World} {a : Option Addr} {c n : Nat} {xs : List Int} {x : Int} (hn : xs.length = n) (h : Arr S w a xs) :
    Calls Try.prog 96 #[.slice a n c, .int .i64 x] w fun e w' => e = .returned (.bool (decide (x ∈ xs))) ∧ w = w' := by
  have hm := h.small
  rw [hn] at hm
  unfold maxLen at hm
  have HN := Lib.hid hn
  clear hn
  go_enter Try.func96, Try.ntmps96
  go_wp2
  go_loopw [5] (fun i w' => ∃ k : Nat, k ≤ n ∧ i = .int .i64 k ∧ x ∉ xs.take k ∧ w = w') (fun i _ => n - (intOf i).toNat)
  case atStart => exact ⟨0, Nat.zero_le _, rfl, by simp, rfl⟩
  case round =>
    obtain ⟨k, hk, rfl, hni, rfl⟩ := hrel
    have HNI := Lib.hid hni
    clear hni
    by_cases hlt : k < n
    · obtain ⟨y, hy⟩ : ∃ y, xs[k]? = some y := ⟨_, List.getElem?_eq_getElem (by have := HN.out; omega)⟩
      obtain ⟨b1, o1, rfl, -, q1, hi⟩ := arr_int h hy
      have HY := Lib.hid hy
      clear hy h hi
      by_cases he : y = x
      · have he2 : (y == x) = true := by simpa using he
        have HE := Lib.hid he
        clear he
        go_wp2
        go_ret
        exact ⟨by have : x ∈ xs := by rw [← HE.out]; exact List.mem_of_getElem? HY.out
                  simp [this], rfl⟩
      · have he2 : (y == x) = false := by simpa using he
        have HE := Lib.hid he
        clear he
        go_wp2
        go_roundw
        case rel => exact ⟨k + 1, by omega, by go_num, notin_succ HNI.out HY.out HE.out, by trivial⟩
        case measure => simp [intOf]; omega
    · obtain rfl : k = n := by omega
      go_wp2
      go_ret
      have h1 := HNI.out
      rw [← HN.out] at h1
      exact ⟨by have := notin_all h1; simp [this], rfl⟩

set_option maxRecDepth 100000 in
theorem waitsFor_any {S : Nat → Prop} {w : World} {a : Option Addr} {c n : Nat} {l : List Api.DWait} {t : Int} (hn : l.length = n) (h : Arr S w a l) :
    Calls Try.prog 95 #[.slice a n c, .int .i64 t] w fun e w' => e = .returned (.int .i64 ((nextOf l t).getD (-1))) ∧ w = w' := by
  have hm := h.small
  rw [hn] at hm
  unfold maxLen at hm
  have HN := Lib.hid hn
  clear hn
  go_enter Try.func95, Try.ntmps95
  go_wp2
  go_loopw [5] (fun i w' => ∃ k : Nat, k ≤ n ∧ i = .int .i64 k ∧ nextOf (l.take k) t = none ∧ w = w') (fun i _ => n - (intOf i).toNat)
  case atStart => exact ⟨0, Nat.zero_le _, rfl, by simp [nextOf], rfl⟩
  case round =>
    obtain ⟨k, hk, rfl, hni, rfl⟩ := hrel
    have HNI := Lib.hid hni
    clear hni
    by_cases hlt : k < n
    · obtain ⟨x, hx⟩ : ∃ x, l[k]? = some x := ⟨_, List.getElem?_eq_getElem (by have := HN.out; omega)⟩
      obtain ⟨b1, o1, rfl, -, q1, q2, -, -, -, -⟩ := api_DWait_elem h hx
      have HX := Lib.hid hx
      clear hx h
      by_cases he : x.Thread = t
      · have he2 : (x.Thread == t) = true := by simpa using he
        have HE := Lib.hid he
        clear he
        go_wp2
        go_ret
        exact ⟨by rw [nextOf_hit HNI.out HX.out HE.out]; rfl, rfl⟩
      · have he2 : (x.Thread == t) = false := by simpa using he
        have HE := Lib.hid he
        clear he
        go_wp2
        go_roundw
        case rel => exact ⟨k + 1, by omega, by go_num, nextOf_miss HNI.out HX.out HE.out, by trivial⟩
        case measure => simp [intOf]; omega
    · obtain rfl : k = n := by omega
      have HF : Hid (nextOf l t = none) := by have := HNI.out; rw [← HN.out, List.take_of_length_le (Nat.le_refl _)] at this; exact this
      go_wp2
      go_ret
      exact ⟨by rw [HF.out]; rfl, rfl⟩

set_option maxRecDepth 100000 in
set_option maxHeartbeats 1000000 in
theorem ringErr_any {S : Nat → Prop} {w : World} {a : Option Addr} {c n : Nat} {l : List Api.DWait} (hn : l.length = n) (h : Arr S w a l) :
    Calls Try.prog 40 #[.slice a n c] w fun e w' => e = .returned (.int .i64 (errOf l)) ∧ Quiet w w' := by
  have hm := h.small
  rw [hn] at hm
  unfold maxLen at hm
  have HN := Lib.hid hn
  clear hn
  by_cases hl : 8 < n
  · have hd : decide (8 < (n : Int)) = true := decide_eq_true (by omega)
    go_enter Try.func40, Try.ntmps40
    go_wp2
    go_ret
    exact ⟨by unfold errOf; rw [if_pos (by rw [HN.out]; exact hl)]; rfl, Quiet.refl _⟩
  have hd : decide (8 < (n : Int)) = false := decide_eq_false (by omega)
  go_enter Try.func40, Try.ntmps40
  go_wp2
  go_loopw [3] (fun i w' => ∃ k : Nat, k ≤ n ∧ i = .int .i64 k ∧ errTo l k = 0 ∧ Quiet w w') (fun i _ => n - (intOf i).toNat)
  case atStart => exact ⟨0, Nat.zero_le _, rfl, rfl, Quiet.refl _⟩
  case round =>
    obtain ⟨k, hk, rfl, he0, hq⟩ := hrel
    have HE0 := Lib.hid he0; have HQ := Lib.hid hq
    have h' := h.keep (w' := wr) (fun b _ => hq.heap b)
    clear he0 hq
    by_cases hlt : k < n
    · obtain ⟨x, hx⟩ : ∃ x, l[k]? = some x := ⟨_, List.getElem?_eq_getElem (by have := HN.out; omega)⟩
      obtain ⟨b1, o1, rfl, -, q1, q2, -, -, -, -⟩ := api_DWait_elem h' hx
      have HX := Lib.hid hx; have HA := Lib.hid h'
      have HB : Hid (∀ e, errW (l.take k) x = e → e ≠ 0 → errOf l = e) := fun e h1 h2 => by
        have := errOf_bad (by rw [HN.out]; omega) HE0.out HX.out (by rw [h1]; exact h2)
        rw [this, h1]
      clear hx h h'
      by_cases h1 : okT x.Thread
      · by_cases h2 : okT x.For
        · have H1 : Hid (okT x.Thread ∧ okT x.For) := ⟨h1, h2⟩
          unfold okT at h1 h2
          go_wp2_with (first | (with_reducible refine (between_true h1.1 (by omega)).mono ?_; rintro e w' ⟨rfl, rfl⟩) | (with_reducible refine (between_true h2.1 (by omega)).mono ?_; rintro e w' ⟨rfl, rfl⟩))
          go_loopw [4] (fun j w' => ∃ q : Nat, q ≤ k ∧ j = .int .i64 q ∧ nextOf (l.take q) x.Thread = none ∧ Quiet w w') (fun j _ => k - (intOf j).toNat)
          case atStart => exact ⟨0, Nat.zero_le _, rfl, by simp [nextOf], HQ.out⟩
          case round =>
            obtain ⟨q, hq, rfl, hni, hqq⟩ := hrel
            have HNI := Lib.hid hni; have HQQ := Lib.hid hqq
            have HA2 := HA.out.keep (w' := wr) (fun b _ => by obtain ⟨m1, e1⟩ := HQ.out; obtain ⟨m2, e2⟩ := hqq; rw [e1, e2]; rfl)
            clear hni hqq
            by_cases hlq : q < k
            · obtain ⟨y, hy⟩ : ∃ y, l[q]? = some y := ⟨_, List.getElem?_eq_getElem (by have := HN.out; omega)⟩
              obtain ⟨b2, o2, e2, -, p1, -, -, -, -, -⟩ := api_DWait_elem HA2 hy
              obtain ⟨b3, o3, e3, -, p3, -, -, -, -, -⟩ := api_DWait_elem HA2 HX.out
              cases e2; cases e3
              have HY := Lib.hid hy
              clear hy HA2
              by_cases he : y.Thread = x.Thread
              · have he2 : (y.Thread == x.Thread) = true := by simpa using he
                have HF : Hid (errOf l = 6) := HB.out _ (by
                  unfold errW
                  rw [if_neg (by simpa using H1.out), if_pos]
                  have := nextOf_hit (l := l.take k) (k := q) (x := y) (t := x.Thread) (by rw [List.take_take, Nat.min_eq_left (by omega)]; exact HNI.out) (by rw [List.getElem?_take_of_lt hlq]; exact HY.out) he
                  rw [this]; rfl) (by decide)
                clear he
                go_wp2_with fail
                go_quiet (fail)
                go_wp2_with fail
                go_ret
                exact ⟨by rw [HF.out]; rfl, HQQ.out.more _⟩
              · have he2 : (y.Thread == x.Thread) = false := by simpa using he
                have HE := Lib.hid he
                clear he
                go_wp2_with fail
                go_quiet (fail)
                go_wp2_with fail
                go_roundw
                case rel => exact ⟨q + 1, by omega, by go_num, nextOf_miss HNI.out HY.out HE.out, HQQ.out.more _⟩
                case measure => simp [intOf]; omega
            · obtain rfl : q = k := by omega
              have hz : errTo l (q + 1) = 0 := by
                rw [errTo_succ HE0.out HX.out]
                unfold errW
                rw [if_neg (by simpa using H1.out), HNI.out]
                rfl
              have HZ := Lib.hid hz
              clear hz
              go_wp2_with fail
              go_roundw
              case rel => exact ⟨q + 1, by omega, by go_num, HZ.out, HQQ.out⟩
              case measure => simp [intOf]; omega
        · have HF : Hid (errOf l = 1) := HB.out _ (by unfold errW; rw [if_pos (by simp [h2])]) (by decide)
          unfold okT at h1 h2
          go_wp2_with (first | (with_reducible refine (between_true h1.1 (by omega)).mono ?_; rintro e w' ⟨rfl, rfl⟩) | (with_reducible refine (between_false (by omega)).mono ?_; rintro e w' ⟨rfl, rfl⟩))
          go_ret
          exact ⟨by rw [HF.out]; rfl, HQ.out⟩
      · have HF : Hid (errOf l = 1) := HB.out _ (by unfold errW; rw [if_pos (by simp [h1])]) (by decide)
        unfold okT at h1
        go_wp2_with (with_reducible refine (between_false (by omega)).mono ?_; rintro e w' ⟨rfl, rfl⟩)
        go_ret
        exact ⟨by rw [HF.out]; rfl, HQ.out⟩
    · obtain rfl : k = n := by omega
      have HF : Hid (errOf l = 0) := by
        show _ = _
        unfold errOf
        rw [if_neg (by rw [HN.out]; omega), HN.out]
        exact HE0.out
      go_wp2
      go_ret
      exact ⟨by rw [HF.out]; rfl, HQ.out⟩
end Go.Proofs.Ytimlhjjdaggiiaa.ring
