/- Back, On and Chop, walked. -/
import Derived.Test.YtimlhjjdaggiiaaSliceE
set_option linter.unusedVariables false
set_option linter.unusedSimpArgs false
namespace Go.Proofs.Ytimlhjjdaggiiaa.slice
open Go.Bk Go.RowKit

open Classical in
noncomputable def backRes (l : List Api.DDep) (i : Int) : List Int × Int := if errOf l [i] = 0 then (listedOf l.length [backOf l i.toNat], 0) else ([], errOf l [i])
noncomputable def onRes (l : List Api.DDep) (i : Int) : List Int × Int := if errOf l [i] = 0 then (listedOf l.length [onOf l i.toNat], 0) else ([], errOf l [i])
noncomputable def chopRes (l : List Api.DDep) (i j : Int) : List Int × Int := if errOf l [i, j] = 0 then (listedOf l.length [onOf l i.toNat, backOf l j.toNat], 0) else ([], errOf l [i, j])
theorem err_place {l : List Api.DDep} {i : Int} (h : (List.all [i] (inLen l)) = true) : ∃ k : Nat, i = k ∧ k < l.length := by
  simp [inLen] at h
  exact ⟨i.toNat, by omega, by omega⟩
theorem err_places {l : List Api.DDep} {i j : Int} (h : (List.all [i, j] (inLen l)) = true) : (∃ k : Nat, i = k ∧ k < l.length) ∧ (∃ k : Nat, j = k ∧ k < l.length) := by
  simp [inLen] at h
  exact ⟨⟨i.toNat, by omega, by omega⟩, ⟨j.toNat, by omega, by omega⟩⟩

set_option maxRecDepth 100000 in
set_option maxHeartbeats 1000000 in
theorem bback_any {S : Nat → Prop} {w : World} {a : Option Addr} {c : Nat} {l : List Api.DDep} {i : Int} (h : Arr S w a l) (hS : ∀ b, S b → b < w.heap.size) (hi : I64 i) :
    Calls Try.prog 43 #[.slice a l.length c, .int .i64 i] w (RetLE w (backRes l i)) := by
  have hm := h.small
  unfold maxLen at hm
  have hal : ∀ o, Arr S (w.alloc o) a l := fun o => h.still hS ((Below.refl _ _).alloc (Nat.le_refl _) o)
  have hpl : Arr (fun b => b < (w.alloc (.cells #[.int .i64 i] 3)).heap.size) (w.alloc (.cells #[.int .i64 i] 3)) (some ⟨w.heap.size, 0, none⟩) [i] := Blk.arr (zs := [i]) (blk_new w [.int .i64 i] _) (by simpa using hi) (by simp [maxLen]) (by simp)
  have HC := Lib.hid (check_any (c := c) (c2 := 1) (hal _) hpl (fun b hb => by have := hS b hb; simp; omega) (fun b hb => hb))
  obtain ⟨m, hml⟩ : ∃ n, n = l.length := ⟨_, rfl⟩
  rw [← hml] at hm HC; rw [← hml]
  have HM := Lib.hid hml
  clear hpl hml
  go_enter Try.func43, Try.ntmps43
  go_wp2_with fail
  refine HC.out.mono ?_
  rintro e w1 ⟨rfl, hb1⟩
  have HB1 : Hid (Below w.heap.size w w1) := ((Below.refl _ _).alloc (Nat.le_refl _) _).trans (hb1.mono (by simp))
  clear hb1 HC hal
  by_cases he : errOf l [i] = 0
  · obtain ⟨hl, hv, ha⟩ := errOf_zero he
    have HR : Hid (backRes l i = (listedOf m [backOf l i.toNat], 0)) := by show _ = _; rw [backRes, if_pos he, HM.out]
    obtain ⟨k, rfl, hk⟩ := err_place ha
    rw [Int.toNat_natCast] at HR
    have h1 : Arr S w1 a l := h.keep (fun b hb => HB1.out.block b (hS b hb))
    have HK := Lib.hid (back_any (c := c) h1 (fun b hb => Nat.lt_of_lt_of_le (hS b hb) HB1.out.size) hv hk hl)
    have hbl : (backOf l k).length = m := by rw [HM.out]; simp [backOf]
    have hm200 : m ≤ 200 := by rw [HM.out]; exact hl
    have HBL := Lib.hid hbl
    rw [he]
    rw [← HM.out] at HK
    clear he hl hv ha hk h1 hbl
    go_wp2_with fail
    refine HK.out.mono ?_
    rintro e w2 ⟨⟨a2, c2, rfl, h2, hc2, hn2⟩, hb2⟩
    have HB2 := Lib.hid (HB1.out.trans (hb2.mono HB1.out.size))
    have H2 := Lib.hid h2; have HN2 := Lib.hid hn2
    rw [HBL.out] at hc2 ⊢
    clear hb2 h2 hn2 HB1 HK
    go_wp2_with fail
    have hs3 : Below w2.heap.size w2 (w2.alloc (.cells #[.slice a2 m c2] 173)) := (Below.refl _ _).alloc (Nat.le_refl _) _
    have hlist : Arr (fun b => b < (w2.alloc (.cells #[.slice a2 m c2] 173)).heap.size) (w2.alloc (.cells #[.slice a2 m c2] 173)) (some ⟨w2.heap.size, 0, none⟩) [backOf l k] := by
      refine arr_lists1 (c1 := c2) (e := 173) ?_ (by rw [HBL.out]; exact hc2) HN2.out (H2.out.later hs3) (fun b hb => by simp; have := hb.2; omega)
      rw [HBL.out]
      exact blk_new w2 [.slice a2 m c2] _
    refine (listed_any (ns := 1) hlist (fun b hb => hb) hm200 (by intro s hs; simp at hs; rw [hs]; exact HBL.out) rfl).mono ?_
    rintro e w4 ⟨⟨a4, c4, rfl, h4, hc4, hn4⟩, hb4⟩
    have HB4 := Lib.hid (HB2.out.trans ((hs3.trans (hb4.mono (by simp))).mono HB2.out.size))
    have H4 : Hid (Arr (Fresh w w4) w4 a4 (listedOf m [backOf l k])) := h4.mono (fun b hb => ⟨Nat.le_trans HB2.out.size (Nat.le_trans (by simp) hb.1), hb.2⟩)
    have HC4 := Lib.hid hc4; have HN4 := Lib.hid hn4
    clear hs3 hlist h4 hc4 hn4 hb4
    go_wp2
    go_ret2
    exact .ok HR.out HB4.out H4.out HC4.out HN4.out
  · have HR : Hid (backRes l i = ([], errOf l [i])) := if_neg he
    have hne : (errOf l [i] != 0) = true := by simp [he]
    clear he h
    go_wp2
    go_ret2
    exact .err HR.out HB1.out
set_option maxRecDepth 100000 in
set_option maxHeartbeats 1000000 in
theorem oon_any {S : Nat → Prop} {w : World} {a : Option Addr} {c : Nat} {l : List Api.DDep} {i : Int} (h : Arr S w a l) (hS : ∀ b, S b → b < w.heap.size) (hi : I64 i) :
    Calls Try.prog 44 #[.slice a l.length c, .int .i64 i] w (RetLE w (onRes l i)) := by
  have hm := h.small
  unfold maxLen at hm
  have hal : ∀ o, Arr S (w.alloc o) a l := fun o => h.still hS ((Below.refl _ _).alloc (Nat.le_refl _) o)
  have hpl : Arr (fun b => b < (w.alloc (.cells #[.int .i64 i] 3)).heap.size) (w.alloc (.cells #[.int .i64 i] 3)) (some ⟨w.heap.size, 0, none⟩) [i] := Blk.arr (zs := [i]) (blk_new w [.int .i64 i] _) (by simpa using hi) (by simp [maxLen]) (by simp)
  have HC := Lib.hid (check_any (c := c) (c2 := 1) (hal _) hpl (fun b hb => by have := hS b hb; simp; omega) (fun b hb => hb))
  obtain ⟨m, hml⟩ : ∃ n, n = l.length := ⟨_, rfl⟩
  rw [← hml] at hm HC; rw [← hml]
  have HM := Lib.hid hml
  clear hpl hml
  go_enter Try.func44, Try.ntmps44
  go_wp2_with fail
  refine HC.out.mono ?_
  rintro e w1 ⟨rfl, hb1⟩
  have HB1 : Hid (Below w.heap.size w w1) := ((Below.refl _ _).alloc (Nat.le_refl _) _).trans (hb1.mono (by simp))
  clear hb1 HC hal
  by_cases he : errOf l [i] = 0
  · obtain ⟨hl, hv, ha⟩ := errOf_zero he
    have HR : Hid (onRes l i = (listedOf m [onOf l i.toNat], 0)) := by show _ = _; rw [onRes, if_pos he, HM.out]
    obtain ⟨k, rfl, hk⟩ := err_place ha
    rw [Int.toNat_natCast] at HR
    have h1 : Arr S w1 a l := h.keep (fun b hb => HB1.out.block b (hS b hb))
    have HK := Lib.hid (on_any (c := c) h1 (fun b hb => Nat.lt_of_lt_of_le (hS b hb) HB1.out.size) hv hk hl)
    have hbl : (onOf l k).length = m := by rw [HM.out]; exact onOf_len l k
    have hm200 : m ≤ 200 := by rw [HM.out]; exact hl
    have HBL := Lib.hid hbl
    rw [he]
    rw [← HM.out] at HK
    clear he hl hv ha hk h1 hbl
    go_wp2_with fail
    refine HK.out.mono ?_
    rintro e w2 ⟨⟨a2, c2, rfl, h2, hc2, hn2⟩, hb2⟩
    have HB2 := Lib.hid (HB1.out.trans (hb2.mono HB1.out.size))
    have H2 := Lib.hid h2; have HN2 := Lib.hid hn2
    rw [HBL.out] at hc2 ⊢
    clear hb2 h2 hn2 HB1 HK
    go_wp2_with fail
    have hs3 : Below w2.heap.size w2 (w2.alloc (.cells #[.slice a2 m c2] 173)) := (Below.refl _ _).alloc (Nat.le_refl _) _
    have hlist : Arr (fun b => b < (w2.alloc (.cells #[.slice a2 m c2] 173)).heap.size) (w2.alloc (.cells #[.slice a2 m c2] 173)) (some ⟨w2.heap.size, 0, none⟩) [onOf l k] := by
      refine arr_lists1 (c1 := c2) (e := 173) ?_ (by rw [HBL.out]; exact hc2) HN2.out (H2.out.later hs3) (fun b hb => by simp; have := hb.2; omega)
      rw [HBL.out]
      exact blk_new w2 [.slice a2 m c2] _
    refine (listed_any (ns := 1) hlist (fun b hb => hb) hm200 (by intro s hs; simp at hs; rw [hs]; exact HBL.out) rfl).mono ?_
    rintro e w4 ⟨⟨a4, c4, rfl, h4, hc4, hn4⟩, hb4⟩
    have HB4 := Lib.hid (HB2.out.trans ((hs3.trans (hb4.mono (by simp))).mono HB2.out.size))
    have H4 : Hid (Arr (Fresh w w4) w4 a4 (listedOf m [onOf l k])) := h4.mono (fun b hb => ⟨Nat.le_trans HB2.out.size (Nat.le_trans (by simp) hb.1), hb.2⟩)
    have HC4 := Lib.hid hc4; have HN4 := Lib.hid hn4
    clear hs3 hlist h4 hc4 hn4 hb4
    go_wp2
    go_ret2
    exact .ok HR.out HB4.out H4.out HC4.out HN4.out
  · have HR : Hid (onRes l i = ([], errOf l [i])) := if_neg he
    have hne : (errOf l [i] != 0) = true := by simp [he]
    clear he h
    go_wp2
    go_ret2
    exact .err HR.out HB1.out
set_option maxRecDepth 100000 in
set_option maxHeartbeats 1000000 in
theorem chop_any {S : Nat → Prop} {w : World} {a : Option Addr} {c : Nat} {l : List Api.DDep} {i j : Int} (h : Arr S w a l) (hS : ∀ b, S b → b < w.heap.size) (hi : I64 i) (hj : I64 j) :
    Calls Try.prog 45 #[.slice a l.length c, .int .i64 i, .int .i64 j] w (RetLE w (chopRes l i j)) := by
  have hm := h.small
  unfold maxLen at hm
  have hal : ∀ o, Arr S (w.alloc o) a l := fun o => h.still hS ((Below.refl _ _).alloc (Nat.le_refl _) o)
  have hpl : Arr (fun b => b < (w.alloc (.cells #[.int .i64 i, .int .i64 j] 3)).heap.size) (w.alloc (.cells #[.int .i64 i, .int .i64 j] 3)) (some ⟨w.heap.size, 0, none⟩) [i, j] := Blk.arr (zs := [i, j]) (blk_new w [.int .i64 i, .int .i64 j] _) (by simpa using ⟨hi, hj⟩) (by simp [maxLen]) (by simp)
  have HC := Lib.hid (check_any (c := c) (c2 := 2) (hal _) hpl (fun b hb => by have := hS b hb; simp; omega) (fun b hb => hb))
  obtain ⟨m, hml⟩ : ∃ n, n = l.length := ⟨_, rfl⟩
  rw [← hml] at hm HC; rw [← hml]
  have HM := Lib.hid hml
  clear hpl hml
  go_enter Try.func45, Try.ntmps45
  go_wp2_with fail
  refine HC.out.mono ?_
  rintro e w1 ⟨rfl, hb1⟩
  have HB1 : Hid (Below w.heap.size w w1) := ((Below.refl _ _).alloc (Nat.le_refl _) _).trans (hb1.mono (by simp))
  clear hb1 HC hal
  by_cases he : errOf l [i, j] = 0
  · obtain ⟨hl, hv, ha⟩ := errOf_zero he
    have HR : Hid (chopRes l i j = (listedOf m [onOf l i.toNat, backOf l j.toNat], 0)) := by show _ = _; rw [chopRes, if_pos he, HM.out]
    obtain ⟨⟨k, rfl, hk⟩, ⟨q, rfl, hq⟩⟩ := err_places ha
    rw [Int.toNat_natCast, Int.toNat_natCast] at HR
    have h1 : Arr S w1 a l := h.keep (fun b hb => HB1.out.block b (hS b hb))
    have HK := Lib.hid (on_any (c := c) h1 (fun b hb => Nat.lt_of_lt_of_le (hS b hb) HB1.out.size) hv hk hl)
    have HQ := Lib.hid fun w2 (hw : Grow w1 w2) => back_any (c := c) (h1.keep (w' := w2) (fun b hb => hw.block b (Nat.lt_of_lt_of_le (hS b hb) HB1.out.size))) (fun b hb => Nat.lt_of_lt_of_le (Nat.lt_of_lt_of_le (hS b hb) HB1.out.size) hw.size) hv hq hl
    have hbl : (backOf l q).length = m := by rw [HM.out]; simp [backOf]
    have hol : (onOf l k).length = m := by rw [HM.out]; exact onOf_len l k
    have hm200 : m ≤ 200 := by rw [HM.out]; exact hl
    have HBL := Lib.hid hbl; have HOL := Lib.hid hol
    rw [he]
    rw [← HM.out] at HK HQ
    clear he hl hv ha hk h1 hbl hol hq
    go_wp2_with fail
    refine HK.out.mono ?_
    rintro e w2 ⟨⟨a2, c2, rfl, h2, hc2, hn2⟩, hb2⟩
    have HB2 := Lib.hid (HB1.out.trans (hb2.mono HB1.out.size))
    have H2 := Lib.hid h2; have HN2 := Lib.hid hn2
    have HQ2 := Lib.hid (HQ.out w2 hb2)
    rw [HOL.out] at hc2 ⊢
    clear hb2 h2 hn2 HB1 HK HQ
    go_wp2_with fail
    refine HQ2.out.mono ?_
    rintro e w3 ⟨⟨a3, c3, rfl, h3, hc3, hn3⟩, hb3⟩
    have HB3 := Lib.hid (HB2.out.trans (hb3.mono HB2.out.size))
    have hs23 := hb3.size
    have H2 := Lib.hid (H2.out.later hb3)
    have H3 := Lib.hid h3; have HN3 := Lib.hid hn3
    rw [HBL.out] at hc3 ⊢
    clear hb3 h3 hn3 HB2 HQ2
    go_wp2_with fail
    have hs3 : Below w3.heap.size w3 (w3.alloc (.cells #[.slice a2 m c2, .slice a3 m c3] 173)) := (Below.refl _ _).alloc (Nat.le_refl _) _
    have hlist : Arr (fun b => b < (w3.alloc (.cells #[.slice a2 m c2, .slice a3 m c3] 173)).heap.size) (w3.alloc (.cells #[.slice a2 m c2, .slice a3 m c3] 173)) (some ⟨w3.heap.size, 0, none⟩) [onOf l k, backOf l q] := by
      refine arr_lists2 (c1 := c2) (c2 := c3) (e := 173) ?_ (by rw [HOL.out]; exact hc2) HN2.out (H2.out.still (fun b hb => Nat.lt_of_lt_of_le hb.2 hs23) hs3) (fun b hb => by simp; have := hb.2; omega)
        (by rw [HBL.out]; exact hc3) HN3.out (H3.out.later hs3) (fun b hb => by simp; have := hb.2; omega)
      rw [HBL.out, HOL.out]
      exact blk_new w3 [.slice a2 m c2, .slice a3 m c3] _
    refine (listed_any (ns := 2) hlist (fun b hb => hb) hm200 (by intro s hs; simp at hs; rcases hs with rfl | rfl; exact HOL.out; exact HBL.out) rfl).mono ?_
    rintro e w4 ⟨⟨a4, c4, rfl, h4, hc4, hn4⟩, hb4⟩
    have HB4 := Lib.hid (HB3.out.trans ((hs3.trans (hb4.mono (by simp))).mono HB3.out.size))
    have H4 : Hid (Arr (Fresh w w4) w4 a4 (listedOf m [onOf l k, backOf l q])) := h4.mono (fun b hb => ⟨Nat.le_trans HB3.out.size (Nat.le_trans (by simp) hb.1), hb.2⟩)
    have HC4 := Lib.hid hc4; have HN4 := Lib.hid hn4
    clear hs3 hlist h4 hc4 hn4 hb4
    go_wp2
    go_ret2
    exact .ok HR.out HB4.out H4.out HC4.out HN4.out
  · have HR : Hid (chopRes l i j = ([], errOf l [i, j])) := if_neg he
    have hne : (errOf l [i, j] != 0) = true := by simp [he]
    clear he h
    go_wp2
    go_ret2
    exact .err HR.out HB1.out
end Go.Proofs.Ytimlhjjdaggiiaa.slice
