/- Back, On and Chop, walked. -/
import Derived.Test.YtfdpannanpipdaaSliceEb
set_option linter.unusedVariables false
set_option linter.unusedSimpArgs false
namespace Go.Proofs.Ytfdpannanpipdaa.slice
open Go.Bk Go.RowKit

open Classical in
noncomputable def backRes (l : List Api.DDep) (i : Int) : List Int × Int := if errOf l [i] = 0 then (listedOf l.length [backOf l i.toNat], 0) else ([], errOf l [i])
noncomputable def onRes (l : List Api.DDep) (i : Int) : List Int × Int := if errOf l [i] = 0 then (listedOf l.length [onOf l i.toNat], 0) else ([], errOf l [i])
noncomputable def chopRes (l : List Api.DDep) (i j : Int) : List Int × Int := if errOf l [i, j] = 0 then (listedOf l.length [onOf l i.toNat, backOf l j.toNat], 0) else ([], errOf l [i, j])
theorem err_place {l : List Api.DDep} {i : Int} (h : (List.all [i] (inLen l)) = true) : ∃ k : Nat, i = k ∧ k < l.length := by
  simp [inLen] at h
  exact ⟨i.toNat, by omega, by omega⟩
theorem err_places {l : List Api.DDep} {i j : Int} (h : (List.all [i, j] (inLen l)) = true) : (∃ k : Nat, i = k ∧ k < l.length) ∧ (∃ k : Nat, j = k ∧ k < l.length) := by
  simp [inLen] at h
  exact ⟨⟨i.toNat, by omega, by omega⟩, ⟨j.toNat, by omega, by omega⟩⟩

set_option maxRecDepth 100000 in
set_option maxHeartbeats 1000000 in
theorem bback_any {S : Nat → Prop} {w : World} {a : Option Addr} {c : Nat} {l : List Api.DDep} {i : Int} (h : Arr S w a l) (hS : ∀ b, S b → b < w.heap.size) (hi : I64 i) :
    Calls Try.prog 136 #[.slice a l.length c, .int .i64 i] w (RetLE w (backRes l i)) := by
  have hm := h.small
  unfold maxLen at hm
  have hal : ∀ o, Arr S (w.alloc o) a l := fun o => h.still hS ((Below.refl _ _).alloc (Nat.le_refl _) o)
  have hpl : Arr (fun b => b < (w.alloc (.cells #[.int .i64 i] 3)).heap.size) (w.alloc (.cells #[.int .i64 i] 3)) (some ⟨w.heap.size, 0, none⟩) [i] := Blk.arr (zs := [i]) (blk_new w [.int .i64 i] _) (by simpa using hi) (by simp [maxLen]) (by simp)
  have HC := Lib.hid (check_any (c := c) (c2 := 1) (hal _) hpl (fun b hb => by have := hS b hb; simp; omega) (fun b hb => hb))
  obtain ⟨m, hml⟩ : ∃ n, n = l.length := ⟨_, rfl⟩
  rw [← hml] at hm HC; rw [← hml]
  have HM := Lib.hid hml
  clear hpl hml
  go_enter Try.func136, Try.ntmps136
  go_wp2_with fail
  refine HC.out.mono ?_
  rintro e w1 ⟨rfl, hb1⟩
  have HB1 : Hid (Below w.heap.size w w1) := ((Below.refl _ _).alloc (Nat.le_refl _) _).trans (hb1.mono (by simp))
  clear hb1 HC hal
  by_cases he : errOf l [i] = 0
  · obtain ⟨hl, hv, ha⟩ := errOf_zero he
    have HR : Hid (backRes l i = (listedOf m [backOf l i.toNat], 0)) := by show _ = _; rw [backRes, if_pos he, HM.out]
    obtain ⟨k, rfl, hk⟩ := err_place ha
    rw [Int.toNat_natCast] at HR
    have h1 : Arr S w1 a l := h.keep (fun b hb => HB1.out.block b (hS b hb))
    have HK := Lib.hid (back_any (c := c) h1 (fun b hb => Nat.lt_of_lt_of_le (hS b hb) HB1.out.size) hv hk hl)
    have hbl : (backOf l k).length = m := by rw [HM.out]; simp [backOf]
    have hm200 : m ≤ 200 := by rw [HM.out]; exact hl
    have HBL := Lib.hid hbl
    rw [he]
    rw [← HM.out] at HK
    clear he hl hv ha hk h1 hbl
    go_wp2_with fail
    refine HK.out.mono ?_
    rintro e w2 ⟨⟨a2, c2, rfl, h2, hc2, hn2⟩, hb2⟩
    have HB2 := Lib.hid (HB1.out.trans (hb2.mono HB1.out.size))
    have H2 := Lib.hid h2; have HN2 := Lib.hid hn2
    rw [HBL.out] at hc2 ⊢
    clear hb2 h2 hn2 HB1 HK
    go_wp2_with fail
    have hs3 : Below w2.heap.size w2 (w2.alloc (.cells #[.slice a2 m c2] 61)) := (Below.refl _ _).alloc (Nat.le_refl _) _
    have hlist : Arr (fun b => b < (w2.alloc (.cells #[.slice a2 m c2] 61)).heap.size) (w2.alloc (.cells #[.slice a2 m c2] 61)) (some ⟨w2.heap.size, 0, none⟩) [backOf l k] := by
      refine arr_lists1 (c1 := c2) (e := 61) ?_ (by rw [HBL.out]; exact hc2) HN2.out (H2.out.later hs3) (fun b hb => by simp; have := hb.2; omega)
      rw [HBL.out]
      exact blk_new w2 [.slice a2 m c2] _
    refine (listed_any (ns := 1) hlist (fun b hb => hb) hm200 (by intro s hs; simp at hs; rw [hs]; exact HBL.out) rfl).mono ?_
    rintro e w4 ⟨⟨a4, c4, rfl, h4, hc4, hn4⟩, hb4⟩
    have HB4 := Lib.hid (HB2.out.trans ((hs3.trans (hb4.mono (by simp))).mono HB2.out.size))
    have H4 : Hid (Arr (Fresh w w4) w4 a4 (listedOf m [backOf l k])) := h4.mono (fun b hb => ⟨Nat.le_trans HB2.out.size (Nat.le_trans (by simp) hb.1), hb.2⟩)
    have HC4 := Lib.hid hc4; have HN4 := Lib.hid hn4
    clear hs3 hlist h4 hc4 hn4 hb4
    go_wp2
    go_ret2
    exact .ok HR.out HB4.out H4.out HC4.out HN4.out
  · have HR : Hid (backRes l i = ([], errOf l [i])) := if_neg he
    have hne : (errOf l [i] != 0) = true := by simp [he]
    clear he h
    go_wp2
    go_ret2
    exact .err HR.out HB1.out
end Go.Proofs.Ytfdpannanpipdaa.slice
