/- The law SmallTells, walked: a stretch. -/
import Derived.Test.YtimlhjjdaggiiaaSmallH
import Derived.Test.YtimlhjjdaggiiaaFuncs
set_option linter.unusedVariables false
set_option linter.unusedSimpArgs false
namespace Go.Proofs.Ytimlhjjdaggiiaa.small
open Go.Bk Go.RowKit Go.Deep

def wantRel (w2 : World) (l : List Int) (f t n : Nat) (v i : Value) (w' : World) : Prop :=
  ∃ k : Nat, k ≤ n ∧ i = .int .i64 k ∧ Own (fun _ => False) w' w2.heap.size 3 v (keepTo l f t k) ∧ Below w2.heap.size w2 w'

set_option maxRecDepth 100000 in
set_option maxHeartbeats 4000000 in
theorem small_ok {W : World} {a : Option Addr} {c n : Nat} {l : List Int} {f t : Nat} {none' never : Bool} (hn : l.length = n) (h : Arr (· < W.heap.size) W a l) (hnil : a = none → c = 0) (hcap : n ≤ c) (hc : c ≤ 9223372036854775807) (hl : n ≤ 200) (hft : f ≤ t) (htn : t ≤ n) :
    Calls Try.prog 12 #[.slice a n c, .int .i64 f, .int .i64 t, .bool none', .bool never] W fun e W' => e = .returned (.bool true) ∧ Below W.heap.size W W' := by
  have hN : Hid (l.length = n) := Lib.hid hn
  have hz : n * 8 ≤ 140737488355328 := by omega
  have hd : decide (200 < (n : Int)) = false := decide_eq_false (by omega)
  have hd2 : decide (200 < n) = false := decide_eq_false (by omega)
  have HL : Hid (∀ w1, Below W.heap.size W w1 → Arr (· < W.heap.size) w1 a l) := fun w1 hb => h.keep (fun b hb' => hb.block b hb')
  have HNI := Lib.hid hnil
  have d2 : decide ((f : Int) < 0) = false := decide_eq_false (by omega)
  have d3 : decide (t < f) = false := decide_eq_false (by omega)
  have d4 : decide (n < t) = false := decide_eq_false (by omega)
  obtain ⟨w1, hw1⟩ : ∃ w1, w1 = W.alloc (.cells #[.bool never] 4) := ⟨_, rfl⟩
  have HB0 : Hid (Below W.heap.size W w1) := by rw [hw1]; exact (Below.refl _ _).alloc (Nat.le_refl _) _
  have HNB0 : Hid (Blk w1 W.heap.size 4 [.bool never]) := by rw [hw1]; exact blk_new W [.bool never] 4
  have HWO := Lib.hid (withoutT_ok (f := f) (t := t) hn (HL.out _ HB0.out) (fun b hb => Nat.lt_of_lt_of_le hb HB0.out.size) hcap hnil hc hft htn hl)
  clear hn h hnil hcap hc
  go_enter Try.func12, Try.ntmps12
  go_wp2_with fail
  rw [← hw1]
  clear hw1
  refine HWO.out.mono ?_
  rintro e w2 ⟨a2, c2, rfl, ha2, hb2⟩
  clear HWO
  obtain ⟨m, hm⟩ : ∃ m, m = (l.take f ++ l.drop t).length := ⟨_, rfl⟩
  rw [← hm]
  have HM := Lib.hid hm
  have HA2 := Lib.hid ha2
  have HB2 := Lib.hid (HB0.out.trans (hb2.mono HB0.out.size))
  have HNB2 : Hid (Blk w2 W.heap.size 4 [.bool never]) := HNB0.out.keep (hb2.block _ HNB0.out.lt)
  have hs2 : Hid (w1.heap.size ≤ w2.heap.size) := hb2.size
  clear hm ha2 hb2
  go_wp2_with fail
  go_loopw [14, 15] (wantRel w2 l f t n) (fun _ i _ => n - (intOf i).toNat)
  case atStart => exact ⟨0, Nat.zero_le _, rfl, by rw [keepTo_zero]; exact Own.nil _ _ _ _, Below.refl _ _⟩
  case round =>
    obtain ⟨k, hk, rfl, hown, hbr⟩ := hrel
    have HW0 := Lib.hid hown; have HBR := Lib.hid hbr
    have HB1 := Lib.hid (HB2.out.trans (hbr.mono HB2.out.size))
    have hbs := hbr.size
    have hlen := keepTo_len l f t k
    rw [hN.out] at hlen
    clear hown hbr
    by_cases hlt : k < n
    · obtain ⟨x, hx⟩ : ∃ x, l[k]? = some x := ⟨_, List.getElem?_eq_getElem (by have := hN.out; omega)⟩
      obtain ⟨b, off, rfl, -, q1, q2⟩ := arr_int (HL.out _ HB1.out) hx
      have hdk : decide (k < n) = true := decide_eq_true hlt
      have HX := Lib.hid hx
      have hcell : ∀ w0 : World, Rep.cells (α := Int) (fun _ => False) w0 [.int .i64 x] x := fun _ => ⟨rfl, q2⟩
      clear hx
      by_cases h1 : k < f
      · have g1 : decide (k < f) = true := decide_eq_true h1
        have HS := Lib.hid (keepTo_in hft HX.out (.inl h1))
        go_wp2_with ((at_builtin; with_reducible refine Try.wp_app22 rfl rfl rfl rfl rfl (by first | rfl | simp) (HW0.out) (hcell _) (fun _ h => h.elim) (by omega) (by first | omega | (simp; omega)) fun v' w' hown' hg' => ?_); have HN' := Lib.hid hown'; have HG := Lib.hid hg'; clear hown' hg')
        go_roundw
        case rel => exact ⟨k + 1, by omega, by go_num, by rw [HS.out]; exact HN'.out, HBR.out.grown HG.out hbs (fun r hr => (HW0.out.lt r hr).1)⟩
        case measure => simp [intOf] <;> omega
      · have g1 : decide (k < f) = false := decide_eq_false h1
        by_cases h2 : t ≤ k
        · have g2 : decide (t ≤ k) = true := decide_eq_true h2
          have HS := Lib.hid (keepTo_in hft HX.out (.inr h2))
          go_wp2_with ((at_builtin; with_reducible refine Try.wp_app22 rfl rfl rfl rfl rfl (by first | rfl | simp) (HW0.out) (hcell _) (fun _ h => h.elim) (by omega) (by first | omega | (simp; omega)) fun v' w' hown' hg' => ?_); have HN' := Lib.hid hown'; have HG := Lib.hid hg'; clear hown' hg')
          go_roundw
          case rel => exact ⟨k + 1, by omega, by go_num, by rw [HS.out]; exact HN'.out, HBR.out.grown HG.out hbs (fun r hr => (HW0.out.lt r hr).1)⟩
          case measure => simp [intOf] <;> omega
        · have g2 : decide (t ≤ k) = false := decide_eq_false h2
          have HS := Lib.hid (keepTo_out (l := l) (Nat.le_of_not_lt h1) (Nat.lt_of_not_le h2))
          go_wp2_with fail
          go_roundw
          case rel => exact ⟨k + 1, by omega, by go_num, by rw [HS.out]; exact HW0.out, HBR.out⟩
          case measure => simp [intOf] <;> omega
    · obtain rfl : k = n := by omega
      have hw0 := HW0.out
      rw [keepTo_all hN.out (by omega)] at hw0
      obtain ⟨a3, c3, rfl, -, -, hw3⟩ := hw0.arr
      rw [← HM.out]
      have HA3 : Hid (Arr (fun b => b < wr.heap.size) wr a3 (l.take f ++ l.drop t)) := hw3.mono (fun b hb => (hb.resolve_left id).2)
      have HA2' : Hid (Arr (fun b => b < wr.heap.size) wr a2 (l.take f ++ l.drop t)) := (HA2.out.keep (fun b hb => HBR.out.block b hb.2)).mono (fun b hb => by have := hb.2; omega)
      have HNB : Hid (Blk wr W.heap.size 4 [.bool never]) := HNB2.out.keep (HBR.out.block _ HNB2.out.lt)
      have HNE : Hid (W.heap.size ≠ wr.heap.size) := fun e => by have := HNB.out.lt; omega
      have HMM : Hid ((l.take f ++ l.drop t).length = m) := HM.out.symm
      clear hw0 hw3 HW0 HA2 HNB2 HNB0
      have HO : Hid (Own (fun _ => False) ((wr.alloc (.cells #[.int .i64 0] 3)).alloc (.cells #[] 3)) (wr.heap.size + 1) 3 (.slice (some ⟨wr.heap.size + 1, 0, none⟩) 0 0) ([] : List Int)) := by
        have := own_zero (α := Int) (S := fun _ => False) (w := (wr.alloc (.cells #[.int .i64 0] 3)).alloc (.cells #[] 3)) (B := wr.heap.size + 1) (g := wr.heap.size + 1) (e := 3) (by simp) (by simpa using box_zero (w := wr.alloc (.cells #[.int .i64 0] 3)) (e := 3))
        exact this
      have HAA : Hid (Arr (· < W.heap.size) ((wr.alloc (.cells #[.int .i64 0] 3)).alloc (.cells #[] 3)) a l) := HL.out _ ((HB1.out.alloc HB1.out.size _).alloc (by simp; have := HB1.out.size; omega) _)
      cases none'
      case true =>
        go_wp2_with (at_builtin; with_reducible refine wp_appsBig (S := fun _ => False) (S2 := fun b => b < W.heap.size) rfl rfl rfl rfl hN.out HO.out HAA.out HNI.out (fun _ h => h.elim) hz (by simp) fun v' w' hown' hg' => ?_; have hbw := box_below1 (n := 0) (c := 0) (by with_unfolding_all exact hg'); have HW := Lib.hid hown'; have HG := Lib.hid hbw; clear hown' hg' hbw)
        all_goals
          refine (min_nil (ga := 0) (gn := 0) hl).mono ?_
          rintro e w3 ⟨rfl, rfl⟩
          have HON : Hid (Only w'.heap.size wr.heap.size w' w') := Only.refl _ _ _
          obtain ⟨a9, c9, rfl, -, -, hw9⟩ := HW.out.arr
          have HW9 := Lib.hid (arr_was hw9 HON.out)
          clear hw9
          rw [hN.out]
          go_wp2_with fail
          refine (same_eq (arr_low HA2'.out (fun _ h => h) HG.out HON.out) (arr_low HA3.out (fun _ h => h) HG.out HON.out) HMM.out HMM.out).mono ?_
          rintro e z1 ⟨rfl, hz1⟩
          have Z1 := Lib.hid hz1
          clear hz1
          go_wp2_with fail
          refine (same_eq ((HL.out _ (below_all HB1.out HG.out HON.out)).keep (fun b _ => Z1.out.heap b)) (HW9.out.keep (fun b _ => Z1.out.heap b)) hN.out hN.out).mono ?_
          rintro e z2 ⟨rfl, hz2⟩
          have Z2 := Lib.hid hz2
          clear hz2
          go_wp2_with fail
          go_ret
          exact ⟨rfl, (below_all HB1.out HG.out HON.out).trans ((Z1.out.trans Z2.out).below _)⟩
      case false =>
        cases never
        case true =>
          go_wp2_with (at_builtin; with_reducible refine wp_appsBig (S := fun _ => False) (S2 := fun b => b < W.heap.size) rfl rfl rfl rfl hN.out HO.out HAA.out HNI.out (fun _ h => h.elim) hz (by simp) fun v' w' hown' hg' => ?_; have hbw := box_below1 (n := 0) (c := 0) (by with_unfolding_all exact hg'); have HW := Lib.hid hown'; have HG := Lib.hid hbw; clear hown' hg' hbw)
          all_goals
            refine (min_no hN.out ((HL.out _ (below_all HB1.out HG.out (Only.refl _ _ _)))) HNI.out (fun b hb => ⟨by have := HB1.out.size; have := HG.out.size; simp at this; omega, by have := HB1.out.size; omega⟩) (blk_at HG.out) (blk_low HNB.out HG.out) HNE.out hl).mono ?_
            rintro e w3 ⟨rfl, ho3⟩
            have HON := Lib.hid ho3
            have cn := Blk.cell (j := 0) ((blk_low HNB.out HG.out).keep (ho3.block W.heap.size (blk_low HNB.out HG.out).lt HNE.out)) rfl
            clear ho3
            obtain ⟨a9, c9, rfl, -, -, hw9⟩ := HW.out.arr
            have HW9 := Lib.hid (arr_was hw9 HON.out)
            clear hw9
            rw [hN.out]
            go_wp2_with fail
            refine (same_eq (arr_low HA2'.out (fun _ h => h) HG.out HON.out) (arr_low HA3.out (fun _ h => h) HG.out HON.out) HMM.out HMM.out).mono ?_
            rintro e z1 ⟨rfl, hz1⟩
            have Z1 := Lib.hid hz1
            clear hz1
            go_wp2_with fail
            refine (same_eq ((HL.out _ (below_all HB1.out HG.out HON.out)).keep (fun b _ => Z1.out.heap b)) (HW9.out.keep (fun b _ => Z1.out.heap b)) hN.out hN.out).mono ?_
            rintro e z2 ⟨rfl, hz2⟩
            have Z2 := Lib.hid hz2
            clear hz2
            go_wp2_with fail
            go_ret
            exact ⟨rfl, (below_all HB1.out HG.out HON.out).trans ((Z1.out.trans Z2.out).below _)⟩
        case false =>
          go_wp2_with (at_builtin; with_reducible refine wp_appsBig (S := fun _ => False) (S2 := fun b => b < W.heap.size) rfl rfl rfl rfl hN.out HO.out HAA.out HNI.out (fun _ h => h.elim) hz (by simp) fun v' w' hown' hg' => ?_; have hbw := box_below1 (n := 0) (c := 0) (by with_unfolding_all exact hg'); have HW := Lib.hid hown'; have HG := Lib.hid hbw; clear hown' hg' hbw)
          all_goals
            refine (min_yes hN.out ((HL.out _ (below_all HB1.out HG.out (Only.refl _ _ _)))) HNI.out (fun b hb => ⟨by have := HB1.out.size; have := HG.out.size; simp at this; omega, by have := HB1.out.size; omega⟩) (blk_at HG.out) (blk_low HNB.out HG.out) HNE.out hl).mono ?_
            rintro e w3 ⟨am, cm, nm, rfl, hbk, ho3⟩
            have HON := Lib.hid ho3
            have cg : w3.cell? ⟨wr.heap.size, 0, none⟩ = some (.int .i64 nm) := hbk.cell rfl
            have cn := Blk.cell (j := 0) ((blk_low HNB.out HG.out).keep (ho3.block W.heap.size (blk_low HNB.out HG.out).lt HNE.out)) rfl
            clear ho3 hbk
            obtain ⟨a9, c9, rfl, -, -, hw9⟩ := HW.out.arr
            have HW9 := Lib.hid (arr_was hw9 HON.out)
            clear hw9
            rw [hN.out]
            go_wp2_with fail
            refine (same_eq (arr_low HA2'.out (fun _ h => h) HG.out HON.out) (arr_low HA3.out (fun _ h => h) HG.out HON.out) HMM.out HMM.out).mono ?_
            rintro e z1 ⟨rfl, hz1⟩
            have Z1 := Lib.hid hz1
            clear hz1
            go_wp2_with fail
            refine (same_eq ((HL.out _ (below_all HB1.out HG.out HON.out)).keep (fun b _ => Z1.out.heap b)) (HW9.out.keep (fun b _ => Z1.out.heap b)) hN.out hN.out).mono ?_
            rintro e z2 ⟨rfl, hz2⟩
            have Z2 := Lib.hid hz2
            clear hz2
            go_wp2_with fail
            go_ret
            exact ⟨rfl, (below_all HB1.out HG.out HON.out).trans ((Z1.out.trans Z2.out).below _)⟩
end Go.Proofs.Ytimlhjjdaggiiaa.small
