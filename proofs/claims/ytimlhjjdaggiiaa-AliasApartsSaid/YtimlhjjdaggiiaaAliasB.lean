/- The document's Apart, and the law, walked. -/
import Derived.Test.YtimlhjjdaggiiaaAliasA
set_option linter.unusedVariables false
set_option linter.unusedSimpArgs false
namespace Go.Proofs.Ytimlhjjdaggiiaa.ir
open Go.Bk Go.RowKit

set_option maxRecDepth 100000 in
set_option maxHeartbeats 1000000 in
theorem rapart_any {S : Nat → Prop} {w : World} {t : Api.TTrace} {a b : Int} {a3 a4 a7 a8 a11 a12 : Option Addr} {c3 c4 c7 c8 c11 c12 : Nat} (h : Arr S w a3 t.Ins) (hS : ∀ b, S b → b < w.heap.size) :
    Calls Try.prog 37 #[traceV t a3 a4 a7 a8 a11 a12 c3 c4 c7 c8 c11 c12, .int .i64 a, .int .i64 b] w fun e w' => e = .returned (.bool (apartOf t a b)) ∧ Below w.heap.size w w' := by
  obtain ⟨Fn, At, Loop, Ins, Exits, ⟨tAt, tSteps, tSets, tMakes⟩, ⟨bAt, bSteps, bSets, bMakes⟩⟩ := t
  have hm := h.small
  unfold maxLen at hm
  unfold traceV
  dsimp only at h hm ⊢
  by_cases hbad : min a b < 0 ∨ (Ins.length : Int) ≤ max a b ∨ a = b
  · have hA : apartOf ⟨Fn, At, Loop, Ins, Exits, ⟨tAt, tSteps, tSets, tMakes⟩, ⟨bAt, bSteps, bSets, bMakes⟩⟩ a b = false := by unfold apartOf; rw [if_pos hbad]
    rw [hA]
    clear hA
    by_cases hg : b < a
    · have g1 : decide (b < a) = true := by simp [hg]
      rw [show min a b = b by omega, show max a b = a by omega] at hbad
      go_enter Try.func37, Try.ntmps37
      go_wp2_with fail
      all_goals
        first
          | (exfalso; go_light; omega)
          | (go_ret
             exact ⟨rfl, (Below.refl _ _).alloc (Nat.le_refl _) _⟩)
    · have g1 : decide (b < a) = false := by simpa using hg
      rw [show min a b = a by omega, show max a b = b by omega] at hbad
      go_enter Try.func37, Try.ntmps37
      go_wp2_with fail
      all_goals
        first
          | (exfalso; go_light; omega)
          | (go_ret
             exact ⟨rfl, (Below.refl _ _).alloc (Nat.le_refl _) _⟩)
  · obtain ⟨n1, n2, hlo, hhi, hlt, hl2, hcase⟩ : ∃ n1 n2 : Nat, min a b = (n1 : Int) ∧ max a b = (n2 : Int) ∧ n1 < n2 ∧ n2 < Ins.length ∧ (a = n1 ∧ b = n2 ∨ a = n2 ∧ b = n1) := by
      refine ⟨(min a b).toNat, (max a b).toNat, ?_, ?_, ?_, ?_, ?_⟩ <;> omega
    obtain ⟨x, hx⟩ : ∃ x, Ins[n1]? = some x := ⟨_, List.getElem?_eq_getElem (by omega)⟩
    obtain ⟨y, hy⟩ : ∃ y, Ins[n2]? = some y := ⟨_, List.getElem?_eq_getElem hl2⟩
    have HA : Hid (apartOf ⟨Fn, At, Loop, Ins, Exits, ⟨tAt, tSteps, tSets, tMakes⟩, ⟨bAt, bSteps, bSets, bMakes⟩⟩ a b = apartIns x.Op y.Op (decide ((n1 : Int) < Loop ∧ Loop ≤ n2))) := apartOf_at hlo hhi hlt hx hy
    obtain ⟨b1, o1, rfl, hS1, p1⟩ := arr_ins_op h hx
    obtain ⟨b2, o2, he, -, p2⟩ := arr_ins_op h hy
    obtain ⟨rfl, rfl⟩ : b1 = b2 ∧ o1 = o2 := by simpa using he
    have hbl := hS _ hS1
    clear hbad hlo hhi he hx hy h
    generalize x.Op = X at p1 HA
    generalize y.Op = Y at p2 HA
    have f1 : ((n1 : Int) == n2) = false := by simp; omega
    have f2 : decide (Ins.length ≤ n2) = false := by simp; omega
    have f3 : decide ((n1 : Int) < 0) = false := by simp
    have f4 : decide (n2 < n1) = false := by simp; omega
    have f5 : decide (n1 < n2) = true := by simp; omega
    rcases hcase with ⟨rfl, rfl⟩ | ⟨rfl, rfl⟩
    all_goals
      go_enter Try.func37, Try.ntmps37
      go_wp2_with fail
      first | (refine wp_region_quiet_lit (by kernel_rfl) (by kernel_rfl) ?_; (repeat (go_big_quiet_step (fail))); refine wpQuiet_nil ?_; intro _ hw'; obtain ⟨nq, hw''⟩ := hw'; subst hw'')
      clear p1 p2 f1 f2 f3 f4 f5
      obtain ⟨wb, hwb, hb0, hs0, p4⟩ : ∃ wb, (w.alloc (.cells #[.int .i64 Fn, .int .i64 At, .int .i64 Loop, .slice (some ⟨b1, o1, none⟩) Ins.length c3, .slice a4 Exits.length c4, .int .i64 tAt, .int .i64 tSteps, .slice a7 tSets.length c7, .slice a8 tMakes.length c8, .int .i64 bAt, .int .i64 bSteps, .slice a11 bSets.length c11, .slice a12 bMakes.length c12] 78)).drewN nq = wb ∧ Below w.heap.size w wb ∧ w.heap.size + 1 = wb.heap.size ∧ wb.cell? ⟨w.heap.size, 2, none⟩ = some (.int .i64 Loop) := ⟨_, rfl, Go.Bk.Below.drewN ((Below.refl _ _).alloc (Nat.le_refl _) _) _, by simp, by simp⟩
      rw [hwb]
      clear hwb
      cases hX : tellsOf X with
      | false =>
        have HX := Lib.hid hX
        go_wp2_with fail
        refine (hX ▸ rtells_any).mono ?_
        rintro e w1 ⟨rfl, hb1⟩
        have HB1 := Lib.hid (hb0.trans (hb1.mono (by omega)))
        clear hb1 hX hb0 p4
        go_wp2
        go_ret
        exact ⟨by rw [HA.out]; simp [apartIns, HX.out], HB1.out⟩
      | true =>
        have HX := Lib.hid hX
        go_wp2_with fail
        refine (hX ▸ rtells_any).mono ?_
        rintro e w1 ⟨rfl, hb1⟩
        have HB1 := Lib.hid (hb0.trans (hb1.mono (by omega)))
        have hs1 := hb1.size
        have p4 := (below_cells hb1 _ 2 (by omega)).trans p4
        clear hb1 hX hb0
        cases hY : tellsOf Y with
        | false =>
          have HY := Lib.hid hY
          go_wp2_with fail
          refine (hY ▸ rtells_any).mono ?_
          rintro e w2 ⟨rfl, hb2⟩
          have HB2 := Lib.hid (HB1.out.trans (hb2.mono (by omega)))
          clear hb2 hY p4
          go_wp2
          go_ret
          exact ⟨by rw [HA.out]; simp [apartIns, HX.out, HY.out], HB2.out⟩
        | true =>
          have HY := Lib.hid hY
          go_wp2_with fail
          refine (hY ▸ rtells_any).mono ?_
          rintro e w2 ⟨rfl, hb2⟩
          have HB2 := Lib.hid (HB1.out.trans (hb2.mono (by omega)))
          have hs2 := hb2.size
          have p4 := (below_cells hb2 _ 2 (by omega)).trans p4
          clear hb2 hY
          have hsw : w.heap.size ≤ w2.heap.size := by omega
          by_cases hL : (n1 : Int) < Loop ∧ Loop ≤ n2
          · have hB : decide ((n1 : Int) < Loop ∧ Loop ≤ n2) = true := by simp [hL]
            rw [hB, apartIns_tells HX.out HY.out, if_pos rfl] at HA
            have l1 : decide ((n1 : Int) < Loop) = true := by simp [hL]
            have l2 : decide (Loop ≤ (n2 : Int)) = true := by simp [hL]
            clear hB hL
            go_wp2
            all_goals (go_ret; refine ⟨?_, HB2.out⟩; rw [HA.out]; clear HA HX HY HB1 HB2 p4; first | (simp_all [freshOf]; done) | (simp_all [freshOf]; rw [Bool.eq_iff_iff]; simp_all; done) | grind [freshOf])
          · have hB : decide ((n1 : Int) < Loop ∧ Loop ≤ n2) = false := by simpa using hL
            rw [hB, apartIns_tells HX.out HY.out, if_neg (by decide)] at HA
            clear hB
            by_cases hL1 : (n1 : Int) < Loop
            · have l1 : decide ((n1 : Int) < Loop) = true := by simp [hL1]
              have l2 : decide (Loop ≤ (n2 : Int)) = false := by simp; omega
              clear hL hL1
              go_wp2_with fail
              all_goals
                first
                  | (go_ret; refine ⟨?_, HB2.out⟩; rw [HA.out]; clear HA HX HY HB1 HB2 p4; first | (simp_all [freshOf]; done) | (simp_all [freshOf]; rw [Bool.eq_iff_iff]; simp_all; done) | grind [freshOf])
                  | (refine (has_any (S := fun _ => True) (xs := [1, 2, 3]) ((blk_new w2 _ _).arr (zs := [1, 2, 3]) (by unfold I64; simp) (by simp [maxLen]) trivial)).mono ?_
                     rintro e w3 ⟨rfl, hq⟩
                     have HB3 := Lib.hid (HB2.out.trans (((Below.refl _ _).alloc hsw _).trans (hq.below _)))
                     clear hq
                     go_wp2
                     go_ret; refine ⟨?_, HB3.out⟩; rw [HA.out]; clear HA HX HY HB1 HB2 HB3 p4; first | (simp_all [freshOf, beforeOf]; done) | (simp_all [freshOf, beforeOf]; rw [Bool.eq_iff_iff]; simp_all; done) | grind [freshOf, beforeOf])
            · have l1 : decide ((n1 : Int) < Loop) = false := by simp; omega
              clear hL hL1
              go_wp2_with fail
              all_goals
                first
                  | (go_ret; refine ⟨?_, HB2.out⟩; rw [HA.out]; clear HA HX HY HB1 HB2 p4; first | (simp_all [freshOf]; done) | (simp_all [freshOf]; rw [Bool.eq_iff_iff]; simp_all; done) | grind [freshOf])
                  | (refine (has_any (S := fun _ => True) (xs := [1, 2, 3]) ((blk_new w2 _ _).arr (zs := [1, 2, 3]) (by unfold I64; simp) (by simp [maxLen]) trivial)).mono ?_
                     rintro e w3 ⟨rfl, hq⟩
                     have HB3 := Lib.hid (HB2.out.trans (((Below.refl _ _).alloc hsw _).trans (hq.below _)))
                     clear hq
                     go_wp2
                     go_ret; refine ⟨?_, HB3.out⟩; rw [HA.out]; clear HA HX HY HB1 HB2 HB3 p4; first | (simp_all [freshOf, beforeOf]; done) | (simp_all [freshOf, beforeOf]; rw [Bool.eq_iff_iff]; simp_all; done) | grind [freshOf, beforeOf])
end Go.Proofs.Ytimlhjjdaggiiaa.ir
