/- irred, Apart and the document's Apart, walked. -/
import Derived.Test.YtimlhjjdaggiiaaIrA
import Derived.Test.YtimlhjjdaggiiaaAliasPlain
set_option linter.unusedVariables false
set_option linter.unusedSimpArgs false
namespace Go.Proofs.Ytimlhjjdaggiiaa.ir
open Go.Bk Go.RowKit

theorem below_cells {N : Nat} {w w' : World} (hb : Below N w w') : ∀ b o, b < N → w'.cell? ⟨b, o, none⟩ = w.cell? ⟨b, o, none⟩ := fun b o h => hb.cell (p := ⟨b, o, none⟩) h

set_option maxRecDepth 100000 in
theorem irred_any {w : World} : Calls Try.prog 35 #[] w fun e w' => e = .returned (.bool true) ∧ Below w.heap.size w w' := by
  go_enter Try.func35, Try.ntmps35
  go_wp2_with fail
  refine (asks_any (x := ⟨14, 4, 5, 6, 0, 0, ⟨0, 0⟩⟩) (by unfold I64; simp) (by unfold I64; simp) (by unfold I64; simp)).mono ?_
  rintro e w1 ⟨⟨a, c, rfl, -, ha⟩, hb⟩
  have HB := Lib.hid hb
  have ha' : Arr (Fresh w w1) (w1.alloc (.cells #[.int .i64 4, .int .i64 5, .int .i64 6] 3)) a (asksOf ⟨14, 4, 5, 6, 0, 0, ⟨0, 0⟩⟩) := ha.keep (fun b h => Below.heap_alloc _ _ _ h.2)
  clear hb ha
  go_wp2_with fail
  refine (eq_any ha' (Blk.arr (S := fun _ => True) (zs := [4, 5, 6]) (blk_new' rfl) (by unfold I64; simp) (by simp [maxLen]) trivial)).mono ?_
  rintro e w2 ⟨rfl, hq⟩
  have HQ := Lib.hid hq
  rw [show decide (asksOf ⟨14, 4, 5, 6, 0, 0, ⟨0, 0⟩⟩ = [4, 5, 6]) = true by decide]
  clear hq ha'
  go_wp2_with fail
  refine tells_any.mono ?_
  rintro e w3 ⟨rfl, hb3⟩
  have HB3 := Lib.hid hb3
  rw [show tellsOf 13 = true by decide]
  clear hb3
  go_wp2_with fail
  refine tells_any.mono ?_
  rintro e w4 ⟨rfl, hb4⟩
  have HB4 := Lib.hid hb4
  rw [show tellsOf 11 = false by decide]
  clear hb4
  go_wp2
  go_ret
  have h1 := HB.out
  have h2 : Below w.heap.size w w2 := (h1.alloc h1.size _).trans (HQ.out.below _)
  have h3 := h2.trans (HB3.out.mono h2.size)
  exact ⟨rfl, h3.trans (HB4.out.mono h3.size)⟩

/-- A trace as it is handed over. -/
def traceV (t : Api.TTrace) (a3 a4 a7 a8 a11 a12 : Option Addr) (c3 c4 c7 c8 c11 c12 : Nat) : Value :=
  .agg #[.int .i64 t.Fn, .int .i64 t.At, .int .i64 t.Loop, .slice a3 t.Ins.length c3, .slice a4 t.Exits.length c4, .int .i64 t.Turn.At, .int .i64 t.Turn.Steps, .slice a7 t.Turn.Sets.length c7, .slice a8 t.Turn.Makes.length c8, .int .i64 t.Back.At, .int .i64 t.Back.Steps, .slice a11 t.Back.Sets.length c11, .slice a12 t.Back.Makes.length c12]

theorem arr_ins_op {S : Nat → Prop} {w : World} {a : Option Addr} {xs : List Api.TIns} (h : Arr S w a xs) {k : Nat} {x : Api.TIns} (hk : xs[k]? = some x) : ∃ (b off : Nat), a = some ⟨b, off, none⟩ ∧ S b ∧ w.cell? ⟨b, off + k * 8, none⟩ = some (.int .i64 x.Op) := by
  obtain ⟨b, off, ha, hb, h0, _⟩ := api_TIns_elem h hk
  exact ⟨b, off, ha, hb, h0⟩

set_option maxRecDepth 100000 in
set_option maxHeartbeats 1000000 in
theorem apart_any {S : Nat → Prop} {w : World} {t : Api.TTrace} {a b : Int} {a3 a4 a7 a8 a11 a12 : Option Addr} {c3 c4 c7 c8 c11 c12 : Nat} (h : Arr S w a3 t.Ins) (hS : ∀ b, S b → b < w.heap.size) :
    Calls Try.prog 36 #[traceV t a3 a4 a7 a8 a11 a12 c3 c4 c7 c8 c11 c12, .int .i64 a, .int .i64 b] w fun e w' => e = .returned (.bool (apartOf t a b)) ∧ Below w.heap.size w w' := by
  obtain ⟨Fn, At, Loop, Ins, Exits, ⟨tAt, tSteps, tSets, tMakes⟩, ⟨bAt, bSteps, bSets, bMakes⟩⟩ := t
  have hm := h.small
  unfold maxLen at hm
  unfold traceV
  dsimp only at h hm ⊢
  by_cases hbad : min a b < 0 ∨ (Ins.length : Int) ≤ max a b ∨ a = b
  · have hA : apartOf ⟨Fn, At, Loop, Ins, Exits, ⟨tAt, tSteps, tSets, tMakes⟩, ⟨bAt, bSteps, bSets, bMakes⟩⟩ a b = false := by unfold apartOf; rw [if_pos hbad]
    have HA := Lib.hid hA
    clear hA
    go_enter Try.func36, Try.ntmps36
    go_wp2_with fail
    all_goals
      go_ret
      exact ⟨by rw [HA.out]; rfl, (Below.refl _ _).alloc (Nat.le_refl _) _⟩
  · obtain ⟨n1, n2, hlo, hhi, hlt, hl2, hcase⟩ : ∃ n1 n2 : Nat, min a b = (n1 : Int) ∧ max a b = (n2 : Int) ∧ n1 < n2 ∧ n2 < Ins.length ∧ (a = n1 ∧ b = n2 ∨ a = n2 ∧ b = n1) := by
      refine ⟨(min a b).toNat, (max a b).toNat, ?_, ?_, ?_, ?_, ?_⟩ <;> omega
    obtain ⟨x, hx⟩ : ∃ x, Ins[n1]? = some x := ⟨_, List.getElem?_eq_getElem (by omega)⟩
    obtain ⟨y, hy⟩ : ∃ y, Ins[n2]? = some y := ⟨_, List.getElem?_eq_getElem hl2⟩
    have HA : Hid (apartOf ⟨Fn, At, Loop, Ins, Exits, ⟨tAt, tSteps, tSets, tMakes⟩, ⟨bAt, bSteps, bSets, bMakes⟩⟩ a b = apartIns x.Op y.Op (decide ((n1 : Int) < Loop ∧ Loop ≤ n2))) := apartOf_at hlo hhi hlt hx hy
    obtain ⟨b1, o1, rfl, hS1, p1⟩ := arr_ins_op h hx
    obtain ⟨b2, o2, he, -, p2⟩ := arr_ins_op h hy
    obtain ⟨rfl, rfl⟩ : b1 = b2 ∧ o1 = o2 := by simpa using he
    have hbl := hS _ hS1
    clear hbad hlo hhi he hx hy h
    generalize x.Op = X at p1 HA
    generalize y.Op = Y at p2 HA
    have f1 : ((n1 : Int) == n2) = false := by simp; omega
    have f2 : decide (Ins.length ≤ n2) = false := by simp; omega
    have f3 : decide ((n1 : Int) < 0) = false := by simp
    rcases hcase with ⟨rfl, rfl⟩ | ⟨rfl, rfl⟩
    all_goals
      go_enter Try.func36, Try.ntmps36
      cases hX : tellsOf X with
      | false =>
        have HX := Lib.hid hX
        go_wp2_with fail
        refine (hX ▸ tells_any).mono ?_
        rintro e w1 ⟨rfl, hb1⟩
        have HB1 := Lib.hid (((Below.refl _ _).alloc (Nat.le_refl _) _).trans (hb1.mono (by simp)))
        clear hb1 hX
        go_wp2
        go_ret
        exact ⟨by rw [HA.out]; simp [apartIns, HX.out], HB1.out⟩
      | true =>
        have HX := Lib.hid hX
        go_wp2_with fail
        refine (hX ▸ tells_any).mono ?_
        rintro e w1 ⟨rfl, hb1⟩
        have HB1 := Lib.hid (((Below.refl _ _).alloc (Nat.le_refl _) _).trans (hb1.mono (by simp)))
        have hc1 := below_cells hb1
        have hs1 := hb1.size
        simp at hs1
        clear hb1 hX
        cases hY : tellsOf Y with
        | false =>
          have HY := Lib.hid hY
          go_wp2_with fail
          refine (hY ▸ tells_any).mono ?_
          rintro e w2 ⟨rfl, hb2⟩
          have HB2 := Lib.hid (HB1.out.trans (hb2.mono (by omega)))
          clear hb2 hY
          go_wp2
          go_ret
          exact ⟨by rw [HA.out]; simp [apartIns, HX.out, HY.out], HB2.out⟩
        | true =>
          have HY := Lib.hid hY
          go_wp2_with fail
          refine (hY ▸ tells_any).mono ?_
          rintro e w2 ⟨rfl, hb2⟩
          have HB2 := Lib.hid (HB1.out.trans (hb2.mono (by omega)))
          have hc2 := below_cells hb2
          have hs2 := hb2.size
          clear hb2 hY
          have p1' : w2.cell? ⟨b1, o1 + n1 * 8, none⟩ = some (.int .i64 X) := by
            rw [hc2 _ _ (by omega), hc1 _ _ (by simp; omega)]; exact (World.cell?_alloc_lt w _ _ hbl).trans p1
          have p2' : w2.cell? ⟨b1, o1 + n2 * 8, none⟩ = some (.int .i64 Y) := by
            rw [hc2 _ _ (by omega), hc1 _ _ (by simp; omega)]; exact (World.cell?_alloc_lt w _ _ hbl).trans p2
          have p3' : w2.cell? ⟨w.heap.size, 3, none⟩ = some (.slice (some ⟨b1, o1, none⟩) Ins.length c3) := by
            rw [hc2 _ _ (by omega), hc1 _ _ (by simp)]; simp
          have p4' : w2.cell? ⟨w.heap.size, 2, none⟩ = some (.int .i64 Loop) := by
            rw [hc2 _ _ (by omega), hc1 _ _ (by simp)]; simp
          clear hc1 hc2 p1 p2
          go_wp2
          first | (refine wp_region_quiet_lit (by kernel_rfl) (by kernel_rfl) ?_; (repeat (go_big_quiet_step (fail))); refine wpQuiet_nil ?_; intro _ hw'; obtain ⟨nq, hw''⟩ := hw'; subst hw'')
          by_cases hL : (n1 : Int) < Loop ∧ Loop ≤ n2
          · have hB : decide ((n1 : Int) < Loop ∧ Loop ≤ n2) = true := by simp [hL]
            rw [hB, apartIns_tells HX.out HY.out, if_pos rfl] at HA
            have l1 : decide ((n1 : Int) < Loop) = true := by simp [hL]
            have l2 : decide (Loop ≤ (n2 : Int)) = true := by simp [hL]
            clear hB hL
            go_wp2
            all_goals (go_ret; refine ⟨?_, Go.Bk.Below.drewN HB2.out _⟩; rw [HA.out]; clear HA HX HY HB1 HB2 p1' p2' p3' p4'; first | (simp_all [freshOf, beforeOf]; done) | (simp_all [freshOf, beforeOf]; rw [Bool.eq_iff_iff]; simp_all; done) | grind [freshOf, beforeOf])
          · have hB : decide ((n1 : Int) < Loop ∧ Loop ≤ n2) = false := by simpa using hL
            rw [hB, apartIns_tells HX.out HY.out, if_neg (by decide)] at HA
            clear hB
            by_cases hL1 : (n1 : Int) < Loop
            · have l1 : decide ((n1 : Int) < Loop) = true := by simp [hL1]
              have l2 : decide (Loop ≤ (n2 : Int)) = false := by simp; omega
              clear hL hL1
              go_wp2
              all_goals (go_ret; refine ⟨?_, Go.Bk.Below.drewN HB2.out _⟩; rw [HA.out]; clear HA HX HY HB1 HB2 p1' p2' p3' p4'; first | (simp_all [freshOf, beforeOf]; done) | (simp_all [freshOf, beforeOf]; rw [Bool.eq_iff_iff]; simp_all; done) | grind [freshOf, beforeOf])
            · have l1 : decide ((n1 : Int) < Loop) = false := by simp; omega
              clear hL hL1
              go_wp2
              all_goals (go_ret; refine ⟨?_, Go.Bk.Below.drewN HB2.out _⟩; rw [HA.out]; clear HA HX HY HB1 HB2 p1' p2' p3' p4'; first | (simp_all [freshOf, beforeOf]; done) | (simp_all [freshOf, beforeOf]; rw [Bool.eq_iff_iff]; simp_all; done) | grind [freshOf, beforeOf])
end Go.Proofs.Ytimlhjjdaggiiaa.ir
