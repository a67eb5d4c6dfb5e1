/- SnapBacks: lists of texts, cells and threads, read (printed by gen_sb2.py). -/
import Derived.Test.YtimlhjjdaggiiaaSbG
set_option linter.unusedVariables false
set_option linter.unusedSimpArgs false
namespace Go.Proofs.Ytimlhjjdaggiiaa.flat
open Go.Bk Go.RowKit

set_option maxRecDepth 100000 in
set_option maxHeartbeats 1000000 in
theorem someText_any {S0 : Nat → Prop} {w : World} {rb : Nat} {st : Option (List Int)} (h : Rdr S0 w rb st) :
    Calls Try.prog 105 #[.pointer (some ⟨rb, 0, none⟩), .func (.func 106) #[.pointer (some ⟨rb, 0, none⟩)] #[]] w (ItemPost (α := List ByteArray) (many fText) mkOne S0 rb w st) := by
  have HR := Lib.hid h
  have hlt := h.lt
  have HFR := Lib.hid (fun b hb => (h.free b hb).1)
  have hen := fun args w => Try.call106 args w
  clear h
  go_enter Try.func105, Try.ntmps105
  go_wp2_with fail
  refine (num_any HR.out).mono ?_
  rintro e w1 ⟨x1, st1, rfl, i1, hw1, hr1, hs1, hz⟩
  have HW1 := Lib.hid hw1; have HS1 := Lib.hid hs1; have HR1 := Lib.hid hr1
  have hsz1 := hw1.size
  cases st1 with
  | none =>
    have hx0 := hz rfl
    subst hx0
    obtain ⟨a, n, c, hb, -⟩ := hr1.at'
    have q0 := hb.cell (j := 0) rfl
    have q1 := hb.cell (j := 1) rfl
    have z1 : decide ((n : Int) < 0) = false := decide_f' (by omega)
    clear hw1 hr1 hs1 hz hb
    go_wp2_with fail
    refine wp_loop_once ?_
    go_wp2_with fail
    go_ret
    exact ⟨[.slice none 0 0], [], none, rfl, ⟨none, 0, rfl, Nat.le_refl _, fun _ => rfl, Arr.nil _ _ _⟩, HW1.out, HR1.out, HS1.out.many_of⟩
  | some ys =>
    obtain ⟨a, n, c, hb, h2⟩ := hr1.at'
    obtain ⟨k1, k2, k3, k4, k5⟩ := h2 ys rfl
    have HST := Lib.hid hs1.num_some
    have HB := Lib.hid hb
    have q0 := hb.cell (j := 0) rfl
    have q1 := hb.cell (j := 1) rfl
    have f1 := hb.frozen 1
    simp only [Option.isNone_some] at q1
    by_cases hbad : x1 < 0 ∨ (n : Int) < x1
    · have HST' : Hid (Step (many fText) st [] none) := by
        show Step _ _ _ _
        rw [HST.out]
        exact Step.many_bad one_text (by omega)
      clear hw1 hr1 hs1 hz hb h2 k1 k2 k3 k4 k5
      by_cases hneg : x1 < 0
      all_goals have hneg' := hneg
      all_goals simp only [hneg, false_or, true_or] at hbad
      all_goals go_wp2_with fail
      all_goals refine wp_loop_once ?_
      all_goals go_wp2_with fail
      all_goals go_ret
      all_goals exact ⟨[.slice none 0 0], [], none, rfl, ⟨none, 0, rfl, Nat.le_refl _, fun _ => rfl, Arr.nil _ _ _⟩, HW1.out.set (.inl rfl) _, HR1.out.bad, HST'.out⟩
    · obtain ⟨m, rfl⟩ : ∃ m : Nat, x1 = m := ⟨x1.toNat, by omega⟩
      have hm : m ≤ n := by omega
      have z1 : decide ((m : Int) < 0) = false := decide_f' (by omega)
      have z2 : decide ((n : Int) < (m : Int)) = false := decide_f' (by omega)
      have z3 : decide (n < m) = false := decide_f' (by omega)
      have h0 : Hid (someRel fText 9 S0 rb w ys m (.slice none 0 0) (.int .i64 0) w1) := ⟨0, [], some ys, _, rfl, Nat.zero_le _, rfl, rfl, Own.nil _ _ _ _, hw1, hr1, SomeTo.zero _ _ _⟩
      clear hw1 hr1 hs1 hz hb h2 k1 k2 k3 k5 hbad
      go_wp2_with fail
      go_loopw [6, 7] (someRel fText 9 S0 rb w ys m) (fun _ i _ => m - (intOf i).toNat)
      case atStart => exact h0.out
      case round =>
        obtain ⟨q, l, st', V, rfl, hq, rfl, hql, hown, hw', hr', hso⟩ := hrel
        have HL := Lib.hid hql; have HO := Lib.hid hown; have HW' := Lib.hid hw'; have HR' := Lib.hid hr'; have HSO := Lib.hid hso
        obtain ⟨a', n', c', hb', -⟩ := hr'.at'
        have q1' := hb'.cell (j := 1) rfl
        have hszr := hw'.size
        clear hown hw' hr' hso hb' h0
        cases st' with
        | none =>
          obtain ⟨ao, co, hv, hc⟩ := sep_done HO.out (by unfold maxLen; omega)
          have HC := Lib.hid hc
          have HD := Lib.hid (HSO.out.done (.inl rfl))
          simp only [Option.isNone_none] at q1'
          clear hc hql
          subst hv
          by_cases hqm : q < m
          all_goals go_wp2_with fail
          all_goals go_ret
          all_goals exact ⟨[.slice ao l.length co], l, none, rfl, HC.out, HW'.out, HR'.out, by rw [HST.out]; exact HD.out⟩
        | some zs =>
          simp only [Option.isNone_some] at q1'
          by_cases hqm : q < m
          · go_wp2_with fail
            refine (rtext_any HR'.out).mono ?_
            rintro e w2 ⟨cs, x, st2, he, hcs, hw2, hr2, hs2⟩
            have HS2 := Lib.hid (HSO.out.succ pf_text (by rw [HL.out]; exact hqm) hs2)
            have HO2 := Lib.hid (sep_call HO.out hw2 hlt)
            have HC2 := Lib.hid (sep_rep HO.out hszr hcs)
            have HW2 := Lib.hid (HW'.out.trans hw2); have HR2 := Lib.hid hr2
            have hsz2 := hw2.size
            obtain ⟨rfl, -⟩ := hcs
            simp only [mkAgg, mkOne, List.headD_cons] at he
            subst he
            clear hw2 hr2 hs2
            have HSEP : Hid (∀ b, Sep w w2 V b → b < w2.heap.size ∧ V.ownBlock ≠ some b) := fun b hb => ⟨hb.2.1, hb.2.2⟩
            go_wp2_with (at_builtin; go_loud (with_reducible refine Try.wp_appd31 rfl rfl rfl rfl rfl (by first | rfl | simp) HO2.out HC2.out (by with_unfolding_all exact HSEP.out) (by first | omega | (simp; omega)) (by first | omega | (simp; omega)) fun v' w' hown' hg' hst' => ?_))
            have HR0 : Hid (∀ i, i = .int .i64 (q + 1 : Nat) → someRel fText 9 S0 rb w ys m v' i w') := fun i hi =>
              ⟨q + 1, l ++ [x], st2, _, rfl, by omega, hi, by simp [HL.out], sep_grow hown' hg' hst', wrote_grow HW2.out (fun k hk => (HO2.out.lt k hk).1) hg', rdr_grow HR2.out hlt HFR.out (Nat.le_trans hszr hsz2) (fun k hk => (HO2.out.lt k hk).1) hg', HS2.out⟩
            clear hown' hg' hst'
            go_roundw
            case rel => exact HR0.out _ (by go_num)
            case measure => simp [intOf]; omega
          · obtain rfl : q = m := by omega
            obtain ⟨ao, co, hv, hc⟩ := sep_done HO.out (by unfold maxLen; omega)
            have HC := Lib.hid hc
            have HD := Lib.hid (HSO.out.done (.inr HL.out))
            subst hv
            go_wp2_with fail
            go_ret
            exact ⟨[.slice ao l.length co], l, some zs, rfl, HC.out, HW'.out, HR'.out, by rw [HST.out]; exact HD.out⟩


set_option maxRecDepth 100000 in
set_option maxHeartbeats 1000000 in
theorem someCell_any {S0 : Nat → Prop} {w : World} {rb : Nat} {st : Option (List Int)} (h : Rdr S0 w rb st) :
    Calls Try.prog 101 #[.pointer (some ⟨rb, 0, none⟩), .func (.func 102) #[.pointer (some ⟨rb, 0, none⟩)] #[]] w (ItemPost (α := List Api.Cell) (many fCell) mkOne S0 rb w st) := by
  have HR := Lib.hid h
  have hlt := h.lt
  have HFR := Lib.hid (fun b hb => (h.free b hb).1)
  have hen := fun args w => Try.call102 args w
  clear h
  go_enter Try.func101, Try.ntmps101
  go_wp2_with fail
  refine (num_any HR.out).mono ?_
  rintro e w1 ⟨x1, st1, rfl, i1, hw1, hr1, hs1, hz⟩
  have HW1 := Lib.hid hw1; have HS1 := Lib.hid hs1; have HR1 := Lib.hid hr1
  have hsz1 := hw1.size
  cases st1 with
  | none =>
    have hx0 := hz rfl
    subst hx0
    obtain ⟨a, n, c, hb, -⟩ := hr1.at'
    have q0 := hb.cell (j := 0) rfl
    have q1 := hb.cell (j := 1) rfl
    have z1 : decide ((n : Int) < 0) = false := decide_f' (by omega)
    clear hw1 hr1 hs1 hz hb
    go_wp2_with fail
    refine wp_loop_once ?_
    go_wp2_with fail
    go_ret
    exact ⟨[.slice none 0 0], [], none, rfl, ⟨none, 0, rfl, Nat.le_refl _, fun _ => rfl, Arr.nil _ _ _⟩, HW1.out, HR1.out, HS1.out.many_of⟩
  | some ys =>
    obtain ⟨a, n, c, hb, h2⟩ := hr1.at'
    obtain ⟨k1, k2, k3, k4, k5⟩ := h2 ys rfl
    have HST := Lib.hid hs1.num_some
    have HB := Lib.hid hb
    have q0 := hb.cell (j := 0) rfl
    have q1 := hb.cell (j := 1) rfl
    have f1 := hb.frozen 1
    simp only [Option.isNone_some] at q1
    by_cases hbad : x1 < 0 ∨ (n : Int) < x1
    · have HST' : Hid (Step (many fCell) st [] none) := by
        show Step _ _ _ _
        rw [HST.out]
        exact Step.many_bad one_cell (by omega)
      clear hw1 hr1 hs1 hz hb h2 k1 k2 k3 k4 k5
      by_cases hneg : x1 < 0
      all_goals have hneg' := hneg
      all_goals simp only [hneg, false_or, true_or] at hbad
      all_goals go_wp2_with fail
      all_goals refine wp_loop_once ?_
      all_goals go_wp2_with fail
      all_goals go_ret
      all_goals exact ⟨[.slice none 0 0], [], none, rfl, ⟨none, 0, rfl, Nat.le_refl _, fun _ => rfl, Arr.nil _ _ _⟩, HW1.out.set (.inl rfl) _, HR1.out.bad, HST'.out⟩
    · obtain ⟨m, rfl⟩ : ∃ m : Nat, x1 = m := ⟨x1.toNat, by omega⟩
      have hm : m ≤ n := by omega
      have z1 : decide ((m : Int) < 0) = false := decide_f' (by omega)
      have z2 : decide ((n : Int) < (m : Int)) = false := decide_f' (by omega)
      have z3 : decide (n < m) = false := decide_f' (by omega)
      have h0 : Hid (someRel fCell 130 S0 rb w ys m (.slice none 0 0) (.int .i64 0) w1) := ⟨0, [], some ys, _, rfl, Nat.zero_le _, rfl, rfl, Own.nil _ _ _ _, hw1, hr1, SomeTo.zero _ _ _⟩
      clear hw1 hr1 hs1 hz hb h2 k1 k2 k3 k5 hbad
      go_wp2_with fail
      go_loopw [6, 7] (someRel fCell 130 S0 rb w ys m) (fun _ i _ => m - (intOf i).toNat)
      case atStart => exact h0.out
      case round =>
        obtain ⟨q, l, st', V, rfl, hq, rfl, hql, hown, hw', hr', hso⟩ := hrel
        have HL := Lib.hid hql; have HO := Lib.hid hown; have HW' := Lib.hid hw'; have HR' := Lib.hid hr'; have HSO := Lib.hid hso
        obtain ⟨a', n', c', hb', -⟩ := hr'.at'
        have q1' := hb'.cell (j := 1) rfl
        have hszr := hw'.size
        clear hown hw' hr' hso hb' h0
        cases st' with
        | none =>
          obtain ⟨ao, co, hv, hc⟩ := sep_done HO.out (by unfold maxLen; omega)
          have HC := Lib.hid hc
          have HD := Lib.hid (HSO.out.done (.inl rfl))
          simp only [Option.isNone_none] at q1'
          clear hc hql
          subst hv
          by_cases hqm : q < m
          all_goals go_wp2_with fail
          all_goals go_ret
          all_goals exact ⟨[.slice ao l.length co], l, none, rfl, HC.out, HW'.out, HR'.out, by rw [HST.out]; exact HD.out⟩
        | some zs =>
          simp only [Option.isNone_some] at q1'
          by_cases hqm : q < m
          · go_wp2_with fail
            refine (rcell_any HR'.out).mono ?_
            rintro e w2 ⟨cs, x, st2, he, hcs, hw2, hr2, hs2⟩
            have HS2 := Lib.hid (HSO.out.succ pf_cell (by rw [HL.out]; exact hqm) hs2)
            have HO2 := Lib.hid (sep_call HO.out hw2 hlt)
            have HC2 := Lib.hid (sep_rep HO.out hszr hcs)
            have HW2 := Lib.hid (HW'.out.trans hw2); have HR2 := Lib.hid hr2
            have hsz2 := hw2.size
            obtain ⟨a6, c6, a7, c7, rfl, -⟩ := api_Cell_cells_eq hcs
            simp only [mkAgg, mkOne, List.headD_cons] at he
            subst he
            clear hw2 hr2 hs2
            have HSEP : Hid (∀ b, Sep w w2 V b → b < w2.heap.size ∧ V.ownBlock ≠ some b) := fun b hb => ⟨hb.2.1, hb.2.2⟩
            go_wp2_with (at_builtin; go_loud (with_reducible refine Try.wp_appd29 rfl rfl rfl rfl rfl (by first | rfl | simp) HO2.out HC2.out (by with_unfolding_all exact HSEP.out) (by first | omega | (simp; omega)) (by first | omega | (simp; omega)) fun v' w' hown' hg' hst' => ?_))
            have HR0 : Hid (∀ i, i = .int .i64 (q + 1 : Nat) → someRel fCell 130 S0 rb w ys m v' i w') := fun i hi =>
              ⟨q + 1, l ++ [x], st2, _, rfl, by omega, hi, by simp [HL.out], sep_grow hown' hg' hst', wrote_grow HW2.out (fun k hk => (HO2.out.lt k hk).1) hg', rdr_grow HR2.out hlt HFR.out (Nat.le_trans hszr hsz2) (fun k hk => (HO2.out.lt k hk).1) hg', HS2.out⟩
            clear hown' hg' hst'
            go_roundw
            case rel => exact HR0.out _ (by go_num)
            case measure => simp [intOf]; omega
          · obtain rfl : q = m := by omega
            obtain ⟨ao, co, hv, hc⟩ := sep_done HO.out (by unfold maxLen; omega)
            have HC := Lib.hid hc
            have HD := Lib.hid (HSO.out.done (.inr HL.out))
            subst hv
            go_wp2_with fail
            go_ret
            exact ⟨[.slice ao l.length co], l, some zs, rfl, HC.out, HW'.out, HR'.out, by rw [HST.out]; exact HD.out⟩


set_option maxRecDepth 100000 in
set_option maxHeartbeats 1000000 in
theorem someThread_any {S0 : Nat → Prop} {w : World} {rb : Nat} {st : Option (List Int)} (h : Rdr S0 w rb st) :
    Calls Try.prog 107 #[.pointer (some ⟨rb, 0, none⟩), .func (.func 108) #[.pointer (some ⟨rb, 0, none⟩)] #[]] w (ItemPost (α := List Api.Thread) (many fThread) mkOne S0 rb w st) := by
  have HR := Lib.hid h
  have hlt := h.lt
  have HFR := Lib.hid (fun b hb => (h.free b hb).1)
  have hen := fun args w => Try.call108 args w
  clear h
  go_enter Try.func107, Try.ntmps107
  go_wp2_with fail
  refine (num_any HR.out).mono ?_
  rintro e w1 ⟨x1, st1, rfl, i1, hw1, hr1, hs1, hz⟩
  have HW1 := Lib.hid hw1; have HS1 := Lib.hid hs1; have HR1 := Lib.hid hr1
  have hsz1 := hw1.size
  cases st1 with
  | none =>
    have hx0 := hz rfl
    subst hx0
    obtain ⟨a, n, c, hb, -⟩ := hr1.at'
    have q0 := hb.cell (j := 0) rfl
    have q1 := hb.cell (j := 1) rfl
    have z1 : decide ((n : Int) < 0) = false := decide_f' (by omega)
    clear hw1 hr1 hs1 hz hb
    go_wp2_with fail
    refine wp_loop_once ?_
    go_wp2_with fail
    go_ret
    exact ⟨[.slice none 0 0], [], none, rfl, ⟨none, 0, rfl, Nat.le_refl _, fun _ => rfl, Arr.nil _ _ _⟩, HW1.out, HR1.out, HS1.out.many_of⟩
  | some ys =>
    obtain ⟨a, n, c, hb, h2⟩ := hr1.at'
    obtain ⟨k1, k2, k3, k4, k5⟩ := h2 ys rfl
    have HST := Lib.hid hs1.num_some
    have HB := Lib.hid hb
    have q0 := hb.cell (j := 0) rfl
    have q1 := hb.cell (j := 1) rfl
    have f1 := hb.frozen 1
    simp only [Option.isNone_some] at q1
    by_cases hbad : x1 < 0 ∨ (n : Int) < x1
    · have HST' : Hid (Step (many fThread) st [] none) := by
        show Step _ _ _ _
        rw [HST.out]
        exact Step.many_bad one_thread (by omega)
      clear hw1 hr1 hs1 hz hb h2 k1 k2 k3 k4 k5
      by_cases hneg : x1 < 0
      all_goals have hneg' := hneg
      all_goals simp only [hneg, false_or, true_or] at hbad
      all_goals go_wp2_with fail
      all_goals refine wp_loop_once ?_
      all_goals go_wp2_with fail
      all_goals go_ret
      all_goals exact ⟨[.slice none 0 0], [], none, rfl, ⟨none, 0, rfl, Nat.le_refl _, fun _ => rfl, Arr.nil _ _ _⟩, HW1.out.set (.inl rfl) _, HR1.out.bad, HST'.out⟩
    · obtain ⟨m, rfl⟩ : ∃ m : Nat, x1 = m := ⟨x1.toNat, by omega⟩
      have hm : m ≤ n := by omega
      have z1 : decide ((m : Int) < 0) = false := decide_f' (by omega)
      have z2 : decide ((n : Int) < (m : Int)) = false := decide_f' (by omega)
      have z3 : decide (n < m) = false := decide_f' (by omega)
      have h0 : Hid (someRel fThread 141 S0 rb w ys m (.slice none 0 0) (.int .i64 0) w1) := ⟨0, [], some ys, _, rfl, Nat.zero_le _, rfl, rfl, Own.nil _ _ _ _, hw1, hr1, SomeTo.zero _ _ _⟩
      clear hw1 hr1 hs1 hz hb h2 k1 k2 k3 k5 hbad
      go_wp2_with fail
      go_loopw [6, 7] (someRel fThread 141 S0 rb w ys m) (fun _ i _ => m - (intOf i).toNat)
      case atStart => exact h0.out
      case round =>
        obtain ⟨q, l, st', V, rfl, hq, rfl, hql, hown, hw', hr', hso⟩ := hrel
        have HL := Lib.hid hql; have HO := Lib.hid hown; have HW' := Lib.hid hw'; have HR' := Lib.hid hr'; have HSO := Lib.hid hso
        obtain ⟨a', n', c', hb', -⟩ := hr'.at'
        have q1' := hb'.cell (j := 1) rfl
        have hszr := hw'.size
        clear hown hw' hr' hso hb' h0
        cases st' with
        | none =>
          obtain ⟨ao, co, hv, hc⟩ := sep_done HO.out (by unfold maxLen; omega)
          have HC := Lib.hid hc
          have HD := Lib.hid (HSO.out.done (.inl rfl))
          simp only [Option.isNone_none] at q1'
          clear hc hql
          subst hv
          by_cases hqm : q < m
          all_goals go_wp2_with fail
          all_goals go_ret
          all_goals exact ⟨[.slice ao l.length co], l, none, rfl, HC.out, HW'.out, HR'.out, by rw [HST.out]; exact HD.out⟩
        | some zs =>
          simp only [Option.isNone_some] at q1'
          by_cases hqm : q < m
          · go_wp2_with fail
            refine (rthread_any HR'.out).mono ?_
            rintro e w2 ⟨cs, x, st2, he, hcs, hw2, hr2, hs2⟩
            have HS2 := Lib.hid (HSO.out.succ pf_thread (by rw [HL.out]; exact hqm) hs2)
            have HO2 := Lib.hid (sep_call HO.out hw2 hlt)
            have HC2 := Lib.hid (sep_rep HO.out hszr hcs)
            have HW2 := Lib.hid (HW'.out.trans hw2); have HR2 := Lib.hid hr2
            have hsz2 := hw2.size
            obtain ⟨a6, c6, rfl, -⟩ := api_Thread_cells_eq hcs
            simp only [mkAgg, mkOne, List.headD_cons] at he
            subst he
            clear hw2 hr2 hs2
            have HSEP : Hid (∀ b, Sep w w2 V b → b < w2.heap.size ∧ V.ownBlock ≠ some b) := fun b hb => ⟨hb.2.1, hb.2.2⟩
            go_wp2_with (at_builtin; go_loud (with_reducible refine Try.wp_appd32 rfl rfl rfl rfl rfl (by first | rfl | simp) HO2.out HC2.out (by with_unfolding_all exact HSEP.out) (by first | omega | (simp; omega)) (by first | omega | (simp; omega)) fun v' w' hown' hg' hst' => ?_))
            have HR0 : Hid (∀ i, i = .int .i64 (q + 1 : Nat) → someRel fThread 141 S0 rb w ys m v' i w') := fun i hi =>
              ⟨q + 1, l ++ [x], st2, _, rfl, by omega, hi, by simp [HL.out], sep_grow hown' hg' hst', wrote_grow HW2.out (fun k hk => (HO2.out.lt k hk).1) hg', rdr_grow HR2.out hlt HFR.out (Nat.le_trans hszr hsz2) (fun k hk => (HO2.out.lt k hk).1) hg', HS2.out⟩
            clear hown' hg' hst'
            go_roundw
            case rel => exact HR0.out _ (by go_num)
            case measure => simp [intOf]; omega
          · obtain rfl : q = m := by omega
            obtain ⟨ao, co, hv, hc⟩ := sep_done HO.out (by unfold maxLen; omega)
            have HC := Lib.hid hc
            have HD := Lib.hid (HSO.out.done (.inr HL.out))
            subst hv
            go_wp2_with fail
            go_ret
            exact ⟨[.slice ao l.length co], l, some zs, rfl, HC.out, HW'.out, HR'.out, by rw [HST.out]; exact HD.out⟩
end Go.Proofs.Ytimlhjjdaggiiaa.flat
