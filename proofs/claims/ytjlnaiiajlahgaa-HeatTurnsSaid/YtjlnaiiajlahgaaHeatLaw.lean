/- The law HeatTurns, walked: the two answers are one. -/
import Derived.Test.YtjlnaiiajlahgaaHeatG
set_option linter.unusedVariables false
set_option linter.unusedSimpArgs false
namespace Go.Proofs.Ytjlnaiiajlahgaa.heat
open Go.Bk Go.RowKit Go.Maps

set_option maxRecDepth 100000 in
set_option maxHeartbeats 4000000 in
theorem heatTurns_walk (W : World) (args : Array Value) (h : ArgsRead Try.prog W [3, 46] args.toList) :
    Calls Try.prog 5 args W fun e W' => e = .returned (.bool true) ∧ RowKit.Below W.heap.size W W' := by
  obtain ⟨v0, v1, rfl, r0, r1⟩ := h.two
  obtain ⟨hot, rfl, ih⟩ := r0.int Try.underlying3
  obtain ⟨a, l0, c, rfl, hc, hnil, h0⟩ := r1.slice Try.underlying46 opens_calls
  have hcm := r1.cap Try.underlying46
  clear r0 r1 h
  have HHE : Hid (∀ w, Calls Try.prog 23 #[] w fun e w' => e = .returned (.bool true) ∧ RowKit.Below w.heap.size w w') := heated_any
  obtain ⟨n0, hn0⟩ : ∃ n0, n0 = l0.length := ⟨_, rfl⟩
  rw [← hn0] at hc ⊢
  by_cases hr : hot < 1 ∨ 1000 < hot
  · have HNB : Hid (∀ w, Calls Try.prog 22 #[.int .i64 hot] w fun e w' => e = .returned (.tuple #[.pointer none, .int .i64 1]) ∧ w = w') := fun w => new_bad w hr
    have hd : decide (hot < 1) = true ∨ (decide (hot < 1) = false ∧ decide (1000 < hot) = true) := by simp only [decide_eq_true_eq, decide_eq_false_iff_not]; omega
    clear hr h0 hn0 hnil hcm
    rcases hd with d1 | ⟨d1, d2⟩
    all_goals
      go_enter Try.func5, Try.ntmps5
      go_wp2_with (first
        | (go_at_call 22; (with_reducible refine (HNB.out _).mono ?_); rintro e w' ⟨rfl, rfl⟩)
        | (go_at_call 23; (with_reducible refine (HHE.out _).mono ?_); rintro e w' ⟨rfl, hb⟩; have HB := Lib.hid hb; clear hb))
      go_ret
      exact ⟨rfl, HB.out⟩
  have hh1 : 1 ≤ hot := by omega
  have hh2 : hot ≤ 1000 := by omega
  have d1 : decide (hot < 1) = false := decide_eq_false (by omega)
  have d2 : decide (1000 < hot) = false := decide_eq_false (by omega)
  obtain ⟨m, hm⟩ : ∃ m : Nat, (m : Int) = (if (300 : Int) < (n0 : Int) then (300 : Int) else (n0 : Int)) := ⟨if 300 < n0 then 300 else n0, by split <;> split <;> omega⟩
  have hmn : m ≤ n0 ∧ m ≤ 300 := by split at hm <;> omega
  have hsl : ∀ w : World, (Instr.slice 46 (.slice a n0 c) none (some (.int .i64 (m : Int))) none).run Try.prog w = .ok (.slice a m c) w := fun w => run_slice_head (z := 3) Try.underlying46 (by kernel_rfl) a n0 c m (by omega) w
  have HMIN := Lib.hid hm.symm
  obtain ⟨cs, hcs⟩ : ∃ cs, cs = l0.take m := ⟨_, rfl⟩
  have hA := arr_take h0 m
  rw [← hcs] at hA
  have HCN : Hid (cs.length = m) := by show _ = _; rw [hcs, List.length_take, ← hn0]; omega
  have HA : Hid (∀ w', RowKit.Below W.heap.size W w' → Arr (· < W.heap.size) w' a cs) := fun w' hb => hA.keep (fun b hb' => hb.block b hb')
  have HNO : Hid (∀ w, Calls Try.prog 22 #[.int .i64 hot] w fun e w' => ∃ gH gm, e = .returned (.tuple #[.pointer (some ⟨gH, 0, none⟩), .int .i64 0]) ∧ HeatAt w' w.heap.size gH gm 0 hot [] ∧ RowKit.Below w.heap.size w w') := fun w => new_ok w hh1 hh2
  have HOT : Hid (1 ≤ hot ∧ hot ≤ 1000) := ⟨hh1, hh2⟩
  have hm3 := hmn.2
  clear hr hh1 hh2 h0 hn0 hcs hA hcm ih hnil hm
  go_enter Try.func5, Try.ntmps5
  go_wp2_with (first
    | (go_at_call 22; (with_reducible refine (HNO.out _).mono ?_); rintro e w1 ⟨gH, gm, rfl, hh, hb⟩; have HHT := Lib.hid hh; have HB1 := Lib.hid hb; clear hh hb)
    | (with_reducible refine wp_min_int rfl rfl rfl rfl HMIN.out ?_))
  clear hsl
  have HS0 : Hid (FSt W w1 w1 gH gm 0 hot (.slice none 0 0) ([], [])) := ⟨HHT.out, Own.nil _ _ _ _, HB1.out, Nat.le_refl _, ⟨HHT.out.box.lt, HHT.out.map.lt⟩, HB1.out.size⟩
  go_loopw [7, 47] (fun v7 v47 w' => fRel W w1 hot cs m gH gm v7 v47 w') (fun _ i _ => m - (intOf i).toNat)
  case atStart => exact ⟨0, Nat.zero_le _, rfl, HS0.out⟩
  case round =>
  obtain ⟨k, hk, rfl, hst⟩ := hrel
  clear HS0 HHT HB1
  by_cases hlt : k < m
  case pos =>
    obtain ⟨x, hx⟩ : ∃ x, cs[k]? = some x := ⟨_, List.getElem?_eq_getElem (by rw [HCN.out]; exact hlt)⟩
    obtain ⟨fn, at', kd⟩ := x
    obtain ⟨b1, o1, rfl, -, p0, p1, p2, i0, i1, i2⟩ := int3_elem (HA.out _ hst.below) hx
    dsimp only at p0 p1 p2 i0 i1 i2
    have hnext := runTo_succ (hot := hot) hx
    have hol := runTo_len (hot := hot) (cs := cs) (k := k) (by rw [HCN.out]; omega)
    clear hx
    obtain ⟨⟨L, O⟩, hLO⟩ : ∃ r, r = runTo hot cs k := ⟨_, rfl⟩
    rw [← hLO] at hst hnext hol
    dsimp only at hnext hol
    clear hLO
    have hinv : Inv L := hst.heat.inv
    have HEND : Hid (∀ v7' v47' w' l t, v47' = .int .i64 ((k + 1 : Nat) : Int) → stepL hot L fn at' kd = (l, t) → FSt W w1 w' gH gm (k + 1) hot v7' (l, O ++ [t]) → fRel W w1 hot cs m gH gm v7' v47' w') := by
      intro v7' v47' w' l t e0 e hs
      refine ⟨k + 1, by omega, e0, ?_⟩
      rw [hnext, e]
      exact hs
    have HF : Hid (FSt W w1 (wr.alloc (.cells #[.int .i64 fn, .int .i64 at', .int .i64 kd] 51)) gH gm k hot u7 (L, O)) := hst.keep ((RowKit.Below.refl _ _).alloc (Nat.le_refl _) _)
    have hol3 : O.length ≤ 300 := by omega
    clear hnext hst
    have HPUSH : Hid (∀ w3 l', HeatAt w3 W.heap.size gH gm (k + 1) hot l' → (wr.alloc (.cells #[.int .i64 fn, .int .i64 at', .int .i64 kd] 51)).grownBy w3 (some gm) → FSt W w1 w3 gH gm (k + 1) hot u7 (l', O) ∧ Go.Bk.Own (fun _ => False) w3 w1.heap.size 3 u7 O ∧ w1.heap.size ≤ w3.heap.size) := by
      intro w3 l' h1 h2
      have h3 := HF.out.call h1 h2
      exact ⟨h3, h3.told, h3.size⟩
    by_cases hkd : kd = 0
    · have d0 : (kd != 0) = false := by simp [hkd]
      obtain ⟨⟨l', t⟩, hT⟩ : ∃ r, turnL hot L fn at' = r := ⟨_, rfl⟩
      have htt := turn_told (fn := fn) (at' := at') HOT.out.1 HOT.out.2 hinv
      rw [hT] at htt
      dsimp only at htt
      have HT : Hid (stepL hot L fn at' kd = (l', t)) := by show _ = _; rw [step_turn hkd, hT]
      rcases htt with ht | ht | ht
      · subst ht
        have HTC : Hid (Calls Try.prog 25 #[.pointer (some ⟨gH, 0, none⟩), .int .i64 fn, .int .i64 at'] (wr.alloc (.cells #[.int .i64 fn, .int .i64 at', .int .i64 kd] 51)) fun e w' => e = .returned (.tuple #[.int .i64 0, .int .i64 1]) ∧ HeatAt w' W.heap.size gH gm (k + 1) hot l' ∧ (wr.alloc (.cells #[.int .i64 fn, .int .i64 at', .int .i64 kd] 51)).grownBy w' (some gm)) := turn_err HF.out.heat HOT.out.1 HOT.out.2 (by omega) i0 i1 hT (by omega)
        have hi5 : I64 (-1) := by unfold I64; omega
        clear hT hinv hkd
        go_wp2_with (first
          | (go_at_call 25; (with_reducible refine HTC.out.mono ?_); rintro e w3 ⟨rfl, hh3, hg3⟩; (obtain ⟨hs3, ho3, hz3⟩ := HPUSH.out _ _ hh3 hg3); have HS3 := Lib.hid hs3; have HO3 := Lib.hid ho3; clear hh3 hg3 hs3 ho3)
          | (at_builtin; (at_builtin; with_reducible refine Try.wp_app23 rfl rfl rfl rfl rfl (by first | rfl | simp) (HO3.out) (int_cells hi5 _ _) (fun _ h => h.elim) (by omega) (by exact hz3) fun v' w' hown' hg' => ?_); have HQ := Lib.hid (HS3.out.push hown' hg'); clear hown' hg'))
        go_roundw
        case rel => exact HEND.out _ _ _ _ _ (by go_num) HT.out HQ.out
        case measure => simp [intOf]; omega
      · subst ht
        have HTC : Hid (Calls Try.prog 25 #[.pointer (some ⟨gH, 0, none⟩), .int .i64 fn, .int .i64 at'] (wr.alloc (.cells #[.int .i64 fn, .int .i64 at', .int .i64 kd] 51)) fun e w' => e = .returned (.tuple #[.int .i64 0, .int .i64 2]) ∧ HeatAt w' W.heap.size gH gm (k + 1) hot l' ∧ (wr.alloc (.cells #[.int .i64 fn, .int .i64 at', .int .i64 kd] 51)).grownBy w' (some gm)) := turn_err HF.out.heat HOT.out.1 HOT.out.2 (by omega) i0 i1 hT (by omega)
        have hi5 : I64 (-2) := by unfold I64; omega
        clear hT hinv hkd
        go_wp2_with (first
          | (go_at_call 25; (with_reducible refine HTC.out.mono ?_); rintro e w3 ⟨rfl, hh3, hg3⟩; (obtain ⟨hs3, ho3, hz3⟩ := HPUSH.out _ _ hh3 hg3); have HS3 := Lib.hid hs3; have HO3 := Lib.hid ho3; clear hh3 hg3 hs3 ho3)
          | (at_builtin; (at_builtin; with_reducible refine Try.wp_app23 rfl rfl rfl rfl rfl (by first | rfl | simp) (HO3.out) (int_cells hi5 _ _) (fun _ h => h.elim) (by omega) (by exact hz3) fun v' w' hown' hg' => ?_); have HQ := Lib.hid (HS3.out.push hown' hg'); clear hown' hg'))
        go_roundw
        case rel => exact HEND.out _ _ _ _ _ (by go_num) HT.out HQ.out
        case measure => simp [intOf]; omega
      · have HTC : Hid (Calls Try.prog 25 #[.pointer (some ⟨gH, 0, none⟩), .int .i64 fn, .int .i64 at'] (wr.alloc (.cells #[.int .i64 fn, .int .i64 at', .int .i64 kd] 51)) fun e w' => e = .returned (.tuple #[.int .i64 t, .int .i64 0]) ∧ HeatAt w' W.heap.size gH gm (k + 1) hot l' ∧ (wr.alloc (.cells #[.int .i64 fn, .int .i64 at', .int .i64 kd] 51)).grownBy w' (some gm)) := turn_ok HF.out.heat HOT.out.1 HOT.out.2 (by omega) i0 i1 hT ht.1
        have hi5 : I64 t := by unfold I64; omega
        clear hT hinv hkd ht
        go_wp2_with (first
          | (go_at_call 25; (with_reducible refine HTC.out.mono ?_); rintro e w3 ⟨rfl, hh3, hg3⟩; (obtain ⟨hs3, ho3, hz3⟩ := HPUSH.out _ _ hh3 hg3); have HS3 := Lib.hid hs3; have HO3 := Lib.hid ho3; clear hh3 hg3 hs3 ho3)
          | (at_builtin; (at_builtin; with_reducible refine Try.wp_app23 rfl rfl rfl rfl rfl (by first | rfl | simp) (HO3.out) (int_cells hi5 _ _) (fun _ h => h.elim) (by omega) (by exact hz3) fun v' w' hown' hg' => ?_); have HQ := Lib.hid (HS3.out.push hown' hg'); clear hown' hg'))
        go_roundw
        case rel => exact HEND.out _ _ _ _ _ (by go_num) HT.out HQ.out
        case measure => simp [intOf]; omega
    · have d0 : (kd != 0) = true := by simp [hkd]
      obtain ⟨g, hg⟩ : ∃ g : Bool, (kd == 1) = g := ⟨_, rfl⟩
      obtain ⟨⟨l', t⟩, hT⟩ : ∃ r, takenL L fn at' g = r := ⟨_, rfl⟩
      have htt := taken_told (l := L) (fn := fn) (at' := at') (g := g)
      rw [hT] at htt
      dsimp only at htt
      have HT : Hid (stepL hot L fn at' kd = (l', t)) := by
        show _ = _
        rw [step_taken hkd, ← hT, ← hg]
        rfl
      have HTC := Lib.hid (taken_ok g HF.out.heat (by omega) i0 i1 hT)
      have hi5 : I64 t := by unfold I64; omega
      clear hT hinv hkd htt
      go_wp2_with (first
        | (go_at_call 24; (with_reducible refine HTC.out.mono ?_); rintro e w3 ⟨rfl, hh3, hg3⟩; (obtain ⟨hs3, ho3, hz3⟩ := HPUSH.out _ _ hh3 hg3); have HS3 := Lib.hid hs3; have HO3 := Lib.hid ho3; clear hh3 hg3 hs3 ho3)
        | (at_builtin; (at_builtin; with_reducible refine Try.wp_app23 rfl rfl rfl rfl rfl (by first | rfl | simp) (HO3.out) (int_cells hi5 _ _) (fun _ h => h.elim) (by omega) (by exact hz3) fun v' w' hown' hg' => ?_); have HQ := Lib.hid (HS3.out.push hown' hg'); clear hown' hg'))
      go_roundw
      case rel => exact HEND.out _ _ _ _ _ (by go_num) HT.out HQ.out
      case measure => simp [intOf]; omega
  case neg =>
    have hkm : k = m := by omega
    subst hkm
    obtain ⟨w5, hw5⟩ : ∃ w5 : World, w5 = wr := ⟨_, rfl⟩
    rw [← hw5] at hst ⊢
    have HF := Lib.hid hst
    have HHD := Lib.hid (heads_any (c := c) HCN.out (HA.out _ hst.below) (fun b hb => Nat.lt_of_lt_of_le hb hst.below.size) HOT.out.1 HOT.out.2 hm3)
    have hol := runTo_len (hot := hot) (cs := cs) (k := k) (by rw [HCN.out]; omega)
    obtain ⟨⟨L, O⟩, hLO⟩ : ∃ r, r = runTo hot cs k := ⟨_, rfl⟩
    rw [← hLO] at HF HHD hol
    dsimp only at hol
    clear hLO hst hw5
    obtain ⟨a7, c7, rfl, -, -, har7⟩ := HF.out.told.arr
    dsimp only at har7
    rw [hol] at HF ⊢
    have HOL := Lib.hid hol
    have HA7 : Hid (∀ w', RowKit.Below w5.heap.size w5 w' → Arr (fun b => False ∨ w1.heap.size ≤ b ∧ b < w5.heap.size) w' a7 O) := fun w' hb => har7.keep (fun b hb' => hb.block b (by rcases hb' with h | h; exact h.elim; exact h.2))
    obtain ⟨q, hq⟩ : ∃ q, q = L.length := ⟨_, rfl⟩
    have HQL := Lib.hid hq.symm
    clear har7 hq hol hlt hk
    go_wp2_with (go_at_call 26; (with_reducible refine HHD.out.mono ?_); rintro e w6 ⟨v6, v12, rfl, hs6⟩; have HS6 := Lib.hid hs6; clear hs6)
    obtain ⟨a12, c12, rfl, -, -, har12⟩ := HS6.out.told.arr
    obtain ⟨a13, c13, rfl, -, -, har13⟩ := HS6.out.heads.arr
    dsimp only at har12 har13 HS6 ⊢
    rw [HOL.out] at HS6 ⊢
    rw [HQL.out] at HS6 ⊢
    have HF6 := Lib.hid (HF.out.keep HS6.out.below)
    have HEQ : Hid (∀ w', RowKit.Below w6.heap.size w6 w' → Calls Try.prog 27 #[.slice a7 k c7, .slice a12 k c12] w' fun e w'' => e = .returned (.bool true) ∧ w' = w'') := fun w' hb =>
      eqi_true HOL.out (HA7.out w' (HS6.out.below.trans (hb.mono HS6.out.below.size))) (har12.keep (fun b hb' => hb.block b (by rcases hb' with h | h; exact h.elim; exact h.2)))
    have HA13 : Hid (∀ w', RowKit.Below w6.heap.size w6 w' → Arr (fun b => False ∨ w5.heap.size ≤ b ∧ b < w6.heap.size) w' a13 L) := fun w' hb => har13.keep (fun b hb' => hb.block b (by rcases hb' with h | h; exact h.elim; exact h.2))
    have HAL : Hid (∀ w', RowKit.Below w6.heap.size w6 w' → Calls Try.prog 29 #[.pointer (some ⟨gH, 0, none⟩)] w' fun e w'' => ∃ a8 c8, e = .returned (.slice a8 q c8) ∧ RowKit.Below w'.heap.size w' w'' ∧ Calls Try.prog 28 #[.slice a8 q c8, .slice a13 q c13] w'' fun e w3 => e = .returned (.bool true) ∧ RowKit.Below w''.heap.size w'' w3) := fun w' hb =>
      (all_any (HF6.out.heat.below hb)).mono fun e w'' ⟨v, he, ho, hb2⟩ => by
        obtain ⟨a8, c8, rfl, -, -, har8⟩ := ho.arr
        rw [HQL.out] at he
        refine ⟨a8, c8, he, hb2, ?_⟩
        refine eqh_true HQL.out har8 (HA13.out w'' (hb.trans (hb2.mono hb.size))) (fun b hb' => ?_) (fun b hb' => ?_)
        · rcases hb' with h | h
          · exact h.elim
          · exact h.2
        · rcases hb' with h | h
          · exact h.elim
          · have := hb.size; have := hb2.size; omega
    clear har12 har13
    have HBW := Lib.hid HF6.out.below
    refine (HHE.out w6).mono ?_
    rintro e w7 ⟨rfl, hb7⟩
    have HB7 := Lib.hid hb7
    clear hb7
    go_wp2_with (first
      | (go_at_call 27; (with_reducible refine (HEQ.out _ HB7.out).mono ?_); rintro e w' ⟨rfl, rfl⟩)
      | (go_at_call 29; (with_reducible refine (HAL.out _ HB7.out).mono ?_); rintro e w8 ⟨a8, c8, rfl, hb8, hceq⟩; have HB8 := Lib.hid hb8; have HC8 := Lib.hid hceq; clear hb8 hceq)
      | (go_at_call 28; (with_reducible refine HC8.out.mono ?_); rintro e w9 ⟨rfl, hb9⟩; have HB9 := Lib.hid hb9; clear hb9))
    go_ret
    have h1 := HBW.out
    have h2 := h1.trans (HB7.out.mono h1.size)
    have h3 := h2.trans (HB8.out.mono h2.size)
    exact ⟨rfl, h3.trans (HB9.out.mono h3.size)⟩
end Go.Proofs.Ytjlnaiiajlahgaa.heat
