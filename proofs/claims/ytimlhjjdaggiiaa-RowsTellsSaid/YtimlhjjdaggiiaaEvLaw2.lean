/- The law RowsTells, walked, a way of it. -/
import Derived.Test.YtimlhjjdaggiiaaEvLaw1
set_option linter.unusedVariables false
set_option linter.unusedSimpArgs false
namespace Go.Proofs.Ytimlhjjdaggiiaa
open Go.Bk Go.RowKit

set_option maxRecDepth 100000 in
set_option maxHeartbeats 4000000 in
theorem rowsTells_ok {W : World} {a : Option Addr} {c : Nat} {l : List Api.Event} {kind lo hi n : Int} (h0 : Arr (fun x => x < W.heap.size) W a l) (hl : ¬ 200 < l.length) (hn0 : 0 ≤ n) (hn8 : n ≤ 8) :
    Calls Try.prog 5 #[.slice a l.length c, .int .i64 kind, .int .i64 lo, .int .i64 hi, .int .i64 n] W fun e W' => e = .returned (.bool true) ∧ Below W.heap.size W W' := by
  have hm := h0.small
  go_enter Try.func5, Try.ntmps5
  go_wp2_with fail
  refine (of_any h0 (fun _ h => h)).mono ?_
  rintro e w1 ⟨⟨a1, c1, rfl, k1, -⟩, hb1⟩
  have H1 := Lib.hid hb1; have K1 := Lib.hid k1
  have h1 := h0.keep (w' := w1) (keep_of_below hb1)
  clear k1 hb1
  go_wp2_with fail
  refine (between_any' h1 (fun b hb => Nat.lt_of_lt_of_le hb H1.out.size)).mono ?_
  rintro e w2 ⟨⟨a2, c2, rfl, k2, -⟩, hb2⟩
  have H2 := Lib.hid (mild_grow.trans H1.out hb2); have K1 := Lib.hid (K1.out.later hb2); have K2 := Lib.hid k2
  have h2 := h0.keep (w' := w2) (keep_of_below H2.out)
  have hs12 := hb2.size
  clear k2 hb2 h1 H1
  go_wp2_with fail
  refine (count_any h2 (fun b hb => Nat.lt_of_lt_of_le hb H2.out.size)).mono ?_
  rintro e w3 ⟨⟨a3, c3, rfl, k3, -⟩, hb3⟩
  have H3 := Lib.hid (mild_grow.trans H2.out hb3); have K1 := Lib.hid (K1.out.still (fun b hb => Nat.lt_of_lt_of_le hb.2 hs12) hb3); have K2 := Lib.hid (K2.out.later hb3); have K3 := Lib.hid k3
  have h3 := h0.keep (w' := w3) (keep_of_below H3.out)
  have hs23 := hb3.size
  clear k3 hb3 h2 H2
  go_wp2_with fail
  refine (threads_any h3 (fun b hb => Nat.lt_of_lt_of_le hb H3.out.size)).mono ?_
  rintro e w4 ⟨⟨a4, c4, rfl, k4, -⟩, hb4⟩
  have H4 := Lib.hid (mild_grow.trans H3.out hb4); have K1 := Lib.hid (K1.out.still (fun b hb => Nat.lt_of_lt_of_le hb.2 (Nat.le_trans hs12 hs23)) hb4); have K2 := Lib.hid (K2.out.still (fun b hb => Nat.lt_of_lt_of_le hb.2 hs23) hb4); have K3 := Lib.hid (K3.out.later hb4); have K4 := Lib.hid k4
  have hs34 := hb4.size
  have hs14 : w1.heap.size ≤ w4.heap.size := Nat.le_trans hs12 (Nat.le_trans hs23 hs34)
  have hs24 : w2.heap.size ≤ w4.heap.size := Nat.le_trans hs23 hs34
  clear k4 hb4 h3 H3
  go_wp2_with fail
  refine (everr0_any hm).mono ?_
  rintro e w5 ⟨rfl, rfl⟩
  have e1 : placesRes (fun e : Api.Event => e.Kind == kind) l = (placesTo (fun e : Api.Event => e.Kind == kind) l l.length, 0) := if_neg hl
  have e2 : placesRes (between lo hi) l = (placesTo (between lo hi) l l.length, 0) := if_neg hl
  have e3 : countRes l = (countTo l l.length, 0) := if_neg hl
  have e5 : evErr l = 0 := if_neg hl
  have hm200 : l.length ≤ 200 := by omega
  have hlen3 : (countTo l l.length).length = 18 := countTo_len _ _
  rw [e1] at K1; rw [e2] at K2; rw [e3] at K3; rw [e1, e2, e3, e5, hlen3]
  clear e1 e2 e3 e5 hm hlen3
  obtain ⟨M, rfl⟩ : ∃ M : Nat, n = M := ⟨n.toNat, by omega⟩
  have e4 : thrRes l (M : Int) = (thrTo l M l.length, 0) := by rw [thrRes, if_neg hl, if_neg (by omega), Int.toNat_natCast]
  rw [e4] at K4; rw [e4]
  have hl4 : (thrTo l M l.length).length = M := thrTo_len _ _ _
  rw [hl4]
  clear e4 hl4 hl
  generalize hp1 : (fun e : Api.Event => e.Kind == kind) = p1 at *
  generalize hp2 : between lo hi = p2 at *
  have HP1 := Lib.hid hp1; have HP2 := Lib.hid hp2
  clear hp1 hp2
  have hd1 : decide ((M : Int) < 0) = false := by simp
  have hd2 : decide (8 < (M : Int)) = false := by simp; omega
  go_wp2_with fail
  go_loopw [21, 22, 24] (ev1Rel w4 l p1 p2) (fun _ _ i _ => l.length - (intOf i).toNat)
  case atStart => exact ⟨0, Nat.zero_le _, rfl, Own.nil _ _ _ _, Own.nil _ _ _ _, Apart.nil_left _ _ _, Below.refl _ _⟩
  case round =>
    obtain ⟨q, hq, rfl, o1, o2, p12, hg⟩ := hrel
    have O1 := Lib.hid o1; have O2 := Lib.hid o2; have P12 := Lib.hid p12; have G := Lib.hid hg
    have h5 := h0.keep (w' := wr) (keep_of_below (mild_grow.trans H4.out hg))
    have hbase := hg.size
    clear o1 o2 p12 hg
    by_cases hlt : q < l.length
    · obtain ⟨e, he⟩ : ∃ y, l[q]? = some y := ⟨_, List.getElem?_eq_getElem hlt⟩
      have HEE := Lib.hid he
      have F1 := Lib.hid (placesTo_succ (p := p1) he); have F2 := Lib.hid (placesTo_succ (p := p2) he)
      have hl1 := placesTo_len p1 l q; have hl2 := placesTo_len p2 l q
      obtain ⟨b, off, rfl, hSb, q0, q1, q2, -, -, -, -, -, -, -, -, -, -⟩ := api_Event_elem h5 he
      have hcell : ∀ w : World, Rep.cells (fun _ => False) w [.int .i64 (q : Int)] (q : Int) := fun w => cells_int (by unfold I64; omega)
      generalize placesTo p1 l q = X1 at *
      generalize placesTo p2 l q = X2 at *
      have hb1 : (e.Kind == kind) = p1 e := by rw [← HP1.out]
      have hp2e : (decide (lo ≤ e.Step) && decide (e.Step < hi)) = p2 e := by rw [← HP2.out]; rfl
      obtain ⟨d1, hd1'⟩ : ∃ d, decide (lo ≤ e.Step) = d := ⟨_, rfl⟩
      obtain ⟨d2, hd2'⟩ : ∃ d, decide (e.Step < hi) = d := ⟨_, rfl⟩
      rw [hd1', hd2'] at hp2e
      have HB2 := Lib.hid hp2e
      clear he h5 hp2e
      generalize p1 e = b1 at *
      generalize p2 e = b2 at *
      have hkeep : ∀ w', Grow w4 w' → ∀ o v, wr.cell? ⟨b, o, none⟩ = some v → w'.cell? ⟨b, o, none⟩ = some v := fun w' hw o v hc => by
        rw [← hc, hw.cell (p := ⟨b, o, none⟩) (Nat.lt_of_lt_of_le hSb H4.out.size), G.out.cell (p := ⟨b, o, none⟩) (Nat.lt_of_lt_of_le hSb H4.out.size)]
      have HKP := Lib.hid hkeep; have HQ1 := Lib.hid q1
      clear hkeep
      cases d1
      case' true => cases d2
      all_goals
        have hb2v := HB2.out
        simp only [Bool.true_and, Bool.false_and, Bool.and_true, Bool.and_false] at hb2v
        subst hb2v
        cases b1
        all_goals
          try have F1 : Hid (placesTo p1 l (q + 1) = X1) := by show _ = _; rw [F1.out]; simp; done
          try have F1 : Hid (placesTo p1 l (q + 1) = X1 ++ [(q : Int)]) := by show _ = _; rw [F1.out]; simp; done
          try have F2 : Hid (placesTo p2 l (q + 1) = X2) := by show _ = _; rw [F2.out]; simp; done
          try have F2 : Hid (placesTo p2 l (q + 1) = X2 ++ [(q : Int)]) := by show _ = _; rw [F2.out]; simp; done
          go_wp2_with (first
            | ((at_builtin; with_reducible refine Try.wp_appd22 rfl rfl rfl rfl rfl (by first | rfl | simp) (O1.out) (hcell _) (fun _ h => h.elim) (by omega) (by first | omega | (simp; omega)) fun v' w' hown' hg' hst' => ?_); have TO2 : ∀ k, u22.ownBlock = some k → k < wr.heap.size := (fun k hk => (O2.out.lt k hk).2); have O2 := Lib.hid (O2.out.apart hg' P12.out (fun _ h => h.elim)); have P12 := Lib.hid (P12.out.moved hst' TO2); have G := Lib.hid (G.out.grown hg' hbase (fun k hk => (O1.out.lt k hk).1)); have O1 := Lib.hid hown'; have q1 := HKP.out _ G.out _ _ HQ1.out; have hbase := G.out.size; clear hown' hg' hst' TO2)
            | ((at_builtin; with_reducible refine Try.wp_appd22 rfl rfl rfl rfl rfl (by first | rfl | simp) (O2.out) (hcell _) (fun _ h => h.elim) (by omega) (by first | omega | (simp; omega)) fun v' w' hown' hg' hst' => ?_); have TO1 := (fun k hk => (O1.out.lt k hk).2); have O1 := Lib.hid (O1.out.apart hg' P12.out.symm (fun _ h => h.elim)); have P12 := Lib.hid ((P12.out.symm.moved hst' TO1).symm); have G := Lib.hid (G.out.grown hg' hbase (fun k hk => (O2.out.lt k hk).1)); have O2 := Lib.hid hown'; clear hown' hg' hst' TO1))
          go_roundw
          case rel => exact ⟨q + 1, by omega, by go_num, by rw [F1.out]; exact O1.out, by rw [F2.out]; exact O2.out, P12.out, G.out⟩
          case measure => simp [intOf] <;> omega
    · obtain rfl : q = l.length := by omega
      obtain ⟨b1, d1, rfl, -, -, x1⟩ := own_fresh O1.out
      obtain ⟨b2, d2, rfl, -, -, x2⟩ := own_fresh O2.out
      have X1 := Lib.hid x1; have X2 := Lib.hid x2
      clear x1 x2 O1 O2 P12 h5
      obtain ⟨w5, rfl⟩ : ∃ x : World, x = wr := ⟨_, rfl⟩
      have hbase := G.out.size
      go_wp2_with fail
      go_loopw [23, 25] (eachRel w5 l M) (fun _ i _ => M - (intOf i).toNat)
      case atStart => exact ⟨0, fun _ => False, Nat.zero_le _, rfl, fun _ h => h.elim, Own.nil _ _ _ _, Below.refl _ _⟩
      case round =>
        obtain ⟨q, S, hq, rfl, hSS, oe, hg⟩ := hrel
        have OE := Lib.hid oe; have G2 := Lib.hid hg; have HSS := Lib.hid hSS
        have hbase2 := hg.size
        clear hSS oe hg
        by_cases hqM : q < M
        · obtain ⟨wo, rfl⟩ : ∃ x : World, x = wr := ⟨_, rfl⟩
          go_wp2_with fail
          go_loopw [26, 27] (ownRel wo l q) (fun _ i _ => l.length - (intOf i).toNat)
          case atStart => exact ⟨0, Nat.zero_le _, rfl, Own.nil _ _ _ _, Below.refl _ _⟩
          case round =>
            obtain ⟨j, hj, rfl, oo, hgo⟩ := hrel
            have OO := Lib.hid oo; have G3 := Lib.hid hgo
            have hbase3 := hgo.size
            have h5 := h0.keep (w' := wr) (keep_of_below (mild_grow.trans (mild_grow.trans (mild_grow.trans H4.out G.out) G2.out) hgo))
            clear oo hgo
            by_cases hlt : j < l.length
            · obtain ⟨e, he⟩ : ∃ y, l[j]? = some y := ⟨_, List.getElem?_eq_getElem hlt⟩
              have F1 := Lib.hid (placesTo_succ (p := fun e : Api.Event => e.Thread == (q : Int)) he)
              have hl1 := placesTo_len (fun e : Api.Event => e.Thread == (q : Int)) l j
              obtain ⟨b, off, rfl, hSb, -, -, q2, -⟩ := api_Event_elem h5 he
              have hcell : ∀ w : World, Rep.cells (fun _ => False) w [.int .i64 (j : Int)] (j : Int) := fun w => cells_int (by unfold I64; omega)
              generalize placesTo (fun e : Api.Event => e.Thread == (q : Int)) l j = X at *
              clear he h5
              by_cases ht : e.Thread = q
              · have hd : (e.Thread == (q : Int)) = true := by simp [ht]
                have F1 : Hid (placesTo (fun e : Api.Event => e.Thread == (q : Int)) l (j + 1) = X ++ [(j : Int)]) := by show _ = _; rw [F1.out]; simp [ht]
                clear ht
                go_wp2_with (at_builtin; with_reducible refine Try.wp_app22 rfl rfl rfl rfl rfl (by first | rfl | simp) (OO.out) (hcell _) (fun _ h => h.elim) (by omega) (by first | omega | (simp; omega)) fun v' w' hown' hg' => ?_)
                have HN' := Lib.hid hown'
                have HB' := Lib.hid (G3.out.grown hg' hbase3 (fun k hk => (OO.out.lt k hk).1))
                clear hown' hg'
                go_roundw
                case rel => exact ⟨j + 1, by omega, by go_num, by rw [F1.out]; exact HN'.out, HB'.out⟩
                case measure => simp [intOf] <;> omega
              · have hd : (e.Thread == (q : Int)) = false := by simp [ht]
                have F1 : Hid (placesTo (fun e : Api.Event => e.Thread == (q : Int)) l (j + 1) = X) := by show _ = _; rw [F1.out]; simp [ht]
                clear ht
                go_wp2_with fail
                go_roundw
                case rel => exact ⟨j + 1, by omega, by go_num, by rw [F1.out]; exact OO.out, G3.out⟩
                case measure => simp [intOf] <;> omega
            · obtain rfl : j = l.length := by omega
              obtain ⟨ov, oc, rfl, hcap, hnil, harr⟩ := own_fresh OO.out
              have HSN := Lib.hid (thrTo_snoc l q l.length)
              have hle := thrTo_len l q l.length
              generalize placesTo (fun e : Api.Event => e.Thread == (q : Int)) l l.length = XL at *
              generalize thrTo l q l.length = TL at *
              have OE2 : Hid (Own (fun b => S b ∨ Fresh wo wr b) wr w5.heap.size 22 u23 TL) := Own.mono (OE.out.below G3.out (fun b hb => (HSS.out b hb).1)) (fun b hb => .inl hb)
              have HC2 : Hid (Rep.cells (fun b => S b ∨ Fresh wo wr b) wr [.slice ov XL.length oc] XL) := ⟨ov, oc, rfl, hcap, hnil, harr.mono (fun b hb => .inr hb)⟩
              have HS2 : Hid (∀ b, (S b ∨ Fresh wo wr b) → b < wr.heap.size ∧ u23.ownBlock ≠ some b) := fun b hb => by
                rcases hb with hb | hb
                · exact ⟨Nat.lt_of_lt_of_le (HSS.out b hb).1 hbase3, (HSS.out b hb).2⟩
                · exact ⟨hb.2, fun he => by have := (OE.out.lt b he).2; have := hb.1; omega⟩
              have hwb : w5.heap.size ≤ wr.heap.size := Nat.le_trans hbase2 hbase3
              clear harr hcap hnil OO h5
              go_wp2_with (at_builtin; with_reducible refine Try.wp_appd43 rfl rfl rfl rfl rfl (by first | rfl | simp) OE2.out HC2.out (by with_unfolding_all exact HS2.out) (by omega) (by first | omega | (simp; omega)) fun v' w' hown' hg' hst' => ?_)
              have HN' := Lib.hid hown'
              have HB' := Lib.hid ((mild_grow.trans G2.out G3.out).grown hg' hwb (fun k hk => (OE2.out.lt k hk).1))
              have HS3 : Hid (∀ b, (S b ∨ Fresh wo wr b) → b < w'.heap.size ∧ v'.ownBlock ≠ some b) := fun b hb => ⟨Nat.lt_of_lt_of_le (HS2.out b hb).1 hg'.size, fun he => by
                rcases hst' b he with h | h
                · exact (HS2.out b hb).2 h
                · have := (HS2.out b hb).1; omega⟩
              clear hown' hg' hst'
              go_roundw
              case rel => exact ⟨q + 1, _, by omega, by go_num, HS3.out, by rw [HSN.out]; exact HN'.out, HB'.out⟩
              case measure => simp [intOf] <;> omega
        · obtain rfl : q = M := by omega
          obtain ⟨ev, ec, rfl, -, -, xe⟩ := OE.out.arr
          have XE := Lib.hid xe
          obtain ⟨w6, rfl⟩ : ∃ x : World, x = wr := ⟨_, rfl⟩
          have X1 := Lib.hid (X1.out.later G2.out); have X2 := Lib.hid (X2.out.later G2.out)
          have G6 := Lib.hid (mild_grow.trans G.out G2.out)
          clear xe OE HSS
          have Y1 := Lib.hid (K1.out.keep (w' := w6) (fun b hb => G6.out.block b (Nat.lt_of_lt_of_le hb.2 hs14))); have Y2 := Lib.hid (K2.out.keep (w' := w6) (fun b hb => G6.out.block b (Nat.lt_of_lt_of_le hb.2 hs24))); have Y3 := Lib.hid (K3.out.keep (w' := w6) (fun b hb => G6.out.block b (Nat.lt_of_lt_of_le hb.2 hs34))); have Y4 := Lib.hid (K4.out.keep (w' := w6) (fun b hb => G6.out.block b hb.2))
          have H6 := Lib.hid (mild_grow.trans H4.out G6.out)
          have h6 := h0.keep (w' := w6) (keep_of_below H6.out)
          clear K1 K2 K3 K4
          go_wp2_with fail
          go_loopw [28] (fun i w' => ∃ k : Nat, k ≤ 18 ∧ i = .int .i64 k ∧ Quiet w6 w') (fun i _ => 18 - (intOf i).toNat)
          case atStart => exact ⟨0, Nat.zero_le _, rfl, Quiet.refl _⟩
          case round =>
            obtain ⟨k, hk, rfl, hq⟩ := hrel
            have Q := Lib.hid hq
            clear hq
            by_cases hk18 : k < 18
            · obtain ⟨wo, rfl⟩ : ∃ x : World, x = wr := ⟨_, rfl⟩
              have hcv := countTo_get l l.length k hk18
              obtain ⟨b3, o3, rfl, -, p3, -⟩ := arr_int (Y3.out.keep (w' := wo) (fun b _ => Q.out.heap b)) hcv
              rw [List.take_length] at p3
              have HP3 := Lib.hid p3
              clear hcv p3
              go_wp2_with fail
              go_loopw [29, 30] (cntRel wo l k) (fun _ i _ => l.length - (intOf i).toNat)
              case atStart => exact ⟨0, Nat.zero_le _, rfl, by simp, Quiet.refl _⟩
              case round =>
                obtain ⟨j, hj, rfl, rfl, hq⟩ := hrel
                have Q2 := Lib.hid hq
                have h7 := h6.keep (w' := wr) (fun b _ => (Q.out.trans hq).heap b)
                have hcle := List.countP_le_length (p := fun e : Api.Event => knd e == (k : Int)) (l := l.take j)
                rw [List.length_take] at hcle
                clear hq
                by_cases hjl : j < l.length
                · obtain ⟨e, he⟩ : ∃ y, l[j]? = some y := ⟨_, List.getElem?_eq_getElem hjl⟩
                  obtain ⟨b, off, rfl, hSb, q0, -⟩ := api_Event_elem h7 he
                  have HC := Lib.hid (countP_take_succ (n := k) he)
                  have HKN := Lib.hid (knd_is e k hk18)
                  clear he h7
                  generalize (l.take j).countP (fun e => knd e == (k : Int)) = cc at *
                  have hcase : (e.Kind = k) ∨ (e.Kind ≠ k ∧ k ≠ 0) ∨ (e.Kind ≠ k ∧ k = 0 ∧ e.Kind < 0) ∨ (e.Kind ≠ k ∧ k = 0 ∧ ¬ e.Kind < 0 ∧ 17 < e.Kind) ∨ (e.Kind ≠ k ∧ k = 0 ∧ ¬ e.Kind < 0 ∧ ¬ 17 < e.Kind) := by omega
                  rcases hcase with g1 | ⟨g1, g2⟩ | ⟨g1, g2, g3⟩ | ⟨g1, g2, g3, g4⟩ | ⟨g1, g2, g3, g4⟩
                  all_goals
                    have hv : (knd e == (k : Int)) = true ∨ (knd e == (k : Int)) = false := by cases (knd e == (k : Int)) <;> simp
                    first | (have hv : (knd e == (k : Int)) = true := by rw [HKN.out]; simp; omega) | (have hv : (knd e == (k : Int)) = false := Bool.eq_false_iff.2 (fun hh => by rw [HKN.out] at hh; simp at hh; omega))
                    rw [hv] at HC
                    first | (have t1 : (e.Kind == (k : Int)) = true := by simp [g1]; done) | (have t1 : (e.Kind == (k : Int)) = false := by simp; omega)
                    first | (have t2 : ((k : Int) == 0) = true := by simp; omega) | (have t2 : ((k : Int) == 0) = false := by simp; omega) | skip
                    first | (have t3 : decide (e.Kind < 0) = true := by simp; omega) | (have t3 : decide (e.Kind < 0) = false := by simp; omega) | skip
                    first | (have t4 : decide (17 < e.Kind) = true := by simp; omega) | (have t4 : decide (17 < e.Kind) = false := by simp; omega) | skip
                    clear hv g1 HKN
                    try clear g2
                    try clear g3
                    try clear g4
                    go_wp2_with fail
                    go_roundw
                    case rel => exact ⟨j + 1, by omega, by go_num, by rw [HC.out]; simp, Q2.out⟩
                    case measure => simp [intOf] <;> omega
                · obtain rfl : j = l.length := by omega
                  have p3 := (Q2.out.cell ⟨b3, o3 + k, none⟩).trans HP3.out
                  clear h7
                  rw [List.take_length]
                  rw [List.take_length] at hcle
                  generalize l.countP (fun e => knd e == (k : Int)) = cc at *
                  have hne : ((cc : Int) != (cc : Int)) = false := by simp
                  go_wp2_with fail
                  go_roundw
                  case rel => exact ⟨k + 1, by omega, by go_num, Q.out.trans Q2.out⟩
                  case measure => simp [intOf] <;> omega
            · obtain rfl : k = 18 := by omega
              clear h6
              go_wp2_with fail
              refine (same_ints_refl (Y1.out.keep (fun b _ => Q.out.heap b)) (X1.out.keep (fun b _ => Q.out.heap b))).mono ?_
              rintro e z1 ⟨rfl, hz1⟩
              have Z1 := Lib.hid (Q.out.trans hz1)
              clear hz1
              go_wp2_with fail
              refine (same_ints_refl (Y2.out.keep (fun b _ => Z1.out.heap b)) (X2.out.keep (fun b _ => Z1.out.heap b))).mono ?_
              rintro e z2 ⟨rfl, hz2⟩
              have Z2 := Lib.hid (Z1.out.trans hz2)
              clear hz2
              go_wp2_with fail
              refine (same_rows_at (Y4.out.keep (fun b _ => Z2.out.heap b)) (XE.out.keep (fun b _ => Z2.out.heap b)) (thrTo_len _ _ _) rfl).mono ?_
              rintro e z3 ⟨rfl, hz3⟩
              have Z3 := Lib.hid (H6.out.trans ((Z2.out.trans hz3).below _))
              clear hz3
              go_wp2
              go_ret
              exact ⟨rfl, Z3.out⟩
end Go.Proofs.Ytimlhjjdaggiiaa
