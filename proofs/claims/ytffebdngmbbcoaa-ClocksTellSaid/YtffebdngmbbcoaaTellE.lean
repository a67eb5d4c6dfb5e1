/- The law ClocksTell, walked: the two answers are one. (Printed by tools/gen_telllaw.py.) -/
import Derived.Test.YtffebdngmbbcoaaTellD
import Derived.Test.YtffebdngmbbcoaaSoon
set_option linter.unusedVariables false
set_option linter.unusedSimpArgs false
namespace Go.Proofs.Ytffebdngmbbcoaa.clk
open Go.Bk Go.RowKit Go.Maps Go.Proofs.Ytffebdngmbbcoaa.lock

def tRel (W w1 : World) (n : Nat) (v19 : Value) (w' : World) : Prop := ∃ k : Nat, k ≤ n ∧ v19 = .int .i64 k ∧ Below W.heap.size W w' ∧ Below w1.heap.size w1 w'
def vRel (w4 : World) (l : List Api.Event) (n m k : Nat) (v22 : Value) (w' : World) : Prop :=
  ∃ q : Nat, q ≤ n ∧ v22 = .int .i64 q ∧ Blk w' w4.heap.size 3 (rowV m fun t => ((cntP (inT l k t) q : Nat) : Int)) ∧ Below w4.heap.size w4 w'
set_option maxRecDepth 100000 in
set_option maxHeartbeats 4000000 in
theorem clocksTell_walk (W : World) (args : Array Value) (h : ArgsRead Try.prog W [50, 3, 3, 3] args.toList) :
    Calls Try.prog 6 args W fun e W' => e = .returned (.bool true) ∧ Below W.heap.size W W' := by
  obtain ⟨v0, v1, v2, v3, rfl, r0, r1, r2, r3⟩ := h.four
  obtain ⟨a, l0, c, rfl, hc, hnil, h1⟩ := r0.slice Try.underlying50 Try.opens50
  obtain ⟨t, rfl, ht⟩ := r1.int Try.underlying3
  obtain ⟨i, rfl, hi⟩ := r2.int Try.underlying3
  obtain ⟨j, rfl, hj⟩ := r3.int Try.underlying3
  have hcm := r0.cap Try.underlying50
  clear r0 r1 r2 r3 h ht hi hj
  obtain ⟨n, hn⟩ : ∃ n, n = min l0.length 40 := ⟨_, rfl⟩
  have HS : Hid (Calls Try.prog 22 #[.slice a l0.length c, .int .i64 40] W fun e w' => e = .returned (.slice a n c) ∧ W = w') := by rw [hn]; exact soon_any W a l0.length c 40 hc hcm
  obtain ⟨l, hl⟩ : ∃ l, l = l0.take 40 := ⟨_, rfl⟩
  have hln : l.length = n := by rw [hl, List.length_take]; omega
  have h2 : Arr (· < W.heap.size) W a l := by rw [hl]; exact arr_take h1 40
  have HA : Hid (∀ w', Below W.heap.size W w' → Arr (· < W.heap.size) w' a l) := fun w' hb => h2.keep (fun b hb' => hb.block b hb')
  have hn40 : n ≤ 40 := by omega
  obtain ⟨n0, hn0⟩ : ∃ n0, n0 = l0.length := ⟨_, rfl⟩
  rw [← hn0] at HS hc ⊢
  have HN := Lib.hid hln
  clear h1 hn hl hln hn0 hcm
  have HOF := Lib.hid (Of_any (c := c) (t := t) HN.out h2 (fun _ h => h))
  have HBF : Hid (∀ w', Below W.heap.size W w' → Calls Try.prog 26 #[.slice a n c, .int .i64 t, .int .i64 i, .int .i64 j] w' fun e w'' => e = .returned (.tuple #[.bool (befB l t i j), .int .i64 (pairErr l t i j)]) ∧ Below w'.heap.size w' w'') :=
    fun w' hb => Before_any HN.out (HA.out _ hb) (fun b hb' => Nat.lt_of_lt_of_le hb' hb.size)
  have HAP : Hid (∀ w', Below W.heap.size W w' → Calls Try.prog 27 #[.slice a n c, .int .i64 t, .int .i64 i, .int .i64 j] w' fun e w'' => e = .returned (.tuple #[.bool (aptB l t i j), .int .i64 (pairErr l t i j)]) ∧ Below w'.heap.size w' w'') :=
    fun w' hb => Apart_any HN.out (HA.out _ hb) (fun b hb' => Nat.lt_of_lt_of_le hb' hb.size)
  have HCE : Hid (∀ w', Below W.heap.size W w' → Calls Try.prog 23 #[.slice a n c, .int .i64 t] w' fun e w'' => e = .returned (.int .i64 (clkErr l t)) ∧ w' = w'') :=
    fun w' hb => clockErr_any HN.out (HA.out _ hb)
  have HAH : Hid (∀ (w' : World) (q : Nat), Below W.heap.size W w' → q < n → Calls Try.prog 28 #[.slice a n c, .int .i64 (q : Nat)] w' (AheadPost w' l n q)) :=
    fun w' q hb hq => ahead_any HN.out (HA.out _ hb) (fun b hb' => Nat.lt_of_lt_of_le hb' hb.size) hq (by omega)
  clear h2
  go_enter Try.func6, Try.ntmps6
  go_wp2_with fail
  refine HS.out.mono ?_
  rintro e w0 ⟨rfl, rfl⟩
  go_wp2_with fail
  refine HOF.out.mono ?_
  rintro e w1 hof
  clear HS HOF
  rcases hof with ⟨he, rfl, hb⟩ | ⟨he, m, g, rb, rfl, rfl, hm, hb⟩
  · have HB1 := Lib.hid hb
    have HPE : Hid (pairErr l t i j = clkErr l t) := by show _ = _; unfold pairErr; rw [if_pos he]
    have HBE : Hid (befB l t i j = false) := by show _ = _; unfold befB; rw [HPE.out, decide_eq_false he]; rfl
    have HAE : Hid (aptB l t i j = false) := by show _ = _; unfold aptB; rw [HPE.out, decide_eq_false he]; rfl
    rw [HBE.out, HPE.out] at HBF
    rw [HAE.out, HPE.out] at HAP
    obtain ⟨E, hE⟩ : ∃ E, E = clkErr l t := ⟨_, rfl⟩
    rw [← hE] at HBF HAP HCE he ⊢
    have hE0 : (E == 0) = false := by simpa using he
    have hE1 : (E != 0) = true := by simpa using he
    clear hb he hE HPE HBE HAE
    go_wp2_with fail
    refine (HBF.out _ HB1.out).mono ?_
    rintro e w2 ⟨rfl, hb⟩
    have HB12 := Lib.hid hb
    have HB2 := Lib.hid (HB1.out.trans (hb.mono HB1.out.size))
    clear hb HBF
    go_wp2_with fail
    refine (HAP.out _ HB2.out).mono ?_
    rintro e w3 ⟨rfl, hb⟩
    have HZ1 := Lib.hid (HB12.out.trans (hb.mono HB12.out.size))
    have HZ := Lib.hid (HB2.out.trans (hb.mono HB2.out.size))
    clear hb HAP
    go_wp2_with fail
    refine (HCE.out _ HZ.out).mono ?_
    rintro e w' ⟨rfl, rfl⟩
    clear HCE
    go_wp2_with fail
    go_loopw [19] (fun v w' => v = .int .i64 0 ∧ w3 = w') (fun _ _ => 0)
    case atStart => exact ⟨rfl, rfl⟩
    case round =>
      obtain ⟨rfl, rfl⟩ := hrel
      go_wp2_with fail
      go_ret
      exact ⟨rfl, HZ.out⟩
  · have HB1 := Lib.hid hb; have HM1 := Lib.hid hm
    obtain ⟨-, m', e', hm8, hth⟩ := clkErr_zero he
    obtain rfl : m = m' := by omega
    have HTH := Lib.hid hth
    have HPE : Hid (pairErr l m i j = if offB n i j then 1 else 0) := by show _ = _; unfold pairErr; rw [if_neg (by omega), HN.out]
    have HBE : Hid (befB l m i j = (decide (pairErr l m i j = 0) && ahead l j.toNat i.toNat)) := rfl
    have HAE : Hid (aptB l m i j = (decide (pairErr l m i j = 0) && (!decide (i = j) && !ahead l j.toNat i.toNat && !ahead l i.toNat j.toNat))) := rfl
    rw [he] at HCE
    clear hm hb hth he e'
    have hoff := off_cases2 n i j
    rcases hoff with ⟨d1, ho⟩ | ⟨d1, d2, ho⟩ | ⟨d1, d2, d3, ho⟩ | ⟨d1, d2, d3, d4, ho⟩ | ⟨d1, d2, d3, d4, ho⟩
    case inr.inr.inr.inr =>
      rw [ho] at HPE
      have HPE0 := HPE.out
      rw [if_neg (by simp)] at HPE0
      obtain ⟨ii, jj, rfl, rfl, hii, hjj⟩ : ∃ ii jj : Nat, i = (ii : Int) ∧ j = (jj : Int) ∧ ii < n ∧ jj < n := by
        rw [decide_eq_false_iff_not] at d1 d2 d3 d4
        exact ⟨i.toNat, j.toNat, by omega, by omega, by omega, by omega⟩
      rw [HPE0] at HBE HAE HBF HAP
      rw [HBE.out] at HBF
      rw [HAE.out] at HAP
      simp only [decide_true, Bool.true_and, Int.toNat_natCast] at HBF HAP
      obtain ⟨X, hX⟩ : ∃ X, X = ahead l jj ii := ⟨_, rfl⟩
      obtain ⟨Y, hY⟩ : ∃ Y, Y = ahead l ii jj := ⟨_, rfl⟩
      rw [← hX] at HBF HAP
      rw [← hY] at HAP
      have HX := Lib.hid hX; have HY := Lib.hid hY
      clear ho HPE HBE HAE hX hY HPE0
      by_cases hij : ii = jj
      · have d : ((ii : Int) != (jj : Int)) = false := by simp; omega
        rw [show decide ((ii : Int) = (jj : Int)) = true by rw [hij]; simp] at HAP
        simp only [Bool.not_true, Bool.false_and] at HAP
        clear hij
        go_wp2_with fail
        refine (HBF.out _ HB1.out).mono ?_
        rintro e w2 ⟨rfl, hb⟩
        have HB12 := Lib.hid hb
        have HB2 := Lib.hid (HB1.out.trans (hb.mono HB1.out.size))
        clear hb HBF
        go_wp2_with fail
        refine (HAP.out _ HB2.out).mono ?_
        rintro e w3 ⟨rfl, hb⟩
        have HZ1 := Lib.hid (HB12.out.trans (hb.mono HB12.out.size))
        have HZ := Lib.hid (HB2.out.trans (hb.mono HB2.out.size))
        clear hb HAP
        go_wp2_with fail
        refine (HCE.out _ HZ.out).mono ?_
        rintro e w' ⟨rfl, rfl⟩
        clear HCE
        have HAJ := Lib.hid (HAH.out _ jj HZ.out hjj)
        go_wp2_with fail
        refine HAJ.out.mono ?_
        rintro e w8 ⟨gJ, rfl, -, hfl, hb⟩
        have cX := hfl.cell (boolsV_get (flags_get _ hii))
        rw [← HX.out] at cX
        have HZ1 := Lib.hid (HZ1.out.trans (hb.mono HZ1.out.size))
        have HZ := Lib.hid (HZ.out.trans (hb.mono HZ.out.size))
        clear HAJ hfl hb
        go_wp2_with fail
        go_loopw [19] (tRel W w1 n) (fun i _ => n - (intOf i).toNat)
        case atStart => exact ⟨0, Nat.zero_le _, rfl, HZ.out, HZ1.out⟩
        case round =>
          clear HZ HZ1
          obtain ⟨k, hk, rfl, hb, hb1⟩ := hrel
          have HZ := Lib.hid hb; have HZ1 := Lib.hid hb1
          clear hb hb1
          by_cases hkn : k < n
          · have HAK := Lib.hid (HAH.out _ k HZ.out hkn)
            go_wp2_with fail
            refine HAK.out.mono ?_
            rintro e w4 ⟨gA, rfl, hgA, hfl, hb⟩
            have HFL := Lib.hid hfl
            have hgl := hfl.lt
            have hzs := HZ.out.size
            have hzs1 := HZ1.out.size
            have HZ4 := Lib.hid (HZ.out.trans (hb.mono hzs))
            have HZ14 := Lib.hid (HZ1.out.trans (hb.mono hzs1))
            have hb4 := hb.size
            clear HAK hfl hb HZ HZ1
            go_wp2_with ((with_reducible refine wp_make rfl rfl Try.underlying28 Try.info3 rfl rfl rfl (by omega) (by unfold maxLen; omega) fun w5 hblk hbel hsz => ?_); have HK5 : Hid (Blk w5 w4.heap.size 3 (rowV m fun t => ((cntP (inT l k t) 0 : Nat) : Int))) := (show Blk _ _ _ _ from (rowV_zero m) ▸ hblk); have HB5 := Lib.hid hbel; have hs5 := hsz; clear hblk hbel hsz)
            go_loopw [22] (vRel w4 l n m k) (fun i _ => n - (intOf i).toNat)
            case atStart => exact ⟨0, Nat.zero_le _, rfl, HK5.out, HB5.out⟩
            case round =>
              clear HK5 HB5
              obtain ⟨q, hq, rfl, hblk, hb⟩ := hrel
              have HK5 := Lib.hid hblk; have HB5 := Lib.hid hb
              have hb5 := hb.size
              have hBW := HZ4.out.trans (hb.mono (Nat.le_trans hzs hb4))
              by_cases hqn : q < n
              · obtain ⟨x, hx⟩ : ∃ x, l[q]? = some x := ⟨_, List.getElem?_eq_getElem (by rw [HN.out]; exact hqn)⟩
                obtain ⟨b1, o1, e1, -, q0, q1, q2, -⟩ := api_Event_elem (HA.out _ hBW) hx
                have hcf := (HFL.out.below hb hgl).cell (boolsV_get (flags_get _ hqn))
                have htx := HTH.out q x hx
                obtain ⟨T, hT⟩ : ∃ T, T = x.Thread.toNat := ⟨_, rfl⟩
                have hTx : x.Thread = (T : Int) := by omega
                have hTm : T < m := by omega
                rw [hTx] at q2
                have hc0 := hblk.cell (rowV_get _ hTm)
                have hf0 := hblk.frozen T
                have HIN : Hid (∀ u : Nat, cntP (inT l k u) (q + 1) = cntP (inT l k u) q + if (ahead l k q || decide (q = k)) = true ∧ u = T then 1 else 0) := fun u => inT_step hx hTx u
                obtain ⟨V, hV⟩ : ∃ V, V = cntP (inT l k T) q := ⟨_, rfl⟩
                have hVq : V ≤ q := by rw [hV]; exact cntP_le _ _
                have HV := Lib.hid hV
                rw [← hV] at hc0
                have HST : Hid (∀ w9 : World, ∀ V2 : Int, V2 = (V : Int) + 1 → Blk w9 w4.heap.size 3 (rowV m fun t => ((cntP (inT l k t) q : Nat) : Int)) → (ahead l k q || decide (q = k)) = true → Blk (w9.setCell ⟨w4.heap.size, T, none⟩ (.int .i64 V2)) w4.heap.size 3 (rowV m fun t => ((cntP (inT l k t) (q + 1) : Nat) : Int))) := by
                  intro w9 V2 hV2 hblk hp
                  have := hblk.set T (.int .i64 V2)
                  rw [rowV_set] at this
                  rw [rowV_congr (g := fun u => if u = T then V2 else ((cntP (inT l k u) q : Nat) : Int)) fun u _ => by
                    rw [HIN.out u]
                    by_cases e : u = T
                    · rw [if_pos e, if_pos ⟨hp, e⟩, hV2, HV.out, e]; omega
                    · rw [if_neg e, if_neg (fun h => e h.2)]; rfl]
                  exact this
                clear hx q0 q1 hblk hb hBW hT hV
                cases hX : ahead l k q with
                | true =>
                  rw [hX] at hcf HST
                  clear hX
                  subst e1
                  go_wp2_with fail
                  go_roundw
                  case rel => exact ⟨q + 1, by omega, by go_num, HST.out _ _ rfl HK5.out rfl, HB5.out.setCell (p := ⟨w4.heap.size, T, none⟩) (Nat.le_refl _) _⟩
                  case measure => simp [intOf] <;> omega
                | false =>
                  rw [hX] at hcf
                  by_cases hqk : q = k
                  · have d : ((q : Int) == (k : Int)) = true := by simp; omega
                    have HOK : Hid ((ahead l k q || decide (q = k)) = true) := by show _ = _; rw [decide_eq_true hqk, Bool.or_true]
                    clear hX hqk
                    subst e1
                    go_wp2_with fail
                    go_roundw
                    case rel => exact ⟨q + 1, by omega, by go_num, HST.out _ _ rfl HK5.out HOK.out, HB5.out.setCell (p := ⟨w4.heap.size, T, none⟩) (Nat.le_refl _) _⟩
                    case measure => simp [intOf] <;> omega
                  · have d : ((q : Int) == (k : Int)) = false := by simp; omega
                    have HNO : Hid (Blk wr w4.heap.size 3 (rowV m fun t => ((cntP (inT l k t) (q + 1) : Nat) : Int))) := by
                      show Blk _ _ _ _
                      rw [rowV_congr (g := fun u => ((cntP (inT l k u) q : Nat) : Int)) fun u _ => by rw [HIN.out u, hX, decide_eq_false hqk, if_neg (fun h => by cases h.1)]; rfl]
                      exact HK5.out
                    clear hX hqk
                    subst e1
                    go_wp2_with fail
                    go_roundw
                    case rel => exact ⟨q + 1, by omega, by go_num, HNO.out, HB5.out⟩
                    case measure => simp [intOf] <;> omega
              · obtain rfl : q = n := by omega
                have HB15 := Lib.hid (HZ14.out.trans (hb.mono (Nat.le_trans hzs1 hb4)))
                have hM5 := HM1.out.below HB15.out (Nat.le_refl _)
                have hh := hM5.head hkn
                have hr := hM5.row k hkn
                have HSI : Hid (Calls Try.prog 19 #[.slice (some ⟨rb k, 0, none⟩) m m, .slice (some ⟨w4.heap.size, 0, none⟩) m m] wr fun e w' => e = .returned (.bool true) ∧ Quiet wr w') := by
                  rw [rowV_congr (g := fun t => ((cnt l k t : Nat) : Int)) fun t _ => by rw [cnt_full hkn]] at hblk
                  have A1 := rowV_arr (S := fun _ => True) hr (fun t _ => by have := cnt_le l k t; unfold I64; omega) (by unfold maxLen; omega) trivial
                  have A2 := rowV_arr (S := fun _ => True) hblk (fun t _ => by have := cnt_le l k t; unfold I64; omega) (by unfold maxLen; omega) trivial
                  have := same_ints_refl (c1 := m) (c2 := m) A1 A2
                  exact Lib.hid (by simpa using this)
                have HBW := Lib.hid (hBW)
                clear hblk hb hBW hM5 hr HM1 HA HAH HTH
                go_wp2_with fail
                refine HSI.out.mono ?_
                rintro e w6 ⟨rfl, hqt⟩
                have HBW6 := Lib.hid (HBW.out.trans ((hqt.below _).mono HBW.out.size)); have HB16 := Lib.hid (HB15.out.trans ((hqt.below _).mono HB15.out.size))
                clear hqt
                go_wp2_with fail
                go_roundw
                case rel => exact ⟨k + 1, by omega, by go_num, HBW6.out, HB16.out⟩
                case measure => simp [intOf] <;> omega
          · obtain rfl : k = n := by omega
            go_wp2_with fail
            go_ret
            exact ⟨rfl, HZ.out⟩
      · have d : ((ii : Int) != (jj : Int)) = true := by simp; omega
        rw [show decide ((ii : Int) = (jj : Int)) = false by simp; omega] at HAP
        clear hij
        cases X with
        | true =>
          simp only [Bool.not_true, Bool.not_false, Bool.false_and, Bool.true_and] at HAP
          go_wp2_with fail
          refine (HBF.out _ HB1.out).mono ?_
          rintro e w2 ⟨rfl, hb⟩
          have HB12 := Lib.hid hb
          have HB2 := Lib.hid (HB1.out.trans (hb.mono HB1.out.size))
          clear hb HBF
          go_wp2_with fail
          refine (HAP.out _ HB2.out).mono ?_
          rintro e w3 ⟨rfl, hb⟩
          have HZ1 := Lib.hid (HB12.out.trans (hb.mono HB12.out.size))
          have HZ := Lib.hid (HB2.out.trans (hb.mono HB2.out.size))
          clear hb HAP
          go_wp2_with fail
          refine (HCE.out _ HZ.out).mono ?_
          rintro e w' ⟨rfl, rfl⟩
          clear HCE
          have HAJ := Lib.hid (HAH.out _ jj HZ.out hjj)
          go_wp2_with fail
          refine HAJ.out.mono ?_
          rintro e w8 ⟨gJ, rfl, -, hfl, hb⟩
          have cX := hfl.cell (boolsV_get (flags_get _ hii))
          rw [← HX.out] at cX
          have HZ1 := Lib.hid (HZ1.out.trans (hb.mono HZ1.out.size))
          have HZ := Lib.hid (HZ.out.trans (hb.mono HZ.out.size))
          clear HAJ hfl hb
          go_wp2_with fail
          go_loopw [19] (tRel W w1 n) (fun i _ => n - (intOf i).toNat)
          case atStart => exact ⟨0, Nat.zero_le _, rfl, HZ.out, HZ1.out⟩
          case round =>
            clear HZ HZ1
            obtain ⟨k, hk, rfl, hb, hb1⟩ := hrel
            have HZ := Lib.hid hb; have HZ1 := Lib.hid hb1
            clear hb hb1
            by_cases hkn : k < n
            · have HAK := Lib.hid (HAH.out _ k HZ.out hkn)
              go_wp2_with fail
              refine HAK.out.mono ?_
              rintro e w4 ⟨gA, rfl, hgA, hfl, hb⟩
              have HFL := Lib.hid hfl
              have hgl := hfl.lt
              have hzs := HZ.out.size
              have hzs1 := HZ1.out.size
              have HZ4 := Lib.hid (HZ.out.trans (hb.mono hzs))
              have HZ14 := Lib.hid (HZ1.out.trans (hb.mono hzs1))
              have hb4 := hb.size
              clear HAK hfl hb HZ HZ1
              go_wp2_with ((with_reducible refine wp_make rfl rfl Try.underlying28 Try.info3 rfl rfl rfl (by omega) (by unfold maxLen; omega) fun w5 hblk hbel hsz => ?_); have HK5 : Hid (Blk w5 w4.heap.size 3 (rowV m fun t => ((cntP (inT l k t) 0 : Nat) : Int))) := (show Blk _ _ _ _ from (rowV_zero m) ▸ hblk); have HB5 := Lib.hid hbel; have hs5 := hsz; clear hblk hbel hsz)
              go_loopw [22] (vRel w4 l n m k) (fun i _ => n - (intOf i).toNat)
              case atStart => exact ⟨0, Nat.zero_le _, rfl, HK5.out, HB5.out⟩
              case round =>
                clear HK5 HB5
                obtain ⟨q, hq, rfl, hblk, hb⟩ := hrel
                have HK5 := Lib.hid hblk; have HB5 := Lib.hid hb
                have hb5 := hb.size
                have hBW := HZ4.out.trans (hb.mono (Nat.le_trans hzs hb4))
                by_cases hqn : q < n
                · obtain ⟨x, hx⟩ : ∃ x, l[q]? = some x := ⟨_, List.getElem?_eq_getElem (by rw [HN.out]; exact hqn)⟩
                  obtain ⟨b1, o1, e1, -, q0, q1, q2, -⟩ := api_Event_elem (HA.out _ hBW) hx
                  have hcf := (HFL.out.below hb hgl).cell (boolsV_get (flags_get _ hqn))
                  have htx := HTH.out q x hx
                  obtain ⟨T, hT⟩ : ∃ T, T = x.Thread.toNat := ⟨_, rfl⟩
                  have hTx : x.Thread = (T : Int) := by omega
                  have hTm : T < m := by omega
                  rw [hTx] at q2
                  have hc0 := hblk.cell (rowV_get _ hTm)
                  have hf0 := hblk.frozen T
                  have HIN : Hid (∀ u : Nat, cntP (inT l k u) (q + 1) = cntP (inT l k u) q + if (ahead l k q || decide (q = k)) = true ∧ u = T then 1 else 0) := fun u => inT_step hx hTx u
                  obtain ⟨V, hV⟩ : ∃ V, V = cntP (inT l k T) q := ⟨_, rfl⟩
                  have hVq : V ≤ q := by rw [hV]; exact cntP_le _ _
                  have HV := Lib.hid hV
                  rw [← hV] at hc0
                  have HST : Hid (∀ w9 : World, ∀ V2 : Int, V2 = (V : Int) + 1 → Blk w9 w4.heap.size 3 (rowV m fun t => ((cntP (inT l k t) q : Nat) : Int)) → (ahead l k q || decide (q = k)) = true → Blk (w9.setCell ⟨w4.heap.size, T, none⟩ (.int .i64 V2)) w4.heap.size 3 (rowV m fun t => ((cntP (inT l k t) (q + 1) : Nat) : Int))) := by
                    intro w9 V2 hV2 hblk hp
                    have := hblk.set T (.int .i64 V2)
                    rw [rowV_set] at this
                    rw [rowV_congr (g := fun u => if u = T then V2 else ((cntP (inT l k u) q : Nat) : Int)) fun u _ => by
                      rw [HIN.out u]
                      by_cases e : u = T
                      · rw [if_pos e, if_pos ⟨hp, e⟩, hV2, HV.out, e]; omega
                      · rw [if_neg e, if_neg (fun h => e h.2)]; rfl]
                    exact this
                  clear hx q0 q1 hblk hb hBW hT hV
                  cases hX : ahead l k q with
                  | true =>
                    rw [hX] at hcf HST
                    clear hX
                    subst e1
                    go_wp2_with fail
                    go_roundw
                    case rel => exact ⟨q + 1, by omega, by go_num, HST.out _ _ rfl HK5.out rfl, HB5.out.setCell (p := ⟨w4.heap.size, T, none⟩) (Nat.le_refl _) _⟩
                    case measure => simp [intOf] <;> omega
                  | false =>
                    rw [hX] at hcf
                    by_cases hqk : q = k
                    · have d : ((q : Int) == (k : Int)) = true := by simp; omega
                      have HOK : Hid ((ahead l k q || decide (q = k)) = true) := by show _ = _; rw [decide_eq_true hqk, Bool.or_true]
                      clear hX hqk
                      subst e1
                      go_wp2_with fail
                      go_roundw
                      case rel => exact ⟨q + 1, by omega, by go_num, HST.out _ _ rfl HK5.out HOK.out, HB5.out.setCell (p := ⟨w4.heap.size, T, none⟩) (Nat.le_refl _) _⟩
                      case measure => simp [intOf] <;> omega
                    · have d : ((q : Int) == (k : Int)) = false := by simp; omega
                      have HNO : Hid (Blk wr w4.heap.size 3 (rowV m fun t => ((cntP (inT l k t) (q + 1) : Nat) : Int))) := by
                        show Blk _ _ _ _
                        rw [rowV_congr (g := fun u => ((cntP (inT l k u) q : Nat) : Int)) fun u _ => by rw [HIN.out u, hX, decide_eq_false hqk, if_neg (fun h => by cases h.1)]; rfl]
                        exact HK5.out
                      clear hX hqk
                      subst e1
                      go_wp2_with fail
                      go_roundw
                      case rel => exact ⟨q + 1, by omega, by go_num, HNO.out, HB5.out⟩
                      case measure => simp [intOf] <;> omega
                · obtain rfl : q = n := by omega
                  have HB15 := Lib.hid (HZ14.out.trans (hb.mono (Nat.le_trans hzs1 hb4)))
                  have hM5 := HM1.out.below HB15.out (Nat.le_refl _)
                  have hh := hM5.head hkn
                  have hr := hM5.row k hkn
                  have HSI : Hid (Calls Try.prog 19 #[.slice (some ⟨rb k, 0, none⟩) m m, .slice (some ⟨w4.heap.size, 0, none⟩) m m] wr fun e w' => e = .returned (.bool true) ∧ Quiet wr w') := by
                    rw [rowV_congr (g := fun t => ((cnt l k t : Nat) : Int)) fun t _ => by rw [cnt_full hkn]] at hblk
                    have A1 := rowV_arr (S := fun _ => True) hr (fun t _ => by have := cnt_le l k t; unfold I64; omega) (by unfold maxLen; omega) trivial
                    have A2 := rowV_arr (S := fun _ => True) hblk (fun t _ => by have := cnt_le l k t; unfold I64; omega) (by unfold maxLen; omega) trivial
                    have := same_ints_refl (c1 := m) (c2 := m) A1 A2
                    exact Lib.hid (by simpa using this)
                  have HBW := Lib.hid (hBW)
                  clear hblk hb hBW hM5 hr HM1 HA HAH HTH
                  go_wp2_with fail
                  refine HSI.out.mono ?_
                  rintro e w6 ⟨rfl, hqt⟩
                  have HBW6 := Lib.hid (HBW.out.trans ((hqt.below _).mono HBW.out.size)); have HB16 := Lib.hid (HB15.out.trans ((hqt.below _).mono HB15.out.size))
                  clear hqt
                  go_wp2_with fail
                  go_roundw
                  case rel => exact ⟨k + 1, by omega, by go_num, HBW6.out, HB16.out⟩
                  case measure => simp [intOf] <;> omega
            · obtain rfl : k = n := by omega
              go_wp2_with fail
              go_ret
              exact ⟨rfl, HZ.out⟩
        | false =>
          simp only [Bool.not_true, Bool.not_false, Bool.false_and, Bool.true_and] at HAP
          go_wp2_with fail
          refine (HBF.out _ HB1.out).mono ?_
          rintro e w2 ⟨rfl, hb⟩
          have HB12 := Lib.hid hb
          have HB2 := Lib.hid (HB1.out.trans (hb.mono HB1.out.size))
          clear hb HBF
          go_wp2_with fail
          refine (HAP.out _ HB2.out).mono ?_
          rintro e w3 ⟨rfl, hb⟩
          have HZ1 := Lib.hid (HB12.out.trans (hb.mono HB12.out.size))
          have HZ := Lib.hid (HB2.out.trans (hb.mono HB2.out.size))
          clear hb HAP
          go_wp2_with fail
          refine (HCE.out _ HZ.out).mono ?_
          rintro e w' ⟨rfl, rfl⟩
          clear HCE
          have HAJ := Lib.hid (HAH.out _ jj HZ.out hjj)
          go_wp2_with fail
          refine HAJ.out.mono ?_
          rintro e w8 ⟨gJ, rfl, -, hfl, hb⟩
          have cX := hfl.cell (boolsV_get (flags_get _ hii))
          rw [← HX.out] at cX
          have HZ1 := Lib.hid (HZ1.out.trans (hb.mono HZ1.out.size))
          have HZ := Lib.hid (HZ.out.trans (hb.mono HZ.out.size))
          clear HAJ hfl hb
          have HAI := Lib.hid (HAH.out _ ii HZ.out hii)
          go_wp2_with fail
          refine HAI.out.mono ?_
          rintro e w9 ⟨gI, rfl, -, hfl, hb⟩
          have cY := hfl.cell (boolsV_get (flags_get _ hjj))
          rw [← HY.out] at cY
          have HZ1 := Lib.hid (HZ1.out.trans (hb.mono HZ1.out.size))
          have HZ := Lib.hid (HZ.out.trans (hb.mono HZ.out.size))
          clear HAI hfl hb
          go_wp2_with fail
          go_loopw [19] (tRel W w1 n) (fun i _ => n - (intOf i).toNat)
          case atStart => exact ⟨0, Nat.zero_le _, rfl, HZ.out, HZ1.out⟩
          case round =>
            clear HZ HZ1
            obtain ⟨k, hk, rfl, hb, hb1⟩ := hrel
            have HZ := Lib.hid hb; have HZ1 := Lib.hid hb1
            clear hb hb1
            by_cases hkn : k < n
            · have HAK := Lib.hid (HAH.out _ k HZ.out hkn)
              go_wp2_with fail
              refine HAK.out.mono ?_
              rintro e w4 ⟨gA, rfl, hgA, hfl, hb⟩
              have HFL := Lib.hid hfl
              have hgl := hfl.lt
              have hzs := HZ.out.size
              have hzs1 := HZ1.out.size
              have HZ4 := Lib.hid (HZ.out.trans (hb.mono hzs))
              have HZ14 := Lib.hid (HZ1.out.trans (hb.mono hzs1))
              have hb4 := hb.size
              clear HAK hfl hb HZ HZ1
              go_wp2_with ((with_reducible refine wp_make rfl rfl Try.underlying28 Try.info3 rfl rfl rfl (by omega) (by unfold maxLen; omega) fun w5 hblk hbel hsz => ?_); have HK5 : Hid (Blk w5 w4.heap.size 3 (rowV m fun t => ((cntP (inT l k t) 0 : Nat) : Int))) := (show Blk _ _ _ _ from (rowV_zero m) ▸ hblk); have HB5 := Lib.hid hbel; have hs5 := hsz; clear hblk hbel hsz)
              go_loopw [22] (vRel w4 l n m k) (fun i _ => n - (intOf i).toNat)
              case atStart => exact ⟨0, Nat.zero_le _, rfl, HK5.out, HB5.out⟩
              case round =>
                clear HK5 HB5
                obtain ⟨q, hq, rfl, hblk, hb⟩ := hrel
                have HK5 := Lib.hid hblk; have HB5 := Lib.hid hb
                have hb5 := hb.size
                have hBW := HZ4.out.trans (hb.mono (Nat.le_trans hzs hb4))
                by_cases hqn : q < n
                · obtain ⟨x, hx⟩ : ∃ x, l[q]? = some x := ⟨_, List.getElem?_eq_getElem (by rw [HN.out]; exact hqn)⟩
                  obtain ⟨b1, o1, e1, -, q0, q1, q2, -⟩ := api_Event_elem (HA.out _ hBW) hx
                  have hcf := (HFL.out.below hb hgl).cell (boolsV_get (flags_get _ hqn))
                  have htx := HTH.out q x hx
                  obtain ⟨T, hT⟩ : ∃ T, T = x.Thread.toNat := ⟨_, rfl⟩
                  have hTx : x.Thread = (T : Int) := by omega
                  have hTm : T < m := by omega
                  rw [hTx] at q2
                  have hc0 := hblk.cell (rowV_get _ hTm)
                  have hf0 := hblk.frozen T
                  have HIN : Hid (∀ u : Nat, cntP (inT l k u) (q + 1) = cntP (inT l k u) q + if (ahead l k q || decide (q = k)) = true ∧ u = T then 1 else 0) := fun u => inT_step hx hTx u
                  obtain ⟨V, hV⟩ : ∃ V, V = cntP (inT l k T) q := ⟨_, rfl⟩
                  have hVq : V ≤ q := by rw [hV]; exact cntP_le _ _
                  have HV := Lib.hid hV
                  rw [← hV] at hc0
                  have HST : Hid (∀ w9 : World, ∀ V2 : Int, V2 = (V : Int) + 1 → Blk w9 w4.heap.size 3 (rowV m fun t => ((cntP (inT l k t) q : Nat) : Int)) → (ahead l k q || decide (q = k)) = true → Blk (w9.setCell ⟨w4.heap.size, T, none⟩ (.int .i64 V2)) w4.heap.size 3 (rowV m fun t => ((cntP (inT l k t) (q + 1) : Nat) : Int))) := by
                    intro w9 V2 hV2 hblk hp
                    have := hblk.set T (.int .i64 V2)
                    rw [rowV_set] at this
                    rw [rowV_congr (g := fun u => if u = T then V2 else ((cntP (inT l k u) q : Nat) : Int)) fun u _ => by
                      rw [HIN.out u]
                      by_cases e : u = T
                      · rw [if_pos e, if_pos ⟨hp, e⟩, hV2, HV.out, e]; omega
                      · rw [if_neg e, if_neg (fun h => e h.2)]; rfl]
                    exact this
                  clear hx q0 q1 hblk hb hBW hT hV
                  cases hX : ahead l k q with
                  | true =>
                    rw [hX] at hcf HST
                    clear hX
                    subst e1
                    go_wp2_with fail
                    go_roundw
                    case rel => exact ⟨q + 1, by omega, by go_num, HST.out _ _ rfl HK5.out rfl, HB5.out.setCell (p := ⟨w4.heap.size, T, none⟩) (Nat.le_refl _) _⟩
                    case measure => simp [intOf] <;> omega
                  | false =>
                    rw [hX] at hcf
                    by_cases hqk : q = k
                    · have d : ((q : Int) == (k : Int)) = true := by simp; omega
                      have HOK : Hid ((ahead l k q || decide (q = k)) = true) := by show _ = _; rw [decide_eq_true hqk, Bool.or_true]
                      clear hX hqk
                      subst e1
                      go_wp2_with fail
                      go_roundw
                      case rel => exact ⟨q + 1, by omega, by go_num, HST.out _ _ rfl HK5.out HOK.out, HB5.out.setCell (p := ⟨w4.heap.size, T, none⟩) (Nat.le_refl _) _⟩
                      case measure => simp [intOf] <;> omega
                    · have d : ((q : Int) == (k : Int)) = false := by simp; omega
                      have HNO : Hid (Blk wr w4.heap.size 3 (rowV m fun t => ((cntP (inT l k t) (q + 1) : Nat) : Int))) := by
                        show Blk _ _ _ _
                        rw [rowV_congr (g := fun u => ((cntP (inT l k u) q : Nat) : Int)) fun u _ => by rw [HIN.out u, hX, decide_eq_false hqk, if_neg (fun h => by cases h.1)]; rfl]
                        exact HK5.out
                      clear hX hqk
                      subst e1
                      go_wp2_with fail
                      go_roundw
                      case rel => exact ⟨q + 1, by omega, by go_num, HNO.out, HB5.out⟩
                      case measure => simp [intOf] <;> omega
                · obtain rfl : q = n := by omega
                  have HB15 := Lib.hid (HZ14.out.trans (hb.mono (Nat.le_trans hzs1 hb4)))
                  have hM5 := HM1.out.below HB15.out (Nat.le_refl _)
                  have hh := hM5.head hkn
                  have hr := hM5.row k hkn
                  have HSI : Hid (Calls Try.prog 19 #[.slice (some ⟨rb k, 0, none⟩) m m, .slice (some ⟨w4.heap.size, 0, none⟩) m m] wr fun e w' => e = .returned (.bool true) ∧ Quiet wr w') := by
                    rw [rowV_congr (g := fun t => ((cnt l k t : Nat) : Int)) fun t _ => by rw [cnt_full hkn]] at hblk
                    have A1 := rowV_arr (S := fun _ => True) hr (fun t _ => by have := cnt_le l k t; unfold I64; omega) (by unfold maxLen; omega) trivial
                    have A2 := rowV_arr (S := fun _ => True) hblk (fun t _ => by have := cnt_le l k t; unfold I64; omega) (by unfold maxLen; omega) trivial
                    have := same_ints_refl (c1 := m) (c2 := m) A1 A2
                    exact Lib.hid (by simpa using this)
                  have HBW := Lib.hid (hBW)
                  clear hblk hb hBW hM5 hr HM1 HA HAH HTH
                  go_wp2_with fail
                  refine HSI.out.mono ?_
                  rintro e w6 ⟨rfl, hqt⟩
                  have HBW6 := Lib.hid (HBW.out.trans ((hqt.below _).mono HBW.out.size)); have HB16 := Lib.hid (HB15.out.trans ((hqt.below _).mono HB15.out.size))
                  clear hqt
                  go_wp2_with fail
                  go_roundw
                  case rel => exact ⟨k + 1, by omega, by go_num, HBW6.out, HB16.out⟩
                  case measure => simp [intOf] <;> omega
            · obtain rfl : k = n := by omega
              go_wp2_with fail
              go_ret
              exact ⟨rfl, HZ.out⟩
    all_goals
      rw [ho] at HPE
      rw [HPE.out] at HBE HAE HBF HAP
      rw [HBE.out] at HBF
      rw [HAE.out] at HAP
      clear ho HPE HBE HAE
      simp only [if_true, show decide ((1 : Int) = 0) = false from rfl, Bool.false_and] at HBF HAP
      go_wp2_with fail
      refine (HBF.out _ HB1.out).mono ?_
      rintro e w2 ⟨rfl, hb⟩
      have HB12 := Lib.hid hb
      have HB2 := Lib.hid (HB1.out.trans (hb.mono HB1.out.size))
      clear hb HBF
      go_wp2_with fail
      refine (HAP.out _ HB2.out).mono ?_
      rintro e w3 ⟨rfl, hb⟩
      have HZ1 := Lib.hid (HB12.out.trans (hb.mono HB12.out.size))
      have HZ := Lib.hid (HB2.out.trans (hb.mono HB2.out.size))
      clear hb HAP
      go_wp2_with fail
      refine (HCE.out _ HZ.out).mono ?_
      rintro e w' ⟨rfl, rfl⟩
      clear HCE
      go_wp2_with fail
      go_loopw [19] (tRel W w1 n) (fun i _ => n - (intOf i).toNat)
      case atStart => exact ⟨0, Nat.zero_le _, rfl, HZ.out, HZ1.out⟩
      case round =>
        clear HZ HZ1
        obtain ⟨k, hk, rfl, hb, hb1⟩ := hrel
        have HZ := Lib.hid hb; have HZ1 := Lib.hid hb1
        clear hb hb1
        by_cases hkn : k < n
        · have HAK := Lib.hid (HAH.out _ k HZ.out hkn)
          go_wp2_with fail
          refine HAK.out.mono ?_
          rintro e w4 ⟨gA, rfl, hgA, hfl, hb⟩
          have HFL := Lib.hid hfl
          have hgl := hfl.lt
          have hzs := HZ.out.size
          have hzs1 := HZ1.out.size
          have HZ4 := Lib.hid (HZ.out.trans (hb.mono hzs))
          have HZ14 := Lib.hid (HZ1.out.trans (hb.mono hzs1))
          have hb4 := hb.size
          clear HAK hfl hb HZ HZ1
          go_wp2_with ((with_reducible refine wp_make rfl rfl Try.underlying28 Try.info3 rfl rfl rfl (by omega) (by unfold maxLen; omega) fun w5 hblk hbel hsz => ?_); have HK5 : Hid (Blk w5 w4.heap.size 3 (rowV m fun t => ((cntP (inT l k t) 0 : Nat) : Int))) := (show Blk _ _ _ _ from (rowV_zero m) ▸ hblk); have HB5 := Lib.hid hbel; have hs5 := hsz; clear hblk hbel hsz)
          go_loopw [22] (vRel w4 l n m k) (fun i _ => n - (intOf i).toNat)
          case atStart => exact ⟨0, Nat.zero_le _, rfl, HK5.out, HB5.out⟩
          case round =>
            clear HK5 HB5
            obtain ⟨q, hq, rfl, hblk, hb⟩ := hrel
            have HK5 := Lib.hid hblk; have HB5 := Lib.hid hb
            have hb5 := hb.size
            have hBW := HZ4.out.trans (hb.mono (Nat.le_trans hzs hb4))
            by_cases hqn : q < n
            · obtain ⟨x, hx⟩ : ∃ x, l[q]? = some x := ⟨_, List.getElem?_eq_getElem (by rw [HN.out]; exact hqn)⟩
              obtain ⟨b1, o1, e1, -, q0, q1, q2, -⟩ := api_Event_elem (HA.out _ hBW) hx
              have hcf := (HFL.out.below hb hgl).cell (boolsV_get (flags_get _ hqn))
              have htx := HTH.out q x hx
              obtain ⟨T, hT⟩ : ∃ T, T = x.Thread.toNat := ⟨_, rfl⟩
              have hTx : x.Thread = (T : Int) := by omega
              have hTm : T < m := by omega
              rw [hTx] at q2
              have hc0 := hblk.cell (rowV_get _ hTm)
              have hf0 := hblk.frozen T
              have HIN : Hid (∀ u : Nat, cntP (inT l k u) (q + 1) = cntP (inT l k u) q + if (ahead l k q || decide (q = k)) = true ∧ u = T then 1 else 0) := fun u => inT_step hx hTx u
              obtain ⟨V, hV⟩ : ∃ V, V = cntP (inT l k T) q := ⟨_, rfl⟩
              have hVq : V ≤ q := by rw [hV]; exact cntP_le _ _
              have HV := Lib.hid hV
              rw [← hV] at hc0
              have HST : Hid (∀ w9 : World, ∀ V2 : Int, V2 = (V : Int) + 1 → Blk w9 w4.heap.size 3 (rowV m fun t => ((cntP (inT l k t) q : Nat) : Int)) → (ahead l k q || decide (q = k)) = true → Blk (w9.setCell ⟨w4.heap.size, T, none⟩ (.int .i64 V2)) w4.heap.size 3 (rowV m fun t => ((cntP (inT l k t) (q + 1) : Nat) : Int))) := by
                intro w9 V2 hV2 hblk hp
                have := hblk.set T (.int .i64 V2)
                rw [rowV_set] at this
                rw [rowV_congr (g := fun u => if u = T then V2 else ((cntP (inT l k u) q : Nat) : Int)) fun u _ => by
                  rw [HIN.out u]
                  by_cases e : u = T
                  · rw [if_pos e, if_pos ⟨hp, e⟩, hV2, HV.out, e]; omega
                  · rw [if_neg e, if_neg (fun h => e h.2)]; rfl]
                exact this
              clear hx q0 q1 hblk hb hBW hT hV
              cases hX : ahead l k q with
              | true =>
                rw [hX] at hcf HST
                clear hX
                subst e1
                go_wp2_with fail
                go_roundw
                case rel => exact ⟨q + 1, by omega, by go_num, HST.out _ _ rfl HK5.out rfl, HB5.out.setCell (p := ⟨w4.heap.size, T, none⟩) (Nat.le_refl _) _⟩
                case measure => simp [intOf] <;> omega
              | false =>
                rw [hX] at hcf
                by_cases hqk : q = k
                · have d : ((q : Int) == (k : Int)) = true := by simp; omega
                  have HOK : Hid ((ahead l k q || decide (q = k)) = true) := by show _ = _; rw [decide_eq_true hqk, Bool.or_true]
                  clear hX hqk
                  subst e1
                  go_wp2_with fail
                  go_roundw
                  case rel => exact ⟨q + 1, by omega, by go_num, HST.out _ _ rfl HK5.out HOK.out, HB5.out.setCell (p := ⟨w4.heap.size, T, none⟩) (Nat.le_refl _) _⟩
                  case measure => simp [intOf] <;> omega
                · have d : ((q : Int) == (k : Int)) = false := by simp; omega
                  have HNO : Hid (Blk wr w4.heap.size 3 (rowV m fun t => ((cntP (inT l k t) (q + 1) : Nat) : Int))) := by
                    show Blk _ _ _ _
                    rw [rowV_congr (g := fun u => ((cntP (inT l k u) q : Nat) : Int)) fun u _ => by rw [HIN.out u, hX, decide_eq_false hqk, if_neg (fun h => by cases h.1)]; rfl]
                    exact HK5.out
                  clear hX hqk
                  subst e1
                  go_wp2_with fail
                  go_roundw
                  case rel => exact ⟨q + 1, by omega, by go_num, HNO.out, HB5.out⟩
                  case measure => simp [intOf] <;> omega
            · obtain rfl : q = n := by omega
              have HB15 := Lib.hid (HZ14.out.trans (hb.mono (Nat.le_trans hzs1 hb4)))
              have hM5 := HM1.out.below HB15.out (Nat.le_refl _)
              have hh := hM5.head hkn
              have hr := hM5.row k hkn
              have HSI : Hid (Calls Try.prog 19 #[.slice (some ⟨rb k, 0, none⟩) m m, .slice (some ⟨w4.heap.size, 0, none⟩) m m] wr fun e w' => e = .returned (.bool true) ∧ Quiet wr w') := by
                rw [rowV_congr (g := fun t => ((cnt l k t : Nat) : Int)) fun t _ => by rw [cnt_full hkn]] at hblk
                have A1 := rowV_arr (S := fun _ => True) hr (fun t _ => by have := cnt_le l k t; unfold I64; omega) (by unfold maxLen; omega) trivial
                have A2 := rowV_arr (S := fun _ => True) hblk (fun t _ => by have := cnt_le l k t; unfold I64; omega) (by unfold maxLen; omega) trivial
                have := same_ints_refl (c1 := m) (c2 := m) A1 A2
                exact Lib.hid (by simpa using this)
              have HBW := Lib.hid (hBW)
              clear hblk hb hBW hM5 hr HM1 HA HAH HTH
              go_wp2_with fail
              refine HSI.out.mono ?_
              rintro e w6 ⟨rfl, hqt⟩
              have HBW6 := Lib.hid (HBW.out.trans ((hqt.below _).mono HBW.out.size)); have HB16 := Lib.hid (HB15.out.trans ((hqt.below _).mono HB15.out.size))
              clear hqt
              go_wp2_with fail
              go_roundw
              case rel => exact ⟨k + 1, by omega, by go_num, HBW6.out, HB16.out⟩
              case measure => simp [intOf] <;> omega
        · obtain rfl : k = n := by omega
          go_wp2_with fail
          go_ret
          exact ⟨rfl, HZ.out⟩
end Go.Proofs.Ytffebdngmbbcoaa.clk
