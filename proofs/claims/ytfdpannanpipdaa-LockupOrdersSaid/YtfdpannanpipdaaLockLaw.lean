/- The law LockupOrders, walked. -/
import Derived.Test.YtfdpannanpipdaaLockA
import Derived.Test.YtfdpannanpipdaaLockB
import Derived.Test.YtfdpannanpipdaaSoon
set_option linter.unusedVariables false
set_option linter.unusedSimpArgs false
namespace Go.Proofs.Ytfdpannanpipdaa.lock
open Go.Bk Go.RowKit

def firstL (l : List Api.Event) : List Api.Event := if l.length ≤ 200 then l.take 60 else l
def l1Rel (w1 : World) (out : List Api.DPair) (v : Value) (w' : World) : Prop := ∃ k : Nat, k ≤ out.length ∧ v = .int .i64 k ∧ Quiet w1 w'
def l4Rel (w1 : World) (out : List Api.DPair) (p : Api.DPair) (v8 v9 : Value) (w' : World) : Prop := ∃ k : Nat, k ≤ out.length ∧ v9 = .int .i64 k ∧ v8 = .bool (decide (p ∈ out.take k)) ∧ Quiet w1 w'
def l2Rel (w1 : World) (n : Nat) (v : Value) (w' : World) : Prop := ∃ k : Nat, k ≤ n ∧ v = .int .i64 k ∧ Quiet w1 w'
theorem quiet_drew {w w' : World} (h : Quiet w w') (n : Nat) : Quiet w (w'.drewN n) := h.trans ⟨n, rfl⟩
theorem order_next {l : List Api.Event} {k : Nat} {p q : Api.DPair} (h0 : 0 < k) (hp : (orderOf l)[k]? = some p) (hq : (orderOf l)[k - 1]? = some q) : ltPair q p := by
  have h1 := (orderOf_spec l).1
  have hk := (List.getElem?_eq_some_iff.1 hp).1
  have e1 := (List.getElem?_eq_some_iff.1 hp).2
  have e2 := (List.getElem?_eq_some_iff.1 hq).2
  have := List.pairwise_iff_getElem.1 h1 (k - 1) k (by omega) hk (by omega)
  rw [e1, e2] at this
  exact this
theorem order_is {l : List Api.Event} {k : Nat} {p : Api.DPair} (hp : (orderOf l)[k]? = some p) : ordB l p.I p.J = true := ordB_true (((orderOf_spec l).2 p).1 (List.mem_of_getElem? hp))
theorem order_has {l : List Api.Event} {a b : Int} (h : ordB l a b = true) : (⟨a, b⟩ : Api.DPair) ∈ orderOf l := ((orderOf_spec l).2 ⟨a, b⟩).2 (ordB_iff.1 h)
set_option maxRecDepth 100000 in
set_option maxHeartbeats 4000000 in
theorem lockupOrders_walk (W : World) (args : Array Value) (h : ArgsRead Try.prog W [22] args.toList) :
    Calls Try.prog 10 args W fun e W' => e = .returned (.bool true) ∧ Below W.heap.size W W' := by
  obtain ⟨v0, rfl, r0⟩ := h.one
  obtain ⟨a, l, c, rfl, hc, hnil, h1⟩ := r0.slice Try.underlying22 Try.opens22
  have hcm := r0.cap Try.underlying22
  clear r0 h
  have hsm := h1.small
  unfold maxLen at hsm
  by_cases hl : 200 < l.length
  · obtain ⟨n, hn⟩ : ∃ n, l.length = n := ⟨_, rfl⟩
    have HO := Lib.hid (order_any (c := c) hn h1 (fun _ h => h))
    rw [hn] at hl hsm hc
    rw [show orderRes l = ([], 2) by unfold orderRes; rw [if_pos (by omega)]] at HO
    rw [hn]
    clear h1 hn
    go_enter Try.func10, Try.ntmps10
    go_wp2_with fail
    refine HO.out.mono ?_
    rintro e w1 ⟨⟨a1, c1, rfl, -, -, -⟩, hb⟩
    have HB := Lib.hid hb
    clear hb
    go_wp2_with fail
    go_ret
    exact ⟨rfl, HB.out⟩
  · obtain ⟨n, hn⟩ : ∃ n, l.length = n := ⟨_, rfl⟩
    obtain ⟨m, hm⟩ : ∃ m, m = min n 60 := ⟨_, rfl⟩
    have HS : Hid (Calls Try.prog 60 #[.slice a n c, .int .i64 60] W fun e w' => e = .returned (.slice a m c) ∧ W = w') := by rw [hm]; exact soon_any W a n c 60 (by rw [← hn]; exact hc) hcm
    obtain ⟨l1, hl1⟩ : ∃ l1, l1 = l.take 60 := ⟨_, rfl⟩
    have hm1 : l1.length = m := by rw [hl1, List.length_take, hn]; omega
    have h2 : Arr (· < W.heap.size) W a l1 := by rw [hl1]; exact arr_take h1 60
    have HO := Lib.hid (order_any (c := c) hm1 h2 (fun _ h => h))
    have HA : Hid (∀ w', Below W.heap.size W w' → Arr (· < W.heap.size) w' a l1) := fun w' hb => h2.keep (fun b hb' => hb.block b hb')
    have hm60 : m ≤ 60 := by omega
    rw [show orderRes l1 = (orderOf l1, 0) by unfold orderRes; rw [if_neg (by omega)]] at HO
    rw [hn] at hl hsm hc ⊢
    have HM := Lib.hid hm1
    clear h1 h2 hn hm hl1 hm1
    go_enter Try.func10, Try.ntmps10
    go_wp2_with fail
    refine HS.out.mono ?_
    rintro e w0 ⟨rfl, rfl⟩
    go_wp2_with fail
    refine HO.out.mono ?_
    rintro e w1 ⟨⟨a1, c1, rfl, ha1, hc1, -⟩, hb⟩
    obtain ⟨out, hout⟩ : ∃ o, o = orderOf l1 := ⟨_, rfl⟩
    rw [← hout] at ha1 hc1 ⊢
    obtain ⟨q, hq⟩ : ∃ q, out.length = q := ⟨_, rfl⟩
    have hqs := ha1.small
    unfold maxLen at hqs
    rw [hq] at hqs ⊢
    dsimp only at *
    have HQ := Lib.hid hq; have HOUT := Lib.hid hout
    have HB := Lib.hid hb
    have HA1 : Hid (∀ w', Quiet w1 w' → Arr (Fresh W w1) w' a1 out) := fun w' hq => ha1.keep (fun b _ => hq.heap b)
    have HA2 : Hid (∀ w', Quiet w1 w' → Arr (· < W.heap.size) w' a l1) := fun w' hq => (HA.out _ hb).keep (fun b _ => hq.heap b)
    clear hb ha1 hq hout HO HS HA
    go_wp2_with fail
    go_loopw [5] (l1Rel w1 out) (fun i _ => q - (intOf i).toNat)
    case atStart => exact ⟨0, Nat.zero_le _, rfl, Quiet.refl _⟩
    case round =>
      obtain ⟨k, hk, rfl, hqu⟩ := hrel
      have HQU := Lib.hid hqu
      have hkq : k ≤ q := by rw [← HQ.out]; exact hk
      clear hqu hk
      by_cases hlt : k < q
      · obtain ⟨p, hp⟩ : ∃ p, out[k]? = some p := ⟨_, List.getElem?_eq_getElem (by have := HQ.out; omega)⟩
        obtain ⟨b1, o1, rfl, -, p1, p2, i1, i2⟩ := api_DPair_elem (HA1.out _ HQU.out) hp
        have HLO : Hid (∀ n', Calls Try.prog 62 #[.slice a m c, .int .i64 p.I, .int .i64 p.J] (wr.drewN n') fun e w' => e = .returned (.bool true) ∧ wr.drewN n' = w') := fun n' => by
          have h1 := lockOrders_any (c := c) (a := p.I) (b := p.J) HM.out (HA2.out _ (quiet_drew HQU.out n'))
          rw [order_is (by rw [← HOUT.out]; exact hp)] at h1
          exact h1
        have HP := Lib.hid hp
        clear hp
        by_cases hk0 : k = 0
        · subst hk0
          simp only [Nat.zero_mul, Nat.add_zero] at p1 p2
          go_wp2_with fail
          first | (refine wp_region_quiet_lit (by kernel_rfl) (by kernel_rfl) ?_; (repeat (go_big_quiet_step ((go_at_call 62; exact quiet_of_eq (HLO.out _))))); refine wpQuiet_nil ?_; intro _ hw'; obtain ⟨nq, hw''⟩ := hw'; subst hw'')
          clear HLO p1 p2 i1 i2
          go_wp2_with fail
          go_roundw
          case rel => exact ⟨1, by rw [HQ.out]; exact hlt, rfl, quiet_drew HQU.out nq⟩
          case measure => simp [intOf]; omega
        · obtain ⟨r, hr⟩ : ∃ r, out[k - 1]? = some r := ⟨_, List.getElem?_eq_getElem (by have := HQ.out; omega)⟩
          obtain ⟨b2, o2, e2, -, r1, r2, j1, j2⟩ := api_DPair_elem (HA1.out _ HQU.out) hr
          injection e2 with e2
          injection e2 with e2 e3
          subst e2 e3
          have hlp := order_next (l := l1) (k := k) (p := p) (q := r) (by omega) (by rw [← HOUT.out]; exact HP.out) (by rw [← HOUT.out]; exact hr)
          have hkd : decide ((0 : Int) < (k : Int)) = true := by simp; omega
          have hkd2 : 0 < k := by omega
          have hsub : IntKind.i64.wrap ((k : Int) - 1) = ((k - 1 : Nat) : Int) := by rw [IntKind.wrap_i64]; omega
          have hkn : k - 1 < q := by omega
          have hcase : (decide (p.I < r.I) = false ∧ (p.I == r.I) = false) ∨ (decide (p.I < r.I) = false ∧ (p.I == r.I) = true ∧ decide (p.J ≤ r.J) = false) := by
            unfold ltPair at hlp
            rcases hlp with h | ⟨h, h'⟩
            · left; simp; omega
            · right; simp; omega
          clear hr hlp hk0
          rcases hcase with ⟨d1, d2⟩ | ⟨d1, d2, d3⟩
          all_goals
            go_wp2_with fail
            first | (refine wp_region_quiet_lit (by kernel_rfl) (by kernel_rfl) ?_; (repeat (go_big_quiet_step ((go_at_call 62; exact quiet_of_eq (HLO.out _))))); refine wpQuiet_nil ?_; intro _ hw'; obtain ⟨nq, hw''⟩ := hw'; subst hw'')
            clear hsub HLO p1 p2 i1 i2 r1 r2 j1 j2
            go_wp2_with fail
            go_roundw
            case rel => exact ⟨k + 1, by rw [HQ.out]; exact hlt, by go_num, quiet_drew HQU.out nq⟩
            case measure => simp [intOf]; omega
      · obtain rfl : k = q := by omega
        go_wp2_with fail
        obtain ⟨wo, hwo⟩ : ∃ wo : World, wo = wr := ⟨_, rfl⟩
        rw [← hwo] at HQU ⊢
        clear hwo
        go_loopw [6] (l2Rel w1 m) (fun i _ => m - (intOf i).toNat)
        case atStart => exact ⟨0, Nat.zero_le _, rfl, HQU.out⟩
        case round =>
          clear HQU
          obtain ⟨i, hi, rfl, hqu⟩ := hrel
          have HQU := Lib.hid hqu
          clear hqu
          by_cases him : i < m
          · obtain ⟨x, hx⟩ : ∃ x, l1[i]? = some x := ⟨_, List.getElem?_eq_getElem (by have := HM.out; omega)⟩
            have HX := Lib.hid hx
            clear hx
            go_wp2_with fail
            obtain ⟨wo, hwo⟩ : ∃ wo : World, wo = wr := ⟨_, rfl⟩
            rw [← hwo] at HQU ⊢
            clear hwo
            go_loopw [7] (l2Rel w1 i) (fun k _ => i - (intOf k).toNat)
            case atStart => exact ⟨0, Nat.zero_le _, rfl, HQU.out⟩
            case round =>
              clear HQU
              obtain ⟨j, hj, rfl, hqu⟩ := hrel
              have HQU := Lib.hid hqu
              clear hqu
              by_cases hji : j < i
              · obtain ⟨y, hy⟩ : ∃ y, l1[j]? = some y := ⟨_, List.getElem?_eq_getElem (by have := HM.out; omega)⟩
                have hjm : j < m := by omega
                have HY := Lib.hid hy
                obtain ⟨b1, o1, rfl, -, p0, p1, p2, p3, p4, p5, p6, p7, p8, p9, p10, p11, -⟩ := api_Event_elem (HA2.out _ HQU.out) HX.out
                obtain ⟨b2, o2, e2, -, r0, r1, r2, r3, r4, r5, r6, r7, r8, r9, r10, r11, -⟩ := api_Event_elem (HA2.out _ HQU.out) hy
                injection e2 with e2
                injection e2 with e2 e3
                subst e2 e3
                clear p1 p2 p3 p4 p5 p7 p8 p9 p10 p11 r1 r2 r3 r4 r5 r7 r8 r9 r10 r11 hy
                have hcase : (x.Kind != 13) = true ∨ ((x.Kind != 13) = false ∧ (y.Kind != 13) = true) ∨ ((x.Kind != 13) = false ∧ (y.Kind != 13) = false) := by
                  by_cases h1 : x.Kind = 13 <;> by_cases h2 : y.Kind = 13 <;> simp [h1, h2]
                have HLO : Hid (∀ n', Calls Try.prog 62 #[.slice (some ⟨b1, o1, none⟩) m c, .int .i64 y.A, .int .i64 x.A] (wr.drewN n') fun e w' => e = .returned (.bool (ordB l1 y.A x.A)) ∧ wr.drewN n' = w') := fun n' => lockOrders_any (c := c) HM.out (HA2.out _ (quiet_drew HQU.out n'))
                rcases hcase with d1 | ⟨d1, d2⟩ | ⟨d1, d2⟩
                · go_wp2_with fail
                  first | (refine wp_region_quiet_lit (by kernel_rfl) (by kernel_rfl) ?_; (repeat (go_big_quiet_step (fail))); refine wpQuiet_nil ?_; intro _ hw'; obtain ⟨nq, hw''⟩ := hw'; subst hw'')
                  clear p0 p6 r0 r6
                  go_wp2_with fail
                  go_roundw
                  case rel => exact ⟨j + 1, hji, by go_num, quiet_drew HQU.out nq⟩
                  case measure => simp [intOf]; omega
                · go_wp2_with fail
                  first | (refine wp_region_quiet_lit (by kernel_rfl) (by kernel_rfl) ?_; (repeat (go_big_quiet_step (fail))); refine wpQuiet_nil ?_; intro _ hw'; obtain ⟨nq, hw''⟩ := hw'; subst hw'')
                  clear p0 p6 r0 r6
                  go_wp2_with fail
                  go_roundw
                  case rel => exact ⟨j + 1, hji, by go_num, quiet_drew HQU.out nq⟩
                  case measure => simp [intOf]; omega
                · cases hob : ordB l1 y.A x.A with
                  | false =>
                    rw [hob] at HLO
                    clear hob
                    go_wp2_with fail
                    first | (refine wp_region_quiet_lit (by kernel_rfl) (by kernel_rfl) ?_; (repeat (go_big_quiet_step ((go_at_call 62; exact quiet_of_eq (HLO.out _))))); refine wpQuiet_nil ?_; intro _ hw'; obtain ⟨nq, hw''⟩ := hw'; subst hw'')
                    clear p0 p6 r0 r6
                    go_wp2_with fail
                    go_roundw
                    case rel => exact ⟨j + 1, hji, by go_num, quiet_drew HQU.out nq⟩
                    case measure => simp [intOf]; omega
                  | true =>
                    rw [hob] at HLO
                    have HMEM : Hid ((⟨y.A, x.A⟩ : Api.DPair) ∈ out) := by show _ ∈ _; rw [HOUT.out]; exact order_has hob
                    clear hob
                    go_wp2_with fail
                    first | (refine wp_region_quiet_lit (by kernel_rfl) (by kernel_rfl) ?_; (repeat (go_big_quiet_step ((go_at_call 62; exact quiet_of_eq (HLO.out _))))); refine wpQuiet_nil ?_; intro _ hw'; obtain ⟨nq, hw''⟩ := hw'; subst hw'')
                    clear p0 p6 r0 r6 HLO
                    go_wp2_with fail
                    obtain ⟨wo, hwo⟩ : ∃ wo : World, wo = wr.drewN nq := ⟨_, rfl⟩
                    have HQU2 : Hid (Quiet w1 wo) := by show Quiet _ _; rw [hwo]; exact quiet_drew HQU.out nq
                    rw [← hwo]
                    clear hwo HQU
                    go_loopw [8, 9] (l4Rel w1 out ⟨y.A, x.A⟩) (fun _ t _ => k - (intOf t).toNat)
                    case atStart => exact ⟨0, Nat.zero_le _, rfl, by simp, HQU2.out⟩
                    case round =>
                      clear HQU2
                      obtain ⟨t, ht, rfl, rfl, hqu⟩ := hrel
                      have HQU := Lib.hid hqu
                      rw [HQ.out] at ht
                      clear hqu
                      by_cases htk : t < k
                      · obtain ⟨z, hz⟩ : ∃ z, out[t]? = some z := ⟨_, List.getElem?_eq_getElem (by have := HQ.out; omega)⟩
                        have HSUC : Hid (decide ((⟨y.A, x.A⟩ : Api.DPair) ∈ out.take (t + 1)) = (decide ((⟨y.A, x.A⟩ : Api.DPair) ∈ out.take t) || decide (z = ⟨y.A, x.A⟩))) := by
                          show _ = _
                          rw [List.take_add_one, hz, ← Bool.decide_or]
                          congr 1
                          simp [eq_comm]
                        cases hin : decide ((⟨y.A, x.A⟩ : Api.DPair) ∈ out.take t) with
                        | true =>
                          rw [hin, Bool.true_or] at HSUC
                          clear hin hz
                          go_wp2_with fail
                          first | (refine wp_region_quiet_lit (by kernel_rfl) (by kernel_rfl) ?_; (repeat (go_big_quiet_step (fail))); refine wpQuiet_nil ?_; intro _ hw'; obtain ⟨nq, hw''⟩ := hw'; subst hw'')
                          go_wp2_with fail
                          go_roundw
                          case rel => exact ⟨t + 1, by rw [HQ.out]; exact htk, by go_num, by rw [HSUC.out], quiet_drew HQU.out nq⟩
                          case measure => simp [intOf]; omega
                        | false =>
                          rw [hin, Bool.false_or] at HSUC
                          obtain ⟨b3, o3, rfl, -, z1, z2, -⟩ := api_DPair_elem (HA1.out _ HQU.out) hz
                          obtain ⟨b4, o4, e2, -, r0, r1, r2, r3, r4, r5, r6, r7, r8, r9, r10, r11, -⟩ := api_Event_elem (HA2.out _ HQU.out) HY.out
                          injection e2 with e2
                          injection e2 with e2 e3
                          subst e2 e3
                          obtain ⟨b4, o4, e2, -, p0, p1, p2, p3, p4, p5, p6, p7, p8, p9, p10, p11, -⟩ := api_Event_elem (HA2.out _ HQU.out) HX.out
                          injection e2 with e2
                          injection e2 with e2 e3
                          subst e2 e3
                          clear p0 p1 p2 p3 p4 p5 p7 p8 p9 p10 p11 r0 r1 r2 r3 r4 r5 r7 r8 r9 r10 r11 hz hin
                          have hcase : ((z.I == y.A) = false ∧ decide (z = ⟨y.A, x.A⟩) = false) ∨ ((z.I == y.A) = true ∧ (z.J == x.A) = false ∧ decide (z = ⟨y.A, x.A⟩) = false) ∨ ((z.I == y.A) = true ∧ (z.J == x.A) = true ∧ decide (z = ⟨y.A, x.A⟩) = true) := by
                            cases z with
                            | mk zi zj => by_cases e1 : zi = y.A <;> by_cases e2 : zj = x.A <;> simp [e1, e2]
                          rcases hcase with ⟨d1, hd⟩ | ⟨d1, d2, hd⟩ | ⟨d1, d2, hd⟩
                          all_goals
                            rw [hd] at HSUC
                            clear hd
                            go_wp2_with fail
                            first | (refine wp_region_quiet_lit (by kernel_rfl) (by kernel_rfl) ?_; (repeat (go_big_quiet_step (fail))); refine wpQuiet_nil ?_; intro _ hw'; obtain ⟨nq, hw''⟩ := hw'; subst hw'')
                            clear z1 z2 p6 r6
                            go_wp2_with fail
                            go_roundw
                            case rel => exact ⟨t + 1, by rw [HQ.out]; exact htk, by go_num, by rw [HSUC.out], quiet_drew HQU.out nq⟩
                            case measure => simp [intOf]; omega
                      · obtain rfl : t = k := by omega
                        have hin : decide ((⟨y.A, x.A⟩ : Api.DPair) ∈ out.take t) = true := by
                          rw [List.take_of_length_le (by rw [HQ.out]; exact Nat.le_refl _)]
                          exact decide_eq_true HMEM.out
                        rw [hin]
                        clear hin
                        go_wp2_with fail
                        go_roundw
                        case rel => exact ⟨j + 1, hji, by go_num, HQU.out⟩
                        case measure => simp [intOf]; omega
              · obtain rfl : j = i := by omega
                go_wp2_with fail
                go_roundw
                case rel => exact ⟨j + 1, him, by go_num, HQU.out⟩
                case measure => simp [intOf]; omega
          · obtain rfl : i = m := by omega
            go_wp2_with fail
            go_ret
            exact ⟨rfl, HB.out.trans ((HQU.out.below _).mono HB.out.size)⟩
end Go.Proofs.Ytfdpannanpipdaa.lock
