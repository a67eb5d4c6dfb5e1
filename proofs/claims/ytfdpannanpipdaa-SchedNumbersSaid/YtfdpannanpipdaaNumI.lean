/- The rank of an interleaving: the document's, walked. -/
import Derived.Test.YtfdpannanpipdaaNumH
import Derived.Test.YtfdpannanpipdaaSteps
import Derived.Test.YtfdpannanpipdaaRange
set_option linter.unusedVariables false
set_option linter.unusedSimpArgs false
namespace Go.Proofs.Ytfdpannanpipdaa.num
open Go.Bk Go.RowKit Go.Shelf

def rkI (qs : List Nat) (l : List Int) : Int := match rk qs l with
  | none => -1
  | some r => r
theorem below_dr {w W : World} (h : Below w.heap.size w W) : Below w.heap.size w W.drew := h.drew
theorem between_num {w : World} {x lo hi : Int} : Calls Try.prog 67 #[.int .i64 x, .int .i64 lo, .int .i64 hi] w fun e w' => e = .returned (.bool (decide (lo ≤ x ∧ x ≤ hi))) ∧ w = w' := by
  by_cases h1 : lo ≤ x <;> by_cases h2 : x ≤ hi <;> (go_enter Try.func67, Try.ntmps67; go_wp2_with fail; go_ret; refine ⟨?_, by first | rfl | trivial⟩; simp [h1, h2, results, Try.func67, go_sem])
def RRankPost (qs : List Nat) (l : List Int) (w : World) (e : Ending) (w' : World) : Prop := e = .returned (.int .i64 (rkI qs l)) ∧ Below w.heap.size w w'
def RRank (l : List Int) : Prop := ∀ (qs : List Nat) (S S2 : Nat → Prop) (w : World) (a a2 : Option Addr) (c n c2 n2 : Nat), qs.length = n → l.length = n2 → Arr S w a (ints qs) → (∀ b, S b → b < w.heap.size) → (a = none → c = 0) → n ≤ c → n ≤ 8 → qs.sum ≤ 12 →
    Arr S2 w a2 l → (∀ b, S2 b → b < w.heap.size) → n2 ≤ c2 → n2 ≤ 12 → Calls Try.prog 31 #[.slice a n c, .slice a2 n2 c2] w (RRankPost qs l w)

set_option maxRecDepth 100000 in
set_option maxHeartbeats 2000000 in
theorem rrank_nil : RRank [] := by
  intro qs S S2 w a a2 c n c2 n2 hn hn2 h hS hnil hnc hn8 hs12 h2 hS2 hc2 hl12
  obtain rfl : n2 = 0 := hn2.symm
  have HN := Lib.hid hn
  obtain ⟨R, hR⟩ : ∃ R, R = rkI qs [] := ⟨_, rfl⟩
  have HR : Hid (R = if qs.sum = 0 then 0 else -1) := by
    show _ = _
    rw [hR]
    unfold rkI rk
    by_cases h0 : qs.sum = 0
    · rw [if_pos h0, if_pos h0]; rfl
    · rw [if_neg h0, if_neg h0]
  unfold RRankPost
  rw [← hR]
  clear hR hn h2
  go_enter Try.func31, Try.ntmps31
  go_wp2_with fail
  go_loopw [5] (fun i w' => ∃ k : Nat, k ≤ n ∧ i = .int .i64 k ∧ (qs.take k).sum = 0 ∧ w = w') (fun i _ => n - (intOf i).toNat)
  case atStart => exact ⟨0, Nat.zero_le _, rfl, by simp, rfl⟩
  case round =>
    obtain ⟨k, hk, rfl, hz, rfl⟩ := hrel
    have HZ := Lib.hid hz
    clear hz
    by_cases hlt : k < n
    · obtain ⟨q, hq⟩ : ∃ x, qs[k]? = some x := ⟨_, List.getElem?_eq_getElem (by have := HN.out; omega)⟩
      obtain ⟨b0, o0, rfl, -, q0, iq⟩ := arr_int h (ints_get hq)
      have HT := Lib.hid (take_succ_sum hq)
      have hle := take_sum_le qs (k + 1)
      clear hq
      by_cases hq0 : 0 < q
      · have HRE : Hid (R = -1) := by show _ = _; rw [HR.out, if_neg (by have := HT.out; omega)]
        clear hle
        go_wp2_with fail
        go_ret
        exact ⟨by rw [HRE.out]; rfl, Below.refl _ _⟩
      · clear hle
        go_wp2_with fail
        go_roundw
        case rel => exact ⟨k + 1, by omega, by go_num, by rw [HT.out, HZ.out]; omega, by first | rfl | trivial⟩
        case measure => simp [intOf]; omega
    · obtain rfl : k = n := by omega
      have HRE : Hid (R = 0) := by
        show _ = _
        have := HZ.out
        rw [← HN.out, List.take_length] at this
        rw [HR.out, if_pos this]
      go_wp2_with fail
      go_ret
      exact ⟨by rw [HRE.out]; rfl, Below.refl _ _⟩

set_option maxRecDepth 100000 in
set_option maxHeartbeats 2000000 in
theorem rrank_cons {x : Int} {l : List Int} (ih : RRank l) : RRank (x :: l) := by
  intro qs S S2 w a a2 c n c2 n2 hn hn2 h hS hnil hnc hn8 hs12 h2 hS2 hc2 hl12
  have HIH := Lib.hid ih
  obtain ⟨n3, rfl⟩ : ∃ n3, n2 = n3 + 1 := ⟨l.length, by simpa using hn2.symm⟩
  have HN := Lib.hid hn
  have HN3 : Hid (l.length = n3) := by show _ = _; simpa using hn2
  have HNI := Lib.hid hnil
  have HAA : Hid (∀ W, Below w.heap.size w W → Arr (· < W.heap.size) W a (ints qs)) := fun W hW => (h.keep fun b hb => hW.block b (hS b hb)).mono fun b hb => Nat.lt_of_lt_of_le (hS b hb) hW.size
  have HA2 : Hid (∀ W, Below w.heap.size w W → Arr (· < W.heap.size) W a2 (x :: l)) := fun W hW => (h2.keep fun b hb => hW.block b (hS2 b hb)).mono fun b hb => Nat.lt_of_lt_of_le (hS2 b hb) hW.size
  obtain ⟨R, hR⟩ : ∃ R, R = rkI qs (x :: l) := ⟨_, rfl⟩
  have HRR := Lib.hid hR
  unfold RRankPost
  rw [← hR]
  obtain ⟨b2, o2, rfl, -, qx, ix⟩ := arr_int h2 (k := 0) rfl
  rw [Nat.add_zero] at qx
  have hne : decide (((n3 : Int) + 1) = 0) = false := decide_eq_false (by omega)
  have HBAD : Hid (x < 0 ∨ (qs.length : Int) ≤ x ∨ qs.getD x.toNat 0 = 0 → R = -1) := fun hb => by
    rw [HRR.out]
    unfold rkI
    rw [rk_cons_bad hb]
  unfold I64 at ix
  clear hn hn2 hnil h2 hR ih
  by_cases hbt : 0 ≤ x ∧ x ≤ (n : Int) - 1
  · obtain ⟨K, rfl⟩ : ∃ K : Nat, x = K := ⟨x.toNat, by omega⟩
    have hKn : K < n := by omega
    have HBT : Hid (decide ((0 : Int) ≤ K ∧ (K : Int) ≤ (n : Int) - 1) = true) := decide_eq_true hbt
    obtain ⟨q, hq⟩ : ∃ x, qs[K]? = some x := ⟨_, List.getElem?_eq_getElem (by have := HN.out; omega)⟩
    obtain ⟨b0, o0, rfl, -, q0, iq⟩ := arr_int h (ints_get hq)
    have HG := Lib.hid (getD_of hq)
    clear hq hbt h
    by_cases hq0 : q = 0
    · subst hq0
      have HRE : Hid (R = -1) := HBAD.out (.inr (.inr (by simpa using HG.out)))
      go_enter Try.func31, Try.ntmps31
      go_wp2_with fail
      refine between_num.mono ?_
      rintro e w' ⟨rfl, rfl⟩
      rw [HBT.out]
      go_wp2_with fail
      go_ret
      exact ⟨by rw [HRE.out]; rfl, Below.refl _ _⟩
    · have hqd : decide ((q : Int) = 0) = false := decide_eq_false (by omega)
      go_enter Try.func31, Try.ntmps31
      go_wp2_with fail
      refine between_num.mono ?_
      rintro e w' ⟨rfl, rfl⟩
      rw [HBT.out]
      go_wp2_with fail
      have hg0 : qs.getD K 0 ≠ 0 := by rw [HG.out]; exact hq0
      have hds := dec_sum qs K hg0
      have HDL : Hid ((dec qs K).length = n) := by show _ = _; rw [dec_len, HN.out]
      have HEL := Lib.hid (enters_of Try.func80 (by kernel_rfl) rfl)
      have HER := Lib.hid (enters_of Try.func31 (by kernel_rfl) rfl)
      obtain ⟨a3, ha3⟩ : ∃ a' : Option Addr, a' = (if c2 = 1 then (some ⟨b2, o2, none⟩ : Option Addr) else some ⟨b2, o2 + 1, none⟩) := ⟨_, rfl⟩
      have HA3 : Hid (∀ W, Below w.heap.size w W → Arr (· < W.heap.size) W a3 l) := fun W hW => by
        have := (HA2.out W hW).from c2 1 (by simp) (by simp; have := HN3.out; omega)
        rw [ha3]
        simpa [show Rep.sz Int = 1 from rfl, Addr.add_lit] using this
      by_cases hc1 : c2 = 1
      · rw [if_pos hc1] at ha3
        obtain rfl : n3 = 0 := by omega
        subst hc1 ha3
        have hge1 : (1 : Int) ≤ ((0 : Nat) : Int) + 1 := by omega
        go_region_law? (first
          | (refine step_call (f := 80) (vs := #[.slice (some ⟨b0, o0, none⟩) n c, .int .i64 (K : Nat)]) rfl rfl (by simp [Act.eval, Act.put]) HEL.out (less_any (k := K) (c := c) HN.out (HAA.out _ (by repeat first | exact Below.refl _ _ | refine below_dr ?_)) (fun b h => h) hKn HNI.out hg0 hn8) fun e w' hp => ?_
             obtain ⟨v1, rfl, hown, hb1⟩ := hp
             obtain ⟨a1, c1, rfl, hc1, hn1, ha1⟩ := own_len (n := n) hown (by rw [ints_len]; exact HDL.out)
             refine ⟨_, rfl, ?_⟩
             have HBW : Hid (Below w.heap.size w w') := (show Below w.heap.size w _ from (by repeat first | exact Below.refl _ _ | refine below_dr ?_)).trans hb1
             clear hown hb1)
          | (refine step_call (f := 31) (vs := #[.slice a1 n c1, .slice (some ⟨b2, o2, none⟩) (0 : Nat) 0]) rfl rfl (by simp [Act.eval, Act.put]) HER.out (HIH.out (dec qs K) _ _ w' a1 _ c1 n 0 0 HDL.out HN3.out ha1 (fun b h => h.2) hn1 hc1 hn8 (by omega) ((HA3.out _ HBW.out)) (fun b h => h) (Nat.le_refl _) (by omega)) fun e w2 hp => ?_
             obtain ⟨rfl, hb2⟩ := hp
             refine ⟨_, rfl, ?_⟩
             have HB2 : Hid (Below w.heap.size w w2) := HBW.out.trans (hb2.mono HBW.out.size)
             clear hb2 ha1))
        all_goals clear HEL HER HIH
        all_goals have hle1 := ways_le (dec qs K)
        all_goals cases hrk : rk (dec qs K) l with
        | none =>
          have HRE : Hid (R = -1) := by
            show _ = _
            rw [HRR.out]
            unfold rkI
            rw [rk_cons_ok (by rw [HN.out]; exact hKn) hg0, hrk]
            rfl
          have hrI : rkI (dec qs K) l = -1 := by unfold rkI; rw [hrk]
          rw [hrI]
          clear hrk
          go_wp2_with fail
          go_ret
          exact ⟨by rw [HRE.out]; rfl, HB2.out⟩
        | some r =>
          have HRE : Hid (R = ((r + pre qs K : Nat) : Int)) := by
            show _ = _
            rw [HRR.out]
            unfold rkI
            rw [rk_cons_ok (by rw [HN.out]; exact hKn) hg0, hrk]
            rfl
          have hrI : rkI (dec qs K) l = (r : Int) := by unfold rkI; rw [hrk]
          have hrw := rk_lt _ _ _ hrk
          have hrb : r ≤ 479001600 := by have := ways_small (qs := dec qs K) (by omega); omega
          rw [hrI]
          clear hrk hrI hrw hle1
          have hrd : decide ((r : Int) < 0) = false := decide_eq_false (by omega)
          go_wp2_with fail
          obtain ⟨wb, hwb⟩ : ∃ wb : World, wb = w2 := ⟨_, rfl⟩
          have HPB : Hid (∀ i, i ≤ n → pre qs i ≤ 479001600) := fun i hi => Nat.le_trans (pre_le_ways qs (by rw [HN.out]; exact hi)) (ways_small hs12)
          go_loopw [6, 7] (preRel wb qs r K) (fun _ k _ => K - (intOf k).toNat)
          case atStart => exact ⟨0, Nat.zero_le _, rfl, by simp [pre], by rw [hwb]; exact Below.refl _ _⟩
          case round =>
            subst hwb
            obtain ⟨i, hi, rfl, rfl, hbi⟩ := hrel
            have HBI := Lib.hid (HB2.out.trans (hbi.mono HB2.out.size))
            have HBJ := Lib.hid hbi
            clear hbi
            obtain ⟨b2', o2', he2, -, qx2, -⟩ := arr_int (HA2.out _ HBI.out) (k := 0) rfl
            obtain ⟨rfl, rfl⟩ : b2 = b2' ∧ o2 = o2' := by simpa using he2
            rw [Nat.add_zero] at qx2
            clear he2
            by_cases hlt2 : i < K
            · obtain ⟨q2, hq2⟩ : ∃ x, qs[i]? = some x := ⟨_, List.getElem?_eq_getElem (by have := HN.out; omega)⟩
              obtain ⟨b0', o0', he0, -, qy, iqy⟩ := arr_int (HAA.out _ HBI.out) (ints_get hq2)
              obtain ⟨rfl, rfl⟩ : b0 = b0' ∧ o0 = o0' := by simpa using he0
              have HG2 := Lib.hid (getD_of hq2)
              have hp1 := HPB.out i (by omega)
              have hp2 := HPB.out (i + 1) (by omega)
              obtain ⟨p, hp⟩ : ∃ p, pre qs i = p := ⟨_, rfl⟩
              have HP := Lib.hid hp
              rw [hp] at hp1
              rw [hp]
              clear he0 hq2 hp
              by_cases hq2 : 0 < q2
              · have hg2 : qs.getD i 0 ≠ 0 := by rw [HG2.out]; omega
                have HWO : Hid (pre qs (i + 1) = p + ways (dec qs i)) := by
                  show pre qs i + wo qs i = _
                  unfold wo
                  rw [if_neg hg2, HP.out]
                rw [HWO.out] at hp2
                have HDS2 : Hid ((dec qs i).sum ≤ 12) := by show _ ≤ _; have := dec_sum qs i hg2; omega
                have HDL2 : Hid ((dec qs i).length = n) := by show _ = _; rw [dec_len, HN.out]
                go_wp2_with fail
                refine (less_any (k := i) (c := c) HN.out (HAA.out _ HBI.out) (fun b h => h) (by omega) HNI.out hg2 hn8).mono ?_
                rintro e w5 ⟨v5, rfl, hown5, hb5⟩
                obtain ⟨a5, c5, rfl, hc5, hn5, ha5⟩ := own_len (n := n) hown5 (by rw [ints_len]; exact HDL2.out)
                have HB5 := Lib.hid (HBJ.out.trans (hb5.mono HBJ.out.size))
                clear hown5 hb5
                go_wp2_with fail
                refine (ways_at HDL2.out ha5 hc5 HDS2.out).mono ?_
                rintro e w' ⟨rfl, rfl⟩
                clear ha5 hg2
                obtain ⟨W2, hW2⟩ : ∃ W2, ways (dec qs i) = W2 := ⟨_, rfl⟩
                rw [hW2] at HWO hp2
                rw [hW2]
                clear hW2
                go_wp2_with fail
                go_roundw
                case rel => exact ⟨i + 1, by omega, by go_num, by rw [HWO.out]; go_num, HB5.out⟩
                case measure => simp [intOf]; omega
              · have HWO : Hid (pre qs (i + 1) = p) := by
                  show pre qs i + wo qs i = _
                  unfold wo
                  rw [if_pos (by rw [HG2.out]; omega), HP.out]; rfl
                go_wp2_with fail
                go_roundw
                case rel => exact ⟨i + 1, by omega, by go_num, by rw [HWO.out], HBJ.out⟩
                case measure => simp [intOf]; omega
            · obtain rfl : i = K := by omega
              go_wp2_with fail
              go_ret
              exact ⟨by rw [HRE.out]; rfl, HBI.out⟩
      · rw [if_neg hc1] at ha3
        subst ha3
        have hge1 : (1 : Int) ≤ (n3 : Int) + 1 := by omega
        go_region_law? (first
          | (refine step_call (f := 80) (vs := #[.slice (some ⟨b0, o0, none⟩) n c, .int .i64 (K : Nat)]) rfl rfl (by simp [Act.eval, Act.put]) HEL.out (less_any (k := K) (c := c) HN.out (HAA.out _ (by repeat first | exact Below.refl _ _ | refine below_dr ?_)) (fun b h => h) hKn HNI.out hg0 hn8) fun e w' hp => ?_
             obtain ⟨v1, rfl, hown, hb1⟩ := hp
             obtain ⟨a1, c1, rfl, hc1, hn1, ha1⟩ := own_len (n := n) hown (by rw [ints_len]; exact HDL.out)
             refine ⟨_, rfl, ?_⟩
             have HBW : Hid (Below w.heap.size w w') := (show Below w.heap.size w _ from (by repeat first | exact Below.refl _ _ | refine below_dr ?_)).trans hb1
             clear hown hb1)
          | (refine step_call (f := 31) (vs := #[.slice a1 n c1, .slice (some ⟨b2, o2 + 1, none⟩) n3 (c2 - 1)]) rfl rfl (by simp [Act.eval, Act.put]) HER.out (HIH.out (dec qs K) _ _ w' a1 _ c1 n _ n3 HDL.out HN3.out ha1 (fun b h => h.2) hn1 hc1 hn8 (by omega) ((HA3.out _ HBW.out)) (fun b h => h) (by omega) (by omega)) fun e w2 hp => ?_
             obtain ⟨rfl, hb2⟩ := hp
             refine ⟨_, rfl, ?_⟩
             have HB2 : Hid (Below w.heap.size w w2) := HBW.out.trans (hb2.mono HBW.out.size)
             clear hb2 ha1))
        all_goals clear HEL HER HIH
        all_goals have hle1 := ways_le (dec qs K)
        all_goals cases hrk : rk (dec qs K) l with
        | none =>
          have HRE : Hid (R = -1) := by
            show _ = _
            rw [HRR.out]
            unfold rkI
            rw [rk_cons_ok (by rw [HN.out]; exact hKn) hg0, hrk]
            rfl
          have hrI : rkI (dec qs K) l = -1 := by unfold rkI; rw [hrk]
          rw [hrI]
          clear hrk
          go_wp2_with fail
          go_ret
          exact ⟨by rw [HRE.out]; rfl, HB2.out⟩
        | some r =>
          have HRE : Hid (R = ((r + pre qs K : Nat) : Int)) := by
            show _ = _
            rw [HRR.out]
            unfold rkI
            rw [rk_cons_ok (by rw [HN.out]; exact hKn) hg0, hrk]
            rfl
          have hrI : rkI (dec qs K) l = (r : Int) := by unfold rkI; rw [hrk]
          have hrw := rk_lt _ _ _ hrk
          have hrb : r ≤ 479001600 := by have := ways_small (qs := dec qs K) (by omega); omega
          rw [hrI]
          clear hrk hrI hrw hle1
          have hrd : decide ((r : Int) < 0) = false := decide_eq_false (by omega)
          go_wp2_with fail
          obtain ⟨wb, hwb⟩ : ∃ wb : World, wb = w2 := ⟨_, rfl⟩
          have HPB : Hid (∀ i, i ≤ n → pre qs i ≤ 479001600) := fun i hi => Nat.le_trans (pre_le_ways qs (by rw [HN.out]; exact hi)) (ways_small hs12)
          go_loopw [6, 7] (preRel wb qs r K) (fun _ k _ => K - (intOf k).toNat)
          case atStart => exact ⟨0, Nat.zero_le _, rfl, by simp [pre], by rw [hwb]; exact Below.refl _ _⟩
          case round =>
            subst hwb
            obtain ⟨i, hi, rfl, rfl, hbi⟩ := hrel
            have HBI := Lib.hid (HB2.out.trans (hbi.mono HB2.out.size))
            have HBJ := Lib.hid hbi
            clear hbi
            obtain ⟨b2', o2', he2, -, qx2, -⟩ := arr_int (HA2.out _ HBI.out) (k := 0) rfl
            obtain ⟨rfl, rfl⟩ : b2 = b2' ∧ o2 = o2' := by simpa using he2
            rw [Nat.add_zero] at qx2
            clear he2
            by_cases hlt2 : i < K
            · obtain ⟨q2, hq2⟩ : ∃ x, qs[i]? = some x := ⟨_, List.getElem?_eq_getElem (by have := HN.out; omega)⟩
              obtain ⟨b0', o0', he0, -, qy, iqy⟩ := arr_int (HAA.out _ HBI.out) (ints_get hq2)
              obtain ⟨rfl, rfl⟩ : b0 = b0' ∧ o0 = o0' := by simpa using he0
              have HG2 := Lib.hid (getD_of hq2)
              have hp1 := HPB.out i (by omega)
              have hp2 := HPB.out (i + 1) (by omega)
              obtain ⟨p, hp⟩ : ∃ p, pre qs i = p := ⟨_, rfl⟩
              have HP := Lib.hid hp
              rw [hp] at hp1
              rw [hp]
              clear he0 hq2 hp
              by_cases hq2 : 0 < q2
              · have hg2 : qs.getD i 0 ≠ 0 := by rw [HG2.out]; omega
                have HWO : Hid (pre qs (i + 1) = p + ways (dec qs i)) := by
                  show pre qs i + wo qs i = _
                  unfold wo
                  rw [if_neg hg2, HP.out]
                rw [HWO.out] at hp2
                have HDS2 : Hid ((dec qs i).sum ≤ 12) := by show _ ≤ _; have := dec_sum qs i hg2; omega
                have HDL2 : Hid ((dec qs i).length = n) := by show _ = _; rw [dec_len, HN.out]
                go_wp2_with fail
                refine (less_any (k := i) (c := c) HN.out (HAA.out _ HBI.out) (fun b h => h) (by omega) HNI.out hg2 hn8).mono ?_
                rintro e w5 ⟨v5, rfl, hown5, hb5⟩
                obtain ⟨a5, c5, rfl, hc5, hn5, ha5⟩ := own_len (n := n) hown5 (by rw [ints_len]; exact HDL2.out)
                have HB5 := Lib.hid (HBJ.out.trans (hb5.mono HBJ.out.size))
                clear hown5 hb5
                go_wp2_with fail
                refine (ways_at HDL2.out ha5 hc5 HDS2.out).mono ?_
                rintro e w' ⟨rfl, rfl⟩
                clear ha5 hg2
                obtain ⟨W2, hW2⟩ : ∃ W2, ways (dec qs i) = W2 := ⟨_, rfl⟩
                rw [hW2] at HWO hp2
                rw [hW2]
                clear hW2
                go_wp2_with fail
                go_roundw
                case rel => exact ⟨i + 1, by omega, by go_num, by rw [HWO.out]; go_num, HB5.out⟩
                case measure => simp [intOf]; omega
              · have HWO : Hid (pre qs (i + 1) = p) := by
                  show pre qs i + wo qs i = _
                  unfold wo
                  rw [if_pos (by rw [HG2.out]; omega), HP.out]; rfl
                go_wp2_with fail
                go_roundw
                case rel => exact ⟨i + 1, by omega, by go_num, by rw [HWO.out], HBJ.out⟩
                case measure => simp [intOf]; omega
            · obtain rfl : i = K := by omega
              go_wp2_with fail
              go_ret
              exact ⟨by rw [HRE.out]; rfl, HBI.out⟩
  · have HBF : Hid (decide ((0 : Int) ≤ x ∧ x ≤ (n : Int) - 1) = false) := decide_eq_false hbt
    have HRE : Hid (R = -1) := HBAD.out (by have := HN.out; omega)
    clear h
    go_enter Try.func31, Try.ntmps31
    go_wp2_with fail
    refine between_num.mono ?_
    rintro e w' ⟨rfl, rfl⟩
    rw [HBF.out]
    go_wp2_with fail
    go_ret
    exact ⟨by rw [HRE.out]; rfl, Below.refl _ _⟩
theorem rrank_any : ∀ l : List Int, RRank l
  | [] => rrank_nil
  | _ :: l => rrank_cons (rrank_any l)
end Go.Proofs.Ytfdpannanpipdaa.num
