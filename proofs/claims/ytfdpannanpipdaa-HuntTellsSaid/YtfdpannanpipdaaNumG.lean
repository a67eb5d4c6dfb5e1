/- The rank of an interleaving: the program's Rank, walked. -/
import Derived.Test.YtfdpannanpipdaaNumF
set_option linter.unusedVariables false
set_option linter.unusedSimpArgs false
namespace Go.Proofs.Ytfdpannanpipdaa.num
open Go.Bk Go.RowKit

def rankOf (l l2 : List Int) : Int × Int :=
  if perr l ≠ 0 then (0, perr l) else match rk (l.map Int.toNat) l2 with
    | none => (0, 3)
    | some r => ((r : Int), 0)
def rankRel (w w1 : World) (v1 : Value) (qs : List Nat) (l2 : List Int) (n i : Value) (w' : World) : Prop :=
  ∃ (k : Nat) (left : List Nat) (m : Nat), k ≤ l2.length ∧ i = .int .i64 k ∧ left.length = qs.length ∧ left.sum ≤ 12 ∧ m ≤ (12 - left.sum) * 479001600 ∧ n = .int .i64 (m : Nat) ∧ rk qs l2 = (rk left (l2.drop k)).map (· + m) ∧
    Own (fun _ => False) w' w.heap.size 3 v1 (ints left) ∧ Below w.heap.size w w' ∧ w1.heap.size ≤ w'.heap.size
def preRel (w2 : World) (left : List Nat) (m K : Nat) (n k : Value) (w' : World) : Prop :=
  ∃ i : Nat, i ≤ K ∧ k = .int .i64 i ∧ n = .int .i64 ((m + pre left i : Nat) : Int) ∧ Below w2.heap.size w2 w'
theorem rk_cons_bad {left : List Nat} {x : Int} {l : List Int} (h : x < 0 ∨ (left.length : Int) ≤ x ∨ left.getD x.toNat 0 = 0) : rk left (x :: l) = none := by
  unfold rk
  rw [if_neg]
  rintro ⟨h1, h2, h3⟩
  rcases h with h | h | h
  · omega
  · omega
  · exact h3 h
theorem rk_cons_ok {left : List Nat} {K : Nat} {l : List Int} (h1 : K < left.length) (h2 : left.getD K 0 ≠ 0) : rk left ((K : Int) :: l) = (rk (dec left K) l).map (· + pre left K) := by
  rw [rk, if_pos ⟨by omega, by omega, by simpa using h2⟩]
  rfl
theorem drop_cons {l : List Int} {k : Nat} {x : Int} (h : l[k]? = some x) : l.drop k = x :: l.drop (k + 1) := by
  obtain ⟨hk, he⟩ := List.getElem?_eq_some_iff.1 h
  rw [List.drop_eq_getElem_cons hk, he]

set_option maxRecDepth 100000 in
set_option maxHeartbeats 2000000 in
theorem rank_any {S S2 : Nat → Prop} {w : World} {a a2 : Option Addr} {c n c2 n2 : Nat} {l l2 : List Int} (hn : l.length = n) (h : Arr S w a l) (hS : ∀ b, S b → b < w.heap.size) (hnil : a = none → c = 0)
    (hn2 : l2.length = n2) (h2 : Arr S2 w a2 l2) (hS2 : ∀ b, S2 b → b < w.heap.size) :
    Calls Try.prog 27 #[.slice a n c, .slice a2 n2 c2] w fun e w' => e = .returned (.tuple #[.int .i64 (rankOf l l2).1, .int .i64 (rankOf l l2).2]) ∧ Below w.heap.size w w' := by
  have HRI := Lib.hid (right_any (c := c) hn h)
  have hsm := h2.small
  rw [hn2] at hsm
  unfold maxLen at hsm
  have HN2 := Lib.hid hn2
  have HA2 : Hid (∀ W, Below w.heap.size w W → Arr S2 W a2 l2) := fun W hW => h2.keep fun b hb => hW.block b (hS2 b hb)
  obtain ⟨R, hR⟩ : ∃ R, R = rankOf l l2 := ⟨_, rfl⟩
  rw [← hR]
  clear hn2 h2
  by_cases h0 : perr l = 0
  · obtain ⟨qs, rfl, h8, h12⟩ := perr_zero h0
    have HR : Hid (R = match rk qs l2 with | none => ((0 : Int), (3 : Int)) | some r => ((r : Int), 0)) := by show _ = _; rw [hR]; unfold rankOf; rw [if_neg (by simp [h0]), toNats]
    have hn' := hn
    rw [ints_len] at hn'
    rw [h0] at HRI
    have HCL := Lib.hid (cloneI_any (n := n) (c := c) hn h hnil hS (by omega))
    have HN := Lib.hid hn'
    clear h0 hn hn' h hnil hR
    go_enter Try.func27, Try.ntmps27
    go_wp2_with fail
    refine HRI.out.mono ?_
    rintro e w' ⟨rfl, rfl⟩
    go_wp2_with fail
    refine HCL.out.mono ?_
    rintro e w1 ⟨v1, rfl, hown, hb⟩
    obtain ⟨al, cl, rfl, hcl, hnl, -⟩ := own_len (n := n) hown (by rw [ints_len]; exact HN.out)
    have HO := Lib.hid hown
    have HB := Lib.hid hb
    clear hown hb HCL HRI
    go_wp2_with fail
    obtain ⟨wz, hwz⟩ : ∃ wz : World, wz = w1 := ⟨_, rfl⟩
    go_loopw [8, 21] (rankRel w wz (.slice al n cl) qs l2) (fun _ i _ => n2 - (intOf i).toNat)
    case atStart => exact ⟨0, qs, 0, Nat.zero_le _, rfl, rfl, h12, by omega, rfl, by simp, HO.out, HB.out, by rw [hwz]; exact Nat.le_refl _⟩
    case round =>
      subst hwz
      obtain ⟨k, left, m, hk, rfl, hll, hls, hmb, rfl, hrk, hleft, hb, hsz⟩ := hrel
      rw [HN2.out] at hk
      have hlen : left.length = n := by rw [hll, HN.out]
      have hn8 : n ≤ 8 := by have := HN.out; omega
      have hmb2 : m ≤ 12 * 479001600 := Nat.le_trans hmb (Nat.mul_le_mul_right _ (by omega))
      have HLL := Lib.hid hlen
      have HLE := Lib.hid hleft
      have HBR := Lib.hid hb
      have hbs := hb.size
      have HMB := Lib.hid hmb
      have HRK := Lib.hid hrk
      clear hleft hb hmb hrk
      by_cases hlt : k < n2
      · obtain ⟨x, hx⟩ : ∃ x, l2[k]? = some x := ⟨_, List.getElem?_eq_getElem (by have := HN2.out; omega)⟩
        obtain ⟨b2, o2, rfl, -, qx, ix⟩ := arr_int (HA2.out _ HBR.out) hx
        have HDR := Lib.hid (drop_cons hx)
        have HBAD : Hid (x < 0 ∨ (left.length : Int) ≤ x ∨ left.getD x.toNat 0 = 0 → R = (0, 3)) := fun hbad => by
          rw [HR.out, HRK.out, HDR.out, rk_cons_bad hbad]
          rfl
        unfold I64 at ix
        clear hx
        by_cases hneg : x < 0
        · have HRE : Hid (R = (0, 3)) := HBAD.out (.inl hneg)
          go_wp2_with fail
          go_ret2
          exact ⟨by rw [HRE.out]; rfl, HBR.out⟩
        · by_cases hge : (n : Int) ≤ x
          · have HRE : Hid (R = (0, 3)) := HBAD.out (.inr (.inl (by rw [hlen]; exact hge)))
            go_wp2_with fail
            go_ret2
            exact ⟨by rw [HRE.out]; rfl, HBR.out⟩
          · obtain ⟨K, rfl⟩ : ∃ K : Nat, x = K := ⟨x.toNat, by omega⟩
            have hKn : K < n := by omega
            obtain ⟨q, hq⟩ : ∃ x, left[K]? = some x := ⟨_, List.getElem?_eq_getElem (by omega)⟩
            obtain ⟨g, cap, hgl, hgB, hgh, -, hcell, hfr, hix, hset⟩ := own_int_at (n := n) HLE.out (by rw [ints_len]; exact hlen) (ints_get hq)
            injection hgl with eg1 _ eg2
            subst eg1 eg2
            by_cases hq0 : q = 0
            · subst hq0
              have HRE : Hid (R = (0, 3)) := HBAD.out (.inr (.inr (by simpa using getD_of hq)))
              clear hset hq
              go_wp2_with fail
              go_ret2
              exact ⟨by rw [HRE.out]; rfl, HBR.out⟩
            · have hdq : decide ((q : Int) = 0) = false := decide_eq_false (by omega)
              have HQ := Lib.hid hq
              clear hset hq HBAD
              go_wp2_with fail
              have HLA : Hid (∀ W, Below wr.heap.size wr W → Arr (· < W.heap.size) W (some ⟨g, 0, none⟩) (ints left)) := fun W hW => ((arr_of_own HLE.out).1.keep (fun b hb => hW.block b (hb.elim (fun h => h.elim) (·.2)))).mono (fun b hb => Nat.lt_of_lt_of_le (hb.elim (fun h => h.elim) (·.2)) hW.size)
              have HPB : Hid (∀ i, i ≤ n → pre left i ≤ 479001600) := fun i hi => Nat.le_trans (pre_le_ways left (by omega)) (ways_small hls)
              obtain ⟨wb, hwb⟩ : ∃ wb : World, wb = wr := ⟨_, rfl⟩
              go_loopw [8, 41] (preRel wb left m K) (fun _ k _ => K - (intOf k).toNat)
              case atStart => exact ⟨0, Nat.zero_le _, rfl, by simp [pre], by rw [hwb]; exact Below.refl _ _⟩
              case round =>
                subst hwb
                obtain ⟨i, hi, rfl, rfl, hbi⟩ := hrel
                have HBI := Lib.hid hbi
                clear hbi
                by_cases hlt2 : i < K
                · have hp1 := HPB.out i (by omega)
                  have hp2 := HPB.out (i + 1) (by omega)
                  have HPS : Hid (pre left (i + 1) = pre left i + wo left i) := rfl
                  rw [HPS.out] at hp2
                  have HW1 := Lib.hid (without_any (k := i) (c := cl) hlen (HLA.out _ HBI.out) (fun b h => h) hls (by omega) (fun h => by cases h) hn8)
                  obtain ⟨u, hu⟩ : ∃ u, wo left i = u := ⟨_, rfl⟩
                  obtain ⟨p, hp⟩ : ∃ p, pre left i = p := ⟨_, rfl⟩
                  rw [hu] at HW1
                  rw [hu, hp] at HPS hp2
                  rw [hp] at hp1
                  rw [hp]
                  clear hu hp
                  go_wp2_with fail
                  refine HW1.out.mono ?_
                  rintro e w3 ⟨rfl, hb3⟩
                  have HB3 := Lib.hid (HBI.out.trans (hb3.mono HBI.out.size))
                  clear hb3 HW1
                  go_wp2_with fail
                  go_roundw
                  case rel => exact ⟨i + 1, by omega, by go_num, by rw [HPS.out]; go_num, HB3.out⟩
                  case measure => simp [intOf]; omega
                · obtain rfl : i = K := by omega
                  have hp1 := HPB.out i (by omega)
                  have hL3 := HLE.out.below HBI.out (fun _ h => h.elim)
                  obtain ⟨g', cap', hgl, hgB', hgh', -, hcell', hfr', hix', hset⟩ := own_int_at (n := n) hL3 (by rw [ints_len]; exact hlen) (ints_get HQ.out)
                  injection hgl with eg1 _ eg2
                  injection eg1 with eg1
                  injection eg1 with eg1 _ _
                  subst eg1 eg2
                  have HSET := Lib.hid (hset ((q : Int) - 1) (by unfold I64 at hix ⊢; omega))
                  have HIQ := Lib.hid (ints_dec HQ.out hq0)
                  have hds := dec_sum left i (by rw [getD_of HQ.out]; exact hq0)
                  have HDS := Lib.hid hds
                  have HBC : Hid (Below w.heap.size w (wr.setCell ⟨g, i, none⟩ (.int .i64 ((q : Int) - 1)))) := (HBR.out.trans (HBI.out.mono HBR.out.size)).setCell (p := ⟨g, i, none⟩) hgB _
                  unfold I64 at hix
                  clear hL3 hset hds hfr hcell
                  go_wp2_with fail
                  go_roundw
                  case rel =>
                    refine ⟨k + 1, dec left i, m + pre left i, by rw [HN2.out]; omega, by go_num, by rw [dec_len, hll], ?_, ?_, rfl, ?_, by rw [← HIQ.out]; exact HSET.out, HBC.out, ?_⟩
                    · have := HDS.out; omega
                    · have := HDS.out
                      have h3 := HMB.out
                      have h4 : (12 - (dec left i).sum) * 479001600 = (12 - left.sum) * 479001600 + 479001600 := by
                        rw [show 12 - (dec left i).sum = (12 - left.sum) + 1 by omega, Nat.add_mul, Nat.one_mul]
                      omega
                    · rw [HRK.out, HDR.out, rk_cons_ok (by omega) (by rw [getD_of HQ.out]; exact hq0)]
                      cases rk (dec left i) (l2.drop (k + 1)) with
                      | none => rfl
                      | some r => simp; omega
                    · simp [World.setCell]
                      exact Nat.le_trans hsz HBI.out.size
                  case measure => simp [intOf]; omega
      · have hkn : k = n2 := by omega
        have hl1 := HLE.out.alloc (.cells #[.int .i64 0] 3) (fun _ h => h.elim)
        obtain ⟨v', wa, hrun, hL, hV, hg⟩ := run_append_keep (P := Try.prog) (t := 30) (ty := 30) Try.underlying30 Try.info3 rfl hl1 (y := 0) (by unfold I64; omega) (gb := wr.heap.size) (c := 1) ((blk_new wr [.int .i64 0] 3).cell (j := 0) rfl) (by rw [ints_len]; omega) (by omega) (by simp; omega)
        obtain ⟨a8, c8, rfl, -, -, hV4⟩ := own_len (n := n + 1) hV (by simp [ints_len, hlen])
        have HBa : Hid (Below w.heap.size w wa) := (below_al HBR.out).grown hg (below_al HBR.out).size (fun r hr => (HO.out.lt r hr).1)
        have HMX := Lib.hid (max_any (n := n + 1) (c := c8) (by simp [ints_len, hlen]) hV4 (by omega) (nonneg_left left))
        have hM := maxI_left left
        obtain ⟨X, hX⟩ : ∃ X, maxI (ints left ++ [0]) = X := ⟨_, rfl⟩
        rw [hX] at HMX hM
        have hrk : rk qs l2 = if left.sum = 0 then some m else none := by
          rw [HRK.out, hkn, List.drop_of_length_le (by rw [HN2.out]; exact Nat.le_refl _), rk]
          split
          · simp
          · rfl
        have HRK2 := Lib.hid hrk
        clear hX hL hV hV4 hg hl1 hrk
        subst hkn
        by_cases hz : left.sum = 0
        · have hX0 : ¬ 0 < X := by have := hM.2 hz; omega
          have HRE : Hid (R = ((m : Int), 0)) := by show _ = _; rw [HR.out, HRK2.out, if_pos hz]
          clear hM hz hlt
          go_wp2_with (at_builtin; refine Lib.wpList_append_run _ rfl _ _ _ _ rfl _ _ rfl rfl (.slice a8 (n + 1) c8) wa (by with_unfolding_all exact hrun) ?_)
          refine HMX.out.mono ?_
          rintro e w' ⟨rfl, rfl⟩
          go_wp2_with fail
          go_ret2
          exact ⟨by rw [HRE.out]; rfl, HBa.out⟩
        · have hX0 : 0 < X := by
            rcases Int.lt_or_le 0 X with h | h
            · exact h
            · exact absurd (hM.1 h) hz
          have HRE : Hid (R = (0, 3)) := by show _ = _; rw [HR.out, HRK2.out, if_neg hz]
          clear hM hz hlt
          go_wp2_with (at_builtin; refine Lib.wpList_append_run _ rfl _ _ _ _ rfl _ _ rfl rfl (.slice a8 (n + 1) c8) wa (by with_unfolding_all exact hrun) ?_)
          refine HMX.out.mono ?_
          rintro e w' ⟨rfl, rfl⟩
          go_wp2_with fail
          go_ret2
          exact ⟨by rw [HRE.out]; rfl, HBa.out⟩
  · have HR : Hid (R = (0, perr l)) := by show _ = _; rw [hR]; unfold rankOf; rw [if_pos h0]
    have hd : decide (perr l = 0) = false := decide_eq_false h0
    obtain ⟨E, hE⟩ : ∃ E, perr l = E := ⟨_, rfl⟩
    rw [hE] at HRI HR hd h0
    clear h hn hE hnil hR
    go_enter Try.func27, Try.ntmps27
    go_wp2_with fail
    refine HRI.out.mono ?_
    rintro e w' ⟨rfl, rfl⟩
    go_wp2_with fail
    go_ret2
    exact ⟨by rw [HR.out]; rfl, Below.refl _ _⟩
end Go.Proofs.Ytfdpannanpipdaa.num
