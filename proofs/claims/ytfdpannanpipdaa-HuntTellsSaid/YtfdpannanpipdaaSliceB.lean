/- check of lists of what hangs on what, walked. -/
import Derived.Test.YtfdpannanpipdaaSliceA
set_option linter.unusedVariables false
set_option linter.unusedSimpArgs false
namespace Go.Proofs.Ytfdpannanpipdaa.slice
open Go.Bk Go.RowKit

def badUse (k : Nat) (u : Int) : Bool := !(decide (0 ≤ u) && decide (u < (k : Int)))
set_option maxRecDepth 100000 in
theorem checkFn_any {w : World} {n : Int} {k g : Nat} (h : w.cell? ⟨g, 0, none⟩ = some (.int .i64 k)) :
    Calls Try.prog 162 #[.int .i64 n, .pointer (some ⟨g, 0, none⟩)] w fun e w' => e = .returned (.bool (badUse k n)) ∧ Quiet w w' := by
  by_cases h0 : n < 0
  · have hd : decide (n < 0) = true := by simp [h0]
    have HE : Hid (badUse k n = true) := by show _ = _; simp [badUse]; omega
    clear h0
    go_enter Try.func162, Try.ntmps162
    go_wp2
    go_ret
    exact ⟨by rw [HE.out]; rfl, Quiet.refl _⟩
  · have hd : decide (n < 0) = false := by simpa using h0
    by_cases h1 : (k : Int) ≤ n
    · have hd2 : decide ((k : Int) ≤ n) = true := by simp [h1]
      have HE : Hid (badUse k n = true) := by show _ = _; simp [badUse]; omega
      clear h0 h1
      go_enter Try.func162, Try.ntmps162
      go_wp2
      go_ret
      exact ⟨by rw [HE.out]; rfl, Quiet.refl _⟩
    · have hd2 : decide ((k : Int) ≤ n) = false := by simpa using h1
      have HE : Hid (badUse k n = false) := by show _ = _; simp [badUse]; omega
      clear h0 h1
      go_enter Try.func162, Try.ntmps162
      go_wp2
      go_ret
      exact ⟨by rw [HE.out]; rfl, Quiet.refl _⟩

def cerrRel (w : World) (l : List Api.DDep) (i : Value) (w' : World) : Prop := ∃ k : Nat, k ≤ l.length ∧ i = .int .i64 k ∧ okTo l k ∧ Below w.heap.size w w'
def cplRel (w : World) (l : List Api.DDep) (ps : List Int) (i : Value) (w' : World) : Prop := ∃ j : Nat, j ≤ ps.length ∧ i = .int .i64 j ∧ ((ps.take j).all (inLen l)) = true ∧ Below w.heap.size w w'

set_option maxRecDepth 100000 in
set_option maxHeartbeats 1000000 in
theorem check_any {S S2 : Nat → Prop} {w : World} {a a2 : Option Addr} {c c2 : Nat} {l : List Api.DDep} {ps : List Int} (h : Arr S w a l) (h2 : Arr S2 w a2 ps) (hS : ∀ b, S b → b < w.heap.size) (hS2 : ∀ b, S2 b → b < w.heap.size) :
    Calls Try.prog 152 #[.slice a l.length c, .slice a2 ps.length c2] w fun e w' => e = .returned (.int .i64 (errOf l ps)) ∧ Below w.heap.size w w' := by
  have hm := h.small; have hm2 := h2.small
  unfold maxLen at hm hm2
  by_cases hl : 200 < l.length
  · have HE := Lib.hid (errOf_large (p := ps) hl)
    go_enter Try.func152, Try.ntmps152
    go_wp2
    go_ret
    exact ⟨by rw [HE.out]; rfl, Below.refl _ _⟩
  have HL := Lib.hid hl
  obtain ⟨n, hn⟩ : ∃ n, n = l.length := ⟨_, rfl⟩
  obtain ⟨n2, hn2⟩ : ∃ n, n = ps.length := ⟨_, rfl⟩
  rw [← hn] at hm hl; rw [← hn]; rw [← hn2] at hm2; rw [← hn2]
  have HN := Lib.hid hn; have HN2 := Lib.hid hn2
  have hl' : n ≤ 200 := by omega
  have hdl : decide (200 < n) = false := by simpa using hl
  clear hn hn2 hl
  go_enter Try.func152, Try.ntmps152
  go_wp2
  go_loopw [14] (cerrRel w l) (fun i _ => n - (intOf i).toNat)
  case atStart => exact ⟨0, Nat.zero_le _, rfl, fun i d hi => by omega, Below.refl _ _⟩
  case round =>
    obtain ⟨k, hk, rfl, hok, hq⟩ := hrel
    have hk : k ≤ n := by have := HN.out; omega
    have HQ := Lib.hid hq; have HO := Lib.hid hok
    have hbs := hq.size
    have h' := h.keep (w' := wr) (fun b hb => hq.block b (hS b hb))
    clear hok hq
    by_cases hlt : k < n
    · obtain ⟨d, hd⟩ : ∃ y, l[k]? = some y := ⟨_, List.getElem?_eq_getElem (by have := HN.out; omega)⟩
      obtain ⟨b, off, a0, c0, rfl, hSb, q1, hcap, hnil, hau⟩ := api_DDep_elem h' hd
      have hbl : b < wr.heap.size := Nat.lt_of_lt_of_le (hS b hSb) hbs
      have HD := Lib.hid hd; have HA := Lib.hid hau
      clear hd h' hau hnil
      go_wp2_with fail
      refine cut_calls (fun wz => Grow wr wz ∧ wr.heap.size < wz.heap.size ∧ wz.cell? ⟨wr.heap.size, 0, none⟩ = some (.int .i64 k)) ?_ ?_
      · exact ⟨((Below.refl _ _).alloc (Nat.le_refl _) _).alloc (by simp) _, by simp; omega, by simp⟩
      rintro wz ⟨hbz, hsz, hcz⟩
      have hau : Arr S wz a0 d.Uses := HA.out.keep (fun b hb => hbz.block b (Nat.lt_of_lt_of_le (hS b hb) hbs))
      have HC := Lib.hid (containsFunc_any (c := c0) (p := badUse k) (F := 162) (caps := #[.pointer (some ⟨wr.heap.size, 0, none⟩)]) mild_quiet hau (fun b hb => Nat.lt_of_lt_of_le (hS b hb) (Nat.le_trans hbs hbz.size)) (fun y w => Try.call162 _ _) (fun y wx _ _ hq => checkFn_any ((hq.cell _).trans hcz)))
      have HB := Lib.hid (HQ.out.trans (hbz.mono hbs))
      have hanyall : d.Uses.any (badUse k) = !okAt k d := by unfold okAt badUse; rw [List.not_all_eq_any_not]
      rw [hanyall] at HC
      clear hbz hcz hau hanyall HQ
      refine HC.out.mono ?_
      rintro e w3 ⟨rfl, hq3⟩
      have HB3 := Lib.hid (HB.out.trans (hq3.below _))
      clear hq3 HC
      cases hok : okAt k d with
      | false =>
        have HE := Lib.hid (errOf_form (p := ps) HL.out HD.out hok)
        clear hok
        go_wp2
        go_ret
        exact ⟨by rw [HE.out]; rfl, HB3.out⟩
      | true =>
        have HE := Lib.hid (okTo_succ HO.out HD.out hok)
        clear hok
        go_wp2
        go_roundw
        case rel => exact ⟨k + 1, by have := HN.out; omega, by go_num, HE.out, HB3.out⟩
        case measure => simp [intOf]; omega
    · obtain rfl : k = n := by omega
      have HV : Hid (Valid l) := by show okTo l l.length; rw [← HN.out]; exact HO.out
      clear h' hlt
      obtain ⟨wo, rfl⟩ : ∃ wo : World, wo = wr := ⟨_, rfl⟩
      go_wp2
      go_loopw [26] (cplRel w l ps) (fun i _ => n2 - (intOf i).toNat)
      case atStart => exact ⟨0, Nat.zero_le _, rfl, rfl, HQ.out⟩
      case round =>
        obtain ⟨j, hj, rfl, hall, hq⟩ := hrel
        have hj : j ≤ n2 := by have := HN2.out; omega
        have HQ2 := Lib.hid hq; have HU := Lib.hid hall
        have g2 := h2.keep (w' := wr) (fun b hb => hq.block b (hS2 b hb))
        clear hall hq
        by_cases hjl : j < n2
        · obtain ⟨u, hu⟩ : ∃ y, ps[j]? = some y := ⟨_, List.getElem?_eq_getElem (by have := HN2.out; omega)⟩
          obtain ⟨b2, off2, rfl, -, q2, hi⟩ := arr_int g2 hu
          have HUU := Lib.hid hu
          clear g2 hu
          by_cases hub : 0 ≤ u ∧ u < (k : Int)
          · have HP : Hid (inLen l u = true) := by show _ = _; rw [inLen, ← HN.out]; simp; omega
            have hd1 : decide (u < 0) = false := by simp; omega
            have hd2 : decide ((k : Int) ≤ u) = false := by simp; omega
            go_wp2
            go_roundw
            case rel => exact ⟨j + 1, by have := HN2.out; omega, by go_num, all_take_succ HUU.out HU.out HP.out, HQ2.out⟩
            case measure => simp [intOf]; omega
          · have HP : Hid (inLen l u = false) := by show _ = _; rw [inLen, ← HN.out]; simp; omega
            have HE := Lib.hid (errOf_place HL.out HV.out (List.mem_of_getElem? HUU.out) HP.out)
            by_cases h0 : u < 0
            · have hd1 : decide (u < 0) = true := by simp [h0]
              clear h0 hub
              go_wp2
              go_ret
              exact ⟨by rw [HE.out]; rfl, HQ2.out⟩
            · have hd1 : decide (u < 0) = false := by simpa using h0
              have hd2 : decide ((k : Int) ≤ u) = true := by simp; omega
              clear h0 hub
              go_wp2
              go_ret
              exact ⟨by rw [HE.out]; rfl, HQ2.out⟩
        · obtain rfl : j = n2 := by omega
          have HE : Hid (errOf l ps = 0) := errOf_ok HL.out HV.out (by have := HU.out; rwa [HN2.out, List.take_length] at this)
          clear g2
          go_wp2
          go_ret
          exact ⟨by rw [HE.out]; rfl, HQ2.out⟩
end Go.Proofs.Ytfdpannanpipdaa.slice
