/- The errors of lists of what hangs on what, walked. -/
import Derived.Test.YtfdpannanpipdaaSlicePlain
import Derived.Test.YtfdpannanpipdaaFuncs
import Derived.Test.YtfdpannanpipdaaSame
import Derived.Test.YtfdpannanpipdaaApp
set_option linter.unusedVariables false
set_option linter.unusedSimpArgs false
namespace Go.Proofs.Ytfdpannanpipdaa.slice
open Go.Bk Go.RowKit

def ferrRel (w : World) (l : List Api.DDep) (i : Value) (w' : World) : Prop := ∃ k : Nat, k ≤ l.length ∧ i = .int .i64 k ∧ okTo l k ∧ Quiet w w'
def uerrRel (w : World) (d : Api.DDep) (k : Nat) (i : Value) (w' : World) : Prop := ∃ j : Nat, j ≤ d.Uses.length ∧ i = .int .i64 j ∧ ((d.Uses.take j).all fun u => decide (0 ≤ u) && decide (u < k)) = true ∧ Quiet w w'
def perrRel (w : World) (l : List Api.DDep) (ps : List Int) (i : Value) (w' : World) : Prop := ∃ j : Nat, j ≤ ps.length ∧ i = .int .i64 j ∧ ((ps.take j).all (inLen l)) = true ∧ Quiet w w'

theorem all_take_succ {ps : List Int} {p : Int → Bool} {j : Nat} {u : Int} (h : ps[j]? = some u) (ha : (ps.take j).all p = true) (hu : p u = true) : (ps.take (j + 1)).all p = true := by
  rw [List.take_add_one, h, List.all_append, ha]; simp [hu]
theorem all_false {ps : List Int} {p : Int → Bool} {j : Nat} {u : Int} (h : ps[j]? = some u) (hu : p u = false) : ps.all p = false := by
  rw [← Bool.not_eq_true]; intro ha
  have := List.all_eq_true.1 ha u (List.mem_of_getElem? h)
  rw [hu] at this; cases this

set_option maxRecDepth 100000 in
set_option maxHeartbeats 1000000 in
theorem rerr_any {S S2 : Nat → Prop} {w : World} {a a2 : Option Addr} {c c2 : Nat} {l : List Api.DDep} {ps : List Int} (h : Arr S w a l) (h2 : Arr S2 w a2 ps) :
    Calls Try.prog 84 #[.slice a l.length c, .slice a2 ps.length c2] w fun e w' => e = .returned (.int .i64 (errOf l ps)) ∧ Quiet w w' := by
  have hm := h.small; have hm2 := h2.small
  unfold maxLen at hm hm2
  by_cases hl : 200 < l.length
  · have HE := Lib.hid (errOf_large (p := ps) hl)
    go_enter Try.func84, Try.ntmps84
    go_wp2
    go_ret
    exact ⟨by rw [HE.out]; rfl, Quiet.refl _⟩
  have HL := Lib.hid hl
  obtain ⟨n, hn⟩ : ∃ n, n = l.length := ⟨_, rfl⟩
  obtain ⟨n2, hn2⟩ : ∃ n, n = ps.length := ⟨_, rfl⟩
  rw [← hn] at hm hl; rw [← hn]; rw [← hn2] at hm2; rw [← hn2]
  have HN := Lib.hid hn; have HN2 := Lib.hid hn2
  have hl' : n ≤ 200 := by omega
  clear hn hn2 hl
  go_enter Try.func84, Try.ntmps84
  go_wp2
  go_loopw [5] (ferrRel w l) (fun i _ => n - (intOf i).toNat)
  case atStart => exact ⟨0, Nat.zero_le _, rfl, fun i d hi => by omega, Quiet.refl _⟩
  case round =>
    obtain ⟨k, hk, rfl, hok, hq⟩ := hrel
    have hk : k ≤ n := by have := HN.out; omega
    have HQ := Lib.hid hq; have HO := Lib.hid hok
    have h' := h.keep (w' := wr) (fun b _ => hq.heap b)
    clear hok hq
    by_cases hlt : k < n
    · obtain ⟨d, hd⟩ : ∃ y, l[k]? = some y := ⟨_, List.getElem?_eq_getElem (by have := HN.out; omega)⟩
      have HD := Lib.hid hd; have HA := Lib.hid h'
      clear hd h'
      obtain ⟨wo, rfl⟩ : ∃ wo : World, wo = wr := ⟨_, rfl⟩
      go_wp2
      go_loopw [6] (uerrRel wo d k) (fun i _ => d.Uses.length - (intOf i).toNat)
      case atStart => exact ⟨0, Nat.zero_le _, rfl, rfl, Quiet.refl _⟩
      case round =>
        obtain ⟨j, hj, rfl, hall, hq⟩ := hrel
        have HQ2 := Lib.hid hq; have HU := Lib.hid hall
        obtain ⟨b, off, a0, c0, rfl, -, q1, hcap, -, hau⟩ := api_DDep_elem (HA.out.keep (w' := wr) (fun b _ => hq.heap b)) HD.out
        have hmu := hau.small
        unfold maxLen at hmu
        have hwk : IntKind.i64.wrap ((k : Int) - 1) = (k : Int) - 1 := IntWalk.i64_in _ (by omega)
        clear hall hq
        by_cases hjl : j < d.Uses.length
        · obtain ⟨u, hu⟩ : ∃ y, d.Uses[j]? = some y := ⟨_, List.getElem?_eq_getElem hjl⟩
          obtain ⟨b2, off2, rfl, -, q2, hi⟩ := arr_int hau hu
          have HUU := Lib.hid hu
          clear hau hu
          by_cases hub : 0 ≤ u ∧ u ≤ (k : Int) - 1
          · have HP : Hid ((fun u => decide (0 ≤ u) && decide (u < (k : Int))) u = true) := by show _ = _; simp; omega
            go_wp2_with (with_reducible refine (between_true hub.1 hub.2).mono ?_; rintro e w' ⟨rfl, rfl⟩)
            go_roundw
            case rel => exact ⟨j + 1, by omega, by go_num, all_take_succ HUU.out HU.out HP.out, HQ2.out⟩
            case measure => simp [intOf]; omega
          · have hub' : u < 0 ∨ (k : Int) - 1 < u := by omega
            have HP : Hid ((fun u => decide (0 ≤ u) && decide (u < (k : Int))) u = false) := by show _ = _; simp; omega
            clear hub
            go_wp2_with (with_reducible refine (between_false hub').mono ?_; rintro e w' ⟨rfl, rfl⟩)
            go_ret
            exact ⟨by rw [errOf_form HL.out HD.out (all_false HUU.out HP.out)]; rfl, HQ.out.trans HQ2.out⟩
        · obtain rfl : j = d.Uses.length := by omega
          have HS : Hid (okTo l (k + 1)) := okTo_succ HO.out HD.out (by have := HU.out; rwa [List.take_length] at this)
          clear hau
          go_wp2
          go_roundw
          case rel => exact ⟨k + 1, by have := HN.out; omega, by go_num, HS.out, HQ.out.trans HQ2.out⟩
          case measure => simp [intOf]; omega
    · obtain rfl : k = n := by omega
      have HV : Hid (Valid l) := by show okTo l l.length; rw [← HN.out]; exact HO.out
      clear h' hlt
      obtain ⟨wo, rfl⟩ : ∃ wo : World, wo = wr := ⟨_, rfl⟩
      go_wp2
      go_loopw [7] (perrRel w l ps) (fun i _ => n2 - (intOf i).toNat)
      case atStart => exact ⟨0, Nat.zero_le _, rfl, rfl, HQ.out⟩
      case round =>
        obtain ⟨j, hj, rfl, hall, hq⟩ := hrel
        have hj : j ≤ n2 := by have := HN2.out; omega
        have HQ2 := Lib.hid hq; have HU := Lib.hid hall
        have g2 := h2.keep (w' := wr) (fun b _ => hq.heap b)
        have hwk : IntKind.i64.wrap ((k : Int) - 1) = (k : Int) - 1 := IntWalk.i64_in _ (by omega)
        clear hall hq
        by_cases hjl : j < n2
        · obtain ⟨u, hu⟩ : ∃ y, ps[j]? = some y := ⟨_, List.getElem?_eq_getElem (by have := HN2.out; omega)⟩
          obtain ⟨b2, off2, rfl, -, q2, hi⟩ := arr_int g2 hu
          have HUU := Lib.hid hu
          clear g2 hu
          by_cases hub : 0 ≤ u ∧ u ≤ (k : Int) - 1
          · have HP : Hid (inLen l u = true) := by show _ = _; rw [inLen, ← HN.out]; simp; omega
            go_wp2_with (with_reducible refine (between_true hub.1 hub.2).mono ?_; rintro e w' ⟨rfl, rfl⟩)
            go_roundw
            case rel => exact ⟨j + 1, by have := HN2.out; omega, by go_num, all_take_succ HUU.out HU.out HP.out, HQ2.out⟩
            case measure => simp [intOf]; omega
          · have hub' : u < 0 ∨ (k : Int) - 1 < u := by omega
            have HP : Hid (inLen l u = false) := by show _ = _; rw [inLen, ← HN.out]; simp; omega
            clear hub
            go_wp2_with (with_reducible refine (between_false hub').mono ?_; rintro e w' ⟨rfl, rfl⟩)
            go_ret
            exact ⟨by rw [errOf_place HL.out HV.out (List.mem_of_getElem? HUU.out) HP.out]; rfl, HQ2.out⟩
        · obtain rfl : j = n2 := by omega
          have HE : Hid (errOf l ps = 0) := errOf_ok HL.out HV.out (by have := HU.out; rwa [HN2.out, List.take_length] at this)
          clear g2
          go_wp2
          go_ret
          exact ⟨by rw [HE.out]; rfl, HQ2.out⟩
end Go.Proofs.Ytfdpannanpipdaa.slice
