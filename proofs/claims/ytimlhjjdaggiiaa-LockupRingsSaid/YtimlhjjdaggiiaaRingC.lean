/- The reference's ring of waiting threads, walked. -/
import Derived.Test.YtimlhjjdaggiiaaRingB
set_option linter.unusedVariables false
set_option linter.unusedSimpArgs false
namespace Go.Proofs.Ytimlhjjdaggiiaa.ring
open Go.Bk Go.RowKit

def LockPost (w : World) (R : List Int) (e : Ending) (w' : World) : Prop :=
  ∃ a' c', e = .returned (.slice a' R.length c') ∧ Arr (fun b => w.heap.size ≤ b ∧ b < w'.heap.size) w' a' R ∧ Below w.heap.size w w'
def inRel (w : World) (l : List Api.DWait) (t : Int) (v n i : Value) (w' : World) : Prop :=
  ∃ j : Nat, j ≤ 9 ∧ i = .int .i64 j ∧ (∀ q, q < j → (path l t q).isSome = true ∧ path l t (q + 1) ≠ some t) ∧ Own (fun _ => False) w' w.heap.size 3 v (way l t j) ∧ n = .int .i64 ((path l t j).getD (-1)) ∧ Below w.heap.size w w'

set_option maxRecDepth 100000 in
set_option maxHeartbeats 2000000 in
theorem lockRing_any {S : Nat → Prop} {w : World} {a : Option Addr} {c n : Nat} {l : List Api.DWait} (hn : l.length = n) (h : Arr S w a l) (hS : ∀ b, S b → b < w.heap.size) (he : errOf l = 0) :
    Calls Try.prog 41 #[.slice a n c] w (LockPost w (ringOf l)) := by
  have HTO := Lib.hid (errOf_zero he).2
  have hl := (errOf_zero he).1
  have HN := Lib.hid hn
  have HA : Hid (∀ w', Below w.heap.size w w' → Arr S w' a l) := fun w' hb => h.keep (fun b hb' => hb.block b (hS b hb'))
  clear hn h hS he
  obtain ⟨R, hR⟩ : ∃ R, R = ringOf l := ⟨_, rfl⟩
  rw [← hR]
  have HR := Lib.hid hR
  clear hR
  go_enter Try.func41, Try.ntmps41
  go_wp2_with fail
  go_loopw [3] (fun i w' => ∃ t : Nat, t ≤ 8 ∧ i = .int .i64 t ∧ ringFrom l (8 - t) t = R ∧ Below w.heap.size w w') (fun i _ => 8 - (intOf i).toNat)
  case atStart => exact ⟨0, Nat.zero_le _, rfl, HR.out.symm, Below.refl _ _⟩
  case round =>
    obtain ⟨t, ht, rfl, hrf, hb⟩ := hrel
    have HRF := Lib.hid hrf; have HB1 := Lib.hid hb
    clear hrf hb
    by_cases ht8 : t < 8
    · have hdt : decide ((t : Int) < 8) = true := decide_eq_true (by omega)
      have HTT : Hid (okT (t : Int)) := by show okT _; unfold okT; omega
      go_wp2_with fail
      go_loopw [4, 5, 6] (inRel w l t) (fun _ _ i _ => 9 - (intOf i).toNat)
      case atStart => exact ⟨0, Nat.zero_le _, rfl, fun q hq => by omega, Own.nil _ _ _ _, rfl, HB1.out⟩
      case round =>
        obtain ⟨j, hj, rfl, hall, hown, rfl, hb⟩ := hrel
        have HALL := Lib.hid hall; have HO := Lib.hid hown; have HB := Lib.hid hb
        have hbs := hb.size
        have hwl := way_len l t j
        clear hall hown hb
        by_cases hj9 : j < 9
        · have hd9 : decide (j < 9) = true := decide_eq_true hj9
          cases hp : path l t j with
          | none =>
            have HBK : Hid (back l t = none) := back_none fun i hi => by
              rcases Nat.lt_or_ge i j with h1 | h1
              · exact (HALL.out i h1).2
              · rw [path_none hp (by omega)]; simp
            have HNX := Lib.hid (ring_next HRF.out ht8 HBK.out)
            clear hp
            go_wp2_with fail
            go_roundw
            case rel => exact ⟨t + 1, by omega, by go_num, HNX.out, HB.out⟩
            case measure => simp [intOf]; omega
          | some m =>
            have hm0 : decide (0 ≤ m) = true := decide_eq_true (path_ok HTO.out HTT.out hp).1
            have hmi : I64 m := by have := path_ok HTO.out HTT.out hp; unfold okT at this; unfold I64; omega
            have HP := Lib.hid hp
            have HW2 : Hid (way l t (j + 1) = way l t j ++ [m]) := by show _ = _; rw [way_succ, hp]; rfl
            have HPN : Hid (path l t (j + 1) = nextOf l m) := by show (path l t j).bind _ = _; rw [hp]; rfl
            have hcell : ∀ w0 : World, Rep.cells (α := Int) (fun _ => False) w0 [.int .i64 m] m := fun _ => ⟨rfl, hmi⟩
            clear hp
            by_cases hb : nextOf l m = some (t : Int)
            · have HBK : Hid (back l t = some j) := back_some hj9 (fun i hi => (HALL.out i hi).2) (by rw [HPN.out, hb])
              have HRR := Lib.hid (ring_back HRF.out ht8 HBK.out)
              have hw := HN.out
              have hgd : (nextOf l m).getD (-1) = t := by rw [hb]; rfl
              have heq : ((t : Int) == (t : Int)) = true := by simp
              have hlr : Hid (R.length = j + 1) := by show _ = _; rw [HRR.out, way_len]
              clear hb hw
              go_wp2_with (first
                | ((at_builtin; with_reducible refine Try.wp_app22 rfl rfl rfl rfl rfl (by first | rfl | simp) (HO.out) (hcell _) (fun _ h => h.elim) (by omega) (by first | omega | (simp; omega)) fun v' w' hown' hg' => ?_); have HO' := Lib.hid hown'; have HBW := Lib.hid (HB.out.grown hg' hbs (fun r hr => (HO.out.lt r hr).1)); clear hown' hg')
                | (with_reducible refine (waitsFor_any HN.out (HA.out _ HBW.out)).mono ?_; rintro e w'' ⟨rfl, rfl⟩; rw [hgd]))
              go_ret
              obtain ⟨a9, c9, rfl, -, -, hw9⟩ := HO'.out.arr
              rw [← HW2.out, ← HRR.out] at hw9 ⊢
              exact ⟨a9, c9, rfl, hw9.mono (fun b hb => hb.resolve_left id), HBW.out⟩
            · have hgd : ((nextOf l m).getD (-1) == (t : Int)) = false := by
                cases hx : nextOf l m with
                | none => simp <;> omega
                | some y => rw [hx] at hb; simp at hb ⊢; exact hb
              have HNE := Lib.hid hb
              clear hb
              go_wp2_with (first
                | ((at_builtin; with_reducible refine Try.wp_app22 rfl rfl rfl rfl rfl (by first | rfl | simp) (HO.out) (hcell _) (fun _ h => h.elim) (by omega) (by first | omega | (simp; omega)) fun v' w' hown' hg' => ?_); have HO' := Lib.hid hown'; have HBW := Lib.hid (HB.out.grown hg' hbs (fun r hr => (HO.out.lt r hr).1)); clear hown' hg')
                | (with_reducible refine (waitsFor_any HN.out (HA.out _ HBW.out)).mono ?_; rintro e w'' ⟨rfl, rfl⟩))
              go_roundw
              case rel =>
                refine ⟨j + 1, by omega, by go_num, fun q hq => ?_, by rw [HW2.out]; exact HO'.out, by rw [HPN.out], HBW.out⟩
                rcases Nat.lt_or_ge q j with h1 | h1
                · exact HALL.out q h1
                · obtain rfl : q = j := by omega
                  exact ⟨by rw [HP.out]; rfl, by rw [HPN.out]; exact HNE.out⟩
              case measure => simp [intOf]; omega
        · obtain rfl : j = 9 := by omega
          have HBK : Hid (back l t = none) := back_none fun i hi => (HALL.out i hi).2
          have HNX := Lib.hid (ring_next HRF.out ht8 HBK.out)
          go_wp2_with fail
          go_roundw
          case rel => exact ⟨t + 1, by omega, by go_num, HNX.out, HB.out⟩
          case measure => simp [intOf]; omega
    · obtain rfl : t = 8 := by omega
      have HRE : Hid (R = []) := by have := HRF.out; rw [← this]; rfl
      go_wp2_with fail
      go_ret
      rw [HRE.out]
      exact ⟨none, 0, rfl, Arr.nil _ _ _, HB1.out⟩
end Go.Proofs.Ytimlhjjdaggiiaa.ring
