/- The document's Pack, walked. -/
import Derived.Test.YtimlhjjdaggiiaaSchedA
import Derived.Deep.QuietTactic
import Derived.Test.YtimlhjjdaggiiaaApp
set_option linter.unusedVariables false
set_option linter.unusedSimpArgs false
namespace Go.Proofs.Ytimlhjjdaggiiaa.sched
open Go.Bk Go.RowKit

theorem all_take {xs : List Int} {p : Int → Bool} {k : Nat} {y : Int} (h : (xs.take k).all p = true) (hy : xs[k]? = some y) (hp : p y = true) : (xs.take (k + 1)).all p = true := by
  rw [List.take_add_one, hy, List.all_append, h]; simp [hp]
theorem all_not {xs : List Int} {p : Int → Bool} {k : Nat} {y : Int} (hy : xs[k]? = some y) (hp : p y = false) : ¬ xs.all p = true := by
  intro h
  have := List.all_eq_true.1 h y (List.mem_of_getElem? hy)
  rw [hp] at this; cases this

def rpackRel (w : World) (xs : List Int) (out i : Value) (w' : World) : Prop :=
  ∃ (k : Nat) (acc : List Api.DRun), k ≤ xs.length ∧ i = .int .i64 k ∧ acc.length ≤ k ∧ Own (fun _ => False) w' w.heap.size 119 out acc ∧ rle xs = acc ++ rle (xs.drop k) ∧ Below w.heap.size w w'
def runRel (w : World) (xs : List Int) (k : Nat) (y : Int) (i : Value) (w' : World) : Prop :=
  ∃ j : Nat, k ≤ j ∧ j ≤ xs.length ∧ i = .int .i64 j ∧ xs.drop k = List.replicate (j - k) y ++ xs.drop j ∧ Quiet w w'

theorem run_succ {xs : List Int} {k j : Nat} {y : Int} (h : xs.drop k = List.replicate (j - k) y ++ xs.drop j) (hy : xs[j]? = some y) (hkj : k ≤ j) : xs.drop k = List.replicate (j + 1 - k) y ++ xs.drop (j + 1) := by
  have hj : j < xs.length := (List.getElem?_eq_some_iff.1 hy).1
  have e : xs.drop j = y :: xs.drop (j + 1) := by rw [List.drop_eq_getElem_cons hj, (List.getElem?_eq_some_iff.1 hy).2]
  rw [h, e, show j + 1 - k = (j - k) + 1 by omega, List.replicate_succ']
  simp
theorem run_end {xs : List Int} {k j : Nat} {y : Int} (h : xs.drop k = List.replicate (j - k) y ++ xs.drop j) (hkj : k < j) (hn : xs[j]? ≠ some y) : rle (xs.drop k) = ⟨y, (j : Int) - k⟩ :: rle (xs.drop j) := by
  rw [h, show j - k = (j - k - 1) + 1 by omega, rle_run _ _ _ (by rw [List.head?_drop]; exact hn)]
  congr 2; omega

set_option maxRecDepth 100000 in
set_option maxHeartbeats 1000000 in
theorem rpack_any {S : Nat → Prop} {w : World} {a : Option Addr} {c : Nat} {xs : List Int} (h : Arr S w a xs) (hS : ∀ b, S b → b < w.heap.size) :
    Calls Try.prog 58 #[.slice a xs.length c] w (RetLE w (packOf xs)) := by
  have hm := h.small
  unfold maxLen at hm
  by_cases hl : 200 < xs.length
  · have HE : Hid (packOf xs = ([], 2)) := if_pos hl
    go_enter Try.func58, Try.ntmps58
    go_wp2
    go_ret2
    exact .err HE.out (Below.refl _ _)
  have hl' : xs.length ≤ 200 := by omega
  have HL := Lib.hid hl
  clear hl
  go_enter Try.func58, Try.ntmps58
  go_wp2
  go_loopw [4] (fun i w' => ∃ k : Nat, k ≤ xs.length ∧ i = .int .i64 k ∧ (xs.take k).all inRange = true ∧ Quiet w w') (fun i _ => xs.length - (intOf i).toNat)
  case atStart => exact ⟨0, Nat.zero_le _, rfl, rfl, Quiet.refl _⟩
  case round =>
    obtain ⟨k, hk, rfl, hok, hq⟩ := hrel
    have HQ := Lib.hid hq; have HO := Lib.hid hok
    have h' := h.keep (w' := wr) (fun b _ => hq.heap b)
    clear hok hq
    by_cases hlt : k < xs.length
    · obtain ⟨y, hy⟩ : ∃ y, xs[k]? = some y := ⟨_, List.getElem?_eq_getElem hlt⟩
      obtain ⟨b1, o1, rfl, hSb, q1, hi⟩ := arr_int h' hy
      have HY := Lib.hid hy
      clear hy h' h
      by_cases hr : 0 ≤ y ∧ y ≤ 7
      · have HR : Hid (inRange y = true) := by show _ = _; simp [inRange]; omega
        go_wp2_with (with_reducible refine (between_true hr.1 hr.2).mono ?_; rintro e w' ⟨rfl, rfl⟩)
        go_roundw
        case rel => exact ⟨k + 1, by omega, by go_num, all_take HO.out HY.out HR.out, HQ.out⟩
        case measure => simp [intOf]; omega
      · have HR : Hid (inRange y = false) := by show _ = _; simp [inRange]; omega
        have hr' : y < 0 ∨ 7 < y := by omega
        clear hr
        go_wp2_with (with_reducible refine (between_false hr').mono ?_; rintro e w' ⟨rfl, rfl⟩)
        go_ret2
        exact .err (by unfold packOf; rw [if_neg HL.out, if_neg (all_not HY.out HR.out)]) (HQ.out.below _)
    · obtain rfl : k = xs.length := by omega
      have HE : Hid (packOf xs = (rle xs, 0)) := by unfold packOf; show _ = _; rw [if_neg HL.out, if_pos (by simpa using HO.out)]
      clear h' HO HL hlt
      obtain ⟨wq, rfl⟩ : ∃ wo : World, wo = wr := ⟨_, rfl⟩
      go_wp2
      go_loopw [5, 6] (rpackRel w xs) (fun _ i _ => xs.length - (intOf i).toNat)
      case atStart => exact ⟨0, [], by omega, rfl, by simp, Own.nil _ _ _ _, by simp, HQ.out.below _⟩
      case round =>
        obtain ⟨k, acc, hk, rfl, hal, ho, hr, hb⟩ := hrel
        have HOw := Lib.hid ho; have HR := Lib.hid hr; have HB := Lib.hid hb
        have h' := h.keep (w' := wr) (fun b hb' => hb.block b (hS b hb'))
        have hbs := hb.size
        clear ho hr hb HQ h
        by_cases hlt : k < xs.length
        · obtain ⟨y, hy⟩ : ∃ y, xs[k]? = some y := ⟨_, List.getElem?_eq_getElem hlt⟩
          have HY := Lib.hid hy
          clear hy
          have HA := Lib.hid h'
          clear h'
          obtain ⟨wo, rfl⟩ : ∃ wo : World, wo = wr := ⟨_, rfl⟩
          go_wp2
          go_loopw [7] (runRel wo xs k y) (fun i _ => xs.length - (intOf i).toNat)
          case atStart => exact ⟨k, by omega, by omega, rfl, by simp, Quiet.refl _⟩
          case round =>
            obtain ⟨j, hkj, hj, rfl, hd, hq⟩ := hrel
            have HQ := Lib.hid hq; have HD := Lib.hid hd
            have hA' := HA.out.keep (w' := wr) (fun b _ => hq.heap b)
            obtain ⟨b1, o1, rfl, hSb, q1, hi⟩ := arr_int hA' HY.out
            have hbl := hS b1 hSb
            clear hq hd
            by_cases hjl : j < xs.length
            · obtain ⟨z, hz⟩ : ∃ z, xs[j]? = some z := ⟨_, List.getElem?_eq_getElem hjl⟩
              obtain ⟨b2, o2, he, -, q2, -⟩ := arr_int hA' hz
              obtain ⟨rfl, rfl⟩ : b1 = b2 ∧ o1 = o2 := by simpa using he
              have hg1 : decide (j < xs.length) = true := by simp [hjl]
              have HZ := Lib.hid hz
              clear he hA' hz
              by_cases hzy : z = y
              · subst hzy
                have hee : (z == z) = true := by simp
                go_wp2
                first | (refine wp_region_quiet_lit (by kernel_rfl) (by kernel_rfl) ?_; (repeat (go_big_quiet_step (fail))); refine wpQuiet_nil ?_; intro _ hw'; obtain ⟨nq, hw''⟩ := hw'; subst hw'')
                go_wp2
                go_roundw
                case rel => exact ⟨j + 1, by omega, by omega, by go_num, run_succ HD.out HZ.out hkj, HQ.out.more _⟩
                case measure => simp [intOf]; omega
              · have hee : (z == y) = false := by simp [hzy]
                have HZY := Lib.hid hzy
                have hkj' : k < j := by
                  rcases Nat.lt_or_ge k j with h | h
                  · exact h
                  · obtain rfl : j = k := by omega
                    exact absurd (Option.some.inj (HZ.out.symm.trans HY.out)) hzy
                clear hzy
                have HZ2 : xs[j]? ≠ some y := fun e => HZY.out (Option.some.inj (HZ.out.symm.trans e))
                clear HZ HZY
                have hRE := run_end HD.out hkj' HZ2
                have HRE := Lib.hid hRE
                have hI : I64 ((j : Int) - k) := by unfold I64; omega
                have hinfo : (Try.prog.info? 119).map (fun i => (i.zero, i.size, i.bytes)) = some (some (.agg #[.int .i64 0, .int .i64 0]), Rep.sz Api.DRun, 16) := Try.info119
                have hz2 : (Value.agg #[.int .i64 0, .int .i64 0]).cells.size = Rep.sz Api.DRun := rfl
                have hp2 : 0 < Rep.sz Api.DRun := by decide
                have hcell : ∀ w : World, Rep.cells (fun _ => False) w [.int .i64 y, .int .i64 ((j : Int) - k)] (⟨y, (j : Int) - k⟩ : Api.DRun) := fun w => api_DRun_cells_mk (x := ⟨y, (j : Int) - k⟩) hi hI
                have hown : ∀ n, Own (fun _ => False) (wr.drewN n) w.heap.size 119 u5 acc := fun n => HOw.out.below ((HQ.out.more n).below _) (fun _ h => h.elim)
                have hbs2 : w.heap.size ≤ wr.heap.size := Nat.le_trans hbs (HQ.out.below 0).size
                clear hRE HZ2 hi hI
                go_wp2
                first | (refine wp_region_quiet_lit (by kernel_rfl) (by kernel_rfl) ?_; (repeat (go_big_quiet_step (fail))); refine wpQuiet_nil ?_; intro _ hw'; obtain ⟨nq, hw''⟩ := hw'; subst hw'')
                go_wp2_with (at_builtin; with_reducible refine Try.wp_app114 rfl rfl rfl rfl rfl (by first | rfl | simp) (hown nq) (hcell _) (fun _ h => h.elim) (by omega) (by first | omega | (simp; omega)) fun v' w' hown' hg' => ?_)
                have HN := Lib.hid hown'
                have HB' := Lib.hid ((HB.out.trans ((HQ.out.more nq).below _)).grown hg' hbs2 (fun k hk => ((hown nq).lt k hk).1))
                clear hown' hg' hown
                go_roundw
                case rel => exact ⟨j, acc ++ [⟨y, (j : Int) - k⟩], by omega, rfl, by simp; omega, HN.out, by rw [HR.out, HRE.out]; simp, HB'.out⟩
                case measure => simp [intOf]; omega
            · obtain rfl : j = xs.length := by omega
              have hg1 : decide (xs.length < xs.length) = false := by simp
              have hkj' : k < xs.length := hlt
              have HZ2 : xs[xs.length]? ≠ some y := by simp
              have hRE := run_end HD.out hkj' HZ2
              have HRE := Lib.hid hRE
              have hI : I64 ((xs.length : Int) - k) := by unfold I64; omega
              have hinfo : (Try.prog.info? 119).map (fun i => (i.zero, i.size, i.bytes)) = some (some (.agg #[.int .i64 0, .int .i64 0]), Rep.sz Api.DRun, 16) := Try.info119
              have hz2 : (Value.agg #[.int .i64 0, .int .i64 0]).cells.size = Rep.sz Api.DRun := rfl
              have hp2 : 0 < Rep.sz Api.DRun := by decide
              have hcell : ∀ w : World, Rep.cells (fun _ => False) w [.int .i64 y, .int .i64 ((xs.length : Int) - k)] (⟨y, (xs.length : Int) - k⟩ : Api.DRun) := fun w => api_DRun_cells_mk (x := ⟨y, (xs.length : Int) - k⟩) hi hI
              have hown : ∀ n, Own (fun _ => False) (wr.drewN n) w.heap.size 119 u5 acc := fun n => HOw.out.below ((HQ.out.more n).below _) (fun _ h => h.elim)
              have hbs2 : w.heap.size ≤ wr.heap.size := Nat.le_trans hbs (HQ.out.below 0).size
              clear hRE HZ2 hi hI
              go_wp2
              first | (refine wp_region_quiet_lit (by kernel_rfl) (by kernel_rfl) ?_; (repeat (go_big_quiet_step (fail))); refine wpQuiet_nil ?_; intro _ hw'; obtain ⟨nq, hw''⟩ := hw'; subst hw'')
              go_wp2_with (at_builtin; with_reducible refine Try.wp_app114 rfl rfl rfl rfl rfl (by first | rfl | simp) (hown nq) (hcell _) (fun _ h => h.elim) (by omega) (by first | omega | (simp; omega)) fun v' w' hown' hg' => ?_)
              have HN := Lib.hid hown'
              have HB' := Lib.hid ((HB.out.trans ((HQ.out.more nq).below _)).grown hg' hbs2 (fun k hk => ((hown nq).lt k hk).1))
              clear hown' hg' hown
              go_roundw
              case rel => exact ⟨xs.length, acc ++ [⟨y, (xs.length : Int) - k⟩], by omega, rfl, by simp; omega, HN.out, by rw [HR.out, HRE.out]; simp, HB'.out⟩
              case measure => simp [intOf]; omega
        · obtain rfl : k = xs.length := by omega
          obtain ⟨av, cap, rfl, harr⟩ := own_fresh HOw.out
          have HAR := Lib.hid harr
          have HE2 : packOf xs = (acc, 0) := by rw [HE.out, HR.out]; simp [rle]
          have HE3 := Lib.hid HE2
          clear harr HE2
          go_wp2
          go_ret2
          exact .ok HE3.out HB.out HAR.out
end Go.Proofs.Ytimlhjjdaggiiaa.sched
