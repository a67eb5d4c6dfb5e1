/- The document's Unpack, walked. -/
import Derived.Test.YtimlhjjdaggiiaaSchedB
import Derived.Test.YtimlhjjdaggiiaaSchedC
set_option linter.unusedVariables false
set_option linter.unusedSimpArgs false
namespace Go.Proofs.Ytimlhjjdaggiiaa.sched
open Go.Bk Go.RowKit

def manyRel (w : World) (acc : List Int) (T M : Int) (out i : Value) (w' : World) : Prop :=
  ∃ q : Nat, (q : Int) ≤ M ∧ i = .int .i64 q ∧ acc.length + q ≤ 200 ∧ Own (fun _ => False) w' w.heap.size 3 out (acc ++ List.replicate q T) ∧ Below w.heap.size w w'

set_option maxRecDepth 100000 in
set_option maxHeartbeats 1000000 in
theorem runpack_any {S : Nat → Prop} {w : World} {a : Option Addr} {c : Nat} {l : List Api.DRun} (h : Arr S w a l) (hS : ∀ b, S b → b < w.heap.size) :
    Calls Try.prog 60 #[.slice a l.length c] w (RetLE w (unpackOf none l [])) := by
  have hm := h.small
  unfold maxLen at hm
  obtain ⟨n, hn⟩ : ∃ n, n = l.length := ⟨_, rfl⟩
  rw [← hn] at hm; rw [← hn]
  have HN := Lib.hid hn
  clear hn
  go_enter Try.func60, Try.ntmps60
  go_wp2
  go_loopw [4, 5] (unpRel w l) (fun _ i _ => n - (intOf i).toNat)
  case atStart => exact ⟨0, [], by omega, rfl, by simp, Own.nil _ _ _ _, rfl, Below.refl _ _⟩
  case round =>
    obtain ⟨k, acc, hk, rfl, hal, ho, hr, hb⟩ := hrel
    have hk : k ≤ n := by have := HN.out; omega
    have HO := Lib.hid ho; have HR := Lib.hid hr; have HB := Lib.hid hb
    have h' := h.keep (w' := wr) (fun b hb' => hb.block b (hS b hb'))
    have hbs := hb.size
    clear ho hr hb
    by_cases hlt : k < n
    · obtain ⟨r, hy⟩ : ∃ y, l[k]? = some y := ⟨_, List.getElem?_eq_getElem (by have := HN.out; omega)⟩
      have HRR := Lib.hid (unp_at hy HR.out)
      have HY := Lib.hid hy
      obtain ⟨b, off, rfl, hSb, q1, q2, i1, i2⟩ := api_DRun_elem h' hy
      have hbl : b < wr.heap.size := Nat.lt_of_lt_of_le (hS b hSb) hbs
      obtain ⟨T, M⟩ := r
      dsimp only at q1 q2 i1 i2 HRR
      obtain ⟨av, cap, rfl, -, -, -⟩ := HO.out.arr
      by_cases hin : 0 ≤ T ∧ T ≤ 7
      · have hin2 : ¬ inRange T = false := by simp [inRange]; omega
        rw [if_neg hin2] at HRR
        clear hin2
        by_cases hM : M < 1
        · have HE : Hid (unpackOf none l [] = ([], 3)) := by show _ = _; rw [HRR.out, if_pos (.inl hM)]
          have hd : decide (M < 1) = true := by simp [hM]
          clear hM hy
          go_wp2_with (with_reducible refine (between_true hin.1 hin.2).mono ?_; rintro e w' ⟨rfl, rfl⟩)
          first | (refine wp_region_quiet_lit (by kernel_rfl) (by kernel_rfl) ?_; (repeat (go_big_quiet_step (fail))); refine wpQuiet_nil ?_; intro _ hw'; obtain ⟨nq, hw''⟩ := hw'; subst hw'')
          go_wp2
          go_ret2
          exact .err HE.out (Go.Bk.Below.drewN HB.out _)
        · have hd : decide (M < 1) = false := by simpa using hM
          by_cases hk0 : k = 0
          · subst hk0
            rw [if_neg (by simp [hM, prevOf])] at HRR
            have hd2 : decide ((0 : Int) < 0) = false := by simp
            rw [Nat.zero_mul, Nat.add_zero] at q1 q2
            clear hy h'
            go_wp2_with (with_reducible refine (between_true hin.1 hin.2).mono ?_; rintro e w' ⟨rfl, rfl⟩)
            first | (refine wp_region_quiet_lit (by kernel_rfl) (by kernel_rfl) ?_; (repeat (go_big_quiet_step (fail))); refine wpQuiet_nil ?_; intro _ hw'; obtain ⟨nq, hw''⟩ := hw'; subst hw'')
            go_wp2
            go_loopw [4, 6] (manyRel w acc T M) (fun _ i _ => M.toNat - (intOf i).toNat)
            case atStart => exact ⟨0, by omega, rfl, by omega, by simpa using HO.out.below (Go.Bk.Below.drewN (Below.refl _ _) nq) (fun _ h => h.elim), Go.Bk.Below.drewN HB.out _⟩
            case round =>
              obtain ⟨q, hqM, rfl, hq2, ho2, hb2⟩ := hrel
              have HO2 := Lib.hid ho2; have HB2 := Lib.hid hb2
              have hbs2 := hb2.size
              obtain ⟨b', off', he, -, q1, q2, -, -⟩ := api_DRun_elem (h.keep (w' := wr) (fun b hb' => hb2.block b (hS b hb'))) HY.out
              obtain ⟨rfl, rfl⟩ : b = b' ∧ off = off' := by simpa using he
              dsimp only at q1 q2
              rw [Nat.zero_mul, Nat.add_zero] at q1 q2
              obtain ⟨av2, cap2, rfl, -, -, -⟩ := HO2.out.arr
              clear ho2 hb2 he
              by_cases hqm : (q : Int) < M
              · have hdq : decide ((q : Int) < M) = true := by simp [hqm]
                by_cases hfull : acc.length + q = 200
                · have HE : Hid (unpackOf none l [] = ([], 2)) := by show _ = _; rw [HRR.out, if_pos (by omega)]
                  have hlf : ((acc ++ List.replicate q T).length : Int) = 200 := by simp; omega
                  rw [show (acc ++ List.replicate q T).length = 200 by simp; omega]
                  clear hfull hlf
                  go_wp2
                  go_ret2
                  exact .err HE.out HB2.out
                · have hnf : (((acc ++ List.replicate q T).length : Int) == 200) = false := by simp; omega
                  have hcell : Rep.cells (fun _ => False) wr [.int .i64 T] T := cells_int i1
                  have hlen : (acc ++ List.replicate q T).length = acc.length + q := by simp
                  have HL := Lib.hid hlen
                  have hacl : (acc ++ List.replicate q T).length < 200 := by simp; omega
                  rw [show acc ++ List.replicate q T = (acc ++ List.replicate q T) from rfl] at HO2
                  clear hlen
                  have HAPP : Hid (acc ++ List.replicate q T ++ [T] = acc ++ List.replicate (q + 1) T) := by show _ = _; rw [List.replicate_succ']; simp
                  generalize acc ++ List.replicate q T = A at *
                  go_wp2_with (at_builtin; with_reducible refine Try.wp_app22 rfl rfl rfl rfl rfl (by first | rfl | simp) (HO2.out) (hcell) (fun _ h => h.elim) (by omega) (by first | omega | (simp; omega)) fun v' w' hown' hg' => ?_)
                  have HN' := Lib.hid hown'
                  have HB' := Lib.hid (HB2.out.grown hg' (by omega) (fun k hk => (HO2.out.lt k hk).1))
                  clear hown' hg'
                  go_roundw
                  case rel => exact ⟨q + 1, by omega, by go_num, by omega, by rw [← HAPP.out]; exact HN'.out, HB'.out⟩
                  case measure => simp [intOf]; omega
              · have hdq : decide ((q : Int) < M) = false := by simpa using hqm
                obtain rfl : M = q := by omega
                have HRR2 : Hid (unpackOf none l [] = unpackOf (prevOf l (0 + 1)) (l.drop (0 + 1)) (acc ++ List.replicate q T)) := by show _ = _; rw [HRR.out, if_neg (by omega)]; rfl
                clear hqm
                go_wp2
                go_roundw
                case rel => exact ⟨1, _, by have := HN.out; omega, by go_num, by simp; omega, HO2.out, HRR2.out, HB2.out⟩
                case measure => simp [intOf] <;> omega
          · obtain ⟨j, rfl⟩ : ∃ j, k = j + 1 := ⟨k - 1, by omega⟩
            obtain ⟨r', hy'⟩ : ∃ y, l[j]? = some y := ⟨_, List.getElem?_eq_getElem (by have := HN.out; omega)⟩
            obtain ⟨b', off', he, -, q3, -, -, -⟩ := api_DRun_elem h' hy'
            obtain ⟨rfl, rfl⟩ : b = b' ∧ off = off' := by simpa using he
            have hpv : prevOf l (j + 1) = some r'.Thread := by unfold prevOf; rw [if_neg (by omega), Nat.add_sub_cancel, hy']; rfl
            rw [hpv] at HRR
            have hd2 : decide (0 < j + 1) = true := by simp
            have hw1 : IntKind.i64.wrap (((j + 1 : Nat) : Int) - 1) = (j : Int) := by rw [IntWalk.i64_in _ (by omega)]; omega
            generalize r'.Thread = T' at *
            clear hpv hy' he hk0
            by_cases hTT : T' = T
            · subst hTT
              have HE : Hid (unpackOf none l [] = ([], 3)) := by show _ = _; rw [HRR.out, if_pos (.inr rfl)]
              have hee : (T' == T') = true := by simp
              clear hy
              go_wp2_with (with_reducible refine (between_true hin.1 hin.2).mono ?_; rintro e w' ⟨rfl, rfl⟩)
              first | (refine wp_region_quiet_lit (by kernel_rfl) (by kernel_rfl) ?_; (repeat (go_big_quiet_step (fail))); refine wpQuiet_nil ?_; intro _ hw'; obtain ⟨nq, hw''⟩ := hw'; subst hw'')
              go_wp2
              go_ret2
              exact .err HE.out (Go.Bk.Below.drewN HB.out _)
            · have hee : (T' == T) = false := by simp [hTT]
              rw [if_neg (by simp [hM, hTT])] at HRR
              clear hTT
              clear hy h'
              go_wp2_with (with_reducible refine (between_true hin.1 hin.2).mono ?_; rintro e w' ⟨rfl, rfl⟩)
              first | (refine wp_region_quiet_lit (by kernel_rfl) (by kernel_rfl) ?_; (repeat (go_big_quiet_step (fail))); refine wpQuiet_nil ?_; intro _ hw'; obtain ⟨nq, hw''⟩ := hw'; subst hw'')
              go_wp2
              go_loopw [4, 6] (manyRel w acc T M) (fun _ i _ => M.toNat - (intOf i).toNat)
              case atStart => exact ⟨0, by omega, rfl, by omega, by simpa using HO.out.below (Go.Bk.Below.drewN (Below.refl _ _) nq) (fun _ h => h.elim), Go.Bk.Below.drewN HB.out _⟩
              case round =>
                obtain ⟨q, hqM, rfl, hq2, ho2, hb2⟩ := hrel
                have HO2 := Lib.hid ho2; have HB2 := Lib.hid hb2
                have hbs2 := hb2.size
                obtain ⟨b', off', he, -, q1, q2, -, -⟩ := api_DRun_elem (h.keep (w' := wr) (fun b hb' => hb2.block b (hS b hb'))) HY.out
                obtain ⟨rfl, rfl⟩ : b = b' ∧ off = off' := by simpa using he
                dsimp only at q1 q2
                skip
                obtain ⟨av2, cap2, rfl, -, -, -⟩ := HO2.out.arr
                clear ho2 hb2 he
                by_cases hqm : (q : Int) < M
                · have hdq : decide ((q : Int) < M) = true := by simp [hqm]
                  by_cases hfull : acc.length + q = 200
                  · have HE : Hid (unpackOf none l [] = ([], 2)) := by show _ = _; rw [HRR.out, if_pos (by omega)]
                    have hlf : ((acc ++ List.replicate q T).length : Int) = 200 := by simp; omega
                    rw [show (acc ++ List.replicate q T).length = 200 by simp; omega]
                    clear hfull hlf
                    go_wp2
                    go_ret2
                    exact .err HE.out HB2.out
                  · have hnf : (((acc ++ List.replicate q T).length : Int) == 200) = false := by simp; omega
                    have hcell : Rep.cells (fun _ => False) wr [.int .i64 T] T := cells_int i1
                    have hlen : (acc ++ List.replicate q T).length = acc.length + q := by simp
                    have HL := Lib.hid hlen
                    have hacl : (acc ++ List.replicate q T).length < 200 := by simp; omega
                    rw [show acc ++ List.replicate q T = (acc ++ List.replicate q T) from rfl] at HO2
                    clear hlen
                    have HAPP : Hid (acc ++ List.replicate q T ++ [T] = acc ++ List.replicate (q + 1) T) := by show _ = _; rw [List.replicate_succ']; simp
                    generalize acc ++ List.replicate q T = A at *
                    go_wp2_with (at_builtin; with_reducible refine Try.wp_app22 rfl rfl rfl rfl rfl (by first | rfl | simp) (HO2.out) (hcell) (fun _ h => h.elim) (by omega) (by first | omega | (simp; omega)) fun v' w' hown' hg' => ?_)
                    have HN' := Lib.hid hown'
                    have HB' := Lib.hid (HB2.out.grown hg' (by omega) (fun k hk => (HO2.out.lt k hk).1))
                    clear hown' hg'
                    go_roundw
                    case rel => exact ⟨q + 1, by omega, by go_num, by omega, by rw [← HAPP.out]; exact HN'.out, HB'.out⟩
                    case measure => simp [intOf]; omega
                · have hdq : decide ((q : Int) < M) = false := by simpa using hqm
                  obtain rfl : M = q := by omega
                  have HRR2 : Hid (unpackOf none l [] = unpackOf (prevOf l ((j + 1) + 1)) (l.drop ((j + 1) + 1)) (acc ++ List.replicate q T)) := by show _ = _; rw [HRR.out, if_neg (by omega)]; rfl
                  clear hqm
                  go_wp2
                  go_roundw
                  case rel => exact ⟨j + 1 + 1, _, by have := HN.out; omega, by go_num, by simp; omega, HO2.out, HRR2.out, HB2.out⟩
                  case measure => simp [intOf] <;> omega
      · have hin2 : inRange T = false := by simp [inRange]; omega
        have HE : Hid (unpackOf none l [] = ([], 1)) := by show _ = _; rw [HRR.out, if_pos hin2]
        have hin' : T < 0 ∨ 7 < T := by omega
        clear hin hin2 hy
        go_wp2_with (with_reducible refine (between_false hin').mono ?_; rintro e w' ⟨rfl, rfl⟩)
        go_ret2
        exact .err HE.out HB.out
    · obtain rfl : k = n := by omega
      obtain ⟨av, cap, rfl, harr⟩ := own_fresh HO.out
      have HAR := Lib.hid harr
      have HE : Hid (unpackOf none l [] = (acc, 0)) := by show _ = _; rw [HR.out, List.drop_eq_nil_of_le (by have := HN.out; omega)]; rfl
      clear harr h'
      go_wp2
      go_ret2
      exact .ok HE.out HB.out HAR.out
end Go.Proofs.Ytimlhjjdaggiiaa.sched
