/- Unpack, walked. -/
import Derived.Test.YtimlhjjdaggiiaaSchedA
import Derived.Test.YtimlhjjdaggiiaaRepeat
set_option linter.unusedVariables false
set_option linter.unusedSimpArgs false
namespace Go.Proofs.Ytimlhjjdaggiiaa.sched
open Go.Bk Go.RowKit

def prevOf (l : List Api.DRun) (k : Nat) : Option Int := if k = 0 then none else (l[k - 1]?).map (·.Thread)
def unpRel (w : World) (l : List Api.DRun) (out i : Value) (w' : World) : Prop :=
  ∃ (k : Nat) (acc : List Int), k ≤ l.length ∧ i = .int .i64 k ∧ acc.length ≤ 200 ∧ Own (fun _ => False) w' w.heap.size 3 out acc ∧ unpackOf none l [] = unpackOf (prevOf l k) (l.drop k) acc ∧ Below w.heap.size w w'

theorem unp_at {l : List Api.DRun} {k : Nat} {r : Api.DRun} {acc : List Int} (hk : l[k]? = some r) (hu : unpackOf none l [] = unpackOf (prevOf l k) (l.drop k) acc) : unpackOf none l [] = if inRange r.Thread = false then ([], 1)
    else if r.Many < 1 ∨ prevOf l k = some r.Thread then ([], 3)
    else if 200 - (acc.length : Int) < r.Many then ([], 2)
    else unpackOf (prevOf l (k + 1)) (l.drop (k + 1)) (acc ++ List.replicate r.Many.toNat r.Thread) := by
  have hlt : k < l.length := (List.getElem?_eq_some_iff.1 hk).1
  have e : l.drop k = r :: l.drop (k + 1) := by rw [List.drop_eq_getElem_cons hlt, (List.getElem?_eq_some_iff.1 hk).2]
  rw [hu, e, unpackOf]
  have hp : prevOf l (k + 1) = some r.Thread := by unfold prevOf; rw [if_neg (by omega), Nat.add_sub_cancel, hk]; rfl
  rw [hp]

set_option maxRecDepth 100000 in
set_option maxHeartbeats 1000000 in
theorem unpack_any {S : Nat → Prop} {w : World} {a : Option Addr} {c : Nat} {l : List Api.DRun} (h : Arr S w a l) (hS : ∀ b, S b → b < w.heap.size) :
    Calls Try.prog 59 #[.slice a l.length c] w (RetLE w (unpackOf none l [])) := by
  have hm := h.small
  unfold maxLen at hm
  obtain ⟨n, hn⟩ : ∃ n, n = l.length := ⟨_, rfl⟩
  rw [← hn] at hm; rw [← hn]
  have HN := Lib.hid hn
  clear hn
  go_enter Try.func59, Try.ntmps59
  go_wp2
  go_loopw [4, 9] (unpRel w l) (fun _ i _ => n - (intOf i).toNat)
  case atStart => exact ⟨0, [], by omega, rfl, by simp, Own.nil _ _ _ _, rfl, Below.refl _ _⟩
  case round =>
    obtain ⟨k, acc, hk, rfl, hal, ho, hr, hb⟩ := hrel
    have hk : k ≤ n := by have := HN.out; omega
    have HO := Lib.hid ho; have HR := Lib.hid hr; have HB := Lib.hid hb
    have h' := h.keep (w' := wr) (fun b hb' => hb.block b (hS b hb'))
    have hbs := hb.size
    clear ho hr hb h
    by_cases hlt : k < n
    · obtain ⟨r, hy⟩ : ∃ y, l[k]? = some y := ⟨_, List.getElem?_eq_getElem (by have := HN.out; omega)⟩
      have HRR := Lib.hid (unp_at hy HR.out)
      obtain ⟨b, off, rfl, hSb, q1, q2, i1, i2⟩ := api_DRun_elem h' hy
      have hbl : b < wr.heap.size := Nat.lt_of_lt_of_le (hS b hSb) hbs
      have HY := Lib.hid hy
      obtain ⟨T, M⟩ := r
      dsimp only at q1 q2 i1 i2 HRR
      clear hy
      by_cases hin : inRange T = false
      · have HE : Hid (unpackOf none l [] = ([], 1)) := by show _ = _; rw [HRR.out, if_pos hin]
        go_wp2_with (with_reducible refine thread_any.mono ?_; rintro e w' ⟨rfl, rfl⟩)
        go_ret2
        exact .err HE.out (HB.out.alloc hbs _)
      · have hin' : inRange T = true := by simpa using hin
        rw [if_neg hin] at HRR
        clear hin
        obtain ⟨av, cap, rfl, -, -, -⟩ := HO.out.arr
        by_cases hM : M < 1
        · have HE : Hid (unpackOf none l [] = ([], 3)) := by show _ = _; rw [HRR.out, if_pos (.inl hM)]
          have hd : decide (M < 1) = true := by simp [hM]
          clear hM
          go_wp2_with (with_reducible refine thread_any.mono ?_; rintro e w' ⟨rfl, rfl⟩)
          first | (refine wp_region_quiet_lit (by kernel_rfl) (by kernel_rfl) ?_; (repeat (go_big_quiet_step (fail))); refine wpQuiet_nil ?_; intro _ hw'; obtain ⟨nq, hw''⟩ := hw'; subst hw'')
          go_wp2
          go_ret2
          exact .err HE.out (Go.Bk.Below.drewN (HB.out.alloc hbs _) _)
        · have hd : decide (M < 1) = false := by simpa using hM
          by_cases hk0 : k = 0
          · subst hk0
            rw [if_neg (by simp [hM, prevOf])] at HRR
            have hd2 : decide ((0 : Int) < 0) = false := by simp
            rw [Nat.zero_mul, Nat.add_zero] at q1 q2
            by_cases hbig : 200 - (acc.length : Int) < M
            · have HE : Hid (unpackOf none l [] = ([], 2)) := by show _ = _; rw [HRR.out, if_pos hbig]
              have hd3 : decide (200 - (acc.length : Int) < M) = true := by simp [hbig]
              clear hbig
              go_wp2_with (with_reducible refine thread_any.mono ?_; rintro e w' ⟨rfl, rfl⟩)
              first | (refine wp_region_quiet_lit (by kernel_rfl) (by kernel_rfl) ?_; (repeat (go_big_quiet_step (fail))); refine wpQuiet_nil ?_; intro _ hw'; obtain ⟨nq, hw''⟩ := hw'; subst hw'')
              go_wp2
              go_ret2
              exact .err HE.out (Go.Bk.Below.drewN (HB.out.alloc hbs _) _)
            · rw [if_neg hbig] at HRR
              have hd3 : decide (200 - (acc.length : Int) < M) = false := by simpa using hbig
              obtain ⟨m, rfl⟩ : ∃ m : Nat, M = m := ⟨M.toNat, by omega⟩
              have hm2 : acc.length + m ≤ 200 := by omega
              rw [Int.toNat_natCast] at HRR
              clear hbig
              go_wp2_with (with_reducible refine thread_any.mono ?_; rintro e w' ⟨rfl, rfl⟩)
              first | (refine wp_region_quiet_lit (by kernel_rfl) (by kernel_rfl) ?_; (repeat (go_big_quiet_step (fail))); refine wpQuiet_nil ?_; intro _ hw'; obtain ⟨nq, hw''⟩ := hw'; subst hw'')
              go_wp2_with fail
              refine cut_calls (fun wz => Grow wr wz ∧ wz.heap.size = wr.heap.size + 2 ∧ Blk wz (wr.heap.size + 1) 3 [.int .i64 T]) ?_ ?_
              · exact ⟨(Go.Bk.Below.drewN ((Below.refl _ _).alloc (Nat.le_refl _) _) _).alloc (by simp) _, by simp, blk_new' (by simp)⟩
              rintro wz ⟨hbz, hsz, hkz⟩
              have hTi : I64 T := i1
              have hTa : Arr (fun b => b < wz.heap.size) wz (some ⟨wr.heap.size + 1, 0, none⟩) [T] := Blk.arr (zs := [T]) hkz (by simpa using hTi) (by simp [maxLen]) (by show _ < _; omega)
              refine (repeat_one hTa (fun _ h => h) (by omega) (by omega)).mono ?_
              rintro e w3 ⟨rfl, hblk, hb3⟩
              have HO3 : Hid (Own (fun _ => False) w3 w.heap.size 3 (.slice av acc.length cap) acc) := HO.out.below (mild_grow.trans hbz hb3) (fun _ h => h.elim)
              have HB3 := Lib.hid (HB.out.trans ((mild_grow.trans hbz hb3).mono hbs))
              rw [hsz] at hblk
              have harr : Arr (fun _ => True) w3 (some ⟨wr.heap.size + 2, 0, none⟩) (List.replicate m T) := hblk.arr (by simp; intro _; exact hTi) (by simp [maxLen]; omega) trivial
              have hs3 := hb3.size
              have HA := Lib.hid harr
              clear hbz hkz hTa hblk hb3 harr
              go_wp2_with (at_builtin; with_reducible refine Try.wp_apps22 rfl rfl rfl rfl (by simp) (HO3.out) (HA.out) Try.flat22 (fun h => by cases h) (fun _ h => h.elim) (by omega) (by omega) fun v' w' hown' hg' => ?_)
              have HN' := Lib.hid hown'
              have HB' := Lib.hid (HB3.out.grown hg' (by omega) (fun k hk => (HO3.out.lt k hk).1))
              clear hown' hg'
              go_roundw
              case rel => exact ⟨1, acc ++ List.replicate m T, by have := HN.out; omega, by go_num, by simp; omega, HN'.out, HRR.out, HB'.out⟩
              case measure => simp [intOf] <;> omega
          · obtain ⟨j, rfl⟩ : ∃ j, k = j + 1 := ⟨k - 1, by omega⟩
            obtain ⟨r', hy'⟩ : ∃ y, l[j]? = some y := ⟨_, List.getElem?_eq_getElem (by have := HN.out; omega)⟩
            obtain ⟨b', off', he, -, q3, -, -, -⟩ := api_DRun_elem h' hy'
            obtain ⟨rfl, rfl⟩ : b = b' ∧ off = off' := by simpa using he
            have hpv : prevOf l (j + 1) = some r'.Thread := by unfold prevOf; rw [if_neg (by omega), Nat.add_sub_cancel, hy']; rfl
            rw [hpv] at HRR
            have hd2 : decide (0 < j + 1) = true := by simp
            have hw1 : IntKind.i64.wrap (((j + 1 : Nat) : Int) - 1) = (j : Int) := by rw [IntWalk.i64_in _ (by omega)]; omega
            generalize r'.Thread = T' at *
            clear hpv hy' he hk0
            by_cases hTT : T' = T
            · subst hTT
              have HE : Hid (unpackOf none l [] = ([], 3)) := by show _ = _; rw [HRR.out, if_pos (.inr rfl)]
              have hee : (T' == T') = true := by simp
              go_wp2_with (with_reducible refine thread_any.mono ?_; rintro e w' ⟨rfl, rfl⟩)
              first | (refine wp_region_quiet_lit (by kernel_rfl) (by kernel_rfl) ?_; (repeat (go_big_quiet_step (fail))); refine wpQuiet_nil ?_; intro _ hw'; obtain ⟨nq, hw''⟩ := hw'; subst hw'')
              go_wp2
              go_ret2
              exact .err HE.out (Go.Bk.Below.drewN (HB.out.alloc hbs _) _)
            · have hee : (T' == T) = false := by simp [hTT]
              rw [if_neg (by simp [hM, hTT])] at HRR
              clear hTT
              by_cases hbig : 200 - (acc.length : Int) < M
              · have HE : Hid (unpackOf none l [] = ([], 2)) := by show _ = _; rw [HRR.out, if_pos hbig]
                have hd3 : decide (200 - (acc.length : Int) < M) = true := by simp [hbig]
                clear hbig
                go_wp2_with (with_reducible refine thread_any.mono ?_; rintro e w' ⟨rfl, rfl⟩)
                first | (refine wp_region_quiet_lit (by kernel_rfl) (by kernel_rfl) ?_; (repeat (go_big_quiet_step (fail))); refine wpQuiet_nil ?_; intro _ hw'; obtain ⟨nq, hw''⟩ := hw'; subst hw'')
                go_wp2
                go_ret2
                exact .err HE.out (Go.Bk.Below.drewN (HB.out.alloc hbs _) _)
              · rw [if_neg hbig] at HRR
                have hd3 : decide (200 - (acc.length : Int) < M) = false := by simpa using hbig
                obtain ⟨m, rfl⟩ : ∃ m : Nat, M = m := ⟨M.toNat, by omega⟩
                have hm2 : acc.length + m ≤ 200 := by omega
                rw [Int.toNat_natCast] at HRR
                clear hbig
                go_wp2_with (with_reducible refine thread_any.mono ?_; rintro e w' ⟨rfl, rfl⟩)
                first | (refine wp_region_quiet_lit (by kernel_rfl) (by kernel_rfl) ?_; (repeat (go_big_quiet_step (fail))); refine wpQuiet_nil ?_; intro _ hw'; obtain ⟨nq, hw''⟩ := hw'; subst hw'')
                go_wp2_with fail
                refine cut_calls (fun wz => Grow wr wz ∧ wz.heap.size = wr.heap.size + 2 ∧ Blk wz (wr.heap.size + 1) 3 [.int .i64 T]) ?_ ?_
                · exact ⟨(Go.Bk.Below.drewN ((Below.refl _ _).alloc (Nat.le_refl _) _) _).alloc (by simp) _, by simp, blk_new' (by simp)⟩
                rintro wz ⟨hbz, hsz, hkz⟩
                have hTi : I64 T := i1
                have hTa : Arr (fun b => b < wz.heap.size) wz (some ⟨wr.heap.size + 1, 0, none⟩) [T] := Blk.arr (zs := [T]) hkz (by simpa using hTi) (by simp [maxLen]) (by show _ < _; omega)
                refine (repeat_one hTa (fun _ h => h) (by omega) (by omega)).mono ?_
                rintro e w3 ⟨rfl, hblk, hb3⟩
                have HO3 : Hid (Own (fun _ => False) w3 w.heap.size 3 (.slice av acc.length cap) acc) := HO.out.below (mild_grow.trans hbz hb3) (fun _ h => h.elim)
                have HB3 := Lib.hid (HB.out.trans ((mild_grow.trans hbz hb3).mono hbs))
                rw [hsz] at hblk
                have harr : Arr (fun _ => True) w3 (some ⟨wr.heap.size + 2, 0, none⟩) (List.replicate m T) := hblk.arr (by simp; intro _; exact hTi) (by simp [maxLen]; omega) trivial
                have hs3 := hb3.size
                have HA := Lib.hid harr
                clear hbz hkz hTa hblk hb3 harr
                go_wp2_with (at_builtin; with_reducible refine Try.wp_apps22 rfl rfl rfl rfl (by simp) (HO3.out) (HA.out) Try.flat22 (fun h => by cases h) (fun _ h => h.elim) (by omega) (by omega) fun v' w' hown' hg' => ?_)
                have HN' := Lib.hid hown'
                have HB' := Lib.hid (HB3.out.grown hg' (by omega) (fun k hk => (HO3.out.lt k hk).1))
                clear hown' hg'
                go_roundw
                case rel => exact ⟨j + 1 + 1, acc ++ List.replicate m T, by have := HN.out; omega, by go_num, by simp; omega, HN'.out, HRR.out, HB'.out⟩
                case measure => simp [intOf] <;> omega
    · obtain rfl : k = n := by have := HN.out; omega
      obtain ⟨av, cap, rfl, harr⟩ := own_fresh HO.out
      have HAR := Lib.hid harr
      have HE : Hid (unpackOf none l [] = (acc, 0)) := by show _ = _; rw [HR.out, List.drop_eq_nil_of_le (by have := HN.out; omega)]; rfl
      clear harr h'
      go_wp2
      go_ret2
      exact .ok HE.out HB.out HAR.out
end Go.Proofs.Ytimlhjjdaggiiaa.sched
