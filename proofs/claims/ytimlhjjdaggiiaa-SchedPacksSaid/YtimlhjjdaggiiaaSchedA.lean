/- Pack, walked. -/
import Derived.Test.YtimlhjjdaggiiaaSchedPlain
import Derived.Test.YtimlhjjdaggiiaaFuncs
import Derived.Test.YtimlhjjdaggiiaaSame
set_option linter.unusedVariables false
set_option linter.unusedSimpArgs false
namespace Go.Proofs.Ytimlhjjdaggiiaa.sched
open Go.Bk Go.RowKit

theorem thread_any {w : World} {n : Int} : Calls Try.prog 124 #[.int .i64 n] w fun e w' => e = .returned (.bool (inRange n)) ∧ w = w' := by
  go_enter Try.func124, Try.ntmps124
  go_wp2
  all_goals
    go_ret
    exact ⟨by (first | (simp [inRange]; done) | (simp [inRange]; omega) | (go_light; simp_all [inRange]; done) | (go_light; simp_all [inRange]; omega) | (go_light; simp_all [inRange]; grind) | (go_light; rw [Bool.eq_iff_iff]; simp_all [inRange]; done)), rfl⟩
theorem packFn_any {w : World} {n : Int} : Calls Try.prog 123 #[.int .i64 n] w fun e w' => e = .returned (.bool (!inRange n)) ∧ Quiet w w' := by
  go_enter Try.func123, Try.ntmps123
  go_wp2_with (with_reducible refine thread_any.mono ?_; rintro e w' ⟨rfl, rfl⟩)
  go_ret
  exact ⟨rfl, Quiet.refl _⟩
def packRel (w : World) (xs : List Int) (out i : Value) (w' : World) : Prop :=
  ∃ k : Nat, k ≤ xs.length ∧ i = .int .i64 k ∧ Own (fun _ => False) w' w.heap.size 119 out (rle (xs.take k)) ∧ Below w.heap.size w w'
set_option maxRecDepth 100000 in
set_option maxHeartbeats 1000000 in
theorem pack_any {S : Nat → Prop} {w : World} {a : Option Addr} {c : Nat} {xs : List Int} (h : Arr S w a xs) (hS : ∀ b, S b → b < w.heap.size) :
    Calls Try.prog 57 #[.slice a xs.length c] w (RetLE w (packOf xs)) := by
  have hm := h.small
  unfold maxLen at hm
  by_cases hl : 200 < xs.length
  · have HE : Hid (packOf xs = ([], 2)) := if_pos hl
    go_enter Try.func57, Try.ntmps57
    go_wp2
    go_ret2
    exact .err HE.out (Below.refl _ _)
  have hl' : xs.length ≤ 200 := by omega
  by_cases ha : xs.all inRange = true
  · have HE : Hid (packOf xs = (rle xs, 0)) := by unfold packOf; show _ = _; rw [if_neg hl, if_pos ha]
    have HA := Lib.hid ha
    have HC := Lib.hid (containsFunc_any (c := c) (p := fun n => !inRange n) (F := 123) (caps := #[]) mild_quiet h hS (fun y w => Try.call123 _ _) (fun y wx _ _ _ => packFn_any))
    have han : (xs.any fun n => !inRange n) = false := by rw [List.any_eq_false]; intro x hx; simp [List.all_eq_true.1 ha x hx]
    rw [han] at HC
    clear ha hl
    go_enter Try.func57, Try.ntmps57
    go_wp2_with (with_reducible refine HC.out.mono ?_; rintro e w1 ⟨rfl, hq⟩)
    have HQ := Lib.hid hq
    clear hq HC han
    go_loopw [4, 17] (packRel w xs) (fun _ i _ => xs.length - (intOf i).toNat)
    case atStart => exact ⟨0, Nat.zero_le _, rfl, Own.nil _ _ _ _, HQ.out.below _⟩
    case round =>
      obtain ⟨k, hk, rfl, ho, hb⟩ := hrel
      have HO := Lib.hid ho; have HB := Lib.hid hb
      have h' := h.keep (w' := wr) (fun b hb' => hb.block b (hS b hb'))
      have hbs := hb.size
      clear ho hb h HQ
      by_cases hlt : k < xs.length
      · obtain ⟨y, hy⟩ : ∃ y, xs[k]? = some y := ⟨_, List.getElem?_eq_getElem hlt⟩
        obtain ⟨b1, o1, rfl, hSb, q1, hi⟩ := arr_int h' hy
        have HS : Hid (rle (xs.take (k + 1)) = packStep (rle (xs.take k)) y) := by show _ = _; rw [List.take_add_one, hy, ← rle_snoc]; rfl
        have HM := Lib.hid (rle_mem (xs.take k))
        have hln : (rle (xs.take k)).length ≤ k := Nat.le_trans (rle_len _) (List.length_take_le _ _)
        have hbl := hS b1 hSb
        clear hy h'
        generalize rle (xs.take k) = R at *
        have hinfo : (Try.prog.info? 119).map (fun i => (i.zero, i.size, i.bytes)) = some (some (.agg #[.int .i64 0, .int .i64 0]), Rep.sz Api.DRun, 16) := Try.info119
        have hz2 : (Value.agg #[.int .i64 0, .int .i64 0]).cells.size = Rep.sz Api.DRun := rfl
        have hp2 : 0 < Rep.sz Api.DRun := by decide
        have hcell : Rep.cells (fun _ => False) wr [.int .i64 y, .int .i64 1] (⟨y, 1⟩ : Api.DRun) := api_DRun_cells_mk (x := ⟨y, 1⟩) hi (by show I64 1; unfold I64; omega)
        rcases nil_or_snoc R with rfl | ⟨R, r, rfl⟩
        · obtain ⟨av, cap, rfl, -, -, -⟩ := HO.out.arr
          have hown := HO.out
          go_wp2_with (with_reducible refine wp_append1' (α := Api.DRun) (S := fun _ => False) (y := ⟨y, 1⟩) rfl rfl Try.underlying114 hinfo hz2 hp2 rfl rfl rfl (by rfl) hown hcell (fun _ h => h.elim) (by unfold maxLen; simp) (by simp) hbs fun v' w' hown' hg' => ?_)
          have HN := Lib.hid hown'
          have HB' := Lib.hid (HB.out.grown hg' hbs (fun k hk => (HO.out.lt k hk).1))
          clear hown' hg' hown
          go_roundw
          case rel => exact ⟨k + 1, by omega, by go_num, by rw [HS.out]; exact HN.out, HB'.out⟩
          case measure => simp [intOf]; omega
        · have hgr : (R ++ [r])[R.length]? = some r := by simp
          obtain ⟨g, cap, cs, rfl, hBg, hgs, hcap, hcs, hcell1, hfro, hset⟩ := HO.out.at hgr
          obtain ⟨T, M⟩ := r
          have hrm := HM.out ⟨T, M⟩ (by simp)
          obtain ⟨rfl, -, hM⟩ := api_DRun_cells_eq hcs
          have c0 : wr.cell? ⟨g, R.length * 2, none⟩ = some (.int .i64 T) := hcell1 0 (by decide)
          have c1 : wr.cell? ⟨g, R.length * 2 + 1, none⟩ = some (.int .i64 M) := hcell1 1 (by decide)
          have f1 : wr.frozen? ⟨g, R.length * 2 + 1, none⟩ = false := hfro _
          have hM2 : 1 ≤ M ∧ M ≤ 200 := ⟨hrm.2.1, by have := hrm.2.2; simp at this; omega⟩
          obtain ⟨hM0, hM1⟩ := hM2
          have HST := Lib.hid hset
          have hlr : R.length + 1 ≤ 200 := by simp at hln; omega
          clear hcell1 hfro hset hrm hgr hcs hM HM hln
          by_cases hT : T = y
          · subst hT
            have hee : (T == T) = true := by simp
            go_wp2
            have hO2 := HST.out 1 (.int .i64 (M + 1)) ⟨T, M + 1⟩ (by decide) (fun _ h => h.elim) (api_DRun_cells_mk (x := ⟨T, M + 1⟩) hi (by show I64 (M + 1); unfold I64; omega))
            rw [List.set_append_right _ _ (by omega), Nat.sub_self] at hO2
            go_roundw
            case rel => exact ⟨k + 1, by omega, by go_num, by rw [HS.out, packStep_snoc, if_pos rfl]; exact hO2, HB.out.setCell (p := ⟨g, _, none⟩) hBg _⟩
            case measure => simp [intOf]; omega
          · have hee : (T == y) = false := by simp [hT]
            have hown := HO.out
            go_wp2_with (with_reducible refine wp_append1' (α := Api.DRun) (S := fun _ => False) (y := ⟨y, 1⟩) rfl rfl Try.underlying114 hinfo hz2 hp2 rfl rfl rfl (by rfl) hown hcell (fun _ h => h.elim) (by unfold maxLen; simp; omega) (by simp; omega) hbs fun v' w' hown' hg' => ?_)
            have HN := Lib.hid hown'
            have HB' := Lib.hid (HB.out.grown hg' hbs (fun k hk => (HO.out.lt k hk).1))
            clear hown' hg' hown
            go_roundw
            case rel => exact ⟨k + 1, by omega, by go_num, by rw [HS.out, packStep_snoc, if_neg hT]; exact HN.out, HB'.out⟩
            case measure => simp [intOf]; omega
      · obtain rfl : k = xs.length := by omega
        obtain ⟨av, cap, rfl, harr⟩ := own_fresh HO.out
        have HE2 : Hid (packOf xs = (rle (xs.take xs.length), 0)) := by show _ = _; rw [List.take_length]; exact HE.out
        have HAR := Lib.hid harr
        clear harr
        go_wp2
        go_ret2
        exact .ok HE2.out HB.out HAR.out
  · have HE : Hid (packOf xs = ([], 1)) := by unfold packOf; show _ = _; rw [if_neg hl, if_neg ha]
    have HC := Lib.hid (containsFunc_any (c := c) (p := fun n => !inRange n) (F := 123) (caps := #[]) mild_quiet h hS (fun y w => Try.call123 _ _) (fun y wx _ _ _ => packFn_any))
    have han : (xs.any fun n => !inRange n) = true := by
      rw [List.any_eq_true]
      simp only [List.all_eq_true] at ha
      rcases Classical.not_forall.1 ha with ⟨x, hx⟩
      rcases Classical.not_imp.1 hx with ⟨h1, h2⟩
      exact ⟨x, h1, by simpa using h2⟩
    rw [han] at HC
    clear ha hl
    go_enter Try.func57, Try.ntmps57
    go_wp2_with (with_reducible refine HC.out.mono ?_; rintro e w1 ⟨rfl, hq⟩)
    go_ret2
    exact .err HE.out (hq.below _)
end Go.Proofs.Ytimlhjjdaggiiaa.sched
