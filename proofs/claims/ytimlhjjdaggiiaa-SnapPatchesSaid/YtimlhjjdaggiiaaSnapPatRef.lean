/- Patched answers just what the document says. -/
import Derived.Test.YtimlhjjdaggiiaaSnapPatches
namespace Go.Proofs.Ytimlhjjdaggiiaa
open Go.Bk Go.RowKit

/-- What the second loop keeps: i rounds, kk patches behind it, v what has been made. -/
def refRel (w : World) (m : Nat) (l : List Api.DPatch) (F : List Int) (v kk i : Value) (w' : World) : Prop :=
  ∃ (q j : Nat), q ≤ m ∧ i = .int .i64 q ∧ kk = .int .i64 j ∧ aheadIs l q j ∧ Own (fun _ => False) w' w.heap.size 3 v (F.take q) ∧ Below w.heap.size w w'

set_option maxRecDepth 100000 in
set_option maxHeartbeats 4000000 in
theorem patched_ref {S1 S2 : Nat → Prop} {w : World} {a1 a2 : Option Addr} {c1 c2 : Nat} {xs : List Int} {l : List Api.DPatch} {n : Int} (h1 : Arr S1 w a1 xs) (h2 : Arr S2 w a2 l) (hS1 : ∀ b, S1 b → b < w.heap.size) (hS2 : ∀ b, S2 b → b < w.heap.size) :
    Calls Try.prog 16 #[.slice a1 xs.length c1, .int .i64 n, .slice a2 l.length c2] w (ListErr w (PatchIs xs n l)) := by
  by_cases hnn : n < 0 ∨ 20000 < n
  · go_enter Try.func16, Try.ntmps16
    go_wp2_with (go_at_call 61; (with_reducible refine (between_false hnn).mono ?_); rintro e w' ⟨rfl, rfl⟩)
    go_ret2
    exact ⟨none, [], 0, 1, rfl, Arr.nil _ _ _, ⟨fun _ => ⟨rfl, rfl⟩, fun h => by omega, fun h => by omega⟩, Below.refl _ _⟩
  obtain ⟨hn0, hn1⟩ : 0 ≤ n ∧ n ≤ 20000 := by omega
  obtain ⟨m, rfl⟩ : ∃ m : Nat, n = m := ⟨n.toNat, by omega⟩
  have hm1 := h1.small; have hm2 := h2.small
  unfold maxLen at hm1 hm2
  obtain ⟨n2, hn2⟩ : ∃ n, n = l.length := ⟨_, rfl⟩
  rw [← hn2] at hm2; rw [← hn2]
  have H2 := Lib.hid hn2
  clear hn2 hnn
  go_enter Try.func16, Try.ntmps16
  go_wp2_with (go_at_call 61; (with_reducible refine (between_true hn0 hn1).mono ?_); rintro e w' ⟨rfl, rfl⟩)
  go_loopw [8] (fun i w' => ∃ (k : Nat), k ≤ n2 ∧ i = .int .i64 k ∧ okTo m l k ∧ Quiet w w') (fun i _ => n2 - (intOf i).toNat)
  case atStart => exact ⟨0, Nat.zero_le _, rfl, fun i x hi => by omega, Quiet.refl _⟩
  case round =>
    obtain ⟨k, hk, rfl, hok, hq⟩ := hrel
    have HO := Lib.hid hok; have HQ := Lib.hid hq
    have h2' := h2.keep (w' := wr) (fun b _ => hq.heap b)
    clear hok hq
    by_cases hlt : k < n2
    · obtain ⟨x, hx⟩ : ∃ x, l[k]? = some x := ⟨_, List.getElem?_eq_getElem (by have := H2.out; omega)⟩
      obtain ⟨b, off, rfl, hb, q1, q2, i1, i2⟩ := api_DPatch_elem h2' hx
      have HX := Lib.hid hx; clear hx
      obtain ⟨A, V⟩ := x
      unfold I64 at i1 i2
      have hwm : IntKind.i64.wrap ((m : Int) - 1) = (m : Int) - 1 := IntWalk.i64_in _ (by omega)
      by_cases hA : A < 0 ∨ (m : Int) - 1 < A
      · go_wp2
        first | (refine wp_region_quiet_lit (by kernel_rfl) (by kernel_rfl) ?_; (repeat (go_big_quiet_step ((go_at_call 61; exact quiet_of_eq (between_false hA))))); refine wpQuiet_nil ?_; intro _ hw'; obtain ⟨nq, hw''⟩ := hw'; subst hw'')
        go_wp2
        go_ret2
        exact ⟨none, [], 0, 3, rfl, Arr.nil _ _ _, ⟨fun h => by omega, fun _ _ h => absurd (h k _ (by have := H2.out; omega) HX.out) (by simp; omega), fun _ _ _ => ⟨rfl, rfl⟩⟩, (HQ.out.more _).below _⟩
      · obtain ⟨hA0, hA1⟩ : 0 ≤ A ∧ A ≤ (m : Int) - 1 := by omega
        clear hA
        by_cases hk0 : k = 0
        · have hd : decide (0 < k) = false := by simp [hk0]
          have HK0 := Lib.hid hk0
          clear hk0
          go_wp2
          first | (refine wp_region_quiet_lit (by kernel_rfl) (by kernel_rfl) ?_; (repeat (go_big_quiet_step ((go_at_call 61; exact quiet_of_eq (between_true hA0 hA1))))); refine wpQuiet_nil ?_; intro _ hw'; obtain ⟨nq, hw''⟩ := hw'; subst hw'')
          go_wp2
          go_roundw
          case rel => exact ⟨k + 1, by omega, by go_num, okTo_step HO.out HX.out hA0 (by show A < m; omega) (fun y hy => by have := HK0.out; omega), HQ.out.more _⟩
          case measure => simp [intOf]; omega
        · have hd : decide (0 < k) = true := by simp; omega
          obtain ⟨y, hy⟩ : ∃ y, l[k - 1]? = some y := ⟨_, List.getElem?_eq_getElem (by have := H2.out; omega)⟩
          obtain ⟨b', off', he, -, q3, q4, -, -⟩ := api_DPatch_elem h2' hy
          obtain ⟨rfl, rfl⟩ : b = b' ∧ off = off' := by simpa using he
          have HY := Lib.hid hy; clear hy he
          obtain ⟨j, rfl⟩ : ∃ j, k = j + 1 := ⟨k - 1, by omega⟩
          simp only [Nat.add_sub_cancel] at q3 q4
          have hwk : IntKind.i64.wrap (((j + 1 : Nat) : Int) - 1) = (j : Int) := by rw [IntWalk.i64_in _ (by omega)]; omega
          clear hk0
          by_cases hlo : A ≤ y.At
          · have hd2 : decide (A ≤ y.At) = true := by simp [hlo]
            go_wp2
            first | (refine wp_region_quiet_lit (by kernel_rfl) (by kernel_rfl) ?_; (repeat (go_big_quiet_step ((go_at_call 61; exact quiet_of_eq (between_true hA0 hA1))))); refine wpQuiet_nil ?_; intro _ hw'; obtain ⟨nq, hw''⟩ := hw'; subst hw'')
            go_wp2
            go_ret2
            exact ⟨none, [], 0, 3, rfl, Arr.nil _ _ _, ⟨fun h => by omega, fun _ _ h => absurd ((h _ _ (by have := H2.out; omega) HX.out).2.2 j y (by omega) HY.out) (by simp; omega), fun _ _ _ => ⟨rfl, rfl⟩⟩, (HQ.out.more _).below _⟩
          · have hd2 : decide (A ≤ y.At) = false := by simp; omega
            go_wp2
            first | (refine wp_region_quiet_lit (by kernel_rfl) (by kernel_rfl) ?_; (repeat (go_big_quiet_step ((go_at_call 61; exact quiet_of_eq (between_true hA0 hA1))))); refine wpQuiet_nil ?_; intro _ hw'; obtain ⟨nq, hw''⟩ := hw'; subst hw'')
            go_wp2
            go_roundw
            case rel => exact ⟨j + 2, by omega, by go_num, okTo_step HO.out HX.out hA0 (by show A < m; omega) (fun z _ hz => by obtain rfl := Option.some.inj (HY.out.symm.trans hz); show y.At < A; omega), HQ.out.more _⟩
            case measure => simp [intOf]; omega
    · have hkn : k = l.length := by have := H2.out; omega
      have hall : okTo m l l.length := hkn ▸ HO.out
      have HKN := Lib.hid hkn
      clear hkn
      go_wp2
      obtain ⟨F, hF⟩ : ∃ F, F = outTo xs m l l.length := ⟨_, rfl⟩
      have hFl : F.length = m := by rw [hF, outTo_length]
      have hFr : ∀ z ∈ F, I64 z := by rw [hF]; exact outTo_range h1 h2 _ _
      have HF := Lib.hid hF; have HFl := Lib.hid hFl; have HFr := Lib.hid hFr; have HA := Lib.hid hall
      clear hF hFl hFr hall h2'
      go_loopw [9, 10, 11] (refRel w m l F) (fun _ _ i _ => m - (intOf i).toNat)
      case atStart => exact ⟨0, 0, Nat.zero_le _, rfl, rfl, ⟨Nat.zero_le _, fun t x hx => by have := HA.out t x ((List.getElem?_eq_some_iff.1 hx).1) hx; omega⟩, by simpa using Own.nil _ _ _ _, HQ.out.below _⟩
      case round =>
        obtain ⟨q, j, hq, rfl, rfl, hah, hown, hbel⟩ := hrel
        have HO2 := Lib.hid hown; have HB := Lib.hid hbel; have HH := Lib.hid hah
        have hjn : j ≤ n2 := by have := hah.1; have := H2.out; omega
        have g1 := h1.keep (w' := wr) (fun b hb => hbel.block b (hS1 b hb))
        have g2 := h2.keep (w' := wr) (fun b hb => hbel.block b (hS2 b hb))
        clear hown hbel hah h1 h2
        by_cases hqm : q < m
        · have hstep : ∀ {v' : Value} {w' : World} {val : Int} {j' : Nat}, F[q]? = some val → Own (fun _ => False) w' w.heap.size 3 v' (F.take q ++ [val]) → aheadIs l (q + 1) j' → Below w.heap.size w w' →
              refRel w m l F v' (.int .i64 (j' : Int)) (.int .i64 ((q : Int) + 1)) w' :=
            fun hv ho ha hb => ⟨q + 1, _, by omega, by go_num, rfl, ha, by rw [List.take_add_one, hv]; exact ho, hb⟩
          by_cases hjl : j < n2
          · obtain ⟨x, hx⟩ : ∃ x, l[j]? = some x := ⟨_, List.getElem?_eq_getElem (by have := H2.out; omega)⟩
            obtain ⟨b2, o2, rfl, -, q1, q2, i1, i2⟩ := api_DPatch_elem g2 hx
            have HX := Lib.hid hx
            clear hx g2
            obtain ⟨At, V⟩ := x
            by_cases he : At = q
            · subst he
              have hbe : ((q : Int) == q) = true := by simp
              have HV : Hid (F[q]? = some V) := by rw [HF.out]; exact outTo_at _ HA.out (by have := H2.out; omega) HX.out rfl
              by_cases hqx : q < xs.length
              · obtain ⟨b1, o1, cs1, rfl, -, ⟨rfl, ir⟩, p1⟩ := g1.at (List.getElem?_eq_getElem hqx)
                have r1 : wr.cell? ⟨b1, o1 + q, none⟩ = some (.int .i64 xs[q]) := by simpa [show Rep.sz Int = 1 from rfl] using p1 0 Nat.zero_lt_one
                clear p1 g1
                go_wp2_with (with_reducible refine wp_append1 (α := Int) (S := fun _ => False) (y := V) rfl rfl Try.underlying22 Try.info3 rfl (by decide) rfl rfl rfl HO2.out (cells_int i2) (fun _ h => h.elim) (by have := HFl.out; simp; unfold maxLen; omega) (by have := HFl.out; simp; omega) HB.out.size fun v' w' hown' hg' => ?_)
                have HN := Lib.hid hown'; have HB' := Lib.hid (HB.out.grown hg' HB.out.size (fun k hk => (HO2.out.lt k hk).1))
                clear hown' hg'
                go_wp2
                go_roundw
                case rel => exact hstep HV.out HN.out (by first | exact aheadIs_hit HA.out HH.out HX.out rfl | exact aheadIs_miss HA.out HH.out HM.out) HB'.out
                case measure => simp [intOf]; omega

              · clear g1
                go_wp2_with (with_reducible refine wp_append1 (α := Int) (S := fun _ => False) (y := V) rfl rfl Try.underlying22 Try.info3 rfl (by decide) rfl rfl rfl HO2.out (cells_int i2) (fun _ h => h.elim) (by have := HFl.out; simp; unfold maxLen; omega) (by have := HFl.out; simp; omega) HB.out.size fun v' w' hown' hg' => ?_)
                have HN := Lib.hid hown'; have HB' := Lib.hid (HB.out.grown hg' HB.out.size (fun k hk => (HO2.out.lt k hk).1))
                clear hown' hg'
                go_wp2
                go_roundw
                case rel => exact hstep HV.out HN.out (by first | exact aheadIs_hit HA.out HH.out HX.out rfl | exact aheadIs_miss HA.out HH.out HM.out) HB'.out
                case measure => simp [intOf]; omega

            · have hbe : ((At : Int) == q) = false := by simp [he]
              have HM : Hid (∀ x, l[j]? = some x → x.At ≠ q) := fun y hy => by obtain rfl := Option.some.inj (HX.out.symm.trans hy); exact he
              have HV0 : Hid (F[q]? = some (xs[q]?.getD 0)) := by rw [HF.out]; exact outTo_else _ HA.out hqm (aheadIs_else HA.out HH.out HM.out)
              clear he
              by_cases hqx : q < xs.length
              · obtain ⟨b1, o1, cs1, rfl, -, ⟨rfl, ir⟩, p1⟩ := g1.at (List.getElem?_eq_getElem hqx)
                have r1 : wr.cell? ⟨b1, o1 + q, none⟩ = some (.int .i64 xs[q]) := by simpa [show Rep.sz Int = 1 from rfl] using p1 0 Nat.zero_lt_one
                have HV : Hid (F[q]? = some xs[q]) := by have := HV0.out; rw [show xs[q]? = some xs[q] from List.getElem?_eq_getElem hqx] at this; exact this
                have HI := Lib.hid ir
                clear p1 g1 HV0 ir
                go_wp2_with (with_reducible refine wp_append1 (α := Int) (S := fun _ => False) (y := xs[q]) rfl rfl Try.underlying22 Try.info3 rfl (by decide) rfl rfl rfl HO2.out (cells_int HI.out) (fun _ h => h.elim) (by have := HFl.out; simp; unfold maxLen; omega) (by have := HFl.out; simp; omega) HB.out.size fun v' w' hown' hg' => ?_)
                have HN := Lib.hid hown'; have HB' := Lib.hid (HB.out.grown hg' HB.out.size (fun k hk => (HO2.out.lt k hk).1))
                clear hown' hg'
                go_wp2
                go_roundw
                case rel => exact hstep HV.out HN.out (by first | exact aheadIs_hit HA.out HH.out HX.out rfl | exact aheadIs_miss HA.out HH.out HM.out) HB'.out
                case measure => simp [intOf]; omega

              · have HV : Hid (F[q]? = some 0) := by have := HV0.out; rw [show xs[q]? = none from List.getElem?_eq_none (by omega)] at this; exact this
                clear g1 HV0
                go_wp2_with (with_reducible refine wp_append1 (α := Int) (S := fun _ => False) (y := 0) rfl rfl Try.underlying22 Try.info3 rfl (by decide) rfl rfl rfl HO2.out (cells_int (by unfold I64; omega)) (fun _ h => h.elim) (by have := HFl.out; simp; unfold maxLen; omega) (by have := HFl.out; simp; omega) HB.out.size fun v' w' hown' hg' => ?_)
                have HN := Lib.hid hown'; have HB' := Lib.hid (HB.out.grown hg' HB.out.size (fun k hk => (HO2.out.lt k hk).1))
                clear hown' hg'
                go_wp2
                go_roundw
                case rel => exact hstep HV.out HN.out (by first | exact aheadIs_hit HA.out HH.out HX.out rfl | exact aheadIs_miss HA.out HH.out HM.out) HB'.out
                case measure => simp [intOf]; omega

          · have HM : Hid (∀ x, l[j]? = some x → x.At ≠ q) := fun y hy => by have := (List.getElem?_eq_some_iff.1 hy).1; have := H2.out; omega
            have HV0 : Hid (F[q]? = some (xs[q]?.getD 0)) := by rw [HF.out]; exact outTo_else _ HA.out hqm (aheadIs_else HA.out HH.out HM.out)
            clear g2
            by_cases hqx : q < xs.length
            · obtain ⟨b1, o1, cs1, rfl, -, ⟨rfl, ir⟩, p1⟩ := g1.at (List.getElem?_eq_getElem hqx)
              have r1 : wr.cell? ⟨b1, o1 + q, none⟩ = some (.int .i64 xs[q]) := by simpa [show Rep.sz Int = 1 from rfl] using p1 0 Nat.zero_lt_one
              have HV : Hid (F[q]? = some xs[q]) := by have := HV0.out; rw [show xs[q]? = some xs[q] from List.getElem?_eq_getElem hqx] at this; exact this
              have HI := Lib.hid ir
              clear p1 g1 HV0 ir
              go_wp2_with (with_reducible refine wp_append1 (α := Int) (S := fun _ => False) (y := xs[q]) rfl rfl Try.underlying22 Try.info3 rfl (by decide) rfl rfl rfl HO2.out (cells_int HI.out) (fun _ h => h.elim) (by have := HFl.out; simp; unfold maxLen; omega) (by have := HFl.out; simp; omega) HB.out.size fun v' w' hown' hg' => ?_)
              have HN := Lib.hid hown'; have HB' := Lib.hid (HB.out.grown hg' HB.out.size (fun k hk => (HO2.out.lt k hk).1))
              clear hown' hg'
              go_wp2
              go_roundw
              case rel => exact hstep HV.out HN.out (by first | exact aheadIs_hit HA.out HH.out HX.out rfl | exact aheadIs_miss HA.out HH.out HM.out) HB'.out
              case measure => simp [intOf]; omega

            · have HV : Hid (F[q]? = some 0) := by have := HV0.out; rw [show xs[q]? = none from List.getElem?_eq_none (by omega)] at this; exact this
              clear g1 HV0
              go_wp2_with (with_reducible refine wp_append1 (α := Int) (S := fun _ => False) (y := 0) rfl rfl Try.underlying22 Try.info3 rfl (by decide) rfl rfl rfl HO2.out (cells_int (by unfold I64; omega)) (fun _ h => h.elim) (by have := HFl.out; simp; unfold maxLen; omega) (by have := HFl.out; simp; omega) HB.out.size fun v' w' hown' hg' => ?_)
              have HN := Lib.hid hown'; have HB' := Lib.hid (HB.out.grown hg' HB.out.size (fun k hk => (HO2.out.lt k hk).1))
              clear hown' hg'
              go_wp2
              go_roundw
              case rel => exact hstep HV.out HN.out (by first | exact aheadIs_hit HA.out HH.out HX.out rfl | exact aheadIs_miss HA.out HH.out HM.out) HB'.out
              case measure => simp [intOf]; omega

        · go_wp2
          go_ret2
          obtain ⟨av, cap, rfl, -, -, harr⟩ := HO2.out.arr
          have hqe : q = m := by omega
          have hft : F.take q = F := List.take_of_length_le (by have := HFl.out; omega)
          rw [hft] at harr ⊢
          exact ⟨av, F, cap, 0, rfl, harr.mono (fun b hb => hb.elim False.elim id), ⟨fun h => by omega, fun _ _ _ => ⟨HF.out, rfl⟩, fun _ _ h => absurd HA.out h⟩, HB.out⟩
end Go.Proofs.Ytimlhjjdaggiiaa
