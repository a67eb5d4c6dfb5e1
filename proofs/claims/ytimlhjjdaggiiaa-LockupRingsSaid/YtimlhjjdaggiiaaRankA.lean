/- The reference's rank, walked. -/
import Derived.Test.YtimlhjjdaggiiaaRingC
import Derived.Test.YtimlhjjdaggiiaaRankPlain
set_option linter.unusedVariables false
set_option linter.unusedSimpArgs false
namespace Go.Proofs.Ytimlhjjdaggiiaa.rank
open Go.Bk Go.RowKit Go.Proofs.Ytimlhjjdaggiiaa.ring

theorem int_cells {x : Int} (h : I64 x) (S : Nat → Prop) (w : World) : Rep.cells (α := Int) S w [.int .i64 x] x := ⟨rfl, h⟩
def RankPost (w : World) (R : List Int × Bool) (e : Ending) (w' : World) : Prop :=
  ∃ a' c', e = .returned (.tuple #[.slice a' R.1.length c', .bool R.2]) ∧ Arr (fun b => w.heap.size ≤ b ∧ b < w'.heap.size) w' a' R.1 ∧ Below w.heap.size w w'
def allRel (w : World) (l : List Api.DPair) (n : Nat) (v i : Value) (w' : World) : Prop :=
  ∃ k : Nat, k ≤ n ∧ i = .int .i64 k ∧ Own (fun _ => False) w' w.heap.size 3 v (namesTo l k) ∧ Below w.heap.size w w'
def outRel (w wl : World) (l : List Api.DPair) (R : List Int × Bool) (v : Value) (w' : World) : Prop :=
  ∃ out, RankAt l R out ∧ Own (fun _ => False) w' wl.heap.size 3 v out ∧ Below wl.heap.size wl w'
def bestRel (l : List Api.DPair) (out : List Int) (N : Nat) (wo : World) (least some' k : Value) (w' : World) : Prop :=
  ∃ q : Nat, q ≤ N ∧ k = .int .i64 q ∧ least = .int .i64 ((bestTo l out q).getD 0) ∧ some' = .bool (bestTo l out q).isSome ∧ Quiet wo w'
def freeRel (l : List Api.DPair) (out : List Int) (n : Nat) (x : Int) (wo : World) (fr i : Value) (w' : World) : Prop :=
  ∃ q : Nat, q ≤ n ∧ i = .int .i64 q ∧ fr = .bool (freeTo l out q x) ∧ Quiet wo w'

set_option maxRecDepth 100000 in
set_option maxHeartbeats 4000000 in
theorem lockRank_any {S : Nat → Prop} {w : World} {a : Option Addr} {c n : Nat} {l : List Api.DPair} (hn : l.length = n) (h : Arr S w a l) (hS : ∀ b, S b → b < w.heap.size) (hl : n ≤ 200) :
    Calls Try.prog 42 #[.slice a n c] w (RankPost w (rankOf l)) := by
  have HN := Lib.hid hn
  have HA : Hid (∀ w', Below w.heap.size w w' → Arr S w' a l) := fun w' hb => h.keep (fun b hb' => hb.block b (hS b hb'))
  clear hn h hS
  obtain ⟨R, hR⟩ : ∃ R, R = rankOf l := ⟨_, rfl⟩
  rw [← hR]
  have HR : Hid (RankAt l R []) := by rw [hR]; exact RankAt.zero l
  clear hR
  go_enter Try.func42, Try.ntmps42
  go_wp2_with fail
  go_loopw [4, 6] (allRel w l n) (fun _ i _ => n - (intOf i).toNat)
  case atStart => exact ⟨0, Nat.zero_le _, rfl, Own.nil _ _ _ _, Below.refl _ _⟩
  case round =>
    obtain ⟨k, hk, rfl, hown, hb⟩ := hrel
    have HO := Lib.hid hown; have HB := Lib.hid hb
    have hbs := hb.size
    have hnl := namesTo_len l k
    obtain ⟨a4, c4, rfl, -, -, hw4⟩ := hown.arr
    have HW4 := Lib.hid hw4
    clear hown hb hw4
    obtain ⟨m, hm⟩ : ∃ m, m = (namesTo l k).length := ⟨_, rfl⟩
    rw [← hm] at hnl HO ⊢
    have HM : Hid ((namesTo l k).length = m) := hm.symm
    clear hm
    by_cases hlt : k < n
    · obtain ⟨p, hp⟩ : ∃ p, l[k]? = some p := ⟨_, List.getElem?_eq_getElem (by have := HN.out; omega)⟩
      obtain ⟨b1, o1, rfl, -, q1, q2, i1, i2⟩ := api_DPair_elem (HA.out _ HB.out) hp
      have HP := Lib.hid hp
      have HNS := Lib.hid (namesTo_succ hp)
      clear hp
      by_cases h1 : p.I ∈ namesTo l k
      · have hd1 : decide (p.I ∈ namesTo l k) = true := decide_eq_true h1
        have e1 : Hid (addNew (namesTo l k) p.I = namesTo l k) := by show _ = _; unfold addNew; rw [if_pos h1]
        by_cases h2 : p.J ∈ namesTo l k
        · have hd2 : decide (p.J ∈ namesTo l k) = true := decide_eq_true h2
          have e2 : Hid (namesTo l (k + 1) = namesTo l k) := by show _ = _; rw [HNS.out, e1.out]; unfold addNew; rw [if_pos h2]
          clear h1 h2
          go_wp2_with (with_reducible refine (hasInt_any HM.out HW4.out).mono ?_; rintro e w' ⟨rfl, rfl⟩)
          go_roundw
          case rel => exact ⟨k + 1, by omega, by go_num, by rw [e2.out]; exact HO.out, HB.out⟩
          case measure => simp [intOf]; omega
        · have hd2 : decide (p.J ∈ namesTo l k) = false := decide_eq_false h2
          have e2 : Hid (namesTo l (k + 1) = namesTo l k ++ [p.J]) := by show _ = _; rw [HNS.out, e1.out]; unfold addNew; rw [if_neg h2]
          clear h1 h2
          go_wp2_with (first
            | (with_reducible refine (hasInt_any HM.out HW4.out).mono ?_; rintro e w' ⟨rfl, rfl⟩)
            | ((at_builtin; with_reducible refine Try.wp_app22 rfl rfl rfl rfl rfl (by first | rfl | simp) (HO.out) (int_cells i2 _ _) (fun _ h => h.elim) (by (rw [HM.out]; omega)) (by first | omega | (simp; omega)) fun v' w' hown' hg' => ?_); have HO' := Lib.hid hown'; have HBW := Lib.hid (HB.out.grown hg' hbs (fun r hr => (HO.out.lt r hr).1)); clear hown' hg'))
          go_roundw
          case rel => exact ⟨k + 1, by omega, by go_num, by rw [e2.out]; exact HO'.out, HBW.out⟩
          case measure => simp [intOf]; omega
      · have hd1 : decide (p.I ∈ namesTo l k) = false := decide_eq_false h1
        obtain ⟨X, hX⟩ : ∃ X, X = namesTo l k ++ [p.I] := ⟨_, rfl⟩
        have e1 : Hid (addNew (namesTo l k) p.I = X) := by show _ = _; rw [hX]; unfold addNew; rw [if_neg h1]
        have HX := Lib.hid hX
        clear hX
        by_cases h2 : p.J ∈ X
        · have hd2 : decide (p.J ∈ X) = true := decide_eq_true h2
          have e2 : Hid (namesTo l (k + 1) = X) := by show _ = _; rw [HNS.out, e1.out]; unfold addNew; rw [if_pos h2]
          have hlen5 : Hid (X.length = m + 1) := by show _ = _; rw [HX.out, List.length_append, HM.out]; rfl
          clear h1 h2
          go_wp2_with (first
            | (with_reducible refine (hasInt_any HM.out HW4.out).mono ?_; rintro e w' ⟨rfl, rfl⟩)
            | (with_reducible refine (hasInt_any HM5.out HW5.out).mono ?_; rintro e w'' ⟨rfl, rfl⟩)
            | ((at_builtin; with_reducible refine Try.wp_app22 rfl rfl rfl rfl rfl (by first | rfl | simp) (HO.out) (int_cells i1 _ _) (fun _ h => h.elim) (by (rw [HM.out]; omega)) (by first | omega | (simp; omega)) fun v' w' hown' hg' => ?_); rw [← HX.out] at hown'; obtain ⟨a5, c5, rfl, -, -, hw5⟩ := hown'.arr; obtain ⟨m5, hm5⟩ : ∃ m5, m5 = X.length := ⟨_, rfl⟩; rw [← hm5] at hown' ⊢; have HM5 : Hid (X.length = m5) := hm5.symm; have HO5 := Lib.hid hown'; have HW5 := Lib.hid hw5; have HBW := Lib.hid (HB.out.grown hg' hbs (fun r hr => (HO.out.lt r hr).1)); have hbs5 := HBW.out.size; obtain ⟨_, _, e9, -, q3, q4, -, -⟩ := api_DPair_elem (HA.out _ HBW.out) HP.out; cases e9; clear hown' hg' hm5 hw5))
          go_roundw
          case rel => exact ⟨k + 1, by omega, by go_num, by rw [e2.out]; exact HO5.out, HBW.out⟩
          case measure => simp [intOf]; omega
        · have hd2 : decide (p.J ∈ X) = false := decide_eq_false h2
          have e2 : Hid (namesTo l (k + 1) = X ++ [p.J]) := by show _ = _; rw [HNS.out, e1.out]; unfold addNew; rw [if_neg h2]
          have hlen5 : Hid (X.length = m + 1) := by show _ = _; rw [HX.out, List.length_append, HM.out]; rfl
          clear h1 h2
          go_wp2_with (first
            | (with_reducible refine (hasInt_any HM.out HW4.out).mono ?_; rintro e w' ⟨rfl, rfl⟩)
            | (with_reducible refine (hasInt_any HM5.out HW5.out).mono ?_; rintro e w'' ⟨rfl, rfl⟩)
            | ((at_builtin; with_reducible refine Try.wp_app22 rfl rfl rfl rfl rfl (by first | rfl | simp) (HO.out) (int_cells i1 _ _) (fun _ h => h.elim) (by (rw [HM.out]; omega)) (by first | omega | (simp; omega)) fun v' w' hown' hg' => ?_); rw [← HX.out] at hown'; obtain ⟨a5, c5, rfl, -, -, hw5⟩ := hown'.arr; obtain ⟨m5, hm5⟩ : ∃ m5, m5 = X.length := ⟨_, rfl⟩; rw [← hm5] at hown' ⊢; have HM5 : Hid (X.length = m5) := hm5.symm; have HO5 := Lib.hid hown'; have HW5 := Lib.hid hw5; have HBW := Lib.hid (HB.out.grown hg' hbs (fun r hr => (HO.out.lt r hr).1)); have hbs5 := HBW.out.size; obtain ⟨_, _, e9, -, q3, q4, -, -⟩ := api_DPair_elem (HA.out _ HBW.out) HP.out; cases e9; clear hown' hg' hm5 hw5)
            | ((at_builtin; with_reducible refine Try.wp_app22 rfl rfl rfl rfl rfl (by first | rfl | simp) (HO5.out) (int_cells i2 _ _) (fun _ h => h.elim) (by (rw [hlen5.out]; omega)) (by first | omega | (simp; omega)) fun v' w' hown' hg' => ?_); have HO6 := Lib.hid hown'; have HBW6 := Lib.hid (HBW.out.grown hg' hbs5 (fun r hr => (HO5.out.lt r hr).1)); clear hown' hg'))
          go_roundw
          case rel => exact ⟨k + 1, by omega, by go_num, by rw [e2.out]; exact HO6.out, HBW6.out⟩
          case measure => simp [intOf]; omega
    · obtain rfl : k = n := by omega
      have HNM : Hid (namesTo l k = names l) := by show _ = _; unfold names; rw [HN.out]
      obtain ⟨N, hN⟩ : ∃ N, N = m := ⟨_, rfl⟩
      rw [← hN] at hnl HM HO ⊢
      have HNL : Hid ((names l).length = N) := by show _ = _; rw [← HNM.out]; exact HM.out
      have HWN : Hid (Arr (fun b => w.heap.size ≤ b ∧ b < wr.heap.size) wr a4 (names l)) := by
        show Arr _ _ _ _
        rw [← HNM.out]
        exact HW4.out.mono (fun b hb => hb.resolve_left id)
      clear hN HO HM HW4 HNM
      have hbl := HB.out.size
      obtain ⟨wl, hwl⟩ : ∃ wl : World, wl = wr := ⟨_, rfl⟩
      rw [← hwl] at HB HWN hbl ⊢
      clear hwl
      go_wp2_with fail
      go_loopw [5] (outRel w wl l R) (fun v _ => 401 - lenV v)
      case atStart => exact ⟨[], HR.out, Own.nil _ _ _ _, Below.refl _ _⟩
      case round =>
        obtain ⟨out, hra, hown, hb⟩ := hrel
        have HRA := Lib.hid hra; have HO := Lib.hid hown; have HB1 := Lib.hid hb
        have hol := hra.1.len
        rw [HNL.out] at hol
        obtain ⟨a5, c5, rfl, -, -, hw5⟩ := hown.arr
        have HW5 := Lib.hid hw5
        obtain ⟨m, hm⟩ : ∃ m, m = out.length := ⟨_, rfl⟩
        rw [← hm] at hol HO ⊢
        have HM : Hid (out.length = m) := hm.symm
        clear hra hown hb hw5 hm
        by_cases hlt : m < N
        · have hdm : decide ((m : Int) < (N : Int)) = true := decide_eq_true (by omega)
          go_wp2_with fail
          obtain ⟨wo, hwo⟩ : ∃ wo : World, wo = wr := ⟨_, rfl⟩
          rw [← hwo] at HO HB1 HW5 ⊢
          clear hwo
          go_loopw [7, 8, 9] (bestRel l out N wo) (fun _ _ k _ => N - (intOf k).toNat)
          case atStart => exact ⟨0, Nat.zero_le _, rfl, rfl, rfl, Quiet.refl _⟩
          case round =>
            obtain ⟨q, hq, rfl, rfl, rfl, hqu⟩ := hrel
            have HQ := Lib.hid hqu
            clear hqu
            have HAN : Hid (∀ w', Quiet wo w' → Arr (fun b => w.heap.size ≤ b ∧ b < wl.heap.size) w' a4 (names l)) := fun w' hq => (HWN.out.keep (fun b hb => HB1.out.block b hb.2)).keep (fun b _ => hq.heap b)
            have HAO : Hid (∀ w', Quiet wo w' → Arr (fun b => False ∨ (wl.heap.size ≤ b ∧ b < wo.heap.size)) w' a5 out) := fun w' hq => HW5.out.keep (fun b _ => hq.heap b)
            have HAL : Hid (∀ w', Quiet wo w' → Arr S w' a l) := fun w' hq => (HA.out _ (HB.out.trans (HB1.out.mono hbl))).keep (fun b _ => hq.heap b)
            by_cases hlq : q < N
            · obtain ⟨x, hx⟩ : ∃ x, (names l)[q]? = some x := ⟨_, List.getElem?_eq_getElem (by have := HNL.out; omega)⟩
              obtain ⟨b4, o4, rfl, -, qx, ix⟩ := arr_int (HAN.out _ HQ.out) hx
              have HX := Lib.hid hx
              have HBS := Lib.hid (bestTo_succ (out := out) hx)
              have hdq : decide ((q : Int) < (N : Int)) = true := decide_eq_true (by omega)
              clear hx
              go_wp2_with (with_reducible refine (hasInt_any HM.out (HAO.out _ HQ.out)).mono ?_; rintro e w' ⟨rfl, rfl⟩)
              go_loopw [10, 11] (freeRel l out k x wo) (fun _ i _ => k - (intOf i).toNat)
              case atStart => exact ⟨0, Nat.zero_le _, rfl, by rw [freeTo_zero], HQ.out⟩
              case round =>
                obtain ⟨j, hj, rfl, rfl, hqj⟩ := hrel
                have HQJ := Lib.hid hqj
                clear hqj qx
                obtain ⟨_, _, e4, -, qx, -⟩ := arr_int (HAN.out _ HQJ.out) HX.out
                cases e4
                by_cases hjn : j < k
                · obtain ⟨p, hp⟩ : ∃ p, l[j]? = some p := ⟨_, List.getElem?_eq_getElem (by have := HN.out; omega)⟩
                  obtain ⟨b1, o1, rfl, -, q1, q2, -, -⟩ := api_DPair_elem (HAL.out _ HQJ.out) hp
                  have HP := Lib.hid hp
                  have HS : Hid (∀ m9, Calls Try.prog 96 #[.slice a5 m c5, .int .i64 p.I] (wr.drewN m9) fun e w' => e = .returned (.bool (decide (p.I ∈ out))) ∧ wr.drewN m9 = w') := fun m9 => hasInt_any HM.out (HAO.out _ (HQJ.out.more m9))
                  have hdj : decide ((j : Int) < (k : Int)) = true := decide_eq_true (by omega)
                  clear hp
                  by_cases h1 : p.J = x
                  · have e1 : (p.J == x) = true := by simpa using h1
                    by_cases h2 : p.I ∈ out
                    · have e2 : decide (p.I ∈ out) = true := decide_eq_true h2
                      have HF := Lib.hid (freeTo_miss (out := out) (x := x) HP.out (fun h => h.2 h2))
                      clear h1 h2
                      go_wp2_with fail
                      first | (refine wp_region_quiet_lit (by kernel_rfl) (by kernel_rfl) ?_; (repeat (go_big_quiet_step ((go_at_call 96; exact quiet_of_eq (HS.out _))))); refine wpQuiet_nil ?_; intro _ hw'; obtain ⟨nq, hw''⟩ := hw'; subst hw'')
                      go_wp2_with fail
                      go_roundw
                      case rel => exact ⟨j + 1, by omega, by go_num, by rw [HF.out], HQJ.out.more _⟩
                      case measure => simp [intOf]; omega
                    · have e2 : decide (p.I ∈ out) = false := decide_eq_false h2
                      have HF := Lib.hid (freeTo_hit (out := out) (x := x) HP.out h1 h2)
                      clear h1 h2
                      go_wp2_with fail
                      first | (refine wp_region_quiet_lit (by kernel_rfl) (by kernel_rfl) ?_; (repeat (go_big_quiet_step ((go_at_call 96; exact quiet_of_eq (HS.out _))))); refine wpQuiet_nil ?_; intro _ hw'; obtain ⟨nq, hw''⟩ := hw'; subst hw'')
                      go_wp2_with fail
                      go_roundw
                      case rel => exact ⟨j + 1, by omega, by go_num, by rw [HF.out], HQJ.out.more _⟩
                      case measure => simp [intOf]; omega
                  · have e1 : (p.J == x) = false := by simpa using h1
                    have HF := Lib.hid (freeTo_miss (out := out) (x := x) HP.out (fun h => h1 h.1))
                    clear h1
                    go_wp2_with fail
                    first | (refine wp_region_quiet_lit (by kernel_rfl) (by kernel_rfl) ?_; (repeat (go_big_quiet_step ((go_at_call 96; exact quiet_of_eq (HS.out _))))); refine wpQuiet_nil ?_; intro _ hw'; obtain ⟨nq, hw''⟩ := hw'; subst hw'')
                    go_wp2_with fail
                    go_roundw
                    case rel => exact ⟨j + 1, by omega, by go_num, by rw [HF.out], HQJ.out.more _⟩
                    case measure => simp [intOf]; omega
                · obtain rfl : j = k := by omega
                  rw [freeTo_all HN.out]
                  cases hf : free l out x with
                  | false =>
                    have HB2 : Hid (bestTo l out (q + 1) = bestTo l out q) := by have := HBS.out; rw [hf] at this; exact this
                    clear hf
                    go_wp2_with fail
                    go_roundw
                    case rel => exact ⟨q + 1, by omega, by go_num, by rw [HB2.out], by rw [HB2.out], HQJ.out⟩
                    case measure => simp [intOf]; omega
                  | true =>
                    cases ho : bestTo l out q with
                    | none =>
                      have HB2 : Hid (bestTo l out (q + 1) = some x) := by have := HBS.out; rw [hf, ho] at this; exact this
                      clear hf ho
                      go_wp2_with fail
                      go_roundw
                      case rel => exact ⟨q + 1, by omega, by go_num, by first | (rw [HB2.out]; done) | (rw [HB2.out]; rfl), by first | (rw [HB2.out]; done) | (rw [HB2.out]; rfl), HQJ.out⟩
                      case measure => simp [intOf]; omega
                    | some y =>
                      by_cases hxy : x < y
                      · have HB2 : Hid (bestTo l out (q + 1) = some x) := by have := HBS.out; rw [hf, ho] at this; show _ = _; rw [this]; simp [pick, hxy]
                        have hdx : decide (x < y) = true := decide_eq_true hxy
                        clear hf ho
                        go_wp2_with fail
                        go_roundw
                        case rel => exact ⟨q + 1, by omega, by go_num, by first | (rw [HB2.out]; done) | (rw [HB2.out]; rfl), by first | (rw [HB2.out]; done) | (rw [HB2.out]; rfl), HQJ.out⟩
                        case measure => simp [intOf]; omega
                      · have HB2 : Hid (bestTo l out (q + 1) = some y) := by have := HBS.out; rw [hf, ho] at this; show _ = _; rw [this]; simp [pick, hxy]
                        have hdx : decide (x < y) = false := decide_eq_false hxy
                        clear hf ho
                        go_wp2_with fail
                        go_roundw
                        case rel => exact ⟨q + 1, by omega, by go_num, by first | (rw [HB2.out]; done) | (rw [HB2.out]; rfl), by first | (rw [HB2.out]; done) | (rw [HB2.out]; rfl), HQJ.out⟩
                        case measure => simp [intOf]; omega
            · obtain rfl : q = N := by omega
              rw [bestTo_all HNL.out]
              cases hb : best l out with
              | none =>
                have HRE := Lib.hid (HRA.out.none (by rw [HM.out, HNL.out]; exact hlt) hb)
                have e1 : (none : Option Int).getD 0 = 0 := rfl
                have e2 : (none : Option Int).isSome = false := rfl
                clear hb
                go_wp2_with fail
                go_ret2
                rw [HRE.out]
                exact ⟨none, 0, rfl, Arr.nil _ _ _, (HB.out.trans (HB1.out.mono hbl)).trans (HQ.out.below _)⟩
              | some y =>
                have HRS := Lib.hid (HRA.out.some (by rw [HM.out, HNL.out]; exact hlt) hb)
                have iy : I64 y := by
                  obtain ⟨i9, hi9⟩ := List.getElem?_of_mem (HRA.out.1.step hb).2.1
                  obtain ⟨_, _, -, -, -, h9⟩ := arr_int (HAN.out _ HQ.out) hi9
                  exact h9
                have HOQ : Hid (Own (fun _ => False) wr wl.heap.size 3 (.slice a5 m c5) out) := HO.out.below (HQ.out.below _) (fun _ h => h.elim)
                have HBQ := Lib.hid (HB1.out.trans (HQ.out.below _))
                have hbq := HBQ.out.size
                clear hb
                go_wp2_with ((at_builtin; with_reducible refine Try.wp_app22 rfl rfl rfl rfl rfl (by first | rfl | simp) (HOQ.out) (int_cells iy _ _) (fun _ h => h.elim) (by (rw [HM.out]; omega)) (by first | omega | (simp; omega)) fun v' w' hown' hg' => ?_); have HO' := Lib.hid hown'; have HBW := Lib.hid (HBQ.out.grown hg' hbq (fun r hr => (HOQ.out.lt r hr).1)); clear hown' hg')
                go_roundw
                case rel => exact ⟨out ++ [y], HRS.out, HO'.out, HBW.out⟩
                case measure =>
                  obtain ⟨a8, c8, rfl, -, -, -⟩ := HO'.out.arr
                  simp [lenV, HM.out] <;> omega
        · obtain rfl : m = N := by omega
          have HRE := Lib.hid (HRA.out.done (by rw [HM.out, HNL.out]))
          go_wp2_with fail
          go_ret2
          rw [HRE.out]
          exact ⟨a5, c5, by rw [HM.out]; rfl, HW5.out.mono (fun b hb => by have := hb.resolve_left id; exact ⟨by omega, this.2⟩), HB.out.trans (HB1.out.mono hbl)⟩
end Go.Proofs.Ytimlhjjdaggiiaa.rank
