/- The law ClocksEdges, walked: the two answers are one. -/
import Derived.Test.YtffebdngmbbcoaaClkF
import Derived.Test.YtffebdngmbbcoaaSoon
set_option linter.unusedVariables false
set_option linter.unusedSimpArgs false
namespace Go.Proofs.Ytffebdngmbbcoaa.clk
open Go.Bk Go.RowKit Go.Proofs.Ytffebdngmbbcoaa.lock

theorem refTo_mono (l : List Api.Event) {j : Nat} : ∀ {m : Nat}, j ≤ m → ∃ r, refTo l m = refTo l j ++ r
  | 0, h => by
    obtain rfl : j = 0 := by omega
    exact ⟨[], by simp⟩
  | m + 1, h => by
    by_cases e : j = m + 1
    · subst e; exact ⟨[], by simp⟩
    · obtain ⟨r, hr⟩ := refTo_mono l (j := j) (m := m) (by omega)
      exact ⟨r ++ rowTo l m m, by rw [refTo, hr, List.append_assoc]⟩
theorem rowTo_mono (l : List Api.Event) (j : Nat) {i : Nat} : ∀ {m : Nat}, i ≤ m → ∃ r, rowTo l j m = rowTo l j i ++ r
  | 0, h => by
    obtain rfl : i = 0 := by omega
    exact ⟨[], by simp⟩
  | m + 1, h => by
    by_cases e : i = m + 1
    · subst e; exact ⟨[], by simp⟩
    · obtain ⟨r, hr⟩ := rowTo_mono l j (i := i) (m := m) (by omega)
      exact ⟨r ++ (if edgeB l m j then [⟨(m : Int), (j : Int)⟩] else []), by rw [rowTo, hr, List.append_assoc]⟩
theorem refTo_at {l : List Api.Event} {i j m : Nat} (hij : i < j) (hj : j < m) (he : edgeB l i j = true) : (refTo l m)[(refTo l j).length + (rowTo l j i).length]? = some ⟨(i : Int), (j : Int)⟩ := by
  obtain ⟨r, hr⟩ := refTo_mono l (j := j + 1) (m := m) (by omega)
  obtain ⟨s, hs⟩ := rowTo_mono l j (i := i + 1) (m := j) (by omega)
  rw [hr, refTo, hs, rowTo, if_pos he, List.append_assoc, List.getElem?_append_right (by omega), Nat.add_sub_cancel_left, List.append_assoc, List.append_assoc, List.getElem?_append_right (Nat.le_refl _), Nat.sub_self]
  rfl
def oRel (w : World) (l : List Api.Event) (m : Nat) (v10 v11 : Value) (w' : World) : Prop := ∃ j : Nat, j ≤ m ∧ v11 = .int .i64 j ∧ v10 = .int .i64 ((refTo l j).length : Nat) ∧ Below w.heap.size w w'
def iRel (w : World) (l : List Api.Event) (j : Nat) (v10 v12 : Value) (w' : World) : Prop := ∃ i : Nat, i ≤ j ∧ v12 = .int .i64 i ∧ v10 = .int .i64 (((refTo l j).length + (rowTo l j i).length : Nat) : Int) ∧ Below w.heap.size w w'
set_option maxRecDepth 100000 in
set_option maxHeartbeats 4000000 in
theorem clocksEdges_walk (W : World) (args : Array Value) (h : ArgsRead Try.prog W [50, 3] args.toList) :
    Calls Try.prog 5 args W fun e W' => e = .returned (.bool true) ∧ Below W.heap.size W W' := by
  obtain ⟨v0, v1, rfl, r0, r1⟩ := h.two
  obtain ⟨a, l, c, rfl, hc, hnil, h1⟩ := r0.slice Try.underlying50 Try.opens50
  obtain ⟨t, rfl, ht⟩ := r1.int Try.underlying3
  have hcm := r0.cap Try.underlying50
  clear r0 r1 h ht
  have hsm := h1.small
  unfold maxLen at hsm
  obtain ⟨n, hn⟩ : ∃ n, l.length = n := ⟨_, rfl⟩
  by_cases hl : 200 < n
  · have HO := Lib.hid (Edges_any (c := c) (t := t) hn h1 (fun _ h => h))
    have h2 : clkErr l t = 2 := by unfold clkErr; rw [if_pos (by omega)]
    rw [show edgesRes l t = ([], 2) by unfold edgesRes; rw [h2, if_neg (by omega)]] at HO
    clear h2
    rw [hn] at hsm hc ⊢
    clear h1 hn
    go_enter Try.func5, Try.ntmps5
    go_wp2_with fail
    refine HO.out.mono ?_
    rintro e w1 ⟨v, rfl, -, hb⟩
    have HB := Lib.hid hb
    clear hb
    go_wp2_with fail
    go_ret
    exact ⟨rfl, HB.out⟩
  · obtain ⟨m, hm⟩ : ∃ m, m = min n 40 := ⟨_, rfl⟩
    have HS : Hid (Calls Try.prog 22 #[.slice a n c, .int .i64 40] W fun e w' => e = .returned (.slice a m c) ∧ W = w') := by rw [hm]; exact soon_any W a n c 40 (by rw [← hn]; exact hc) hcm
    obtain ⟨l1, hl1⟩ : ∃ l1, l1 = l.take 40 := ⟨_, rfl⟩
    have hm1 : l1.length = m := by rw [hl1, List.length_take, hn]; omega
    have h2 : Arr (· < W.heap.size) W a l1 := by rw [hl1]; exact arr_take h1 40
    have HO := Lib.hid (Edges_any (c := c) (t := t) hm1 h2 (fun _ h => h))
    have HA : Hid (∀ w', Below W.heap.size W w' → Arr (· < W.heap.size) w' a l1) := fun w' hb => h2.keep (fun b hb' => hb.block b hb')
    have hm40 : m ≤ 40 := by omega
    rw [hn] at hsm hc ⊢
    have HM := Lib.hid hm1
    clear h1 h2 hn hm hl1 hm1
    go_enter Try.func5, Try.ntmps5
    go_wp2_with fail
    refine HS.out.mono ?_
    rintro e w0 ⟨rfl, rfl⟩
    go_wp2_with fail
    refine HO.out.mono ?_
    rintro e w1 ⟨v, rfl, ho, hb⟩
    have HB := Lib.hid hb; have HOW := Lib.hid ho
    clear hb ho HO HS
    have HCE := Lib.hid (clockErr_any (c := c) (t := t) HM.out (HA.out _ HB.out))
    obtain ⟨a1, c1, rfl, hc1, -, -⟩ := HOW.out.arr
    have HLE : Hid (∀ w', Below w1.heap.size w1 w' → Arr (fun b => W.heap.size ≤ b ∧ b < w'.heap.size) w' a1 (edgesRes l1 t).1) := fun w' hb => by
      obtain ⟨a9, c9, e9, -, -, h9⟩ := (HOW.out.below hb (fun _ h => h.elim)).arr
      injection e9 with e9
      rw [e9]
      exact h9.mono (fun b hb => hb.resolve_left id)
    by_cases he : clkErr l1 t = 0
    · have HR : Hid (edgesRes l1 t = (refTo l1 m, 0)) := by show _ = _; unfold edgesRes; rw [if_pos he, HM.out]
      rw [HR.out] at HLE hc1 ⊢
      rw [he] at HCE
      dsimp only at *
      obtain ⟨q, hq⟩ : ∃ q, (refTo l1 m).length = q := ⟨_, rfl⟩
      rw [hq] at hc1 ⊢
      have HQ := Lib.hid hq
      have hqs : q ≤ 1000000000 := by
        have h1 := (HLE.out _ (Below.refl _ _)).small
        have h2 : (refTo l1 m).length ≤ m * m := by
          clear hq h1
          have hrow : ∀ j k, (rowTo l1 j k).length ≤ k := fun j k => by
            induction k with
            | zero => simp [rowTo]
            | succ k ih => rw [rowTo, List.length_append]; split <;> simp <;> omega
          have : ∀ k, k ≤ m → (refTo l1 k).length ≤ k * m := fun k => by
            induction k with
            | zero => intro _; simp [refTo]
            | succ k ih => intro hk; rw [refTo, List.length_append, Nat.add_mul]; have := hrow k k; have := ih (by omega); omega
          exact this m (Nat.le_refl _)
        have h3 : m * m ≤ 40 * 40 := Nat.mul_le_mul hm40 hm40
        omega
      clear he hq HOW
      go_wp2_with fail
      refine HCE.out.mono ?_
      rintro e w' ⟨rfl, rfl⟩
      clear HCE
      go_wp2_with fail
      go_loopw [10, 11] (oRel w1 l1 m) (fun _ i _ => m - (intOf i).toNat)
      case atStart => exact ⟨0, Nat.zero_le _, rfl, rfl, Below.refl _ _⟩
      case round =>
        obtain ⟨j, hj, rfl, rfl, hb⟩ := hrel
        have HBJ := Lib.hid hb
        clear hb
        obtain ⟨P, hP⟩ : ∃ P, P = (refTo l1 j).length := ⟨_, rfl⟩
        rw [← hP]
        have HP := Lib.hid hP
        clear hP
        by_cases hjm : j < m
        · go_wp2_with fail
          obtain ⟨wj, hwj⟩ : ∃ wj : World, wj = wr := ⟨_, rfl⟩
          rw [← hwj] at HBJ ⊢
          clear hwj
          go_loopw [10, 12] (iRel w1 l1 j) (fun _ i _ => j - (intOf i).toNat)
          case atStart => exact ⟨0, Nat.zero_le _, rfl, by rw [HP.out]; rfl, HBJ.out⟩
          case round =>
            clear HBJ
            obtain ⟨i, hi, rfl, rfl, hb⟩ := hrel
            have HBI := Lib.hid hb
            clear hb
            by_cases hij : i < j
            · have HIE := Lib.hid (isEdge_any (c := c) (i := i) (j := j) HM.out (HA.out _ (HB.out.trans (HBI.out.mono HB.out.size))) (fun b hb => by have := HB.out.size; have := HBI.out.size; omega) hij hjm)
              cases hed : edgeB l1 i j with
              | false =>
                rw [hed] at HIE
                have HRW : Hid (rowTo l1 j (i + 1) = rowTo l1 j i) := by show _ = _; rw [rowTo, hed]; simp
                clear hed
                go_wp2_with (go_at_call 24; (with_reducible refine HIE.out.mono ?_); rintro e w3 ⟨rfl, hb⟩; have HB3 := Lib.hid (HBI.out.trans (hb.mono HBI.out.size)); clear hb)
                go_roundw
                case rel => exact ⟨i + 1, by omega, by go_num, by rw [HRW.out, Int.natCast_add], HB3.out⟩
                case measure => simp [intOf]; omega
              | true =>
                rw [hed] at HIE
                have hat := refTo_at hij hjm hed
                have HRW : Hid ((rowTo l1 j (i + 1)).length = (rowTo l1 j i).length + 1) := by show _ = _; rw [rowTo, hed]; simp
                obtain ⟨K, hK⟩ : ∃ K, K = (refTo l1 j).length + (rowTo l1 j i).length := ⟨_, rfl⟩
                rw [← hK] at hat ⊢
                have hKq : K < q := by rw [← HQ.out]; exact (List.getElem?_eq_some_iff.1 hat).1
                have HK := Lib.hid hK; have HAT := Lib.hid hat
                clear hed hK hat
                have dq : decide ((q : Int) ≤ (K : Int)) = false := by simp; omega
                go_wp2_with (go_at_call 24; (with_reducible refine HIE.out.mono ?_); rintro e w3 ⟨rfl, hb⟩; have HB3 := Lib.hid (HBI.out.trans (hb.mono HBI.out.size)); obtain ⟨b5, o5, e5, -, p1, p2, -⟩ := api_DPair_elem (HLE.out _ HB3.out) HAT.out; subst e5; clear hb)
                go_roundw
                case rel => exact ⟨i + 1, by omega, by go_num, by rw [HRW.out, ← Nat.add_assoc, ← HK.out]; go_num, HB3.out⟩
                case measure => simp [intOf]; omega
            · obtain rfl : i = j := by omega
              have HRL : Hid ((refTo l1 i).length + (rowTo l1 i i).length = (refTo l1 (i + 1)).length) := by show _ = _; rw [refTo, List.length_append]
              rw [HRL.out]
              obtain ⟨K, hK⟩ : ∃ K, K = (refTo l1 (i + 1)).length := ⟨_, rfl⟩
              rw [← hK]
              have HK := Lib.hid hK
              clear hK
              go_wp2_with fail
              go_roundw
              case rel => exact ⟨i + 1, by omega, by go_num, by rw [HK.out], HBI.out⟩
              case measure => simp [intOf]; omega
        · obtain rfl : j = m := by omega
          have HPQ : P = q := by rw [HP.out, HQ.out]
          subst HPQ
          go_wp2_with fail
          go_ret
          exact ⟨rfl, HB.out.trans (HBJ.out.mono HB.out.size)⟩
    · have HR : Hid (edgesRes l1 t = ([], clkErr l1 t)) := by show _ = _; unfold edgesRes; rw [if_neg he]
      rw [HR.out] at HLE hc1 ⊢
      dsimp only at *
      have hE0 : (clkErr l1 t == 0) = false := by simpa using he
      obtain ⟨E, hE⟩ : ∃ E, E = clkErr l1 t := ⟨_, rfl⟩
      rw [← hE] at HCE hE0 ⊢
      clear he hE HR HLE HOW
      go_wp2_with fail
      refine HCE.out.mono ?_
      rintro e w' ⟨rfl, rfl⟩
      clear HCE
      go_wp2_with fail
      go_loopw [10, 11] (fun v10 v11 w' => v10 = .int .i64 0 ∧ v11 = .int .i64 0 ∧ w1 = w') (fun _ _ _ => 0)
      case atStart => exact ⟨rfl, rfl, rfl⟩
      case round =>
        obtain ⟨rfl, rfl, rfl⟩ := hrel
        by_cases h0 : 0 < m
        · go_wp2_with fail
          go_ret
          exact ⟨rfl, HB.out⟩
        · obtain rfl : m = 0 := by omega
          go_wp2_with fail
          go_ret
          exact ⟨rfl, HB.out⟩
end Go.Proofs.Ytffebdngmbbcoaa.clk
