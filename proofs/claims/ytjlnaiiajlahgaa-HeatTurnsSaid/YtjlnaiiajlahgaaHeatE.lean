/- HeatTurns: Heads of the document: walked. -/
import Derived.Test.YtjlnaiiajlahgaaHeatE4
import Derived.Test.YtjlnaiiajlahgaaHeatE5
import Derived.Test.YtjlnaiiajlahgaaHeatE7
import Derived.Test.YtjlnaiiajlahgaaHeatE8
import Derived.Test.YtjlnaiiajlahgaaHeatE9
set_option linter.unusedVariables false
set_option linter.unusedSimpArgs false
namespace Go.Proofs.Ytjlnaiiajlahgaa.heat
open Go.Bk Go.RowKit Go.Maps

set_option maxRecDepth 100000 in
set_option maxHeartbeats 4000000 in
theorem heads_any {S : Nat → Prop} {w : World} {a : Option Addr} {c n : Nat} {cs : List (Int × Int × Int)} {hot : Int} (hn : cs.length = n) (h : Arr S w a cs) (hS : ∀ b, S b → b < w.heap.size) (h1 : 1 ≤ hot) (h2 : hot ≤ 1000) (hl : n ≤ 300) :
    Calls Try.prog 26 #[.int .i64 hot, .slice a n c] w (HeadsPost w (runTo hot cs n)) := by
  have HN := Lib.hid hn
  have HA : Hid (∀ w', RowKit.Below w.heap.size w w' → Arr S w' a cs) := fun w' hb => h.keep (fun b hb' => hb.block b (hS b hb'))
  have HI : Hid (∀ k, Inv (runTo hot cs k).1) := runTo_inv h1 h2 cs
  have HH : Hid (1 ≤ hot ∧ hot ≤ 1000) := ⟨h1, h2⟩
  clear hn h hS h1 h2
  go_enter Try.func26, Try.ntmps26
  go_wp2_with fail
  go_loopw [6, 7, 18] (hRel w hot cs n) (fun _ _ i _ => n - (intOf i).toNat)
  case atStart => exact ⟨0, Nat.zero_le _, rfl, Own.nil _ _ _ _, Own.nil _ _ _ _, Apart.nil_left _ _ _, RowKit.Below.refl _ _⟩
  case round =>
    obtain ⟨k, hk, rfl, hst⟩ := hrel
    by_cases hlt : k < n
    case neg =>
      have HK : Hid (k = n) := by show _ = _; omega
      have HST := Lib.hid hst
      clear hst
      go_wp2_with fail
      go_ret2
      rw [← HK.out]
      exact ⟨_, _, rfl, HST.out⟩
    case pos =>
    obtain ⟨x, hx⟩ : ∃ x, cs[k]? = some x := ⟨_, List.getElem?_eq_getElem (by rw [HN.out]; exact hlt)⟩
    obtain ⟨fn, at', kd⟩ := x
    obtain ⟨b1, o1, rfl, -, p0, p1, p2, i0, i1, i2⟩ := int3_elem (HA.out _ hst.below) hx
    dsimp only at p0 p1 p2 i0 i1 i2
    have hinv := HI.out k
    have hnext := runTo_succ (hot := hot) hx
    have hol := runTo_len (hot := hot) (cs := cs) (k := k) (by rw [HN.out]; omega)
    clear hx
    obtain ⟨⟨L, O⟩, hLO⟩ : ∃ r, r = runTo hot cs k := ⟨_, rfl⟩
    rw [← hLO] at hst hinv hnext hol
    dsimp only at hst hinv hnext hol
    clear hLO
    have HEND : Hid (∀ v6' v7' v18' w' l t, v18' = .int .i64 ((k + 1 : Nat) : Int) → stepL hot L fn at' kd = (l, t) → HSt w w' v6' v7' (l, O ++ [t]) → hRel w hot cs n v6' v7' v18' w') := by
      intro v6' v7' v18' w' l t e0 e hs
      refine ⟨k + 1, by omega, e0, ?_⟩
      rw [hnext, e]
      exact hs
    have HINV := Lib.hid hinv; have HOL := Lib.hid hol
    clear hnext hinv hol
    obtain ⟨a6, c6, rfl, hle, hnil, harr⟩ := hst.heads.arr
    dsimp only at hle harr
    obtain ⟨m, hm⟩ : ∃ m, m = L.length := ⟨_, rfl⟩
    have hm100 : m ≤ 100 := by rw [hm]; exact HINV.out.few
    rw [← hm] at hst hle ⊢
    have HM := Lib.hid hm
    obtain ⟨gc, hgc⟩ : ∃ gc, gc = wr.heap.size := ⟨_, rfl⟩
    have hwz : (wr.alloc (.cells #[.int .i64 fn, .int .i64 at', .int .i64 kd] 51)).heap.size = gc + 1 := by rw [hgc]; simp
    have HW1 : Hid (HSt w (wr.alloc (.cells #[.int .i64 fn, .int .i64 at', .int .i64 kd] 51)) (.slice a6 m c6) u7 (L, O)) := hst.keep ((RowKit.Below.refl _ _).alloc (Nat.le_refl _) _)
    have HK1 : Hid (Blk (wr.alloc (.cells #[.int .i64 fn, .int .i64 at', .int .i64 kd] 51)) gc 51 [.int .i64 fn, .int .i64 at', .int .i64 kd]) := by rw [hgc]; exact blk_new _ _ _
    have HAR : Hid (∀ w', RowKit.Below (gc + 1) (wr.alloc (.cells #[.int .i64 fn, .int .i64 at', .int .i64 kd] 51)) w' → Arr (fun b => False ∨ w.heap.size ≤ b ∧ b < wr.heap.size) w' a6 L) := fun w' hb => harr.keep (fun b hb' => by
      have hb2 : b < wr.heap.size := by rcases hb' with h | h; exact h.elim; exact h.2
      exact (hb.block b (by omega)).trans (Below.heap_alloc _ _ _ hb2))
    have HG7 : Hid (∀ k, u7.ownBlock = some k → k < gc) := fun k hk => by rw [hgc]; exact (hst.told.lt k hk).2
    clear hm hst harr
    go_wp2_with fail
    rename_i hk1 K0 hk0
    have HK1 := Lib.hid hk1; have HK0 := Lib.hid hk0
    clear hk1 hk0
    rw [← hgc]
    generalize wr.alloc (.cells #[.int .i64 fn, .int .i64 at', .int .i64 kd] 51) = w1 at *
    have HZ1 := Lib.hid hwz
    have HC : Hid (∀ w', RowKit.Below (gc + 1) w1 w' → w'.cell? ⟨gc, 0, none⟩ = some (.int .i64 fn) ∧ w'.cell? ⟨gc, 1, none⟩ = some (.int .i64 at') ∧ w'.cell? ⟨gc, 2, none⟩ = some (.int .i64 kd)) := fun w' hb => by
      have := HK1.out.keep (hb.block gc (by omega))
      exact ⟨this.cell (j := 0) rfl, this.cell (j := 1) rfl, this.cell (j := 2) rfl⟩
    clear hgc p0 p1 p2
    go_loopw [10, 24] (fun v10 v24 w' => iRel w1 L m fn at' v10 v24 w') (fun _ i _ => m - (intOf i).toNat)
    case atStart => exact ⟨0, Nat.zero_le _, rfl, rfl, RowKit.Below.refl _ _⟩
    case round =>
    obtain ⟨j, hj, rfl, rfl, hb⟩ := hrel
    rw [HZ1.out] at hb
    by_cases hjm : j < m
    case pos =>
      obtain ⟨x, hx⟩ : ∃ x, L[j]? = some x := ⟨_, List.getElem?_eq_getElem (by rw [← HM.out]; exact hjm)⟩
      obtain ⟨b6, o6, rfl, -, q0, q1, q2, q3, q4, q5, -⟩ := api_THead_elem (HAR.out _ hb) hx
      have hb2 := hb.alloc (by rw [← hwz]; exact Nat.le_trans (Nat.le_refl _) (by rw [hwz]; exact (by have := hb.size; omega))) (.cells #[.int .i64 x.Fn, .int .i64 x.At, .int .i64 x.Count, .int .i64 x.Limit, .int .i64 x.Fails, .int .i64 x.Is] 60)
      obtain ⟨r0, r1, r2⟩ := HC.out _ hb2
      have HB2 := Lib.hid hb2
      have HS := Lib.hid (idx_succ (fn := fn) (at' := at') hx)
      clear hx hb hb2 hwz
      by_cases e1 : x.Fn = fn
      · have d1 : (x.Fn == fn) = true := by simp [e1]
        by_cases e2 : x.At = at'
        · have d2 : (x.At == at') = true := by simp [e2]
          have HE : Hid (idxTo L fn at' (j + 1) = j) := by show _ = _; rw [HS.out, if_pos ⟨e1, e2⟩]
          clear e1 e2
          go_wp2_with fail
          go_roundw
          case rel => exact ⟨j + 1, by omega, by go_num, by rw [HE.out], HZ1.out ▸ HB2.out⟩
          case measure => simp [intOf]; omega
        · have d2 : (x.At == at') = false := by simp [e2]
          have HE : Hid (idxTo L fn at' (j + 1) = idxTo L fn at' j) := by show _ = _; rw [HS.out, if_neg (fun h => e2 h.2)]
          clear e1 e2
          go_wp2_with fail
          go_roundw
          case rel => exact ⟨j + 1, by omega, by go_num, by rw [HE.out], HZ1.out ▸ HB2.out⟩
          case measure => simp [intOf]; omega
      · have d1 : (x.Fn == fn) = false := by simp [e1]
        have HE : Hid (idxTo L fn at' (j + 1) = idxTo L fn at' j) := by show _ = _; rw [HS.out, if_neg (fun h => e1 h.1)]
        clear e1
        go_wp2_with fail
        go_roundw
        case rel => exact ⟨j + 1, by omega, by go_num, by rw [HE.out], HZ1.out ▸ HB2.out⟩
        case measure => simp [intOf]; omega
    case neg =>
    have hjj : j = m := by omega
    subst hjj
    obtain ⟨wj, hwj⟩ : ∃ wj : World, wj = wr := ⟨_, rfl⟩
    rw [← hwj] at hb ⊢
    obtain ⟨r0, r1, r2⟩ := HC.out _ hb
    have HSJ := Lib.hid (HW1.out.keep (by rw [HZ1.out]; exact hb))
    have HBJ := Lib.hid hb
    have HZJ : Hid (gc < wj.heap.size) := by have := hb.size; have := HZ1.out; show _ < _; omega
    clear hb hwj hwz hjm hj
    have HPRE : Hid (Pre w wj hot L O fn at' kd gc a6 j c6 u7) := ⟨HSJ.out, HM.out, HINV.out, HH.out.1, HH.out.2, by rw [HOL.out]; omega, r0, r1, r2, HZJ.out, fun e => by have := HG7.out _ e; omega, i0, i1⟩
    have HAFT : Hid (Aft w wj hot L O fn at' kd gc (.slice (some ⟨b1, o1, none⟩) n c) (.slice a6 j c6) u7 (.int .i64 (idxTo L fn at' j)) (.slice (some ⟨b1, o1, none⟩) n c) (.int .i64 (n : Int)) (.int .i64 (k : Int))) := by
      show Aft _ _ _ _ _ _ _ _ _ _ _ _ _ _ _ _
      have P := HPRE.out
      by_cases hkd : kd = 0
      · by_cases h1 : fn < 0
        · exact aft_out1 P hkd h1
        by_cases h2 : 60 ≤ fn
        · exact aft_out2 P hkd h1 h2
        by_cases h3 : at' < 0
        · exact aft_out3 P hkd h1 h2 h3
        by_cases h4 : 600 ≤ at'
        · exact aft_out4 P hkd h1 h2 h3 h4
        have hr : ¬ (fn < 0 ∨ 60 ≤ fn ∨ at' < 0 ∨ 600 ≤ at') := by omega
        cases hc : cur L fn at' with
        | some x =>
          rw [HM.out, idx_some HINV.out.srt hc (by obtain ⟨-, -, -, -, -, -, -, h⟩ := P.head hc; rw [← HM.out]; exact h)]
          rw [← HM.out]
          exact aft_turn_known P hkd hr hc rfl
        | none =>
          rw [idx_none hc]
          by_cases hm : 100 ≤ j
          · exact aft_full P hkd hr hc hm
          · cases hz : L[posn L fn at']? with
            | none =>
              have : L.length ≤ posn L fn at' := List.getElem?_eq_none_iff.1 hz
              exact aft_new7 P hkd hr hc (by omega) (by rw [HM.out]; exact this)
            | some z =>
              have hge := posn_at hz
              by_cases hlt : fn < z.Fn
              · exact aft_new8 P hkd hr hc (by omega) hz hlt
              · have he : z.Fn = fn := by omega
                have hne : z.At ≠ at' := fun e => by
                  have := (cur_iff HINV.out.srt (fn := fn) (at' := at') (x := z)).2 ⟨hz, he, e⟩
                  rw [hc] at this
                  cases this
                exact aft_new9 P hkd hr hc (by omega) hz he (by omega)
      · cases hc : cur L fn at' with
        | none =>
          rw [idx_none hc]
          exact aft_taken_none P hc hkd
        | some x =>
          rw [HM.out, idx_some HINV.out.srt hc (by obtain ⟨-, -, -, -, -, -, -, h⟩ := P.head hc; rw [← HM.out]; exact h)]
          rw [← HM.out]
          by_cases hi : x.Is = 1
          · by_cases hk1 : kd = 1
            · exact aft_taken_good P hc hk1 hi rfl
            · exact aft_taken_bad P hc hkd hk1 hi rfl
          · exact aft_taken_state P hc hkd hi rfl
    clear HPRE r0 r1 r2 hle hm100
    go_wp2_with fail
    refine HK0.out _ _ ?_
    have h := HAFT.out
    unfold Aft at h
    apply h
    clear h HAFT
    intros
    rename_i hD
    obtain ⟨l2, t2, hD1, hD2⟩ := hD
    have HD1 := Lib.hid hD1; have HD2 := Lib.hid hD2
    clear hD1 hD2
    refine HK1.out _ _ ?_
    go_wp2_with fail
    go_roundw
    case rel => exact HEND.out _ _ _ _ _ _ (by go_num) HD1.out HD2.out
    case measure => simp [intOf]; omega
end Go.Proofs.Ytjlnaiiajlahgaa.heat
