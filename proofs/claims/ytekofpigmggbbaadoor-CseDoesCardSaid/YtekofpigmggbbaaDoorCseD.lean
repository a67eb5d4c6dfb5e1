/- The document's Cse: walked. -/
import Derived.Test.YtekofpigmggbbaaDoorCseB
import Derived.Test.YtekofpigmggbbaaDoorCseC
import Derived.Test.YtekofpigmggbbaaDoorPassB
set_option linter.unusedVariables false
set_option linter.unusedSimpArgs false
namespace Go.Proofs.YtekofpigmggbbaaDoor.cse
open Go.Bk Go.RowKit Go.Proofs.YtekofpigmggbbaaDoor.ir Go.Proofs.YtekofpigmggbbaaDoor.chk Go.Proofs.YtekofpigmggbbaaDoor.cut Go.Proofs.YtekofpigmggbbaaDoor.pas
attribute [local go_sem ↓] Go.wp_at_zero Go.wp_at_succ

set_option maxRecDepth 100000 in
set_option maxHeartbeats 8000000 in
theorem rcse_any {S : Nat → Prop} {w : World} {T : Array Value} {t : Api.TTrace} (ht : Rep.cells S w T.toList t) (hS : ∀ b, S b → b < w.heap.size) (hr : RightT t) :
    Calls Tryd.prog 16 #[.agg T] w (RefOut w (cutT t (cseTo t))) := by
  obtain ⟨aI, nI, cI, hT⟩ := tin_of ht
  have hsT := hT.size
  have hI9 := hT.few
  have hfi : nI ≤ 300 := by rw [← hT.len]; exact hr.few
  obtain ⟨w1, hw1⟩ : ∃ w1, w1 = (w.alloc (.cells T 34)).alloc (.cells #[.int .i64 0, .int .i64 0, .int .i64 0, .slice none 0 0, .slice none 0 0, .int .i64 0, .int .i64 0, .slice none 0 0, .slice none 0 0, .int .i64 0, .int .i64 0, .slice none 0 0, .slice none 0 0] 34) := ⟨_, rfl⟩
  obtain ⟨rT, rC, hb1, hz1⟩ := rows2 w T #[.int .i64 0, .int .i64 0, .int .i64 0, .slice none 0 0, .slice none 0 0, .int .i64 0, .int .i64 0, .slice none 0 0, .slice none 0 0, .int .i64 0, .int .i64 0, .slice none 0 0, .slice none 0 0] _ _ w1 hw1
  have HRT := Lib.hid rT
  have HRS : Hid (Row w1 (w.heap.size + 1) 34 zeroTL.toArray) := rC
  have HB1 := Lib.hid hb1
  have hk : ∀ b, S b → w1.heap[b]? = w.heap[b]? := fun b hb' => hb1.block b (hS b hb')
  have HTE : Hid (Rep.cells S w1 T.toList t) := Rep.keep hk ht
  have HDOM := Lib.hid hS
  have HIN : Hid (∀ W, Below w.heap.size w W → Arr S W aI t.Ins) := fun W hb => hT.ins.keep fun b hb' => hb.block b (hS b hb')
  have HC3 := Lib.hid hT.c3; have HLI := Lib.hid hT.len
  have HR := Lib.hid hr
  have HS0 : Hid (Calls Tryd.prog 39 #[.agg T] w1 fun e w' => ∃ v, e = .returned v ∧ Own (fun _ => False) w' (w1.heap.size + 1) 3 v (idTo t.Ins.length) ∧ Below w1.heap.size w1 w') := same0_any HTE.out (fun b hb' => Nat.lt_of_lt_of_le (hS b hb') hb1.size) (by rw [hT.len]; omega)
  have HZ1 : Hid (w1.heap.size = w.heap.size + 2) := hz1
  clear hT ht hS rT rC hb1 hk hr hz1
  go_enter Tryd.func16, Tryd.ntmps16
  go_upto_region 1 with fail
  rw [← hw1]
  clear hw1
  go_upto_region 2 with (first
    | (with_reducible refine ldT rfl rfl rfl HRT.out hsT ?_)
    | (go_at_call 39; (with_reducible refine HS0.out.mono ?_); rintro e w2 ⟨v, rfl, ho2, hb2⟩; have HO2 := Lib.hid ho2; have HB2 := Lib.hid hb2; clear ho2 hb2))
  have HRL : Hid (RL S w T t v (cseI t nI 0) w2) := by
    have hb := HB2.out
    have ho := HO2.out
    rw [HZ1.out] at ho
    refine ⟨HRT.out.keep (hb.block _ HRT.out.lt), HRS.out.keep (hb.block _ HRS.out.lt), ?_, Rep.keep (fun b hb' => hb.block b (Nat.lt_of_lt_of_le (HDOM.out b hb') HB1.out.size)) HTE.out, HDOM.out, HB1.out.trans (hb.mono HB1.out.size)⟩
    rw [cseI_zero, ← HLI.out]
    exact ho
  have t3 := HRL.out.rt.cell HC3.out
  have l3 := HRL.out.rt.lt
  clear HO2 HB2 HS0
  go_wp2_with fail
  clear t3 l3
  go_loopw [14] (fun i W => ∃ k : Nat, k ≤ nI ∧ i = .int .i64 k ∧ RL S w T t v (cseI t nI k) W) (fun i _ => nI - (intOf i).toNat)
  case atStart => exact ⟨0, Nat.zero_le _, rfl, HRL.out⟩
  case round =>
    clear HRL
    obtain ⟨k, hk, rfl, hrl⟩ := hrel
    by_cases hlt : k < nI
    · as_aux_lemma =>
        obtain ⟨x, hx⟩ : ∃ x, t.Ins[k]? = some x := ⟨_, List.getElem?_eq_getElem (by rw [HLI.out]; exact hlt)⟩
        obtain ⟨bi, oi, haI, hSi, i0, i1, i2, i3, i4, i5, i6, i7, -⟩ := api_TIns_elem (HIN.out wr hrl.below) hx
        have hbi : bi < wr.heap.size := Nat.lt_of_lt_of_le (HDOM.out bi hSi) hrl.below.size
        subst haI
        have hki : (k : Int) < (nI : Int) := by omega
        have HX := Lib.hid hx
        obtain ⟨g, cap, hv, -⟩ := hrl.set (cseI_at (t := t) (k := k) hlt)
        rw [cseI_len] at hv
        subst hv
        have HL := Lib.hid hrl
        have HLT : Hid (∀ u v, t.Ins[u]? = some v → u ≤ k → ∀ a ∈ asksOf v, 0 ≤ a ∧ a < (nI : Int)) := fun u v hu huk a ha => by
          obtain ⟨c, y, rfl, h1, h2, -⟩ := valAt_iff.1 (HR.out.asks u v hu a ha)
          omega
        obtain ⟨y, hy⟩ : ∃ y, y = putI (cseI t nI k) x := ⟨_, rfl⟩
        have HY := Lib.hid hy
        have HPUT : Hid (Calls Tryd.prog 40 #[.agg #[.int .i64 x.Op, .int .i64 x.A, .int .i64 x.B, .int .i64 x.C, .int .i64 x.N, .int .i64 x.Exit, .int .i64 x.K.Kind, .int .i64 x.K.N], .slice (some ⟨g, 0, none⟩) nI cap] wr (PutPost wr y)) := by
          rw [hy]
          exact put_any hrl.arr (fun b hb => hb) (cseI_len t nI k) (HLT.out k x hx (Nat.le_refl k))
        have HO0 : Hid (∀ W : World, Row (W.alloc (.cells #[.int .i64 0, .int .i64 0, .int .i64 0, .int .i64 0, .int .i64 0, .int .i64 0, .int .i64 0, .int .i64 0] 43)) W.heap.size 43 #[.int .i64 0, .int .i64 0, .int .i64 0, .int .i64 0, .int .i64 0, .int .i64 0, .int .i64 0, .int .i64 0]) := fun W => row_new _ _ _
        have t3 := hrl.rt.cell HC3.out
        have l3 := hrl.rt.lt
        clear hx hrl hSi hy
        go_upto_region 6 with (first
          | (go_at_call 40; (with_reducible refine HPUT.out.mono ?_); rintro e w3 ⟨rfl, hb3⟩; have HB3 := Lib.hid hb3; clear hb3)
          | (with_reducible refine stI (q := y) (OLD := #[.int .i64 0, .int .i64 0, .int .i64 0, .int .i64 0, .int .i64 0, .int .i64 0, .int .i64 0, .int .i64 0]) rfl rfl rfl rfl (HO0.out _) rfl ?_))
        have HX5 : Hid (Row ((w3.alloc (.cells #[.int .i64 0, .int .i64 0, .int .i64 0, .int .i64 0, .int .i64 0, .int .i64 0, .int .i64 0, .int .i64 0] 43)).setRow w3.heap.size (insL y).toArray) w3.heap.size 43 (insL y).toArray) := setRow_heap _ _ _ _ _ _ (HO0.out w3)
        have HB5 := Lib.hid (below_setRow (HB3.out.alloc HB3.out.size (.cells #[.int .i64 0, .int .i64 0, .int .i64 0, .int .i64 0, .int .i64 0, .int .i64 0, .int .i64 0, .int .i64 0] 43)) HB3.out.size (insL y).toArray)
        have HGX : Hid (g < w3.heap.size) := Nat.lt_of_lt_of_le (HL.out.at' (cseI_at (t := t) (k := k) hlt)).1 HB3.out.size
        generalize (w3.alloc (.cells #[.int .i64 0, .int .i64 0, .int .i64 0, .int .i64 0, .int .i64 0, .int .i64 0, .int .i64 0, .int .i64 0] 43)).setRow w3.heap.size (insL y).toArray = w5 at HX5 HB5 ⊢
        generalize w3.heap.size = gx at HX5 HGX ⊢
        have HL5 := Lib.hid (HL.out.call HB5.out)
        clear t3 l3 i0 i1 i2 i3 i4 i5 i6 i7 hbi HPUT HB3 HO0 HL
        go_wp2_with fail
        go_loopw [6] (fun s W => ∃ j : Nat, j ≤ k ∧ s = .int .i64 j ∧ Row W gx 43 (insL y).toArray ∧ ((RL S w T t (.slice (some ⟨g, 0, none⟩) nI cap) (cseI t nI k) W ∧ ∀ u, u < j → hitB t k u = false) ∨ (RL S w T t (.slice (some ⟨g, 0, none⟩) nI cap) (cseI t nI (k + 1)) W ∧ stepAt t k < k))) (fun s _ => k - (intOf s).toNat)
        case atStart => exact ⟨0, Nat.zero_le _, rfl, HX5.out, Or.inl ⟨HL5.out, fun u hu => by omega⟩⟩
        case round =>
          clear HX5 HL5 HB5
          obtain ⟨j, hj, rfl, hrow, hcase⟩ := hrel
          have HRW := Lib.hid hrow
          clear hrow
          rcases hcase with ⟨hrl, hno⟩ | ⟨hrl, hstep⟩
          · have HL := Lib.hid hrl
            have HNO := Lib.hid hno
            have hat : (cseI t nI k)[k]? = some (k : Int) := by rw [cseI_at hlt, if_neg (by omega)]
            obtain ⟨g0, m0, -, -, -⟩ := hrl.at' hat
            have HAT := Lib.hid hat
            clear hno hat
            by_cases hjk : j < k
            · as_aux_lemma =>
                have f1 : decide ((j : Int) < (k : Int)) = true := by simp [hjk]
                obtain ⟨xj, hxj⟩ : ∃ x, t.Ins[j]? = some x := ⟨_, List.getElem?_eq_getElem (by rw [HLI.out]; omega)⟩
                obtain ⟨bj, oj, haI, hSj, i0, i1, i2, i3, i4, i5, i6, i7, -⟩ := api_TIns_elem (HIN.out wr hrl.below) hxj
                have hbj : bj < wr.heap.size := Nat.lt_of_lt_of_le (HDOM.out bj hSj) hrl.below.size
                injection haI with haI
                injection haI with e1 e2
                subst e1
                subst e2
                have hji : (j : Int) < (nI : Int) := by omega
                have hatj : (cseI t nI k)[j]? = some (stepAt t j) := by rw [cseI_at (by omega), if_pos hjk]
                obtain ⟨-, n0, -, -, -⟩ := hrl.at' hatj
                obtain ⟨sj, hsj⟩ : ∃ s, s = stepAt t j := ⟨_, rfl⟩
                rw [← hsj] at n0
                have t3 := hrl.rt.cell HC3.out
                have l3 := hrl.rt.lt
                have hlx := HRW.out.lt
                obtain ⟨yj, hyj⟩ : ∃ y, y = putI (cseI t nI k) xj := ⟨_, rfl⟩
                obtain ⟨ab, hab⟩ : ∃ b, b = alikeB y yj (decide ((k : Int) < t.Loop)) (decide ((j : Int) < t.Loop)) := ⟨_, rfl⟩
                have HHIT : Hid (hitB t k j = (decide (sj = j) && ab)) := by
                  show _ = _
                  rw [hit_eq HX.out hxj, hab, hyj, HY.out, hsj, ← HLI.out, cseI_putI HR.out HX.out (Nat.le_refl k), cseI_putI HR.out hxj (Nat.le_of_lt hjk)]
                have HPT : Hid (∀ d : Drift wr, Calls Tryd.prog 40 #[.agg #[.int .i64 xj.Op, .int .i64 xj.A, .int .i64 xj.B, .int .i64 xj.C, .int .i64 xj.N, .int .i64 xj.Exit, .int .i64 xj.K.Kind, .int .i64 xj.K.N], .slice (some ⟨g, 0, none⟩) nI cap] d.val fun e w' => e = .returned (.agg (insL yj).toArray) ∧ Below d.val.heap.size d.val w') := fun d => by
                  rw [hyj]
                  exact put_any (HL.out.call d.below).arr (fun b hb => hb) (cseI_len t nI k) (HLT.out j xj hxj (Nat.le_of_lt hjk))
                have HAL : Hid (∀ d : Drift wr, Calls Tryd.prog 41 #[.agg T, .int .i64 (k : Int), .int .i64 (j : Int), .agg (insL y).toArray, .agg (insL yj).toArray] d.val fun e w' => e = .returned (.bool ab) ∧ Below d.val.heap.size d.val w') := fun d => by
                  rw [hab]
                  exact ralike_any (HL.out.call d.below).ret k j y yj
                have HDT : Hid (∀ W, (∃ d : Drift wr, W = d.val) → Row W w.heap.size 34 T) := fun W ⟨d, hd⟩ => by rw [hd]; exact (HL.out.call d.below).rt
                have HDX : Hid (∀ W, (∃ d : Drift wr, W = d.val) → Row W gx 43 (insL y).toArray) := fun W ⟨d, hd⟩ => by rw [hd]; exact HRW.out.keep (d.below.block _ HRW.out.lt)
                clear hsj hyj hab hxj hrl hSj hatj
                cases hs : (sj == (j : Int)) with
                | false =>
                  have HNEW : Hid (∀ u, u < j + 1 → hitB t k u = false) := fun u hu => by
                    by_cases he : u = j
                    · subst he
                      rw [HHIT.out, decide_eq_false (by simpa using hs)]
                      rfl
                    · exact HNO.out u (by omega)
                  go_wp2_with fail
                  first | (refine wp_region_drift_lit (by kernel_rfl) (by kernel_rfl) (fun hdr => ?_); (repeat (first | go_big_quiet_skip | (go_big_quiet_want; (first | ((first | (with_reducible refine qldT rfl rfl HDT.out hsT ?_) | (with_reducible refine qldI rfl rfl HDX.out rfl ?_)); simp only [Act.put, List.setIfInBounds_toArray, List.set_cons_succ, List.set_cons_zero]) | go_big_quiet_op); (first | go_big_quiet_on | go_big_quiet_call ((first | (go_at_call 40; with_reducible exact drift_of (HPT.out _)) | (go_at_call 41; with_reducible exact drift_of (HAL.out _)))))))); refine wpQuiet_nil ?_; intro wq hw'; obtain ⟨⟨wd, hbd⟩, hw''⟩ := hw'; dsimp only at hw''; subst wq; clear hdr)
                  go_wp2_with fail
                  go_roundw
                  case rel => exact ⟨j + 1, by omega, by go_num, HRW.out.keep (hbd.block _ HRW.out.lt), Or.inl ⟨HL.out.call hbd, HNEW.out⟩⟩
                  case measure => simp [intOf]; omega
                | true =>
                  have HSJ : Hid (sj = j) := by show sj = (j : Int); exact beq_iff_eq.1 hs
                  cases ab with
                  | false =>
                    have HNEW : Hid (∀ u, u < j + 1 → hitB t k u = false) := fun u hu => by
                      by_cases he : u = j
                      · subst he
                        rw [HHIT.out]
                        simp
                      · exact HNO.out u (by omega)
                    go_wp2_with fail
                    first | (refine wp_region_drift_lit (by kernel_rfl) (by kernel_rfl) (fun hdr => ?_); (repeat (first | go_big_quiet_skip | (go_big_quiet_want; (first | ((first | (with_reducible refine qldT rfl rfl HDT.out hsT ?_) | (with_reducible refine qldI rfl rfl HDX.out rfl ?_)); simp only [Act.put, List.setIfInBounds_toArray, List.set_cons_succ, List.set_cons_zero]) | go_big_quiet_op); (first | go_big_quiet_on | go_big_quiet_call ((first | (go_at_call 40; with_reducible exact drift_of (HPT.out _)) | (go_at_call 41; with_reducible exact drift_of (HAL.out _)))))))); refine wpQuiet_nil ?_; intro wq hw'; obtain ⟨⟨wd, hbd⟩, hw''⟩ := hw'; dsimp only at hw''; subst wq; clear hdr)
                    go_wp2_with fail
                    go_roundw
                    case rel => exact ⟨j + 1, by omega, by go_num, HRW.out.keep (hbd.block _ HRW.out.lt), Or.inl ⟨HL.out.call hbd, HNEW.out⟩⟩
                    case measure => simp [intOf]; omega
                  | true =>
                    have HH : Hid (hitB t k j = true) := by show _ = _; rw [HHIT.out, decide_eq_true HSJ.out]; rfl
                    have HST := Lib.hid (hit_first (t := t) (i := k) (k := j) (by rw [HLI.out]; exact hlt) hjk HH.out HNO.out)
                    go_wp2_with fail
                    first | (refine wp_region_drift_lit (by kernel_rfl) (by kernel_rfl) (fun hdr => ?_); (repeat (first | go_big_quiet_skip | (go_big_quiet_want; (first | ((first | (with_reducible refine qldT rfl rfl HDT.out hsT ?_) | (with_reducible refine qldI rfl rfl HDX.out rfl ?_)); simp only [Act.put, List.setIfInBounds_toArray, List.set_cons_succ, List.set_cons_zero]) | go_big_quiet_op); (first | go_big_quiet_on | go_big_quiet_call ((first | (go_at_call 40; with_reducible exact drift_of (HPT.out _)) | (go_at_call 41; with_reducible exact drift_of (HAL.out _)))))))); refine wpQuiet_nil ?_; intro wq hw'; obtain ⟨⟨wd, hbd⟩, hw''⟩ := hw'; dsimp only at hw''; subst wq; clear hdr)
                    have HLD := Lib.hid (HL.out.call hbd)
                    obtain ⟨d0, d1, d2, d3, d4⟩ := HLD.out.at' HAT.out
                    have HD4 := Lib.hid (d4 (j : Int) (by unfold I64; omega))
                    have HRD : Hid (Row (wd.setCell ⟨g, k, none⟩ (.int .i64 (j : Int))) gx 43 (insL y).toArray) := (HRW.out.keep (hbd.block _ HRW.out.lt)).keep (Go.Bk.blk_setCell_other _ _ _ (show gx ≠ g by have := HGX.out; omega))
                    have HLL : Hid ((cseI t nI k).set k (j : Int) = cseI t nI (k + 1)) := by
                      show _ = _
                      have := cseI_set (t := t) (n := nI) (k := k)
                      rw [HST.out] at this
                      exact this
                    rw [HLL.out] at HD4
                    clear d4 m0 n0 i0 i1 i2 i3 i4 i5 i6 i7
                    go_wp2_with fail
                    go_roundw
                    case rel => exact ⟨j + 1, by omega, by go_num, HRD.out, Or.inr ⟨HD4.out, by rw [HST.out]; omega⟩⟩
                    case measure => simp [intOf]; omega
            · as_aux_lemma =>
                obtain rfl : j = k := by omega
                have HL2 : Hid (RL S w T t (.slice (some ⟨g, 0, none⟩) nI cap) (cseI t nI (j + 1)) wr) := by
                  show RL _ _ _ _ _ _ _
                  rw [cseI_same (hit_none (by rw [HLI.out]; exact hlt) HNO.out)]
                  exact HL.out
                clear hrl
                go_wp2_with fail
                go_roundw
                case rel => exact ⟨j + 1, by omega, by go_num, HL2.out⟩
                case measure => simp [intOf]; omega
          · have HL := Lib.hid hrl
            have hat : (cseI t nI (k + 1))[k]? = some (stepAt t k) := by rw [cseI_at hlt, if_pos (by omega)]
            obtain ⟨g0, m0, -, -, -⟩ := hrl.at' hat
            obtain ⟨sk, hsk⟩ : ∃ s, s = stepAt t k := ⟨_, rfl⟩
            rw [← hsk] at m0 hstep
            have f2 : (sk == (k : Int)) = false := by simp; omega
            clear hsk hrl hat hstep
            by_cases hjk : j < k
            · as_aux_lemma =>
                have f1 : decide ((j : Int) < (k : Int)) = true := by simp [hjk]
                go_wp2_with fail
                go_roundw
                case rel => exact ⟨k + 1, by omega, by go_num, HL.out⟩
                case measure => simp [intOf]; omega
            · as_aux_lemma =>
                obtain rfl : j = k := by omega
                go_wp2_with fail
                go_roundw
                case rel => exact ⟨j + 1, by omega, by go_num, HL.out⟩
                case measure => simp [intOf]; omega
    · as_aux_lemma =>
        obtain rfl : k = nI := by omega
        have HF := Lib.hid hrl
        have HLL : Hid (cseI t k k = cseTo t) := by show _ = _; rw [← HLI.out]; exact cseI_all t
        have hl := cseTo_len t
        obtain ⟨a, cap, hv, -, -, harr⟩ := hrl.nums.arr
        rw [HLL.out] at hv harr
        obtain ⟨n9, hn9⟩ : ∃ n, n = (cseTo t).length := ⟨_, rfl⟩
        rw [← hn9] at hv
        have HRTR : Hid (Row wr w.heap.size 34 T) := hrl.rt
        have HCUT : Hid (Calls Tryd.prog 42 #[.agg T, .slice a n9 cap] wr fun e w' => ∃ C : Array Value, C.size = 13 ∧ C.all (·.oneCell') = true ∧ e = .returned (.tuple #[.agg C, .bool true]) ∧ Rep.cells (Fresh wr w') w' C.toList (cutT t (cseTo t)) ∧ Below wr.heap.size wr w') :=
          rcut_out hrl.ret (fun b hb' => Nat.lt_of_lt_of_le (hrl.dom b hb') hrl.below.size) harr (fun b hb' => hb'.elim False.elim (·.2)) hn9.symm HR.out hl (by rw [hl]; exact cseTo_ok t) (cse_fine HR.out)
        have HV := Lib.hid hv
        subst hv
        clear hrl hlt harr hn9 hl
        go_wp2_with (first
          | (with_reducible refine ldT rfl rfl rfl HRTR.out hsT ?_)
          | (go_at_call 42; (with_reducible refine HCUT.out.mono ?_); rintro e w7 ⟨C, hC1, hC2, rfl, hr7, hb7⟩; have HC1 := Lib.hid hC1; have HC2 := Lib.hid hC2; have HR7 := Lib.hid hr7; have HB7 := Lib.hid hb7; have HS7 := Lib.hid (HF.out.call hb7).res; have HO7 : Hid (Row (w7.alloc (.cells #[.int .i64 0, .int .i64 0, .int .i64 0, .slice none 0 0, .slice none 0 0, .int .i64 0, .int .i64 0, .slice none 0 0, .slice none 0 0, .int .i64 0, .int .i64 0, .slice none 0 0, .slice none 0 0] 34)) w7.heap.size 34 #[.int .i64 0, .int .i64 0, .int .i64 0, .slice none 0 0, .slice none 0 0, .int .i64 0, .int .i64 0, .slice none 0 0, .slice none 0 0, .int .i64 0, .int .i64 0, .slice none 0 0, .slice none 0 0]) := row_new _ _ _; have HX7 : Hid (Row ((w7.alloc (.cells #[.int .i64 0, .int .i64 0, .int .i64 0, .slice none 0 0, .slice none 0 0, .int .i64 0, .int .i64 0, .slice none 0 0, .slice none 0 0, .int .i64 0, .int .i64 0, .slice none 0 0, .slice none 0 0] 34)).setRow w7.heap.size C) w7.heap.size 34 C) := setRow_heap _ _ _ _ _ _ HO7.out; have HY7 : Hid (Row ((w7.alloc (.cells #[.int .i64 0, .int .i64 0, .int .i64 0, .slice none 0 0, .slice none 0 0, .int .i64 0, .int .i64 0, .slice none 0 0, .slice none 0 0, .int .i64 0, .int .i64 0, .slice none 0 0, .slice none 0 0] 34)).setRow w7.heap.size C) (w.heap.size + 1) 34 zeroTL.toArray) := (HS7.out.keep (Below.heap_alloc _ _ _ HS7.out.lt)).keep (setRow_other _ _ _ _ (by have := HS7.out.lt; omega)); clear hC1 hC2 hr7 hb7)
          | (with_reducible refine stT (OLD := #[.int .i64 0, .int .i64 0, .int .i64 0, .slice none 0 0, .slice none 0 0, .int .i64 0, .int .i64 0, .slice none 0 0, .slice none 0 0, .int .i64 0, .int .i64 0, .slice none 0 0, .slice none 0 0]) (C := C) rfl rfl rfl rfl HO7.out HC1.out rfl HC2.out ?_)
          | (with_reducible refine ldT rfl rfl rfl HX7.out HC1.out ?_)
          | (with_reducible refine stT (OLD := zeroTL.toArray) (C := C) rfl rfl rfl rfl HY7.out HC1.out rfl HC2.out ?_))
        have HYB : Hid (Row (((w7.alloc (.cells #[.int .i64 0, .int .i64 0, .int .i64 0, .slice none 0 0, .slice none 0 0, .int .i64 0, .int .i64 0, .slice none 0 0, .slice none 0 0, .int .i64 0, .int .i64 0, .slice none 0 0, .slice none 0 0] 34)).setRow w7.heap.size C).setRow (w.heap.size + 1) C) (w.heap.size + 1) 34 C) := setRow_heap _ _ _ _ _ _ HY7.out
        (try simp only [Exit.inBlock, Exit.then])
        have hs7 := HF.out.below.size; have hs8 := HB7.out.size
        refine bodyPost_ret (results_cell_row rfl _ _ _ _ _ _ _ rfl HYB.out Tryd.underlying34 rfl (infoT HC1.out)) rfl ?_
        unfold RefOut
        refine ⟨C, HC1.out, HC2.out, rfl, ?_, below_setRow (below_setRow ((HF.out.below.trans (HB7.out.mono HF.out.below.size)).alloc (by omega) _) (by omega) _) (by omega) _⟩
        have hss : (((w7.alloc (.cells #[.int .i64 0, .int .i64 0, .int .i64 0, .slice none 0 0, .slice none 0 0, .int .i64 0, .int .i64 0, .slice none 0 0, .slice none 0 0, .int .i64 0, .int .i64 0, .slice none 0 0, .slice none 0 0] 34)).setRow w7.heap.size C).setRow (w.heap.size + 1) C).heap.size = w7.heap.size + 1 := by simp [World.setRow]
        exact Rep.mono (fun j hj => ⟨Nat.le_trans hs7 hj.1, by rw [hss]; have := hj.2; omega⟩) (Rep.keep (fun j hj => (setRow_other _ _ _ _ (by have := hj.1; have := HS7.out.lt; have := HF.out.res.lt; omega)).trans ((setRow_other _ _ _ _ (by have := hj.2; omega)).trans (Below.heap_alloc _ _ _ hj.2))) HR7.out)
end Go.Proofs.YtekofpigmggbbaaDoor.cse
