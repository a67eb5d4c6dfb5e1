/- ir.checker: formed, walked. -/
import Derived.Test.YtekofpigmggbbaaDoorQIcC
set_option linter.unusedVariables false
set_option linter.unusedSimpArgs false
namespace Go.Proofs.YtekofpigmggbbaaDoor.chk
open Go.Bk Go.RowKit Go.Proofs.YtekofpigmggbbaaDoor.ir
/-- How many values are asked: a small number. -/
theorem asks_nat (x : Api.TIns) : ∃ n : Nat, n ≤ 3 ∧ (formOf x.Op).1.asks = n ∧ asksOf x = [x.A, x.B, x.C].take n ∧ (asksOf x).length = n := by
 rcases asks_cases x.Op with ⟨-, h⟩ | ⟨-, h | h | h | h⟩
 · exact ⟨0, by omega, by rw [h]; rfl, by unfold asksOf; rw [h]; rfl, by unfold asksOf; rw [h]; rfl⟩
 · exact ⟨0, by omega, by rw [h]; rfl, by unfold asksOf; rw [h]; rfl, by unfold asksOf; rw [h]; rfl⟩
 · exact ⟨1, by omega, by rw [h]; rfl, by unfold asksOf; rw [h]; rfl, by unfold asksOf; rw [h]; rfl⟩
 · exact ⟨2, by omega, by rw [h]; rfl, by unfold asksOf; rw [h]; rfl, by unfold asksOf; rw [h]; rfl⟩
 · exact ⟨3, by omega, by rw [h]; rfl, by unfold asksOf; rw [h]; rfl, by unfold asksOf; rw [h]; rfl⟩
theorem argOk_asked {ins : List Api.TIns} {x : Api.TIns} {i : Int} {j n : Nat} {v : Int} (hn : (formOf x.Op).1.asks = n) (hj : j < n) : argOk ins x i j v = valAt ins v i := by
 unfold argOk
 rw [if_pos (by rw [hn]; omega)]
theorem take_argN {x : Api.TIns} {j n : Nat} (h3 : n ≤ 3) (hj : j < n) : ([x.A, x.B, x.C].take n)[j]? = some (argN x j) := by
 rw [List.getElem?_take_of_lt hj]
 have : j = 0 ∨ j = 1 ∨ j = 2 := by omega
 rcases this with rfl | rfl | rfl <;> rfl
theorem vals_good {ins : List Api.TIns} {x : Api.TIns} {i : Int} {n : Nat} (h3 : n ≤ 3) (hn : (formOf x.Op).1.asks = n) (h : ([x.A, x.B, x.C].take n).all (fun v => valAt ins v i) = true) : ArgsTo ins x i n := by
 intro j hj
 rw [argOk_asked hn hj]
 exact List.all_eq_true.1 h _ (List.mem_of_getElem? (take_argN h3 hj))
theorem vals_bad {regs cl : Int} {ins : List Api.TIns} {exits : List Api.TExit} {x : Api.TIns} {i : Int} {n : Nat} (h3 : n ≤ 3) (hn : (formOf x.Op).1.asks = n) (h : ([x.A, x.B, x.C].take n).all (fun v => valAt ins v i) = false) : insOk regs cl ins exits x i = false := by
 rw [List.all_eq_false] at h
 obtain ⟨v, hv, hb⟩ := h
 obtain ⟨j, hj⟩ := List.getElem?_of_mem hv
 have hl := (List.getElem?_eq_some_iff.1 hj).1
 have hjn : j < n := by simp at hl; omega
 rw [take_argN h3 hjn] at hj
 injection hj with hj
 refine insOk_arg (j := j) (by omega) ?_
 rw [argOk_asked hn hjn, hj]
 simpa using hb
set_option maxRecDepth 100000 in
set_option maxHeartbeats 2000000 in
theorem cformed_any {S : Nat → Prop} {w : World} {C : Array Value} {f : Api.Fn} {t : Api.TTrace} {x : Api.TIns} {a4 : Option Addr} {c4 : Nat} {aI : Option Addr} {nI cI : Nat} {aE : Option Addr} {nE cE : Nat} (hi : KIn S w C f t a4 c4 aI nI cI aE nE cE) (hS : ∀ b, S b → b < w.heap.size)
 (hI : ∀ z ∈ [x.A, x.B, x.C], I64 z) (h0 : 0 ≤ f.Regs) (h1 : f.Regs ≤ 1000) (i : Int) :
 Calls Tryd.prog 82 #[.agg C, formV (formOf x.Op).1, .agg #[.int .i64 x.Op, .int .i64 x.A, .int .i64 x.B, .int .i64 x.C, .int .i64 x.N, .int .i64 x.Exit, .int .i64 x.K.Kind, .int .i64 x.K.N], .int .i64 i] w fun e w' => e = .returned (.bool (insOk f.Regs f.Code.length t.Ins t.Exits x i)) ∧ Below w.heap.size w w' := by
 obtain ⟨asks, ha3, hasks, htk, hln⟩ := asks_nat x
 obtain ⟨low, hlow⟩ : ∃ z, z = (formOf x.Op).1.low := ⟨_, rfl⟩
 obtain ⟨high, hhigh⟩ : ∃ z, z = (formOf x.Op).1.high := ⟨_, rfl⟩
 obtain ⟨kb, hkb⟩ : ∃ z, z = (formOf x.Op).1.k := ⟨_, rfl⟩
 obtain ⟨tl, htl⟩ : ∃ z, z = (formOf x.Op).1.tells := ⟨_, rfl⟩
 obtain ⟨ex, hex⟩ : ∃ z, z = (formOf x.Op).1.exit := ⟨_, rfl⟩
 have hfv : formV (formOf x.Op).1 = .agg #[.int .i64 asks, .int .i64 low, .int .i64 high, .bool kb, .bool tl, .int .i64 ex] := by unfold formV; rw [hasks, hlow, hhigh, hkb, htl, hex]
 rw [hfv]
 obtain ⟨w1, hw1⟩ : ∃ w1, w1 = ((w.alloc (.cells C 140)).alloc (.cells #[.int .i64 asks, .int .i64 low, .int .i64 high, .bool kb, .bool tl, .int .i64 ex] 131)).alloc (.cells #[.int .i64 x.Op, .int .i64 x.A, .int .i64 x.B, .int .i64 x.C, .int .i64 x.N, .int .i64 x.Exit, .int .i64 x.K.Kind, .int .i64 x.K.N] 43) := ⟨_, rfl⟩
 obtain ⟨rC, rF, rX, hb1⟩ := rows3 w C #[.int .i64 asks, .int .i64 low, .int .i64 high, .bool kb, .bool tl, .int .i64 ex] #[.int .i64 x.Op, .int .i64 x.A, .int .i64 x.B, .int .i64 x.C, .int .i64 x.N, .int .i64 x.Exit, .int .i64 x.K.Kind, .int .i64 x.K.N] _ _ _ w1 hw1
 obtain ⟨w2, hw2⟩ : ∃ w2, w2 = w1.alloc (.cells #[.int .i64 x.A, .int .i64 x.B, .int .i64 x.C] 134) := ⟨_, rfl⟩
 have h12 : Below w1.heap.size w1 w2 := by rw [hw2]; exact cod.below_al2 _
 have rA := row_new w1 #[.int .i64 x.A, .int .i64 x.B, .int .i64 x.C] 134
 rw [← hw2] at rA
 have hb2 : Below w.heap.size w w2 := hb1.trans (h12.mono hb1.size)
 have HCE : Hid (∀ W, Below w2.heap.size w2 W → Row W w.heap.size 140 C ∧ Row W (w.heap.size + 1) 131 #[.int .i64 asks, .int .i64 low, .int .i64 high, .bool kb, .bool tl, .int .i64 ex] ∧ Row W (w.heap.size + 1 + 1) 43 #[.int .i64 x.Op, .int .i64 x.A, .int .i64 x.B, .int .i64 x.C, .int .i64 x.N, .int .i64 x.Exit, .int .i64 x.K.Kind, .int .i64 x.K.N] ∧ Row W w1.heap.size 134 #[.int .i64 x.A, .int .i64 x.B, .int .i64 x.C] ∧ KIn S W C f t a4 c4 aI nI cI aE nE cE ∧ (∀ b, S b → b < W.heap.size) ∧ Below w.heap.size w W) := fun W hb => by
  have hbw : Below w.heap.size w W := hb2.trans (hb.mono hb2.size)
  have hk : ∀ b, S b → W.heap[b]? = w.heap[b]? := fun b hb' => hbw.block b (hS b hb')
  have h1W : Below w1.heap.size w1 W := h12.trans (hb.mono h12.size)
  exact ⟨rC.keep (h1W.block _ rC.lt), rF.keep (h1W.block _ rF.lt), rX.keep (h1W.block _ rX.lt), rA.keep (hb.block _ rA.lt), hi.keep hk, fun b hb' => Nat.lt_of_lt_of_le (hS b hb') hbw.size, hbw⟩
 have hsC := hi.size
 have HB0 : Hid (Below w2.heap.size w2 w2) := Below.refl _ _
 obtain ⟨res, hres⟩ : ∃ r, r = insOk f.Regs f.Code.length t.Ins t.Exits x i := ⟨_, rfl⟩
 rw [← hres]
 obtain ⟨va, hva⟩ : ∃ b, b = ([x.A, x.B, x.C].take asks).all fun v => valAt t.Ins v i := ⟨_, rfl⟩
 have HVG : Hid (va = true → ArgsTo t.Ins x i asks) := fun h => vals_good ha3 hasks (hva ▸ h)
 have HVB : Hid (va = false → res = false) := fun h => by rw [hres]; exact vals_bad ha3 hasks (hva ▸ h)
 have HVS : Hid (∀ d : Drift w2, Calls Tryd.prog 126 #[.agg C, .slice (some ⟨w1.heap.size, 0, none⟩) asks 3, .int .i64 i] d.val fun e w' => e = .returned (.bool va) ∧ Below d.val.heap.size d.val w') := fun d => by
  obtain ⟨k1, k2, k3, k4, k5, k6, k7⟩ := HCE.out _ d.below
  have h := (Blk.arr (S := fun b => b = w1.heap.size) (zs := [x.A, x.B, x.C]) k4.blk hI (by simp [maxLen]) rfl).take asks
  have := cvalues_any (cv := 3) k5 k6 h (fun b hb => by rw [hb]; exact k4.lt) i
  rw [show ([x.A, x.B, x.C].take asks).length = asks by rw [← htk]; exact hln, ← hva] at this
  exact this
 have r1F := rF.cell (j := 0) rfl
 have r1x := rX.cell (j := 1) rfl
 have r2x := rX.cell (j := 2) rfl
 have r3x := rX.cell (j := 3) rfl
 have r1l := rX.lt
 have HRC : Hid (∀ W, (∃ d : Drift w2, W = d.val) → Row W w.heap.size 140 C) := fun W ⟨d, hd⟩ => by rw [hd]; exact (HCE.out _ d.below).1
 have HAS := Lib.hid hasks; have HI := Lib.hid hI; have HRES := Lib.hid hres
 have HLOW := Lib.hid hlow; have HHIGH := Lib.hid hhigh; have HKBE := Lib.hid hkb; have HEXE := Lib.hid hex
 clear hi hS hI rC rF rX rA hb1 hb2 h12 hres hva htk hln hasks hlow hhigh hkb htl hex hfv
 go_enter Tryd.func82, Tryd.ntmps82
 go_upto_region 1 with fail
 rw [← hw1]
 clear hw1
 go_upto_region 2 with fail
 rw [← hw2]
 clear hw2 r1F r1x r2x r3x r1l
 obtain ⟨k1, k2, k3, k4, k5, k6, k7⟩ := HCE.out w2 HB0.out
 have f0 := k2.cell (j := 0) rfl
 have lF := k2.lt; have lA := k4.lt
 clear k1 k2 k3 k4 k5 k6 k7
 generalize w1.heap.size = gA at HCE HVS lA ⊢
 go_cut [25] (fun s25 wz => s25 = .bool (!va) ∧ Below w2.heap.size w2 wz)
 case first =>
  rcases (show asks = 0 ∨ asks = 1 ∨ asks = 2 ∨ asks = 3 by omega) with rfl | rfl | rfl | rfl
  all_goals
   first | (refine wp_region_drift_lit (by kernel_rfl) (by kernel_rfl) (fun hdr => ?_); (repeat (first | go_big_quiet_skip | (go_big_quiet_want; (first | ((with_reducible refine qldC rfl rfl HRC.out hsC ?_); simp only [Act.put, List.setIfInBounds_toArray, List.set_cons_succ, List.set_cons_zero]) | go_big_quiet_op); (first | go_big_quiet_on | go_big_quiet_call ((go_at_call 126; with_reducible exact drift_of (HVS.out _))))))); refine wpQuiet_nil ?_; intro wq hw'; obtain ⟨⟨wd, hbd⟩, hw''⟩ := hw'; dsimp only at hw''; subst wq; clear hdr)
   go_wp2
   go_meet
   exact ⟨rfl, hbd⟩
 case rest =>
  obtain ⟨rfl, hbc⟩ := hcut
  have HBC := Lib.hid hbc
  clear hbc HVS HRC f0 lF lA
  obtain ⟨k1, k2, k3, k4, k5, k6, k7⟩ := HCE.out wc HBC.out
  have HEN := Lib.hid k7
  have f0 := k2.cell (j := 0) rfl
  have lF := k2.lt
  clear k1 k2 k3 k4 k5 k6 k7
  cases va with
  | false =>
    have HF : Hid (res = false) := HVB.out rfl
    go_wp2_with fail
    go_ret
    exact ⟨by rw [HF.out]; rfl, HEN.out⟩
  | true =>
    have HAT := Lib.hid (HVG.out rfl)
    obtain ⟨sh, hsh⟩ : ∃ b, b = shaped x := ⟨_, rfl⟩
    have HSH : Hid (sh = (decide (x.Op = 19) || (decide (x.Op = 9) && decide (x.N = 1)))) := hsh
    have HAO : Hid (∀ (j : Nat) v, asks ≤ j → argOk t.Ins x i j v = if j = 1 ∧ sh = true then decide (0 ≤ v) else decide (v = -1)) := fun j v hj => by
     unfold argOk
     rw [if_neg (by rw [HAS.out]; omega), hsh]
    clear hsh HVB HVG
    go_wp2_with fail
    clear f0 lF
    go_loopw [10] (fun s10 wr => ∃ j : Nat, asks ≤ j ∧ j ≤ 3 ∧ s10 = .int .i64 j ∧ ArgsTo t.Ins x i j ∧ Below w2.heap.size w2 wr) (fun s10 _ => 3 - (intOf s10).toNat)
    case atStart => exact ⟨asks, Nat.le_refl _, ha3, rfl, HAT.out, HBC.out⟩
    case round =>
     obtain ⟨j, hja, hj, rfl, har, hbr⟩ := hrel
     have HAR := Lib.hid har; have HBR := Lib.hid hbr
     obtain ⟨k1, k2, k3, k4, k5, k6, k7⟩ := HCE.out wr hbr
     have HEN2 := Lib.hid k7
     have x0 := k3.cell (j := 0) rfl; have x4 := k3.cell (j := 4) rfl
     have lI := k3.lt
     by_cases hlt : j < 3
     · obtain ⟨v, hv⟩ : ∃ v, v = argN x j := ⟨_, rfl⟩
       have hv0 : #[Value.int .i64 x.A, .int .i64 x.B, .int .i64 x.C].toList[j]? = some (.int .i64 v) := by
        rw [hv]
        have : j = 0 ∨ j = 1 ∨ j = 2 := by omega
        rcases this with rfl | rfl | rfl <;> rfl
       have v0 := k4.cell hv0
       have lA := k4.lt
       obtain ⟨ao, hao⟩ : ∃ b, b = argOk t.Ins x i j v := ⟨_, rfl⟩
       have HAV : Hid (ao = if j = 1 ∧ sh = true then decide (0 ≤ v) else decide (v = -1)) := by show _ = _; rw [hao]; exact HAO.out j v hja
       have HBAD : Hid (ao = false → res = false) := fun h => by rw [HRES.out]; exact insOk_arg (j := j) hlt (by rw [← hv, ← hao]; exact h)
       have HGOOD : Hid (ao = true → ArgsTo t.Ins x i (j + 1)) := fun h q hq => by
        by_cases e : q = j
        · subst e; rw [← hv, ← hao]; exact h
        · exact HAR.out q (by omega)
       clear hv hv0 hao har hbr k1 k2 k3 k4 k5 k6 k7
       have hj1 : (((j : Int) == 1) = true ∧ j = 1) ∨ (((j : Int) == 1) = false ∧ j ≠ 1) := by
        by_cases h : j = 1
        · exact .inl ⟨by simp [h], h⟩
        · exact .inr ⟨by simp; omega, h⟩
       obtain ⟨sj, hsj⟩ : ∃ b, b = (((j : Int) == 1) && sh) := ⟨_, rfl⟩
       have HSJ : Hid (ao = if sj = true then decide (0 ≤ v) else decide (v = -1)) := by
        show _ = _
        rw [HAV.out, hsj]
        rcases hj1 with ⟨d, h⟩ | ⟨d, h⟩
        · rw [d]; simp [h]
        · rw [d]; simp [h]
       clear HAV
       go_upto_region 7 with fail
       go_cut [11] (fun s11 wz => s11 = .bool sj ∧ wr = wz)
       case first =>
        as_aux_lemma =>
         rcases hj1 with ⟨d, -⟩ | ⟨d, -⟩
         · have hs : sj = sh := by rw [hsj, d]; rfl
           clear hsj
           subst hs
           by_cases o19 : x.Op = 19
           · have d19 : (x.Op == 19) = true := by simp [o19]
             have HS : Hid (sj = true) := by show _ = _; rw [HSH.out, decide_eq_true o19]; rfl
             clear o19
             go_wp2_with fail
             go_meet
             exact ⟨by rw [HS.out], rfl⟩
           · have d19 : (x.Op == 19) = false := by simpa using o19
             by_cases o9 : x.Op = 9
             · have d9 : (x.Op == 9) = true := by simp [o9]
               have HS : Hid (sj = (x.N == 1)) := by show _ = _; rw [HSH.out, decide_eq_false o19, decide_eq_true o9]; rfl
               clear o9 o19
               cases hn : (x.N == 1)
               all_goals
                rw [hn] at HS
                go_wp2_with fail
                go_meet
                exact ⟨by rw [HS.out], rfl⟩
             · have d9 : (x.Op == 9) = false := by simpa using o9
               have HS : Hid (sj = false) := by show _ = _; rw [HSH.out, decide_eq_false o19, decide_eq_false o9]; rfl
               clear o9 o19
               go_wp2_with fail
               go_meet
               exact ⟨by rw [HS.out], rfl⟩
         · have HS : Hid (sj = false) := by show _ = _; rw [hsj, d]; rfl
           clear hsj
           go_wp2_with fail
           go_meet
           exact ⟨by rw [HS.out], rfl⟩
       case rest =>
        obtain ⟨rfl, rfl⟩ := hcut
        clear hj1 hsj x0 x4 lI
        as_aux_lemma =>
         cases sj with
         | false =>
           cases hn : (v != -1) with
           | false =>
             have HG := Lib.hid (HGOOD.out (by rw [HSJ.out, if_neg (by simp)]; simpa using hn))
             go_wp2_with fail
             go_roundw
             case rel => exact ⟨j + 1, by omega, by omega, by go_num, HG.out, HBR.out⟩
             case measure => simp [intOf]; omega
           | true =>
             have HF := Lib.hid (HBAD.out (by rw [HSJ.out, if_neg (by simp)]; simpa using hn))
             go_wp2_with fail
             go_ret
             exact ⟨by rw [HF.out]; rfl, HEN2.out⟩
         | true =>
           cases hn : decide (v < 0) with
           | false =>
             have HG := Lib.hid (HGOOD.out (by rw [HSJ.out, if_pos rfl]; simpa using hn))
             go_wp2_with fail
             go_roundw
             case rel => exact ⟨j + 1, by omega, by omega, by go_num, HG.out, HBR.out⟩
             case measure => simp [intOf]; omega
           | true =>
             have HF := Lib.hid (HBAD.out (by rw [HSJ.out, if_pos rfl]; simpa using hn))
             go_wp2_with fail
             go_ret
             exact ⟨by rw [HF.out]; rfl, HEN2.out⟩
     · obtain rfl : j = 3 := by omega
       have HIO : Hid (res = (numOk f.Regs x && (keepOk x && wayOk f.Regs f.Code.length t.Ins t.Exits x i))) := by
        show _ = _
        rw [HRES.out]; exact insOk_args HAR.out
       clear HRES HAR har hbr x0 x4 lI k1 k2 k3 k4 k5 k6 k7 HAT HAO
       go_upto_region 10 with fail
       obtain ⟨nb, hnb⟩ : ∃ b, b = numOk f.Regs x := ⟨_, rfl⟩
       rw [← hnb] at HIO
       obtain ⟨gs, hgs⟩ : ∃ z, z = f.Regs := ⟨_, rfl⟩
       have HNB : Hid (nb = (decide (low ≤ x.N) && decide (x.N ≤ if x.Op = 1 then gs - 1 else high))) := by show _ = _; rw [hnb, HLOW.out, HHIGH.out, hgs]; rfl
       have HH1 : Hid (x.Op = 1 → high = 1073741824) := fun h => by rw [HHIGH.out, h]; rfl
       obtain ⟨k1, k2, k3, k4, k5, k6, k7⟩ := HCE.out wr HBR.out
       have x0 := k3.cell (j := 0) rfl; have x4 := k3.cell (j := 4) rfl; have x5 := k3.cell (j := 5) rfl; have x6 := k3.cell (j := 6) rfl; have x7 := k3.cell (j := 7) rfl
       have f1 := k2.cell (j := 1) rfl; have f2 := k2.cell (j := 2) rfl; have f3 := k2.cell (j := 3) rfl; have f5 := k2.cell (j := 5) rfl
       have g1 := k1.cell k5.regs
       rw [← hgs] at g1 h0 h1
       have lI := k3.lt; have lF := k2.lt; have lC := k1.lt
       clear k1 k2 k3 k4 k5 k6 k7 hnb hgs
       go_cut [66] (fun s66 wz => s66 = .bool (!nb) ∧ wr = wz)
       case first =>
        as_aux_lemma =>
         cases d1 : decide (x.N < low) with
         | true =>
           have HF : Hid (nb = false) := by
            show _ = _
            rw [HNB.out, show decide (low ≤ x.N) = false from decide_eq_false (by have := of_decide_eq_true d1; omega)]; rfl
           go_wp2_with fail
           go_meet
           exact ⟨by rw [HF.out]; rfl, rfl⟩
         | false =>
           have hl : decide (low ≤ x.N) = true := decide_eq_true (by have := of_decide_eq_false d1; omega)
           cases d2 : decide (high < x.N) with
           | true =>
             have HF : Hid (nb = false) := by
              show _ = _
              have h2 := of_decide_eq_true d2
              rw [HNB.out, hl]
              by_cases o : x.Op = 1
              · have := HH1.out o
                rw [if_pos o, decide_eq_false (by omega)]; rfl
              · rw [if_neg o, decide_eq_false (by omega)]; rfl
             clear hl
             go_wp2_with fail
             go_meet
             exact ⟨by rw [HF.out]; rfl, rfl⟩
           | false =>
             have h2 := of_decide_eq_false d2
             cases d3 : (x.Op == 1) with
             | false =>
               have HF : Hid (nb = true) := by
                show _ = _
                rw [HNB.out, hl, if_neg (by simpa using d3), decide_eq_true (by omega)]; rfl
               clear hl h2
               go_wp2_with fail
               go_meet
               exact ⟨by rw [HF.out]; rfl, rfl⟩
             | true =>
               cases d4 : decide (gs ≤ x.N) with
               | true =>
                 have HF : Hid (nb = false) := by
                  show _ = _
                  have := of_decide_eq_true d4
                  rw [HNB.out, hl, if_pos (by simpa using d3), decide_eq_false (by omega)]; rfl
                 clear hl h2
                 go_wp2_with fail
                 go_meet
                 exact ⟨by rw [HF.out]; rfl, rfl⟩
               | false =>
                 have HF : Hid (nb = true) := by
                  show _ = _
                  have := of_decide_eq_false d4
                  rw [HNB.out, hl, if_pos (by simpa using d3), decide_eq_true (by omega)]; rfl
                 clear hl h2
                 go_wp2_with fail
                 go_meet
                 exact ⟨by rw [HF.out]; rfl, rfl⟩
       case rest =>
        obtain ⟨rfl, rfl⟩ := hcut
        clear HNB HH1 g1 f1 f2
        cases nb with
        | false =>
          have HF : Hid (res = false) := by show _ = _; rw [HIO.out]; rfl
          go_wp2_with fail
          go_ret
          exact ⟨by rw [HF.out]; rfl, HEN2.out⟩
        | true =>
          obtain ⟨ko, hko⟩ : ∃ b, b = keepOk x := ⟨_, rfl⟩
          have HIO2 : Hid (res = (ko && wayOk f.Regs f.Code.length t.Ins t.Exits x i)) := by show _ = _; rw [HIO.out, hko]; rfl
          have HKO : Hid (ko = if kb = true then cod.right x.K && !(decide (x.Op = 2) && decide (x.K.Kind = 5)) else decide (x.K = ⟨0, 0⟩)) := by show _ = _; rw [hko, HKBE.out]; rfl
          have HKB : Hid (kb = (decide (x.Op = 2) || decide (x.Op = 6))) := by show _ = _; rw [HKBE.out, k_eq]
          clear hko HIO HKBE
          go_upto_region 12 with fail
          go_cut [92] (fun s92 wz => s92 = .bool (!ko) ∧ Below wr.heap.size wr wz)
          case first =>
           as_aux_lemma =>
            obtain ⟨op, iA, iB, iC, iN, iE, ⟨kK, kN⟩⟩ := x
            dsimp only at x0 x6 x7 x4 x5 HKO HKB HCE ⊢
            cases kb with
            | false =>
              have HK0 : Hid (ko = decide ((⟨kK, kN⟩ : Api.Val) = ⟨0, 0⟩)) := HKO.out
              have d2 : (op == 2) = false := by
               have := HKB.out
               simp only [Bool.false_eq, Bool.or_eq_false_iff, decide_eq_false_iff_not] at this
               simpa using this.1
              by_cases z1 : kK = 0
              · subst z1
                by_cases z2 : kN = 0
                · subst z2
                  have HF : Hid (ko = true) := by show _ = _; rw [HK0.out]; rfl
                  go_wp2_with fail
                  go_meet
                  exact ⟨by rw [HF.out]; rfl, Below.refl _ _⟩
                · have dz : (kN == 0) = false := by simpa using z2
                  have HF : Hid (ko = false) := by show _ = _; rw [HK0.out]; exact decide_eq_false fun h => z2 (by injection h)
                  go_wp2_with fail
                  go_meet
                  exact ⟨by rw [HF.out]; rfl, Below.refl _ _⟩
              · have dz : (kK == 0) = false := by simpa using z1
                have HF : Hid (ko = false) := by show _ = _; rw [HK0.out]; exact decide_eq_false fun h => z1 (by injection h)
                go_wp2_with fail
                go_meet
                exact ⟨by rw [HF.out]; rfl, Below.refl _ _⟩
            | true =>
              obtain ⟨rb, hrb⟩ : ∃ b, b = cod.right ⟨kK, kN⟩ := ⟨_, rfl⟩
              have HK0 : Hid (ko = (rb && !(decide (op = 2) && decide (kK = 5)))) := by show _ = _; rw [hrb]; exact HKO.out
              have HRI : Hid (Calls Tryd.prog 112 #[.agg #[.int .i64 kK, .int .i64 kN]] wr fun e w' => e = .returned (.bool rb) ∧ Below wr.heap.size wr w') := by rw [hrb]; exact cod.right_any wr ⟨kK, kN⟩
              have HZ : Hid (∀ W, Below wr.heap.size wr W → W.cell? ⟨w.heap.size + 1 + 1, 0, none⟩ = some (.int .i64 op) ∧ W.cell? ⟨w.heap.size + 1 + 1, 6, none⟩ = some (.int .i64 kK) ∧ w.heap.size + 1 + 1 < W.heap.size ∧ W.cell? ⟨w.heap.size + 1, 3, none⟩ = some (.bool true) ∧ w.heap.size + 1 < W.heap.size) := fun W hb => by
               obtain ⟨k1, k2, k3, k4, k5, k6, k7⟩ := HCE.out W (HBR.out.trans (hb.mono HBR.out.size))
               exact ⟨k3.cell (j := 0) rfl, k3.cell (j := 6) rfl, k3.lt, k2.cell (j := 3) rfl, k2.lt⟩
              clear hrb HKO
              cases rb with
              | false =>
                have HF : Hid (ko = false) := by show _ = _; rw [HK0.out]; rfl
                go_wp2_with (go_at_call 112; (with_reducible refine HRI.out.mono ?_); rintro e w6 ⟨rfl, hb6⟩; have HB6 := Lib.hid hb6; clear hb6)
                go_meet
                exact ⟨by rw [HF.out]; rfl, HB6.out⟩
              | true =>
                cases d2 : (op == 2) with
                | false =>
                  have HF : Hid (ko = true) := by show _ = _; rw [HK0.out, decide_eq_false (by simpa using d2)]; rfl
                  go_wp2_with (go_at_call 112; (with_reducible refine HRI.out.mono ?_); rintro e w6 ⟨rfl, hb6⟩; have HB6 := Lib.hid hb6; obtain ⟨v0, v6, vl, v3, vl2⟩ := HZ.out _ hb6; clear hb6)
                  go_meet
                  exact ⟨by rw [HF.out]; rfl, HB6.out⟩
                | true =>
                  cases d5 : (kK == 5)
                  all_goals
                   have HF : Hid (ko = !(kK == 5)) := by show _ = _; rw [HK0.out, decide_eq_true (by simpa using d2)]; rfl
                   rw [d5] at HF
                   go_wp2_with (go_at_call 112; (with_reducible refine HRI.out.mono ?_); rintro e w6 ⟨rfl, hb6⟩; have HB6 := Lib.hid hb6; obtain ⟨v0, v6, vl, v3, vl2⟩ := HZ.out _ hb6; clear hb6)
                   go_meet
                   exact ⟨by rw [HF.out]; rfl, HB6.out⟩
          case rest =>
           obtain ⟨rfl, hbc⟩ := hcut
           have HBD : Hid (Below w2.heap.size w2 wc) := HBR.out.trans (hbc.mono HBR.out.size)
           clear hbc HKO HKB x0 x4 x5 x6 x7 f3 f5 lI lF lC HBR HEN2
           obtain ⟨wd, hwd⟩ : ∃ wd : World, wd = wc := ⟨_, rfl⟩
           rw [← hwd] at HBD ⊢
           clear hwd
           obtain ⟨k1, k2, k3, k4, k5, k6, k7⟩ := HCE.out wd HBD.out
           have HEN3 := Lib.hid k7
           have x5 := k3.cell (j := 5) rfl
           have f5 := k2.cell (j := 5) rfl
           have lI := k3.lt; have lF := k2.lt
           have g9 := k1.cell k5.cE
           have lC := k1.lt
           cases ko with
           | false =>
             have HF : Hid (res = false) := by show _ = _; rw [HIO2.out]; rfl
             clear k1 k2 k3 k4 k5 k6 k7
             go_wp2_with fail
             go_ret
             exact ⟨by rw [HF.out]; rfl, HEN3.out⟩
           | true =>
             have HWY : Hid (res = if ex = 0 ∨ (ex = 1 ∧ x.Exit = -1) then decide (x.Exit = -1) else if 0 ≤ x.Exit ∧ x.Exit < t.Exits.length then match t.Exits[x.Exit.toNat]? with | some e => exitOk f.Regs f.Code.length t.Ins e i | none => false else false) := by
              show _ = _
              rw [HIO2.out, HEXE.out]; rfl
             clear HIO2 HEXE
             by_cases hea : ex = 0 ∨ (ex = 1 ∧ x.Exit = -1)
             · have HF : Hid (res = (x.Exit == -1)) := by show _ = _; rw [HWY.out, if_pos hea]; rfl
               clear k1 k2 k3 k4 k5 k6 k7 HWY g9
               rcases (show (ex == 0) = true ∨ ((ex == 0) = false ∧ (ex == 1) = true ∧ (x.Exit == -1) = true) by
                simp only [beq_iff_eq, beq_eq_false_iff_ne, ne_eq]; omega) with e1 | ⟨e1, e2, e3⟩
               · clear hea
                 cases e3 : (x.Exit == -1)
                 all_goals
                  rw [e3] at HF
                  go_wp2_with fail
                  go_ret
                  exact ⟨by rw [HF.out]; rfl, HEN3.out⟩
               · clear hea
                 rw [e3] at HF
                 go_wp2_with fail
                 go_ret
                 exact ⟨by rw [HF.out]; rfl, HEN3.out⟩
             · have HW2 : Hid (res = if 0 ≤ x.Exit ∧ x.Exit < t.Exits.length then match t.Exits[x.Exit.toNat]? with | some e => exitOk f.Regs f.Code.length t.Ins e i | none => false else false) := by show _ = _; rw [HWY.out, if_neg hea]
               have hd : (ex == 0) = false ∧ ((ex == 1) = false ∨ ((ex == 1) = true ∧ (x.Exit == -1) = false)) := by
                simp only [beq_iff_eq, beq_eq_false_iff_ne, ne_eq]; omega
               obtain ⟨e1, hd⟩ := hd
               have hne := k5.fewE
               clear HWY hea
               by_cases hin : 0 ≤ x.Exit ∧ x.Exit < nE
               · as_aux_lemma =>
                  obtain ⟨k, hk⟩ : ∃ k : Nat, x.Exit = k := ⟨x.Exit.toNat, by omega⟩
                  rw [hk] at hin x5 hd
                  obtain ⟨e, he⟩ : ∃ e, t.Exits[k]? = some e := ⟨_, List.getElem?_eq_getElem (by rw [k5.lenE]; omega)⟩
                  have HF : Hid (res = exitOk f.Regs f.Code.length t.Ins e i) := by
                   show _ = _
                   rw [HW2.out, hk, if_pos (by rw [k5.lenE]; exact hin)]
                   simp only [Int.toNat_natCast, he]
                  obtain ⟨b, off, a2, n2, c2, a3, n3, c3, rfl, hb, q0, q1, q2, q3, hrep⟩ := texit_at k5.exits he
                  have hbl := k6 b hb
                  obtain ⟨eb, heb⟩ : ∃ b, b = exitOk f.Regs f.Code.length t.Ins e i := ⟨_, rfl⟩
                  rw [← heb] at HF
                  have HRT : Hid (∀ d : Drift wd, Calls Tryd.prog 84 #[.agg C, .agg #[.int .i64 e.At, .int .i64 e.Steps, .slice a2 n2 c2, .slice a3 n3 c3], .int .i64 i] d.val fun e w' => e = .returned (.bool eb) ∧ Below d.val.heap.size d.val w') := fun d => by
                   have hk' : ∀ b, S b → d.val.heap[b]? = wd.heap[b]? := fun b hb' => d.below.block b (k6 b hb')
                   obtain ⟨_, _, _, _, _, _, hX⟩ := xin_of (X := #[.int .i64 e.At, .int .i64 e.Steps, .slice a2 n2 c2, .slice a3 n3 c3]) (Rep.keep hk' hrep)
                   rw [heb]
                   exact cright_any (k5.keep hk') hX (fun b hb' => Nat.lt_of_lt_of_le (k6 b hb') d.below.size) i
                  have HRC : Hid (∀ W, (∃ d : Drift wd, W = d.val) → Row W w.heap.size 140 C) := fun W ⟨d, hd⟩ => by rw [hd]; exact k1.keep (d.below.block _ k1.lt)
                  have c1 : decide (0 ≤ (k : Int)) = true := decide_eq_true (by omega)
                  have c2 : decide ((k : Int) < (nE : Int)) = true := decide_eq_true hin.2
                  have hkn : (k : Int) < (nE : Int) := hin.2
                  rcases hd with e2 | ⟨e2, e3⟩
                  all_goals
                   clear k1 k2 k3 k4 k5 k6 k7 hin he hrep heb hb hk HW2
                   go_upto_region 16 with fail
                   first | (refine wp_region_drift_lit (by kernel_rfl) (by kernel_rfl) (fun hdr => ?_); (repeat (first | go_big_quiet_skip | (go_big_quiet_want; (first | ((with_reducible refine qldC rfl rfl HRC.out hsC ?_); simp only [Act.put, List.setIfInBounds_toArray, List.set_cons_succ, List.set_cons_zero]) | go_big_quiet_op); (first | go_big_quiet_on | go_big_quiet_call ((go_at_call 84; with_reducible exact drift_of (HRT.out _))))))); refine wpQuiet_nil ?_; intro wq hw'; obtain ⟨⟨wd, hbd⟩, hw''⟩ := hw'; dsimp only at hw''; subst wq; clear hdr)
                   go_wp2
                   go_ret
                   exact ⟨by rw [HF.out]; rfl, HEN3.out.trans (hbd.mono HEN3.out.size)⟩
               · have HF : Hid (res = false) := by show _ = _; rw [HW2.out, if_neg (by rw [k5.lenE]; exact hin)]
                 rcases (show decide (0 ≤ x.Exit) = false ∨ (decide (0 ≤ x.Exit) = true ∧ decide (x.Exit < (nE : Int)) = false) by
                  simp only [decide_eq_true_eq, decide_eq_false_iff_not]; omega) with c1 | ⟨c1, c2⟩
                 all_goals
                  rcases hd with e2 | ⟨e2, e3⟩
                  all_goals
                   clear k1 k2 k3 k4 k5 k6 k7 hin
                   go_upto_region 16 with fail
                   first | (refine wp_region_drift_lit (by kernel_rfl) (by kernel_rfl) (fun hdr => ?_); (repeat (go_big_quiet_step (fail))); refine wpQuiet_nil ?_; intro wq hw'; obtain ⟨⟨wd, hbd⟩, hw''⟩ := hw'; dsimp only at hw''; subst wq; clear hdr)
                   go_wp2
                   go_ret
                   exact ⟨by rw [HF.out]; rfl, HEN3.out.trans (hbd.mono HEN3.out.size)⟩
end Go.Proofs.YtekofpigmggbbaaDoor.chk
