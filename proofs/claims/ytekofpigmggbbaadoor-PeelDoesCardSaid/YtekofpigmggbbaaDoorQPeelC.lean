/- One turn ahead: an exit with its values so much further on; walked. -/
import Derived.Test.YtekofpigmggbbaaDoorQCutA
import Derived.Test.YtekofpigmggbbaaDoorQPeelPlainB
import Derived.Test.YtekofpigmggbbaaDoorQApp
set_option linter.unusedVariables false
set_option linter.unusedSimpArgs false
namespace Go.Proofs.YtekofpigmggbbaaDoor.peel
open Go.Bk Go.RowKit Go.Proofs.YtekofpigmggbbaaDoor.ir Go.Proofs.YtekofpigmggbbaaDoor.cut
def addG (n : Int) : Int → Int := fun v => v + n
/-- All that there was is as it was. -/
def KQ (w : World) : Bool → World → Prop := fun _ W => ∀ k, k < w.heap.size → W.heap[k]? = w.heap[k]?
theorem KQ.keeps (w : World) : Keeps w.heap.size (KQ w) := fun _ _ _ h hk _ k hl => (hk k hl).trans (h k hl)
theorem KQ.arr {α : Type} [Rep α] {S : Nat → Prop} {w W : World} {b : Bool} {a : Option Addr} {xs : List α} (h : KQ w b W) (ha : Arr S w a xs) (hS : ∀ k, S k → k < w.heap.size) : Arr S W a xs := ha.keep fun k hk => h k (hS k hk)
theorem KQ.cell {w W : World} {b : Bool} {k : Nat} (h : KQ w b W) (hk : k < w.heap.size) : W.cell? ⟨k, 0, none⟩ = w.cell? ⟨k, 0, none⟩ := World.cell?_of_block (w := w) (h k hk)
theorem KQ.below {w W : World} {b : Bool} {c : Nat} (h : KQ w b W) (hw : Wr w.heap.size c w W) : Below w.heap.size w W := ⟨hw.os, hw.tape, hw.output, hw.size, h⟩
theorem wrapI {z : Int} (h : I64 z) : IntKind.i64.wrap z = z := by unfold I64 at h; rw [IntWalk.i64_in _ (by omega)]
set_option maxRecDepth 100000 in
set_option maxHeartbeats 20000000 in
theorem moved_any {w : World} {X : Array Value} {x : Api.TExit} {S : Nat → Prop} {n : Int} (hc : 0 < w.heap.size) (hx : Rep.cells S w X.toList x) (hS : ∀ k, S k → k < w.heap.size) (hfew : FewX x) (hgood : GoodX (addG n) x) :
 Calls Tryd.prog 95 #[.agg X, .int .i64 n] w fun e w' => ∃ cs : List Value, e = .returned (.agg cs.toArray) ∧ Rep.cells (Fresh w w') w' cs (movedX n x) ∧ Below w.heap.size w w' := by
 obtain ⟨a2, c2, a3, c3, hX, hAt, hSteps, ⟨l2, n2, r2⟩, ⟨l3, n3, r3⟩⟩ := api_TExit_cells_eq hx
 obtain ⟨nS, hnS⟩ : ∃ n, n = x.Sets.length := ⟨_, rfl⟩
 obtain ⟨nM, hnM⟩ : ∃ n, n = x.Makes.length := ⟨_, rfl⟩
 rw [← hnS, ← hnM] at hX
 obtain rfl : X = #[.int .i64 x.At, .int .i64 x.Steps, .slice a2 nS c2, .slice a3 nM c3] := by apply Array.ext'; simpa using hX
 have hS9 : nS ≤ 1000000 := by rw [hnS]; exact hfew.sets
 have hM9 : nM ≤ 1000000 := by rw [hnM]; exact hfew.makes
 obtain ⟨w2, hw2⟩ : ∃ w2, w2 = (w.alloc (.cells #[.int .i64 x.At, .int .i64 x.Steps, .slice a2 nS c2, .slice a3 nM c3] 32)).alloc (.cells #[.int .i64 0, .int .i64 0, .slice none 0 0, .slice none 0 0] 32) := ⟨_, rfl⟩
 obtain ⟨k1, k2, hb2, hz2⟩ := rowsTwo w #[.int .i64 x.At, .int .i64 x.Steps, .slice a2 nS c2, .slice a3 nM c3] #[.int .i64 0, .int .i64 0, .slice none 0 0, .slice none 0 0] _ _ w2 hw2
 have p0 := k1.cell (j := 0) rfl; have p1 := k1.cell (j := 1) rfl
 have lp := k1.lt
 have HNS := Lib.hid hnS; have HNM := Lib.hid hnM; have HFEW := Lib.hid hfew; have HGOOD := Lib.hid hgood; have HS := Lib.hid hS
 have HK := Lib.hid (KQ.keeps w)
 have HAT := Lib.hid hAt; have HSTEPS := Lib.hid hSteps
 have HR2 : Hid (∀ b W, KQ w b W → Arr S W a2 x.Sets) := fun b W h => h.arr r2 hS
 have HR3 : Hid (∀ b W, KQ w b W → Arr S W a3 x.Makes) := fun b W h => h.arr r3 hS
 have HST : Hid (SetsAt (KQ w) (addG n) true w 0 #[.int .i64 x.At, .int .i64 x.Steps, .slice a2 nS c2, .slice a3 nM c3] x (w2.alloc (.cells #[.int .i64 x.At, .int .i64 x.Steps, .slice none 0 0, .slice none 0 0] 32)) (.slice none 0 0) 0) := by
  have hb3 := hb2.alloc hb2.size (.cells #[.int .i64 x.At, .int .i64 x.Steps, .slice none 0 0, .slice none 0 0] 32)
  refine ⟨fun k hk => hb3.block k hk, k1.keep (Below.heap_alloc _ _ _ k1.lt), k2.blk.keep (Below.heap_alloc _ _ _ k2.lt), ?_, Own.nil _ _ _ _, .of_below hb3, by simp; omega⟩
  have := blk_new w2 [.int .i64 x.At, .int .i64 x.Steps, .slice none 0 0, .slice none 0 0] 32
  rwa [hz2] at this
 have HZ2 := Lib.hid hz2
 have HC0 := Lib.hid hc
 clear hx hS hfew hgood r2 r3 l2 n2 l3 n3 hX hnS hnM k1 k2 hb2 hAt hSteps
 go_enter Tryd.func95, Tryd.ntmps95
 go_upto_region 1 with fail
 rw [← hw2]
 clear hw2
 go_upto_region 2 with fail
 rw [show w.heap.size + 1 + 1 = w.heap.size + 2 from rfl]
 generalize hW3 : w2.alloc (.cells #[.int .i64 x.At, .int .i64 x.Steps, .slice none 0 0, .slice none 0 0] 32) = w3 at HST ⊢
 have q2 := HST.out.box.cell (j := 2) rfl
 have lp := HST.out.box.lt
 clear hz2 p0 p1 hW3
 go_wp2_with fail
 clear q2 lp HZ2
 go_loopw [21] (fun i W => ∃ (k : Nat) (vs : Value), k ≤ nS ∧ i = .int .i64 k ∧ SetsAt (KQ w) (addG n) true w 0 #[.int .i64 x.At, .int .i64 x.Steps, .slice a2 nS c2, .slice a3 nM c3] x W vs k) (fun i _ => nS - (intOf i).toNat)
 case atStart => exact ⟨0, _, Nat.zero_le _, rfl, HST.out⟩
 case round =>
  obtain ⟨k, vs, hk, rfl, hat⟩ := hrel
  have HAT2 := Lib.hid hat
  by_cases hlt : k < nS
  · as_aux_lemma =>
     obtain ⟨s, hs⟩ : ∃ s, x.Sets[k]? = some s := ⟨_, List.getElem?_eq_getElem (by rw [← HNS.out]; exact hlt)⟩
     obtain ⟨bs, os, rfl, hbs, s0, s1, i0, i1⟩ := api_TSet_elem (HR2.out _ _ hat.q) hs
     have hbl := HS.out _ hbs
     have hsz := hat.size
     have HSX := Lib.hid hs
     have hwe : IntKind.i64.wrap (s.Val + n) = s.Val + n := wrapI (HGOOD.out.sets s (List.mem_of_getElem? hs))
     have HI1 := Lib.hid (HGOOD.out.sets s (List.mem_of_getElem? hs)); have HI0 := Lib.hid i0
     clear hbs hs hat i0 i1
     go_upto_region 5 with fail
     generalize hW4 : wr.alloc (.cells #[.int .i64 s.Reg, .int .i64 s.Val] 98) = w4
     have hz4 : w4.heap.size = wr.heap.size + 1 := by rw [← hW4]; simp
     have hrw := row_new wr #[.int .i64 s.Reg, .int .i64 s.Val] 98
     obtain ⟨ho4, hb4⟩ := HAT2.out.called (o := .cells #[.int .i64 s.Reg, .int .i64 s.Val] 98) (by omega) (by omega) (Wr.refl _ _ _)
     rw [hW4] at hrw ho4 hb4
     have HO4 := Lib.hid ho4
     have HQ4 : Hid (KQ w (true && setsB (addG n) x k && fineV (addG n) s.Val) w4) := by show KQ _ _ _; rw [← hW4]; exact HK.out _ wr _ HAT2.out.q (fun k hk => Below.heap_alloc _ _ _ (by omega)) (by simp)
     have HW4 : Hid (Wr (wr.heap.size + 1) 0 (wr.alloc (.cells #[.int .i64 s.Reg, .int .i64 s.Val] 98)) w4) := by show Wr _ _ _ _; rw [hW4]; exact Wr.refl _ _ _
     have HSC : Hid (∀ W, Rep.cells (fun _ => False) W [.int .i64 s.Reg, .int .i64 (s.Val + n)] (cutSet (addG n) s)) := fun W => set_cells HI0.out HI1.out _ _
     have HLEN : Hid (((x.Sets.take k).map (cutSet (addG n))).length + 1 ≤ 1000000000) := by show _ ≤ _; simp; have := HNS.out; omega
     have d0 := hb4.cell (j := 2) rfl
     have d1 := hrw.cell (j := 0) rfl; have d2 := hrw.cell (j := 1) rfl
     have lb4 := hb4.lt
     clear hrw ho4 hb4 hbl s0 s1 hW4
     go_wp2_with (at_builtin; (with_reducible refine Tryd.wp_app29 (S := fun _ => False) (v := vs) (y := cutSet (addG n) s) rfl rfl (by with_unfolding_all rfl) rfl rfl (by first | rfl | omega | (simp; done)) HO4.out (HSC.out _) (fun _ h => h.elim) HLEN.out (by omega) fun v6 w6 hown6 hg6 => ?_); obtain ⟨va, ln, vc, rfl⟩ : ∃ va ln vc, v6 = .slice va ln vc := (by obtain ⟨a, c, h, -⟩ := hown6.arr; exact ⟨a, _, c, h⟩); have HN6 := Lib.hid (HAT2.out.step HK.out HC0.out HSX.out HW4.out HQ4.out hown6 hg6); have e0 := HN6.out.2.cell (j := 2) rfl; have e1 := HN6.out.2.frozen 2; have e2 := HN6.out.2.lt; clear hown6 hg6)
     go_roundw
     case rel => exact ⟨k + 1, _, by omega, by go_num, HN6.out.1⟩
     case measure => simp [intOf]; omega
  · have HMK : Hid (MakesAt (KQ w) (addG n) true w 0 #[.int .i64 x.At, .int .i64 x.Steps, .slice a2 nS c2, .slice a3 nM c3] x wr.heap.size vs wr (.slice none 0 0) 0) := by
     have e : k = x.Sets.length := by rw [← HNS.out]; omega
     have h := HAT2.out
     rw [e] at h
     exact h.makes
    have q3 := HMK.out.box.cell (j := 3) rfl
    have lp := HMK.out.box.lt
    clear hat
    go_wp2_with fail
    clear q3 lp HAT2 HST
    generalize hN1 : wr.heap.size = n1 at HMK
    clear hN1
    go_loopw [41] (fun i W => ∃ (k : Nat) (vm : Value), k ≤ nM ∧ i = .int .i64 k ∧ MakesAt (KQ w) (addG n) true w 0 #[.int .i64 x.At, .int .i64 x.Steps, .slice a2 nS c2, .slice a3 nM c3] x n1 vs W vm k) (fun i _ => nM - (intOf i).toNat)
    case atStart => exact ⟨0, _, Nat.zero_le _, rfl, HMK.out⟩
    case round =>
     obtain ⟨q, vm, hq, rfl, hat⟩ := hrel
     have HAT2 := Lib.hid hat
     by_cases hlt2 : q < nM
     · as_aux_lemma =>
        obtain ⟨m, hm⟩ : ∃ m, x.Makes[q]? = some m := ⟨_, List.getElem?_eq_getElem (by rw [← HNM.out]; exact hlt2)⟩
        obtain ⟨bm, om, aV, cV, rfl, hbm, s0, s1, s2, s3, i0, i1, i2, -, -, rV⟩ := api_TMake_elem (HR3.out _ _ hat.q) hm
        obtain ⟨nV, hnV⟩ : ∃ n, n = m.Vals.length := ⟨_, rfl⟩
        rw [← hnV] at s3
        have hbl := HS.out _ hbm
        have hsz := hat.size; have hfar := hat.far
        have HMX := Lib.hid hm; have HNV := Lib.hid hnV
        have hmem := List.mem_of_getElem? hm
        have HI1 := Lib.hid i1; have HI2 := Lib.hid i2
        have HGC := Lib.hid (HGOOD.out.makes m hmem).1; have HGV := Lib.hid (HGOOD.out.makes m hmem).2
        have hwe : IntKind.i64.wrap (m.Cell + n) = m.Cell + n := wrapI HGC.out
        have hV9 : nV ≤ 1000000 := by rw [hnV]; exact HFEW.out.vals m hmem
        have HRV : Hid (∀ b W, KQ wr b W → Arr S W aV m.Vals) := fun b W h => h.arr rV fun k hk => by have := HS.out k hk; omega
        clear hbm hm hat i0 i1 i2 rV hnV hmem HR2
        go_upto_region 10 with fail
        generalize hW4 : wr.alloc (.cells #[.int .i64 m.Cell, .int .i64 m.Kind, .int .i64 m.Num, .slice aV nV cV] 100) = w4
        have hz4 : w4.heap.size = wr.heap.size + 1 := by rw [← hW4]; simp
        have hrw := row_new wr #[.int .i64 m.Cell, .int .i64 m.Kind, .int .i64 m.Num, .slice aV nV cV] 100
        rw [hW4] at hrw
        have HB4 : Hid (Below wr.heap.size wr w4) := by show Below _ _ _; rw [← hW4]; exact (Below.refl _ _).alloc (Nat.le_refl _) _
        have d0 := hrw.cell (j := 0) rfl; have d1 := hrw.cell (j := 1) rfl; have d2 := hrw.cell (j := 2) rfl; have d3 := hrw.cell (j := 3) rfl
        have lrw := hrw.lt
        clear hrw hbl s0 s1 s2 s3 hW4
        go_upto_region 11 with fail
        have HVA : Hid (ValsAt (KQ w) (addG n) 0 wr (true && (setsB (addG n) x x.Sets.length && makesB (addG n) x q)) m (w4.alloc (.cells #[.int .i64 (m.Cell + n), .int .i64 m.Kind, .int .i64 m.Num, .slice none 0 0] 100)) (.slice none 0 0) 0) := by
         have hb5 := HB4.out.alloc (by omega) (.cells #[.int .i64 (m.Cell + n), .int .i64 m.Kind, .int .i64 m.Num, .slice none 0 0] 100)
         refine MakesAt.vals (.of_below hb5) (by simp; omega) (HK.out true wr _ HAT2.out.q (fun k hk => hb5.block k (by omega)) hb5.size) ?_
         have := blk_new w4 [.int .i64 (m.Cell + n), .int .i64 m.Kind, .int .i64 m.Num, .slice none 0 0] 100
         rwa [hz4] at this
        obtain ⟨w5, hw5⟩ : ∃ w5, w5 = w4.alloc (.cells #[.int .i64 (m.Cell + n), .int .i64 m.Kind, .int .i64 m.Num, .slice none 0 0] 100) := ⟨_, rfl⟩
        have hc3 : w5.cell? ⟨wr.heap.size, 3, none⟩ = some (.slice aV nV cV) := (World.cell?_of_block (w := w4) (by rw [hw5]; exact Below.heap_alloc _ _ _ lrw)).trans d3
        have hz5 : wr.heap.size < w5.heap.size := by rw [hw5]; simp; omega
        (try rw [hz4])
        rw [← hw5] at HVA ⊢
        clear hw5 d0 d1 d2 d3 HB4 lrw
        go_wp2_with fail
        clear hc3 hz5
        obtain ⟨wo, rfl⟩ : ∃ wo : World, wo = wr := ⟨_, rfl⟩
        go_loopw [57] (fun i W => ∃ (j : Nat) (vv : Value), j ≤ nV ∧ i = .int .i64 j ∧ ValsAt (KQ w) (addG n) 0 wo (true && (setsB (addG n) x x.Sets.length && makesB (addG n) x q)) m W vv j) (fun i _ => nV - (intOf i).toNat)
        case atStart => exact ⟨0, _, Nat.zero_le _, rfl, HVA.out⟩
        case round =>
         obtain ⟨j, vv, hj, rfl, hva⟩ := hrel
         have HVA2 := Lib.hid hva
         by_cases hlt3 : j < nV
         · as_aux_lemma =>
            obtain ⟨v, hv⟩ : ∃ v, m.Vals[j]? = some v := ⟨_, List.getElem?_eq_getElem (by rw [← HNV.out]; exact hlt3)⟩
            have hkq : KQ wo true wr := fun k hk => by
             by_cases h0 : k < w.heap.size
             · exact (hva.q k h0).trans (HAT2.out.q k h0).symm
             · exact hva.wr.block k hk (by omega)
            obtain ⟨bv, ov, cs, rfl, hbv, ⟨rfl, -⟩, g1⟩ := (HRV.out _ _ hkq).at hv
            have y0 : wr.cell? ⟨bv, ov + j, none⟩ = some (.int .i64 v) := by simpa [show Rep.sz Int = 1 from rfl] using g1 0 Nat.zero_lt_one
            have hbl := HS.out _ hbv
            have hsz2 := hva.size
            have hszr := hva.wr.size
            have c3 := hva.new.cell (j := 3) rfl
            have lN := hva.new.lt
            have HVX := Lib.hid hv
            have HIV := Lib.hid (HGV.out v (List.mem_of_getElem? hv))
            have hwv : IntKind.i64.wrap (v + n) = v + n := wrapI HIV.out
            have HO5 := Lib.hid hva.own
            have HQ5 : Hid (KQ w ((true && (setsB (addG n) x x.Sets.length && makesB (addG n) x q)) && valsB (addG n) m j && fineV (addG n) v) wr) := hva.q
            have HLEN : Hid (((m.Vals.take j).map (addG n)).length + 1 ≤ 1000000000) := by show _ ≤ _; simp; omega
            have HIVR : Hid (∀ W, Rep.cells (fun _ => False) W [.int .i64 (v + n)] (addG n v)) := fun W => ⟨rfl, HIV.out⟩
            clear hva hv hbv g1 hkq
            go_wp2_with (at_builtin; (with_reducible refine Tryd.wp_app58 (S := fun _ => False) (v := vv) (y := addG n v) rfl rfl (by with_unfolding_all rfl) rfl rfl (by first | rfl | omega | (simp; done)) HO5.out (HIVR.out _) (fun _ h => h.elim) HLEN.out (by omega) fun v6 w6 hown6 hg6 => ?_); obtain ⟨va, ln, vc, rfl⟩ : ∃ va ln vc, v6 = .slice va ln vc := (by obtain ⟨a, c, h, -⟩ := hown6.arr; exact ⟨a, _, c, h⟩); have HN6 := Lib.hid (HVA2.out.step HK.out (by omega) (by omega) HVX.out (Wr.refl _ _ _) HQ5.out hown6 hg6); have e0 := HN6.out.2.cell (j := 3) rfl; have e1 := HN6.out.2.frozen 3; have e2 := HN6.out.2.lt; clear hown6 hg6)
            go_roundw
            case rel => exact ⟨j + 1, _, by omega, by go_num, HN6.out.1⟩
            case measure => simp [intOf]; omega
         · obtain rfl : j = nV := by omega
           have HVF : Hid (ValsAt (KQ w) (addG n) 0 wo (true && (setsB (addG n) x x.Sets.length && makesB (addG n) x q)) m wr vv m.Vals.length) := by have := HVA2.out; rwa [HNV.out] at this
           obtain ⟨hO, hC, hB⟩ := HAT2.out.ready (by omega) HGC.out HI1.out HI2.out HVF.out
           have HO := Lib.hid hO; have HC := Lib.hid hC
           have b3 := hB.cell (j := 3) rfl
           have lB := hB.lt
           have m0 := HVF.out.new.cell (j := 0) rfl; have m1 := HVF.out.new.cell (j := 1) rfl; have m2 := HVF.out.new.cell (j := 2) rfl; have m3 := HVF.out.new.cell (j := 3) rfl
           have lM := HVF.out.new.lt
           have hszr := HVF.out.wr.size
           have HLEN : Hid (((x.Makes.take q).map (cutMake (addG n))).length ≤ 1000000) := by show _ ≤ _; simp; omega
           have HSBF : Hid (∀ k, SB n1 wr vm k → k < wr.heap.size ∧ vm.ownBlock ≠ some k) := fun k hk => ⟨hk.2.1, hk.2.2⟩
           clear hva hO hC hB
           go_wp2_with (at_builtin; (with_reducible refine Tryd.wp_appd30 (S := SB n1 wr vm) (v := vm) rfl rfl (by with_unfolding_all rfl) rfl rfl (by first | rfl | simp) HO.out HC.out HSBF.out (by have := HLEN.out; omega) (by omega) fun v6 w6 hown6 hg6 hst6 => ?_); obtain ⟨va, ln, vc, rfl⟩ : ∃ va ln vc, v6 = .slice va ln vc := (by obtain ⟨a, c, h, -⟩ := hown6.arr; exact ⟨a, _, c, h⟩); have HN6 := Lib.hid (HAT2.out.step HK.out HC0.out HMX.out HVF.out hown6 hg6 hst6); have e0 := HN6.out.2.cell (j := 3) rfl; have e1 := HN6.out.2.frozen 3; have e2 := HN6.out.2.lt; clear hown6 hg6 hst6)
           go_roundw
           case rel => exact ⟨q + 1, _, by omega, by go_num, HN6.out.1⟩
           case measure => simp [intOf]; omega
     · have HDN : Hid (MakesAt (KQ w) (addG n) true w 0 #[.int .i64 x.At, .int .i64 x.Steps, .slice a2 nS c2, .slice a3 nM c3] x n1 vs wr vm x.Makes.length) := by
        have e : q = x.Makes.length := by rw [← HNM.out]; omega
        have h := HAT2.out
        rwa [e] at h
       obtain ⟨hqf, hrep⟩ := HDN.out.done HAT.out HSTEPS.out
       have HQF := Lib.hid hqf; have HREP := Lib.hid hrep
       have c0 := HDN.out.out.cell (j := 0) rfl; have c1 := HDN.out.out.cell (j := 1) rfl; have c2 := HDN.out.out.cell (j := 2) rfl; have c3 := HDN.out.out.cell (j := 3) rfl
       have r0 := HDN.out.res.cell (j := 0) rfl; have r1 := HDN.out.res.cell (j := 1) rfl; have r2 := HDN.out.res.cell (j := 2) rfl; have r3 := HDN.out.res.cell (j := 3) rfl
       have f0 := HDN.out.res.frozen 0; have f1 := HDN.out.res.frozen 1; have f2 := HDN.out.res.frozen 2; have f3 := HDN.out.res.frozen 3
       have l0 := HDN.out.out.lt; have l1 := HDN.out.res.lt
       obtain ⟨sa, sn, sc, rfl⟩ : ∃ sa sn sc, vs = .slice sa sn sc := (by obtain ⟨a, c, h, -⟩ := HDN.out.sets; exact ⟨a, _, c, by simpa using h⟩)
       obtain ⟨ma, mn, mc, rfl⟩ : ∃ sa sn sc, vm = .slice sa sn sc := (by obtain ⟨a, c, h, -⟩ := HDN.out.own.arr; exact ⟨a, _, c, h⟩)
       clear hat hqf hrep
       go_wp2_with fail
       have HYB : Hid (Blk (wr.setCells (w.heap.size + 1) 0 [.int .i64 x.At, .int .i64 x.Steps, .slice sa sn sc, .slice ma mn mc]) (w.heap.size + 1) 32 [.int .i64 x.At, .int .i64 x.Steps, .slice sa sn sc, .slice ma mn mc]) := (((HDN.out.res.set 0 _).set 1 _).set 2 _).set 3 _
       have hne : ∀ k, k ≠ w.heap.size + 1 → (wr.setCells (w.heap.size + 1) 0 [.int .i64 x.At, .int .i64 x.Steps, .slice sa sn sc, .slice ma mn mc]).heap[k]? = wr.heap[k]? := fun k hk => heap_setCells_ne _ _ _ _ _ hk
       have hss : (wr.setCells (w.heap.size + 1) 0 [.int .i64 x.At, .int .i64 x.Steps, .slice sa sn sc, .slice ma mn mc]).heap.size = wr.heap.size := heap_setCells_size _ _ _ _
       (try simp only [Exit.inBlock, Exit.then])
       refine bodyPost_ret (results_cell_row rfl _ _ _ _ _ _ _ rfl HYB.out Tryd.underlying32 rfl rfl) rfl ⟨_, rfl, ?_, ?_⟩
       · exact Rep.mono (fun k hk => ⟨by have := hk.1; omega, by show k < (wr.setCells (w.heap.size + 1) 0 [.int .i64 x.At, .int .i64 x.Steps, .slice sa sn sc, .slice ma mn mc]).heap.size; rw [hss]; exact hk.2⟩) (Rep.keep (fun k hk => hne k (by have := hk.1; omega)) HREP.out)
       · exact KQ.below (c := 0) (HK.out _ wr _ HQF.out (fun k hk => hne k (by omega)) (Nat.le_of_eq hss.symm)) (HDN.out.wr.grown (grownBy_setCells (g := w.heap.size + 1) [.int .i64 x.At, .int .i64 x.Steps, .slice sa sn sc, .slice ma mn mc] 0 wr (World.grownBy.refl _ _)) HDN.out.wr.size (fun k hk => by cases hk; omega))
set_option maxRecDepth 100000 in
set_option maxHeartbeats 20000000 in
theorem more_any {w : World} {X : Array Value} {x : Api.TExit} {S : Nat → Prop} {n : Int} {gn : Nat} (hc : 0 < w.heap.size) (hx : Rep.cells S w X.toList x) (hS : ∀ k, S k → k < w.heap.size) (hfew : FewX x) (hgood : GoodX (addG n) x) (hgn : w.cell? ⟨gn, 0, none⟩ = some (.int .i64 n)) (hgl : gn < w.heap.size) :
 Calls Tryd.prog 53 #[.agg X, .pointer (some ⟨gn, 0, none⟩)] w fun e w' => ∃ cs : List Value, e = .returned (.agg cs.toArray) ∧ Rep.cells (Fresh w w') w' cs (movedX n x) ∧ Below w.heap.size w w' := by
 obtain ⟨a2, c2, a3, c3, hX, hAt, hSteps, ⟨l2, n2, r2⟩, ⟨l3, n3, r3⟩⟩ := api_TExit_cells_eq hx
 obtain ⟨nS, hnS⟩ : ∃ n, n = x.Sets.length := ⟨_, rfl⟩
 obtain ⟨nM, hnM⟩ : ∃ n, n = x.Makes.length := ⟨_, rfl⟩
 rw [← hnS, ← hnM] at hX
 obtain rfl : X = #[.int .i64 x.At, .int .i64 x.Steps, .slice a2 nS c2, .slice a3 nM c3] := by apply Array.ext'; simpa using hX
 have hS9 : nS ≤ 1000000 := by rw [hnS]; exact hfew.sets
 have hM9 : nM ≤ 1000000 := by rw [hnM]; exact hfew.makes
 obtain ⟨w2, hw2⟩ : ∃ w2, w2 = (w.alloc (.cells #[.int .i64 x.At, .int .i64 x.Steps, .slice a2 nS c2, .slice a3 nM c3] 32)).alloc (.cells #[.int .i64 0, .int .i64 0, .slice none 0 0, .slice none 0 0] 32) := ⟨_, rfl⟩
 obtain ⟨k1, k2, hb2, hz2⟩ := rowsTwo w #[.int .i64 x.At, .int .i64 x.Steps, .slice a2 nS c2, .slice a3 nM c3] #[.int .i64 0, .int .i64 0, .slice none 0 0, .slice none 0 0] _ _ w2 hw2
 have p0 := k1.cell (j := 0) rfl; have p1 := k1.cell (j := 1) rfl
 have lp := k1.lt
 have HNS := Lib.hid hnS; have HNM := Lib.hid hnM; have HFEW := Lib.hid hfew; have HGOOD := Lib.hid hgood; have HS := Lib.hid hS
 have HK := Lib.hid (KQ.keeps w)
 have HAT := Lib.hid hAt; have HSTEPS := Lib.hid hSteps
 have HR2 : Hid (∀ b W, KQ w b W → Arr S W a2 x.Sets) := fun b W h => h.arr r2 hS
 have HR3 : Hid (∀ b W, KQ w b W → Arr S W a3 x.Makes) := fun b W h => h.arr r3 hS
 have HGN : Hid (∀ b W, KQ w b W → W.cell? ⟨gn, 0, none⟩ = some (.int .i64 n)) := fun b W h => (h.cell hgl).trans hgn
 have HST : Hid (SetsAt (KQ w) (addG n) true w 0 #[.int .i64 x.At, .int .i64 x.Steps, .slice a2 nS c2, .slice a3 nM c3] x (w2.alloc (.cells #[.int .i64 x.At, .int .i64 x.Steps, .slice none 0 0, .slice none 0 0] 32)) (.slice none 0 0) 0) := by
  have hb3 := hb2.alloc hb2.size (.cells #[.int .i64 x.At, .int .i64 x.Steps, .slice none 0 0, .slice none 0 0] 32)
  refine ⟨fun k hk => hb3.block k hk, k1.keep (Below.heap_alloc _ _ _ k1.lt), k2.blk.keep (Below.heap_alloc _ _ _ k2.lt), ?_, Own.nil _ _ _ _, .of_below hb3, by simp; omega⟩
  have := blk_new w2 [.int .i64 x.At, .int .i64 x.Steps, .slice none 0 0, .slice none 0 0] 32
  rwa [hz2] at this
 have HZ2 := Lib.hid hz2
 have HC0 := Lib.hid hc
 clear hx hS hfew hgood r2 r3 l2 n2 l3 n3 hX hnS hnM k1 k2 hb2 hAt hSteps hgn
 go_enter Tryd.func53, Tryd.ntmps53
 go_upto_region 1 with fail
 rw [← hw2]
 clear hw2
 go_upto_region 2 with fail
 rw [show w.heap.size + 1 + 1 = w.heap.size + 2 from rfl]
 generalize hW3 : w2.alloc (.cells #[.int .i64 x.At, .int .i64 x.Steps, .slice none 0 0, .slice none 0 0] 32) = w3 at HST ⊢
 have q2 := HST.out.box.cell (j := 2) rfl
 have lp := HST.out.box.lt
 clear hz2 p0 p1 hW3
 go_wp2_with fail
 clear q2 lp HZ2
 go_loopw [20] (fun i W => ∃ (k : Nat) (vs : Value), k ≤ nS ∧ i = .int .i64 k ∧ SetsAt (KQ w) (addG n) true w 0 #[.int .i64 x.At, .int .i64 x.Steps, .slice a2 nS c2, .slice a3 nM c3] x W vs k) (fun i _ => nS - (intOf i).toNat)
 case atStart => exact ⟨0, _, Nat.zero_le _, rfl, HST.out⟩
 case round =>
  obtain ⟨k, vs, hk, rfl, hat⟩ := hrel
  have HAT2 := Lib.hid hat
  by_cases hlt : k < nS
  · as_aux_lemma =>
     obtain ⟨s, hs⟩ : ∃ s, x.Sets[k]? = some s := ⟨_, List.getElem?_eq_getElem (by rw [← HNS.out]; exact hlt)⟩
     obtain ⟨bs, os, rfl, hbs, s0, s1, i0, i1⟩ := api_TSet_elem (HR2.out _ _ hat.q) hs
     have hbl := HS.out _ hbs
     have hsz := hat.size
     have HSX := Lib.hid hs
     have hwe : IntKind.i64.wrap (s.Val + n) = s.Val + n := wrapI (HGOOD.out.sets s (List.mem_of_getElem? hs))
     have HI1 := Lib.hid (HGOOD.out.sets s (List.mem_of_getElem? hs)); have HI0 := Lib.hid i0
     have HCN := Lib.hid (HGN.out _ _ hat.q)
     clear hbs hs hat i0 i1
     go_upto_region 5 with fail
     generalize hW4 : wr.alloc (.cells #[.int .i64 s.Reg, .int .i64 s.Val] 98) = w4
     have hz4 : w4.heap.size = wr.heap.size + 1 := by rw [← hW4]; simp
     have hrw := row_new wr #[.int .i64 s.Reg, .int .i64 s.Val] 98
     obtain ⟨ho4, hb4⟩ := HAT2.out.called (o := .cells #[.int .i64 s.Reg, .int .i64 s.Val] 98) (by omega) (by omega) (Wr.refl _ _ _)
     rw [hW4] at hrw ho4 hb4
     have HO4 := Lib.hid ho4
     have HQ4 : Hid (KQ w (true && setsB (addG n) x k && fineV (addG n) s.Val) w4) := by show KQ _ _ _; rw [← hW4]; exact HK.out _ wr _ HAT2.out.q (fun k hk => Below.heap_alloc _ _ _ (by omega)) (by simp)
     have HW4 : Hid (Wr (wr.heap.size + 1) 0 (wr.alloc (.cells #[.int .i64 s.Reg, .int .i64 s.Val] 98)) w4) := by show Wr _ _ _ _; rw [hW4]; exact Wr.refl _ _ _
     have HSC : Hid (∀ W, Rep.cells (fun _ => False) W [.int .i64 s.Reg, .int .i64 (s.Val + n)] (cutSet (addG n) s)) := fun W => set_cells HI0.out HI1.out _ _
     have HLEN : Hid (((x.Sets.take k).map (cutSet (addG n))).length + 1 ≤ 1000000000) := by show _ ≤ _; simp; have := HNS.out; omega
     have d0 := hb4.cell (j := 2) rfl
     have d1 := hrw.cell (j := 0) rfl; have d2 := hrw.cell (j := 1) rfl
     have lb4 := hb4.lt
     have cn : w4.cell? ⟨gn, 0, none⟩ = some (.int .i64 n) := HGN.out _ _ HQ4.out
     clear hrw ho4 hb4 hbl s0 s1 hW4
     go_wp2_with (at_builtin; (with_reducible refine Tryd.wp_app29 (S := fun _ => False) (v := vs) (y := cutSet (addG n) s) rfl rfl (by with_unfolding_all rfl) rfl rfl (by first | rfl | omega | (simp; done)) HO4.out (HSC.out _) (fun _ h => h.elim) HLEN.out (by omega) fun v6 w6 hown6 hg6 => ?_); obtain ⟨va, ln, vc, rfl⟩ : ∃ va ln vc, v6 = .slice va ln vc := (by obtain ⟨a, c, h, -⟩ := hown6.arr; exact ⟨a, _, c, h⟩); have HN6 := Lib.hid (HAT2.out.step HK.out HC0.out HSX.out HW4.out HQ4.out hown6 hg6); have e0 := HN6.out.2.cell (j := 2) rfl; have e1 := HN6.out.2.frozen 2; have e2 := HN6.out.2.lt; clear hown6 hg6)
     go_roundw
     case rel => exact ⟨k + 1, _, by omega, by go_num, HN6.out.1⟩
     case measure => simp [intOf]; omega
  · have HMK : Hid (MakesAt (KQ w) (addG n) true w 0 #[.int .i64 x.At, .int .i64 x.Steps, .slice a2 nS c2, .slice a3 nM c3] x wr.heap.size vs wr (.slice none 0 0) 0) := by
     have e : k = x.Sets.length := by rw [← HNS.out]; omega
     have h := HAT2.out
     rw [e] at h
     exact h.makes
    have q3 := HMK.out.box.cell (j := 3) rfl
    have lp := HMK.out.box.lt
    clear hat
    go_wp2_with fail
    clear q3 lp HAT2 HST
    generalize hN1 : wr.heap.size = n1 at HMK
    clear hN1
    go_loopw [40] (fun i W => ∃ (k : Nat) (vm : Value), k ≤ nM ∧ i = .int .i64 k ∧ MakesAt (KQ w) (addG n) true w 0 #[.int .i64 x.At, .int .i64 x.Steps, .slice a2 nS c2, .slice a3 nM c3] x n1 vs W vm k) (fun i _ => nM - (intOf i).toNat)
    case atStart => exact ⟨0, _, Nat.zero_le _, rfl, HMK.out⟩
    case round =>
     obtain ⟨q, vm, hq, rfl, hat⟩ := hrel
     have HAT2 := Lib.hid hat
     by_cases hlt2 : q < nM
     · as_aux_lemma =>
        obtain ⟨m, hm⟩ : ∃ m, x.Makes[q]? = some m := ⟨_, List.getElem?_eq_getElem (by rw [← HNM.out]; exact hlt2)⟩
        obtain ⟨bm, om, aV, cV, rfl, hbm, s0, s1, s2, s3, i0, i1, i2, -, -, rV⟩ := api_TMake_elem (HR3.out _ _ hat.q) hm
        obtain ⟨nV, hnV⟩ : ∃ n, n = m.Vals.length := ⟨_, rfl⟩
        rw [← hnV] at s3
        have hbl := HS.out _ hbm
        have hsz := hat.size; have hfar := hat.far
        have HMX := Lib.hid hm; have HNV := Lib.hid hnV
        have hmem := List.mem_of_getElem? hm
        have HI1 := Lib.hid i1; have HI2 := Lib.hid i2
        have HGC := Lib.hid (HGOOD.out.makes m hmem).1; have HGV := Lib.hid (HGOOD.out.makes m hmem).2
        have hwe : IntKind.i64.wrap (m.Cell + n) = m.Cell + n := wrapI HGC.out
        have hV9 : nV ≤ 1000000 := by rw [hnV]; exact HFEW.out.vals m hmem
        have HRV : Hid (∀ b W, KQ wr b W → Arr S W aV m.Vals) := fun b W h => h.arr rV fun k hk => by have := HS.out k hk; omega
        have HCN := Lib.hid (HGN.out _ _ hat.q)
        clear hbm hm hat i0 i1 i2 rV hnV hmem HR2
        go_upto_region 10 with fail
        generalize hW4 : wr.alloc (.cells #[.int .i64 m.Cell, .int .i64 m.Kind, .int .i64 m.Num, .slice aV nV cV] 100) = w4
        have hz4 : w4.heap.size = wr.heap.size + 1 := by rw [← hW4]; simp
        have hrw := row_new wr #[.int .i64 m.Cell, .int .i64 m.Kind, .int .i64 m.Num, .slice aV nV cV] 100
        rw [hW4] at hrw
        have HB4 : Hid (Below wr.heap.size wr w4) := by show Below _ _ _; rw [← hW4]; exact (Below.refl _ _).alloc (Nat.le_refl _) _
        have d0 := hrw.cell (j := 0) rfl; have d1 := hrw.cell (j := 1) rfl; have d2 := hrw.cell (j := 2) rfl; have d3 := hrw.cell (j := 3) rfl
        have lrw := hrw.lt
        have cn : w4.cell? ⟨gn, 0, none⟩ = some (.int .i64 n) := (World.cell?_of_block (w := wr) (HB4.out.block gn (by omega))).trans HCN.out
        clear hrw hbl s0 s1 s2 s3 hW4
        go_upto_region 11 with fail
        have HVA : Hid (ValsAt (KQ w) (addG n) 0 wr (true && (setsB (addG n) x x.Sets.length && makesB (addG n) x q)) m (w4.alloc (.cells #[.int .i64 (m.Cell + n), .int .i64 m.Kind, .int .i64 m.Num, .slice none 0 0] 100)) (.slice none 0 0) 0) := by
         have hb5 := HB4.out.alloc (by omega) (.cells #[.int .i64 (m.Cell + n), .int .i64 m.Kind, .int .i64 m.Num, .slice none 0 0] 100)
         refine MakesAt.vals (.of_below hb5) (by simp; omega) (HK.out true wr _ HAT2.out.q (fun k hk => hb5.block k (by omega)) hb5.size) ?_
         have := blk_new w4 [.int .i64 (m.Cell + n), .int .i64 m.Kind, .int .i64 m.Num, .slice none 0 0] 100
         rwa [hz4] at this
        obtain ⟨w5, hw5⟩ : ∃ w5, w5 = w4.alloc (.cells #[.int .i64 (m.Cell + n), .int .i64 m.Kind, .int .i64 m.Num, .slice none 0 0] 100) := ⟨_, rfl⟩
        have hc3 : w5.cell? ⟨wr.heap.size, 3, none⟩ = some (.slice aV nV cV) := (World.cell?_of_block (w := w4) (by rw [hw5]; exact Below.heap_alloc _ _ _ lrw)).trans d3
        have hz5 : wr.heap.size < w5.heap.size := by rw [hw5]; simp; omega
        (try rw [hz4])
        rw [← hw5] at HVA ⊢
        clear hw5 d0 d1 d2 d3 HB4 lrw cn HCN
        go_wp2_with fail
        clear hc3 hz5
        obtain ⟨wo, rfl⟩ : ∃ wo : World, wo = wr := ⟨_, rfl⟩
        go_loopw [56] (fun i W => ∃ (j : Nat) (vv : Value), j ≤ nV ∧ i = .int .i64 j ∧ ValsAt (KQ w) (addG n) 0 wo (true && (setsB (addG n) x x.Sets.length && makesB (addG n) x q)) m W vv j) (fun i _ => nV - (intOf i).toNat)
        case atStart => exact ⟨0, _, Nat.zero_le _, rfl, HVA.out⟩
        case round =>
         obtain ⟨j, vv, hj, rfl, hva⟩ := hrel
         have HVA2 := Lib.hid hva
         by_cases hlt3 : j < nV
         · as_aux_lemma =>
            obtain ⟨v, hv⟩ : ∃ v, m.Vals[j]? = some v := ⟨_, List.getElem?_eq_getElem (by rw [← HNV.out]; exact hlt3)⟩
            have hkq : KQ wo true wr := fun k hk => by
             by_cases h0 : k < w.heap.size
             · exact (hva.q k h0).trans (HAT2.out.q k h0).symm
             · exact hva.wr.block k hk (by omega)
            obtain ⟨bv, ov, cs, rfl, hbv, ⟨rfl, -⟩, g1⟩ := (HRV.out _ _ hkq).at hv
            have y0 : wr.cell? ⟨bv, ov + j, none⟩ = some (.int .i64 v) := by simpa [show Rep.sz Int = 1 from rfl] using g1 0 Nat.zero_lt_one
            have hbl := HS.out _ hbv
            have hsz2 := hva.size
            have hszr := hva.wr.size
            have c3 := hva.new.cell (j := 3) rfl
            have lN := hva.new.lt
            have HVX := Lib.hid hv
            have HIV := Lib.hid (HGV.out v (List.mem_of_getElem? hv))
            have hwv : IntKind.i64.wrap (v + n) = v + n := wrapI HIV.out
            have HO5 := Lib.hid hva.own
            have HQ5 : Hid (KQ w ((true && (setsB (addG n) x x.Sets.length && makesB (addG n) x q)) && valsB (addG n) m j && fineV (addG n) v) wr) := hva.q
            have HLEN : Hid (((m.Vals.take j).map (addG n)).length + 1 ≤ 1000000000) := by show _ ≤ _; simp; omega
            have HIVR : Hid (∀ W, Rep.cells (fun _ => False) W [.int .i64 (v + n)] (addG n v)) := fun W => ⟨rfl, HIV.out⟩
            have cn := HGN.out _ _ hva.q
            clear hva hv hbv g1 hkq
            go_wp2_with (at_builtin; (with_reducible refine Tryd.wp_app58 (S := fun _ => False) (v := vv) (y := addG n v) rfl rfl (by with_unfolding_all rfl) rfl rfl (by first | rfl | omega | (simp; done)) HO5.out (HIVR.out _) (fun _ h => h.elim) HLEN.out (by omega) fun v6 w6 hown6 hg6 => ?_); obtain ⟨va, ln, vc, rfl⟩ : ∃ va ln vc, v6 = .slice va ln vc := (by obtain ⟨a, c, h, -⟩ := hown6.arr; exact ⟨a, _, c, h⟩); have HN6 := Lib.hid (HVA2.out.step HK.out (by omega) (by omega) HVX.out (Wr.refl _ _ _) HQ5.out hown6 hg6); have e0 := HN6.out.2.cell (j := 3) rfl; have e1 := HN6.out.2.frozen 3; have e2 := HN6.out.2.lt; clear hown6 hg6)
            go_roundw
            case rel => exact ⟨j + 1, _, by omega, by go_num, HN6.out.1⟩
            case measure => simp [intOf]; omega
         · obtain rfl : j = nV := by omega
           have HVF : Hid (ValsAt (KQ w) (addG n) 0 wo (true && (setsB (addG n) x x.Sets.length && makesB (addG n) x q)) m wr vv m.Vals.length) := by have := HVA2.out; rwa [HNV.out] at this
           obtain ⟨hO, hC, hB⟩ := HAT2.out.ready (by omega) HGC.out HI1.out HI2.out HVF.out
           have HO := Lib.hid hO; have HC := Lib.hid hC
           have b3 := hB.cell (j := 3) rfl
           have lB := hB.lt
           have m0 := HVF.out.new.cell (j := 0) rfl; have m1 := HVF.out.new.cell (j := 1) rfl; have m2 := HVF.out.new.cell (j := 2) rfl; have m3 := HVF.out.new.cell (j := 3) rfl
           have lM := HVF.out.new.lt
           have hszr := HVF.out.wr.size
           have HLEN : Hid (((x.Makes.take q).map (cutMake (addG n))).length ≤ 1000000) := by show _ ≤ _; simp; omega
           have HSBF : Hid (∀ k, SB n1 wr vm k → k < wr.heap.size ∧ vm.ownBlock ≠ some k) := fun k hk => ⟨hk.2.1, hk.2.2⟩
           clear hva hO hC hB
           go_wp2_with (at_builtin; (with_reducible refine Tryd.wp_appd30 (S := SB n1 wr vm) (v := vm) rfl rfl (by with_unfolding_all rfl) rfl rfl (by first | rfl | simp) HO.out HC.out HSBF.out (by have := HLEN.out; omega) (by omega) fun v6 w6 hown6 hg6 hst6 => ?_); obtain ⟨va, ln, vc, rfl⟩ : ∃ va ln vc, v6 = .slice va ln vc := (by obtain ⟨a, c, h, -⟩ := hown6.arr; exact ⟨a, _, c, h⟩); have HN6 := Lib.hid (HAT2.out.step HK.out HC0.out HMX.out HVF.out hown6 hg6 hst6); have e0 := HN6.out.2.cell (j := 3) rfl; have e1 := HN6.out.2.frozen 3; have e2 := HN6.out.2.lt; clear hown6 hg6 hst6)
           go_roundw
           case rel => exact ⟨q + 1, _, by omega, by go_num, HN6.out.1⟩
           case measure => simp [intOf]; omega
     · have HDN : Hid (MakesAt (KQ w) (addG n) true w 0 #[.int .i64 x.At, .int .i64 x.Steps, .slice a2 nS c2, .slice a3 nM c3] x n1 vs wr vm x.Makes.length) := by
        have e : q = x.Makes.length := by rw [← HNM.out]; omega
        have h := HAT2.out
        rwa [e] at h
       obtain ⟨hqf, hrep⟩ := HDN.out.done HAT.out HSTEPS.out
       have HQF := Lib.hid hqf; have HREP := Lib.hid hrep
       have c0 := HDN.out.out.cell (j := 0) rfl; have c1 := HDN.out.out.cell (j := 1) rfl; have c2 := HDN.out.out.cell (j := 2) rfl; have c3 := HDN.out.out.cell (j := 3) rfl
       have r0 := HDN.out.res.cell (j := 0) rfl; have r1 := HDN.out.res.cell (j := 1) rfl; have r2 := HDN.out.res.cell (j := 2) rfl; have r3 := HDN.out.res.cell (j := 3) rfl
       have f0 := HDN.out.res.frozen 0; have f1 := HDN.out.res.frozen 1; have f2 := HDN.out.res.frozen 2; have f3 := HDN.out.res.frozen 3
       have l0 := HDN.out.out.lt; have l1 := HDN.out.res.lt
       obtain ⟨sa, sn, sc, rfl⟩ : ∃ sa sn sc, vs = .slice sa sn sc := (by obtain ⟨a, c, h, -⟩ := HDN.out.sets; exact ⟨a, _, c, by simpa using h⟩)
       obtain ⟨ma, mn, mc, rfl⟩ : ∃ sa sn sc, vm = .slice sa sn sc := (by obtain ⟨a, c, h, -⟩ := HDN.out.own.arr; exact ⟨a, _, c, h⟩)
       clear hat hqf hrep
       go_wp2_with fail
       have HYB : Hid (Blk (wr.setCells (w.heap.size + 1) 0 [.int .i64 x.At, .int .i64 x.Steps, .slice sa sn sc, .slice ma mn mc]) (w.heap.size + 1) 32 [.int .i64 x.At, .int .i64 x.Steps, .slice sa sn sc, .slice ma mn mc]) := (((HDN.out.res.set 0 _).set 1 _).set 2 _).set 3 _
       have hne : ∀ k, k ≠ w.heap.size + 1 → (wr.setCells (w.heap.size + 1) 0 [.int .i64 x.At, .int .i64 x.Steps, .slice sa sn sc, .slice ma mn mc]).heap[k]? = wr.heap[k]? := fun k hk => heap_setCells_ne _ _ _ _ _ hk
       have hss : (wr.setCells (w.heap.size + 1) 0 [.int .i64 x.At, .int .i64 x.Steps, .slice sa sn sc, .slice ma mn mc]).heap.size = wr.heap.size := heap_setCells_size _ _ _ _
       (try simp only [Exit.inBlock, Exit.then])
       refine bodyPost_ret (results_cell_row rfl _ _ _ _ _ _ _ rfl HYB.out Tryd.underlying32 rfl rfl) rfl ⟨_, rfl, ?_, ?_⟩
       · exact Rep.mono (fun k hk => ⟨by have := hk.1; omega, by show k < (wr.setCells (w.heap.size + 1) 0 [.int .i64 x.At, .int .i64 x.Steps, .slice sa sn sc, .slice ma mn mc]).heap.size; rw [hss]; exact hk.2⟩) (Rep.keep (fun k hk => hne k (by have := hk.1; omega)) HREP.out)
       · exact KQ.below (c := 0) (HK.out _ wr _ HQF.out (fun k hk => hne k (by omega)) (Nat.le_of_eq hss.symm)) (HDN.out.wr.grown (grownBy_setCells (g := w.heap.size + 1) [.int .i64 x.At, .int .i64 x.Steps, .slice sa sn sc, .slice ma mn mc] 0 wr (World.grownBy.refl _ _)) HDN.out.wr.size (fun k hk => by cases hk; omega))
end Go.Proofs.YtekofpigmggbbaaDoor.peel
