/- The document's Cut: an exit; walked. -/
import Derived.Test.YtekofpigmggbbaaDoorQCutA
import Derived.Test.YtekofpigmggbbaaDoorQApp
import Derived.Deep.RegionLaw
import Derived.Deep.RegionHeld3
import Derived.Test.YtekofpigmggbbaaDoorQSteps
set_option linter.unusedVariables false
set_option linter.unusedSimpArgs false
namespace Go.Proofs.YtekofpigmggbbaaDoor.cut
open Go.Bk Go.RowKit Go.Proofs.YtekofpigmggbbaaDoor.ir

set_option maxRecDepth 100000 in
set_option maxHeartbeats 20000000 in
theorem rexitG_any {Q : Bool → World → Prop} {g : Int → Int} {b : Bool} {w : World} {c gp gt : Nat} {X : Array Value} {x : Api.TExit} {S : Nat → Prop} (hq : Q b w) (hk : Keeps w.heap.size Q) (hc : c < w.heap.size) (hgp : w.cell? ⟨gp, 0, none⟩ = some (.func (.func 88) #[] #[.pointer (some ⟨gt, 0, none⟩), .pointer (some ⟨c, 0, none⟩)])) (hgpn : gp ≠ c) (hgpl : gp < w.heap.size)
    (hcall : ∀ (b : Bool) (W : World) (v : Int), Q b W → w.heap.size ≤ W.heap.size → Calls Tryd.prog 88 #[.int .i64 v, .pointer (some ⟨gt, 0, none⟩), .pointer (some ⟨c, 0, none⟩)] W fun e W' => e = .returned (.int .i64 (g v)) ∧ Q (b && fineV g v) W' ∧ Wr W.heap.size c W W' ∧ W'.heap.size = W.heap.size)
    (hx : Rep.cells S w X.toList x) (hS : ∀ k, S k → k < w.heap.size ∧ k ≠ c) (hfew : FewX x) (hgood : GoodX g x) :
    Calls Tryd.prog 89 #[.agg X, .pointer (some ⟨gp, 0, none⟩)] w fun e w' => ∃ cs : List Value, e = .returned (.agg cs.toArray) ∧ Rep.cells (Fresh w w') w' cs (cutExit g x) ∧ Q (b && fineExit g x) w' ∧ Wr w.heap.size c w w' := by
  obtain ⟨a2, c2, a3, c3, hX, hAt, hSteps, ⟨l2, n2, r2⟩, ⟨l3, n3, r3⟩⟩ := api_TExit_cells_eq hx
  obtain ⟨nS, hnS⟩ : ∃ n, n = x.Sets.length := ⟨_, rfl⟩
  obtain ⟨nM, hnM⟩ : ∃ n, n = x.Makes.length := ⟨_, rfl⟩
  rw [← hnS, ← hnM] at hX
  obtain rfl : X = #[.int .i64 x.At, .int .i64 x.Steps, .slice a2 nS c2, .slice a3 nM c3] := by apply Array.ext'; simpa using hX
  have hS9 : nS ≤ 1000000 := by rw [hnS]; exact hfew.sets
  have hM9 : nM ≤ 1000000 := by rw [hnM]; exact hfew.makes
  obtain ⟨w2, hw2⟩ : ∃ w2, w2 = (w.alloc (.cells #[.int .i64 x.At, .int .i64 x.Steps, .slice a2 nS c2, .slice a3 nM c3] 32)).alloc (.cells #[.int .i64 0, .int .i64 0, .slice none 0 0, .slice none 0 0] 32) := ⟨_, rfl⟩
  obtain ⟨k1, k2, hb2, hz2⟩ := rowsTwo w #[.int .i64 x.At, .int .i64 x.Steps, .slice a2 nS c2, .slice a3 nM c3] #[.int .i64 0, .int .i64 0, .slice none 0 0, .slice none 0 0] _ _ w2 hw2
  have p0 := k1.cell (j := 0) rfl; have p1 := k1.cell (j := 1) rfl
  have lp := k1.lt
  have HNS := Lib.hid hnS; have HNM := Lib.hid hnM; have HFEW := Lib.hid hfew; have HGOOD := Lib.hid hgood; have HS := Lib.hid hS; have HK := Lib.hid hk
  have HAT := Lib.hid hAt; have HSTEPS := Lib.hid hSteps
  have HR2 : Hid (∀ W, Wr w.heap.size c w W → Arr S W a2 x.Sets) := fun W h => h.arr r2 hS
  have HR3 : Hid (∀ W, Wr w.heap.size c w W → Arr S W a3 x.Makes) := fun W h => h.arr r3 hS
  have HCALL := Lib.hid hcall
  have HGP : Hid (∀ W, Wr w.heap.size c w W → W.cell? ⟨gp, 0, none⟩ = some (.func (.func 88) #[] #[.pointer (some ⟨gt, 0, none⟩), .pointer (some ⟨c, 0, none⟩)])) := fun W h => (h.cell hgpn hgpl).trans hgp
  have HST : Hid (SetsAt Q g b w c #[.int .i64 x.At, .int .i64 x.Steps, .slice a2 nS c2, .slice a3 nM c3] x (w2.alloc (.cells #[.int .i64 x.At, .int .i64 x.Steps, .slice none 0 0, .slice none 0 0] 32)) (.slice none 0 0) 0) := by
    have hb3 := hb2.alloc hb2.size (.cells #[.int .i64 x.At, .int .i64 x.Steps, .slice none 0 0, .slice none 0 0] 32)
    refine ⟨by simpa [setsB] using hk b w _ hq hb3.block hb3.size, k1.keep (Below.heap_alloc _ _ _ k1.lt), k2.blk.keep (Below.heap_alloc _ _ _ k2.lt), ?_, Own.nil _ _ _ _, .of_below hb3, by simp; omega⟩
    have := blk_new w2 [.int .i64 x.At, .int .i64 x.Steps, .slice none 0 0, .slice none 0 0] 32
    rwa [hz2] at this
  have HZ2 := Lib.hid hz2
  clear hq hk hcall hx hS hfew hgood r2 r3 l2 n2 l3 n3 hX hnS hnM k1 k2 hb2 hAt hSteps
  go_enter Tryd.func89, Tryd.ntmps89
  go_upto_region 1 with fail
  rw [← hw2]
  clear hw2
  go_upto_region 2 with fail
  rw [show w.heap.size + 1 + 1 = w.heap.size + 2 from rfl]
  generalize hW3 : w2.alloc (.cells #[.int .i64 x.At, .int .i64 x.Steps, .slice none 0 0, .slice none 0 0] 32) = w3 at HST ⊢
  have q2 := HST.out.box.cell (j := 2) rfl
  have lp := HST.out.box.lt
  clear hz2 p0 p1 hW3
  go_wp2_with fail
  clear q2 lp HZ2
  go_loopw [20] (fun i W => ∃ (k : Nat) (vs : Value), k ≤ nS ∧ i = .int .i64 k ∧ SetsAt Q g b w c #[.int .i64 x.At, .int .i64 x.Steps, .slice a2 nS c2, .slice a3 nM c3] x W vs k) (fun i _ => nS - (intOf i).toNat)
  case atStart => exact ⟨0, _, Nat.zero_le _, rfl, HST.out⟩
  case round =>
    obtain ⟨k, vs, hk, rfl, hat⟩ := hrel
    have HAT2 := Lib.hid hat
    by_cases hlt : k < nS
    · as_aux_lemma =>
        obtain ⟨s, hs⟩ : ∃ s, x.Sets[k]? = some s := ⟨_, List.getElem?_eq_getElem (by rw [← HNS.out]; exact hlt)⟩
        obtain ⟨bs, os, rfl, hbs, s0, s1, i0, i1⟩ := api_TSet_elem (HR2.out _ hat.wr) hs
        have hbl := (HS.out _ hbs).1
        have hsz := hat.size
        have HSX := Lib.hid hs
        have HI1 := Lib.hid (HGOOD.out.sets s (List.mem_of_getElem? hs)); have HI0 := Lib.hid i0
        clear hbs hs hat i0 i1
        go_upto_region 5 with fail
        generalize hW4 : wr.alloc (.cells #[.int .i64 s.Reg, .int .i64 s.Val] 98) = w4
        have hz4 : w4.heap.size = wr.heap.size + 1 := by rw [← hW4]; simp
        have hrw := row_new wr #[.int .i64 s.Reg, .int .i64 s.Val] 98
        rw [hW4] at hrw
        have HKS : Hid (∀ W, Wr (wr.heap.size + 1) c w4 W → W.cell? ⟨w.heap.size + 2, 2, none⟩ = some vs ∧ W.cell? ⟨wr.heap.size, 0, none⟩ = some (.int .i64 s.Reg) ∧ W.cell? ⟨wr.heap.size, 1, none⟩ = some (.int .i64 s.Val) ∧ W.cell? ⟨gp, 0, none⟩ = some (.func (.func 88) #[] #[.pointer (some ⟨gt, 0, none⟩), .pointer (some ⟨c, 0, none⟩)])) := fun W hw => by
          have h1 := (HAT2.out.called (o := .cells #[.int .i64 s.Reg, .int .i64 s.Val] 98) (by omega) (by omega) (by rw [hW4]; exact hw)).2
          have h2 := hw.row hrw (by omega) (by omega)
          exact ⟨h1.cell (j := 2) rfl, h2.cell (j := 0) rfl, h2.cell (j := 1) rfl, HGP.out W (HAT2.out.wr.trans (.trans (.of_below ((Below.refl _ _).alloc (by omega) _)) (by rw [hW4]; exact hw.mono (by omega))))⟩
        have HQ4 : Hid (Q (b && setsB g x k) w4.drew) := HK.out _ wr _ HAT2.out.q (fun k hk => by
          show w4.heap[k]? = _
          rw [← hW4]
          exact Below.heap_alloc _ _ _ (by omega)) (by show _ ≤ w4.heap.size; omega)
        have HWR0 : Hid (Wr (wr.heap.size + 1) c w4 w4) := Wr.refl _ _ _
        have HC4 := Lib.hid (HCALL.out _ w4.drew s.Val HQ4.out (by show _ ≤ w4.heap.size; omega))
        have HCLD : Hid (∀ w5, Wr (wr.heap.size + 1) c w4 w5 → Own (fun _ => False) w5 (w.heap.size + 3) 98 vs ((x.Sets.take k).map (cutSet g))) := fun w5 hw => (HAT2.out.called (o := .cells #[.int .i64 s.Reg, .int .i64 s.Val] 98) (by omega) (by omega) (by rw [hW4]; exact hw)).1
        have HLEN : Hid (((x.Sets.take k).map (cutSet g)).length ≤ 1000000) := by show _ ≤ _; simp; have := HNS.out; omega
        obtain ⟨d0, d1, d2, dc⟩ := HKS.out w4 HWR0.out
        clear hrw hbl s0 s1
        have HE : Hid (∀ args w, (callFunc 88 args).run Tryd.prog w = .ok (.enter 88 args) w) := Tryd.call88
        refine wp_region_noPanic ?_
        go_region_law (first
          | (refine step_callc (f := 88) (vs := #[.int .i64 s.Val]) (caps := #[.pointer (some ⟨gt, 0, none⟩), .pointer (some ⟨c, 0, none⟩)]) rfl rfl (by simp [Act.eval, Act.put]) (by simp [Act.eval, Act.put]) HE.out HC4.out fun e w5 hp => ?_
             obtain ⟨rfl, hq5, hwr5, hsz5⟩ := hp
             refine ⟨_, rfl, ?_⟩
             have HQ5 := Lib.hid hq5
             have hsz5' : w5.heap.size = wr.heap.size + 1 := hsz5.trans hz4
             have HWR5 : Hid (Wr (wr.heap.size + 1) c w4 w5) := (Wr.refl _ _ _).drew.trans (hwr5.mono (by show _ ≤ w4.heap.size; omega))
             have HO5 := Lib.hid (HCLD.out w5 HWR5.out)
             obtain ⟨t0, t1, t2, t3⟩ := HKS.out w5 HWR5.out
             have t5 := (HKS.out (w5.alloc (.cells #[.int .i64 s.Reg, .int .i64 (g s.Val)] 98)) (HWR5.out.alloc (by omega) _)).1
             clear hq5 hwr5 hsz5)
          | (refine step_append1s (α := Api.TSet) (S := fun _ => False) (B := w.heap.size + 3) (e := 98) (xs := (x.Sets.take k).map (cutSet g)) (y := cutSet g s) (cs := [.int .i64 s.Reg, .int .i64 (g s.Val)]) (w0 := w5) (e' := 98) rfl rfl Tryd.underlying29 Tryd.infoRep29 (by decide) (by decide) (by simp [Act.eval, Act.put]) (g := w5.heap.size) (by simp [Act.eval, Act.put]) rfl rfl HO5.out (set_cells HI0.out HI1.out _ _) (fun _ h => h.elim) (by have := HLEN.out; unfold maxLen; omega) (by have := HLEN.out; omega) (by omega) ?_
             intro v6 w6 hown6 hg6 hst6
             obtain ⟨va, ln, vc, rfl⟩ : ∃ va ln vc, v6 = .slice va ln vc := (by obtain ⟨a, c, h, -⟩ := hown6.arr; exact ⟨a, _, c, h⟩)
             have HN6 := Lib.hid (HAT2.out.step (o := .cells #[.int .i64 s.Reg, .int .i64 s.Val] 98) HK.out hc HSX.out (by rw [hW4]; exact HWR5.out) HQ5.out hown6 hg6)
             have e0 := HN6.out.2.cell (j := 2) rfl
             have e1 := HN6.out.2.frozen 2
             have e2 := HN6.out.2.lt
             clear hown6 hg6 hst6))
        all_goals refine NoPanic.normal ?_
        all_goals
          go_wp2_with fail
          go_roundw
        all_goals first
          | exact ⟨k + 1, _, by omega, by go_num, HN6.out.1⟩
          | (simp [intOf]; omega)
    · have HMK : Hid (MakesAt Q g b w c #[.int .i64 x.At, .int .i64 x.Steps, .slice a2 nS c2, .slice a3 nM c3] x wr.heap.size vs wr (.slice none 0 0) 0) := by
        have e : k = x.Sets.length := by rw [← HNS.out]; omega
        have h := HAT2.out
        rw [e] at h
        exact h.makes
      have q3 := HMK.out.box.cell (j := 3) rfl
      have lp := HMK.out.box.lt
      clear hat
      go_wp2_with fail
      clear q3 lp HAT2 HST
      generalize hN1 : wr.heap.size = n1 at HMK
      clear hN1
      go_loopw [40] (fun i W => ∃ (k : Nat) (vm : Value), k ≤ nM ∧ i = .int .i64 k ∧ MakesAt Q g b w c #[.int .i64 x.At, .int .i64 x.Steps, .slice a2 nS c2, .slice a3 nM c3] x n1 vs W vm k) (fun i _ => nM - (intOf i).toNat)
      case atStart => exact ⟨0, _, Nat.zero_le _, rfl, HMK.out⟩
      case round =>
        obtain ⟨q, vm, hq, rfl, hat⟩ := hrel
        have HAT2 := Lib.hid hat
        by_cases hlt2 : q < nM
        · as_aux_lemma =>
            obtain ⟨m, hm⟩ : ∃ m, x.Makes[q]? = some m := ⟨_, List.getElem?_eq_getElem (by rw [← HNM.out]; exact hlt2)⟩
            obtain ⟨bm, om, aV, cV, rfl, hbm, s0, s1, s2, s3, i0, i1, i2, -, -, rV⟩ := api_TMake_elem (HR3.out _ hat.wr) hm
            obtain ⟨nV, hnV⟩ : ∃ n, n = m.Vals.length := ⟨_, rfl⟩
            rw [← hnV] at s3
            have hbl := (HS.out _ hbm).1
            have hsz := hat.size; have hfar := hat.far
            have HMX := Lib.hid hm; have HNV := Lib.hid hnV
            have hmem := List.mem_of_getElem? hm
            have HI1 := Lib.hid i1; have HI2 := Lib.hid i2
            have HGC := Lib.hid (HGOOD.out.makes m hmem).1; have HGV := Lib.hid (HGOOD.out.makes m hmem).2
            have hV9 : nV ≤ 1000000 := by rw [hnV]; exact HFEW.out.vals m hmem
            have HRV : Hid (∀ W, Wr wr.heap.size c wr W → Arr S W aV m.Vals) := fun W h => h.arr rV fun k hk => ⟨by have := (HS.out k hk).1; omega, (HS.out k hk).2⟩
            clear hbm hm hat i0 i1 i2 rV hnV hmem HR2
            go_upto_region 10 with fail
            generalize hW4 : wr.alloc (.cells #[.int .i64 m.Cell, .int .i64 m.Kind, .int .i64 m.Num, .slice aV nV cV] 100) = w4
            have hz4 : w4.heap.size = wr.heap.size + 1 := by rw [← hW4]; simp
            have hrw := row_new wr #[.int .i64 m.Cell, .int .i64 m.Kind, .int .i64 m.Num, .slice aV nV cV] 100
            rw [hW4] at hrw
            have HKS : Hid (∀ W, Wr (wr.heap.size + 1) c w4 W → W.cell? ⟨wr.heap.size, 0, none⟩ = some (.int .i64 m.Cell) ∧ W.cell? ⟨wr.heap.size, 1, none⟩ = some (.int .i64 m.Kind) ∧ W.cell? ⟨wr.heap.size, 2, none⟩ = some (.int .i64 m.Num) ∧ W.cell? ⟨wr.heap.size, 3, none⟩ = some (.slice aV nV cV) ∧ W.cell? ⟨gp, 0, none⟩ = some (.func (.func 88) #[] #[.pointer (some ⟨gt, 0, none⟩), .pointer (some ⟨c, 0, none⟩)])) := fun W hw => by
              have h2 := hw.row hrw (by omega) (by omega)
              exact ⟨h2.cell (j := 0) rfl, h2.cell (j := 1) rfl, h2.cell (j := 2) rfl, h2.cell (j := 3) rfl, HGP.out W (HAT2.out.wr.trans (.trans (.of_below (by rw [← hW4]; exact (Below.refl _ _).alloc (by omega) _)) (hw.mono (by omega))))⟩
            have HQ4 : Hid (∀ W, Below w4.heap.size w4 W → Q (b && (setsB g x x.Sets.length && makesB g x q)) W) := fun W hb => HK.out _ wr _ HAT2.out.q (fun k hk => (hb.block k (by omega)).trans (by
              rw [← hW4]
              exact Below.heap_alloc _ _ _ (by omega))) (by have := hb.size; omega)
            have HWR0 : Hid (Wr (wr.heap.size + 1) c w4 w4) := Wr.refl _ _ _
            have HC4 : Hid (∀ W, Below w4.heap.size w4 W → Calls Tryd.prog 88 #[.int .i64 m.Cell, .pointer (some ⟨gt, 0, none⟩), .pointer (some ⟨c, 0, none⟩)] W fun e W' => e = .returned (.int .i64 (g m.Cell)) ∧ Q ((b && (setsB g x x.Sets.length && makesB g x q)) && fineV g m.Cell) W' ∧ Wr W.heap.size c W W' ∧ W'.heap.size = W.heap.size) := fun W hb => HCALL.out _ W m.Cell (HQ4.out W hb) (by have := hb.size; omega)
            have HB4 : Hid (Below w4.heap.size w4 w4.drew) := (Below.refl _ _).drew
            have HB4A : Hid (Below w4.heap.size w4 (w4.drew.alloc (.cells #[.int .i64 0, .int .i64 0, .int .i64 0, .slice none 0 0] 100))) := ((Below.refl _ _).drew).alloc (Nat.le_refl _) _
            have HZN : Hid (Blk (w4.drew.alloc (.cells #[.int .i64 0, .int .i64 0, .int .i64 0, .slice none 0 0] 100)) (wr.heap.size + 1) 100 [.int .i64 0, .int .i64 0, .int .i64 0, .slice none 0 0]) := by
              have := blk_new w4.drew [.int .i64 0, .int .i64 0, .int .i64 0, .slice none 0 0] 100
              rwa [show w4.drew.heap.size = wr.heap.size + 1 from hz4] at this
            have HWR4 : Hid (∀ W, Wr (wr.heap.size + 1) c w4 W → Wr wr.heap.size c wr W) := fun W hw => .trans (.of_below (by rw [← hW4]; exact (Below.refl _ _).alloc (Nat.le_refl _) _)) (hw.mono (by omega))
            obtain ⟨d0, d1, d2, d3, dc⟩ := HKS.out w4 HWR0.out
            clear hrw hbl s0 s1 s2 s3 hW4
            have HFIN : Hid (∀ W, Q ((b && (setsB g x x.Sets.length && makesB g x q)) && fineV g m.Cell) W → Wr (wr.heap.size + 1) c w4 W → wr.heap.size + 2 ≤ W.heap.size → Blk W (wr.heap.size + 1) 100 [.int .i64 (g m.Cell), .int .i64 m.Kind, .int .i64 m.Num, .slice none 0 0] →
                ValsAt Q g c wr (b && (setsB g x x.Sets.length && makesB g x q)) m W (.slice none 0 0) 0 ∧ W.cell? ⟨wr.heap.size, 3, none⟩ = some (.slice aV nV cV)) := fun W h1 h2 h3 h4 =>
              ⟨MakesAt.vals (HWR4.out W h2) h3 h1 h4, (HKS.out W h2).2.2.2.1⟩
            go_cut [9] (fun s10 W => s10 = .pointer (some ⟨wr.heap.size + 1, 0, none⟩) ∧ ValsAt Q g c wr (b && (setsB g x x.Sets.length && makesB g x q)) m W (.slice none 0 0) 0 ∧ W.cell? ⟨wr.heap.size, 3, none⟩ = some (.slice aV nV cV))
            case first =>
              as_aux_lemma =>
                go_region_held3 (fun W => W.cell? ⟨wr.heap.size, 0, none⟩ = some (.int .i64 m.Cell) ∧ W.cell? ⟨wr.heap.size, 1, none⟩ = some (.int .i64 m.Kind) ∧ W.cell? ⟨wr.heap.size, 2, none⟩ = some (.int .i64 m.Num) ∧ W.cell? ⟨wr.heap.size, 3, none⟩ = some (.slice aV nV cV) ∧ W.cell? ⟨gp, 0, none⟩ = some (.func (.func 88) #[] #[.pointer (some ⟨gt, 0, none⟩), .pointer (some ⟨c, 0, none⟩)]))
                  (first
                    | exact ⟨d0, d1, d2, d3, dc⟩
                    | exact HKS.out _ (by repeat (first | exact HWR0.out | exact HWR5.out | refine Wr.drew ?_ | refine Wr.alloc ?_ (by first | omega | (simp; omega)) _ | refine Wr.set ?_ (.inr (by first | omega | (simp; omega))) _)))
                  (first
                    | (go_at_call 88; refine (HC4.out _ HB4.out).mono ?_; rintro e w5 ⟨rfl, hq5, hwr5, hsz5⟩; have HQ5 := Lib.hid hq5; have hsz5' : w5.heap.size = wr.heap.size + 1 := hsz5.trans hz4; have HWR5 : Hid (Wr (wr.heap.size + 1) c w4 w5) := (Wr.refl _ _ _).drew.trans (hwr5.mono (by show _ ≤ w4.heap.size; omega)); clear hq5 hwr5 hsz5)
                    | (go_at_call 88; refine (HC4.out _ HB4A.out).mono ?_; rintro e w5 ⟨rfl, hq5, hwr5, hsz5⟩; have HQ5 := Lib.hid hq5; have hsz5' : w5.heap.size = wr.heap.size + 2 := hsz5.trans (by simp; omega); have HWR5 : Hid (Wr (wr.heap.size + 1) c w4 w5) := ((Wr.refl _ _ _).drew.alloc (by show _ ≤ w4.heap.size; omega) _).trans (hwr5.mono (by simp; omega)); have HZ5 := Lib.hid (hwr5.blk HZN.out (by omega) HZN.out.lt); have z0 := HZ5.out.cell (j := 0) rfl; have z1 := HZ5.out.cell (j := 1) rfl; have z2 := HZ5.out.cell (j := 2) rfl; have z3 := HZ5.out.cell (j := 3) rfl; have y0 := HZ5.out.frozen 0; have y1 := HZ5.out.frozen 1; have y2 := HZ5.out.frozen 2; have y3 := HZ5.out.frozen 3; have zl := HZ5.out.lt; clear hq5 hwr5 hsz5))
                · have HF := HFIN.out (w5.alloc (.cells #[.int .i64 (g m.Cell), .int .i64 m.Kind, .int .i64 m.Num, .slice none 0 0] 100)) (HK.out _ w5 _ HQ5.out (fun k hk => Below.heap_alloc _ _ _ (by omega)) (by simp)) (HWR5.out.alloc (by omega) _) (by simp; omega) (by
                    have := blk_new w5 [.int .i64 (g m.Cell), .int .i64 m.Kind, .int .i64 m.Num, .slice none 0 0] 100
                    rwa [hsz5'] at this)
                  go_wp2_with fail
                  go_meet
                  exact ⟨rfl, HF⟩
                · have HF := HFIN.out ((((w5.setCell ⟨wr.heap.size + 1, 0, none⟩ (.int .i64 (g m.Cell))).setCell ⟨wr.heap.size + 1, 1, none⟩ (.int .i64 m.Kind)).setCell ⟨wr.heap.size + 1, 2, none⟩ (.int .i64 m.Num)).setCell ⟨wr.heap.size + 1, 3, none⟩ (.slice none 0 0)) (HK.out _ w5 _ HQ5.out (fun k hk => by
                      rw [blk_setCell_other _ _ _ (by show k ≠ wr.heap.size + 1; omega), blk_setCell_other _ _ _ (by show k ≠ wr.heap.size + 1; omega), blk_setCell_other _ _ _ (by show k ≠ wr.heap.size + 1; omega), blk_setCell_other _ _ _ (by show k ≠ wr.heap.size + 1; omega)]) (by simp only [size_setCell]; omega)) ((((HWR5.out.set (.inr (by omega)) _).set (.inr (by omega)) _).set (.inr (by omega)) _).set (.inr (by omega)) _) (by simp only [size_setCell]; omega) ((((HZ5.out.set 0 _).set 1 _).set 2 _).set 3 _)
                  go_wp2_with fail
                  go_meet
                  exact ⟨rfl, HF⟩
            case rest =>
              obtain ⟨rfl, hva, hc3⟩ := hcut
              obtain ⟨wq, hwq⟩ : ∃ wq : World, wq = wc := ⟨_, rfl⟩
              rw [← hwq] at hva hc3 ⊢
              have HVA := Lib.hid hva
              have hlq : wr.heap.size < wq.heap.size := by have := hva.size; omega
              clear hva hwq d0 d1 d2 d3 dc HFIN HZN HB4A HB4 HC4 HQ4 HKS HWR0 hz4
              go_wp2_with fail
              clear hc3 hlq
              obtain ⟨wo, rfl⟩ : ∃ wo : World, wo = wr := ⟨_, rfl⟩
              go_loopw [56] (fun i W => ∃ (j : Nat) (vv : Value), j ≤ nV ∧ i = .int .i64 j ∧ ValsAt Q g c wo (b && (setsB g x x.Sets.length && makesB g x q)) m W vv j) (fun i _ => nV - (intOf i).toNat)
              case atStart => exact ⟨0, _, Nat.zero_le _, rfl, HVA.out⟩
              case round =>
                obtain ⟨j, vv, hj, rfl, hva⟩ := hrel
                have HVA2 := Lib.hid hva
                by_cases hlt3 : j < nV
                · as_aux_lemma =>
                    obtain ⟨v, hv⟩ : ∃ v, m.Vals[j]? = some v := ⟨_, List.getElem?_eq_getElem (by rw [← HNV.out]; exact hlt3)⟩
                    obtain ⟨bv, ov, cs, rfl, hbv, ⟨rfl, -⟩, g1⟩ := (HRV.out _ hva.wr).at hv
                    have y0 : wr.cell? ⟨bv, ov + j, none⟩ = some (.int .i64 v) := by simpa [show Rep.sz Int = 1 from rfl] using g1 0 Nat.zero_lt_one
                    have hbl := (HS.out _ hbv).1
                    have hsz2 := hva.size
                    have hszr := hva.wr.size
                    have c3 := hva.new.cell (j := 3) rfl
                    have lN := hva.new.lt
                    have HVX := Lib.hid hv
                    have HIV := Lib.hid (HGV.out v (List.mem_of_getElem? hv))
                    have HQ4 : Hid (Q ((b && (setsB g x x.Sets.length && makesB g x q)) && valsB g m j) wr.drew) := HK.out _ wr _ hva.q (fun k hk => rfl) (Nat.le_refl _)
                    have HC4 := Lib.hid (HCALL.out _ wr.drew v HQ4.out (by show _ ≤ wr.heap.size; omega))
                    have HCLD : Hid (∀ w5, Wr wr.heap.size c wr w5 → Own (fun _ => False) w5 (wo.heap.size + 2) 3 vv ((m.Vals.take j).map g) ∧ w5.cell? ⟨wo.heap.size + 1, 3, none⟩ = some vv ∧ w5.cell? ⟨gp, 0, none⟩ = some (.func (.func 88) #[] #[.pointer (some ⟨gt, 0, none⟩), .pointer (some ⟨c, 0, none⟩)])) := fun w5 hw => by
                      obtain ⟨h1, h2⟩ := HVA2.out.called (by omega) hw
                      exact ⟨h1, h2.cell (j := 3) rfl, HGP.out w5 (HAT2.out.wr.trans ((HVA2.out.wr.trans (hw.mono (by omega))).mono (by omega)))⟩
                    have cg := HGP.out wr (HAT2.out.wr.trans (hva.wr.mono (by omega)))
                    have HLEN : Hid (((m.Vals.take j).map g).length ≤ 1000000) := by show _ ≤ _; simp; omega
                    have HE : Hid (∀ args w, (callFunc 88 args).run Tryd.prog w = .ok (.enter 88 args) w) := Tryd.call88
                    clear hva hv hbv g1
                    go_upto_region 14 with fail
                    refine wp_region_noPanic ?_
                    go_region_law (first
                      | (refine step_callc (f := 88) (vs := #[.int .i64 v]) (caps := #[.pointer (some ⟨gt, 0, none⟩), .pointer (some ⟨c, 0, none⟩)]) rfl rfl (by simp [Act.eval, Act.put]) (by simp [Act.eval, Act.put]) HE.out HC4.out fun e w5 hp => ?_
                         obtain ⟨rfl, hq5, hwr5, hsz5⟩ := hp
                         refine ⟨_, rfl, ?_⟩
                         have HQ5 := Lib.hid hq5
                         have hsz5' : w5.heap.size = wr.heap.size := hsz5
                         have HWR5 : Hid (Wr wr.heap.size c wr w5) := (Wr.refl _ _ _).drew.trans hwr5
                         obtain ⟨ho5, t0, t0c⟩ := HCLD.out w5 HWR5.out
                         have HO5 := Lib.hid ho5
                         obtain ⟨-, t5, t5c⟩ := HCLD.out (w5.alloc (.cells #[.int .i64 (g v)] 3)) (HWR5.out.alloc (by omega) _)
                         clear hq5 hwr5 hsz5 ho5)
                      | (refine step_append1s (α := Int) (S := fun _ => False) (B := wo.heap.size + 2) (e := 3) (xs := (m.Vals.take j).map g) (y := g v) (cs := [.int .i64 (g v)]) (w0 := w5) (e' := 3) rfl rfl Tryd.underlying58 Tryd.infoRep58 (by decide) (by decide) (by simp [Act.eval, Act.put]) (g := w5.heap.size) (by simp [Act.eval, Act.put]) rfl rfl HO5.out ⟨rfl, HIV.out⟩ (fun _ h => h.elim) (by have := HLEN.out; unfold maxLen; omega) (by have := HLEN.out; omega) (by omega) ?_
                         intro v6 w6 hown6 hg6 hst6
                         obtain ⟨va, ln, vc, rfl⟩ : ∃ va ln vc, v6 = .slice va ln vc := (by obtain ⟨a, c, h, -⟩ := hown6.arr; exact ⟨a, _, c, h⟩)
                         have HN6 := Lib.hid (HVA2.out.step HK.out (by omega) (by omega) HVX.out HWR5.out HQ5.out hown6 hg6)
                         have e0 := HN6.out.2.cell (j := 3) rfl
                         have e1 := HN6.out.2.frozen 3
                         have e2 := HN6.out.2.lt
                         clear hown6 hg6 hst6))
                    all_goals refine NoPanic.normal ?_
                    all_goals
                      go_wp2_with fail
                      go_roundw
                    all_goals first
                      | exact ⟨j + 1, _, by omega, by go_num, HN6.out.1⟩
                      | (simp [intOf]; omega)
                · obtain rfl : j = nV := by omega
                  have HVF : Hid (ValsAt Q g c wo (b && (setsB g x x.Sets.length && makesB g x q)) m wr vv m.Vals.length) := by have := HVA2.out; rwa [HNV.out] at this
                  obtain ⟨hO, hC, hB⟩ := HAT2.out.ready (by omega) HGC.out HI1.out HI2.out HVF.out
                  have HO := Lib.hid hO; have HC := Lib.hid hC
                  have b3 := hB.cell (j := 3) rfl
                  have lB := hB.lt
                  have m0 := HVF.out.new.cell (j := 0) rfl; have m1 := HVF.out.new.cell (j := 1) rfl; have m2 := HVF.out.new.cell (j := 2) rfl; have m3 := HVF.out.new.cell (j := 3) rfl
                  have lM := HVF.out.new.lt
                  have hszr := HVF.out.wr.size
                  have HLEN : Hid (((x.Makes.take q).map (cutMake g)).length ≤ 1000000) := by show _ ≤ _; simp; omega
                  have HSBF : Hid (∀ k, SB n1 wr vm k → k < wr.heap.size ∧ vm.ownBlock ≠ some k) := fun k hk => ⟨hk.2.1, hk.2.2⟩
                  clear hva hO hC hB
                  go_wp2_with (at_builtin; (with_reducible refine Tryd.wp_appd30 (S := SB n1 wr vm) (v := vm) rfl rfl (by with_unfolding_all rfl) rfl rfl (by first | rfl | simp) HO.out HC.out HSBF.out (by have := HLEN.out; omega) (by omega) fun v6 w6 hown6 hg6 hst6 => ?_); obtain ⟨va, ln, vc, rfl⟩ : ∃ va ln vc, v6 = .slice va ln vc := (by obtain ⟨a, c, h, -⟩ := hown6.arr; exact ⟨a, _, c, h⟩); have HN6 := Lib.hid (HAT2.out.step HK.out hc HMX.out HVF.out hown6 hg6 hst6); have e0 := HN6.out.2.cell (j := 3) rfl; have e1 := HN6.out.2.frozen 3; have e2 := HN6.out.2.lt; clear hown6 hg6 hst6)
                  go_roundw
                  case rel => exact ⟨q + 1, _, by omega, by go_num, HN6.out.1⟩
                  case measure => simp [intOf]; omega
        · have HDN : Hid (MakesAt Q g b w c #[.int .i64 x.At, .int .i64 x.Steps, .slice a2 nS c2, .slice a3 nM c3] x n1 vs wr vm x.Makes.length) := by
            have e : q = x.Makes.length := by rw [← HNM.out]; omega
            have h := HAT2.out
            rwa [e] at h
          obtain ⟨hqf, hrep⟩ := HDN.out.done HAT.out HSTEPS.out
          have HQF := Lib.hid hqf; have HREP := Lib.hid hrep
          have c0 := HDN.out.out.cell (j := 0) rfl; have c1 := HDN.out.out.cell (j := 1) rfl; have c2 := HDN.out.out.cell (j := 2) rfl; have c3 := HDN.out.out.cell (j := 3) rfl
          have r0 := HDN.out.res.cell (j := 0) rfl; have r1 := HDN.out.res.cell (j := 1) rfl; have r2 := HDN.out.res.cell (j := 2) rfl; have r3 := HDN.out.res.cell (j := 3) rfl
          have f0 := HDN.out.res.frozen 0; have f1 := HDN.out.res.frozen 1; have f2 := HDN.out.res.frozen 2; have f3 := HDN.out.res.frozen 3
          have l0 := HDN.out.out.lt; have l1 := HDN.out.res.lt
          obtain ⟨sa, sn, sc, rfl⟩ : ∃ sa sn sc, vs = .slice sa sn sc := (by obtain ⟨a, c, h, -⟩ := HDN.out.sets; exact ⟨a, _, c, by simpa using h⟩)
          obtain ⟨ma, mn, mc, rfl⟩ : ∃ sa sn sc, vm = .slice sa sn sc := (by obtain ⟨a, c, h, -⟩ := HDN.out.own.arr; exact ⟨a, _, c, h⟩)
          clear hat hqf hrep
          go_wp2_with fail
          have HYB : Hid (Blk (wr.setCells (w.heap.size + 1) 0 [.int .i64 x.At, .int .i64 x.Steps, .slice sa sn sc, .slice ma mn mc]) (w.heap.size + 1) 32 [.int .i64 x.At, .int .i64 x.Steps, .slice sa sn sc, .slice ma mn mc]) := (((HDN.out.res.set 0 _).set 1 _).set 2 _).set 3 _
          have hne : ∀ k, k ≠ w.heap.size + 1 → (wr.setCells (w.heap.size + 1) 0 [.int .i64 x.At, .int .i64 x.Steps, .slice sa sn sc, .slice ma mn mc]).heap[k]? = wr.heap[k]? := fun k hk => heap_setCells_ne _ _ _ _ _ hk
          have hss : (wr.setCells (w.heap.size + 1) 0 [.int .i64 x.At, .int .i64 x.Steps, .slice sa sn sc, .slice ma mn mc]).heap.size = wr.heap.size := heap_setCells_size _ _ _ _
          (try simp only [Exit.inBlock, Exit.then])
          refine bodyPost_ret (results_cell_row rfl _ _ _ _ _ _ _ rfl HYB.out Tryd.underlying32 rfl rfl) rfl ⟨_, rfl, ?_, ?_, ?_⟩
          · exact Rep.mono (fun k hk => ⟨by have := hk.1; omega, by show k < (wr.setCells (w.heap.size + 1) 0 [.int .i64 x.At, .int .i64 x.Steps, .slice sa sn sc, .slice ma mn mc]).heap.size; rw [hss]; exact hk.2⟩) (Rep.keep (fun k hk => hne k (by have := hk.1; omega)) HREP.out)
          · exact HK.out _ wr _ HQF.out (fun k hk => hne k (by omega)) (Nat.le_of_eq hss.symm)
          · exact HDN.out.wr.grown (grownBy_setCells (g := w.heap.size + 1) [.int .i64 x.At, .int .i64 x.Steps, .slice sa sn sc, .slice ma mn mc] 0 wr (World.grownBy.refl _ _)) HDN.out.wr.size (fun k hk => by cases hk; omega)
end Go.Proofs.YtekofpigmggbbaaDoor.cut
