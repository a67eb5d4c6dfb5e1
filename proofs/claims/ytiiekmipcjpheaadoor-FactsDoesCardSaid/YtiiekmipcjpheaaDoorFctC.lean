/- facts.Do: walked. -/
import Derived.Test.YtiiekmipcjpheaaDoorFctB
import Derived.Test.YtiiekmipcjpheaaDoorPass
set_option linter.unusedVariables false
set_option linter.unusedSimpArgs false
namespace Go.Proofs.YtiiekmipcjpheaaDoor.fct
open Go.Bk Go.RowKit Go.Proofs.YtiiekmipcjpheaaDoor.ir Go.Proofs.YtiiekmipcjpheaaDoor.chk Go.Proofs.YtiiekmipcjpheaaDoor.cut Go.Proofs.YtiiekmipcjpheaaDoor.pas
attribute [local go_sem ↓] Go.wp_at_zero Go.wp_at_succ

/-- The first k numbers made. -/
def factL (t : Api.TTrace) (n k : Nat) : List Int := (List.range n).map fun j => if j < k then factAt t j else 0
theorem factL_zero (t : Api.TTrace) (n : Nat) : factL t n 0 = List.replicate n 0 := by
  apply List.ext_getElem
  · simp [factL]
  · intro i h1 h2
    simp [factL]
theorem factL_len (t : Api.TTrace) (n k : Nat) : (factL t n k).length = n := by simp [factL]
theorem factL_at {t : Api.TTrace} {n k j : Nat} (h : j < n) : ∃ v, (factL t n k)[j]? = some v := ⟨_, List.getElem?_eq_getElem (by rw [factL_len]; exact h)⟩
theorem factL_set {t : Api.TTrace} {n k : Nat} : (factL t n k).set k (factAt t k) = factL t n (k + 1) := by
  apply List.ext_getElem
  · simp [factL]
  · intro i h1 h2
    rw [List.getElem_set]
    by_cases h : k = i
    · subst h
      simp [factL]
    · rw [if_neg h]
      simp only [factL, List.getElem_map, List.getElem_range]
      by_cases h3 : i < k
      · rw [if_pos h3, if_pos (by omega)]
      · rw [if_neg h3, if_neg (by omega)]
theorem factL_all (t : Api.TTrace) : factL t t.Ins.length t.Ins.length = factsTo t := by
  unfold factL factsTo
  apply List.map_congr_left
  intro j hj
  rw [if_pos (by simpa using hj)]
theorem factAt_yes {t : Api.TTrace} {k : Nat} {x : Api.TIns} (hx : t.Ins[k]? = some x) (h : saidB t k x = true) : factAt t k = -1 := by
  unfold factAt
  rw [hx]
  dsimp only
  rw [if_pos h]
theorem factAt_no {t : Api.TTrace} {k : Nat} {x : Api.TIns} (hx : t.Ins[k]? = some x) (h : saidB t k x = false) : factAt t k = k := by
  unfold factAt
  rw [hx]
  dsimp only
  rw [if_neg (by rw [h]; decide)]
theorem facts_right {t : Api.TTrace} : toRight t (factsTo t) = true := by
  unfold toRight
  rw [factsTo_len, factsTo_ok]
  simp
theorem facts_i64 {t : Api.TTrace} (h : t.Ins.length ≤ 300) : ∀ z ∈ factsTo t, I64 z := by
  intro z hz
  simp only [factsTo, List.mem_map, List.mem_range] at hz
  obtain ⟨j, hj, rfl⟩ := hz
  rcases factAt_cases t j with h1 | h1 <;> rw [h1] <;> unfold I64 <;> omega
theorem rows3z (w : World) (o1 o2 o3 : Array Value) (t1 t2 t3 : TypeId) (W : World) (hW : W = ((w.alloc (.cells o1 t1)).alloc (.cells o2 t2)).alloc (.cells o3 t3)) : W.heap.size = w.heap.size + 3 := by rw [hW]; simp
set_option maxRecDepth 100000 in
set_option maxHeartbeats 4000000 in
theorem fdo_any {S : Nat → Prop} {w : World} {P T : Array Value} {p : Api.Prog} {t : Api.TTrace} (hp : Rep.cells S w P.toList p) (ht : Rep.cells S w T.toList t) (hS : ∀ b, S b → b < w.heap.size) (hA : cod.Asc w) :
    Calls Tryd.prog 32 #[.agg P, .agg T] w (PassOut w (doG p t (factsTo t))) := by
  obtain ⟨a0, nF, c0, hP⟩ := pin_of hp
  obtain ⟨aI, nI, cI, hT⟩ := tin_of ht
  have hsP := hP.size
  have hsT := hT.size
  have hI9 := hT.few
  obtain ⟨w1, hw1⟩ : ∃ w1, w1 = ((w.alloc (.cells P 26)).alloc (.cells T 34)).alloc (.cells #[.int .i64 0, .int .i64 0, .int .i64 0, .slice none 0 0, .slice none 0 0, .int .i64 0, .int .i64 0, .slice none 0 0, .slice none 0 0, .int .i64 0, .int .i64 0, .slice none 0 0, .slice none 0 0] 34) := ⟨_, rfl⟩
  obtain ⟨rP, rT, rC, hb1⟩ := rows3 w P T #[.int .i64 0, .int .i64 0, .int .i64 0, .slice none 0 0, .slice none 0 0, .int .i64 0, .int .i64 0, .slice none 0 0, .slice none 0 0, .int .i64 0, .int .i64 0, .slice none 0 0, .slice none 0 0] _ _ _ w1 hw1
  have hz1 := rows3z w P T #[.int .i64 0, .int .i64 0, .int .i64 0, .slice none 0 0, .slice none 0 0, .int .i64 0, .int .i64 0, .slice none 0 0, .slice none 0 0, .int .i64 0, .int .i64 0, .slice none 0 0, .slice none 0 0] _ _ _ w1 hw1
  have HRP := Lib.hid rP; have HRT := Lib.hid rT
  have HRS : Hid (Row w1 (w.heap.size + 2) 34 zeroTL.toArray) := rC
  have HB1 := Lib.hid hb1
  have hk : ∀ b, S b → w1.heap[b]? = w.heap[b]? := fun b hb' => hb1.block b (hS b hb')
  have HTE : Hid (Rep.cells S w1 T.toList t) := Rep.keep hk ht
  have HDOM := Lib.hid hS
  have HC3 := Lib.hid hT.c3; have HLI := Lib.hid hT.len
  obtain ⟨q, hq⟩ : ∃ q, q = chkAll p t := ⟨_, rfl⟩
  have HIC : Hid (Calls Tryd.prog 21 #[.agg P, .agg T] w1 fun e w' => e = .returned (.int .i64 q) ∧ Below w1.heap.size w1 w') := by
    rw [hq]
    exact icheck_any (Rep.keep hk hp) (Rep.keep hk ht) (fun b hb' => Nat.lt_of_lt_of_le (hS b hb') hb1.size) (hA.keep hb1)
  have HZO : Hid ((zeroTL.toArray).all (·.oneCell') = true) := by show _ = _; simp [zeroTL, Value.oneCell']
  obtain ⟨g, hg⟩ : ∃ g, g = doG p t (factsTo t) := ⟨_, rfl⟩
  rw [← hg]
  have HG := Lib.hid hg
  obtain ⟨gt, ge⟩ := g
  by_cases hq0 : q = 0
  case neg =>
    have hgg : (gt, ge) = (zeroT, q) := by rw [hg, doG_no (by rw [← hq]; exact hq0), hq]
    obtain ⟨rfl, rfl⟩ : gt = zeroT ∧ ge = q := by injection hgg with h1 h2; exact ⟨h1, h2⟩
    have hne : (ge != 0) = true := by simpa using hq0
    clear hP hT hp ht hS hA rP rT rC hb1 hk hq hg hgg hq0 HG
    go_enter Tryd.func32, Tryd.ntmps32
    go_upto_region 1 with fail
    rw [← hw1, show w.heap.size + 1 + 1 = w.heap.size + 2 from rfl]
    clear hw1
    go_wp2_with (first
      | (with_reducible refine ldP rfl rfl rfl HRP.out hsP ?_)
      | (with_reducible refine ldT rfl rfl rfl HRT.out hsT ?_)
      | (go_at_call 21; (with_reducible refine HIC.out.mono ?_); rintro e w2 ⟨rfl, hb2⟩; have HB2 := Lib.hid hb2; have HRS2 := Lib.hid (HRS.out.keep (hb2.block _ HRS.out.lt)); clear hb2)
      | (with_reducible refine stT (OLD := zeroTL.toArray) (C := zeroTL.toArray) rfl rfl rfl rfl HRS2.out rfl rfl HZO.out ?_))
    have HYB : Hid (Row (w2.setRow (w.heap.size + 2) zeroTL.toArray) (w.heap.size + 2) 34 zeroTL.toArray) := setRow_heap _ _ _ _ _ _ HRS2.out
    (try simp only [Exit.inBlock, Exit.then])
    refine bodyPost_ret (results_cell_slot rfl _ _ _ _ _ _ _ rfl rfl HYB.out Tryd.underlying34 rfl rfl) rfl ?_
    unfold PassOut
    exact ⟨zeroTL.toArray, rfl, HZO.out, rfl, zero_cells _ _, below_setRow (HB1.out.trans (HB2.out.mono HB1.out.size)) (by omega) _⟩
  case pos =>
    have h0 : chkAll p t = 0 := by rw [← hq]; exact hq0
    have hr := right_all h0
    have hgg : (gt, ge) = (cutT t (factsTo t), 0) := by rw [hg, doG_yes h0]
    obtain ⟨hgt, rfl⟩ : gt = cutT t (factsTo t) ∧ ge = 0 := by injection hgg with h1 h2; exact ⟨h1, h2⟩
    have HGT := Lib.hid hgt
    have HR := Lib.hid hr
    have hfi : nI ≤ 300 := by rw [← hT.len]; exact hr.few
    subst hq0
    clear hP hT hp ht hS hA rP rT rC hb1 hk hq hg hgg hgt h0 hr HG
    go_enter Tryd.func32, Tryd.ntmps32
    go_upto_region 1 with fail
    rw [← hw1, show w.heap.size + 1 + 1 = w.heap.size + 2 from rfl]
    clear hw1
    go_upto_region 4 with (first
      | (with_reducible refine ldP rfl rfl rfl HRP.out hsP ?_)
      | (with_reducible refine ldT rfl rfl rfl HRT.out hsT ?_)
      | (go_at_call 21; (with_reducible refine HIC.out.mono ?_); rintro e w2 ⟨rfl, hb2⟩; have HB2 := Lib.hid hb2; clear hb2))
    have hl2 := HB2.out.size
    have hrt2 : Row w2 (w.heap.size + 1) 34 T := HRT.out.keep (HB2.out.block _ HRT.out.lt)
    have t3 := hrt2.cell HC3.out
    have l3 := hrt2.lt
    clear hrt2
    go_wp2_with (with_reducible refine wp_make (n := nI) rfl rfl Tryd.underlying35 Tryd.info3 rfl rfl rfl (by omega) (by unfold maxLen; omega) fun w5 hblk hbel hsz => ?_; have HBK := Lib.hid hblk; have HB5 := Lib.hid hbel; clear hblk hbel)
    clear t3 l3
    have HNL : Hid (NL S w T t w2.heap.size (factL t nI 0) w5) := by
      have hb : Below w1.heap.size w1 w5 := HB2.out.trans (HB5.out.mono HB2.out.size)
      refine ⟨HRT.out.keep (hb.block _ HRT.out.lt), HRS.out.keep (hb.block _ HRS.out.lt), ?_, Rep.keep (fun b hb' => hb.block b (by have := HDOM.out b hb'; omega)) HTE.out, HDOM.out, HB1.out.trans (hb.mono HB1.out.size), by omega⟩
      rw [factL_zero, List.map_replicate]
      exact HBK.out
    generalize w2.heap.size = gm at HNL ⊢
    clear hsz HBK HB5 hl2
    go_loopw [22] (fun i W => ∃ k : Nat, k ≤ nI ∧ i = .int .i64 k ∧ NL S w T t gm (factL t nI k) W) (fun i _ => nI - (intOf i).toNat)
    case atStart => exact ⟨0, Nat.zero_le _, rfl, HNL.out⟩
    case round =>
      obtain ⟨k, hk, rfl, hnl⟩ := hrel
      have HN := Lib.hid hnl
      by_cases hlt : k < nI
      · as_aux_lemma =>
          obtain ⟨x, hx⟩ : ∃ x, t.Ins[k]? = some x := ⟨_, List.getElem?_eq_getElem (by rw [HLI.out]; exact hlt)⟩
          obtain ⟨v, hv⟩ := factL_at (t := t) (n := nI) (k := k) hlt
          obtain ⟨m0, m1, m2⟩ := hnl.at' hv
          have hki : (k : Int) < (nI : Int) := by omega
          have HX := Lib.hid hx
          have HN1 := Lib.hid (HN.out.set k (k : Int))
          clear hx hv hnl
          go_upto_region 9 with fail
          generalize hW6 : wr.setCell ⟨gm, k, none⟩ (.int .i64 (k : Int)) = w6 at HN1 ⊢
          obtain ⟨b, hb⟩ : ∃ b, b = saidB t k x := ⟨_, rfl⟩
          have HSD : Hid (Calls Tryd.prog 78 #[.agg T, .int .i64 k] w6 fun e w' => e = .returned (.bool b) ∧ Below w6.heap.size w6 w') := by
            rw [hb]
            exact fsaid_any HN1.out.ret (fun b hb' => Nat.lt_of_lt_of_le (HN1.out.dom b hb') HN1.out.below.size) HR.out HX.out
          have HRT6 : Hid (Row w6 (w.heap.size + 1) 34 T) := HN1.out.rt
          have HBV := Lib.hid hb
          have hkl : k < (factL t nI k).length := by rw [factL_len]; exact hlt
          have HV1 : Hid (((factL t nI k).set k (k : Int))[k]? = some (k : Int)) := by show _ = _; rw [List.getElem?_set_self hkl]
          clear hW6 hb m0 m1 m2 hkl
          cases b with
          | false =>
            have HL : Hid ((factL t nI k).set k (k : Int) = factL t nI (k + 1)) := by show _ = _; rw [← factL_set, factAt_no HX.out HBV.out.symm]
            go_wp2_with (first
              | (with_reducible refine ldT rfl rfl rfl HRT6.out hsT ?_)
              | (go_at_call 78; (with_reducible refine HSD.out.mono ?_); rintro e w7 ⟨rfl, hb7⟩; have HN7 := Lib.hid (HN1.out.call hb7); clear hb7))
            go_roundw
            case rel => exact ⟨k + 1, by omega, by go_num, by rw [← HL.out]; exact HN7.out⟩
            case measure => simp [intOf]; omega
          | true =>
            have HL : Hid (((factL t nI k).set k (k : Int)).set k (-1) = factL t nI (k + 1)) := by show _ = _; rw [List.set_set, ← factL_set, factAt_yes HX.out HBV.out.symm]
            go_wp2_with (first
              | (with_reducible refine ldT rfl rfl rfl HRT6.out hsT ?_)
              | (go_at_call 78; (with_reducible refine HSD.out.mono ?_); rintro e w7 ⟨rfl, hb7⟩; have hn7 := HN1.out.call hb7; have HN7 := Lib.hid hn7; obtain ⟨m0, m1, m2⟩ := hn7.at' HV1.out; clear hb7 hn7))
            go_roundw
            case rel => exact ⟨k + 1, by omega, by go_num, by rw [← HL.out]; exact HN7.out.set k (-1)⟩
            case measure => simp [intOf]; omega
      · as_aux_lemma =>
          obtain rfl : k = nI := by omega
          have HLL : Hid (factL t k k = factsTo t) := by show _ = _; rw [← HLI.out]; exact factL_all t
          have HRTR : Hid (Row wr (w.heap.size + 1) 34 T) := hnl.rt
          have HCUT : Hid (Calls Tryd.prog 12 #[.agg T, .slice (some ⟨gm, 0, none⟩) k k] wr (PassOut wr (cutT t (factsTo t), 0))) := by
            have hto : Blk wr gm 3 ((factsTo t).map (Value.int .i64)) := by rw [← HLL.out]; exact hnl.nums
            have hl := factsTo_len t
            exact icut_out (R := fun b => b = gm) hnl.ret (fun b hb' => Nat.lt_of_lt_of_le (hnl.dom b hb') hnl.below.size) (hto.arr (facts_i64 HR.out.few) (by rw [hl, HLI.out]; unfold maxLen; omega) rfl) (fun b hb' => by rw [hb']; exact hto.lt) (by rw [hl, HLI.out]) HR.out facts_right (facts_fine HR.out)
          clear hnl hlt
          go_wp2_with (first
            | (with_reducible refine ldT rfl rfl rfl HRTR.out hsT ?_)
            | (go_at_call 12; (with_reducible refine HCUT.out.mono ?_); rintro e w7 ⟨C, hC1, hC2, rfl, hr7, hb7⟩; have HC1 := Lib.hid hC1; have HC2 := Lib.hid hC2; have HR7 := Lib.hid hr7; have HB7 := Lib.hid hb7; have HS7 := Lib.hid (HN.out.call hb7).res; clear hC1 hC2 hr7 hb7)
            | (with_reducible refine stT (OLD := zeroTL.toArray) (C := C) rfl rfl rfl rfl HS7.out HC1.out rfl HC2.out ?_))
          have HYB : Hid (Row (w7.setRow (w.heap.size + 2) C) (w.heap.size + 2) 34 C) := setRow_heap _ _ _ _ _ _ HS7.out
          (try simp only [Exit.inBlock, Exit.then])
          have hfar := HN.out.far; have hgm := HN.out.nums.lt
          refine bodyPost_ret (results_cell_slot rfl _ _ _ _ _ _ _ rfl rfl HYB.out Tryd.underlying34 rfl (infoT HC1.out)) rfl ?_
          unfold PassOut
          refine ⟨C, HC1.out, HC2.out, rfl, ?_, below_setRow (HN.out.below.trans (HB7.out.mono HN.out.below.size)) (by omega) _⟩
          show Rep.cells _ _ _ gt
          rw [HGT.out]
          have hss : (w7.setRow (w.heap.size + 2) C).heap.size = w7.heap.size := by simp [World.setRow]
          exact Rep.mono (fun j hj => ⟨Nat.le_trans HN.out.below.size hj.1, by rw [hss]; exact hj.2⟩) (Rep.keep (fun j hj => setRow_other _ _ _ _ (by have := hj.1; omega)) HR7.out)
end Go.Proofs.YtiiekmipcjpheaaDoor.fct
