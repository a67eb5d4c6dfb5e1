/- The document's Facts: walked. -/
import Derived.Test.YtiiekmipcjpheaaDoorFctC
import Derived.Test.YtiiekmipcjpheaaDoorFctE
set_option linter.unusedVariables false
set_option linter.unusedSimpArgs false
namespace Go.Proofs.YtiiekmipcjpheaaDoor.fct
open Go.Bk Go.RowKit Go.Proofs.YtiiekmipcjpheaaDoor.ir Go.Proofs.YtiiekmipcjpheaaDoor.chk Go.Proofs.YtiiekmipcjpheaaDoor.cut Go.Proofs.YtiiekmipcjpheaaDoor.pas
attribute [local go_sem ↓] Go.wp_at_zero Go.wp_at_succ

/-- The first k numbers turned. -/
def factI (t : Api.TTrace) (n k : Nat) : List Int := (List.range n).map fun j => if j < k then factAt t j else (j : Int)
theorem factI_zero (t : Api.TTrace) (n : Nat) : factI t n 0 = idTo n := by
  unfold factI idTo
  apply List.map_congr_left
  intro j hj
  rw [if_neg (by omega)]
theorem factI_len (t : Api.TTrace) (n k : Nat) : (factI t n k).length = n := by simp [factI]
theorem factI_at {t : Api.TTrace} {n k : Nat} (h : k < n) : (factI t n k)[k]? = some (k : Int) := by simp [factI, h]
theorem factI_set {t : Api.TTrace} {n k : Nat} : (factI t n k).set k (factAt t k) = factI t n (k + 1) := by
  apply List.ext_getElem
  · simp [factI]
  · intro i h1 h2
    rw [List.getElem_set]
    by_cases h : k = i
    · subst h
      simp [factI]
    · rw [if_neg h]
      simp only [factI, List.getElem_map, List.getElem_range]
      by_cases h3 : i < k
      · rw [if_pos h3, if_pos (by omega)]
      · rw [if_neg h3, if_neg (by omega)]
theorem factI_same {t : Api.TTrace} {n k : Nat} (h : factAt t k = k) : factI t n (k + 1) = factI t n k := by
  rw [← factI_set]
  apply List.ext_getElem
  · simp [factI]
  · intro i h1 h2
    rw [List.getElem_set]
    by_cases h3 : k = i
    · subst h3
      simp [factI, h]
    · rw [if_neg h3]
theorem factI_all (t : Api.TTrace) : factI t t.Ins.length t.Ins.length = factsTo t := by
  unfold factI factsTo
  apply List.map_congr_left
  intro j hj
  rw [if_pos (by simpa using hj)]
/-- What is known while the numbers are turned. -/
structure FL (S : Nat → Prop) (w : World) (T : Array Value) (t : Api.TTrace) (v : Value) (l : List Int) (W : World) : Prop where
  rt : Row W w.heap.size 34 T
  res : Row W (w.heap.size + 1) 34 zeroTL.toArray
  nums : Own (fun _ => False) W (w.heap.size + 3) 3 v l
  ret : Rep.cells S W T.toList t
  dom : ∀ b, S b → b < w.heap.size
  below : Below w.heap.size w W
theorem FL.call {S : Nat → Prop} {w W W' : World} {T : Array Value} {t : Api.TTrace} {v : Value} {l : List Int} (h : FL S w T t v l W) (hb : Below W.heap.size W W') : FL S w T t v l W' :=
  ⟨h.rt.keep (hb.block _ h.rt.lt), h.res.keep (hb.block _ h.res.lt), h.nums.below hb (fun _ h => h.elim), Rep.keep (fun b hb' => hb.block b (Nat.lt_of_lt_of_le (h.dom b hb') h.below.size)) h.ret, h.dom, h.below.trans (hb.mono h.below.size)⟩
theorem FL.set {S : Nat → Prop} {w W : World} {T : Array Value} {t : Api.TTrace} {v : Value} {l : List Int} (h : FL S w T t v l W) {k : Nat} {x : Int} (hx : l[k]? = some x) : ∃ g cap, v = .slice (some ⟨g, 0, none⟩) l.length cap ∧ g < W.heap.size ∧ W.cell? ⟨g, k, none⟩ = some (.int .i64 x) ∧ (∀ j, W.frozen? ⟨g, j, none⟩ = false) ∧ ∀ y, I64 y → FL S w T t v (l.set k y) (W.setCell ⟨g, k, none⟩ (.int .i64 y)) := by
  obtain ⟨g, cap, cs, h1, h2, h3, h4, ⟨rfl, hi⟩, h6, h7, h8⟩ := h.nums.at hx
  have h6' : W.cell? ⟨g, k, none⟩ = some (.int .i64 x) := by simpa [show Rep.sz Int = 1 from rfl] using h6 0 Nat.zero_lt_one
  refine ⟨g, cap, h1, h3, h6', h7, fun y hy => ?_⟩
  have hk : ∀ j, j ≠ g → (W.setCell ⟨g, k, none⟩ (.int .i64 y)).heap[j]? = W.heap[j]? := fun j hj => blk_setCell_other _ _ _ hj
  refine ⟨h.rt.keep (hk _ (by omega)), h.res.keep (hk _ (by omega)), ?_, Rep.keep (fun b hb' => hk b (by have := h.dom b hb'; omega)) h.ret, h.dom, below_set h.below (by omega)⟩
  have := h8 0 (.int .i64 y) y Nat.zero_lt_one (fun _ h => h.elim) ⟨rfl, hy⟩
  simpa [show Rep.sz Int = 1 from rfl] using this
set_option maxRecDepth 100000 in
set_option maxHeartbeats 4000000 in
theorem rfacts_any {S : Nat → Prop} {w : World} {T : Array Value} {t : Api.TTrace} (ht : Rep.cells S w T.toList t) (hS : ∀ b, S b → b < w.heap.size) (hr : RightT t) (hkd : KindsR t.Ins) :
    Calls Tryd.prog 33 #[.agg T] w (RefOut w (cutT t (factsTo t))) := by
  obtain ⟨aI, nI, cI, hT⟩ := tin_of ht
  have hsT := hT.size
  have hI9 := hT.few
  have hfi : nI ≤ 300 := by rw [← hT.len]; exact hr.few
  obtain ⟨w1, hw1⟩ : ∃ w1, w1 = (w.alloc (.cells T 34)).alloc (.cells #[.int .i64 0, .int .i64 0, .int .i64 0, .slice none 0 0, .slice none 0 0, .int .i64 0, .int .i64 0, .slice none 0 0, .slice none 0 0, .int .i64 0, .int .i64 0, .slice none 0 0, .slice none 0 0] 34) := ⟨_, rfl⟩
  obtain ⟨rT, rC, hb1, hz1⟩ := rows2 w T #[.int .i64 0, .int .i64 0, .int .i64 0, .slice none 0 0, .slice none 0 0, .int .i64 0, .int .i64 0, .slice none 0 0, .slice none 0 0, .int .i64 0, .int .i64 0, .slice none 0 0, .slice none 0 0] _ _ w1 hw1
  have HRT := Lib.hid rT
  have HRS : Hid (Row w1 (w.heap.size + 1) 34 zeroTL.toArray) := rC
  have HB1 := Lib.hid hb1
  have hk : ∀ b, S b → w1.heap[b]? = w.heap[b]? := fun b hb' => hb1.block b (hS b hb')
  have HTE : Hid (Rep.cells S w1 T.toList t) := Rep.keep hk ht
  have HDOM := Lib.hid hS
  have HC3 := Lib.hid hT.c3; have HLI := Lib.hid hT.len
  have HR := Lib.hid hr; have HKD := Lib.hid hkd
  have HS0 : Hid (Calls Tryd.prog 54 #[.agg T] w1 fun e w' => ∃ v, e = .returned v ∧ Own (fun _ => False) w' (w1.heap.size + 1) 3 v (idTo t.Ins.length) ∧ Below w1.heap.size w1 w') := same0_any HTE.out (fun b hb' => Nat.lt_of_lt_of_le (hS b hb') hb1.size) (by rw [hT.len]; omega)
  have HZ1 : Hid (w1.heap.size = w.heap.size + 2) := hz1
  clear hT ht hS rT rC hb1 hk hr hkd hz1
  go_enter Tryd.func33, Tryd.ntmps33
  go_upto_region 1 with fail
  rw [← hw1]
  clear hw1
  go_upto_region 2 with (first
    | (with_reducible refine ldT rfl rfl rfl HRT.out hsT ?_)
    | (go_at_call 54; (with_reducible refine HS0.out.mono ?_); rintro e w2 ⟨v, rfl, ho2, hb2⟩; have HO2 := Lib.hid ho2; have HB2 := Lib.hid hb2; clear ho2 hb2))
  have HFL : Hid (FL S w T t v (factI t nI 0) w2) := by
    have hb := HB2.out
    have ho := HO2.out
    rw [HZ1.out] at ho
    refine ⟨HRT.out.keep (hb.block _ HRT.out.lt), HRS.out.keep (hb.block _ HRS.out.lt), ?_, Rep.keep (fun b hb' => hb.block b (Nat.lt_of_lt_of_le (HDOM.out b hb') HB1.out.size)) HTE.out, HDOM.out, HB1.out.trans (hb.mono HB1.out.size)⟩
    rw [factI_zero, ← HLI.out]
    exact ho
  have t3 := HFL.out.rt.cell HC3.out
  have l3 := HFL.out.rt.lt
  clear HO2 HB2 HS0
  go_wp2_with fail
  clear t3 l3
  go_loopw [12] (fun i W => ∃ k : Nat, k ≤ nI ∧ i = .int .i64 k ∧ FL S w T t v (factI t nI k) W) (fun i _ => nI - (intOf i).toNat)
  case atStart => exact ⟨0, Nat.zero_le _, rfl, HFL.out⟩
  case round =>
    obtain ⟨k, hk, rfl, hfl⟩ := hrel
    have HF := Lib.hid hfl
    by_cases hlt : k < nI
    · as_aux_lemma =>
        obtain ⟨x, hx⟩ : ∃ x, t.Ins[k]? = some x := ⟨_, List.getElem?_eq_getElem (by rw [HLI.out]; exact hlt)⟩
        have HX := Lib.hid hx
        obtain ⟨b, hb⟩ : ∃ b, b = saidB t k x := ⟨_, rfl⟩
        have HSD : Hid (Calls Tryd.prog 79 #[.agg T, .int .i64 k] wr fun e w' => e = .returned (.bool b) ∧ Below wr.heap.size wr w') := by
          rw [hb]
          exact rsaid_any hfl.ret (fun b hb' => Nat.lt_of_lt_of_le (hfl.dom b hb') hfl.below.size) HR.out HKD.out hx
        have HRTR : Hid (Row wr w.heap.size 34 T) := hfl.rt
        have HBV := Lib.hid hb
        clear hx hb hfl
        cases b with
        | false =>
          have HL : Hid (factI t nI (k + 1) = factI t nI k) := factI_same (factAt_no HX.out HBV.out.symm)
          go_wp2_with (first
            | (with_reducible refine ldT rfl rfl rfl HRTR.out hsT ?_)
            | (go_at_call 79; (with_reducible refine HSD.out.mono ?_); rintro e w7 ⟨rfl, hb7⟩; have HF7 := Lib.hid (HF.out.call hb7); clear hb7))
          go_roundw
          case rel => exact ⟨k + 1, by omega, by go_num, by rw [HL.out]; exact HF7.out⟩
          case measure => simp [intOf]; omega
        | true =>
          have HL : Hid ((factI t nI k).set k (-1) = factI t nI (k + 1)) := by show _ = _; rw [← factI_set, factAt_yes HX.out HBV.out.symm]
          have HLN : Hid ((factI t nI k).length = nI) := factI_len t nI k
          obtain ⟨g, cap, hv, -⟩ := HF.out.set (factI_at (t := t) hlt)
          rw [HLN.out] at hv
          have hkn : (k : Int) < (nI : Int) := by omega
          have HFS : Hid (∀ W, Below wr.heap.size wr W → g < W.heap.size ∧ W.cell? ⟨g, k, none⟩ = some (.int .i64 k) ∧ (∀ j, W.frozen? ⟨g, j, none⟩ = false) ∧ FL S w T t v (factI t nI (k + 1)) (W.setCell ⟨g, k, none⟩ (.int .i64 (-1)))) := fun W hb => by
            obtain ⟨g2, cap2, hv2, h3, h4, h5, h6⟩ := (HF.out.call hb).set (factI_at (t := t) hlt)
            have hgg : g2 = g := by rw [hv] at hv2; injection hv2 with e; injection e with e; injection e with e1 e2; exact e1.symm
            subst hgg
            have := h6 (-1) (by unfold I64; omega)
            rw [HL.out] at this
            exact ⟨h3, h4, h5, this⟩
          have HV := Lib.hid hv
          clear HL HLN hlt
          subst hv
          go_wp2_with (first
            | (with_reducible refine ldT rfl rfl rfl HRTR.out hsT ?_)
            | (go_at_call 79; (with_reducible refine HSD.out.mono ?_); rintro e w7 ⟨rfl, hb7⟩; obtain ⟨m0, m1, m2, hf7⟩ := HFS.out w7 hb7; have HF7 := Lib.hid hf7; clear hb7 hf7))
          go_roundw
          case rel => exact ⟨k + 1, by omega, by go_num, HF7.out⟩
          case measure => simp [intOf]; omega
    · as_aux_lemma =>
        obtain rfl : k = nI := by omega
        have HLL : Hid (factI t k k = factsTo t) := by show _ = _; rw [← HLI.out]; exact factI_all t
        have hl := factsTo_len t
        obtain ⟨a, cap, hv, -, -, harr⟩ := hfl.nums.arr
        rw [HLL.out] at hv harr
        obtain ⟨n9, hn9⟩ : ∃ n, n = (factsTo t).length := ⟨_, rfl⟩
        rw [← hn9] at hv
        have HRTR : Hid (Row wr w.heap.size 34 T) := hfl.rt
        have HCUT : Hid (Calls Tryd.prog 13 #[.agg T, .slice a n9 cap] wr fun e w' => ∃ C : Array Value, C.size = 13 ∧ C.all (·.oneCell') = true ∧ e = .returned (.tuple #[.agg C, .bool true]) ∧ Rep.cells (Fresh wr w') w' C.toList (cutT t (factsTo t)) ∧ Below wr.heap.size wr w') :=
          rcut_out hfl.ret (fun b hb' => Nat.lt_of_lt_of_le (hfl.dom b hb') hfl.below.size) harr (fun b hb' => hb'.elim False.elim (·.2)) hn9.symm HR.out hl (by rw [hl]; exact factsTo_ok t) (facts_fine HR.out)
        have HV := Lib.hid hv
        subst hv
        clear hfl hlt harr hn9 hl
        go_wp2_with (first
          | (with_reducible refine ldT rfl rfl rfl HRTR.out hsT ?_)
          | (go_at_call 13; (with_reducible refine HCUT.out.mono ?_); rintro e w7 ⟨C, hC1, hC2, rfl, hr7, hb7⟩; have HC1 := Lib.hid hC1; have HC2 := Lib.hid hC2; have HR7 := Lib.hid hr7; have HB7 := Lib.hid hb7; have HS7 := Lib.hid (HF.out.call hb7).res; have HO7 : Hid (Row (w7.alloc (.cells #[.int .i64 0, .int .i64 0, .int .i64 0, .slice none 0 0, .slice none 0 0, .int .i64 0, .int .i64 0, .slice none 0 0, .slice none 0 0, .int .i64 0, .int .i64 0, .slice none 0 0, .slice none 0 0] 34)) w7.heap.size 34 #[.int .i64 0, .int .i64 0, .int .i64 0, .slice none 0 0, .slice none 0 0, .int .i64 0, .int .i64 0, .slice none 0 0, .slice none 0 0, .int .i64 0, .int .i64 0, .slice none 0 0, .slice none 0 0]) := row_new _ _ _; have HX7 : Hid (Row ((w7.alloc (.cells #[.int .i64 0, .int .i64 0, .int .i64 0, .slice none 0 0, .slice none 0 0, .int .i64 0, .int .i64 0, .slice none 0 0, .slice none 0 0, .int .i64 0, .int .i64 0, .slice none 0 0, .slice none 0 0] 34)).setRow w7.heap.size C) w7.heap.size 34 C) := setRow_heap _ _ _ _ _ _ HO7.out; have HY7 : Hid (Row ((w7.alloc (.cells #[.int .i64 0, .int .i64 0, .int .i64 0, .slice none 0 0, .slice none 0 0, .int .i64 0, .int .i64 0, .slice none 0 0, .slice none 0 0, .int .i64 0, .int .i64 0, .slice none 0 0, .slice none 0 0] 34)).setRow w7.heap.size C) (w.heap.size + 1) 34 zeroTL.toArray) := (HS7.out.keep (Below.heap_alloc _ _ _ HS7.out.lt)).keep (setRow_other _ _ _ _ (by have := HS7.out.lt; omega)); clear hC1 hC2 hr7 hb7)
          | (with_reducible refine stT (OLD := #[.int .i64 0, .int .i64 0, .int .i64 0, .slice none 0 0, .slice none 0 0, .int .i64 0, .int .i64 0, .slice none 0 0, .slice none 0 0, .int .i64 0, .int .i64 0, .slice none 0 0, .slice none 0 0]) (C := C) rfl rfl rfl rfl HO7.out HC1.out rfl HC2.out ?_)
          | (with_reducible refine ldT rfl rfl rfl HX7.out HC1.out ?_)
          | (with_reducible refine stT (OLD := zeroTL.toArray) (C := C) rfl rfl rfl rfl HY7.out HC1.out rfl HC2.out ?_))
        have HYB : Hid (Row (((w7.alloc (.cells #[.int .i64 0, .int .i64 0, .int .i64 0, .slice none 0 0, .slice none 0 0, .int .i64 0, .int .i64 0, .slice none 0 0, .slice none 0 0, .int .i64 0, .int .i64 0, .slice none 0 0, .slice none 0 0] 34)).setRow w7.heap.size C).setRow (w.heap.size + 1) C) (w.heap.size + 1) 34 C) := setRow_heap _ _ _ _ _ _ HY7.out
        (try simp only [Exit.inBlock, Exit.then])
        have hs7 := HF.out.below.size; have hs8 := HB7.out.size
        refine bodyPost_ret (results_cell_row rfl _ _ _ _ _ _ _ rfl HYB.out Tryd.underlying34 rfl (infoT HC1.out)) rfl ?_
        unfold RefOut
        refine ⟨C, HC1.out, HC2.out, rfl, ?_, below_setRow (below_setRow ((HF.out.below.trans (HB7.out.mono HF.out.below.size)).alloc (by omega) _) (by omega) _) (by omega) _⟩
        have hss : (((w7.alloc (.cells #[.int .i64 0, .int .i64 0, .int .i64 0, .slice none 0 0, .slice none 0 0, .int .i64 0, .int .i64 0, .slice none 0 0, .slice none 0 0, .int .i64 0, .int .i64 0, .slice none 0 0, .slice none 0 0] 34)).setRow w7.heap.size C).setRow (w.heap.size + 1) C).heap.size = w7.heap.size + 1 := by simp [World.setRow]
        exact Rep.mono (fun j hj => ⟨Nat.le_trans hs7 hj.1, by rw [hss]; have := hj.2; omega⟩) (Rep.keep (fun j hj => (setRow_other _ _ _ _ (by have := hj.1; have := HS7.out.lt; have := HF.out.res.lt; omega)).trans ((setRow_other _ _ _ _ (by have := hj.2; omega)).trans (Below.heap_alloc _ _ _ hj.2))) HR7.out)
end Go.Proofs.YtiiekmipcjpheaaDoor.fct
