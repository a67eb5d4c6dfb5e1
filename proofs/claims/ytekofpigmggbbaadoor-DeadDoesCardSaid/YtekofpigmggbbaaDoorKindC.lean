/- ir.own, ir.Kind: walked. -/
import Derived.Test.YtekofpigmggbbaaDoorChkPlain
import Derived.Test.YtekofpigmggbbaaDoorChkE
import Derived.Deep.CutBlock
set_option linter.unusedVariables false
set_option linter.unusedSimpArgs false
namespace Go.Proofs.YtekofpigmggbbaaDoor.chk
open Go.Bk Go.RowKit Go.Proofs.YtekofpigmggbbaaDoor.ir
theorem tins_all {S : Nat → Prop} {w : World} {b o : Nat} {xs : List Api.TIns} (h : Arr S w (some ⟨b, o, none⟩) xs) {k : Nat} {x : Api.TIns} (hk : xs[k]? = some x) :
 w.cell? ⟨b, o + k * 8, none⟩ = some (.int .i64 x.Op) ∧ w.cell? ⟨b, o + k * 8 + 1, none⟩ = some (.int .i64 x.A) ∧ w.cell? ⟨b, o + k * 8 + 2, none⟩ = some (.int .i64 x.B) ∧ w.cell? ⟨b, o + k * 8 + 3, none⟩ = some (.int .i64 x.C) ∧ w.cell? ⟨b, o + k * 8 + 4, none⟩ = some (.int .i64 x.N) ∧ w.cell? ⟨b, o + k * 8 + 5, none⟩ = some (.int .i64 x.Exit) ∧ w.cell? ⟨b, o + k * 8 + 6, none⟩ = some (.int .i64 x.K.Kind) ∧ w.cell? ⟨b, o + k * 8 + 7, none⟩ = some (.int .i64 x.K.N) := by
 obtain ⟨b2, o2, he, -, h0, h1, h2, h3, h4, h5, h6, h7, -⟩ := api_TIns_elem h hk
 injection he with he
 injection he with e1 e2
 subst e1 e2
 exact ⟨h0, h1, h2, h3, h4, h5, h6, h7⟩
set_option maxRecDepth 100000 in
set_option maxHeartbeats 1000000 in
theorem own_any {S : Nat → Prop} {w : World} {T : Array Value} {t : Api.TTrace} {k : Nat} {x : Api.TIns} {r : Int} (ht : Rep.cells S w T.toList t) (hS : ∀ b, S b → b < w.heap.size) (hx : t.Ins[k]? = some x)
 (hr : ∀ W, Below w.heap.size w W → Calls Tryd.prog 102 #[.agg T, .int .i64 x.A, .int .i64 k] W fun e w' => e = .returned (.int .i64 r) ∧ Below W.heap.size W w') :
 Calls Tryd.prog 137 #[.agg T, .int .i64 k] w fun e w' => e = .returned (.int .i64 (ownK r x)) ∧ Below w.heap.size w w' := by
 obtain ⟨aI, nI, cI, hT⟩ := tin_of ht
 have hsT := hT.size
 have hlI : (k : Int) < (nI : Int) := by have := (List.getElem?_eq_some_iff.1 hx).1; rw [hT.len] at this; omega
 obtain ⟨w1, hw1⟩ : ∃ w1, w1 = w.alloc (.cells T 34) := ⟨_, rfl⟩
 have hb1 : Below w.heap.size w w1 := by rw [hw1]; exact cod.below_al2 _
 have r1 := row_new w T 34
 rw [← hw1] at r1
 obtain ⟨bi, oi, he, hSi⟩ : ∃ bi oi, aI = some ⟨bi, oi, none⟩ ∧ S bi := by
  obtain ⟨b, o, h1, h2, -⟩ := api_TIns_elem hT.ins hx
  exact ⟨b, o, h1, h2⟩
 subst he
 obtain ⟨i0, i1, i2, i3, i4, i5, i6, i7⟩ := tins_all (hT.ins.keep (w' := w1) fun b hb => hb1.block b (hS b hb)) hx
 have hbi : bi < w1.heap.size := Nat.lt_of_lt_of_le (hS bi hSi) hb1.size
 obtain ⟨op, iA, iB, iC, iN, iE, ⟨kK, kN⟩⟩ := x
 dsimp only at i0 i1 i2 i3 i4 i5 i6 i7 hr
 obtain ⟨w2, hw2⟩ : ∃ w2, w2 = w1.alloc (.cells #[.int .i64 op, .int .i64 iA, .int .i64 iB, .int .i64 iC, .int .i64 iN, .int .i64 iE, .int .i64 kK, .int .i64 kN] 43) := ⟨_, rfl⟩
 have h12 : Below w1.heap.size w1 w2 := by rw [hw2]; exact cod.below_al2 _
 have r2 := row_new w1 #[.int .i64 op, .int .i64 iA, .int .i64 iB, .int .i64 iC, .int .i64 iN, .int .i64 iE, .int .i64 kK, .int .i64 kN] 43
 rw [← hw2] at r2
 have HB2 : Hid (Below w.heap.size w w2) := hb1.trans (h12.mono hb1.size)
 have HRT : Hid (Row w2 w.heap.size 34 T) := r1.keep (h12.block _ r1.lt)
 have HKR : Hid (Calls Tryd.prog 102 #[.agg T, .int .i64 iA, .int .i64 k] w2 fun e w' => e = .returned (.int .i64 r) ∧ Below w.heap.size w w') := (hr w2 HB2.out).mono fun e w' ⟨he, hb⟩ => ⟨he, HB2.out.trans (hb.mono HB2.out.size)⟩
 have q3 := r1.cell hT.c3
 have l1 := r1.lt
 have z0 := r2.cell (j := 0) rfl; have z1 := r2.cell (j := 1) rfl; have z4 := r2.cell (j := 4) rfl; have z6 := r2.cell (j := 6) rfl
 have l2 := r2.lt
 clear ht hS hx hr hT hb1 r1 hSi h12 r2
 go_enter Tryd.func137, Tryd.ntmps137
 go_upto_region 1 with fail
 rw [← hw1]
 clear hw1
 go_upto_region 2 with fail
 rw [← hw2]
 clear hw2 q3 l1 i0 i1 i2 i3 i4 i5 i6 i7 hbi
 generalize w1.heap.size = gI at z0 z1 z4 z6 l2 ⊢
 have HO : Hid (ownK r ⟨op, iA, iB, iC, iN, iE, ⟨kK, kN⟩⟩ = if op = 2 then kK
 else if op = 15 then 2
 else if op = 16 ∨ op = 18 then 5
 else if op = 7 ∨ op = 8 then
  if (8 ≤ iN ∧ iN ≤ 10 ∧ op = 7) ∨ (iN = 11 ∧ op = 8) then 1
  else if r = 2 ∨ r = 3 then r
  else -1
 else -1) := rfl
 obtain ⟨res, hres⟩ : ∃ q, q = ownK r ⟨op, iA, iB, iC, iN, iE, ⟨kK, kN⟩⟩ := ⟨_, rfl⟩
 have HRS := Lib.hid hres.symm
 rw [← hres] at HO
 clear hres
 by_cases o2 : op = 2
 · have HF : Hid (res = kK) := by show _ = _; rw [HO.out, if_pos o2]
   subst o2
   go_wp2_with fail
   go_ret
   exact ⟨by rw [HRS.out, HF.out]; rfl, HB2.out⟩
 have n2 : (op == 2) = false := by simpa using o2
 by_cases o15 : op = 15
 · have HF : Hid (res = 2) := by show _ = _; rw [HO.out, if_neg o2, if_pos o15]
   subst o15
   go_wp2_with fail
   go_ret
   exact ⟨by rw [HRS.out, HF.out]; rfl, HB2.out⟩
 have n15 : (op == 15) = false := by simpa using o15
 by_cases o16 : op = 16 ∨ op = 18
 · have HF : Hid (res = 5) := by show _ = _; rw [HO.out, if_neg o2, if_neg o15, if_pos o16]
   rcases o16 with rfl | rfl
   all_goals
    go_wp2_with fail
    go_ret
    exact ⟨by rw [HRS.out, HF.out]; rfl, HB2.out⟩
 have n16 : (op == 16) = false := by simp; omega
 have n18 : (op == 18) = false := by simp; omega
 by_cases o7 : op = 7 ∨ op = 8
 · have HO2 : Hid (res = if (8 ≤ iN ∧ iN ≤ 10 ∧ op = 7) ∨ (iN = 11 ∧ op = 8) then 1 else if r = 2 ∨ r = 3 then r else -1) := by show _ = _; rw [HO.out, if_neg o2, if_neg o15, if_neg o16, if_pos o7]
   clear HO n2 n15 n16 n18
   -- where the test says no
   have HNO : Hid (¬ ((8 ≤ iN ∧ iN ≤ 10 ∧ op = 7) ∨ (iN = 11 ∧ op = 8)) → res = if r = 2 ∨ r = 3 then r else -1) := fun h => by rw [HO2.out, if_neg h]
   have HYES : Hid (((8 ≤ iN ∧ iN ≤ 10 ∧ op = 7) ∨ (iN = 11 ∧ op = 8)) → res = 1) := fun h => by rw [HO2.out, if_pos h]
   have key : ((op = 7 ∧ decide (8 ≤ iN) = true ∧ decide (iN ≤ 10) = true) ∨ (op = 8 ∧ (iN == 11) = true ∧ decide (8 ≤ iN) = true ∧ decide (iN ≤ 10) = false)) ∨
    ((op = 7 ∧ decide (8 ≤ iN) = false ∧ (iN == 11) = false) ∨ (op = 7 ∧ decide (8 ≤ iN) = true ∧ decide (iN ≤ 10) = false ∧ (iN == 11) = false) ∨ (op = 7 ∧ decide (8 ≤ iN) = true ∧ decide (iN ≤ 10) = false ∧ (iN == 11) = true) ∨
     (op = 8 ∧ decide (8 ≤ iN) = false ∧ (iN == 11) = false) ∨ (op = 8 ∧ decide (8 ≤ iN) = true ∧ decide (iN ≤ 10) = false ∧ (iN == 11) = false) ∨ (op = 8 ∧ decide (8 ≤ iN) = true ∧ decide (iN ≤ 10) = true ∧ (iN == 11) = false)) := by
    simp only [decide_eq_true_eq, decide_eq_false_iff_not, beq_iff_eq, beq_eq_false_iff_ne, ne_eq]
    omega
   rcases key with hy | hn
   · have HF : Hid (res = 1) := by
      refine HYES.out ?_
      simp only [decide_eq_true_eq, decide_eq_false_iff_not, beq_iff_eq, beq_eq_false_iff_ne, ne_eq] at hy
      omega
     clear HYES HNO HO2 o7 o2 o15 o16
     rcases hy with ⟨rfl, e1, e2⟩ | ⟨rfl, e0, e1, e2⟩
     all_goals
      go_wp2_with fail
      go_ret
      exact ⟨by rw [HRS.out, HF.out]; rfl, HB2.out⟩
   · have HF : Hid (res = if r = 2 ∨ r = 3 then r else -1) := by
      refine HNO.out ?_
      simp only [decide_eq_true_eq, decide_eq_false_iff_not, beq_iff_eq, beq_eq_false_iff_ne, ne_eq] at hn
      omega
     clear HYES HNO HO2 o7 o2 o15 o16
     have hr3 : (r = 2) ∨ ((r == 2) = false ∧ r = 3) ∨ ((r == 2) = false ∧ (r == 3) = false) := by
      simp only [beq_eq_false_iff_ne, ne_eq]
      omega
     rcases hr3 with rfl | ⟨q1, rfl⟩ | ⟨q1, q2⟩
     · have HF2 : Hid (res = 2) := by show _ = _; rw [HF.out]; rfl
       rcases hn with ⟨rfl, e1, e2⟩ | ⟨rfl, e1, e2, e3⟩ | ⟨rfl, e1, e2, e3⟩ | ⟨rfl, e1, e2⟩ | ⟨rfl, e1, e2, e3⟩ | ⟨rfl, e1, e2, e3⟩
       all_goals
        go_wp2_with (first
         | (with_reducible refine ldT rfl rfl rfl HRT.out hsT ?_)
         | (go_at_call 102; (with_reducible refine HKR.out.mono ?_); rintro e w3 ⟨rfl, hb3⟩; have HB3 := Lib.hid hb3; clear hb3))
        go_ret
        exact ⟨by rw [HRS.out, HF2.out]; rfl, HB3.out⟩
     · have HF2 : Hid (res = 3) := by show _ = _; rw [HF.out]; rfl
       rcases hn with ⟨rfl, e1, e2⟩ | ⟨rfl, e1, e2, e3⟩ | ⟨rfl, e1, e2, e3⟩ | ⟨rfl, e1, e2⟩ | ⟨rfl, e1, e2, e3⟩ | ⟨rfl, e1, e2, e3⟩
       all_goals
        go_wp2_with (first
         | (with_reducible refine ldT rfl rfl rfl HRT.out hsT ?_)
         | (go_at_call 102; (with_reducible refine HKR.out.mono ?_); rintro e w3 ⟨rfl, hb3⟩; have HB3 := Lib.hid hb3; clear hb3))
        go_ret
        exact ⟨by rw [HRS.out, HF2.out]; rfl, HB3.out⟩
     · have HF2 : Hid (res = -1) := by
        show _ = _
        rw [HF.out, if_neg (by simp only [beq_eq_false_iff_ne, ne_eq] at q1 q2; omega)]
       rcases hn with ⟨rfl, e1, e2⟩ | ⟨rfl, e1, e2, e3⟩ | ⟨rfl, e1, e2, e3⟩ | ⟨rfl, e1, e2⟩ | ⟨rfl, e1, e2, e3⟩ | ⟨rfl, e1, e2, e3⟩
       all_goals
        go_wp2_with (first
         | (with_reducible refine ldT rfl rfl rfl HRT.out hsT ?_)
         | (go_at_call 102; (with_reducible refine HKR.out.mono ?_); rintro e w3 ⟨rfl, hb3⟩; have HB3 := Lib.hid hb3; clear hb3))
        go_ret
        exact ⟨by rw [HRS.out, HF2.out]; rfl, HB3.out⟩
 · have HF : Hid (res = -1) := by show _ = _; rw [HO.out, if_neg o2, if_neg o15, if_neg o16, if_neg o7]
   have n7 : (op == 7) = false := by simp; omega
   have n8 : (op == 8) = false := by simp; omega
   clear HO o2 o15 o16 o7
   go_wp2_with fail
   go_ret
   exact ⟨by rw [HRS.out, HF.out]; rfl, HB2.out⟩
end Go.Proofs.YtekofpigmggbbaaDoor.chk
/- ir.Kind: walked. -/
namespace Go.Proofs.YtekofpigmggbbaaDoor.chk
open Go.Bk Go.RowKit Go.Proofs.YtekofpigmggbbaaDoor.ir
theorem upK_step {ins : List Api.TIns} {v : Int} {i hi : Nat} {y : Api.TIns} (hy : ins[i]? = some y) (hl : lookK v y = none) (h : i < hi) : upK ins v i (hi - i) = upK ins v (i + 1) (hi - (i + 1)) := by
 obtain ⟨n, hn⟩ : ∃ n, hi - i = n + 1 := ⟨hi - i - 1, by omega⟩
 rw [hn]
 show (match atK ins v i with | some k => some k | none => upK ins v (i + 1) n) = _
 have : atK ins v i = none := by unfold atK; rw [hy]; exact hl
 rw [this, show hi - (i + 1) = n by omega]
theorem upK_hit {ins : List Api.TIns} {v : Int} {i hi : Nat} {y : Api.TIns} {k : Int} (hy : ins[i]? = some y) (hl : lookK v y = some k) (h : i < hi) : upK ins v i (hi - i) = some k := by
 obtain ⟨n, hn⟩ : ∃ n, hi - i = n + 1 := ⟨hi - i - 1, by omega⟩
 rw [hn]
 show (match atK ins v i with | some k => some k | none => upK ins v (i + 1) n) = _
 have : atK ins v i = some k := by unfold atK; rw [hy]; exact hl
 rw [this]
theorem upK_end {ins : List Api.TIns} {v : Int} {i hi : Nat} (h : hi ≤ i) : upK ins v i (hi - i) = none := by
 rw [show hi - i = 0 by omega]; rfl
set_option maxRecDepth 100000 in
set_option maxHeartbeats 1000000 in
theorem kind_any : ∀ (n : Nat) (S : Nat → Prop) (w : World) (T : Array Value) (t : Api.TTrace) (ht : Rep.cells S w T.toList t) (hS : ∀ b, S b → b < w.heap.size) (v at' : Int) (hv : v.toNat < n ∨ v < 0 ∨ at' ≤ v ∨ (t.Ins.length : Int) < at'),
 Calls Tryd.prog 102 #[.agg T, .int .i64 v, .int .i64 at'] w fun e w' => e = .returned (.int .i64 (kindG t.Ins (fun _ => -1) n v at')) ∧ Below w.heap.size w w' := by
 intro n
 induction n with
 | zero =>
   intro S w T t ht hS v at' hv
   obtain ⟨aI, nI, cI, hT⟩ := tin_of ht
   rw [kindG_bad (by omega)]
   have hbad : v < 0 ∨ at' ≤ v ∨ (nI : Int) < at' := by rw [← hT.len]; omega
   have hsT := hT.size
   have hfew := hT.few
   obtain ⟨w1, hw1⟩ : ∃ w1, w1 = w.alloc (.cells T 34) := ⟨_, rfl⟩
   have HB1 : Hid (Below w.heap.size w w1) := by show Below _ _ _; rw [hw1]; exact cod.below_al2 _
   have r1 := row_new w T 34
   rw [← hw1] at r1
   have q3 := r1.cell hT.c3
   have l1 := r1.lt
   clear ht hS hT r1 hv
   go_enter Tryd.func102, Tryd.ntmps102
   go_upto_region 1 with fail
   rw [← hw1]
   clear hw1
   rcases (show decide (v < 0) = true ∨ (decide (v < 0) = false ∧ decide (at' ≤ v) = true) ∨ (decide (v < 0) = false ∧ decide (at' ≤ v) = false ∧ decide ((nI : Int) < at') = true) by
    simp only [decide_eq_true_eq, decide_eq_false_iff_not]
    omega) with e1 | ⟨e1, e2⟩ | ⟨e1, e2, e3⟩
   all_goals
    clear hbad
    go_wp2_with fail
    go_ret
    exact ⟨rfl, HB1.out⟩
 | succ n ih =>
   intro S w T t ht hS v at' hv
   have HIH := Lib.hid ih
   obtain ⟨aI, nI, cI, hT⟩ := tin_of ht
   have hsT := hT.size
   have hfew := hT.few
   obtain ⟨w1, hw1⟩ : ∃ w1, w1 = w.alloc (.cells T 34) := ⟨_, rfl⟩
   have hb1 : Below w.heap.size w w1 := by rw [hw1]; exact cod.below_al2 _
   have HB1 := Lib.hid hb1
   have r1 := row_new w T 34
   rw [← hw1] at r1
   have q3 := r1.cell hT.c3
   have l1 := r1.lt
   clear ih
   by_cases hbad : v < 0 ∨ at' ≤ v ∨ (nI : Int) < at'
   · rw [kindG_bad (by rw [hT.len]; exact hbad)]
     clear ht hS hT r1 hb1 hv HIH
     go_enter Tryd.func102, Tryd.ntmps102
     go_upto_region 1 with fail
     rw [← hw1]
     clear hw1
     rcases (show decide (v < 0) = true ∨ (decide (v < 0) = false ∧ decide (at' ≤ v) = true) ∨ (decide (v < 0) = false ∧ decide (at' ≤ v) = false ∧ decide ((nI : Int) < at') = true) by
      simp only [decide_eq_true_eq, decide_eq_false_iff_not]
      omega) with e1 | ⟨e1, e2⟩ | ⟨e1, e2, e3⟩
     all_goals
      clear hbad
      go_wp2_with fail
      go_ret
      exact ⟨rfl, HB1.out⟩
   · obtain ⟨k, rfl⟩ : ∃ k : Nat, v = k := ⟨v.toNat, by omega⟩
     obtain ⟨hi, rfl⟩ : ∃ hi : Nat, at' = hi := ⟨at'.toNat, by omega⟩
     obtain ⟨x, hx⟩ : ∃ x, t.Ins[k]? = some x := ⟨_, List.getElem?_eq_getElem (by rw [hT.len]; omega)⟩
     have HKG : Hid (kindG t.Ins (fun _ => -1) (n + 1) k hi = if tellsOf x.Op = false then -1
      else if 0 ≤ ownK (kindG t.Ins (fun _ => -1) n x.A k) x then ownK (kindG t.Ins (fun _ => -1) n x.A k) x
      else match upK t.Ins k (k + 1) (hi - (k + 1)) with
       | some q => q
       | none => -1) := by
      show _ = _
      rw [kindG_at (by omega) (by rw [hT.len]; omega) hx]
      rfl
     obtain ⟨res, hres⟩ : ∃ q, q = kindG t.Ins (fun _ => -1) (n + 1) k hi := ⟨_, rfl⟩
     rw [← hres] at HKG ⊢
     obtain ⟨bi, oi, he, hSi⟩ : ∃ bi oi, aI = some ⟨bi, oi, none⟩ ∧ S bi := by
      obtain ⟨b, o, h1, h2, -⟩ := api_TIns_elem hT.ins hx
      exact ⟨b, o, h1, h2⟩
     subst he
     have i0 := (tins_all (hT.ins.keep (w' := w1) fun b hb => hb1.block b (hS b hb)) hx).1
     have hbi : bi < w1.heap.size := Nat.lt_of_lt_of_le (hS bi hSi) hb1.size
     have HCE : Hid (∀ W, Below w1.heap.size w1 W → Row W w.heap.size 34 T ∧ Rep.cells S W T.toList t ∧ TIn S W T t (some ⟨bi, oi, none⟩) nI cI ∧ (∀ b, S b → b < W.heap.size) ∧ Below w.heap.size w W) := fun W hb => by
      have hbw : Below w.heap.size w W := hb1.trans (hb.mono hb1.size)
      have hk : ∀ b, S b → W.heap[b]? = w.heap[b]? := fun b hb' => hbw.block b (hS b hb')
      exact ⟨r1.keep (hb.block _ r1.lt), Rep.keep hk ht, ⟨hT.size, hT.c3, hT.ins.keep hk, hT.len, hT.few⟩, fun b hb' => Nat.lt_of_lt_of_le (hS b hb') hbw.size, hbw⟩
     have HX := Lib.hid hx
     have HSi := Lib.hid hSi
     have e1 : decide ((k : Int) < 0) = false := decide_eq_false (by omega)
     have e2 : decide ((hi : Int) ≤ (k : Int)) = false := decide_eq_false (by omega)
     have e3 : decide ((nI : Int) < (hi : Int)) = false := decide_eq_false (by omega)
     have e4 : decide (hi ≤ k) = false := decide_eq_false (by omega)
     have e5 : decide (nI < hi) = false := decide_eq_false (by omega)
     have hk1 : (k : Int) < (nI : Int) := by omega
     have HHI : Hid (k < hi ∧ hi ≤ nI) := ⟨by omega, by omega⟩
     have HKN : Hid (k < n + 1) := by
      have h := HHI.out
      have hl := hT.len
      show k < n + 1
      rcases hv with h1 | h1 | h1 | h1 <;> omega
     clear ht hS hT r1 hb1 hbad hres hx hSi hv
     go_enter Tryd.func102, Tryd.ntmps102
     go_upto_region 1 with fail
     rw [← hw1]
     clear hw1
     cases htl : tellsOf x.Op with
     | false =>
       have HF : Hid (res = -1) := by show _ = _; rw [HKG.out, if_pos htl]
       have HTL : Hid (∀ w, Calls Tryd.prog 29 #[.int .i64 x.Op] w fun e w' => e = .returned (.bool false) ∧ Below w.heap.size w w') := fun w => by rw [← htl]; exact tells_any
       clear htl
       go_wp2_with (go_at_call 29; (with_reducible refine (HTL.out _).mono ?_); rintro e w2 ⟨rfl, hb2⟩; have HB2 := Lib.hid hb2; clear hb2)
       go_ret
       exact ⟨by rw [HF.out]; rfl, (HCE.out _ HB2.out).2.2.2.2⟩
     | true =>
       obtain ⟨q, hq⟩ : ∃ q, q = ownK (kindG t.Ins (fun _ => -1) n x.A k) x := ⟨_, rfl⟩
       have HKG2 : Hid (res = if 0 ≤ q then q else match upK t.Ins k (k + 1) (hi - (k + 1)) with | some q => q | none => -1) := by
        show _ = _
        rw [HKG.out, htl, ← hq]; rfl
       have HTL : Hid (∀ w, Calls Tryd.prog 29 #[.int .i64 x.Op] w fun e w' => e = .returned (.bool true) ∧ Below w.heap.size w w') := fun w => by rw [← htl]; exact tells_any
       have HOW : Hid (∀ W, Below w1.heap.size w1 W → Calls Tryd.prog 137 #[.agg T, .int .i64 k] W fun e w' => e = .returned (.int .i64 q) ∧ Below w1.heap.size w1 w') := fun W hb => by
        obtain ⟨k1, k2, k3, k4, k5⟩ := HCE.out W hb
        have h := own_any (r := kindG t.Ins (fun _ => -1) n x.A k) k2 k4 HX.out (fun W' hb' => by
         refine HIH.out S W' T t (Rep.keep (fun b hb'' => hb'.block b (k4 b hb'')) k2) (fun b hb'' => Nat.lt_of_lt_of_le (k4 b hb'') hb'.size) x.A k ?_
         have := HKN.out
         omega)
        rw [← hq] at h
        exact h.mono fun e w' ⟨he, hb'⟩ => ⟨he, hb.trans (hb'.mono hb.size)⟩
       have HRW : Hid (∀ W, Below w1.heap.size w1 W → Row W w.heap.size 34 T) := fun W hb => (HCE.out W hb).1
       clear htl hq HKG HIH
       by_cases hq0 : 0 ≤ q
       · have HF : Hid (res = q) := by show _ = _; rw [HKG2.out, if_pos hq0]
         go_wp2_with (first
          | (go_at_call 29; (with_reducible refine (HTL.out _).mono ?_); rintro e w2 ⟨rfl, hb2⟩; have HB2 := Lib.hid hb2; clear hb2)
          | (with_reducible refine ldT rfl rfl rfl (HRW.out _ HB2.out) hsT ?_)
          | (go_at_call 137; (with_reducible refine (HOW.out _ HB2.out).mono ?_); rintro e w3 ⟨rfl, hb3⟩; have HB3 := Lib.hid hb3; clear hb3))
         go_ret
         exact ⟨by rw [HF.out]; rfl, (HCE.out _ HB3.out).2.2.2.2⟩
       · have HF : Hid (res = match upK t.Ins k (k + 1) (hi - (k + 1)) with | some q => q | none => -1) := by show _ = _; rw [HKG2.out, if_neg hq0]
         have hq1 : q < 0 := by omega
         go_wp2_with (first
          | (go_at_call 29; (with_reducible refine (HTL.out _).mono ?_); rintro e w2 ⟨rfl, hb2⟩; have HB2 := Lib.hid hb2; clear hb2)
          | (with_reducible refine ldT rfl rfl rfl (HRW.out _ HB2.out) hsT ?_)
          | (go_at_call 137; (with_reducible refine (HOW.out _ HB2.out).mono ?_); rintro e w3 ⟨rfl, hb3⟩; have HB3 := Lib.hid hb3; clear hb3))
         clear q3 l1 i0 hbi e1 e2 e3 e4 e5 hq0
         go_loopw [8] (fun i wr => ∃ j : Nat, k < j ∧ j ≤ hi ∧ i = .int .i64 j ∧ upK t.Ins k (k + 1) (hi - (k + 1)) = upK t.Ins k j (hi - j) ∧ Below w1.heap.size w1 wr) (fun i _ => hi - (intOf i).toNat)
         case atStart => exact ⟨k + 1, by omega, HHI.out.1, by go_num, rfl, HB3.out⟩
         case round =>
          obtain ⟨j, hj0, hj, rfl, hup, hbr⟩ := hrel
          have HUP := Lib.hid hup; have HBR := Lib.hid hbr
          obtain ⟨k1, k2, k3, k4, k5⟩ := HCE.out wr hbr
          by_cases hlt : j < hi
          · have hjn : (j : Int) < (nI : Int) := by have := HHI.out.2; omega
            obtain ⟨y, hy⟩ : ∃ y, t.Ins[j]? = some y := ⟨_, List.getElem?_eq_getElem (by rw [k3.len]; omega)⟩
            obtain ⟨i0, i1, i2, i3, i4, i5, i6, i7⟩ := tins_all k3.ins hy
            have hbi := k4 bi HSi.out
            have q3 := k1.cell k3.c3
            have l1 := k1.lt
            obtain ⟨w5, hw5⟩ : ∃ w5, w5 = wr.alloc (.cells #[.int .i64 y.Op, .int .i64 y.A, .int .i64 y.B, .int .i64 y.C, .int .i64 y.N, .int .i64 y.Exit, .int .i64 y.K.Kind, .int .i64 y.K.N] 43) := ⟨_, rfl⟩
            have hb5 : Below wr.heap.size wr w5 := by rw [hw5]; exact cod.below_al2 _
            have HB5 : Hid (Below w1.heap.size w1 w5) := hbr.trans (hb5.mono hbr.size)
            have hrow := row_new wr #[.int .i64 y.Op, .int .i64 y.A, .int .i64 y.B, .int .i64 y.C, .int .i64 y.N, .int .i64 y.Exit, .int .i64 y.K.Kind, .int .i64 y.K.N] 43
            rw [← hw5] at hrow
            have z0 := hrow.cell (j := 0) rfl; have z1 := hrow.cell (j := 1) rfl; have z4 := hrow.cell (j := 4) rfl; have z6 := hrow.cell (j := 6) rfl
            have lI := hrow.lt
            have HY := Lib.hid hy
            have HEN5 : Hid (Below w.heap.size w w5) := k5.trans (hb5.mono k5.size)
            clear hy hup hbr k1 k2 k3 k4 k5 hb5 hrow
            go_upto_region 10 with fail
            rw [← hw5]
            clear hw5 i0 i1 i2 i3 i4 i5 i6 i7 hbi q3 l1
            have HST : Hid (lookK k y = none → upK t.Ins k (k + 1) (hi - (k + 1)) = upK t.Ins k (j + 1) (hi - (j + 1))) := fun h => by rw [HUP.out]; exact upK_step HY.out h hlt
            have HHT : Hid (∀ q, lookK k y = some q → res = q) := fun q h => by rw [HF.out, HUP.out, upK_hit HY.out h hlt]
            have HLK : Hid (lookK k y = if y.A = (k : Int) then (if y.Op = 4 then some y.N else if y.Op = 6 then some y.K.Kind else if y.Op = 9 then some 5 else none) else none) := rfl
            by_cases hA : y.A = (k : Int)
            · have dA : (y.A != (k : Int)) = false := by simp [hA]
              have HLK2 : Hid (lookK k y = if y.Op = 4 then some y.N else if y.Op = 6 then some y.K.Kind else if y.Op = 9 then some 5 else none) := by show _ = _; rw [HLK.out, if_pos hA]
              clear hA
              by_cases o4 : y.Op = 4
              · have d4 : (y.Op == 4) = true := by simp [o4]
                have HR : Hid (res = y.N) := HHT.out _ (by rw [HLK2.out, if_pos o4])
                clear o4
                go_wp2_with fail
                go_ret
                exact ⟨by rw [HR.out]; rfl, HEN5.out⟩
              · have d4 : (y.Op == 4) = false := by simpa using o4
                by_cases o6 : y.Op = 6
                · have d6 : (y.Op == 6) = true := by simp [o6]
                  have HR : Hid (res = y.K.Kind) := HHT.out _ (by rw [HLK2.out, if_neg o4, if_pos o6])
                  clear o4 o6
                  go_wp2_with fail
                  go_ret
                  exact ⟨by rw [HR.out]; rfl, HEN5.out⟩
                · have d6 : (y.Op == 6) = false := by simpa using o6
                  by_cases o9 : y.Op = 9
                  · have d9 : (y.Op == 9) = true := by simp [o9]
                    have HR : Hid (res = 5) := HHT.out _ (by rw [HLK2.out, if_neg o4, if_neg o6, if_pos o9])
                    clear o4 o6 o9
                    go_wp2_with fail
                    go_ret
                    exact ⟨by rw [HR.out]; rfl, HEN5.out⟩
                  · have d9 : (y.Op == 9) = false := by simpa using o9
                    have HN := Lib.hid (HST.out (by rw [HLK2.out, if_neg o4, if_neg o6, if_neg o9]))
                    clear o4 o6 o9
                    go_wp2_with fail
                    go_roundw
                    case rel => exact ⟨j + 1, by omega, by omega, by go_num, HN.out, HB5.out⟩
                    case measure => simp [intOf]; omega
            · have dA : (y.A != (k : Int)) = true := by simpa using hA
              have HN := Lib.hid (HST.out (by rw [HLK.out, if_neg hA]))
              clear hA
              go_wp2_with fail
              go_roundw
              case rel => exact ⟨j + 1, by omega, by omega, by go_num, HN.out, HB5.out⟩
              case measure => simp [intOf]; omega
          · have HR : Hid (res = -1) := by
             show _ = _
             rw [HF.out, HUP.out, upK_end (by omega)]
            have HEN5 := Lib.hid k5
            clear hup hbr k1 k2 k3 k4 k5
            go_wp2_with fail
            go_ret
            exact ⟨by rw [HR.out]; rfl, HEN5.out⟩
end Go.Proofs.YtekofpigmggbbaaDoor.chk
/- The document's Kind: walked. -/
namespace Go.Proofs.YtekofpigmggbbaaDoor.chk
open Go.Bk Go.RowKit Go.Proofs.YtekofpigmggbbaaDoor.ir
theorem sub_one {x : Int} (h0 : 0 ≤ x) (h1 : x ≤ 9223372036854775807) : wrap64 (x - 1) = x - 1 := by
 unfold wrap64; omega
/-- What the loop downwards holds behind place j. -/
def dnK (ins : List Api.TIns) (v : Int) (hi : Nat) (q : Int) (j : Nat) : Int := match upK ins v (j + 1) (hi - (j + 1)) with | some p => p | none => q
theorem dn_start {ins : List Api.TIns} {v : Int} {hi : Nat} {q : Int} (h : 0 < hi) : dnK ins v hi q (hi - 1) = q := by
 unfold dnK
 rw [show hi - 1 + 1 = hi by omega, upK_end (Nat.le_refl hi)]
theorem dn_step {ins : List Api.TIns} {v : Int} {hi : Nat} {q : Int} {j : Nat} {y : Api.TIns} (hy : ins[j]? = some y) (hl : lookK v y = none) (h : j < hi) (h0 : 0 < j) : dnK ins v hi q (j - 1) = dnK ins v hi q j := by
 unfold dnK
 rw [show j - 1 + 1 = j by omega, upK_step hy hl h]
theorem dn_hit {ins : List Api.TIns} {v : Int} {hi : Nat} {q p : Int} {j : Nat} {y : Api.TIns} (hy : ins[j]? = some y) (hl : lookK v y = some p) (h : j < hi) (h0 : 0 < j) : dnK ins v hi q (j - 1) = p := by
 unfold dnK
 rw [show j - 1 + 1 = j by omega, upK_hit hy hl h]
set_option maxRecDepth 100000 in
set_option maxHeartbeats 1000000 in
theorem rkind_any : ∀ (n : Nat) (S : Nat → Prop) (w : World) (T : Array Value) (t : Api.TTrace) (ht : Rep.cells S w T.toList t) (hS : ∀ b, S b → b < w.heap.size) (v at' : Int) (hv : v.toNat < n ∨ v < 0 ∨ at' ≤ v ∨ (t.Ins.length : Int) < at'),
 Calls Tryd.prog 81 #[.agg T, .int .i64 v, .int .i64 at'] w fun e w' => e = .returned (.int .i64 (kindG t.Ins (fun k => k) n v at')) ∧ Below w.heap.size w w' := by
 intro n
 induction n with
 | zero =>
   intro S w T t ht hS v at' hv
   obtain ⟨aI, nI, cI, hT⟩ := tin_of ht
   rw [kindG_bad (by omega)]
   have hbad : v < 0 ∨ at' ≤ v ∨ (nI : Int) < at' := by rw [← hT.len]; omega
   have hsT := hT.size
   have hfew := hT.few
   obtain ⟨w1, hw1⟩ : ∃ w1, w1 = w.alloc (.cells T 34) := ⟨_, rfl⟩
   have HB1 : Hid (Below w.heap.size w w1) := by show Below _ _ _; rw [hw1]; exact cod.below_al2 _
   have r1 := row_new w T 34
   rw [← hw1] at r1
   have q3 := r1.cell hT.c3
   have l1 := r1.lt
   clear ht hS hT r1 hv
   go_enter Tryd.func81, Tryd.ntmps81
   go_upto_region 1 with fail
   rw [← hw1]
   clear hw1
   rcases (show decide (v < 0) = true ∨ (decide (v < 0) = false ∧ decide (at' ≤ v) = true) ∨ (decide (v < 0) = false ∧ decide (at' ≤ v) = false ∧ decide ((nI : Int) < at') = true) by
    simp only [decide_eq_true_eq, decide_eq_false_iff_not]
    omega) with e1 | ⟨e1, e2⟩ | ⟨e1, e2, e3⟩
   all_goals
    clear hbad
    go_wp2_with fail
    go_ret
    exact ⟨rfl, HB1.out⟩
 | succ n ih =>
   intro S w T t ht hS v at' hv
   have HIH := Lib.hid ih
   obtain ⟨aI, nI, cI, hT⟩ := tin_of ht
   have hsT := hT.size
   have hfew := hT.few
   obtain ⟨w1, hw1⟩ : ∃ w1, w1 = w.alloc (.cells T 34) := ⟨_, rfl⟩
   have hb1 : Below w.heap.size w w1 := by rw [hw1]; exact cod.below_al2 _
   have HB1 := Lib.hid hb1
   have r1 := row_new w T 34
   rw [← hw1] at r1
   have q3 := r1.cell hT.c3
   have l1 := r1.lt
   clear ih
   by_cases hbad : v < 0 ∨ at' ≤ v ∨ (nI : Int) < at'
   · rw [kindG_bad (by rw [hT.len]; exact hbad)]
     clear ht hS hT r1 hb1 hv HIH
     go_enter Tryd.func81, Tryd.ntmps81
     go_upto_region 1 with fail
     rw [← hw1]
     clear hw1
     rcases (show decide (v < 0) = true ∨ (decide (v < 0) = false ∧ decide (at' ≤ v) = true) ∨ (decide (v < 0) = false ∧ decide (at' ≤ v) = false ∧ decide ((nI : Int) < at') = true) by
      simp only [decide_eq_true_eq, decide_eq_false_iff_not]
      omega) with e1 | ⟨e1, e2⟩ | ⟨e1, e2, e3⟩
     all_goals
      clear hbad
      go_wp2_with fail
      go_ret
      exact ⟨rfl, HB1.out⟩
   · obtain ⟨k, rfl⟩ : ∃ k : Nat, v = k := ⟨v.toNat, by omega⟩
     obtain ⟨hi, rfl⟩ : ∃ hi : Nat, at' = hi := ⟨at'.toNat, by omega⟩
     obtain ⟨x, hx⟩ : ∃ x, t.Ins[k]? = some x := ⟨_, List.getElem?_eq_getElem (by rw [hT.len]; omega)⟩
     have HKG : Hid (kindG t.Ins (fun k => k) (n + 1) k hi = if tellsOf x.Op = false then -1
      else if 0 ≤ ownK (kindG t.Ins (fun k => k) n x.A k) x then ownK (kindG t.Ins (fun k => k) n x.A k) x
      else match upK t.Ins k (k + 1) (hi - (k + 1)) with
       | some q => q
       | none => ownK (kindG t.Ins (fun k => k) n x.A k) x) := by
      show _ = _
      rw [kindG_at (by omega) (by rw [hT.len]; omega) hx]
      rfl
     obtain ⟨res, hres⟩ : ∃ q, q = kindG t.Ins (fun k => k) (n + 1) k hi := ⟨_, rfl⟩
     rw [← hres] at HKG ⊢
     obtain ⟨bi, oi, he, hSi⟩ : ∃ bi oi, aI = some ⟨bi, oi, none⟩ ∧ S bi := by
      obtain ⟨b, o, h1, h2, -⟩ := api_TIns_elem hT.ins hx
      exact ⟨b, o, h1, h2⟩
     subst he
     have i0 := (tins_all (hT.ins.keep (w' := w1) fun b hb => hb1.block b (hS b hb)) hx).1
     have hbi : bi < w1.heap.size := Nat.lt_of_lt_of_le (hS bi hSi) hb1.size
     have HCE : Hid (∀ W, Below w1.heap.size w1 W → Row W w.heap.size 34 T ∧ Rep.cells S W T.toList t ∧ TIn S W T t (some ⟨bi, oi, none⟩) nI cI ∧ (∀ b, S b → b < W.heap.size) ∧ Below w.heap.size w W) := fun W hb => by
      have hbw : Below w.heap.size w W := hb1.trans (hb.mono hb1.size)
      have hk : ∀ b, S b → W.heap[b]? = w.heap[b]? := fun b hb' => hbw.block b (hS b hb')
      exact ⟨r1.keep (hb.block _ r1.lt), Rep.keep hk ht, ⟨hT.size, hT.c3, hT.ins.keep hk, hT.len, hT.few⟩, fun b hb' => Nat.lt_of_lt_of_le (hS b hb') hbw.size, hbw⟩
     have HX := Lib.hid hx
     have HSi := Lib.hid hSi
     have e1 : decide ((k : Int) < 0) = false := decide_eq_false (by omega)
     have e2 : decide ((hi : Int) ≤ (k : Int)) = false := decide_eq_false (by omega)
     have e3 : decide ((nI : Int) < (hi : Int)) = false := decide_eq_false (by omega)
     have e4 : decide (hi ≤ k) = false := decide_eq_false (by omega)
     have e5 : decide (nI < hi) = false := decide_eq_false (by omega)
     have hk1 : (k : Int) < (nI : Int) := by omega
     have HHI : Hid (k < hi ∧ hi ≤ nI) := ⟨by omega, by omega⟩
     have HKN : Hid (k < n + 1) := by
      have h := HHI.out
      have hl := hT.len
      show k < n + 1
      rcases hv with h1 | h1 | h1 | h1 <;> omega
     clear ht hS hT r1 hb1 hbad hres hx hSi hv
     go_enter Tryd.func81, Tryd.ntmps81
     go_upto_region 1 with fail
     rw [← hw1]
     clear hw1
     cases htl : tellsOf x.Op with
     | false =>
       have HF : Hid (res = -1) := by show _ = _; rw [HKG.out, if_pos htl]
       have HTL : Hid (∀ w, Calls Tryd.prog 12 #[.int .i64 x.Op] w fun e w' => e = .returned (.bool false) ∧ Below w.heap.size w w') := fun w => by rw [← htl]; exact rtells_any
       clear htl
       go_wp2_with (go_at_call 12; (with_reducible refine (HTL.out _).mono ?_); rintro e w2 ⟨rfl, hb2⟩; have HB2 := Lib.hid hb2; clear hb2)
       go_ret
       exact ⟨by rw [HF.out]; rfl, (HCE.out _ HB2.out).2.2.2.2⟩
     | true =>
       obtain ⟨r, hr⟩ : ∃ r, r = kindG t.Ins (fun k => k) n x.A k := ⟨_, rfl⟩
       obtain ⟨q, hq⟩ : ∃ q, q = ownK r x := ⟨_, rfl⟩
       have HKG2 : Hid (res = if 0 ≤ q then q else match upK t.Ins k (k + 1) (hi - (k + 1)) with | some q => q | none => q) := by
        show _ = _
        rw [HKG.out, htl, ← hr, ← hq]; rfl
       have HTL : Hid (∀ w, Calls Tryd.prog 12 #[.int .i64 x.Op] w fun e w' => e = .returned (.bool true) ∧ Below w.heap.size w w') := fun w => by rw [← htl]; exact rtells_any
       have HKR : Hid (∀ W, Below w1.heap.size w1 W → Calls Tryd.prog 81 #[.agg T, .int .i64 x.A, .int .i64 k] W fun e w' => e = .returned (.int .i64 r) ∧ Below W.heap.size W w') := fun W hb => by
        obtain ⟨k1, k2, k3, k4, k5⟩ := HCE.out W hb
        have h := HIH.out S W T t k2 k4 x.A k (by have := HKN.out; omega)
        rw [← hr] at h
        exact h
       have HRW : Hid (∀ W, Below w1.heap.size w1 W → Row W w.heap.size 34 T) := fun W hb => (HCE.out W hb).1
       have HQ := Lib.hid hq
       clear htl hq hr HKG HIH
       go_upto_region 3 with (go_at_call 12; (with_reducible refine (HTL.out _).mono ?_); rintro e w2 ⟨rfl, hb2⟩; have HB2 := Lib.hid hb2; clear hb2)
       obtain ⟨k1, k2, k3, k4, k5⟩ := HCE.out w2 HB2.out
       obtain ⟨i0, i1, i2, i3, i4, i5, i6, i7⟩ := tins_all k3.ins HX.out
       have hbi := k4 bi HSi.out
       have q3' := k1.cell k3.c3
       have l1' := k1.lt
       obtain ⟨w5, hw5⟩ : ∃ w5, w5 = w2.alloc (.cells #[.int .i64 x.Op, .int .i64 x.A, .int .i64 x.B, .int .i64 x.C, .int .i64 x.N, .int .i64 x.Exit, .int .i64 x.K.Kind, .int .i64 x.K.N] 43) := ⟨_, rfl⟩
       have hb5 : Below w2.heap.size w2 w5 := by rw [hw5]; exact cod.below_al2 _
       have HB5 : Hid (Below w1.heap.size w1 w5) := HB2.out.trans (hb5.mono HB2.out.size)
       have hrow := row_new w2 #[.int .i64 x.Op, .int .i64 x.A, .int .i64 x.B, .int .i64 x.C, .int .i64 x.N, .int .i64 x.Exit, .int .i64 x.K.Kind, .int .i64 x.K.N] 43
       rw [← hw5] at hrow
       clear q3 l1 e1 e2 e3 e4 e5 k1 k2 k3 k4 k5 hb5
       go_upto_block 0 with fail
       rw [← hw5]
       clear hw5 i0 i1 i2 i3 i4 i5 i6 i7 hbi q3' l1'
       have z0 := hrow.cell (j := 0) rfl; have z1 := hrow.cell (j := 1) rfl; have z4 := hrow.cell (j := 4) rfl; have z6 := hrow.cell (j := 6) rfl
       have lI := hrow.lt
       generalize w2.heap.size = gI at hrow z0 z1 z4 z6 lI ⊢
       have HROW := Lib.hid hrow
       clear hrow
       go_cut [8] from 41 to 101 (fun s8 wz => s8 = .int .i64 q ∧ Below w5.heap.size w5 wz)
       case first =>
        clear HKG2 HHI
        have HOX : Hid (q = if x.Op = 2 then x.K.Kind
         else if x.Op = 15 then 2
         else if x.Op = 16 ∨ x.Op = 18 then 5
         else if x.Op = 7 ∨ x.Op = 8 then
          if (8 ≤ x.N ∧ x.N ≤ 10 ∧ x.Op = 7) ∨ (x.N = 11 ∧ x.Op = 8) then 1
          else if r = 2 ∨ r = 3 then r
          else -1
         else -1) := HQ.out
        by_cases o2 : x.Op = 2
        · have d2 : (x.Op == 2) = true := by simp [o2]
          have HF : Hid (q = x.K.Kind) := by show _ = _; rw [HOX.out, if_pos o2]
          clear o2
          go_wp2_with fail
          go_meet
          exact ⟨by rw [HF.out], Below.refl _ _⟩
        have d2 : (x.Op == 2) = false := by simpa using o2
        by_cases o15 : x.Op = 15
        · have d15 : (x.Op == 15) = true := by simp [o15]
          have HF : Hid (q = 2) := by show _ = _; rw [HOX.out, if_neg o2, if_pos o15]
          clear o2 o15
          go_wp2_with fail
          go_meet
          exact ⟨by rw [HF.out], Below.refl _ _⟩
        have d15 : (x.Op == 15) = false := by simpa using o15
        by_cases o16 : x.Op = 16 ∨ x.Op = 18
        · have HF : Hid (q = 5) := by show _ = _; rw [HOX.out, if_neg o2, if_neg o15, if_pos o16]
          rcases (show (x.Op == 16) = true ∨ ((x.Op == 16) = false ∧ (x.Op == 18) = true) by simp only [beq_iff_eq, beq_eq_false_iff_ne, ne_eq]; omega) with d16 | ⟨d16, d18⟩
          all_goals
           clear o2 o15 o16
           go_wp2_with fail
           go_meet
           exact ⟨by rw [HF.out], Below.refl _ _⟩
        have d16 : (x.Op == 16) = false := by simp only [beq_eq_false_iff_ne, ne_eq]; omega
        have d18 : (x.Op == 18) = false := by simp only [beq_eq_false_iff_ne, ne_eq]; omega
        by_cases o7 : x.Op = 7 ∨ x.Op = 8
        · have HO2 : Hid (q = if (8 ≤ x.N ∧ x.N ≤ 10 ∧ x.Op = 7) ∨ (x.N = 11 ∧ x.Op = 8) then 1 else if r = 2 ∨ r = 3 then r else -1) := by show _ = _; rw [HOX.out, if_neg o2, if_neg o15, if_neg o16, if_pos o7]
          have HNO : Hid (¬ ((8 ≤ x.N ∧ x.N ≤ 10 ∧ x.Op = 7) ∨ (x.N = 11 ∧ x.Op = 8)) → q = if r = 2 ∨ r = 3 then r else -1) := fun h => by rw [HO2.out, if_neg h]
          have HYES : Hid (((8 ≤ x.N ∧ x.N ≤ 10 ∧ x.Op = 7) ∨ (x.N = 11 ∧ x.Op = 8)) → q = 1) := fun h => by rw [HO2.out, if_pos h]
          have HHAS : Hid (∀ bv, bv = (decide (8 ≤ x.N) && decide (x.N ≤ 10)) → Calls Tryd.prog 32 #[.slice (some ⟨w5.heap.size, 0, none⟩) 3 3, .int .i64 x.N] (w5.alloc (.cells #[.int .i64 8, .int .i64 9, .int .i64 10] 3)) fun e w' => e = .returned (.bool bv) ∧ Below w5.heap.size w5 w') := fun bv hbv => by
           refine (has_any (S := fun _ => True) (xs := [8, 9, 10]) ((blk_new w5 _ _).arr (zs := [8, 9, 10]) (by unfold I64; simp) (by simp [maxLen]) trivial)).mono fun e w' ⟨he, hq⟩ => ⟨?_, below_of_has hq⟩
           rw [he, hbv]
           congr 2
           rw [Bool.eq_iff_iff]
           simp
           omega
          have HK5 : Hid (∀ W, Below w5.heap.size w5 W → Calls Tryd.prog 81 #[.agg T, .int .i64 x.A, .int .i64 k] W fun e w' => e = .returned (.int .i64 r) ∧ Below w5.heap.size w5 w') := fun W hb =>
           (HKR.out W (HB5.out.trans (hb.mono HB5.out.size))).mono fun e w' ⟨he, hb'⟩ => ⟨he, hb.trans (hb'.mono hb.size)⟩
          have HR5 : Hid (∀ W, Below w5.heap.size w5 W → Row W w.heap.size 34 T) := fun W hb => HRW.out W (HB5.out.trans (hb.mono HB5.out.size))
          have HZ : Hid (∀ W, Below w5.heap.size w5 W → W.cell? ⟨gI, 0, none⟩ = some (.int .i64 x.Op) ∧ W.cell? ⟨gI, 1, none⟩ = some (.int .i64 x.A) ∧ W.cell? ⟨gI, 4, none⟩ = some (.int .i64 x.N) ∧ gI < W.heap.size) := fun W hb => by
           have h := HROW.out.keep (hb.block _ HROW.out.lt)
           exact ⟨h.cell (j := 0) rfl, h.cell (j := 1) rfl, h.cell (j := 4) rfl, h.lt⟩
          clear HO2 HOX HKR HRW HQ HCE HB5 HROW
          have key : (((x.Op == 7) = true ∧ (decide (8 ≤ x.N) && decide (x.N ≤ 10)) = true) ∨ ((x.Op == 7) = false ∧ (x.Op == 8) = true ∧ (x.N == 11) = true)) ∨
           (((x.Op == 7) = true ∧ (x.Op == 8) = false ∧ (decide (8 ≤ x.N) && decide (x.N ≤ 10)) = false) ∨ ((x.Op == 7) = false ∧ (x.Op == 8) = true ∧ (x.N == 11) = false)) := by
           simp only [Bool.and_eq_true, Bool.and_eq_false_iff, decide_eq_true_eq, decide_eq_false_iff_not, beq_iff_eq, beq_eq_false_iff_ne, ne_eq]
           omega
          rcases key with hy | hn
          · have HF : Hid (q = 1) := by
             refine HYES.out ?_
             simp only [Bool.and_eq_true, Bool.and_eq_false_iff, decide_eq_true_eq, decide_eq_false_iff_not, beq_iff_eq, beq_eq_false_iff_ne, ne_eq] at hy
             omega
            clear HYES HNO o7 o2 o15 o16
            rcases hy with ⟨d7, e1⟩ | ⟨d7, d8, e0⟩
            · have HH := Lib.hid e1.symm
              clear e1
              go_wp2_with (go_at_call 32; (with_reducible refine (HHAS.out true HH.out).mono ?_); rintro e w6 ⟨rfl, hb6⟩; have HB6 := Lib.hid hb6; clear hb6)
              go_meet
              exact ⟨by rw [HF.out], HB6.out⟩
            · go_wp2_with fail
              go_meet
              exact ⟨by rw [HF.out], Below.refl _ _⟩
          · have HF : Hid (q = if r = 2 ∨ r = 3 then r else -1) := by
             refine HNO.out ?_
             simp only [Bool.and_eq_true, Bool.and_eq_false_iff, decide_eq_true_eq, decide_eq_false_iff_not, beq_iff_eq, beq_eq_false_iff_ne, ne_eq] at hn
             omega
            clear HYES HNO o7 o2 o15 o16
            obtain ⟨c, hc⟩ : ∃ c : Bool, c = (decide (r = 2) || decide (r = 3)) := ⟨_, rfl⟩
            have HF2 : Hid (q = if c = true then r else -1) := by
             show _ = _
             rw [HF.out, hc]
             simp only [Bool.or_eq_true, decide_eq_true_eq]
            have hr3 : (c = true ∧ (r == 2) = true) ∨ (c = true ∧ (r == 2) = false ∧ (r == 3) = true) ∨ (c = false ∧ (r == 2) = false ∧ (r == 3) = false) := by
             subst hc
             simp only [Bool.or_eq_true, Bool.or_eq_false_iff, decide_eq_true_eq, decide_eq_false_iff_not, beq_iff_eq, beq_eq_false_iff_ne, ne_eq]
             omega
            clear hc HF
            rcases hr3 with ⟨rfl, t1⟩ | ⟨rfl, t1, t2⟩ | ⟨rfl, t1, t2⟩
            all_goals
             rcases hn with ⟨d7, d8, e1⟩ | ⟨d7, d8, e0⟩
             · have HH := Lib.hid e1.symm
               clear e1
               go_wp2_with (first
                | (go_at_call 32; (with_reducible refine (HHAS.out false HH.out).mono ?_); rintro e w6 ⟨rfl, hb6⟩; have HB6 := Lib.hid hb6; clear hb6; obtain ⟨y0, y1, y4, yl⟩ := HZ.out _ HB6.out)
                | (with_reducible refine ldT rfl rfl rfl (HR5.out _ HB6.out) hsT ?_)
                | (go_at_call 81; (with_reducible refine (HK5.out _ HB6.out).mono ?_); rintro e w7 ⟨rfl, hb7⟩; have HB7 := Lib.hid hb7; clear hb7))
               go_meet
               exact ⟨by rw [HF2.out]; rfl, HB7.out⟩
             · go_wp2_with (first
                | (with_reducible refine ldT rfl rfl rfl (HR5.out _ (Below.refl _ _)) hsT ?_)
                | (go_at_call 81; (with_reducible refine (HK5.out _ (Below.refl _ _)).mono ?_); rintro e w7 ⟨rfl, hb7⟩; have HB7 := Lib.hid hb7; clear hb7))
               go_meet
               exact ⟨by rw [HF2.out]; rfl, HB7.out⟩
        · have HF : Hid (q = -1) := by show _ = _; rw [HOX.out, if_neg o2, if_neg o15, if_neg o16, if_neg o7]
          have d7 : (x.Op == 7) = false := by simp only [beq_eq_false_iff_ne, ne_eq]; omega
          have d8 : (x.Op == 8) = false := by simp only [beq_eq_false_iff_ne, ne_eq]; omega
          clear o2 o15 o16 o7
          go_wp2_with fail
          go_meet
          exact ⟨by rw [HF.out], Below.refl _ _⟩
       case rest =>
        obtain ⟨rfl, hbc⟩ := hcut
        have HB6 : Hid (Below w1.heap.size w1 wc) := HB5.out.trans (hbc.mono HB5.out.size)
        clear hbc z0 z1 z4 z6 lI HROW HKR HQ
        by_cases hq0 : 0 ≤ q
        · have HF : Hid (res = q) := by show _ = _; rw [HKG2.out, if_pos hq0]
          go_wp2_with fail
          go_ret
          exact ⟨by rw [HF.out]; rfl, (HCE.out _ HB6.out).2.2.2.2⟩
        · have HF : Hid (res = dnK t.Ins k hi q k) := by show _ = _; rw [HKG2.out, if_neg hq0]; rfl
          have e7 : decide (0 ≤ q) = false := decide_eq_false hq0
          clear hq0 HKG2
          go_wp2_with fail
          go_loopw [8, 10] (fun s8 i wr => ∃ j : Nat, k ≤ j ∧ j < hi ∧ i = .int .i64 j ∧ s8 = .int .i64 (dnK t.Ins k hi q j) ∧ Below w1.heap.size w1 wr) (fun _ i _ => (intOf i).toNat)
          case atStart =>
           have h1 := HHI.out
           exact ⟨hi - 1, by omega, by omega, by rw [show ((hi - 1 : Nat) : Int) = (hi : Int) - 1 by omega]; exact congrArg _ (sub_one (by omega) (by omega)), by rw [dn_start (hi := hi) (by omega)], HB6.out⟩
          case round =>
           obtain ⟨j, hj0, hj, rfl, rfl, hbr⟩ := hrel
           have HBR := Lib.hid hbr
           obtain ⟨k1, k2, k3, k4, k5⟩ := HCE.out wr hbr
           clear i0 hbi e7
           by_cases hlt : k < j
           · have hjn : (j : Int) < (nI : Int) := by have := HHI.out.2; omega
             obtain ⟨y, hy⟩ : ∃ y, t.Ins[j]? = some y := ⟨_, List.getElem?_eq_getElem (by rw [k3.len]; omega)⟩
             obtain ⟨i0, i1, i2, i3, i4, i5, i6, i7⟩ := tins_all k3.ins hy
             have hbi := k4 bi HSi.out
             have q3 := k1.cell k3.c3
             have l1 := k1.lt
             obtain ⟨p, hp⟩ : ∃ p, p = dnK t.Ins k hi q j := ⟨_, rfl⟩
             rw [← hp]
             obtain ⟨w5', hw5⟩ : ∃ w5, w5 = wr.alloc (.cells #[.int .i64 y.Op, .int .i64 y.A, .int .i64 y.B, .int .i64 y.C, .int .i64 y.N, .int .i64 y.Exit, .int .i64 y.K.Kind, .int .i64 y.K.N] 43) := ⟨_, rfl⟩
             have hb5 : Below wr.heap.size wr w5' := by rw [hw5]; exact cod.below_al2 _
             have HBW : Hid (Below w1.heap.size w1 w5') := hbr.trans (hb5.mono hbr.size)
             have hrow := row_new wr #[.int .i64 y.Op, .int .i64 y.A, .int .i64 y.B, .int .i64 y.C, .int .i64 y.N, .int .i64 y.Exit, .int .i64 y.K.Kind, .int .i64 y.K.N] 43
             rw [← hw5] at hrow
             have z0 := hrow.cell (j := 0) rfl; have z1 := hrow.cell (j := 1) rfl; have z4 := hrow.cell (j := 4) rfl; have z6 := hrow.cell (j := 6) rfl
             have lI := hrow.lt
             have HY := Lib.hid hy
             have hsub : wrap64 ((j : Int) - 1) = (j : Int) - 1 := sub_one (by omega) (by omega)
             have HST : Hid (lookK k y = none → dnK t.Ins k hi q (j - 1) = p) := fun h => by rw [dn_step HY.out h hj (by omega), hp]
             have HHT : Hid (∀ r', lookK k y = some r' → dnK t.Ins k hi q (j - 1) = r') := fun r' h => dn_hit HY.out h hj (by omega)
             have HJ : Hid (k ≤ j - 1 ∧ j - 1 < hi ∧ ((j : Int) - 1 = ((j - 1 : Nat) : Int))) := ⟨by omega, by omega, by omega⟩
             clear hy hbr k1 k2 k3 k4 k5 hb5 hrow hp
             go_upto_region 23 with fail
             rw [← hw5]
             clear hw5 i0 i1 i2 i3 i4 i5 i6 i7 hbi q3 l1
             have HLK : Hid (lookK k y = if y.A = (k : Int) then (if y.Op = 4 then some y.N else if y.Op = 6 then some y.K.Kind else if y.Op = 9 then some 5 else none) else none) := rfl
             by_cases hA : y.A = (k : Int)
             · have dA : (y.A == (k : Int)) = true := by simp [hA]
               have HLK2 : Hid (lookK k y = if y.Op = 4 then some y.N else if y.Op = 6 then some y.K.Kind else if y.Op = 9 then some 5 else none) := by show _ = _; rw [HLK.out, if_pos hA]
               clear hA
               by_cases o4 : y.Op = 4
               · have d4 : (y.Op == 4) = true := by simp [o4]
                 have HR : Hid (dnK t.Ins k hi q (j - 1) = y.N) := HHT.out _ (by rw [HLK2.out, if_pos o4])
                 clear o4
                 go_wp2_with fail
                 go_roundw
                 case rel => exact ⟨j - 1, HJ.out.1, HJ.out.2.1, by rw [← HJ.out.2.2], by rw [HR.out], HBW.out⟩
                 case measure => simp [intOf]; omega
               · have d4 : (y.Op == 4) = false := by simpa using o4
                 by_cases o6 : y.Op = 6
                 · have d6 : (y.Op == 6) = true := by simp [o6]
                   have HR : Hid (dnK t.Ins k hi q (j - 1) = y.K.Kind) := HHT.out _ (by rw [HLK2.out, if_neg o4, if_pos o6])
                   clear o4 o6
                   go_wp2_with fail
                   go_roundw
                   case rel => exact ⟨j - 1, HJ.out.1, HJ.out.2.1, by rw [← HJ.out.2.2], by rw [HR.out], HBW.out⟩
                   case measure => simp [intOf]; omega
                 · have d6 : (y.Op == 6) = false := by simpa using o6
                   by_cases o9 : y.Op = 9
                   · have d9 : (y.Op == 9) = true := by simp [o9]
                     have HR : Hid (dnK t.Ins k hi q (j - 1) = 5) := HHT.out _ (by rw [HLK2.out, if_neg o4, if_neg o6, if_pos o9])
                     clear o4 o6 o9
                     go_wp2_with fail
                     go_roundw
                     case rel => exact ⟨j - 1, HJ.out.1, HJ.out.2.1, by rw [← HJ.out.2.2], by rw [HR.out], HBW.out⟩
                     case measure => simp [intOf]; omega
                   · have d9 : (y.Op == 9) = false := by simpa using o9
                     have HN := Lib.hid (HST.out (by rw [HLK2.out, if_neg o4, if_neg o6, if_neg o9]))
                     clear o4 o6 o9
                     go_wp2_with fail
                     go_roundw
                     case rel => exact ⟨j - 1, HJ.out.1, HJ.out.2.1, by rw [← HJ.out.2.2], by rw [HN.out], HBW.out⟩
                     case measure => simp [intOf]; omega
             · have dA : (y.A == (k : Int)) = false := by simpa using hA
               have HN := Lib.hid (HST.out (by rw [HLK.out, if_neg hA]))
               clear hA
               go_wp2_with fail
               go_roundw
               case rel => exact ⟨j - 1, HJ.out.1, HJ.out.2.1, by rw [← HJ.out.2.2], by rw [HN.out], HBW.out⟩
               case measure => simp [intOf]; omega
           · obtain rfl : k = j := by omega
             have HEN5 := Lib.hid k5
             clear hbr k1 k2 k3 k4 k5
             go_wp2_with fail
             go_ret
             exact ⟨by rw [HF.out]; rfl, HEN5.out⟩
end Go.Proofs.YtekofpigmggbbaaDoor.chk
