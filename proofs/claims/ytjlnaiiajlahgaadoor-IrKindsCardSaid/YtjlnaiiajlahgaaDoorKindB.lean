/- ir.Kind: walked. -/
import Derived.Test.YtjlnaiiajlahgaaDoorKindA
set_option linter.unusedVariables false
set_option linter.unusedSimpArgs false
namespace Go.Proofs.YtjlnaiiajlahgaaDoor.chk
open Go.Bk Go.RowKit Go.Proofs.YtjlnaiiajlahgaaDoor.ir

theorem upK_step {ins : List Api.TIns} {v : Int} {i hi : Nat} {y : Api.TIns} (hy : ins[i]? = some y) (hl : lookK v y = none) (h : i < hi) : upK ins v i (hi - i) = upK ins v (i + 1) (hi - (i + 1)) := by
  obtain ⟨n, hn⟩ : ∃ n, hi - i = n + 1 := ⟨hi - i - 1, by omega⟩
  rw [hn]
  show (match atK ins v i with | some k => some k | none => upK ins v (i + 1) n) = _
  have : atK ins v i = none := by unfold atK; rw [hy]; exact hl
  rw [this, show hi - (i + 1) = n by omega]
theorem upK_hit {ins : List Api.TIns} {v : Int} {i hi : Nat} {y : Api.TIns} {k : Int} (hy : ins[i]? = some y) (hl : lookK v y = some k) (h : i < hi) : upK ins v i (hi - i) = some k := by
  obtain ⟨n, hn⟩ : ∃ n, hi - i = n + 1 := ⟨hi - i - 1, by omega⟩
  rw [hn]
  show (match atK ins v i with | some k => some k | none => upK ins v (i + 1) n) = _
  have : atK ins v i = some k := by unfold atK; rw [hy]; exact hl
  rw [this]
theorem upK_end {ins : List Api.TIns} {v : Int} {i hi : Nat} (h : hi ≤ i) : upK ins v i (hi - i) = none := by
  rw [show hi - i = 0 by omega]; rfl
set_option maxRecDepth 100000 in
set_option maxHeartbeats 1000000 in
theorem kind_any : ∀ (n : Nat) (S : Nat → Prop) (w : World) (T : Array Value) (t : Api.TTrace) (ht : Rep.cells S w T.toList t) (hS : ∀ b, S b → b < w.heap.size) (v at' : Int) (hv : v.toNat < n ∨ v < 0 ∨ at' ≤ v ∨ (t.Ins.length : Int) < at'),
    Calls Tryd.prog 15 #[.agg T, .int .i64 v, .int .i64 at'] w fun e w' => e = .returned (.int .i64 (kindG t.Ins (fun _ => -1) n v at')) ∧ Below w.heap.size w w' := by
  intro n
  induction n with
  | zero =>
    intro S w T t ht hS v at' hv
    obtain ⟨aI, nI, cI, hT⟩ := tin_of ht
    rw [kindG_bad (by omega)]
    have hbad : v < 0 ∨ at' ≤ v ∨ (nI : Int) < at' := by rw [← hT.len]; omega
    have hsT := hT.size
    have hfew := hT.few
    obtain ⟨w1, hw1⟩ : ∃ w1, w1 = w.alloc (.cells T 29) := ⟨_, rfl⟩
    have HB1 : Hid (Below w.heap.size w w1) := by show Below _ _ _; rw [hw1]; exact cod.below_al2 _
    have r1 := row_new w T 29
    rw [← hw1] at r1
    have q3 := r1.cell hT.c3
    have l1 := r1.lt
    clear ht hS hT r1 hv
    go_enter Tryd.func15, Tryd.ntmps15
    go_upto_region 1 with fail
    rw [← hw1]
    clear hw1
    rcases (show decide (v < 0) = true ∨ (decide (v < 0) = false ∧ decide (at' ≤ v) = true) ∨ (decide (v < 0) = false ∧ decide (at' ≤ v) = false ∧ decide ((nI : Int) < at') = true) by
      simp only [decide_eq_true_eq, decide_eq_false_iff_not]
      omega) with e1 | ⟨e1, e2⟩ | ⟨e1, e2, e3⟩
    all_goals
      clear hbad
      go_wp2_with fail
      go_ret
      exact ⟨rfl, HB1.out⟩
  | succ n ih =>
    intro S w T t ht hS v at' hv
    have HIH := Lib.hid ih
    obtain ⟨aI, nI, cI, hT⟩ := tin_of ht
    have hsT := hT.size
    have hfew := hT.few
    obtain ⟨w1, hw1⟩ : ∃ w1, w1 = w.alloc (.cells T 29) := ⟨_, rfl⟩
    have hb1 : Below w.heap.size w w1 := by rw [hw1]; exact cod.below_al2 _
    have HB1 := Lib.hid hb1
    have r1 := row_new w T 29
    rw [← hw1] at r1
    have q3 := r1.cell hT.c3
    have l1 := r1.lt
    clear ih
    by_cases hbad : v < 0 ∨ at' ≤ v ∨ (nI : Int) < at'
    · rw [kindG_bad (by rw [hT.len]; exact hbad)]
      clear ht hS hT r1 hb1 hv HIH
      go_enter Tryd.func15, Tryd.ntmps15
      go_upto_region 1 with fail
      rw [← hw1]
      clear hw1
      rcases (show decide (v < 0) = true ∨ (decide (v < 0) = false ∧ decide (at' ≤ v) = true) ∨ (decide (v < 0) = false ∧ decide (at' ≤ v) = false ∧ decide ((nI : Int) < at') = true) by
        simp only [decide_eq_true_eq, decide_eq_false_iff_not]
        omega) with e1 | ⟨e1, e2⟩ | ⟨e1, e2, e3⟩
      all_goals
        clear hbad
        go_wp2_with fail
        go_ret
        exact ⟨rfl, HB1.out⟩
    · obtain ⟨k, rfl⟩ : ∃ k : Nat, v = k := ⟨v.toNat, by omega⟩
      obtain ⟨hi, rfl⟩ : ∃ hi : Nat, at' = hi := ⟨at'.toNat, by omega⟩
      obtain ⟨x, hx⟩ : ∃ x, t.Ins[k]? = some x := ⟨_, List.getElem?_eq_getElem (by rw [hT.len]; omega)⟩
      have HKG : Hid (kindG t.Ins (fun _ => -1) (n + 1) k hi = if tellsOf x.Op = false then -1
        else if 0 ≤ ownK (kindG t.Ins (fun _ => -1) n x.A k) x then ownK (kindG t.Ins (fun _ => -1) n x.A k) x
        else match upK t.Ins k (k + 1) (hi - (k + 1)) with
          | some q => q
          | none => -1) := by
        show _ = _
        rw [kindG_at (by omega) (by rw [hT.len]; omega) hx]
        rfl
      obtain ⟨res, hres⟩ : ∃ q, q = kindG t.Ins (fun _ => -1) (n + 1) k hi := ⟨_, rfl⟩
      rw [← hres] at HKG ⊢
      obtain ⟨bi, oi, he, hSi⟩ : ∃ bi oi, aI = some ⟨bi, oi, none⟩ ∧ S bi := by
        obtain ⟨b, o, h1, h2, -⟩ := api_TIns_elem hT.ins hx
        exact ⟨b, o, h1, h2⟩
      subst he
      have i0 := (tins_all (hT.ins.keep (w' := w1) fun b hb => hb1.block b (hS b hb)) hx).1
      have hbi : bi < w1.heap.size := Nat.lt_of_lt_of_le (hS bi hSi) hb1.size
      have HCE : Hid (∀ W, Below w1.heap.size w1 W → Row W w.heap.size 29 T ∧ Rep.cells S W T.toList t ∧ TIn S W T t (some ⟨bi, oi, none⟩) nI cI ∧ (∀ b, S b → b < W.heap.size) ∧ Below w.heap.size w W) := fun W hb => by
        have hbw : Below w.heap.size w W := hb1.trans (hb.mono hb1.size)
        have hk : ∀ b, S b → W.heap[b]? = w.heap[b]? := fun b hb' => hbw.block b (hS b hb')
        exact ⟨r1.keep (hb.block _ r1.lt), Rep.keep hk ht, ⟨hT.size, hT.c3, hT.ins.keep hk, hT.len, hT.few⟩, fun b hb' => Nat.lt_of_lt_of_le (hS b hb') hbw.size, hbw⟩
      have HX := Lib.hid hx
      have HSi := Lib.hid hSi
      have e1 : decide ((k : Int) < 0) = false := decide_eq_false (by omega)
      have e2 : decide ((hi : Int) ≤ (k : Int)) = false := decide_eq_false (by omega)
      have e3 : decide ((nI : Int) < (hi : Int)) = false := decide_eq_false (by omega)
      have e4 : decide (hi ≤ k) = false := decide_eq_false (by omega)
      have e5 : decide (nI < hi) = false := decide_eq_false (by omega)
      have hk1 : (k : Int) < (nI : Int) := by omega
      have HHI : Hid (k < hi ∧ hi ≤ nI) := ⟨by omega, by omega⟩
      have HKN : Hid (k < n + 1) := by
        have h := HHI.out
        have hl := hT.len
        show k < n + 1
        rcases hv with h1 | h1 | h1 | h1 <;> omega
      clear ht hS hT r1 hb1 hbad hres hx hSi hv
      go_enter Tryd.func15, Tryd.ntmps15
      go_upto_region 1 with fail
      rw [← hw1]
      clear hw1
      cases htl : tellsOf x.Op with
      | false =>
        have HF : Hid (res = -1) := by show _ = _; rw [HKG.out, if_pos htl]
        have HTL : Hid (∀ w, Calls Tryd.prog 23 #[.int .i64 x.Op] w fun e w' => e = .returned (.bool false) ∧ Below w.heap.size w w') := fun w => by rw [← htl]; exact tells_any
        clear htl
        go_wp2_with (go_at_call 23; (with_reducible refine (HTL.out _).mono ?_); rintro e w2 ⟨rfl, hb2⟩; have HB2 := Lib.hid hb2; clear hb2)
        go_ret
        exact ⟨by rw [HF.out]; rfl, (HCE.out _ HB2.out).2.2.2.2⟩
      | true =>
        obtain ⟨q, hq⟩ : ∃ q, q = ownK (kindG t.Ins (fun _ => -1) n x.A k) x := ⟨_, rfl⟩
        have HKG2 : Hid (res = if 0 ≤ q then q else match upK t.Ins k (k + 1) (hi - (k + 1)) with | some q => q | none => -1) := by
          show _ = _
          rw [HKG.out, htl, ← hq]; rfl
        have HTL : Hid (∀ w, Calls Tryd.prog 23 #[.int .i64 x.Op] w fun e w' => e = .returned (.bool true) ∧ Below w.heap.size w w') := fun w => by rw [← htl]; exact tells_any
        have HOW : Hid (∀ W, Below w1.heap.size w1 W → Calls Tryd.prog 44 #[.agg T, .int .i64 k] W fun e w' => e = .returned (.int .i64 q) ∧ Below w1.heap.size w1 w') := fun W hb => by
          obtain ⟨k1, k2, k3, k4, k5⟩ := HCE.out W hb
          have h := own_any (r := kindG t.Ins (fun _ => -1) n x.A k) k2 k4 HX.out (fun W' hb' => by
            refine HIH.out S W' T t (Rep.keep (fun b hb'' => hb'.block b (k4 b hb'')) k2) (fun b hb'' => Nat.lt_of_lt_of_le (k4 b hb'') hb'.size) x.A k ?_
            have := HKN.out
            omega)
          rw [← hq] at h
          exact h.mono fun e w' ⟨he, hb'⟩ => ⟨he, hb.trans (hb'.mono hb.size)⟩
        have HRW : Hid (∀ W, Below w1.heap.size w1 W → Row W w.heap.size 29 T) := fun W hb => (HCE.out W hb).1
        clear htl hq HKG HIH
        by_cases hq0 : 0 ≤ q
        · have HF : Hid (res = q) := by show _ = _; rw [HKG2.out, if_pos hq0]
          go_wp2_with (first
            | (go_at_call 23; (with_reducible refine (HTL.out _).mono ?_); rintro e w2 ⟨rfl, hb2⟩; have HB2 := Lib.hid hb2; clear hb2)
            | (with_reducible refine ldT rfl rfl rfl (HRW.out _ HB2.out) hsT ?_)
            | (go_at_call 44; (with_reducible refine (HOW.out _ HB2.out).mono ?_); rintro e w3 ⟨rfl, hb3⟩; have HB3 := Lib.hid hb3; clear hb3))
          go_ret
          exact ⟨by rw [HF.out]; rfl, (HCE.out _ HB3.out).2.2.2.2⟩
        · have HF : Hid (res = match upK t.Ins k (k + 1) (hi - (k + 1)) with | some q => q | none => -1) := by show _ = _; rw [HKG2.out, if_neg hq0]
          have hq1 : q < 0 := by omega
          go_wp2_with (first
            | (go_at_call 23; (with_reducible refine (HTL.out _).mono ?_); rintro e w2 ⟨rfl, hb2⟩; have HB2 := Lib.hid hb2; clear hb2)
            | (with_reducible refine ldT rfl rfl rfl (HRW.out _ HB2.out) hsT ?_)
            | (go_at_call 44; (with_reducible refine (HOW.out _ HB2.out).mono ?_); rintro e w3 ⟨rfl, hb3⟩; have HB3 := Lib.hid hb3; clear hb3))
          clear q3 l1 i0 hbi e1 e2 e3 e4 e5 hq0
          go_loopw [8] (fun i wr => ∃ j : Nat, k < j ∧ j ≤ hi ∧ i = .int .i64 j ∧ upK t.Ins k (k + 1) (hi - (k + 1)) = upK t.Ins k j (hi - j) ∧ Below w1.heap.size w1 wr) (fun i _ => hi - (intOf i).toNat)
          case atStart => exact ⟨k + 1, by omega, HHI.out.1, by go_num, rfl, HB3.out⟩
          case round =>
            obtain ⟨j, hj0, hj, rfl, hup, hbr⟩ := hrel
            have HUP := Lib.hid hup; have HBR := Lib.hid hbr
            obtain ⟨k1, k2, k3, k4, k5⟩ := HCE.out wr hbr
            by_cases hlt : j < hi
            · have hjn : (j : Int) < (nI : Int) := by have := HHI.out.2; omega
              obtain ⟨y, hy⟩ : ∃ y, t.Ins[j]? = some y := ⟨_, List.getElem?_eq_getElem (by rw [k3.len]; omega)⟩
              obtain ⟨i0, i1, i2, i3, i4, i5, i6, i7⟩ := tins_all k3.ins hy
              have hbi := k4 bi HSi.out
              have q3 := k1.cell k3.c3
              have l1 := k1.lt
              obtain ⟨w5, hw5⟩ : ∃ w5, w5 = wr.alloc (.cells #[.int .i64 y.Op, .int .i64 y.A, .int .i64 y.B, .int .i64 y.C, .int .i64 y.N, .int .i64 y.Exit, .int .i64 y.K.Kind, .int .i64 y.K.N] 66) := ⟨_, rfl⟩
              have hb5 : Below wr.heap.size wr w5 := by rw [hw5]; exact cod.below_al2 _
              have HB5 : Hid (Below w1.heap.size w1 w5) := hbr.trans (hb5.mono hbr.size)
              have hrow := row_new wr #[.int .i64 y.Op, .int .i64 y.A, .int .i64 y.B, .int .i64 y.C, .int .i64 y.N, .int .i64 y.Exit, .int .i64 y.K.Kind, .int .i64 y.K.N] 66
              rw [← hw5] at hrow
              have z0 := hrow.cell (j := 0) rfl; have z1 := hrow.cell (j := 1) rfl; have z4 := hrow.cell (j := 4) rfl; have z6 := hrow.cell (j := 6) rfl
              have lI := hrow.lt
              have HY := Lib.hid hy
              have HEN5 : Hid (Below w.heap.size w w5) := k5.trans (hb5.mono k5.size)
              clear hy hup hbr k1 k2 k3 k4 k5 hb5 hrow
              go_upto_region 10 with fail
              rw [← hw5]
              clear hw5 i0 i1 i2 i3 i4 i5 i6 i7 hbi q3 l1
              have HST : Hid (lookK k y = none → upK t.Ins k (k + 1) (hi - (k + 1)) = upK t.Ins k (j + 1) (hi - (j + 1))) := fun h => by rw [HUP.out]; exact upK_step HY.out h hlt
              have HHT : Hid (∀ q, lookK k y = some q → res = q) := fun q h => by rw [HF.out, HUP.out, upK_hit HY.out h hlt]
              have HLK : Hid (lookK k y = if y.A = (k : Int) then (if y.Op = 4 then some y.N else if y.Op = 6 then some y.K.Kind else if y.Op = 9 then some 5 else none) else none) := rfl
              by_cases hA : y.A = (k : Int)
              · have dA : (y.A != (k : Int)) = false := by simp [hA]
                have HLK2 : Hid (lookK k y = if y.Op = 4 then some y.N else if y.Op = 6 then some y.K.Kind else if y.Op = 9 then some 5 else none) := by show _ = _; rw [HLK.out, if_pos hA]
                clear hA
                by_cases o4 : y.Op = 4
                · have d4 : (y.Op == 4) = true := by simp [o4]
                  have HR : Hid (res = y.N) := HHT.out _ (by rw [HLK2.out, if_pos o4])
                  clear o4
                  go_wp2_with fail
                  go_ret
                  exact ⟨by rw [HR.out]; rfl, HEN5.out⟩
                · have d4 : (y.Op == 4) = false := by simpa using o4
                  by_cases o6 : y.Op = 6
                  · have d6 : (y.Op == 6) = true := by simp [o6]
                    have HR : Hid (res = y.K.Kind) := HHT.out _ (by rw [HLK2.out, if_neg o4, if_pos o6])
                    clear o4 o6
                    go_wp2_with fail
                    go_ret
                    exact ⟨by rw [HR.out]; rfl, HEN5.out⟩
                  · have d6 : (y.Op == 6) = false := by simpa using o6
                    by_cases o9 : y.Op = 9
                    · have d9 : (y.Op == 9) = true := by simp [o9]
                      have HR : Hid (res = 5) := HHT.out _ (by rw [HLK2.out, if_neg o4, if_neg o6, if_pos o9])
                      clear o4 o6 o9
                      go_wp2_with fail
                      go_ret
                      exact ⟨by rw [HR.out]; rfl, HEN5.out⟩
                    · have d9 : (y.Op == 9) = false := by simpa using o9
                      have HN := Lib.hid (HST.out (by rw [HLK2.out, if_neg o4, if_neg o6, if_neg o9]))
                      clear o4 o6 o9
                      go_wp2_with fail
                      go_roundw
                      case rel => exact ⟨j + 1, by omega, by omega, by go_num, HN.out, HB5.out⟩
                      case measure => simp [intOf]; omega
              · have dA : (y.A != (k : Int)) = true := by simpa using hA
                have HN := Lib.hid (HST.out (by rw [HLK.out, if_neg hA]))
                clear hA
                go_wp2_with fail
                go_roundw
                case rel => exact ⟨j + 1, by omega, by omega, by go_num, HN.out, HB5.out⟩
                case measure => simp [intOf]; omega
            · have HR : Hid (res = -1) := by
                show _ = _
                rw [HF.out, HUP.out, upK_end (by omega)]
              have HEN5 := Lib.hid k5
              clear hup hbr k1 k2 k3 k4 k5
              go_wp2_with fail
              go_ret
              exact ⟨by rw [HR.out]; rfl, HEN5.out⟩
end Go.Proofs.YtjlnaiiajlahgaaDoor.chk
