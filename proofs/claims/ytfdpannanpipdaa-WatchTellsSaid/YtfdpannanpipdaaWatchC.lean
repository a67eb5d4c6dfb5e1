/- What was in a slot: the reference's value, walked. -/
import Derived.Test.YtfdpannanpipdaaWatchB
set_option linter.unusedVariables false
set_option linter.unusedSimpArgs false
namespace Go.Proofs.Ytfdpannanpipdaa.watch
open Go.Bk Go.RowKit

def valRel (w : World) (l : List Api.Event) (p s : Int) (n : Nat) (R : Option Api.Val) (g : Nat) (is i : Value) (w' : World) : Prop :=
  ∃ (k : Nat) (cur : Option Api.Val), k ≤ n ∧ i = .int .i64 k ∧ is = .bool cur.isSome ∧ cur.or (firstIn p s (l.drop k)) = R ∧ Blk w' g 24 [.int .i64 (cur.getD ⟨0, 0⟩).Kind, .int .i64 (cur.getD ⟨0, 0⟩).N] ∧ Blk w' w.heap.size 24 [.int .i64 0, .int .i64 0] ∧ Below w.heap.size w w'

set_option maxRecDepth 100000 in
set_option maxHeartbeats 1000000 in
theorem watchValue_any {S : Nat → Prop} {w : World} {a : Option Addr} {c n m : Nat} {l : List Api.Event} {p s : Int} (hn : l.length = n) (h : Arr S w a l) (hS : ∀ b, S b → b < w.heap.size) (hm : m ≤ n) :
    Calls Try.prog 16 #[.slice a n c, .int .i64 p, .int .i64 s, .int .i64 (m : Int)] w fun e w' => e = .returned (.tuple #[optV (valueOf l p s m), .bool (valueOf l p s m).isSome]) ∧ Below w.heap.size w w' := by
  have hsm := h.small
  rw [hn] at hsm
  unfold maxLen at hsm
  have HN := Lib.hid hn
  have HA : Hid (∀ w', Below w.heap.size w w' → Arr S w' a l) := fun w' hb => h.keep (fun b hb' => hb.block b (hS b hb'))
  have HS := Lib.hid hS
  clear hn h hS
  obtain ⟨R, hR⟩ : ∃ R, R = valueOf l p s m := ⟨_, rfl⟩
  rw [← hR]
  have HR : Hid ((known l p s m).or (firstIn p s (l.drop m)) = R) := hR.symm
  clear hR
  go_enter Try.func16, Try.ntmps16
  go_wp2_with fail
  have HB0 : Hid (Below w.heap.size w (w.alloc (.cells #[.int .i64 0, .int .i64 0] 24))) := (Below.refl _ _).alloc (Nat.le_refl _) _
  refine (watchKnown_any HN.out (HA.out _ HB0.out) (fun b hb => Nat.lt_of_lt_of_le (HS.out b hb) HB0.out.size) hm).mono ?_
  rintro e w1 ⟨rfl, hb⟩
  have HB1 := Lib.hid (HB0.out.trans (hb.mono HB0.out.size))
  have HZ1 : Hid (Blk w1 w.heap.size 24 [.int .i64 0, .int .i64 0]) := (blk_new w [.int .i64 0, .int .i64 0] 24).keep (hb.block _ (by simp))
  have hl1 := HZ1.out.lt
  have hbs1 := HB1.out.size
  clear hb HB0
  go_wp2_with fail
  obtain ⟨g, hg⟩ : ∃ g, g = w1.heap.size := ⟨_, rfl⟩
  have HV2 : Hid (Blk (w1.alloc (.cells #[.int .i64 ((known l p s m).getD ⟨0, 0⟩).Kind, .int .i64 ((known l p s m).getD ⟨0, 0⟩).N] 24)) g 24 [.int .i64 ((known l p s m).getD ⟨0, 0⟩).Kind, .int .i64 ((known l p s m).getD ⟨0, 0⟩).N]) := blk_new' (cs := [.int .i64 ((known l p s m).getD ⟨0, 0⟩).Kind, .int .i64 ((known l p s m).getD ⟨0, 0⟩).N]) hg
  have HZ2 : Hid (Blk (w1.alloc (.cells #[.int .i64 ((known l p s m).getD ⟨0, 0⟩).Kind, .int .i64 ((known l p s m).getD ⟨0, 0⟩).N] 24)) w.heap.size 24 [.int .i64 0, .int .i64 0]) := HZ1.out.below ((Below.refl _ _).alloc (Nat.le_refl _) _) hl1
  have HB2 : Hid (Below w.heap.size w (w1.alloc (.cells #[.int .i64 ((known l p s m).getD ⟨0, 0⟩).Kind, .int .i64 ((known l p s m).getD ⟨0, 0⟩).N] 24))) := HB1.out.alloc hbs1 _
  rw [← hg]
  have hgl : w.heap.size < g := by omega
  clear hg
  go_loopw [11, 12] (valRel w l p s n R g) (fun _ i _ => n - (intOf i).toNat)
  case atStart => exact ⟨m, known l p s m, hm, rfl, rfl, HR.out, HV2.out, HZ2.out, HB2.out⟩
  case round =>
    obtain ⟨k, cur, hk, rfl, rfl, hr, hblk, hres, hb⟩ := hrel
    have HRR := Lib.hid hr; have HB := Lib.hid hb; have HV := Lib.hid hblk; have HZ := Lib.hid hres
    have hbs := hb.size
    have hlg := hblk.lt
    clear hr hb hblk hres HV2 HZ2 HB2 HZ1 hl1 HB1 hbs1
    have hdone : Hid (∀ u v, Below w.heap.size w ((wr.setCell ⟨w.heap.size, 0, none⟩ u).setCell ⟨w.heap.size, 1, none⟩ v)) := fun u v => (HB.out.setCell (p := ⟨w.heap.size, 0, none⟩) (by simp) _).setCell (p := ⟨w.heap.size, 1, none⟩) (by simp) _
    have c0 := HV.out.cell (j := 0) rfl
    have c1 := HV.out.cell (j := 1) rfl
    have c2 := HZ.out.cell (j := 0) rfl
    have c3 := HZ.out.cell (j := 1) rfl
    have f2 := HZ.out.frozen 0
    have f3 := HZ.out.frozen 1
    cases hcur : cur with
    | some v =>
      rw [hcur] at HRR c0 c1
      have HRV : Hid (R = some v) := HRR.out.symm
      clear hcur HRR
      by_cases hlt : k < n
      all_goals
        go_wp2
        rw [HRV.out]
        exact bodyPost_ret (v := .tuple #[.agg #[.int .i64 v.Kind, .int .i64 v.N], .bool true]) (by simp [results, Try.results16, go_sem, c2, c3]) rfl ⟨rfl, hdone.out _ _⟩
    | none =>
      rw [hcur] at HRR c0 c1 HV
      clear hcur
      by_cases hlt : k < n
      · obtain ⟨x, hx⟩ : ∃ x, l[k]? = some x := ⟨_, List.getElem?_eq_getElem (by have := HN.out; omega)⟩
        have HFI := Lib.hid (firstIn_drop hx p s)
        have HX := Lib.hid hx
        obtain ⟨b1, o1, rfl, hsb, q0, q1, q2, q3, q4, q5, q6, q7, q8, q9, q10, q11, -⟩ := api_Event_elem (HA.out _ HB.out) hx
        clear hx
        have hsb' := HS.out _ hsb
        clear hsb
        have HC3 : Hid (∀ w, Calls Try.prog 19 #[evV x, .int .i64 3, .int .i64 p, .int .i64 s] w fun e w' => e = .returned (.bool (isAt x 3 p s)) ∧ Below w.heap.size w w') := fun w => isAt_any w x 3 p s
        have HC4 : Hid (∀ w, Calls Try.prog 19 #[evV x, .int .i64 4, .int .i64 p, .int .i64 s] w fun e w' => e = .returned (.bool (isAt x 4 p s)) ∧ Below w.heap.size w w') := fun w => isAt_any w x 4 p s
        cases h4 : isAt x 4 p s with
        | true =>
          have h3 := at_both h4
          have HR2 : Hid (some x.Old = R) := by show _ = _; have := HRR.out; rw [HFI.out, h4] at this; exact this
          rw [h3] at HC3
          rw [h4] at HC4
          clear h3 h4 HRR hdone
          go_wp2_with (first | (with_reducible refine (HC3.out _).mono ?_; rintro e w2 ⟨rfl, hb'⟩; have HB1 := Lib.hid (HB.out.trans (hb'.mono hbs)); have hbs1 := HB1.out.size; have HV1 := Lib.hid (HV.out.keep (hb'.block _ HV.out.lt)); have HZ1 := Lib.hid (HZ.out.keep (hb'.block _ HZ.out.lt)); clear hb'; obtain ⟨_, _, e9, -, r0, r1, r2, r3, r4, r5, r6, r7, r8, r9, r10, r11, -⟩ := api_Event_elem (HA.out _ HB1.out) HX.out; cases e9; have c0r := HV1.out.cell (j := 0) rfl; have c1r := HV1.out.cell (j := 1) rfl; have f0r := HV1.out.frozen 0; have f1r := HV1.out.frozen 1; have hlr := HV1.out.lt) | (with_reducible refine (HC4.out _).mono ?_; rintro e w3 ⟨rfl, hb'⟩; have HB2 := Lib.hid (HB1.out.trans (hb'.mono hbs1)); have hbs2 := HB2.out.size; have HV2 := Lib.hid (HV1.out.keep (hb'.block _ HV1.out.lt)); have HZ2 := Lib.hid (HZ1.out.keep (hb'.block _ HZ1.out.lt)); clear hb'; obtain ⟨_, _, e9, -, t0, t1, t2, t3, t4, t5, t6, t7, t8, t9, t10, t11, -⟩ := api_Event_elem (HA.out _ HB2.out) HX.out; cases e9; have c0t := HV2.out.cell (j := 0) rfl; have c1t := HV2.out.cell (j := 1) rfl; have f0t := HV2.out.frozen 0; have f1t := HV2.out.frozen 1; have hlt := HV2.out.lt))
          go_roundw
          case rel => exact ⟨k + 1, some x.Old, by omega, by go_num, rfl, HR2.out, (HV2.out.set 0 _).set 1 _, HZ2.out.keep ((set_other _ (by omega)).trans (set_other _ (by omega))), (HB2.out.setCell (p := ⟨g, 0, none⟩) (by simp; omega) _).setCell (p := ⟨g, 1, none⟩) (by simp; omega) _⟩
          case measure => simp [intOf]; omega
        | false =>
          cases h3 : isAt x 3 p s with
          | true =>
            have HR2 : Hid (some x.Val = R) := by show _ = _; have := HRR.out; rw [HFI.out, h4, h3] at this; exact this
            rw [h3] at HC3
            rw [h4] at HC4
            clear h3 h4 HRR hdone
            have HST : Hid (∀ W, Blk W g 24 [.int .i64 0, .int .i64 0] → Blk W w.heap.size 24 [.int .i64 0, .int .i64 0] → Below w.heap.size w W → Blk ((W.setCell ⟨g, 0, none⟩ (.int .i64 x.Val.Kind)).setCell ⟨g, 1, none⟩ (.int .i64 x.Val.N)) g 24 [.int .i64 x.Val.Kind, .int .i64 x.Val.N] ∧ Blk ((W.setCell ⟨g, 0, none⟩ (.int .i64 x.Val.Kind)).setCell ⟨g, 1, none⟩ (.int .i64 x.Val.N)) w.heap.size 24 [.int .i64 0, .int .i64 0] ∧ Below w.heap.size w ((W.setCell ⟨g, 0, none⟩ (.int .i64 x.Val.Kind)).setCell ⟨g, 1, none⟩ (.int .i64 x.Val.N))) := fun W h1 h2 h3 => ⟨(h1.set 0 _).set 1 _, h2.keep ((set_other _ (by omega)).trans (set_other _ (by omega))), (h3.setCell (p := ⟨g, 0, none⟩) (Nat.le_of_lt hgl) _).setCell (p := ⟨g, 1, none⟩) (Nat.le_of_lt hgl) _⟩
            have hne : ∀ (W : World) (j v k), (W.setCell ⟨g, j, none⟩ v).cell? ⟨b1, k, none⟩ = W.cell? ⟨b1, k, none⟩ := fun W j v k => World.cell?_of_block (w := W) (set_other _ (by show b1 ≠ g; omega))
            go_wp2_with (first | (with_reducible refine (HC3.out _).mono ?_; rintro e w2 ⟨rfl, hb'⟩; have HB1 := Lib.hid (HB.out.trans (hb'.mono hbs)); have hbs1 := HB1.out.size; have HV1 := Lib.hid (HV.out.keep (hb'.block _ HV.out.lt)); have HZ1 := Lib.hid (HZ.out.keep (hb'.block _ HZ.out.lt)); clear hb'; obtain ⟨_, _, e9, -, r0, r1, r2, r3, r4, r5, r6, r7, r8, r9, r10, r11, -⟩ := api_Event_elem (HA.out _ HB1.out) HX.out; cases e9; have c0r := HV1.out.cell (j := 0) rfl; have c1r := HV1.out.cell (j := 1) rfl; have f0r := HV1.out.frozen 0; have f1r := HV1.out.frozen 1; have hlr := HV1.out.lt; obtain ⟨hv1s, hz1s, hb1s⟩ := HST.out _ HV1.out HZ1.out HB1.out; have HV1S := Lib.hid hv1s; have HZ1S := Lib.hid hz1s; have HB1S := Lib.hid hb1s; clear hv1s hz1s hb1s; have hbs1S := HB1S.out.size) | (with_reducible refine (HC4.out _).mono ?_; rintro e w3 ⟨rfl, hb'⟩; have HB2 := Lib.hid (HB1S.out.trans (hb'.mono hbs1S)); have hbs2 := HB2.out.size; have HV2 := Lib.hid (HV1S.out.keep (hb'.block _ HV1S.out.lt)); have HZ2 := Lib.hid (HZ1S.out.keep (hb'.block _ HZ1S.out.lt)); clear hb'))
            go_roundw
            case rel => exact ⟨k + 1, some x.Val, by omega, by go_num, rfl, HR2.out, HV2.out, HZ2.out, HB2.out⟩
            case measure => simp [intOf]; omega
          | false =>
            have HR2 : Hid ((none : Option Api.Val).or (firstIn p s (l.drop (k + 1))) = R) := by show _ = _; have := HRR.out; rw [HFI.out, h4, h3] at this; exact this
            rw [h3] at HC3
            rw [h4] at HC4
            clear h3 h4 HRR hdone
            go_wp2_with (first | (with_reducible refine (HC3.out _).mono ?_; rintro e w2 ⟨rfl, hb'⟩; have HB1 := Lib.hid (HB.out.trans (hb'.mono hbs)); have hbs1 := HB1.out.size; have HV1 := Lib.hid (HV.out.keep (hb'.block _ HV.out.lt)); have HZ1 := Lib.hid (HZ.out.keep (hb'.block _ HZ.out.lt)); clear hb'; obtain ⟨_, _, e9, -, r0, r1, r2, r3, r4, r5, r6, r7, r8, r9, r10, r11, -⟩ := api_Event_elem (HA.out _ HB1.out) HX.out; cases e9; have c0r := HV1.out.cell (j := 0) rfl; have c1r := HV1.out.cell (j := 1) rfl; have f0r := HV1.out.frozen 0; have f1r := HV1.out.frozen 1; have hlr := HV1.out.lt) | (with_reducible refine (HC4.out _).mono ?_; rintro e w3 ⟨rfl, hb'⟩; have HB2 := Lib.hid (HB1.out.trans (hb'.mono hbs1)); have hbs2 := HB2.out.size; have HV2 := Lib.hid (HV1.out.keep (hb'.block _ HV1.out.lt)); have HZ2 := Lib.hid (HZ1.out.keep (hb'.block _ HZ1.out.lt)); clear hb'; obtain ⟨_, _, e9, -, t0, t1, t2, t3, t4, t5, t6, t7, t8, t9, t10, t11, -⟩ := api_Event_elem (HA.out _ HB2.out) HX.out; cases e9; have c0t := HV2.out.cell (j := 0) rfl; have c1t := HV2.out.cell (j := 1) rfl; have f0t := HV2.out.frozen 0; have f1t := HV2.out.frozen 1; have hlt := HV2.out.lt))
            go_roundw
            case rel => exact ⟨k + 1, none, by omega, by go_num, rfl, HR2.out, HV2.out, HZ2.out, HB2.out⟩
            case measure => simp [intOf]; omega
      · obtain rfl : k = n := by omega
        have HRV : Hid (R = none) := by show _ = _; have := HRR.out; rw [firstIn_end (by rw [HN.out]; exact Nat.le_refl _)] at this; exact this.symm
        clear HRR
        go_wp2
        rw [HRV.out]
        exact bodyPost_ret (v := .tuple #[.agg #[.int .i64 0, .int .i64 0], .bool false]) (by simp [results, Try.results16, go_sem, c2, c3]) rfl ⟨rfl, hdone.out _ _⟩
end Go.Proofs.Ytfdpannanpipdaa.watch
