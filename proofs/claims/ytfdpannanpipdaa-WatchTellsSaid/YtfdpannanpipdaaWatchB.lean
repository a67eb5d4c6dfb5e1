/- What was in a slot: the reference's askers, walked. -/
import Derived.Test.YtfdpannanpipdaaWatchA
set_option linter.unusedVariables false
set_option linter.unusedSimpArgs false
namespace Go.Proofs.Ytfdpannanpipdaa.watch
open Go.Bk Go.RowKit

def optI : Option Nat → Int
  | some j => (j : Int)
  | none => -1
theorem set_other {w : World} {g b k : Nat} (v : Value) (h : b ≠ g) : (w.setCell ⟨g, k, none⟩ v).heap[b]? = w.heap[b]? := by
  simp only [World.setCell]
  rw [Array.getElem?_modify, if_neg (fun e => h e.symm)]
abbrev optV (o : Option Api.Val) : Value := valV (o.getD ⟨0, 0⟩)

set_option maxRecDepth 100000 in
theorem watchLast_any {S : Nat → Prop} {w : World} {a : Option Addr} {c n m : Nat} {l : List Api.Event} {p s : Int} (hn : l.length = n) (h : Arr S w a l) (hS : ∀ b, S b → b < w.heap.size) (hm : m ≤ n) :
    Calls Try.prog 17 #[.slice a n c, .int .i64 p, .int .i64 s, .int .i64 (m : Int)] w fun e w' => e = .returned (.int .i64 (optI (lastW l p s m))) ∧ Below w.heap.size w w' := by
  have hsm := h.small
  rw [hn] at hsm
  unfold maxLen at hsm
  have HN := Lib.hid hn
  have HA : Hid (∀ w', Below w.heap.size w w' → Arr S w' a l) := fun w' hb => h.keep (fun b hb' => hb.block b (hS b hb'))
  clear hn h hS
  go_enter Try.func17, Try.ntmps17
  go_wp2
  go_loopw [9, 10] (fun o i w' => ∃ k : Nat, k ≤ m ∧ i = .int .i64 k ∧ o = .int .i64 (optI (lastW l p s k)) ∧ Below w.heap.size w w') (fun _ i _ => m - (intOf i).toNat)
  case atStart => exact ⟨0, Nat.zero_le _, rfl, rfl, Below.refl _ _⟩
  case round =>
    obtain ⟨k, hk, rfl, rfl, hb⟩ := hrel
    have HB := Lib.hid hb
    have hbs := hb.size
    clear hb
    by_cases hlt : k < m
    · obtain ⟨x, hx⟩ : ∃ x, l[k]? = some x := ⟨_, List.getElem?_eq_getElem (by have := HN.out; omega)⟩
      have HL := Lib.hid (lastW_succ hx p s)
      obtain ⟨b1, o1, rfl, -, q0, q1, q2, q3, q4, q5, q6, q7, q8, q9, q10, q11, -⟩ := api_Event_elem (HA.out _ HB.out) hx
      clear hx
      cases hi : isAt x 4 p s with
      | true =>
        have HI : Hid (lastW l p s (k + 1) = some k) := by show _ = _; rw [HL.out, hi]; rfl
        have HC : Hid (∀ w, Calls Try.prog 19 #[evV x, .int .i64 4, .int .i64 p, .int .i64 s] w fun e w' => e = .returned (.bool true) ∧ Below w.heap.size w w') := fun w => hi ▸ isAt_any w x 4 p s
        clear hi
        go_wp2_with (with_reducible refine (HC.out _).mono ?_; rintro e w' ⟨rfl, hb'⟩; have HB' := Lib.hid hb'; clear hb')
        go_roundw
        case rel => exact ⟨k + 1, by omega, by go_num, by rw [HI.out]; rfl, HB.out.trans (HB'.out.mono hbs)⟩
        case measure => simp [intOf]; omega
      | false =>
        have HI : Hid (lastW l p s (k + 1) = lastW l p s k) := by show _ = _; rw [HL.out, hi]; rfl
        have HC : Hid (∀ w, Calls Try.prog 19 #[evV x, .int .i64 4, .int .i64 p, .int .i64 s] w fun e w' => e = .returned (.bool false) ∧ Below w.heap.size w w') := fun w => hi ▸ isAt_any w x 4 p s
        clear hi
        go_wp2_with (with_reducible refine (HC.out _).mono ?_; rintro e w' ⟨rfl, hb'⟩; have HB' := Lib.hid hb'; clear hb')
        go_roundw
        case rel => exact ⟨k + 1, by omega, by go_num, by rw [HI.out], HB.out.trans (HB'.out.mono hbs)⟩
        case measure => simp [intOf]; omega
    · obtain rfl : k = m := by omega
      go_wp2
      go_ret
      exact ⟨rfl, HB.out⟩

set_option maxRecDepth 100000 in
theorem watchKnown_any {S : Nat → Prop} {w : World} {a : Option Addr} {c n m : Nat} {l : List Api.Event} {p s : Int} (hn : l.length = n) (h : Arr S w a l) (hS : ∀ b, S b → b < w.heap.size) (hm : m ≤ n) :
    Calls Try.prog 68 #[.slice a n c, .int .i64 p, .int .i64 s, .int .i64 (m : Int)] w fun e w' => e = .returned (.tuple #[optV (known l p s m), .bool (known l p s m).isSome]) ∧ Below w.heap.size w w' := by
  have hsm := h.small
  rw [hn] at hsm
  unfold maxLen at hsm
  have HN := Lib.hid hn
  have HA : Hid (∀ w', Below w.heap.size w w' → Arr S w' a l) := fun w' hb => h.keep (fun b hb' => hb.block b (hS b hb'))
  clear hn h hS
  go_enter Try.func68, Try.ntmps68
  go_wp2
  have HZ0 : Hid (Blk ((w.alloc (.cells #[.int .i64 0, .int .i64 0] 24)).alloc (.cells #[.int .i64 0, .int .i64 0] 24)) w.heap.size 24 [.int .i64 0, .int .i64 0]) := (blk_new w [.int .i64 0, .int .i64 0] 24).below ((Below.refl _ _).alloc (Nat.le_refl _) _) (by simp)
  have HV0 : Hid (Blk ((w.alloc (.cells #[.int .i64 0, .int .i64 0] 24)).alloc (.cells #[.int .i64 0, .int .i64 0] 24)) (w.heap.size + 1) 24 [.int .i64 0, .int .i64 0]) := blk_new' (w := w.alloc (.cells #[.int .i64 0, .int .i64 0] 24)) (cs := [.int .i64 0, .int .i64 0]) (by simp)
  go_loopw [11, 12] (fun o i w' => ∃ k : Nat, k ≤ m ∧ i = .int .i64 k ∧ o = .bool (known l p s k).isSome ∧ Blk w' (w.heap.size + 1) 24 [.int .i64 ((known l p s k).getD ⟨0, 0⟩).Kind, .int .i64 ((known l p s k).getD ⟨0, 0⟩).N] ∧ Blk w' w.heap.size 24 [.int .i64 0, .int .i64 0] ∧ Below w.heap.size w w') (fun _ i _ => m - (intOf i).toNat)
  case atStart => exact ⟨0, Nat.zero_le _, rfl, rfl, HV0.out, HZ0.out, ((Below.refl _ _).alloc (Nat.le_refl _) _).alloc (by simp) _⟩
  case round =>
    obtain ⟨k, hk, rfl, rfl, hblk, hres, hb⟩ := hrel
    have HB := Lib.hid hb; have HV := Lib.hid hblk; have HZ := Lib.hid hres
    have hbs := hb.size
    have hl1 := hblk.lt
    clear hb hblk hres HZ0 HV0
    by_cases hlt : k < m
    · obtain ⟨x, hx⟩ : ∃ x, l[k]? = some x := ⟨_, List.getElem?_eq_getElem (by have := HN.out; omega)⟩
      have HKS := Lib.hid (known_succ hx p s)
      have HX := Lib.hid hx
      obtain ⟨b1, o1, rfl, -, q0, q1, q2, q3, q4, q5, q6, q7, q8, q9, q10, q11, -⟩ := api_Event_elem (HA.out _ HB.out) hx
      clear hx
      have HC3 : Hid (∀ w, Calls Try.prog 19 #[evV x, .int .i64 3, .int .i64 p, .int .i64 s] w fun e w' => e = .returned (.bool (isAt x 3 p s)) ∧ Below w.heap.size w w') := fun w => isAt_any w x 3 p s
      have HC4 : Hid (∀ w, Calls Try.prog 19 #[evV x, .int .i64 4, .int .i64 p, .int .i64 s] w fun e w' => e = .returned (.bool (isAt x 4 p s)) ∧ Below w.heap.size w w') := fun w => isAt_any w x 4 p s
      cases h3 : isAt x 3 p s with
      | true =>
        have HK : Hid (known l p s (k + 1) = some x.Val) := by show _ = _; rw [HKS.out]; simp [hits, h3]
        rw [h3] at HC3
        clear h3 HC4
        go_wp2_with (with_reducible refine (HC3.out _).mono ?_; rintro e w1 ⟨rfl, hb'⟩; have HB1 := Lib.hid (HB.out.trans (hb'.mono hbs)); have hbs1 := HB1.out.size; have HV1 := Lib.hid (HV.out.keep (hb'.block _ HV.out.lt)); have HZ1 := Lib.hid (HZ.out.keep (hb'.block _ HZ.out.lt)); clear hb'; obtain ⟨_, _, e9, -, r0, r1, r2, r3, r4, r5, r6, r7, r8, r9, r10, r11, -⟩ := api_Event_elem (HA.out _ HB1.out) HX.out; cases e9; have c0r := HV1.out.cell (j := 0) rfl; have c1r := HV1.out.cell (j := 1) rfl; have f0r := HV1.out.frozen 0; have f1r := HV1.out.frozen 1; have hlr := HV1.out.lt)
        go_roundw
        case rel => exact ⟨k + 1, by omega, by go_num, by rw [HK.out]; rfl, by rw [HK.out]; exact (HV1.out.set 0 _).set 1 _, HZ1.out.keep ((set_other _ (by omega)).trans (set_other _ (by omega))), (HB1.out.setCell (p := ⟨w.heap.size + 1, 0, none⟩) (by simp) _).setCell (p := ⟨w.heap.size + 1, 1, none⟩) (by simp) _⟩
        case measure => simp [intOf]; omega
      | false =>
        cases h4 : isAt x 4 p s with
        | true =>
          have HK : Hid (known l p s (k + 1) = some x.Val) := by show _ = _; rw [HKS.out]; simp [hits, h4]
          rw [h3] at HC3
          rw [h4] at HC4
          clear h3 h4
          go_wp2_with (first | (with_reducible refine (HC3.out _).mono ?_; rintro e w1 ⟨rfl, hb'⟩; have HB1 := Lib.hid (HB.out.trans (hb'.mono hbs)); have hbs1 := HB1.out.size; have HV1 := Lib.hid (HV.out.keep (hb'.block _ HV.out.lt)); have HZ1 := Lib.hid (HZ.out.keep (hb'.block _ HZ.out.lt)); clear hb'; obtain ⟨_, _, e9, -, r0, r1, r2, r3, r4, r5, r6, r7, r8, r9, r10, r11, -⟩ := api_Event_elem (HA.out _ HB1.out) HX.out; cases e9; have c0r := HV1.out.cell (j := 0) rfl; have c1r := HV1.out.cell (j := 1) rfl; have f0r := HV1.out.frozen 0; have f1r := HV1.out.frozen 1; have hlr := HV1.out.lt) | (with_reducible refine (HC4.out _).mono ?_; rintro e w2 ⟨rfl, hb'⟩; have HB2 := Lib.hid (HB1.out.trans (hb'.mono hbs1)); have hbs2 := HB2.out.size; have HV2 := Lib.hid (HV1.out.keep (hb'.block _ HV1.out.lt)); have HZ2 := Lib.hid (HZ1.out.keep (hb'.block _ HZ1.out.lt)); clear hb'; obtain ⟨_, _, e9, -, t0, t1, t2, t3, t4, t5, t6, t7, t8, t9, t10, t11, -⟩ := api_Event_elem (HA.out _ HB2.out) HX.out; cases e9; have c0t := HV2.out.cell (j := 0) rfl; have c1t := HV2.out.cell (j := 1) rfl; have f0t := HV2.out.frozen 0; have f1t := HV2.out.frozen 1; have hlt := HV2.out.lt))
          go_roundw
          case rel => exact ⟨k + 1, by omega, by go_num, by rw [HK.out]; rfl, by rw [HK.out]; exact (HV2.out.set 0 _).set 1 _, HZ2.out.keep ((set_other _ (by omega)).trans (set_other _ (by omega))), (HB2.out.setCell (p := ⟨w.heap.size + 1, 0, none⟩) (by simp) _).setCell (p := ⟨w.heap.size + 1, 1, none⟩) (by simp) _⟩
          case measure => simp [intOf]; omega
        | false =>
          have HK : Hid (known l p s (k + 1) = known l p s k) := by show _ = _; rw [HKS.out]; simp [hits, h3, h4]
          rw [h3] at HC3
          rw [h4] at HC4
          clear h3 h4
          go_wp2_with (first | (with_reducible refine (HC3.out _).mono ?_; rintro e w1 ⟨rfl, hb'⟩; have HB1 := Lib.hid (HB.out.trans (hb'.mono hbs)); have hbs1 := HB1.out.size; have HV1 := Lib.hid (HV.out.keep (hb'.block _ HV.out.lt)); have HZ1 := Lib.hid (HZ.out.keep (hb'.block _ HZ.out.lt)); clear hb'; obtain ⟨_, _, e9, -, r0, r1, r2, r3, r4, r5, r6, r7, r8, r9, r10, r11, -⟩ := api_Event_elem (HA.out _ HB1.out) HX.out; cases e9; have c0r := HV1.out.cell (j := 0) rfl; have c1r := HV1.out.cell (j := 1) rfl; have f0r := HV1.out.frozen 0; have f1r := HV1.out.frozen 1; have hlr := HV1.out.lt) | (with_reducible refine (HC4.out _).mono ?_; rintro e w2 ⟨rfl, hb'⟩; have HB2 := Lib.hid (HB1.out.trans (hb'.mono hbs1)); have hbs2 := HB2.out.size; have HV2 := Lib.hid (HV1.out.keep (hb'.block _ HV1.out.lt)); have HZ2 := Lib.hid (HZ1.out.keep (hb'.block _ HZ1.out.lt)); clear hb'; obtain ⟨_, _, e9, -, t0, t1, t2, t3, t4, t5, t6, t7, t8, t9, t10, t11, -⟩ := api_Event_elem (HA.out _ HB2.out) HX.out; cases e9; have c0t := HV2.out.cell (j := 0) rfl; have c1t := HV2.out.cell (j := 1) rfl; have f0t := HV2.out.frozen 0; have f1t := HV2.out.frozen 1; have hlt := HV2.out.lt))
          go_roundw
          case rel => exact ⟨k + 1, by omega, by go_num, by rw [HK.out], by rw [HK.out]; exact HV2.out, HZ2.out, HB2.out⟩
          case measure => simp [intOf]; omega
    · obtain rfl : k = m := by omega
      have c0 := HV.out.cell (j := 0) rfl
      have c1 := HV.out.cell (j := 1) rfl
      have c2 := HZ.out.cell (j := 0) rfl
      have c3 := HZ.out.cell (j := 1) rfl
      have f2 := HZ.out.frozen 0
      have f3 := HZ.out.frozen 1
      have HBZ : Hid (∀ u v, Below w.heap.size w ((wr.setCell ⟨w.heap.size, 0, none⟩ u).setCell ⟨w.heap.size, 1, none⟩ v)) := fun u v => (HB.out.setCell (p := ⟨w.heap.size, 0, none⟩) (by simp) _).setCell (p := ⟨w.heap.size, 1, none⟩) (by simp) _
      go_wp2
      exact bodyPost_ret (v := .tuple #[.agg #[.int .i64 ((known l p s k).getD ⟨0, 0⟩).Kind, .int .i64 ((known l p s k).getD ⟨0, 0⟩).N], .bool (known l p s k).isSome]) (by simp [results, Try.results68, go_sem, c2, c3]) rfl ⟨rfl, HBZ.out _ _⟩
end Go.Proofs.Ytfdpannanpipdaa.watch
