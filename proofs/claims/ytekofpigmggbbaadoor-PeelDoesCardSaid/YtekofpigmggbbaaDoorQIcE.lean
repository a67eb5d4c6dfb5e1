/- The document's Asks, ir.bare: walked. -/
import Derived.Test.YtekofpigmggbbaaDoorQIcD
set_option linter.unusedVariables false
set_option linter.unusedSimpArgs false
namespace Go.Proofs.YtekofpigmggbbaaDoor.chk
open Go.Bk Go.RowKit Go.Proofs.YtekofpigmggbbaaDoor.ir

theorem take_step {x : Api.TIns} {j n : Nat} (h3 : n ≤ 3) (hj : j < n) : [x.A, x.B, x.C].take (min (j + 1) n) = [x.A, x.B, x.C].take (min j n) ++ [argN x j] := by
  have hj3 : j = 0 ∨ j = 1 ∨ j = 2 := by omega
  have hn1 : n = 1 ∨ n = 2 ∨ n = 3 := by omega
  rcases hj3 with rfl | rfl | rfl <;> rcases hn1 with rfl | rfl | rfl <;> first | rfl | omega
theorem int_cells {n : Int} (h : I64 n) (S : Nat → Prop) (w : World) : Rep.cells S w [.int .i64 n] n := ⟨rfl, h⟩
set_option maxRecDepth 100000 in
set_option maxHeartbeats 1000000 in
theorem rasks_any {w : World} {x : Api.TIns} (hI : ∀ z ∈ [x.A, x.B, x.C], I64 z) :
    Calls Tryd.prog 48 #[.agg #[.int .i64 x.Op, .int .i64 x.A, .int .i64 x.B, .int .i64 x.C, .int .i64 x.N, .int .i64 x.Exit, .int .i64 x.K.Kind, .int .i64 x.K.N]] w fun e w' =>
      (∃ a c, e = .returned (.slice a (asksOf x).length c) ∧ (a = none → c = 0) ∧ Arr (Fresh w w') w' a (asksOf x)) ∧ Below w.heap.size w w' := by
  obtain ⟨n, hn3, hasks, htk, hln⟩ := asks_nat x
  rw [htk]
  obtain ⟨w2, hw2⟩ : ∃ w2, w2 = (w.alloc (.cells #[.int .i64 x.Op, .int .i64 x.A, .int .i64 x.B, .int .i64 x.C, .int .i64 x.N, .int .i64 x.Exit, .int .i64 x.K.Kind, .int .i64 x.K.N] 43)).alloc (.cells #[.int .i64 x.A, .int .i64 x.B, .int .i64 x.C] 3) := ⟨_, rfl⟩
  obtain ⟨w1, hw1⟩ : ∃ w1, w1 = w.alloc (.cells #[.int .i64 x.Op, .int .i64 x.A, .int .i64 x.B, .int .i64 x.C, .int .i64 x.N, .int .i64 x.Exit, .int .i64 x.K.Kind, .int .i64 x.K.N] 43) := ⟨_, rfl⟩
  obtain ⟨rI, rA, hb2, hz2⟩ := rows2 w #[.int .i64 x.Op, .int .i64 x.A, .int .i64 x.B, .int .i64 x.C, .int .i64 x.N, .int .i64 x.Exit, .int .i64 x.K.Kind, .int .i64 x.K.N] #[.int .i64 x.A, .int .i64 x.B, .int .i64 x.C] _ _ w2 hw2
  have HCE : Hid (∀ W, Below w2.heap.size w2 W → Row W w.heap.size 43 #[.int .i64 x.Op, .int .i64 x.A, .int .i64 x.B, .int .i64 x.C, .int .i64 x.N, .int .i64 x.Exit, .int .i64 x.K.Kind, .int .i64 x.K.N] ∧ Row W (w.heap.size + 1) 3 #[.int .i64 x.A, .int .i64 x.B, .int .i64 x.C] ∧ Below w.heap.size w W) := fun W hb =>
    ⟨rI.keep (hb.block _ rI.lt), rA.keep (hb.block _ rA.lt), hb2.trans (hb.mono hb2.size)⟩
  have HVA : Hid (∀ W, Calls Tryd.prog 55 #[.int .i64 x.Op] W fun e w' => e = .returned (.int .i64 n) ∧ Below W.heap.size W w') := fun W => by rw [← hasks]; exact values_any W x.Op
  have HB0 : Hid (Below w2.heap.size w2 w2) := Below.refl _ _
  have HI := Lib.hid hI; have HZ := Lib.hid hz2
  clear rI rA hb2 hI hasks htk hln hz2
  go_enter Tryd.func48, Tryd.ntmps48
  go_upto_region 3 with fail
  rw [← hw2]
  clear hw2 hw1 w1
  go_wp2_with fail
  go_loopw [3, 14] (fun s3 s14 wr => ∃ j : Nat, j ≤ 3 ∧ s14 = .int .i64 j ∧ Own (fun _ => False) wr w2.heap.size 3 s3 ([x.A, x.B, x.C].take (min j n)) ∧ Below w2.heap.size w2 wr) (fun _ s14 _ => 3 - (intOf s14).toNat)
  case atStart => exact ⟨0, by omega, rfl, by rw [Nat.zero_min]; exact Own.nil _ _ _ _, HB0.out⟩
  case round =>
    obtain ⟨j, hj, rfl, hown, hbr⟩ := hrel
    have HO := Lib.hid hown; have HBR := Lib.hid hbr
    obtain ⟨k1, k2, k3⟩ := HCE.out wr hbr
    clear hown
    by_cases hlt : j < 3
    · obtain ⟨v, hv⟩ : ∃ v, v = argN x j := ⟨_, rfl⟩
      have hv0 : #[Value.int .i64 x.A, .int .i64 x.B, .int .i64 x.C].toList[j]? = some (.int .i64 v) := by
        rw [hv]
        have : j = 0 ∨ j = 1 ∨ j = 2 := by omega
        rcases this with rfl | rfl | rfl <;> rfl
      have hv64 : I64 v := HI.out v (by
        rw [hv]
        have : j = 0 ∨ j = 1 ∨ j = 2 := by omega
        rcases this with rfl | rfl | rfl <;> simp [argN])
      have v0 := k2.cell hv0
      have x0 := k1.cell (j := 0) rfl
      have lI := k1.lt; have lA := k2.lt
      have hl3 : ([x.A, x.B, x.C].take (min j n)).length ≤ 3 := by simp; omega
      by_cases hjn : j < n
      · have e1 : decide ((j : Int) < (n : Int)) = true := decide_eq_true (by omega)
        have HS : Hid ([x.A, x.B, x.C].take (min (j + 1) n) = [x.A, x.B, x.C].take (min j n) ++ [v]) := by show _ = _; rw [hv]; exact take_step hn3 hjn
        clear hv hv0 hbr k1 k2 k3
        go_wp2_with (first
          | (go_at_call 55; (with_reducible refine (HVA.out _).mono ?_); rintro e w3 ⟨rfl, hb3⟩; have HB3 := Lib.hid hb3; have HO3 := Lib.hid (HO.out.below hb3 (fun _ h => h.elim)); have HBS := Lib.hid (HBR.out.trans (hb3.mono HBR.out.size)); have hbs := HBS.out.size; clear hb3)
          | ((at_builtin; with_reducible refine Tryd.wp_app58 rfl rfl rfl rfl rfl (by first | rfl | simp) (HO3.out) (int_cells hv64 _ _) (fun _ h => h.elim) (by omega) (by first | omega | (simp; omega)) fun v' w' hown' hg' => ?_); have HO' := Lib.hid hown'; have HBW := Lib.hid (HBS.out.grown hg' hbs (fun r hr => (HO3.out.lt r hr).1)); clear hown' hg'))
        go_roundw
        case rel => exact ⟨j + 1, by omega, by go_num, by rw [HS.out]; exact HO'.out, HBW.out⟩
        case measure => simp [intOf]; omega
      · have e1 : decide ((j : Int) < (n : Int)) = false := decide_eq_false (by omega)
        have HS : Hid (min (j + 1) n = min j n) := by show _ = _; omega
        clear hv hv0 hbr k1 k2 k3
        go_wp2_with (go_at_call 55; (with_reducible refine (HVA.out _).mono ?_); rintro e w3 ⟨rfl, hb3⟩; have HB3 := Lib.hid hb3; have HO3 := Lib.hid (HO.out.below hb3 (fun _ h => h.elim)); clear hb3)
        go_roundw
        case rel => exact ⟨j + 1, by omega, by go_num, by rw [HS.out]; exact HO3.out, HBR.out.trans (HB3.out.mono HBR.out.size)⟩
        case measure => simp [intOf]; omega
    · obtain rfl : j = 3 := by omega
      have HEN := Lib.hid k3
      have HO' : Hid (Own (fun _ => False) wr w2.heap.size 3 u3 ([x.A, x.B, x.C].take n)) := by show Own _ _ _ _ _ _; have := HO.out; rwa [Nat.min_eq_right hn3] at this
      clear hbr k1 k2 k3
      go_wp2_with fail
      go_ret
      obtain ⟨av, cap, rfl, -, hnl, harr⟩ := HO'.out.arr
      exact ⟨⟨av, cap, rfl, hnl, harr.mono fun b hb => by
        rcases hb with h | ⟨h1, h2⟩
        · exact h.elim
        · exact ⟨by have := HZ.out; omega, h2⟩⟩, HEN.out⟩
set_option maxRecDepth 100000 in
theorem bare_any {w : World} {x : Api.TExit} {a2 a3 : Option Addr} {nS c2 nM c3 : Nat} (hs : nS = x.Sets.length) (hm : nM = x.Makes.length) (h1 : nS ≤ 9223372036854775807) (h2 : nM ≤ 9223372036854775807) :
    Calls Tryd.prog 83 #[.agg #[.int .i64 x.At, .int .i64 x.Steps, .slice a2 nS c2, .slice a3 nM c3]] w fun e w' => e = .returned (.bool (bareX x)) ∧ Below w.heap.size w w' := by
  obtain ⟨res, hres⟩ : ∃ r, r = bareX x := ⟨_, rfl⟩
  have HF : Hid (res = (x.At == 0 && (x.Steps == 0 && (((nS : Int) == 0) && ((nM : Int) == 0))))) := by
    show _ = _
    rw [hres, hs, hm]
    unfold bareX
    rw [Bool.eq_iff_iff]
    simp
  rw [← hres]
  have HB : Hid (Below w.heap.size w (w.alloc (.cells #[.int .i64 x.At, .int .i64 x.Steps, .slice a2 nS c2, .slice a3 nM c3] 32))) := cod.below_al2 _
  clear hres hs hm
  cases e1 : (x.At == 0) with
  | false =>
    rw [e1] at HF
    go_enter Tryd.func83, Tryd.ntmps83
    go_wp2_with fail
    go_ret
    exact ⟨by rw [HF.out]; rfl, HB.out⟩
  | true =>
    cases e2 : (x.Steps == 0) with
    | false =>
      rw [e1, e2] at HF
      go_enter Tryd.func83, Tryd.ntmps83
      go_wp2_with fail
      go_ret
      exact ⟨by rw [HF.out]; rfl, HB.out⟩
    | true =>
      cases e3 : ((nS : Int) == 0) with
      | false =>
        rw [e1, e2, e3] at HF
        have e3' : (nS == 0) = false := by simpa using e3
        go_enter Tryd.func83, Tryd.ntmps83
        go_wp2_with fail
        go_ret
        exact ⟨by rw [HF.out]; rfl, HB.out⟩
      | true =>
        have e3' : (nS == 0) = true := by simpa using e3
        cases e4 : ((nM : Int) == 0)
        all_goals
          rw [e1, e2, e3, e4] at HF
          go_enter Tryd.func83, Tryd.ntmps83
          go_wp2_with fail
          go_ret
          exact ⟨by rw [HF.out]; rfl, HB.out⟩
end Go.Proofs.YtekofpigmggbbaaDoor.chk
