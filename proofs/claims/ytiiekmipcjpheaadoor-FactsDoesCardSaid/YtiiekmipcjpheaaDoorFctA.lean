/- The same guard; what grows: walked. -/
import Derived.Test.YtiiekmipcjpheaaDoorFactPlain
import Derived.Test.YtiiekmipcjpheaaDoorFuncsT
set_option linter.unusedVariables false
set_option linter.unusedSimpArgs false
namespace Go.Proofs.YtiiekmipcjpheaaDoor.fct
open Go.Bk Go.RowKit Go.Proofs.YtiiekmipcjpheaaDoor.ir Go.Proofs.YtiiekmipcjpheaaDoor.chk Go.Proofs.YtiiekmipcjpheaaDoor.cut

theorem sameG_eq (x y : Api.TIns) : sameG x y = ((y.Op == x.Op) && ((y.A == x.A) && ((y.B == x.B) && ((y.N == x.N) && ((y.K.Kind == x.K.Kind) && (y.K.N == x.K.N)))))) := by
  unfold sameG
  have hk : decide (y.K = x.K) = ((y.K.Kind == x.K.Kind) && (y.K.N == x.K.N)) := by
    obtain ⟨_, _, _, _, _, _, ⟨a, b⟩⟩ := x
    obtain ⟨_, _, _, _, _, _, ⟨c, d⟩⟩ := y
    rw [Bool.eq_iff_iff]
    simp
  rw [hk, Bool.eq_iff_iff]
  simp
theorem loop_cell {S : Nat → Prop} {w : World} {X : Array Value} {t : Api.TTrace} (h : Rep.cells S w X.toList t) : X.toList[2]? = some (.int .i64 t.Loop) := by
  obtain ⟨a3, c3, a4, c4, a7, c7, a8, c8, a11, c11, a12, c12, e, -⟩ := api_TTrace_cells_eq h
  rw [e]; rfl
/-- The capacity of a trace's instructions. -/
theorem tcap_of {S : Nat → Prop} {w : World} {X : Array Value} {t : Api.TTrace} (h : Rep.cells S w X.toList t) : ∃ a3 nI c3, TIn S w X t a3 nI c3 ∧ nI ≤ c3 := by
  obtain ⟨a3, c3, a4, c4, a7, c7, a8, c8, a11, c11, a12, c12, e, -, -, -, h3, -⟩ := api_TTrace_cells_eq h
  refine ⟨a3, _, c3, ⟨?_, by rw [e]; rfl, h3.2.2, rfl, ?_⟩, h3.1⟩
  · have := congrArg List.length e
    simpa using this
  · have := h3.2.2.small
    unfold maxLen at this
    omega
set_option maxRecDepth 100000 in
set_option maxHeartbeats 1000000 in
theorem same1_any {w : World} {gx : Nat} (x y : Api.TIns) (hx : Row w gx 48 #[.int .i64 x.Op, .int .i64 x.A, .int .i64 x.B, .int .i64 x.C, .int .i64 x.N, .int .i64 x.Exit, .int .i64 x.K.Kind, .int .i64 x.K.N]) :
    Calls Tryd.prog 142 #[.agg #[.int .i64 y.Op, .int .i64 y.A, .int .i64 y.B, .int .i64 y.C, .int .i64 y.N, .int .i64 y.Exit, .int .i64 y.K.Kind, .int .i64 y.K.N], .pointer (some ⟨gx, 0, none⟩)] w fun e w' => e = .returned (.bool (sameG x y)) ∧ Below w.heap.size w w' := by
  obtain ⟨w1, hw1⟩ : ∃ w1, w1 = w.alloc (.cells #[.int .i64 y.Op, .int .i64 y.A, .int .i64 y.B, .int .i64 y.C, .int .i64 y.N, .int .i64 y.Exit, .int .i64 y.K.Kind, .int .i64 y.K.N] 48) := ⟨_, rfl⟩
  have hb1 : Below w.heap.size w w1 := by rw [hw1]; exact cod.below_al2 _
  have ry := row_new w #[.int .i64 y.Op, .int .i64 y.A, .int .i64 y.B, .int .i64 y.C, .int .i64 y.N, .int .i64 y.Exit, .int .i64 y.K.Kind, .int .i64 y.K.N] 48
  rw [← hw1] at ry
  have rx := hx.keep (hb1.block _ hx.lt)
  have y0 := ry.cell (j := 0) rfl; have y1 := ry.cell (j := 1) rfl; have y2 := ry.cell (j := 2) rfl; have y4 := ry.cell (j := 4) rfl; have y6 := ry.cell (j := 6) rfl; have y7 := ry.cell (j := 7) rfl
  have x0 := rx.cell (j := 0) rfl; have x1 := rx.cell (j := 1) rfl; have x2 := rx.cell (j := 2) rfl; have x4 := rx.cell (j := 4) rfl; have x6 := rx.cell (j := 6) rfl; have x7 := rx.cell (j := 7) rfl
  have ly := ry.lt; have lx := rx.lt
  have HB1 := Lib.hid hb1
  have HS := Lib.hid (sameG_eq x y)
  clear hb1 ry rx hx
  cases c0 : (y.Op == x.Op) with
  | false =>
    go_enter Tryd.func142, Tryd.ntmps142
    go_upto_region 1 with fail
    rw [← hw1]
    clear hw1
    go_wp2_with fail
    go_ret
    exact ⟨by rw [HS.out, c0]; rfl, HB1.out⟩
  | true =>
    cases c1 : (y.A == x.A) with
    | false =>
      go_enter Tryd.func142, Tryd.ntmps142
      go_upto_region 1 with fail
      rw [← hw1]
      clear hw1
      go_wp2_with fail
      go_ret
      exact ⟨by rw [HS.out, c0, c1]; rfl, HB1.out⟩
    | true =>
      cases c2 : (y.B == x.B) with
      | false =>
        go_enter Tryd.func142, Tryd.ntmps142
        go_upto_region 1 with fail
        rw [← hw1]
        clear hw1
        go_wp2_with fail
        go_ret
        exact ⟨by rw [HS.out, c0, c1, c2]; rfl, HB1.out⟩
      | true =>
        cases c3 : (y.N == x.N) with
        | false =>
          go_enter Tryd.func142, Tryd.ntmps142
          go_upto_region 1 with fail
          rw [← hw1]
          clear hw1
          go_wp2_with fail
          go_ret
          exact ⟨by rw [HS.out, c0, c1, c2, c3]; rfl, HB1.out⟩
        | true =>
          cases c4 : (y.K.Kind == x.K.Kind) with
          | false =>
            go_enter Tryd.func142, Tryd.ntmps142
            go_upto_region 1 with fail
            rw [← hw1]
            clear hw1
            go_wp2_with fail
            go_ret
            exact ⟨by rw [HS.out, c0, c1, c2, c3, c4]; rfl, HB1.out⟩
          | true =>
            cases c5 : (y.K.N == x.K.N) with
            | false =>
              go_enter Tryd.func142, Tryd.ntmps142
              go_upto_region 1 with fail
              rw [← hw1]
              clear hw1
              go_wp2_with fail
              go_ret
              exact ⟨by rw [HS.out, c0, c1, c2, c3, c4, c5]; rfl, HB1.out⟩
            | true =>
              go_enter Tryd.func142, Tryd.ntmps142
              go_upto_region 1 with fail
              rw [← hw1]
              clear hw1
              go_wp2_with fail
              go_ret
              exact ⟨by rw [HS.out, c0, c1, c2, c3, c4, c5]; rfl, HB1.out⟩
set_option maxRecDepth 100000 in
set_option maxHeartbeats 1000000 in
theorem said2_any {w : World} {gx : Nat} (x y : Api.TIns) (k : Int) (hx : Row w gx 48 #[.int .i64 x.Op, .int .i64 x.A, .int .i64 x.B, .int .i64 x.C, .int .i64 x.N, .int .i64 x.Exit, .int .i64 x.K.Kind, .int .i64 x.K.N]) :
    Calls Tryd.prog 120 #[.int .i64 k, .agg #[.int .i64 y.Op, .int .i64 y.A, .int .i64 y.B, .int .i64 y.C, .int .i64 y.N, .int .i64 y.Exit, .int .i64 y.K.Kind, .int .i64 y.K.N], .pointer (some ⟨gx, 0, none⟩)] w fun e w' => e = .returned (.bool (sameG x y)) ∧ Below w.heap.size w w' := by
  obtain ⟨w1, hw1⟩ : ∃ w1, w1 = w.alloc (.cells #[.int .i64 y.Op, .int .i64 y.A, .int .i64 y.B, .int .i64 y.C, .int .i64 y.N, .int .i64 y.Exit, .int .i64 y.K.Kind, .int .i64 y.K.N] 48) := ⟨_, rfl⟩
  have hb1 : Below w.heap.size w w1 := by rw [hw1]; exact cod.below_al2 _
  have ry := row_new w #[.int .i64 y.Op, .int .i64 y.A, .int .i64 y.B, .int .i64 y.C, .int .i64 y.N, .int .i64 y.Exit, .int .i64 y.K.Kind, .int .i64 y.K.N] 48
  rw [← hw1] at ry
  have rx := hx.keep (hb1.block _ hx.lt)
  have y0 := ry.cell (j := 0) rfl; have y1 := ry.cell (j := 1) rfl; have y2 := ry.cell (j := 2) rfl; have y4 := ry.cell (j := 4) rfl; have y6 := ry.cell (j := 6) rfl; have y7 := ry.cell (j := 7) rfl
  have x0 := rx.cell (j := 0) rfl; have x1 := rx.cell (j := 1) rfl; have x2 := rx.cell (j := 2) rfl; have x4 := rx.cell (j := 4) rfl; have x6 := rx.cell (j := 6) rfl; have x7 := rx.cell (j := 7) rfl
  have ly := ry.lt; have lx := rx.lt
  have HB1 := Lib.hid hb1
  have HS := Lib.hid (sameG_eq x y)
  clear hb1 ry rx hx
  cases c0 : (y.Op == x.Op) with
  | false =>
    go_enter Tryd.func120, Tryd.ntmps120
    go_upto_region 1 with fail
    rw [← hw1]
    clear hw1
    go_wp2_with fail
    go_ret
    exact ⟨by rw [HS.out, c0]; rfl, HB1.out⟩
  | true =>
    cases c1 : (y.A == x.A) with
    | false =>
      go_enter Tryd.func120, Tryd.ntmps120
      go_upto_region 1 with fail
      rw [← hw1]
      clear hw1
      go_wp2_with fail
      go_ret
      exact ⟨by rw [HS.out, c0, c1]; rfl, HB1.out⟩
    | true =>
      cases c2 : (y.B == x.B) with
      | false =>
        go_enter Tryd.func120, Tryd.ntmps120
        go_upto_region 1 with fail
        rw [← hw1]
        clear hw1
        go_wp2_with fail
        go_ret
        exact ⟨by rw [HS.out, c0, c1, c2]; rfl, HB1.out⟩
      | true =>
        cases c3 : (y.N == x.N) with
        | false =>
          go_enter Tryd.func120, Tryd.ntmps120
          go_upto_region 1 with fail
          rw [← hw1]
          clear hw1
          go_wp2_with fail
          go_ret
          exact ⟨by rw [HS.out, c0, c1, c2, c3]; rfl, HB1.out⟩
        | true =>
          cases c4 : (y.K.Kind == x.K.Kind) with
          | false =>
            go_enter Tryd.func120, Tryd.ntmps120
            go_upto_region 1 with fail
            rw [← hw1]
            clear hw1
            go_wp2_with fail
            go_ret
            exact ⟨by rw [HS.out, c0, c1, c2, c3, c4]; rfl, HB1.out⟩
          | true =>
            cases c5 : (y.K.N == x.K.N) with
            | false =>
              go_enter Tryd.func120, Tryd.ntmps120
              go_upto_region 1 with fail
              rw [← hw1]
              clear hw1
              go_wp2_with fail
              go_ret
              exact ⟨by rw [HS.out, c0, c1, c2, c3, c4, c5]; rfl, HB1.out⟩
            | true =>
              go_enter Tryd.func120, Tryd.ntmps120
              go_upto_region 1 with fail
              rw [← hw1]
              clear hw1
              go_wp2_with fail
              go_ret
              exact ⟨by rw [HS.out, c0, c1, c2, c3, c4, c5]; rfl, HB1.out⟩
set_option maxRecDepth 100000 in
theorem from1_any {w : World} (y : Api.TIns) : Calls Tryd.prog 156 #[.agg #[.int .i64 y.Op, .int .i64 y.A, .int .i64 y.B, .int .i64 y.C, .int .i64 y.N, .int .i64 y.Exit, .int .i64 y.K.Kind, .int .i64 y.K.N]] w fun e w' => e = .returned (.bool (decide (y.Op = 12))) ∧ Below w.heap.size w w' := by
  have HS : Hid (decide (y.Op = 12) = (y.Op == 12)) := by show _ = _; rw [Bool.eq_iff_iff]; simp
  have HB : Hid (Below w.heap.size w (w.alloc (.cells #[.int .i64 y.Op, .int .i64 y.A, .int .i64 y.B, .int .i64 y.C, .int .i64 y.N, .int .i64 y.Exit, .int .i64 y.K.Kind, .int .i64 y.K.N] 48))) := cod.below_al2 _
  go_enter Tryd.func156, Tryd.ntmps156
  go_wp2_with fail
  go_ret
  exact ⟨by rw [HS.out]; rfl, HB.out⟩
set_option maxRecDepth 100000 in
set_option maxHeartbeats 1000000 in
/-- same: the same guard ahead of one. -/
theorem fsame_any {S : Nat → Prop} {w : World} {T : Array Value} {t : Api.TTrace} (ht : Rep.cells S w T.toList t) (hS : ∀ b, S b → b < w.heap.size) {i : Nat} {x : Api.TIns} (hx : t.Ins[i]? = some x) :
    Calls Tryd.prog 117 #[.agg T, .int .i64 i] w fun e w' => e = .returned (.bool (twinB t.Ins i x)) ∧ Below w.heap.size w w' := by
  obtain ⟨aI, nI, cI, hT, hcap⟩ := tcap_of ht
  have hI9 := hT.few
  have hi : i < nI := by rw [← hT.len]; exact (List.getElem?_eq_some_iff.1 hx).1
  obtain ⟨w1, hw1⟩ : ∃ w1, w1 = w.alloc (.cells T 34) := ⟨_, rfl⟩
  have hb1 : Below w.heap.size w w1 := by rw [hw1]; exact cod.below_al2 _
  have rT := row_new w T 34
  rw [← hw1] at rT
  have hS1 : ∀ b, S b → b < w1.heap.size := fun b hb => Nat.lt_of_lt_of_le (hS b hb) hb1.size
  have hI1 := hT.ins.keep (w' := w1) fun b hb => hb1.block b (hS b hb)
  have hsl : ∀ W : World, (Instr.slice 27 (.slice aI nI cI) none (some (.int .i64 (i : Int))) none).run Tryd.prog W = .ok (.slice aI i cI) W := fun W => run_slice_head (P := Tryd.prog) Tryd.underlying27 (z := 8) (by kernel_rfl) aI nI cI i (by omega) W
  obtain ⟨w2, hw2⟩ : ∃ w2, w2 = w1.alloc (.cells #[.int .i64 x.Op, .int .i64 x.A, .int .i64 x.B, .int .i64 x.C, .int .i64 x.N, .int .i64 x.Exit, .int .i64 x.K.Kind, .int .i64 x.K.N] 48) := ⟨_, rfl⟩
  have hb2 : Below w1.heap.size w1 w2 := by rw [hw2]; exact cod.below_al2 _
  have rX := row_new w1 #[.int .i64 x.Op, .int .i64 x.A, .int .i64 x.B, .int .i64 x.C, .int .i64 x.N, .int .i64 x.Exit, .int .i64 x.K.Kind, .int .i64 x.K.N] 48
  rw [← hw2] at rX
  have HCF : Hid (Calls Tryd.prog 135 #[.slice aI i cI, .func (.func 142) #[] #[.pointer (some ⟨w1.heap.size, 0, none⟩)]] w2 fun e w' => e = .returned (.bool (twinB t.Ins i x)) ∧ Below w2.heap.size w2 w') := by
    refine funs.containsT_any (R := Grow) mild_grow (S := S) (xs := t.Ins.take i) (p := sameG x) (caps := #[.pointer (some ⟨w1.heap.size, 0, none⟩)]) (by rw [List.length_take, hT.len]; exact Nat.min_eq_left (by omega)) ((hI1.keep fun b hb => hb2.block b (hS1 b hb)).take i) (fun b hb => Nat.lt_of_lt_of_le (hS1 b hb) hb2.size) Tryd.call142 ?_
    intro y wx _ hR
    exact same1_any x y (rX.keep (hR.block _ rX.lt))
  have t3 := rT.cell hT.c3
  have lT := rT.lt
  have rT2 := rT.keep (hb2.block _ rT.lt)
  have u3 := rT2.cell hT.c3
  have lT2 := rT2.lt
  obtain ⟨bi, oi, haI, hSi, i0, i1, i2, i3, i4, i5, i6, i7, -⟩ := api_TIns_elem hI1 hx
  have hbi := hS1 bi hSi
  have HB : Hid (Below w.heap.size w w2) := hb1.trans (hb2.mono hb1.size)
  have hii : (i : Int) < (nI : Int) := by omega
  have HAI := Lib.hid haI
  rw [haI] at t3
  clear hT hS hS1 hI1 ht hx hb1 hb2 rT rX rT2 hSi
  subst haI
  clear HAI
  go_enter Tryd.func117, Tryd.ntmps117
  go_upto_region 1 with fail
  rw [← hw1]
  clear hw1
  go_upto_region 2 with fail
  rw [← hw2]
  clear hw2 t3 lT i0 i1 i2 i3 i4 i5 i6 i7
  go_wp2_with (go_at_call 135; (with_reducible refine HCF.out.mono ?_); rintro e w3 ⟨rfl, hb3⟩; have HB3 := Lib.hid hb3; clear hb3)
  go_ret
  exact ⟨rfl, HB.out.trans (HB3.out.mono HB.out.size)⟩
set_option maxRecDepth 100000 in
set_option maxHeartbeats 1000000 in
/-- from: the first instruction that may say a shape to one. -/
theorem ffrom_any {S : Nat → Prop} {w : World} {T : Array Value} {t : Api.TTrace} (ht : Rep.cells S w T.toList t) (hS : ∀ b, S b → b < w.heap.size) (h0 : 0 ≤ t.Loop) (h1 : t.Loop ≤ t.Ins.length) (i : Nat) :
    Calls Tryd.prog 143 #[.agg T, .int .i64 i] w fun e w' => e = .returned (.int .i64 (fromP t i)) ∧ Below w.heap.size w w' := by
  obtain ⟨aI, nI, cI, hT, hcap⟩ := tcap_of ht
  have hI9 := hT.few
  obtain ⟨lp, hlp⟩ : ∃ lp : Nat, t.Loop = lp := ⟨t.Loop.toNat, by omega⟩
  have hln : lp ≤ nI := by rw [← hT.len]; omega
  obtain ⟨w1, hw1⟩ : ∃ w1, w1 = w.alloc (.cells T 34) := ⟨_, rfl⟩
  have hb1 : Below w.heap.size w w1 := by rw [hw1]; exact cod.below_al2 _
  have rT := row_new w T 34
  rw [← hw1] at rT
  have hS1 : ∀ b, S b → b < w1.heap.size := fun b hb => Nat.lt_of_lt_of_le (hS b hb) hb1.size
  have hI1 := hT.ins.keep (w' := w1) fun b hb => hb1.block b (hS b hb)
  obtain ⟨a9, ha9⟩ : ∃ a9, a9 = (if cI = lp then aI else aI.map (·.add (lp * 8))) := ⟨_, rfl⟩
  have hsl : ∀ W : World, (Instr.slice 27 (.slice aI nI cI) (some (.int .i64 (lp : Int))) none none).run Tryd.prog W = .ok (.slice a9 (nI - lp) (cI - lp)) W := fun W => by rw [ha9]; exact run_slice_tail (P := Tryd.prog) Tryd.underlying27 (z := 8) (by kernel_rfl) aI nI cI lp hln hcap W
  have ha : Arr S w1 a9 (t.Ins.drop lp) := by rw [ha9]; exact Arr.from hI1 cI lp (by rw [hT.len]; exact hln) (by rw [hT.len]; exact hcap)
  have HCF : Hid (Calls Tryd.prog 135 #[.slice a9 (nI - lp) (cI - lp), .func (.func 156) #[] #[]] w1 fun e w' => e = .returned (.bool (growsB t)) ∧ Below w1.heap.size w1 w') := by
    unfold growsB
    rw [hlp, Int.toNat_natCast]
    refine funs.containsT_any (R := Grow) mild_grow (S := S) (xs := t.Ins.drop lp) (p := fun y => decide (y.Op = 12)) (caps := #[]) (by rw [List.length_drop, hT.len]) ha hS1 Tryd.call156 ?_
    intro y wx _ _
    exact from1_any y
  have t3 := rT.cell hT.c3
  have t2 : w1.cell? ⟨w.heap.size, 2, none⟩ = some (.int .i64 lp) := by rw [← hlp]; exact rT.cell (j := 2) (loop_cell ht)
  have lT := rT.lt
  obtain ⟨g, hg⟩ : ∃ g, g = growsB t := ⟨_, rfl⟩
  rw [← hg] at HCF
  obtain ⟨f, hf⟩ : ∃ f, f = fromP t i := ⟨_, rfl⟩
  rw [← hf]
  have HF : Hid (f = if lp ≤ i ∧ g = true then lp else 0) := by
    show _ = _
    rw [hf, hg]
    unfold fromP
    rw [hlp]
    simp only [Int.toNat_natCast, Int.ofNat_le]
  have HB := Lib.hid hb1
  clear hT hS hS1 hI1 ht hb1 rT hf hg ha9 ha
  by_cases hle : lp ≤ i
  · have d1 : decide (lp ≤ i) = true := decide_eq_true hle
    have d2 : decide ((lp : Int) ≤ (i : Int)) = true := decide_eq_true (by omega)
    cases g with
    | true =>
      have HF2 : Hid (f = lp) := by show _ = _; rw [HF.out, if_pos ⟨hle, rfl⟩]
      clear hle
      go_enter Tryd.func143, Tryd.ntmps143
      go_upto_region 1 with fail
      rw [← hw1]
      clear hw1
      go_wp2_with (go_at_call 135; (with_reducible refine HCF.out.mono ?_); rintro e w3 ⟨rfl, hb3⟩; have HB3 := Lib.hid hb3; have t2' := (below_cells' hb3 w.heap.size 2 lT).trans t2; have lT' := Nat.lt_of_lt_of_le lT hb3.size; clear hb3)
      go_ret
      exact ⟨by rw [HF2.out]; rfl, HB.out.trans (HB3.out.mono HB.out.size)⟩
    | false =>
      have HF2 : Hid (f = 0) := by show _ = _; rw [HF.out, if_neg (fun h => by cases h.2)]
      clear hle
      go_enter Tryd.func143, Tryd.ntmps143
      go_upto_region 1 with fail
      rw [← hw1]
      clear hw1
      go_wp2_with (go_at_call 135; (with_reducible refine HCF.out.mono ?_); rintro e w3 ⟨rfl, hb3⟩; have HB3 := Lib.hid hb3; clear hb3)
      go_ret
      exact ⟨by rw [HF2.out]; rfl, HB.out.trans (HB3.out.mono HB.out.size)⟩
  · have d1 : decide (lp ≤ i) = false := decide_eq_false hle
    have d2 : decide ((lp : Int) ≤ (i : Int)) = false := decide_eq_false (by omega)
    have HF2 : Hid (f = 0) := by show _ = _; rw [HF.out, if_neg (fun h => hle h.1)]
    clear hle
    go_enter Tryd.func143, Tryd.ntmps143
    go_upto_region 1 with fail
    rw [← hw1]
    clear hw1
    go_wp2_with fail
    go_ret
    exact ⟨by rw [HF2.out]; rfl, HB.out⟩
end Go.Proofs.YtiiekmipcjpheaaDoor.fct
