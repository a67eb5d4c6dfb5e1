/- facts: truth, shaped, said: walked. -/
import Derived.Test.YtiiekmipcjpheaaDoorFctA
import Derived.Test.YtiiekmipcjpheaaDoorKindC
import Derived.Deep.DrawnRows
set_option linter.unusedVariables false
set_option linter.unusedSimpArgs false
namespace Go.Proofs.YtiiekmipcjpheaaDoor.fct
open Go.Bk Go.RowKit Go.Proofs.YtiiekmipcjpheaaDoor.ir Go.Proofs.YtiiekmipcjpheaaDoor.chk Go.Proofs.YtiiekmipcjpheaaDoor.cut
attribute [local go_sem ↓] Go.wp_at_zero Go.wp_at_succ

/-- A trace boxed, an instruction of it boxed: what is known behind both. -/
structure FB (S : Nat → Prop) (w : World) (T : Array Value) (t : Api.TTrace) (x : Api.TIns) (aI : Option Addr) (nI cI : Nat) (gx : Nat) (W : World) : Prop where
  rt : Row W w.heap.size 34 T
  rep : Rep.cells S W T.toList t
  dom : ∀ b, S b → b < W.heap.size
  rx : Row W gx 48 #[.int .i64 x.Op, .int .i64 x.A, .int .i64 x.B, .int .i64 x.C, .int .i64 x.N, .int .i64 x.Exit, .int .i64 x.K.Kind, .int .i64 x.K.N]
  ins : Arr S W aI t.Ins
  below : Below w.heap.size w W
theorem FB.call {S : Nat → Prop} {w W W' : World} {T : Array Value} {t : Api.TTrace} {x : Api.TIns} {aI : Option Addr} {nI cI gx : Nat} (h : FB S w T t x aI nI cI gx W) (hb : Below W.heap.size W W') : FB S w T t x aI nI cI gx W' :=
  have hk : ∀ b, S b → W'.heap[b]? = W.heap[b]? := fun b hb' => hb.block b (h.dom b hb')
  ⟨h.rt.keep (hb.block _ h.rt.lt), Rep.keep hk h.rep, fun b hb' => Nat.lt_of_lt_of_le (h.dom b hb') hb.size, h.rx.keep (hb.block _ h.rx.lt), h.ins.keep hk, h.below.trans (hb.mono h.below.size)⟩
theorem fb_of {S : Nat → Prop} {w w1 w2 : World} {T : Array Value} {t : Api.TTrace} {aI : Option Addr} {nI cI : Nat} (ht : Rep.cells S w T.toList t) (hS : ∀ b, S b → b < w.heap.size) (hT : TIn S w T t aI nI cI) (x : Api.TIns) (hw1 : w1 = w.alloc (.cells T 34)) (hw2 : w2 = w1.alloc (.cells #[.int .i64 x.Op, .int .i64 x.A, .int .i64 x.B, .int .i64 x.C, .int .i64 x.N, .int .i64 x.Exit, .int .i64 x.K.Kind, .int .i64 x.K.N] 48)) :
    FB S w T t x aI nI cI w1.heap.size w2 ∧ Row w1 w.heap.size 34 T ∧ Arr S w1 aI t.Ins ∧ (∀ b, S b → b < w1.heap.size) := by
  have hb1 : Below w.heap.size w w1 := by rw [hw1]; exact cod.below_al2 _
  have hb2 : Below w1.heap.size w1 w2 := by rw [hw2]; exact cod.below_al2 _
  have rT : Row w1 w.heap.size 34 T := by rw [hw1]; exact row_new _ _ _
  have rX : Row w2 w1.heap.size 48 #[.int .i64 x.Op, .int .i64 x.A, .int .i64 x.B, .int .i64 x.C, .int .i64 x.N, .int .i64 x.Exit, .int .i64 x.K.Kind, .int .i64 x.K.N] := by rw [hw2]; exact row_new _ _ _
  have hb : Below w.heap.size w w2 := hb1.trans (hb2.mono hb1.size)
  have hk : ∀ b, S b → w2.heap[b]? = w.heap[b]? := fun b hb' => hb.block b (hS b hb')
  exact ⟨⟨rT.keep (hb2.block _ rT.lt), Rep.keep hk ht, fun b hb' => Nat.lt_of_lt_of_le (hS b hb') hb.size, rX, hT.ins.keep hk, hb⟩, rT, hT.ins.keep fun b hb' => hb1.block b (hS b hb'), fun b hb' => Nat.lt_of_lt_of_le (hS b hb') hb1.size⟩
set_option maxRecDepth 100000 in
set_option maxHeartbeats 1000000 in
/-- truth: is it said? -/
theorem ftruth_any {S : Nat → Prop} {w : World} {T : Array Value} {t : Api.TTrace} (ht : Rep.cells S w T.toList t) (hS : ∀ b, S b → b < w.heap.size) {i : Nat} {x : Api.TIns} (hx : t.Ins[i]? = some x) :
    Calls Tryd.prog 116 #[.agg T, .int .i64 i] w fun e w' => e = .returned (.bool (truthB (kd t x.A i) x (twinB t.Ins i x))) ∧ Below w.heap.size w w' := by
  obtain ⟨aI, nI, cI, hT, hcap⟩ := tcap_of ht
  have hI9 := hT.few
  have hsT := hT.size
  have hi : i < nI := by rw [← hT.len]; exact (List.getElem?_eq_some_iff.1 hx).1
  obtain ⟨w1, hw1⟩ : ∃ w1, w1 = w.alloc (.cells T 34) := ⟨_, rfl⟩
  obtain ⟨w2, hw2⟩ : ∃ w2, w2 = w1.alloc (.cells #[.int .i64 x.Op, .int .i64 x.A, .int .i64 x.B, .int .i64 x.C, .int .i64 x.N, .int .i64 x.Exit, .int .i64 x.K.Kind, .int .i64 x.K.N] 48) := ⟨_, rfl⟩
  obtain ⟨hfb, rT, hI1, hS1⟩ := fb_of ht hS hT x hw1 hw2
  have HFB := Lib.hid hfb
  have t3 := rT.cell hT.c3
  have HC3 := Lib.hid hT.c3
  have HLI := Lib.hid hT.len
  have lT := rT.lt
  obtain ⟨bi, oi, haI, hSi, i0, i1, i2, i3, i4, i5, i6, i7, -⟩ := api_TIns_elem hI1 hx
  have hbi := hS1 bi hSi
  have hii : (i : Int) < (nI : Int) := by omega
  have HX := Lib.hid hx
  obtain ⟨k, hk⟩ : ∃ k, k = kd t x.A i := ⟨_, rfl⟩
  obtain ⟨tw, htw⟩ : ∃ b, b = twinB t.Ins i x := ⟨_, rfl⟩
  rw [← hk, ← htw]
  have HKD : Hid (Calls Tryd.prog 115 #[.agg T, .int .i64 x.A, .int .i64 i] w2 fun e w' => e = .returned (.int .i64 k) ∧ Below w2.heap.size w2 w') := by
    rw [hk]
    exact kind_any _ S _ T t hfb.rep hfb.dom x.A i (Or.inl (by omega))
  have HSM : Hid (∀ W, Below w2.heap.size w2 W → Calls Tryd.prog 117 #[.agg T, .int .i64 i] W fun e w' => e = .returned (.bool tw) ∧ Below W.heap.size W w') := fun W hb => by
    rw [htw]
    exact fsame_any (hfb.call hb).rep (hfb.call hb).dom HX.out
  obtain ⟨r, hr⟩ : ∃ r, r = truthB k x tw := ⟨_, rfl⟩
  rw [← hr]
  have HR : Hid (r = ((decide (k = 0) && decide (x.N = 0)) || ((decide (2 ≤ k) && (decide (k ≤ 6) && decide (x.N = 1))) || tw))) := hr
  clear hr hk htw hT hS hS1 hI1 ht hx rT hSi
  rw [haI] at t3
  subst haI
  have x1 := hfb.rx.cell (j := 1) rfl
  have lx := hfb.rx.lt
  clear hfb
  have HEND : Hid (∀ W, Below w2.heap.size w2 W → Below w.heap.size w W) := fun W hb => HFB.out.below.trans (hb.mono HFB.out.below.size)
  by_cases k0 : k = 0
  · subst k0
    by_cases n0 : x.N = 0
    · have e0 : ((0 : Int) == 0) = true := by decide
      have e2 : ((0 : Int) == 2) = false := by decide
      have e3 : ((0 : Int) == 3) = false := by decide
      have e4 : ((0 : Int) == 4) = false := by decide
      have e5 : ((0 : Int) == 5) = false := by decide
      have e6 : ((0 : Int) == 6) = false := by decide
      have d0 : (x.N == 0) = true := by simp [n0]
      have HF : Hid (r = true) := by show _ = _; rw [HR.out]; rw [n0]; simp
      (try clear n0); (try clear n1)
      go_enter Tryd.func116, Tryd.ntmps116
      go_upto_region 1 with fail
      rw [← hw1]
      clear hw1
      go_upto_region 2 with fail
      rw [← hw2]
      clear hw2 t3 lT i0 i1 i2 i3 i4 i5 i6 i7 hbi
      go_wp2_with (first
        | (with_reducible refine ldT rfl rfl rfl HFB.out.rt hsT ?_)
        | (with_reducible refine ldT rfl rfl rfl (HFB.out.call HB3.out).rt hsT ?_)
        | (go_at_call 115; (with_reducible refine HKD.out.mono ?_); rintro e w3 ⟨rfl, hb3⟩; have HB3 := Lib.hid hb3; have x4 := (HFB.out.call hb3).rx.cell (j := 4) rfl; have lx3 := (HFB.out.call hb3).rx.lt; clear hb3)
        | (go_at_call 117; (with_reducible refine (HSM.out _ HB3.out).mono ?_); rintro e w4 ⟨rfl, hb4⟩; have HB4 := Lib.hid (HB3.out.trans (hb4.mono HB3.out.size)); clear hb4))
      go_ret
      exact ⟨by rw [HF.out]; rfl, HEND.out _ HB3.out⟩
    · have e0 : ((0 : Int) == 0) = true := by decide
      have e2 : ((0 : Int) == 2) = false := by decide
      have e3 : ((0 : Int) == 3) = false := by decide
      have e4 : ((0 : Int) == 4) = false := by decide
      have e5 : ((0 : Int) == 5) = false := by decide
      have e6 : ((0 : Int) == 6) = false := by decide
      have d0 : (x.N == 0) = false := by simpa using n0
      have HF : Hid (r = tw) := by show _ = _; rw [HR.out]; simp [n0]
      (try clear n0); (try clear n1)
      go_enter Tryd.func116, Tryd.ntmps116
      go_upto_region 1 with fail
      rw [← hw1]
      clear hw1
      go_upto_region 2 with fail
      rw [← hw2]
      clear hw2 t3 lT i0 i1 i2 i3 i4 i5 i6 i7 hbi
      go_wp2_with (first
        | (with_reducible refine ldT rfl rfl rfl HFB.out.rt hsT ?_)
        | (with_reducible refine ldT rfl rfl rfl (HFB.out.call HB3.out).rt hsT ?_)
        | (go_at_call 115; (with_reducible refine HKD.out.mono ?_); rintro e w3 ⟨rfl, hb3⟩; have HB3 := Lib.hid hb3; have x4 := (HFB.out.call hb3).rx.cell (j := 4) rfl; have lx3 := (HFB.out.call hb3).rx.lt; clear hb3)
        | (go_at_call 117; (with_reducible refine (HSM.out _ HB3.out).mono ?_); rintro e w4 ⟨rfl, hb4⟩; have HB4 := Lib.hid (HB3.out.trans (hb4.mono HB3.out.size)); clear hb4))
      go_ret
      exact ⟨by rw [HF.out]; rfl, HEND.out _ HB4.out⟩
  by_cases k2 : 2 ≤ k ∧ k ≤ 6
  · have hk5 : k = 2 ∨ k = 3 ∨ k = 4 ∨ k = 5 ∨ k = 6 := by omega
    clear k2 k0
    by_cases n1 : x.N = 1
    · have d1 : (x.N == 1) = true := by simp [n1]
      rcases hk5 with rfl | rfl | rfl | rfl | rfl
      · have e0 : ((2 : Int) == 0) = false := by decide
        have e2 : ((2 : Int) == 2) = true := by decide
        have e3 : ((2 : Int) == 3) = false := by decide
        have e4 : ((2 : Int) == 4) = false := by decide
        have e5 : ((2 : Int) == 5) = false := by decide
        have e6 : ((2 : Int) == 6) = false := by decide
        have HF : Hid (r = true) := by show _ = _; rw [HR.out]; rw [n1]; simp
        (try clear n0); (try clear n1)
        go_enter Tryd.func116, Tryd.ntmps116
        go_upto_region 1 with fail
        rw [← hw1]
        clear hw1
        go_upto_region 2 with fail
        rw [← hw2]
        clear hw2 t3 lT i0 i1 i2 i3 i4 i5 i6 i7 hbi
        go_wp2_with (first
          | (with_reducible refine ldT rfl rfl rfl HFB.out.rt hsT ?_)
          | (with_reducible refine ldT rfl rfl rfl (HFB.out.call HB3.out).rt hsT ?_)
          | (go_at_call 115; (with_reducible refine HKD.out.mono ?_); rintro e w3 ⟨rfl, hb3⟩; have HB3 := Lib.hid hb3; have x4 := (HFB.out.call hb3).rx.cell (j := 4) rfl; have lx3 := (HFB.out.call hb3).rx.lt; clear hb3)
          | (go_at_call 117; (with_reducible refine (HSM.out _ HB3.out).mono ?_); rintro e w4 ⟨rfl, hb4⟩; have HB4 := Lib.hid (HB3.out.trans (hb4.mono HB3.out.size)); clear hb4))
        go_ret
        exact ⟨by rw [HF.out]; rfl, HEND.out _ HB3.out⟩
      · have e0 : ((3 : Int) == 0) = false := by decide
        have e2 : ((3 : Int) == 2) = false := by decide
        have e3 : ((3 : Int) == 3) = true := by decide
        have e4 : ((3 : Int) == 4) = false := by decide
        have e5 : ((3 : Int) == 5) = false := by decide
        have e6 : ((3 : Int) == 6) = false := by decide
        have HF : Hid (r = true) := by show _ = _; rw [HR.out]; rw [n1]; simp
        (try clear n0); (try clear n1)
        go_enter Tryd.func116, Tryd.ntmps116
        go_upto_region 1 with fail
        rw [← hw1]
        clear hw1
        go_upto_region 2 with fail
        rw [← hw2]
        clear hw2 t3 lT i0 i1 i2 i3 i4 i5 i6 i7 hbi
        go_wp2_with (first
          | (with_reducible refine ldT rfl rfl rfl HFB.out.rt hsT ?_)
          | (with_reducible refine ldT rfl rfl rfl (HFB.out.call HB3.out).rt hsT ?_)
          | (go_at_call 115; (with_reducible refine HKD.out.mono ?_); rintro e w3 ⟨rfl, hb3⟩; have HB3 := Lib.hid hb3; have x4 := (HFB.out.call hb3).rx.cell (j := 4) rfl; have lx3 := (HFB.out.call hb3).rx.lt; clear hb3)
          | (go_at_call 117; (with_reducible refine (HSM.out _ HB3.out).mono ?_); rintro e w4 ⟨rfl, hb4⟩; have HB4 := Lib.hid (HB3.out.trans (hb4.mono HB3.out.size)); clear hb4))
        go_ret
        exact ⟨by rw [HF.out]; rfl, HEND.out _ HB3.out⟩
      · have e0 : ((4 : Int) == 0) = false := by decide
        have e2 : ((4 : Int) == 2) = false := by decide
        have e3 : ((4 : Int) == 3) = false := by decide
        have e4 : ((4 : Int) == 4) = true := by decide
        have e5 : ((4 : Int) == 5) = false := by decide
        have e6 : ((4 : Int) == 6) = false := by decide
        have HF : Hid (r = true) := by show _ = _; rw [HR.out]; rw [n1]; simp
        (try clear n0); (try clear n1)
        go_enter Tryd.func116, Tryd.ntmps116
        go_upto_region 1 with fail
        rw [← hw1]
        clear hw1
        go_upto_region 2 with fail
        rw [← hw2]
        clear hw2 t3 lT i0 i1 i2 i3 i4 i5 i6 i7 hbi
        go_wp2_with (first
          | (with_reducible refine ldT rfl rfl rfl HFB.out.rt hsT ?_)
          | (with_reducible refine ldT rfl rfl rfl (HFB.out.call HB3.out).rt hsT ?_)
          | (go_at_call 115; (with_reducible refine HKD.out.mono ?_); rintro e w3 ⟨rfl, hb3⟩; have HB3 := Lib.hid hb3; have x4 := (HFB.out.call hb3).rx.cell (j := 4) rfl; have lx3 := (HFB.out.call hb3).rx.lt; clear hb3)
          | (go_at_call 117; (with_reducible refine (HSM.out _ HB3.out).mono ?_); rintro e w4 ⟨rfl, hb4⟩; have HB4 := Lib.hid (HB3.out.trans (hb4.mono HB3.out.size)); clear hb4))
        go_ret
        exact ⟨by rw [HF.out]; rfl, HEND.out _ HB3.out⟩
      · have e0 : ((5 : Int) == 0) = false := by decide
        have e2 : ((5 : Int) == 2) = false := by decide
        have e3 : ((5 : Int) == 3) = false := by decide
        have e4 : ((5 : Int) == 4) = false := by decide
        have e5 : ((5 : Int) == 5) = true := by decide
        have e6 : ((5 : Int) == 6) = false := by decide
        have HF : Hid (r = true) := by show _ = _; rw [HR.out]; rw [n1]; simp
        (try clear n0); (try clear n1)
        go_enter Tryd.func116, Tryd.ntmps116
        go_upto_region 1 with fail
        rw [← hw1]
        clear hw1
        go_upto_region 2 with fail
        rw [← hw2]
        clear hw2 t3 lT i0 i1 i2 i3 i4 i5 i6 i7 hbi
        go_wp2_with (first
          | (with_reducible refine ldT rfl rfl rfl HFB.out.rt hsT ?_)
          | (with_reducible refine ldT rfl rfl rfl (HFB.out.call HB3.out).rt hsT ?_)
          | (go_at_call 115; (with_reducible refine HKD.out.mono ?_); rintro e w3 ⟨rfl, hb3⟩; have HB3 := Lib.hid hb3; have x4 := (HFB.out.call hb3).rx.cell (j := 4) rfl; have lx3 := (HFB.out.call hb3).rx.lt; clear hb3)
          | (go_at_call 117; (with_reducible refine (HSM.out _ HB3.out).mono ?_); rintro e w4 ⟨rfl, hb4⟩; have HB4 := Lib.hid (HB3.out.trans (hb4.mono HB3.out.size)); clear hb4))
        go_ret
        exact ⟨by rw [HF.out]; rfl, HEND.out _ HB3.out⟩
      · have e0 : ((6 : Int) == 0) = false := by decide
        have e2 : ((6 : Int) == 2) = false := by decide
        have e3 : ((6 : Int) == 3) = false := by decide
        have e4 : ((6 : Int) == 4) = false := by decide
        have e5 : ((6 : Int) == 5) = false := by decide
        have e6 : ((6 : Int) == 6) = true := by decide
        have HF : Hid (r = true) := by show _ = _; rw [HR.out]; rw [n1]; simp
        (try clear n0); (try clear n1)
        go_enter Tryd.func116, Tryd.ntmps116
        go_upto_region 1 with fail
        rw [← hw1]
        clear hw1
        go_upto_region 2 with fail
        rw [← hw2]
        clear hw2 t3 lT i0 i1 i2 i3 i4 i5 i6 i7 hbi
        go_wp2_with (first
          | (with_reducible refine ldT rfl rfl rfl HFB.out.rt hsT ?_)
          | (with_reducible refine ldT rfl rfl rfl (HFB.out.call HB3.out).rt hsT ?_)
          | (go_at_call 115; (with_reducible refine HKD.out.mono ?_); rintro e w3 ⟨rfl, hb3⟩; have HB3 := Lib.hid hb3; have x4 := (HFB.out.call hb3).rx.cell (j := 4) rfl; have lx3 := (HFB.out.call hb3).rx.lt; clear hb3)
          | (go_at_call 117; (with_reducible refine (HSM.out _ HB3.out).mono ?_); rintro e w4 ⟨rfl, hb4⟩; have HB4 := Lib.hid (HB3.out.trans (hb4.mono HB3.out.size)); clear hb4))
        go_ret
        exact ⟨by rw [HF.out]; rfl, HEND.out _ HB3.out⟩
    · have d1 : (x.N == 1) = false := by simpa using n1
      rcases hk5 with rfl | rfl | rfl | rfl | rfl
      · have e0 : ((2 : Int) == 0) = false := by decide
        have e2 : ((2 : Int) == 2) = true := by decide
        have e3 : ((2 : Int) == 3) = false := by decide
        have e4 : ((2 : Int) == 4) = false := by decide
        have e5 : ((2 : Int) == 5) = false := by decide
        have e6 : ((2 : Int) == 6) = false := by decide
        have HF : Hid (r = tw) := by show _ = _; rw [HR.out]; simp [n1]
        (try clear n0); (try clear n1)
        go_enter Tryd.func116, Tryd.ntmps116
        go_upto_region 1 with fail
        rw [← hw1]
        clear hw1
        go_upto_region 2 with fail
        rw [← hw2]
        clear hw2 t3 lT i0 i1 i2 i3 i4 i5 i6 i7 hbi
        go_wp2_with (first
          | (with_reducible refine ldT rfl rfl rfl HFB.out.rt hsT ?_)
          | (with_reducible refine ldT rfl rfl rfl (HFB.out.call HB3.out).rt hsT ?_)
          | (go_at_call 115; (with_reducible refine HKD.out.mono ?_); rintro e w3 ⟨rfl, hb3⟩; have HB3 := Lib.hid hb3; have x4 := (HFB.out.call hb3).rx.cell (j := 4) rfl; have lx3 := (HFB.out.call hb3).rx.lt; clear hb3)
          | (go_at_call 117; (with_reducible refine (HSM.out _ HB3.out).mono ?_); rintro e w4 ⟨rfl, hb4⟩; have HB4 := Lib.hid (HB3.out.trans (hb4.mono HB3.out.size)); clear hb4))
        go_ret
        exact ⟨by rw [HF.out]; rfl, HEND.out _ HB4.out⟩
      · have e0 : ((3 : Int) == 0) = false := by decide
        have e2 : ((3 : Int) == 2) = false := by decide
        have e3 : ((3 : Int) == 3) = true := by decide
        have e4 : ((3 : Int) == 4) = false := by decide
        have e5 : ((3 : Int) == 5) = false := by decide
        have e6 : ((3 : Int) == 6) = false := by decide
        have HF : Hid (r = tw) := by show _ = _; rw [HR.out]; simp [n1]
        (try clear n0); (try clear n1)
        go_enter Tryd.func116, Tryd.ntmps116
        go_upto_region 1 with fail
        rw [← hw1]
        clear hw1
        go_upto_region 2 with fail
        rw [← hw2]
        clear hw2 t3 lT i0 i1 i2 i3 i4 i5 i6 i7 hbi
        go_wp2_with (first
          | (with_reducible refine ldT rfl rfl rfl HFB.out.rt hsT ?_)
          | (with_reducible refine ldT rfl rfl rfl (HFB.out.call HB3.out).rt hsT ?_)
          | (go_at_call 115; (with_reducible refine HKD.out.mono ?_); rintro e w3 ⟨rfl, hb3⟩; have HB3 := Lib.hid hb3; have x4 := (HFB.out.call hb3).rx.cell (j := 4) rfl; have lx3 := (HFB.out.call hb3).rx.lt; clear hb3)
          | (go_at_call 117; (with_reducible refine (HSM.out _ HB3.out).mono ?_); rintro e w4 ⟨rfl, hb4⟩; have HB4 := Lib.hid (HB3.out.trans (hb4.mono HB3.out.size)); clear hb4))
        go_ret
        exact ⟨by rw [HF.out]; rfl, HEND.out _ HB4.out⟩
      · have e0 : ((4 : Int) == 0) = false := by decide
        have e2 : ((4 : Int) == 2) = false := by decide
        have e3 : ((4 : Int) == 3) = false := by decide
        have e4 : ((4 : Int) == 4) = true := by decide
        have e5 : ((4 : Int) == 5) = false := by decide
        have e6 : ((4 : Int) == 6) = false := by decide
        have HF : Hid (r = tw) := by show _ = _; rw [HR.out]; simp [n1]
        (try clear n0); (try clear n1)
        go_enter Tryd.func116, Tryd.ntmps116
        go_upto_region 1 with fail
        rw [← hw1]
        clear hw1
        go_upto_region 2 with fail
        rw [← hw2]
        clear hw2 t3 lT i0 i1 i2 i3 i4 i5 i6 i7 hbi
        go_wp2_with (first
          | (with_reducible refine ldT rfl rfl rfl HFB.out.rt hsT ?_)
          | (with_reducible refine ldT rfl rfl rfl (HFB.out.call HB3.out).rt hsT ?_)
          | (go_at_call 115; (with_reducible refine HKD.out.mono ?_); rintro e w3 ⟨rfl, hb3⟩; have HB3 := Lib.hid hb3; have x4 := (HFB.out.call hb3).rx.cell (j := 4) rfl; have lx3 := (HFB.out.call hb3).rx.lt; clear hb3)
          | (go_at_call 117; (with_reducible refine (HSM.out _ HB3.out).mono ?_); rintro e w4 ⟨rfl, hb4⟩; have HB4 := Lib.hid (HB3.out.trans (hb4.mono HB3.out.size)); clear hb4))
        go_ret
        exact ⟨by rw [HF.out]; rfl, HEND.out _ HB4.out⟩
      · have e0 : ((5 : Int) == 0) = false := by decide
        have e2 : ((5 : Int) == 2) = false := by decide
        have e3 : ((5 : Int) == 3) = false := by decide
        have e4 : ((5 : Int) == 4) = false := by decide
        have e5 : ((5 : Int) == 5) = true := by decide
        have e6 : ((5 : Int) == 6) = false := by decide
        have HF : Hid (r = tw) := by show _ = _; rw [HR.out]; simp [n1]
        (try clear n0); (try clear n1)
        go_enter Tryd.func116, Tryd.ntmps116
        go_upto_region 1 with fail
        rw [← hw1]
        clear hw1
        go_upto_region 2 with fail
        rw [← hw2]
        clear hw2 t3 lT i0 i1 i2 i3 i4 i5 i6 i7 hbi
        go_wp2_with (first
          | (with_reducible refine ldT rfl rfl rfl HFB.out.rt hsT ?_)
          | (with_reducible refine ldT rfl rfl rfl (HFB.out.call HB3.out).rt hsT ?_)
          | (go_at_call 115; (with_reducible refine HKD.out.mono ?_); rintro e w3 ⟨rfl, hb3⟩; have HB3 := Lib.hid hb3; have x4 := (HFB.out.call hb3).rx.cell (j := 4) rfl; have lx3 := (HFB.out.call hb3).rx.lt; clear hb3)
          | (go_at_call 117; (with_reducible refine (HSM.out _ HB3.out).mono ?_); rintro e w4 ⟨rfl, hb4⟩; have HB4 := Lib.hid (HB3.out.trans (hb4.mono HB3.out.size)); clear hb4))
        go_ret
        exact ⟨by rw [HF.out]; rfl, HEND.out _ HB4.out⟩
      · have e0 : ((6 : Int) == 0) = false := by decide
        have e2 : ((6 : Int) == 2) = false := by decide
        have e3 : ((6 : Int) == 3) = false := by decide
        have e4 : ((6 : Int) == 4) = false := by decide
        have e5 : ((6 : Int) == 5) = false := by decide
        have e6 : ((6 : Int) == 6) = true := by decide
        have HF : Hid (r = tw) := by show _ = _; rw [HR.out]; simp [n1]
        (try clear n0); (try clear n1)
        go_enter Tryd.func116, Tryd.ntmps116
        go_upto_region 1 with fail
        rw [← hw1]
        clear hw1
        go_upto_region 2 with fail
        rw [← hw2]
        clear hw2 t3 lT i0 i1 i2 i3 i4 i5 i6 i7 hbi
        go_wp2_with (first
          | (with_reducible refine ldT rfl rfl rfl HFB.out.rt hsT ?_)
          | (with_reducible refine ldT rfl rfl rfl (HFB.out.call HB3.out).rt hsT ?_)
          | (go_at_call 115; (with_reducible refine HKD.out.mono ?_); rintro e w3 ⟨rfl, hb3⟩; have HB3 := Lib.hid hb3; have x4 := (HFB.out.call hb3).rx.cell (j := 4) rfl; have lx3 := (HFB.out.call hb3).rx.lt; clear hb3)
          | (go_at_call 117; (with_reducible refine (HSM.out _ HB3.out).mono ?_); rintro e w4 ⟨rfl, hb4⟩; have HB4 := Lib.hid (HB3.out.trans (hb4.mono HB3.out.size)); clear hb4))
        go_ret
        exact ⟨by rw [HF.out]; rfl, HEND.out _ HB4.out⟩
  · have e0 : (k == 0) = false := by simpa using k0
    have e2 : (k == 2) = false := by simp; omega
    have e3 : (k == 3) = false := by simp; omega
    have e4 : (k == 4) = false := by simp; omega
    have e5 : (k == 5) = false := by simp; omega
    have e6 : (k == 6) = false := by simp; omega
    have HF : Hid (r = tw) := by
      show _ = _
      rw [HR.out, decide_eq_false k0]
      have : (decide (2 ≤ k) && (decide (k ≤ 6) && decide (x.N = 1))) = false := by
        rw [Bool.and_eq_false_iff]
        by_cases h : 2 ≤ k
        · exact .inr (by rw [decide_eq_false (by omega)]; rfl)
        · exact .inl (decide_eq_false h)
      rw [this]
      rfl
    clear k0 k2
    go_enter Tryd.func116, Tryd.ntmps116
    go_upto_region 1 with fail
    rw [← hw1]
    clear hw1
    go_upto_region 2 with fail
    rw [← hw2]
    clear hw2 t3 lT i0 i1 i2 i3 i4 i5 i6 i7 hbi
    go_wp2_with (first
      | (with_reducible refine ldT rfl rfl rfl HFB.out.rt hsT ?_)
      | (with_reducible refine ldT rfl rfl rfl (HFB.out.call HB3.out).rt hsT ?_)
      | (go_at_call 115; (with_reducible refine HKD.out.mono ?_); rintro e w3 ⟨rfl, hb3⟩; have HB3 := Lib.hid hb3; have x4 := (HFB.out.call hb3).rx.cell (j := 4) rfl; have lx3 := (HFB.out.call hb3).rx.lt; clear hb3)
      | (go_at_call 117; (with_reducible refine (HSM.out _ HB3.out).mono ?_); rintro e w4 ⟨rfl, hb4⟩; have HB4 := Lib.hid (HB3.out.trans (hb4.mono HB3.out.size)); clear hb4))
    go_ret
    exact ⟨by rw [HF.out]; rfl, HEND.out _ HB4.out⟩
set_option maxRecDepth 100000 in
set_option maxHeartbeats 1000000 in
/-- shaped: is the shape said? -/
theorem fshaped_any {S : Nat → Prop} {w : World} {T : Array Value} {t : Api.TTrace} (ht : Rep.cells S w T.toList t) (hS : ∀ b, S b → b < w.heap.size) (h0 : 0 ≤ t.Loop) (h1 : t.Loop ≤ t.Ins.length) {i : Nat} {x : Api.TIns} (hx : t.Ins[i]? = some x) :
    Calls Tryd.prog 118 #[.agg T, .int .i64 i] w fun e w' => e = .returned (.bool (shapedB t i x)) ∧ Below w.heap.size w w' := by
  obtain ⟨aI, nI, cI, hT, hcap⟩ := tcap_of ht
  have hI9 := hT.few
  have hsT := hT.size
  have hi : i < nI := by rw [← hT.len]; exact (List.getElem?_eq_some_iff.1 hx).1
  obtain ⟨w1, hw1⟩ : ∃ w1, w1 = w.alloc (.cells T 34) := ⟨_, rfl⟩
  obtain ⟨w2, hw2⟩ : ∃ w2, w2 = w1.alloc (.cells #[.int .i64 x.Op, .int .i64 x.A, .int .i64 x.B, .int .i64 x.C, .int .i64 x.N, .int .i64 x.Exit, .int .i64 x.K.Kind, .int .i64 x.K.N] 48) := ⟨_, rfl⟩
  obtain ⟨hfb, rT, hI1, hS1⟩ := fb_of ht hS hT x hw1 hw2
  have HFB := Lib.hid hfb
  have t3 := rT.cell hT.c3
  have HC3 := Lib.hid hT.c3
  have HLI := Lib.hid hT.len
  have lT := rT.lt
  obtain ⟨bi, oi, haI, hSi, i0, i1, i2, i3, i4, i5, i6, i7, -⟩ := api_TIns_elem hI1 hx
  have hbi := hS1 bi hSi
  have hii : (i : Int) < (nI : Int) := by omega
  have HX := Lib.hid hx
  obtain ⟨lo, hlo⟩ : ∃ lo, lo = fromP t i := ⟨_, rfl⟩
  have HFR : Hid (∀ W, Below w2.heap.size w2 W → Calls Tryd.prog 143 #[.agg T, .int .i64 i] W fun e w' => e = .returned (.int .i64 (lo : Int)) ∧ Below W.heap.size W w') := fun W hb => by
    rw [hlo]
    exact ffrom_any (hfb.call hb).rep (hfb.call hb).dom h0 h1 i
  obtain ⟨r, hr⟩ : ∃ r, r = shapedB t i x := ⟨_, rfl⟩
  rw [← hr]
  have HR : Hid (r = (lastS t.Ins x lo i).getD false) := by show _ = _; rw [hr, hlo]; rfl
  clear hr hlo hT hS hS1 hI1 ht hx rT hSi h0 h1
  rw [haI] at t3
  have HAI := Lib.hid haI
  clear haI
  have HRX : Hid (Row w2 w1.heap.size 48 #[.int .i64 x.Op, .int .i64 x.A, .int .i64 x.B, .int .i64 x.C, .int .i64 x.N, .int .i64 x.Exit, .int .i64 x.K.Kind, .int .i64 x.K.N]) := hfb.rx
  clear hfb
  have HEND : Hid (∀ W, Below w2.heap.size w2 W → Below w.heap.size w W) := fun W hb => HFB.out.below.trans (hb.mono HFB.out.below.size)
  have HB0 : Hid (Below w2.heap.size w2 w2) := Below.refl _ _
  go_enter Tryd.func118, Tryd.ntmps118
  go_upto_region 1 with fail
  rw [← hw1]
  clear hw1
  go_upto_region 2 with fail
  rw [← hw2]
  clear hw2 t3 lT i0 i1 i2 i3 i4 i5 i6 i7 hbi
  go_wp2_with fail
  go_loopw [6] (fun s6 W => ∃ z : Int, -1 ≤ z ∧ z < i ∧ s6 = .int .i64 z ∧ lastS t.Ins x lo i = lastS t.Ins x lo (z + 1).toNat ∧ Below w2.heap.size w2 W) (fun s6 _ => (intOf s6 + 1).toNat)
  case atStart => exact ⟨(i : Int) - 1, by omega, by omega, by go_num, by rw [show ((i : Int) - 1 + 1).toNat = i by omega], HB0.out⟩
  case round =>
    obtain ⟨z, hz1, hz2, rfl, hls, hbr⟩ := hrel
    have HLS := Lib.hid hls; have HBR := Lib.hid hbr
    have hfbr := HFB.out.call hbr
    have HRT := Lib.hid hfbr.rt
    clear hls
    by_cases hlz : (lo : Int) ≤ z
    · as_aux_lemma =>
        obtain ⟨j, rfl⟩ : ∃ j : Nat, z = j := ⟨z.toNat, by omega⟩
        have dz : decide ((lo : Int) ≤ (j : Int)) = true := decide_eq_true hlz
        have hlj : lo ≤ j := by omega
        obtain ⟨y, hy⟩ : ∃ y, t.Ins[j]? = some y := ⟨_, List.getElem?_eq_getElem (by rw [HLI.out]; omega)⟩
        have HLJ : Hid (lastS t.Ins x lo i = match shapeAt x y j with
          | some b => some b
          | none => lastS t.Ins x lo j) := by show _ = _; rw [HLS.out, show ((j : Int) + 1).toNat = j + 1 by omega]; exact lastS_step hlj hy
        have HNO : Hid (shapeAt x y j = none → lastS t.Ins x lo i = lastS t.Ins x lo ((j : Int) - 1 + 1).toNat) := fun h => by rw [HLJ.out, h, show ((j : Int) - 1 + 1).toNat = j by omega]
        have HYS : Hid (∀ b, shapeAt x y j = some b → r = b) := fun b h => by rw [HR.out, HLJ.out, h]; rfl
        have HY := Lib.hid hy
        clear hy hlz hfbr hbr
        go_upto_region 5 with (first
          | (with_reducible refine ldT rfl rfl rfl HRT.out hsT ?_)
          | (go_at_call 143; (with_reducible refine (HFR.out _ HBR.out).mono ?_); rintro e w3 ⟨rfl, hb3⟩; have HB3 := Lib.hid (HBR.out.trans (hb3.mono HBR.out.size)); clear hb3))
        have hfb3 := HFB.out.call HB3.out
        have t3 := hfb3.rt.cell HC3.out
        have lT := hfb3.rt.lt
        obtain ⟨bj, oj, haJ, hSj, i0, i1, i2, i3, i4, i5, i6, i7, -⟩ := api_TIns_elem hfb3.ins HY.out
        have hbj := hfb3.dom bj hSj
        have hjn : (j : Int) < (nI : Int) := by omega
        rw [haJ] at t3
        clear hfb3 hSj haJ
        go_upto_region 6 with fail
        generalize hW4 : w3.alloc (.cells #[.int .i64 y.Op, .int .i64 y.A, .int .i64 y.B, .int .i64 y.C, .int .i64 y.N, .int .i64 y.Exit, .int .i64 y.K.Kind, .int .i64 y.K.N] 48) = w4
        have hb4 : Below w3.heap.size w3 w4 := by rw [← hW4]; exact cod.below_al2 _
        have ry : Row w4 w3.heap.size 48 #[.int .i64 y.Op, .int .i64 y.A, .int .i64 y.B, .int .i64 y.C, .int .i64 y.N, .int .i64 y.Exit, .int .i64 y.K.Kind, .int .i64 y.K.N] := by rw [← hW4]; exact row_new _ _ _
        have HB4 : Hid (Below w2.heap.size w2 w4) := HB3.out.trans (hb4.mono HB3.out.size)
        have rx := (HFB.out.call HB4.out).rx
        have y0 := ry.cell (j := 0) rfl; have y1 := ry.cell (j := 1) rfl; have y2 := ry.cell (j := 2) rfl; have y4 := ry.cell (j := 4) rfl
        have x1 := rx.cell (j := 1) rfl; have x2 := rx.cell (j := 2) rfl
        have ly := ry.lt; have lx := rx.lt
        clear hW4 hb4 ry rx t3 lT i0 i1 i2 i3 i4 i5 i6 i7 hbj dz
        by_cases ho : y.Op = 9
        · have o9 : (y.Op == 9) = true := by simp [ho]
          have o16 : (y.Op == 16) = false := by simp [ho]
          have o12 : (y.Op == 12) = false := by simp [ho]
          by_cases ha : y.A = x.A
          · have da : (y.A == x.A) = true := by simp [ha]
            by_cases hn : y.N = 1
            · have dn : (y.N == 1) = true := by simp [hn]
              have HF := Lib.hid (HYS.out (y.B == x.B) (by unfold shapeAt; rw [if_pos ⟨ho, ha, hn⟩]; rfl))
              (try clear hn); (try clear ha); (try clear ho)
              go_wp2_with fail
              go_ret
              exact ⟨by rw [HF.out]; rfl, HEND.out _ HB4.out⟩
            · have dn : (y.N == 1) = false := by simpa using hn
              have HN := Lib.hid (HNO.out (by unfold shapeAt; rw [if_neg (fun h => hn h.2.2), if_neg (by omega), if_neg (by omega)]))
              (try clear hn); (try clear ha); (try clear ho)
              go_wp2_with fail
              go_roundw
              case rel => exact ⟨(j : Int) - 1, by omega, by omega, by go_num, HN.out, HB4.out⟩
              case measure => simp [intOf] <;> omega
          · have da : (y.A == x.A) = false := by simpa using ha
            have HN := Lib.hid (HNO.out (by unfold shapeAt; rw [if_neg (fun h => ha h.2.1), if_neg (by omega), if_neg (by omega)]))
            (try clear hn); (try clear ha); (try clear ho)
            go_wp2_with fail
            go_roundw
            case rel => exact ⟨(j : Int) - 1, by omega, by omega, by go_num, HN.out, HB4.out⟩
            case measure => simp [intOf] <;> omega
        by_cases ho16 : y.Op = 16
        · have ho9 := ho
          have ho := ho16
          have o9 : (y.Op == 9) = false := by simp [ho]
          have o16 : (y.Op == 16) = true := by simp [ho]
          have o12 : (y.Op == 12) = false := by simp [ho]
          by_cases ha : (j : Int) = x.A
          · have da : ((j : Int) == x.A) = true := by simp [ha]
            by_cases hn : y.N = 1
            · have dn : (y.N == 1) = true := by simp [hn]
              have HF := Lib.hid (HYS.out (x.B == 0) (by unfold shapeAt; rw [if_neg (by omega), if_pos ⟨ho, ha, hn⟩]; rfl))
              (try clear hn); (try clear ha); (try clear ho)
              go_wp2_with fail
              go_ret
              exact ⟨by rw [HF.out]; rfl, HEND.out _ HB4.out⟩
            · have dn : (y.N == 1) = false := by simpa using hn
              have HN := Lib.hid (HNO.out (by unfold shapeAt; rw [if_neg (by omega), if_neg (fun h => hn h.2.2), if_neg (by omega)]))
              (try clear hn); (try clear ha); (try clear ho)
              go_wp2_with fail
              go_roundw
              case rel => exact ⟨(j : Int) - 1, by omega, by omega, by go_num, HN.out, HB4.out⟩
              case measure => simp [intOf] <;> omega
          · have da : ((j : Int) == x.A) = false := by simpa using ha
            have HN := Lib.hid (HNO.out (by unfold shapeAt; rw [if_neg (by omega), if_neg (fun h => ha h.2.1), if_neg (by omega)]))
            (try clear hn); (try clear ha); (try clear ho)
            go_wp2_with fail
            go_roundw
            case rel => exact ⟨(j : Int) - 1, by omega, by omega, by go_num, HN.out, HB4.out⟩
            case measure => simp [intOf] <;> omega
        have ho9 := ho
        by_cases ho12 : y.Op = 12
        · have ho := ho12
          have o9 : (y.Op == 9) = false := by simp [ho]
          have o16 : (y.Op == 16) = false := by simp [ho]
          have o12 : (y.Op == 12) = true := by simp [ho]
          by_cases ha : y.A = x.A
          · have da : (y.A == x.A) = true := by simp [ha]
            have HF := Lib.hid (HYS.out (y.N == x.B) (by unfold shapeAt; rw [if_neg (by omega), if_neg (by omega), if_pos ho, decide_eq_true ha]; rfl))
            (try clear hn); (try clear ha); (try clear ho)
            go_wp2_with fail
            go_ret
            exact ⟨by rw [HF.out]; rfl, HEND.out _ HB4.out⟩
          · have da : (y.A == x.A) = false := by simpa using ha
            have HF := Lib.hid (HYS.out (false) (by unfold shapeAt; rw [if_neg (by omega), if_neg (by omega), if_pos ho, decide_eq_false ha]; rfl))
            (try clear hn); (try clear ha); (try clear ho)
            go_wp2_with fail
            go_ret
            exact ⟨by rw [HF.out]; rfl, HEND.out _ HB4.out⟩
        have o9 : (y.Op == 9) = false := by simpa using ho9
        have o16 : (y.Op == 16) = false := by simpa using ho16
        have o12 : (y.Op == 12) = false := by simpa using ho12
        have HN := Lib.hid (HNO.out (by unfold shapeAt; rw [if_neg (by omega), if_neg (by omega), if_neg (by omega)]))
        (try clear hn); (try clear ha); (try clear ho)
        go_wp2_with fail
        go_roundw
        case rel => exact ⟨(j : Int) - 1, by omega, by omega, by go_num, HN.out, HB4.out⟩
        case measure => simp [intOf] <;> omega
    · as_aux_lemma =>
        have dz : decide ((lo : Int) ≤ z) = false := decide_eq_false hlz
        have HF : Hid (r = false) := by
          show _ = _
          rw [HR.out, HLS.out, lastS_low (by omega)]
          rfl
        clear hlz hfbr hbr
        go_wp2_with (first
          | (with_reducible refine ldT rfl rfl rfl HRT.out hsT ?_)
          | (go_at_call 143; (with_reducible refine (HFR.out _ HBR.out).mono ?_); rintro e w3 ⟨rfl, hb3⟩; have HB3 := Lib.hid (HBR.out.trans (hb3.mono HBR.out.size)); clear hb3))
        go_ret
        exact ⟨by rw [HF.out]; rfl, HEND.out _ HB3.out⟩
set_option maxRecDepth 100000 in
set_option maxHeartbeats 1000000 in
/-- said: is it said already? -/
theorem fsaid_any {S : Nat → Prop} {w : World} {T : Array Value} {t : Api.TTrace} (ht : Rep.cells S w T.toList t) (hS : ∀ b, S b → b < w.heap.size) (hr : RightT t) {i : Nat} {x : Api.TIns} (hx : t.Ins[i]? = some x) :
    Calls Tryd.prog 78 #[.agg T, .int .i64 i] w fun e w' => e = .returned (.bool (saidB t i x)) ∧ Below w.heap.size w w' := by
  obtain ⟨aI, nI, cI, hT, hcap⟩ := tcap_of ht
  have hI9 := hT.few
  have hsT := hT.size
  have hi : i < nI := by rw [← hT.len]; exact (List.getElem?_eq_some_iff.1 hx).1
  obtain ⟨w1, hw1⟩ : ∃ w1, w1 = w.alloc (.cells T 34) := ⟨_, rfl⟩
  obtain ⟨w2, hw2⟩ : ∃ w2, w2 = w1.alloc (.cells #[.int .i64 x.Op, .int .i64 x.A, .int .i64 x.B, .int .i64 x.C, .int .i64 x.N, .int .i64 x.Exit, .int .i64 x.K.Kind, .int .i64 x.K.N] 48) := ⟨_, rfl⟩
  obtain ⟨hfb, rT, hI1, hS1⟩ := fb_of ht hS hT x hw1 hw2
  have HFB := Lib.hid hfb
  have t3 := rT.cell hT.c3
  have HC3 := Lib.hid hT.c3
  have HLI := Lib.hid hT.len
  have lT := rT.lt
  obtain ⟨bi, oi, haI, hSi, i0, i1, i2, i3, i4, i5, i6, i7, -⟩ := api_TIns_elem hI1 hx
  have hbi := hS1 bi hSi
  have hii : (i : Int) < (nI : Int) := by omega
  have HX := Lib.hid hx
  obtain ⟨k, hk⟩ : ∃ k, k = kd t x.A i := ⟨_, rfl⟩
  obtain ⟨tw, htw⟩ : ∃ b, b = twinB t.Ins i x := ⟨_, rfl⟩
  obtain ⟨sh, hsh⟩ : ∃ b, b = shapedB t i x := ⟨_, rfl⟩
  obtain ⟨tr, htr⟩ : ∃ b, b = truthB k x tw := ⟨_, rfl⟩
  have HKD : Hid (∀ d : Drift w2, Calls Tryd.prog 115 #[.agg T, .int .i64 x.A, .int .i64 i] d.val fun e w' => e = .returned (.int .i64 k) ∧ Below d.val.heap.size d.val w') := fun d => by
    rw [hk]
    exact kind_any _ S _ T t (hfb.call d.below).rep (hfb.call d.below).dom x.A i (Or.inl (by omega))
  have HRTD : Hid (∀ W, (∃ d : Drift w2, W = d.val) → Row W w.heap.size 34 T) := fun W ⟨d, hd⟩ => by rw [hd]; exact (hfb.call d.below).rt
  have HSM : Hid (∀ W, Below w2.heap.size w2 W → Calls Tryd.prog 117 #[.agg T, .int .i64 i] W fun e w' => e = .returned (.bool tw) ∧ Below W.heap.size W w') := fun W hb => by
    rw [htw]
    exact fsame_any (hfb.call hb).rep (hfb.call hb).dom HX.out
  have HTR : Hid (Calls Tryd.prog 116 #[.agg T, .int .i64 i] w2 fun e w' => e = .returned (.bool tr) ∧ Below w2.heap.size w2 w') := by
    rw [htr, htw, hk]
    exact ftruth_any hfb.rep hfb.dom HX.out
  have HSH : Hid (Calls Tryd.prog 118 #[.agg T, .int .i64 i] w2 fun e w' => e = .returned (.bool sh) ∧ Below w2.heap.size w2 w') := by
    rw [hsh]
    exact fshaped_any hfb.rep hfb.dom hr.loop.1 hr.loop.2 HX.out
  obtain ⟨r, hr'⟩ : ∃ r, r = saidB t i x := ⟨_, rfl⟩
  rw [← hr']
  have HR : Hid (r = if x.Op = 4 then decide (k = x.N)
    else if x.Op = 5 then tr
    else if x.Op = 6 ∨ x.Op = 19 then tw
    else if x.Op = 9 then (if x.N = 1 then sh else tw || newB t.Ins x)
    else false) := by show _ = _; rw [hr', hk, htr, htw, hsh, hk]; rfl
  have HAS : Hid (x.Op = 9 → ∃ (j : Nat) (y : Api.TIns), x.A = j ∧ j < nI ∧ t.Ins[j]? = some y ∧ newB t.Ins x = ((y.Op == 16) && (y.N == x.N))) := fun h9 => by
    have hin : x.A ∈ asksOf x := by
      unfold asksOf
      rw [h9]
      simp [formOf]
    obtain ⟨j, y, h1, h2, h3, -⟩ := valAt_iff.1 (hr.asks i x hx x.A hin)
    refine ⟨j, y, h1, by rw [← hT.len]; exact (List.getElem?_eq_some_iff.1 h3).1, h3, ?_⟩
    unfold newB
    rw [h1, Int.toNat_natCast, h3]
    dsimp only
    rw [Bool.eq_iff_iff]
    simp
  clear hr' hk htw hsh htr hT hS hS1 hI1 ht hx rT hSi hr
  rw [haI] at t3
  have HAI := Lib.hid haI
  clear haI
  have x0 := hfb.rx.cell (j := 0) rfl; have x1 := hfb.rx.cell (j := 1) rfl; have x4 := hfb.rx.cell (j := 4) rfl
  have lx := hfb.rx.lt
  have HRT2 : Hid (Row w2 w.heap.size 34 T) := hfb.rt
  have HEND : Hid (∀ W, Below w2.heap.size w2 W → Below w.heap.size w W) := fun W hb => HFB.out.below.trans (hb.mono HFB.out.below.size)
  have HB0 : Hid (Below w2.heap.size w2 w2) := Below.refl _ _
  have hsz2 : w.heap.size ≤ w2.heap.size := HFB.out.below.size
  clear hfb
  by_cases h4 : x.Op = 4
  · have ho := h4
    have o4 : (x.Op == 4) = true := by simp [ho]
    have o5 : (x.Op == 5) = false := by simp [ho]
    have o6 : (x.Op == 6) = false := by simp [ho]
    have o19 : (x.Op == 19) = false := by simp [ho]
    have o9 : (x.Op == 9) = false := by simp [ho]
    have HF : Hid (r = (k == x.N)) := by show _ = _; rw [HR.out, if_pos h4]; rfl
    clear HAS h4 ho
    go_enter Tryd.func78, Tryd.ntmps78
    go_upto_region 1 with fail
    rw [← hw1]
    clear hw1
    go_upto_region 2 with fail
    rw [← hw2]
    clear hw2 t3 lT i0 i1 i2 i3 i4 i5 i6 i7 hbi
    go_upto_region 4 with fail
    first | (refine wp_region_drift_lit (by kernel_rfl) (by kernel_rfl) (fun hdr => ?_); (repeat (first | go_big_quiet_skip | (go_big_quiet_want; (first | ((with_reducible refine qldT rfl rfl HRTD.out hsT ?_); simp only [Act.put, List.setIfInBounds_toArray, List.set_cons_succ, List.set_cons_zero]) | go_big_quiet_op); (first | go_big_quiet_on | go_big_quiet_call ((go_at_call 115; with_reducible exact drift_of (HKD.out _))))))); refine wpQuiet_nil ?_; intro wq hw'; obtain ⟨⟨wd, hbd⟩, hw''⟩ := hw'; dsimp only at hw''; subst wq; clear hdr)
    go_wp2
    go_ret
    exact ⟨by rw [HF.out]; rfl, HEND.out _ hbd⟩
  by_cases h5 : x.Op = 5
  · have ho := h5
    have o4 : (x.Op == 4) = false := by simp [ho]
    have o5 : (x.Op == 5) = true := by simp [ho]
    have o6 : (x.Op == 6) = false := by simp [ho]
    have o19 : (x.Op == 19) = false := by simp [ho]
    have o9 : (x.Op == 9) = false := by simp [ho]
    have HF : Hid (r = tr) := by show _ = _; rw [HR.out]; rw [if_neg (by omega), if_pos h5]
    (try clear n1); clear HAS; (try clear h4); (try clear h5); (try clear h6); (try clear h19); (try clear h9); (try clear ho)
    go_enter Tryd.func78, Tryd.ntmps78
    go_upto_region 1 with fail
    rw [← hw1]
    clear hw1
    go_upto_region 2 with fail
    rw [← hw2]
    clear hw2 t3 lT i0 i1 i2 i3 i4 i5 i6 i7 hbi
    go_wp2_with (first
      | (with_reducible refine ldT rfl rfl rfl HRT2.out hsT ?_)
      | (go_at_call 116; (with_reducible refine HTR.out.mono ?_); rintro e w4 ⟨rfl, hb4⟩; have HB4 := Lib.hid hb4; clear hb4)
      | (go_at_call 118; (with_reducible refine HSH.out.mono ?_); rintro e w4 ⟨rfl, hb4⟩; have HB4 := Lib.hid hb4; clear hb4)
      | (go_at_call 117; (with_reducible refine (HSM.out _ HB0.out).mono ?_); rintro e w4 ⟨rfl, hb4⟩; have HB4 := Lib.hid hb4; clear hb4))
    go_ret
    exact ⟨by rw [HF.out]; rfl, HEND.out _ HB4.out⟩
  by_cases h6 : x.Op = 6
  · have ho := h6
    have o4 : (x.Op == 4) = false := by simp [ho]
    have o5 : (x.Op == 5) = false := by simp [ho]
    have o6 : (x.Op == 6) = true := by simp [ho]
    have o19 : (x.Op == 19) = false := by simp [ho]
    have o9 : (x.Op == 9) = false := by simp [ho]
    have HF : Hid (r = tw) := by show _ = _; rw [HR.out]; rw [if_neg (by omega), if_neg (by omega), if_pos (.inl h6)]
    (try clear n1); clear HAS; (try clear h4); (try clear h5); (try clear h6); (try clear h19); (try clear h9); (try clear ho)
    go_enter Tryd.func78, Tryd.ntmps78
    go_upto_region 1 with fail
    rw [← hw1]
    clear hw1
    go_upto_region 2 with fail
    rw [← hw2]
    clear hw2 t3 lT i0 i1 i2 i3 i4 i5 i6 i7 hbi
    go_wp2_with (first
      | (with_reducible refine ldT rfl rfl rfl HRT2.out hsT ?_)
      | (go_at_call 116; (with_reducible refine HTR.out.mono ?_); rintro e w4 ⟨rfl, hb4⟩; have HB4 := Lib.hid hb4; clear hb4)
      | (go_at_call 118; (with_reducible refine HSH.out.mono ?_); rintro e w4 ⟨rfl, hb4⟩; have HB4 := Lib.hid hb4; clear hb4)
      | (go_at_call 117; (with_reducible refine (HSM.out _ HB0.out).mono ?_); rintro e w4 ⟨rfl, hb4⟩; have HB4 := Lib.hid hb4; clear hb4))
    go_ret
    exact ⟨by rw [HF.out]; rfl, HEND.out _ HB4.out⟩
  by_cases h19 : x.Op = 19
  · have ho := h19
    have o4 : (x.Op == 4) = false := by simp [ho]
    have o5 : (x.Op == 5) = false := by simp [ho]
    have o6 : (x.Op == 6) = false := by simp [ho]
    have o19 : (x.Op == 19) = true := by simp [ho]
    have o9 : (x.Op == 9) = false := by simp [ho]
    have HF : Hid (r = tw) := by show _ = _; rw [HR.out]; rw [if_neg (by omega), if_neg (by omega), if_pos (.inr h19)]
    (try clear n1); clear HAS; (try clear h4); (try clear h5); (try clear h6); (try clear h19); (try clear h9); (try clear ho)
    go_enter Tryd.func78, Tryd.ntmps78
    go_upto_region 1 with fail
    rw [← hw1]
    clear hw1
    go_upto_region 2 with fail
    rw [← hw2]
    clear hw2 t3 lT i0 i1 i2 i3 i4 i5 i6 i7 hbi
    go_wp2_with (first
      | (with_reducible refine ldT rfl rfl rfl HRT2.out hsT ?_)
      | (go_at_call 116; (with_reducible refine HTR.out.mono ?_); rintro e w4 ⟨rfl, hb4⟩; have HB4 := Lib.hid hb4; clear hb4)
      | (go_at_call 118; (with_reducible refine HSH.out.mono ?_); rintro e w4 ⟨rfl, hb4⟩; have HB4 := Lib.hid hb4; clear hb4)
      | (go_at_call 117; (with_reducible refine (HSM.out _ HB0.out).mono ?_); rintro e w4 ⟨rfl, hb4⟩; have HB4 := Lib.hid hb4; clear hb4))
    go_ret
    exact ⟨by rw [HF.out]; rfl, HEND.out _ HB4.out⟩
  by_cases h9 : x.Op = 9
  · by_cases n1 : x.N = 1
    · have ho := h9
      have o4 : (x.Op == 4) = false := by simp [ho]
      have o5 : (x.Op == 5) = false := by simp [ho]
      have o6 : (x.Op == 6) = false := by simp [ho]
      have o19 : (x.Op == 19) = false := by simp [ho]
      have o9 : (x.Op == 9) = true := by simp [ho]
      have d1 : (x.N == 1) = true := by simp [n1]
      have HF : Hid (r = sh) := by show _ = _; rw [HR.out]; rw [if_neg (by omega), if_neg (by omega), if_neg (by omega), if_pos h9, if_pos n1]
      (try clear n1); clear HAS; (try clear h4); (try clear h5); (try clear h6); (try clear h19); (try clear h9); (try clear ho)
      go_enter Tryd.func78, Tryd.ntmps78
      go_upto_region 1 with fail
      rw [← hw1]
      clear hw1
      go_upto_region 2 with fail
      rw [← hw2]
      clear hw2 t3 lT i0 i1 i2 i3 i4 i5 i6 i7 hbi
      go_wp2_with (first
        | (with_reducible refine ldT rfl rfl rfl HRT2.out hsT ?_)
        | (go_at_call 116; (with_reducible refine HTR.out.mono ?_); rintro e w4 ⟨rfl, hb4⟩; have HB4 := Lib.hid hb4; clear hb4)
        | (go_at_call 118; (with_reducible refine HSH.out.mono ?_); rintro e w4 ⟨rfl, hb4⟩; have HB4 := Lib.hid hb4; clear hb4)
        | (go_at_call 117; (with_reducible refine (HSM.out _ HB0.out).mono ?_); rintro e w4 ⟨rfl, hb4⟩; have HB4 := Lib.hid hb4; clear hb4))
      go_ret
      exact ⟨by rw [HF.out]; rfl, HEND.out _ HB4.out⟩
    · obtain ⟨j, y, hA, hjn, hy, hnew⟩ := HAS.out h9
      have ho := h9
      have o4 : (x.Op == 4) = false := by simp [ho]
      have o5 : (x.Op == 5) = false := by simp [ho]
      have o6 : (x.Op == 6) = false := by simp [ho]
      have o19 : (x.Op == 19) = false := by simp [ho]
      have o9 : (x.Op == 9) = true := by simp [ho]
      have d1 : (x.N == 1) = false := by simpa using n1
      have HF : Hid (r = (tw || ((y.Op == 16) && (y.N == x.N)))) := by show _ = _; rw [HR.out, if_neg (by omega), if_neg (by omega), if_neg (by omega), if_pos h9, if_neg n1, hnew]
      obtain ⟨bj, oj, haJ, hSj, j0, j1, j2, j3, j4, j5, j6, j7, -⟩ := api_TIns_elem HFB.out.ins hy
      have hbj := HFB.out.dom bj hSj
      have hjn' : (j : Int) < (nI : Int) := by omega
      have hj0 : (0 : Int) ≤ (j : Int) := by omega
      have t3' := HFB.out.rt.cell HC3.out
      rw [haJ] at t3'
      have lT' := HFB.out.rt.lt
      rw [hA] at x1
      have HXA := Lib.hid hA
      clear hA hSj haJ hy hnew n1 HAS h4 h5 h6 h19 h9 ho
      go_enter Tryd.func78, Tryd.ntmps78
      go_upto_region 1 with fail
      rw [← hw1]
      clear hw1
      go_upto_region 2 with fail
      rw [← hw2]
      clear hw2 t3 lT i0 i1 i2 i3 i4 i5 i6 i7 hbi
      go_upto_region 14 with fail
      generalize hW4 : w2.alloc (.cells #[.int .i64 y.Op, .int .i64 y.A, .int .i64 y.B, .int .i64 y.C, .int .i64 y.N, .int .i64 y.Exit, .int .i64 y.K.Kind, .int .i64 y.K.N] 48) = w4
      have hb4 : Below w2.heap.size w2 w4 := by rw [← hW4]; exact cod.below_al2 _
      have ry : Row w4 w2.heap.size 48 #[.int .i64 y.Op, .int .i64 y.A, .int .i64 y.B, .int .i64 y.C, .int .i64 y.N, .int .i64 y.Exit, .int .i64 y.K.Kind, .int .i64 y.K.N] := by rw [← hW4]; exact row_new _ _ _
      have HB4 := Lib.hid hb4
      have HRT4 := Lib.hid (HFB.out.call hb4).rt
      have HRY := Lib.hid ry
      clear hW4 hb4 ry j0 j1 j2 j3 j4 j5 j6 j7 t3' lT' x0 x1 x4 lx
      cases tw with
      | true =>
        go_wp2_with (first
          | (with_reducible refine ldT rfl rfl rfl HRT4.out hsT ?_)
          | (go_at_call 117; (with_reducible refine (HSM.out _ HB4.out).mono ?_); rintro e w5 ⟨rfl, hb5⟩; have HB5 := Lib.hid (HB4.out.trans (hb5.mono HB4.out.size)); clear hb5))
        go_ret
        exact ⟨by rw [HF.out]; rfl, HEND.out _ HB5.out⟩
      | false =>
        cases c16 : (y.Op == 16) with
        | true =>
          go_wp2_with (first
            | (with_reducible refine ldT rfl rfl rfl HRT4.out hsT ?_)
            | (go_at_call 117; (with_reducible refine (HSM.out _ HB4.out).mono ?_); rintro e w5 ⟨rfl, hb5⟩; have HB5 := Lib.hid (HB4.out.trans (hb5.mono HB4.out.size)); have ry5 := HRY.out.keep (hb5.block _ HRY.out.lt); have y0 := ry5.cell (j := 0) rfl; have y4 := ry5.cell (j := 4) rfl; have ly := ry5.lt; have rx5 := (HFB.out.call HB5.out).rx; have x4 := rx5.cell (j := 4) rfl; have lx := rx5.lt; clear hb5 ry5 rx5))
          go_ret
          exact ⟨by rw [HF.out, c16]; simp, HEND.out _ HB5.out⟩
        | false =>
          go_wp2_with (first
            | (with_reducible refine ldT rfl rfl rfl HRT4.out hsT ?_)
            | (go_at_call 117; (with_reducible refine (HSM.out _ HB4.out).mono ?_); rintro e w5 ⟨rfl, hb5⟩; have HB5 := Lib.hid (HB4.out.trans (hb5.mono HB4.out.size)); have ry5 := HRY.out.keep (hb5.block _ HRY.out.lt); have y0 := ry5.cell (j := 0) rfl; have ly := ry5.lt; clear hb5 ry5))
          go_ret
          exact ⟨by rw [HF.out, c16]; simp, HEND.out _ HB5.out⟩
  have ho := h4
  have o4 : (x.Op == 4) = false := by simpa using h4
  have o5 : (x.Op == 5) = false := by simpa using h5
  have o6 : (x.Op == 6) = false := by simpa using h6
  have o19 : (x.Op == 19) = false := by simpa using h19
  have o9 : (x.Op == 9) = false := by simpa using h9
  have HF : Hid (r = false) := by show _ = _; rw [HR.out, if_neg h4, if_neg h5, if_neg (by omega), if_neg h9]
  clear HAS h4 h5 h6 h19 h9 ho
  go_enter Tryd.func78, Tryd.ntmps78
  go_upto_region 1 with fail
  rw [← hw1]
  clear hw1
  go_upto_region 2 with fail
  rw [← hw2]
  clear hw2 t3 lT i0 i1 i2 i3 i4 i5 i6 i7 hbi
  go_wp2_with fail
  go_ret
  exact ⟨by rw [HF.out]; rfl, HEND.out _ HB0.out⟩
end Go.Proofs.YtiiekmipcjpheaaDoor.fct
