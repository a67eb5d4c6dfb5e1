/- ir.checker: value, values, walked. -/
import Derived.Test.YtekofpigmggbbaaDoorQChkE
set_option linter.unusedVariables false
set_option linter.unusedSimpArgs false
namespace Go.Proofs.YtekofpigmggbbaaDoor.chk
open Go.Bk Go.RowKit Go.Proofs.YtekofpigmggbbaaDoor.ir

/-- What is read of a checker (a function, a trace) as it is handed over. -/
structure KIn (S : Nat → Prop) (w : World) (C : Array Value) (f : Api.Fn) (t : Api.TTrace) (a4 : Option Addr) (c4 : Nat) (aI : Option Addr) (nI cI : Nat) (aE : Option Addr) (nE cE : Nat) : Prop where
  size : C.size = 18
  regs : C.toList[1]? = some (.int .i64 f.Regs)
  code : C.toList[4]? = some (.slice a4 f.Code.length c4)
  cI : C.toList[8]? = some (.slice aI nI cI)
  cE : C.toList[9]? = some (.slice aE nE cE)
  ins : Arr S w aI t.Ins
  lenI : t.Ins.length = nI
  few : nI ≤ 9223372036854775807
  exits : Arr S w aE t.Exits
  lenE : t.Exits.length = nE
  fewE : nE ≤ 9223372036854775807
  fewC : f.Code.length ≤ 9223372036854775807
theorem KIn.keep {S : Nat → Prop} {w W : World} {C : Array Value} {f : Api.Fn} {t : Api.TTrace} {a4 : Option Addr} {c4 : Nat} {aI : Option Addr} {nI cI : Nat} {aE : Option Addr} {nE cE : Nat} (h : KIn S w C f t a4 c4 aI nI cI aE nE cE) (hk : ∀ b, S b → W.heap[b]? = w.heap[b]?) : KIn S W C f t a4 c4 aI nI cI aE nE cE :=
  ⟨h.size, h.regs, h.code, h.cI, h.cE, h.ins.keep hk, h.lenI, h.few, h.exits.keep hk, h.lenE, h.fewE, h.fewC⟩
section
variable {ops : Array Oper} {C : World → Prop} {Q : Exit → Act → World → Prop} {a : Act} {o : Oper} {w : World} {rest : List Oper} {K : Act → Prop} {x : Operand} {g : Nat} {X : Array Value}
theorem infoC (h : X.size = 18) : (Tryd.prog.info? 140).map (·.size) = some X.size := by
  rw [h]; kernel_rfl
theorem ldC (hw : Region.wanted o (yielded ops a.tmps) = true) (ho : o.op = .load 140 x) (hx : a.eval x = .pointer (some ⟨g, 0, none⟩)) (hg : Row w g 140 X) (hs : X.size = 18)
    (h : wpList Tryd.prog ops Q rest (a.put o.dst (.agg X)) w) : wpList Tryd.prog ops Q (o :: rest) a w :=
  wp_load_rowX hw 140 x ho g hx _ X hg _ Tryd.underlying140 rfl (infoC hs) h
theorem qldC (ho : o.op = .load 140 x) (hx : a.eval x = .pointer (some ⟨g, 0, none⟩)) (hg : ∀ w, C w → Row w g 140 X) (hs : X.size = 18)
    (h : K (a.put o.dst (.agg X))) : o.quiet Tryd.prog a C K :=
  quiet_load_row 140 x ho g hx _ X hg _ Tryd.underlying140 rfl (infoC hs) h
end
set_option maxRecDepth 100000 in
theorem cvalue_any {S : Nat → Prop} {w : World} {C : Array Value} {f : Api.Fn} {t : Api.TTrace} {a4 : Option Addr} {c4 : Nat} {aI : Option Addr} {nI cI : Nat} {aE : Option Addr} {nE cE : Nat} (hi : KIn S w C f t a4 c4 aI nI cI aE nE cE) (hS : ∀ b, S b → b < w.heap.size) (v at' : Int) :
    Calls Tryd.prog 127 #[.agg C, .int .i64 v, .int .i64 at'] w fun e w' => e = .returned (.bool (valAt t.Ins v at')) ∧ Below w.heap.size w w' := by
  have hrw := row_new w C 140
  obtain ⟨w1, hw1⟩ : ∃ w1, w1 = w.alloc (.cells C 140) := ⟨_, rfl⟩
  have HB1 : Hid (Below w.heap.size w w1) := by show Below _ _ _; rw [hw1]; exact cod.below_al2 _
  rw [← hw1] at hrw
  have p3 := hrw.cell hi.cI
  have hlt := hrw.lt
  have hn := hi.few
  have HI := Lib.hid hi
  have HS := Lib.hid hS
  obtain ⟨res, hres⟩ : ∃ r, r = valAt t.Ins v at' := ⟨_, rfl⟩
  rw [← hres]
  have HRS := Lib.hid hres
  clear hi hrw hS hres
  go_enter Tryd.func127, Tryd.ntmps127
  go_upto_region 1 with fail
  rw [← hw1]
  clear hw1
  by_cases hin : 0 ≤ v ∧ v < at' ∧ v < nI
  · obtain ⟨h1, h2, h3⟩ := hin
    obtain ⟨k, rfl⟩ : ∃ k : Nat, v = k := ⟨v.toNat, by omega⟩
    obtain ⟨x, hx⟩ : ∃ x, t.Ins[k]? = some x := ⟨_, List.getElem?_eq_getElem (by rw [HI.out.lenI]; omega)⟩
    obtain ⟨b, off, rfl, hb, y0⟩ := arr_ins_op (HI.out.ins.keep fun b hb => HB1.out.block b (HS.out b hb)) hx
    have hbl : b < w1.heap.size := Nat.lt_of_lt_of_le (HS.out b hb) HB1.out.size
    have HV : Hid (res = tellsOf x.Op) := by show _ = _; rw [HRS.out]; exact valAt_in h2 hx
    clear hx hb h1
    go_wp2_with (go_at_call 29; (with_reducible refine tells_any.mono ?_); rintro e w2 ⟨rfl, hb⟩; have HB2 := Lib.hid hb; clear hb)
    go_ret
    exact ⟨by rw [HV.out]; rfl, HB1.out.trans (HB2.out.mono HB1.out.size)⟩
  · have HV : Hid (res = false) := by show _ = _; rw [HRS.out]; exact valAt_not (by rw [HI.out.lenI]; exact hin)
    rcases (show v < 0 ∨ (¬ v < 0 ∧ at' ≤ v) ∨ (¬ v < 0 ∧ v < at' ∧ (nI : Int) ≤ v) by omega) with d | ⟨d, d2⟩ | ⟨d, d2, d3⟩
    all_goals
      clear hin
      go_wp2_with fail
      go_ret
      exact ⟨by rw [HV.out]; rfl, HB1.out⟩
theorem all_none {p : Int → Bool} {l : List Int} {k : Nat} {x : Int} (hx : l[k]? = some x) (h : p x = false) : l.all p = false := by
  rw [List.all_eq_false]
  exact ⟨x, List.mem_of_getElem? hx, by simp [h]⟩
def valsRel (w1 : World) (p : Int → Bool) (l : List Int) (i : Value) (wr : World) : Prop := ∃ k : Nat, k ≤ l.length ∧ i = .int .i64 k ∧ (∀ j x, j < k → l[j]? = some x → p x = true) ∧ Below w1.heap.size w1 wr
set_option maxRecDepth 100000 in
theorem cvalues_any {S R : Nat → Prop} {w : World} {C : Array Value} {f : Api.Fn} {t : Api.TTrace} {a4 : Option Addr} {c4 : Nat} {aI : Option Addr} {nI cI : Nat} {aE : Option Addr} {nE cE : Nat} (hi : KIn S w C f t a4 c4 aI nI cI aE nE cE) (hS : ∀ b, S b → b < w.heap.size)
    {av : Option Addr} {cv : Nat} {l : List Int} (hl : Arr R w av l) (hR : ∀ b, R b → b < w.heap.size) (at' : Int) :
    Calls Tryd.prog 126 #[.agg C, .slice av l.length cv, .int .i64 at'] w fun e w' => e = .returned (.bool (l.all fun v => valAt t.Ins v at')) ∧ Below w.heap.size w w' := by
  have hrw := row_new w C 140
  obtain ⟨w1, hw1⟩ : ∃ w1, w1 = w.alloc (.cells C 140) := ⟨_, rfl⟩
  have hb1 : Below w.heap.size w w1 := by rw [hw1]; exact cod.below_al2 _
  rw [← hw1] at hrw
  have HCE : Hid (∀ W, Below w1.heap.size w1 W → Row W w.heap.size 140 C ∧ KIn S W C f t a4 c4 aI nI cI aE nE cE ∧ (∀ b, S b → b < W.heap.size) ∧ Arr R W av l ∧ (∀ b, R b → b < W.heap.size) ∧ Below w.heap.size w W) := fun W hb => by
    have hbw : Below w.heap.size w W := hb1.trans (hb.mono hb1.size)
    exact ⟨hrw.keep (hb.block _ hrw.lt), hi.keep fun b hb' => hbw.block b (hS b hb'), fun b hb' => Nat.lt_of_lt_of_le (hS b hb') hbw.size, hl.keep fun b hb' => hbw.block b (hR b hb'), fun b hb' => Nat.lt_of_lt_of_le (hR b hb') hbw.size, hbw⟩
  have hsC := hi.size
  have hfew := hl.small
  unfold maxLen at hfew
  have HB0 : Hid (Below w1.heap.size w1 w1) := Below.refl _ _
  obtain ⟨p, hp⟩ : ∃ p : Int → Bool, p = fun v => valAt t.Ins v at' := ⟨_, rfl⟩
  have HV : Hid (∀ W v, Below w1.heap.size w1 W → Calls Tryd.prog 127 #[.agg C, .int .i64 v, .int .i64 at'] W fun e w' => e = .returned (.bool (p v)) ∧ Below w1.heap.size w1 w') := fun W v hb => by
    obtain ⟨k1, k2, k3, k4, k5, k6⟩ := HCE.out W hb
    rw [hp]
    exact (cvalue_any k2 k3 v at').mono fun e w' ⟨he, hb'⟩ => ⟨he, hb.trans (hb'.mono hb.size)⟩
  rw [← hp]
  obtain ⟨res, hres⟩ : ∃ r, r = l.all p := ⟨_, rfl⟩
  rw [← hres]
  have HRS := Lib.hid hres
  have HRW : Hid (∀ W, Below w1.heap.size w1 W → Row W w.heap.size 140 C) := fun W hb => (HCE.out W hb).1
  clear hi hS hl hR hrw hb1 hp hres
  go_enter Tryd.func126, Tryd.ntmps126
  go_upto_region 1 with fail
  rw [← hw1]
  clear hw1
  go_wp2_with fail
  go_loopw [11] (valsRel w1 p l) (fun i _ => l.length - (intOf i).toNat)
  case atStart => exact ⟨0, Nat.zero_le _, rfl, fun j x hj => by omega, HB0.out⟩
  case round =>
    obtain ⟨k, hk, rfl, hall, hbr⟩ := hrel
    have HAL := Lib.hid hall; have HBR := Lib.hid hbr
    obtain ⟨k1, k2, k3, k4, k5, k6⟩ := HCE.out wr hbr
    by_cases hlt : k < l.length
    · obtain ⟨y, hy⟩ : ∃ y, l[k]? = some y := ⟨_, List.getElem?_eq_getElem hlt⟩
      obtain ⟨b, off, cs, rfl, hb, ⟨rfl, -⟩, g1⟩ := k4.at hy
      have y0 : wr.cell? ⟨b, off + k, none⟩ = some (.int .i64 y) := by simpa [show Rep.sz Int = 1 from rfl] using g1 0 Nat.zero_lt_one
      have hbl := k5 b hb
      have HY := Lib.hid hy
      cases hpy : p y with
      | false =>
        have HVF : Hid (∀ W, Below w1.heap.size w1 W → Calls Tryd.prog 127 #[.agg C, .int .i64 y, .int .i64 at'] W fun e w' => e = .returned (.bool false) ∧ Below w1.heap.size w1 w') := fun W hb => by rw [← hpy]; exact HV.out W y hb
        have HR : Hid (res = false) := by show _ = _; rw [HRS.out]; exact all_none HY.out hpy
        clear hy hall hbr g1 k1 k2 k3 k4 k5 k6 hb hpy
        go_wp2_with (first
          | (with_reducible refine ldC rfl rfl rfl (HRW.out _ HBR.out) hsC ?_)
          | (go_at_call 127; (with_reducible refine (HVF.out _ HBR.out).mono ?_); rintro e w2 ⟨rfl, hb2⟩; have HB2 := Lib.hid hb2; clear hb2))
        go_ret
        exact ⟨by rw [HR.out]; rfl, (HCE.out _ HB2.out).2.2.2.2.2⟩
      | true =>
        have HVF : Hid (∀ W, Below w1.heap.size w1 W → Calls Tryd.prog 127 #[.agg C, .int .i64 y, .int .i64 at'] W fun e w' => e = .returned (.bool true) ∧ Below w1.heap.size w1 w') := fun W hb => by rw [← hpy]; exact HV.out W y hb
        have HPY := Lib.hid hpy
        clear hy hall hbr g1 k1 k2 k3 k4 k5 k6 hb hpy
        go_wp2_with (first
          | (with_reducible refine ldC rfl rfl rfl (HRW.out _ HBR.out) hsC ?_)
          | (go_at_call 127; (with_reducible refine (HVF.out _ HBR.out).mono ?_); rintro e w2 ⟨rfl, hb2⟩; have HB2 := Lib.hid hb2; clear hb2))
        go_roundw
        case rel =>
          refine ⟨k + 1, by omega, by go_num, ?_, HB2.out⟩
          intro j x hj hx
          by_cases e : j = k
          · subst e
            obtain rfl : y = x := Option.some.inj (HY.out.symm.trans hx)
            exact HPY.out
          · exact HAL.out j x (by omega) hx
        case measure => simp [intOf]; omega
    · have HR : Hid (res = true) := by
        show _ = _
        rw [HRS.out, List.all_eq_true]
        intro x hx
        obtain ⟨j, hj⟩ := List.getElem?_of_mem hx
        exact HAL.out j x (by have := (List.getElem?_eq_some_iff.1 hj).1; omega) hj
      have HEN := Lib.hid k6
      clear hall hbr k1 k2 k3 k4 k5 k6
      go_wp2_with fail
      go_ret
      exact ⟨by rw [HR.out]; rfl, HEN.out⟩
end Go.Proofs.YtekofpigmggbbaaDoor.chk
