/- code.Check: ops.Right: walked. -/
import Derived.Test.YtjlnaiiajlahgaaDoorCodeH
import Derived.WalkLawsBesides
set_option linter.unusedVariables false
set_option linter.unusedSimpArgs false
namespace Go.Proofs.YtjlnaiiajlahgaaDoor.cod
open Go.Bk Go.RowKit Go.Proofs.YtjlnaiiajlahgaaDoor.funs

/-- Of a float's bits: it is a number. -/
def fltNum (n : Int) : Bool := decide (n % 9223372036854775808 ≤ 9218868437227405312)
def right (v : Api.Val) : Bool :=
  if v.Kind = 0 then decide (v.N = 0)
  else if v.Kind = 1 then within v.N 0 1
  else if v.Kind = 2 then within v.N (-2147483648) 2147483647
  else if v.Kind = 3 then fltNum v.N || decide (v.N = 9221120237041090561)
  else if v.Kind = 4 ∨ v.Kind = 5 then decide (0 ≤ v.N)
  else if v.Kind = 6 then within v.N 0 15
  else false
theorem order_self (d : Ieee.Datum) : (d.order d == some .eq) = !d.isNaN := by
  cases d with
  | number s m i => simp [Ieee.Datum.order, Ieee.Datum.isNaN]
  | infinity s => simp [Ieee.Datum.order, Ieee.Datum.isNaN]
  | nan s f => simp [Ieee.Datum.order, Ieee.Datum.isNaN]
theorem read_nan (b : Nat) : (Ieee.double.read b).isNaN = !decide (b % 9223372036854775808 ≤ 9218868437227405312) := by
  have e1 : Ieee.double.signWeight = 9223372036854775808 := by decide
  have e2 : Ieee.double.binade = 4503599627370496 := by decide
  have e3 : Ieee.double.infRung = 9218868437227405312 := by decide
  unfold Ieee.Format.read
  simp only [e1, e2, e3]
  split
  · rename_i h
    simp [Ieee.Datum.isNaN]; omega
  · split
    · simp [Ieee.Datum.isNaN]; omega
    · split
      · rename_i h
        simp [Ieee.Datum.isNaN, h]
      · simp [Ieee.Datum.isNaN]; omega
theorem flt_eq (n : Int) : Op.floatEq .f64 (IntKind.u64.wrap n).toNat (IntKind.u64.wrap n).toNat = fltNum n := by
  have h : ((IntKind.u64.wrap n).toNat : Int) = n % 18446744073709551616 := by
    have : IntKind.u64.wrap n = n % 18446744073709551616 := by simp [IntKind.wrap, IntKind.signed, IntKind.bits]
    rw [this]; omega
  show (Ieee.Datum.order _ _ == some .eq) = _
  rw [order_self]
  show (!(Ieee.double.read _).isNaN) = _
  rw [read_nan]
  unfold fltNum
  rw [Bool.not_not]
  have : (IntKind.u64.wrap n).toNat % 9223372036854775808 ≤ 9218868437227405312 ↔ n % 9223372036854775808 ≤ 9218868437227405312 := by omega
  simp [this]
set_option maxRecDepth 100000 in
theorem frombits_run (m : Int) (w : World) : (callFunc 130 #[.int .u64 m]).run Tryd.prog w = .ok (.value (.float .f64 m.toNat)) w := by
  rw [run_callFunc_extern (e := Extern.MathFloatBits.float64frombits) Tryd.func130 (by kernel_rfl) (by kernel_rfl) (by kernel_rfl) (by kernel_rfl)]
  rfl
set_option maxRecDepth 100000 in
theorem float_any (w : World) (k n : Int) : Calls Tryd.prog 112 #[.agg #[.int .i64 k, .int .i64 n]] w fun e w' => e = .returned (.float .f64 (IntKind.u64.wrap n).toNat) ∧ RowKit.Below w.heap.size w w' := by
  have HB : Hid (∀ o, RowKit.Below w.heap.size w (w.alloc o)) := fun o => below_al2 o
  have hr := fun w => frombits_run (IntKind.u64.wrap n) w
  go_enter Tryd.func112, Tryd.ntmps112
  go_wp2
  go_ret
  exact ⟨rfl, HB.out _⟩
set_option maxRecDepth 100000 in
theorem right_any (w : World) (v : Api.Val) : Calls Tryd.prog 83 #[.agg #[.int .i64 v.Kind, .int .i64 v.N]] w fun e w' => e = .returned (.bool (right v)) ∧ RowKit.Below w.heap.size w w' := by
  obtain ⟨k, n⟩ := v
  show Calls Tryd.prog 83 #[.agg #[.int .i64 k, .int .i64 n]] w _
  obtain ⟨w1, hw1⟩ : ∃ w1, w1 = w.alloc (.cells #[.int .i64 k, .int .i64 n] 64) := ⟨_, rfl⟩
  have HB1 : Hid (RowKit.Below w.heap.size w w1) := by show RowKit.Below _ _ _; rw [hw1]; exact below_al2 _
  have hbk := blk_new w [.int .i64 k, .int .i64 n] 64
  rw [← hw1] at hbk
  have p0 := hbk.cell (j := 0) rfl; have p1 := hbk.cell (j := 1) rfl
  have hlt := hbk.lt
  clear hbk
  have HWI : Hid (∀ (w : World) n lo hi, Calls Tryd.prog 111 #[.int .i64 n, .int .i64 lo, .int .i64 hi] w fun e w' => e = .returned (.bool (within n lo hi)) ∧ w = w') := fun w n lo hi => owithin_any w n lo hi
  have HR : Hid (right ⟨k, n⟩ = if k = 0 then decide (n = 0)
  else if k = 1 then within n 0 1
  else if k = 2 then within n (-2147483648) 2147483647
  else if k = 3 then fltNum n || decide (n = 9221120237041090561)
  else if k = 4 ∨ k = 5 then decide (0 ≤ n)
  else if k = 6 then within n 0 15
  else false) := rfl
  go_enter Tryd.func83, Tryd.ntmps83
  go_upto_region 1 with fail
  rw [← hw1]
  clear hw1
  by_cases k0 : k = 0
  · subst k0
    go_wp2
    go_ret
    exact ⟨by rw [HR.out]; simp [BEq.beq], HB1.out⟩
  have n0 : (k == 0) = false := by simpa using k0
  by_cases k1 : k = 1
  · subst k1
    go_wp2_with (go_at_call 111; (with_reducible refine (HWI.out _ _ _ _).mono ?_); rintro e w2 ⟨rfl, rfl⟩)
    go_ret
    exact ⟨by rw [HR.out]; rfl, HB1.out⟩
  have n1 : (k == 1) = false := by simpa using k1
  by_cases k2 : k = 2
  · subst k2
    go_wp2_with (go_at_call 111; (with_reducible refine (HWI.out _ _ _ _).mono ?_); rintro e w2 ⟨rfl, rfl⟩)
    go_ret
    exact ⟨by rw [HR.out]; rfl, HB1.out⟩
  have n2 : (k == 2) = false := by simpa using k2
  by_cases k3 : k = 3
  · subst k3
    have HFL : Hid (∀ d : Drift w1, Calls Tryd.prog 112 #[.agg #[.int .i64 3, .int .i64 n]] d.val fun e w' => e = .returned (.float .f64 (IntKind.u64.wrap n).toNat) ∧ RowKit.Below d.val.heap.size d.val w') := fun d => float_any _ _ _
    obtain ⟨m, hm⟩ : ∃ m, m = (IntKind.u64.wrap n).toNat := ⟨_, rfl⟩
    have hfe : (FloatKind.f64.format.order m m == some Ordering.eq) = fltNum n := by rw [hm]; exact flt_eq n
    rw [← hm] at HFL
    obtain ⟨q, hq⟩ : ∃ q, q = fltNum n := ⟨_, rfl⟩
    rw [← hq] at HR hfe
    clear hm hq
    clear k0 k1 k2
    cases q
    all_goals
      go_wp2_with fail
      first | (refine wp_region_drift_lit (by kernel_rfl) (by kernel_rfl) (fun hdr => ?_); (repeat (go_big_quiet_step ((go_at_call 112; with_reducible exact drift_of (HFL.out _))))); refine wpQuiet_nil ?_; intro wq hw'; obtain ⟨⟨wd, hbd⟩, hw''⟩ := hw'; dsimp only at hw''; subst wq; clear hdr)
      go_wp2_with fail
      go_ret
      exact ⟨by rw [HR.out]; simp [BEq.beq], HB1.out.trans (hbd.mono HB1.out.size)⟩
  have n3 : (k == 3) = false := by simpa using k3
  by_cases k4 : k = 4 ∨ k = 5
  · rcases (show k = 4 ∨ (k = 5 ∧ (k == 4) = false) by rcases k4 with h | h; exact .inl h; exact .inr ⟨h, by simp [h]⟩) with h | ⟨h, h2⟩
    all_goals
      subst h
      clear k4
      go_wp2
      go_ret
      exact ⟨by rw [HR.out]; simp, HB1.out⟩
  have n4 : (k == 4) = false := by simp; omega
  have n5 : (k == 5) = false := by simp; omega
  by_cases k6 : k = 6
  · subst k6
    go_wp2_with (go_at_call 111; (with_reducible refine (HWI.out _ _ _ _).mono ?_); rintro e w2 ⟨rfl, rfl⟩)
    go_ret
    exact ⟨by rw [HR.out]; rfl, HB1.out⟩
  have n6 : (k == 6) = false := by simpa using k6
  have HR2 : Hid (right ⟨k, n⟩ = false) := by show _ = _; rw [HR.out, if_neg k0, if_neg k1, if_neg k2, if_neg k3, if_neg k4, if_neg k6]
  clear k0 k1 k2 k3 k4 k6
  go_wp2
  go_ret
  exact ⟨by rw [HR2.out]; rfl, HB1.out⟩
end Go.Proofs.YtjlnaiiajlahgaaDoor.cod
