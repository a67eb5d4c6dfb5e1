/- SchedNormals: rows compared (the library's Equal and EqualFunc, the document's SameRows); Normal of a bad word; Alike: walked. -/
import Derived.Test.YtfdpannanpipdaaNormE
import Derived.Test.YtfdpannanpipdaaSame
set_option linter.unusedVariables false
set_option linter.unusedSimpArgs false
namespace Go.Proofs.Ytfdpannanpipdaa.norm
open Go.Bk Go.RowKit

set_option maxRecDepth 100000 in
theorem equal_any {S1 S2 : Nat → Prop} {w : World} {a1 a2 : Option Addr} {c1 c2 n1 n2 : Nat} {xs ys : List Int} (hn1 : xs.length = n1) (hn2 : ys.length = n2) (h1 : Arr S1 w a1 xs) (h2 : Arr S2 w a2 ys) :
    Calls Try.prog 95 #[.slice a1 n1 c1, .slice a2 n2 c2] w fun e w' => e = .returned (.bool (decide (xs = ys))) ∧ Quiet w w' := by
  have hm1 := h1.small; have hm2 := h2.small
  rw [hn1] at hm1; rw [hn2] at hm2
  unfold maxLen at hm1 hm2
  have H1 := Lib.hid hn1; have H2 := Lib.hid hn2
  clear hn1 hn2
  by_cases hl : n1 = n2
  · subst hl
    have hb : ((n1 : Int) != (n1 : Int)) = false := by simp
    go_enter Try.func95, Try.ntmps95
    go_wp2_with fail
    go_loopw [13] (fun i w' => ∃ k : Nat, k ≤ n1 ∧ i = .int .i64 k ∧ SameTo xs ys k ∧ Quiet w w') (fun i _ => n1 - (intOf i).toNat)
    case atStart => exact ⟨0, Nat.zero_le _, rfl, fun i hi => by omega, Quiet.refl _⟩
    case round =>
      obtain ⟨k, hk, rfl, hb, hq⟩ := hrel
      have HQ := Lib.hid hq
      have HB := Lib.hid hb
      have h1' := h1.keep (w' := wr) (fun b _ => hq.heap b)
      have h2' := h2.keep (w' := wr) (fun b _ => hq.heap b)
      clear hb hq
      by_cases hlt : k < n1
      · obtain ⟨x, hx⟩ := get_lt H1.out hlt
        obtain ⟨y, hy⟩ := get_lt H2.out hlt
        obtain ⟨b1, o1, rfl, -, q1, -⟩ := arr_int h1' hx
        obtain ⟨b2, o2, rfl, -, q2, -⟩ := arr_int h2' hy
        have HX := Lib.hid hx; have HY := Lib.hid hy
        clear h1 h2 h1' h2' hx hy
        by_cases he : x = y
        · subst he
          have hee : (x != x) = false := by simp
          go_wp2
          go_quiet (fail)
          go_wp2
          go_roundw
          case rel => exact ⟨k + 1, by omega, by go_num, HB.out.succ (HX.out.trans HY.out.symm), HQ.out.more _⟩
          case measure => simp [intOf]; omega
        · have hee : (x != y) = true := by simp [he]
          have HE := Lib.hid he
          clear he
          go_wp2
          go_quiet (fail)
          go_wp2
          go_ret
          have hne : xs ≠ ys := fun e => HE.out (by have := HX.out; rw [e, HY.out] at this; exact (Option.some.inj this).symm)
          exact ⟨by simp [hne], HQ.out.more _⟩
      · clear h1' h2'
        go_wp2
        go_ret
        have : k = n1 := by omega
        have heq : xs = ys := List.ext_getElem? fun i => by
          by_cases hi : i < k
          · exact HB.out i hi
          · have := H1.out; have := H2.out
            rw [List.getElem?_eq_none (by omega), List.getElem?_eq_none (by omega)]
        exact ⟨by simp [heq], HQ.out⟩
  · have hb : ((n1 : Int) != (n2 : Int)) = true := by simp; omega
    have HL := Lib.hid hl
    clear hl
    go_enter Try.func95, Try.ntmps95
    go_wp2
    go_ret
    have hne : xs ≠ ys := fun e => HL.out (by rw [← H1.out, ← H2.out, e])
    exact ⟨by simp [hne], Quiet.refl _⟩

def SameToL (xs ys : List (List Int)) (k : Nat) : Prop := ∀ i, i < k → xs[i]? = ys[i]?
theorem SameToL.succ {xs ys : List (List Int)} {k : Nat} (h : SameToL xs ys k) (hk : xs[k]? = ys[k]?) : SameToL xs ys (k + 1) := fun i hi => by
  by_cases he : i = k
  · rw [he]; exact hk
  · exact h i (by omega)
theorem SameToL.all {xs ys : List (List Int)} {n : Nat} (h : SameToL xs ys n) (h1 : xs.length = n) (h2 : ys.length = n) : xs = ys := List.ext_getElem? fun i => by
  by_cases hi : i < n
  · exact h i hi
  · rw [List.getElem?_eq_none (by omega), List.getElem?_eq_none (by omega)]

set_option maxRecDepth 100000 in
theorem equalRows_any {S1 S2 : Nat → Prop} {w : World} {a1 a2 : Option Addr} {c1 c2 n1 n2 : Nat} {xs ys : List (List Int)} (hn1 : xs.length = n1) (hn2 : ys.length = n2) (h1 : Arr S1 w a1 xs) (h2 : Arr S2 w a2 ys) :
    Calls Try.prog 103 #[.slice a1 n1 c1, .slice a2 n2 c2, .func (.func 95) #[] #[]] w fun e w' => e = .returned (.bool (decide (xs = ys))) ∧ Quiet w w' := by
  have hm1 := h1.small; have hm2 := h2.small
  rw [hn1] at hm1; rw [hn2] at hm2
  unfold maxLen at hm1 hm2
  have H1 := Lib.hid hn1; have H2 := Lib.hid hn2
  clear hn1 hn2
  by_cases hl : n1 = n2
  · subst hl
    have hb : ((n1 : Int) != (n1 : Int)) = false := by simp
    go_enter Try.func103, Try.ntmps103
    go_wp2_with fail
    go_loopw [17] (fun i w' => ∃ k : Nat, k ≤ n1 ∧ i = .int .i64 k ∧ SameToL xs ys k ∧ Quiet w w') (fun i _ => n1 - (intOf i).toNat)
    case atStart => exact ⟨0, Nat.zero_le _, rfl, fun i hi => by omega, Quiet.refl _⟩
    case round =>
      obtain ⟨k, hk, rfl, hb, hq⟩ := hrel
      have HQ := Lib.hid hq
      have HB := Lib.hid hb
      have h1' := h1.keep (w' := wr) (fun b _ => hq.heap b)
      have h2' := h2.keep (w' := wr) (fun b _ => hq.heap b)
      clear hb hq
      by_cases hlt : k < n1
      · obtain ⟨x, hx⟩ := get_lt H1.out hlt
        obtain ⟨y, hy⟩ := get_lt H2.out hlt
        obtain ⟨b1, o1, d1, e1, rfl, -, q1, -, -, g1⟩ := arr_list h1' hx
        obtain ⟨b2, o2, d2, e2, rfl, -, q2, -, -, g2⟩ := arr_list h2' hy
        have HX := Lib.hid hx; have HY := Lib.hid hy
        obtain ⟨m1, hm1⟩ : ∃ m, x.length = m := ⟨_, rfl⟩
        obtain ⟨m2, hm2⟩ : ∃ m, y.length = m := ⟨_, rfl⟩
        rw [hm1] at q1; rw [hm2] at q2
        have HEQ := Lib.hid (equal_any (c1 := e1) (c2 := e2) hm1 hm2 g1 g2)
        clear h1 h2 h1' h2' hx hy g1 g2 hm1 hm2
        have hen := fun args w => Try.call95 args w
        go_wp2_with fail
        refine HEQ.out.mono ?_
        rintro e w3 ⟨rfl, hq3⟩
        have HQ3 := Lib.hid (HQ.out.trans hq3)
        clear hq3 HEQ
        by_cases he : x = y
        · subst he
          have hee : decide (x = x) = true := by simp
          rw [hee]
          clear hee
          go_wp2_with fail
          go_roundw
          case rel => exact ⟨k + 1, by omega, by go_num, HB.out.succ (HX.out.trans HY.out.symm), HQ3.out⟩
          case measure => simp [intOf]; omega
        · have hee : decide (x = y) = false := by simp [he]
          have HE := Lib.hid he
          rw [hee]
          clear he hee
          go_wp2_with fail
          go_ret
          have hne : xs ≠ ys := fun e => HE.out (by have := HX.out; rw [e, HY.out] at this; exact (Option.some.inj this).symm)
          exact ⟨by simp [hne], HQ3.out⟩
      · clear h1' h2'
        obtain rfl : k = n1 := by omega
        have heq := HB.out.all H1.out H2.out
        go_wp2_with fail
        go_ret
        exact ⟨by simp [heq], HQ.out⟩
  · have hb : ((n1 : Int) != (n2 : Int)) = true := by simp; omega
    have HL := Lib.hid hl
    clear hl
    go_enter Try.func103, Try.ntmps103
    go_wp2
    go_ret
    have hne : xs ≠ ys := fun e => HL.out (by rw [← H1.out, ← H2.out, e])
    exact ⟨by simp [hne], Quiet.refl _⟩
end Go.Proofs.Ytfdpannanpipdaa.norm
namespace Go.Proofs.Ytfdpannanpipdaa.norm
open Go.Bk Go.RowKit

theorem same_ints_at {S1 S2 : Nat → Prop} {w : World} {a1 a2 : Option Addr} {c1 c2 n1 n2 : Nat} {xs ys : List Int} (hn1 : xs.length = n1) (hn2 : ys.length = n2) (h1 : Arr S1 w a1 xs) (h2 : Arr S2 w a2 ys) :
    Calls Try.prog 20 #[.slice a1 n1 c1, .slice a2 n2 c2] w fun e w' => e = .returned (.bool (decide (xs = ys))) ∧ Quiet w w' := hn1 ▸ hn2 ▸ same_ints_any h1 h2

set_option maxRecDepth 100000 in
theorem same_rows_any {S1 S2 : Nat → Prop} {w : World} {a1 a2 : Option Addr} {c1 c2 n1 n2 : Nat} {xs ys : List (List Int)} (hn1 : xs.length = n1) (hn2 : ys.length = n2) (h1 : Arr S1 w a1 xs) (h2 : Arr S2 w a2 ys) :
    Calls Try.prog 59 #[.slice a1 n1 c1, .slice a2 n2 c2] w fun e w' => e = .returned (.bool (decide (xs = ys))) ∧ Quiet w w' := by
  have hm1 := h1.small; have hm2 := h2.small
  rw [hn1] at hm1; rw [hn2] at hm2
  unfold maxLen at hm1 hm2
  have H1 := Lib.hid hn1; have H2 := Lib.hid hn2
  clear hn1 hn2
  by_cases hl : n1 = n2
  · subst hl
    have hb : ((n1 : Int) != (n1 : Int)) = false := by simp
    go_enter Try.func59, Try.ntmps59
    go_wp2_with fail
    go_loopw [5] (fun i w' => ∃ k : Nat, k ≤ n1 ∧ i = .int .i64 k ∧ SameToL xs ys k ∧ Quiet w w') (fun i _ => n1 - (intOf i).toNat)
    case atStart => exact ⟨0, Nat.zero_le _, rfl, fun i hi => by omega, Quiet.refl _⟩
    case round =>
      obtain ⟨k, hk, rfl, hb, hq⟩ := hrel
      have HQ := Lib.hid hq
      have HB := Lib.hid hb
      have h1' := h1.keep (w' := wr) (fun b _ => hq.heap b)
      have h2' := h2.keep (w' := wr) (fun b _ => hq.heap b)
      clear hb hq
      by_cases hlt : k < n1
      · obtain ⟨x, hx⟩ := get_lt H1.out hlt
        obtain ⟨y, hy⟩ := get_lt H2.out hlt
        obtain ⟨b1, o1, d1, e1, rfl, -, q1, -, -, g1⟩ := arr_list h1' hx
        obtain ⟨b2, o2, d2, e2, rfl, -, q2, -, -, g2⟩ := arr_list h2' hy
        have HX := Lib.hid hx; have HY := Lib.hid hy
        obtain ⟨m1, hm1⟩ : ∃ m, x.length = m := ⟨_, rfl⟩
        obtain ⟨m2, hm2⟩ : ∃ m, y.length = m := ⟨_, rfl⟩
        rw [hm1] at q1; rw [hm2] at q2
        have hs : ∀ m, Calls Try.prog 20 #[.slice d1 m1 e1, .slice d2 m2 e2] (wr.drewN m) fun e w' => e = .returned (.bool (decide (x = y))) ∧ Quiet (wr.drewN m) w' := fun m => same_ints_at hm1 hm2 (Arr.keep (w := wr) (fun _ _ => rfl) g1) (Arr.keep (w := wr) (fun _ _ => rfl) g2)
        have HS := Lib.hid hs
        clear h1 h2 h1' h2' hx hy g1 g2 hm1 hm2 hs
        by_cases he : x = y
        · subst he
          have hee : decide (x = x) = true := by simp
          rw [hee] at HS
          clear hee
          go_wp2_with fail
          first | (refine wp_region_quiet_lit (by kernel_rfl) (by kernel_rfl) ?_; (repeat (go_big_quiet_step ((go_at_call 20; exact quiet_of (HS.out _))))); refine wpQuiet_nil ?_; intro _ hw'; obtain ⟨nq, hw''⟩ := hw'; subst hw'')
          go_wp2_with fail
          go_roundw
          case rel => exact ⟨k + 1, by omega, by go_num, HB.out.succ (HX.out.trans HY.out.symm), HQ.out.more _⟩
          case measure => simp [intOf]; omega
        · have hee : decide (x = y) = false := by simp [he]
          have HE := Lib.hid he
          rw [hee] at HS
          clear he hee
          go_wp2_with fail
          first | (refine wp_region_quiet_lit (by kernel_rfl) (by kernel_rfl) ?_; (repeat (go_big_quiet_step ((go_at_call 20; exact quiet_of (HS.out _))))); refine wpQuiet_nil ?_; intro _ hw'; obtain ⟨nq, hw''⟩ := hw'; subst hw'')
          go_wp2_with fail
          go_ret
          have hne : xs ≠ ys := fun e => HE.out (by have := HX.out; rw [e, HY.out] at this; exact (Option.some.inj this).symm)
          exact ⟨by simp [hne], HQ.out.more _⟩
      · clear h1' h2'
        obtain rfl : k = n1 := by omega
        have heq := HB.out.all H1.out H2.out
        go_wp2_with fail
        go_ret
        exact ⟨by simp [heq], HQ.out⟩
  · have hb : ((n1 : Int) != (n2 : Int)) = true := by simp; omega
    have HL := Lib.hid hl
    clear hl
    go_enter Try.func59, Try.ntmps59
    go_wp2
    go_ret
    have hne : xs ≠ ys := fun e => HL.out (by rw [← H1.out, ← H2.out, e])
    exact ⟨by simp [hne], Quiet.refl _⟩

open Classical in
noncomputable def normOf (l : List Int) (dep : List (List Bool)) : List (List Int) := if depErr l dep = 0 then outs (depOf dep) l.reverse else []
theorem normOf_ok {l : List Int} {dep : List (List Bool)} (h : depErr l dep = 0) : normOf l dep = outs (depOf dep) l.reverse := if_pos h
theorem normOf_bad {l : List Int} {dep : List (List Bool)} (h : depErr l dep ≠ 0) : normOf l dep = [] := if_neg h
def NormPost (nr : Nat) (E : Int) (rows : List (List Int)) (w : World) (e : Ending) (w' : World) : Prop :=
  ∃ a c, e = .returned (.tuple #[.slice a nr c, .int .i64 E]) ∧ Arr (fun b => w.heap.size ≤ b ∧ b < w'.heap.size) w' a rows ∧ Below w.heap.size w w'

set_option maxRecDepth 100000 in
theorem normal_any {S S2 : Nat → Prop} {w : World} {a a2 : Option Addr} {c c2 n nd nr : Nat} {E : Int} {l : List Int} {dep : List (List Bool)} (hn : l.length = n) (hn2 : dep.length = nd) (h : Arr S w a l) (h2 : Arr S2 w a2 dep) (hS : ∀ b, S b → b < w.heap.size) (hS2 : ∀ b, S2 b → b < w.heap.size) (hE : depErr l dep = E) (hr : (normOf l dep).length = nr) :
    Calls Try.prog 55 #[.slice a n c, .slice a2 nd c2] w (NormPost nr E (normOf l dep) w) := by
  by_cases h0 : depErr l dep = 0
  · rw [← hE, ← hr, h0]
    rw [normOf_ok h0] at hr ⊢
    refine (normal_ok hn hn2 h h2 hS hS2 h0).mono ?_
    rintro e w' ⟨v, hs, rfl, hro, hb⟩
    obtain ⟨ao, co, rfl, -, -⟩ := hro.form
    exact ⟨ao, co, rfl, hro.arr, hb⟩
  · rw [normOf_bad h0] at hr ⊢
    obtain rfl : nr = 0 := hr.symm
    have HC := Lib.hid (check_any (c := c) (c2 := c2) hn hn2 h h2 hS hS2)
    rw [hE] at HC h0
    have hd : decide (E = 0) = false := decide_eq_false h0
    have hd2 : (E != 0) = true := by simpa using h0
    clear hn hn2 h h2 hE hr
    go_enter Try.func55, Try.ntmps55
    go_wp2_with fail
    refine HC.out.mono ?_
    rintro e w0 ⟨rfl, hb0⟩
    have HB0 := Lib.hid hb0
    clear hb0 HC
    go_wp2_with fail
    go_ret2
    exact ⟨none, 0, rfl, Arr.nil _ _ _, HB0.out⟩

open Classical in
noncomputable def alikeOf (l m : List Int) (dep : List (List Bool)) : Bool := if depErr l dep = 0 ∧ depErr m dep = 0 then decide (normOf l dep = normOf m dep) else false
open Classical in
noncomputable def alikeErr (l m : List Int) (dep : List (List Bool)) : Int := if depErr l dep = 0 then depErr m dep else depErr l dep

set_option maxRecDepth 100000 in
theorem alike_any {S S2 S3 : Nat → Prop} {w : World} {a a2 a3 : Option Addr} {c c2 c3 n nm nd : Nat} {b : Bool} {E : Int} {l m : List Int} {dep : List (List Bool)} (hn : l.length = n) (hnm : m.length = nm) (hn2 : dep.length = nd) (h : Arr S w a l) (h3 : Arr S3 w a3 m) (h2 : Arr S2 w a2 dep) (hS : ∀ b, S b → b < w.heap.size) (hS3 : ∀ b, S3 b → b < w.heap.size) (hS2 : ∀ b, S2 b → b < w.heap.size)
    (hb : alikeOf l m dep = b) (hE : alikeErr l m dep = E) :
    Calls Try.prog 56 #[.slice a n c, .slice a3 nm c3, .slice a2 nd c2] w fun e w' => e = .returned (.tuple #[.bool b, .int .i64 E]) ∧ Below w.heap.size w w' := by
  obtain ⟨n1, hn1⟩ : ∃ k, (normOf l dep).length = k := ⟨_, rfl⟩
  obtain ⟨n3, hn3⟩ : ∃ k, (normOf m dep).length = k := ⟨_, rfl⟩
  by_cases h0 : depErr l dep = 0
  · have HL := Lib.hid (normal_any (c := c) (c2 := c2) hn hn2 h h2 hS hS2 h0 hn1)
    obtain ⟨E2, hE2⟩ : ∃ E2, depErr m dep = E2 := ⟨_, rfl⟩
    have HM := Lib.hid (fun (w1 : World) (hw : Below w.heap.size w w1) => normal_any (c := c3) (c2 := c2) hnm hn2 (h3.keep (w' := w1) (fun b hb => hw.block b (hS3 b hb))) (h2.keep (w' := w1) (fun b hb => hw.block b (hS2 b hb))) (fun b hb => Nat.lt_of_lt_of_le (hS3 b hb) hw.size) (fun b hb => Nat.lt_of_lt_of_le (hS2 b hb) hw.size) hE2 hn3)
    have HN1 := Lib.hid hn1; have HN3 := Lib.hid hn3
    have hE' : E = E2 := by rw [← hE, alikeErr, if_pos h0, hE2]
    subst hE'
    by_cases h1 : depErr m dep = 0
    · have hb' : Hid (b = decide (normOf l dep = normOf m dep)) := by show _ = _; rw [← hb, alikeOf, if_pos ⟨h0, h1⟩]
      have hE0 : E = 0 := by rw [← hE2, h1]
      subst hE0
      clear hn hnm hn2 h h3 h2 hb hE h0 h1 hn1 hn3 hE2
      go_enter Try.func56, Try.ntmps56
      go_wp2_with fail
      refine HL.out.mono ?_
      rintro e w1 ⟨a1, c1, rfl, har1, hb1⟩
      have HB1 := Lib.hid hb1; have HA1 := Lib.hid har1
      clear hb1 har1
      go_wp2_with fail
      refine (HM.out w1 HB1.out).mono ?_
      rintro e w4 ⟨a4, c4, rfl, har4, hb4⟩
      have HA1' := Lib.hid (HA1.out.keep (w' := w4) (fun b hb => hb4.block b hb.2))
      have HB4 := Lib.hid (HB1.out.trans (hb4.mono HB1.out.size)); have HA4 := Lib.hid har4
      clear hb4 har4
      go_wp2_with fail
      refine (equalRows_any HN1.out HN3.out HA1'.out HA4.out).mono ?_
      rintro e w5 ⟨rfl, hq5⟩
      have HB5 := Lib.hid (HB4.out.trans (hq5.below _))
      rw [← hb'.out]
      clear hq5
      go_wp2_with fail
      go_ret2
      exact ⟨rfl, HB5.out⟩
    · have hb' : b = false := by rw [← hb, alikeOf, if_neg (fun h => h1 h.2)]
      subst hb'
      rw [hE2] at h1
      have hd : (E != 0) = true := by simpa using h1
      clear hn hnm hn2 h h3 h2 hb hE h0 hn1 hn3 hE2
      go_enter Try.func56, Try.ntmps56
      go_wp2_with fail
      refine HL.out.mono ?_
      rintro e w1 ⟨a1, c1, rfl, har1, hb1⟩
      have HB1 := Lib.hid hb1
      clear hb1 har1
      go_wp2_with fail
      refine (HM.out w1 HB1.out).mono ?_
      rintro e w4 ⟨a4, c4, rfl, har4, hb4⟩
      have HB4 := Lib.hid (HB1.out.trans (hb4.mono HB1.out.size))
      clear hb4 har4
      go_wp2_with fail
      go_ret2
      exact ⟨rfl, HB4.out⟩
  · have hb' : b = false := by rw [← hb, alikeOf, if_neg (fun h => h0 h.1)]
    have hE' : depErr l dep = E := by rw [← hE, alikeErr, if_neg h0]
    subst hb'
    have HL := Lib.hid (normal_any (c := c) (c2 := c2) hn hn2 h h2 hS hS2 hE' hn1)
    rw [hE'] at h0
    have hd : (E != 0) = true := by simpa using h0
    clear hn hnm hn2 h h3 h2 hb hE hE' hn1 hn3
    go_enter Try.func56, Try.ntmps56
    go_wp2_with fail
    refine HL.out.mono ?_
    rintro e w1 ⟨a1, c1, rfl, har1, hb1⟩
    have HB1 := Lib.hid hb1
    clear hb1 har1
    go_wp2_with fail
    go_ret2
    exact ⟨rfl, HB1.out⟩
end Go.Proofs.Ytfdpannanpipdaa.norm
