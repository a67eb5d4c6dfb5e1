/- The law SliceLines, walked: the two answers are one. -/
import Derived.Test.YtimlhjjdaggiiaaLineI
import Derived.Test.YtimlhjjdaggiiaaLineD
set_option linter.unusedVariables false
set_option linter.unusedSimpArgs false
namespace Go.Proofs.Ytimlhjjdaggiiaa.line
open Go.Bk Go.RowKit

def runRes (l : List Api.DLet) (i : Int) : Int := if errOf l i = 0 then runOf l i.toNat else 0
theorem run_res {S : Nat → Prop} {w : World} {a : Option Addr} {c : Nat} {l : List Api.DLet} {i : Int} (h : Arr S w a l) (hcap : l.length ≤ c) (hS : ∀ b, S b → b < w.heap.size) (hi : I64 i) :
    Calls Try.prog 52 #[.slice a l.length c, .int .i64 i] w fun e w' => e = .returned (.tuple #[.int .i64 (runRes l i), .int .i64 (errOf l i)]) ∧ Grow w w' := run_any h hcap hS hi

set_option maxRecDepth 100000 in
set_option maxHeartbeats 1000000 in
theorem sliceLines_walk (W : World) (args : Array Value) (h : ArgsRead Try.prog W [104, 3] args.toList) :
    Calls Try.prog 13 args W fun e W' => e = .returned (.bool true) ∧ Below W.heap.size W W' := by
  obtain ⟨v0, v1, rfl, r0, r1⟩ := h.two
  obtain ⟨a, l, c, rfl, hc, hnil, h1⟩ := r0.slice Try.underlying104 Try.opens104
  obtain ⟨i, rfl, hi⟩ := r1.int Try.underlying3
  clear r0 r1 h hnil
  have HS2 : Hid (∀ w1, Grow W w1 → Arr (· < W.heap.size) w1 a l ∧ ∀ b, b < W.heap.size → b < w1.heap.size) := fun w1 hg => ⟨h1.keep (fun b hb => hg.block b hb), fun b hb => Nat.lt_of_lt_of_le hb hg.size⟩
  clear h1
  by_cases he : errOf l i = 0
  · obtain ⟨hlen, hok, h0, hlt⟩ := errOf_zero he
    obtain ⟨n, rfl⟩ : ∃ n : Nat, i = n := ⟨i.toNat, by omega⟩
    have hn : n < l.length := by omega
    have HR : Hid (aloneRes l n = (aloneOf l n, 0)) := by show _ = _; unfold aloneRes; rw [he]; simp
    have HU : Hid (runRes l n = runOf l n) := by show _ = _; unfold runRes; rw [if_pos he]; simp
    have HE := Lib.hid he; have HOK := Lib.hid hok; have HN := Lib.hid hn
    have hm : (aloneOf l n).length ≤ 200 := Nat.le_trans (pickTo_len _ _ _) hlen
    have hrr : (runOf l n == runOf l n) = true := by simp
    clear he hok h0 hlt hn
    go_enter Try.func13, Try.ntmps13
    go_wp2_with fail
    refine (run_res (HS2.out _ (Below.refl _ _)).1 hc (HS2.out _ (Below.refl _ _)).2 hi).mono ?_
    rintro e w1 ⟨rfl, hq⟩
    rw [HE.out, HU.out]
    have HQ1 := Lib.hid hq
    clear hq
    go_wp2_with fail
    refine (alone_any (HS2.out _ HQ1.out).1 (HS2.out _ HQ1.out).2 hi).mono ?_
    rw [HR.out]
    rintro e w2 ⟨⟨a2, c2, rfl, ha2, -, -⟩, hq⟩
    have HQ2 : Hid (Grow W w2) := HQ1.out.trans (hq.mono HQ1.out.size)
    have HA2 := Lib.hid ha2
    clear hq ha2
    go_wp2_with fail
    refine (rerr_any (HS2.out _ HQ2.out).1 hi).mono ?_
    rw [HE.out]
    rintro e w3 ⟨rfl, hq⟩
    have HQ3 : Hid (Grow W w3) := HQ2.out.trans (hq.below _)
    have HA3 := Lib.hid (HA2.out.keep (fun b _ => hq.heap b))
    have hs23 : w2.heap.size ≤ w3.heap.size := (hq.below 0).size
    clear hq
    go_wp2_with fail
    refine (rrun_any (HS2.out _ HQ3.out).1 (HS2.out _ HQ3.out).2 HN.out hlen).mono ?_
    rintro e w4 ⟨rfl, hq⟩
    have HQ4 : Hid (Grow W w4) := HQ3.out.trans (hq.mono HQ3.out.size)
    have HA4 := Lib.hid (HA3.out.still (fun b hb => Nat.lt_of_lt_of_le hb.2 hs23) hq)
    have hs34 := hq.size
    clear hq
    go_wp2_with fail
    refine (ralone_any (HS2.out _ HQ4.out).1 hc (HS2.out _ HQ4.out).2 HN.out hlen HOK.out).mono ?_
    rintro e w5 ⟨⟨a5, c5, rfl, ha5, -, -⟩, hq⟩
    have HQ5 : Hid (Grow W w5) := HQ4.out.trans (hq.mono HQ4.out.size)
    have HA5 := Lib.hid (HA4.out.still (fun b hb => Nat.lt_of_lt_of_le hb.2 (Nat.le_trans hs23 hs34)) hq)
    have HB5 := Lib.hid ha5
    clear hq ha5
    generalize aloneOf l n = R at *
    generalize runOf l n = U at *
    obtain ⟨m, hm'⟩ : ∃ m, m = R.length := ⟨_, rfl⟩
    rw [← hm'] at hm ⊢
    have HM := Lib.hid hm'
    clear hm'
    go_wp2
    go_loopw [12] (fun v w' => ∃ k : Nat, k ≤ m ∧ v = .int .i64 k ∧ Quiet w5 w') (fun v _ => m - (intOf v).toNat)
    case atStart => exact ⟨0, Nat.zero_le _, rfl, Quiet.refl _⟩
    case round =>
      obtain ⟨k, hk, rfl, hq⟩ := hrel
      have HQ := Lib.hid hq
      have hA := HA5.out.keep (w' := wr) (fun b _ => hq.heap b)
      have hB := HB5.out.keep (w' := wr) (fun b _ => hq.heap b)
      clear hq
      by_cases hkm : k < m
      · obtain ⟨x, hx⟩ : ∃ x, R[k]? = some x := ⟨_, List.getElem?_eq_getElem (by have := HM.out; omega)⟩
        obtain ⟨b, off, rfl, -, q1, q2, q3, q4, -⟩ := api_DLet_elem hA hx
        obtain ⟨b', off', rfl, -, p1, p2, p3, p4, -⟩ := api_DLet_elem hB hx
        clear hA hB hx
        go_wp2_with fail
        go_quiet (fail)
        go_wp2_with fail
        go_roundw
        case rel => exact ⟨k + 1, by omega, by go_num, HQ.out.more _⟩
        case measure => simp [intOf] <;> omega
      · clear hA hB
        go_wp2
        go_ret
        exact ⟨rfl, HQ5.out.trans (HQ.out.below _)⟩
  · have HR : Hid (aloneRes l i = ([], errOf l i)) := by show _ = _; unfold aloneRes; rw [if_neg he]
    have HU : Hid (runRes l i = 0) := by show _ = _; unfold runRes; rw [if_neg he]
    have hd : (errOf l i == 0) = false := by simpa using he
    have hee : (errOf l i == errOf l i) = true := by simp
    clear he
    go_enter Try.func13, Try.ntmps13
    go_wp2_with fail
    refine (run_res (HS2.out _ (Below.refl _ _)).1 hc (HS2.out _ (Below.refl _ _)).2 hi).mono ?_
    rintro e w1 ⟨rfl, hq⟩
    rw [HU.out]
    have HQ1 := Lib.hid hq
    clear hq
    go_wp2_with fail
    refine (alone_any (HS2.out _ HQ1.out).1 (HS2.out _ HQ1.out).2 hi).mono ?_
    rw [HR.out]
    rintro e w2 ⟨⟨a2, c2, rfl, ha2, -, -⟩, hq⟩
    have HQ2 : Hid (Grow W w2) := HQ1.out.trans (hq.mono HQ1.out.size)
    clear hq ha2
    go_wp2_with fail
    refine (rerr_any (HS2.out _ HQ2.out).1 hi).mono ?_
    rintro e w3 ⟨rfl, hq⟩
    have HQ3 : Hid (Grow W w3) := HQ2.out.trans (hq.below _)
    clear hq
    generalize errOf l i = E at *
    go_wp2
    refine wp_loop_once ?_
    go_wp2
    go_ret
    exact ⟨rfl, HQ3.out⟩
end Go.Proofs.Ytimlhjjdaggiiaa.line
