/- The document's: number, RightVal: walked. -/
import Derived.Test.YtjlnaiiajlahgaaDoorChkA
import Derived.Laws.BitsLemmas
set_option linter.unusedVariables false
set_option linter.unusedSimpArgs false
namespace Go.Proofs.YtjlnaiiajlahgaaDoor.chk
open Go.Bk Go.RowKit Go.Proofs.YtjlnaiiajlahgaaDoor.ir

theorem and_hi (m : Nat) : m &&& ((2 ^ 11 - 1) <<< 52) = ((m >>> 52) % 2 ^ 11) <<< 52 := by
  apply Nat.eq_of_testBit_eq
  intro i
  simp only [Nat.testBit_and, Nat.testBit_shiftLeft, Nat.testBit_mod_two_pow, Nat.testBit_shiftRight, Nat.testBit_two_pow_sub_one]
  by_cases h : 52 ≤ i
  · have e : 52 + (i - 52) = i := by omega
    rw [e]
    simp [h, Bool.and_comm]
  · simp [h]
theorem bits_lo (n : Int) : bits .and .i64 n 4503599627370495 = n % 4503599627370496 := by
  have h : (BitVec.ofInt 64 4503599627370495).toNat = 2 ^ 52 - 1 := by decide
  have key : (BitVec.ofInt 64 n &&& BitVec.ofInt 64 4503599627370495).toNat = (n % ((2 ^ 64 : Nat) : Int)).toNat % 2 ^ 52 := by
    rw [BitVec.toNat_and, BitVec.toNat_ofInt, h, Nat.and_two_pow_sub_one_eq_mod]
  show IntKind.i64.wrap ((BitVec.ofInt 64 n &&& BitVec.ofInt 64 4503599627370495).toNat : Nat) = _
  rw [key, IntKind.wrap_i64]
  omega
theorem bits_hi (n : Int) : bits .and .i64 n 9218868437227405312 = n % 9223372036854775808 - n % 4503599627370496 := by
  have h : (BitVec.ofInt 64 9218868437227405312).toNat = (2 ^ 11 - 1) <<< 52 := by decide
  have key : (BitVec.ofInt 64 n &&& BitVec.ofInt 64 9218868437227405312).toNat = (((n % ((2 ^ 64 : Nat) : Int)).toNat / 4503599627370496) % 2048) * 4503599627370496 := by
    rw [BitVec.toNat_and, BitVec.toNat_ofInt, h, and_hi, Nat.shiftLeft_eq, Nat.shiftRight_eq_div_pow]
  show IntKind.i64.wrap ((BitVec.ofInt 64 n &&& BitVec.ofInt 64 9218868437227405312).toNat : Nat) = _
  rw [key, IntKind.wrap_i64]
  omega
theorem flt_bits (n : Int) : (bits .and .i64 n 9218868437227405312 != 9218868437227405312 || bits .and .i64 n 4503599627370495 == 0) = cod.fltNum n := by
  rw [bits_lo, bits_hi]
  unfold cod.fltNum
  rw [Bool.eq_iff_iff]
  simp
  omega
set_option maxRecDepth 100000 in
set_option maxHeartbeats 1000000 in
theorem rightVal_any (w : World) (v : Api.Val) : Calls Tryd.prog 92 #[.agg #[.int .i64 v.Kind, .int .i64 v.N]] w fun e w' => e = .returned (.bool (cod.right v)) ∧ Below w.heap.size w w' := by
  obtain ⟨k, n⟩ := v
  show Calls Tryd.prog 92 #[.agg #[.int .i64 k, .int .i64 n]] w _
  have HB : Hid (∀ o, Below w.heap.size w (w.alloc o)) := fun o => cod.below_al2 o
  have HR : Hid (cod.right ⟨k, n⟩ = if k = 0 then decide (n = 0)
  else if k = 1 then cod.within n 0 1
  else if k = 2 then cod.within n (-2147483648) 2147483647
  else if k = 3 then cod.fltNum n || decide (n = 9221120237041090561)
  else if k = 4 ∨ k = 5 then decide (0 ≤ n)
  else if k = 6 then cod.within n 0 15
  else false) := rfl
  by_cases k0 : k = 0
  · subst k0
    go_enter Tryd.func92, Tryd.ntmps92
    go_wp2
    go_ret
    exact ⟨by rw [HR.out]; simp [BEq.beq], HB.out _⟩
  have n0 : (k == 0) = false := by simpa using k0
  by_cases k1 : k = 1
  · subst k1
    by_cases h : n = 0
    · have h1 : (n == 0) = true := by simp [h]
      have HE := Lib.hid h
      clear h
      go_enter Tryd.func92, Tryd.ntmps92
      go_wp2
      go_ret
      exact ⟨by rw [HR.out, HE.out]; rfl, HB.out _⟩
    · have h1 : (n == 0) = false := by simpa using h
      by_cases h2 : n = 1
      · subst h2
        go_enter Tryd.func92, Tryd.ntmps92
        go_wp2
        go_ret
        exact ⟨by rw [HR.out]; rfl, HB.out _⟩
      · have h3 : (n == 1) = false := by simpa using h2
        have HC1 : Hid (cod.right ⟨1, n⟩ = cod.within n 0 1) := rfl
        have HW : Hid (cod.within n 0 1 = false) := by show _ = _; unfold cod.within; simp; omega
        clear h h2
        go_enter Tryd.func92, Tryd.ntmps92
        go_wp2
        go_ret
        exact ⟨by rw [HC1.out, HW.out]; rfl, HB.out _⟩
  have n1 : (k == 1) = false := by simpa using k1
  by_cases k2 : k = 2
  · subst k2
    have HW : Hid (cod.within n (-2147483648) 2147483647 = (decide (-2147483648 ≤ n) && decide (n < 2147483648))) := by show _ = _; unfold cod.within; rw [Bool.eq_iff_iff]; simp; omega
    have HC : Hid (cod.right ⟨2, n⟩ = cod.within n (-2147483648) 2147483647) := rfl
    cases h : decide (-2147483648 ≤ n) <;> cases h2 : decide (n < 2147483648)
    all_goals
      rw [h, h2] at HW
      go_enter Tryd.func92, Tryd.ntmps92
      go_wp2
      go_ret
      exact ⟨by rw [HC.out, HW.out]; rfl, HB.out _⟩
  have n2 : (k == 2) = false := by simpa using k2
  by_cases k3 : k = 3
  · subst k3
    have hf := flt_bits n
    obtain ⟨q, hq⟩ : ∃ q, q = cod.fltNum n := ⟨_, rfl⟩
    obtain ⟨b1, hb1⟩ : ∃ b, b = (bits .and .i64 n 9218868437227405312 != 9218868437227405312) := ⟨_, rfl⟩
    obtain ⟨b2, hb2⟩ : ∃ b, b = (bits .and .i64 n 4503599627370495 == 0) := ⟨_, rfl⟩
    rw [← hb1, ← hb2, ← hq] at hf
    rw [← hq] at HR
    have hb1' := hb1.symm; have hb2' := hb2.symm
    have HF := Lib.hid hf
    clear hb1 hb2 hf hq k0 k1 k2
    cases b1 <;> cases b2
    all_goals
      go_enter Tryd.func92, Tryd.ntmps92
      go_wp2
      all_goals
        go_ret
        exact ⟨by rw [HR.out, ← HF.out]; simp [BEq.beq], HB.out _⟩
  have n3 : (k == 3) = false := by simpa using k3
  by_cases k4 : k = 4 ∨ k = 5
  · rcases (show k = 4 ∨ (k = 5 ∧ (k == 4) = false) by rcases k4 with h | h; exact .inl h; exact .inr ⟨h, by simp [h]⟩) with h | ⟨h, h2⟩
    all_goals
      subst h
      clear k4
      go_enter Tryd.func92, Tryd.ntmps92
      go_wp2
      go_ret
      exact ⟨by rw [HR.out]; simp, HB.out _⟩
  have n4 : (k == 4) = false := by simp; omega
  have n5 : (k == 5) = false := by simp; omega
  by_cases k6 : k = 6
  · subst k6
    have HW : Hid (cod.within n (0) 15 = (decide (0 ≤ n) && decide (n < 16))) := by show _ = _; unfold cod.within; rw [Bool.eq_iff_iff]; simp; omega
    have HC : Hid (cod.right ⟨6, n⟩ = cod.within n (0) 15) := rfl
    cases h : decide (0 ≤ n) <;> cases h2 : decide (n < 16)
    all_goals
      rw [h, h2] at HW
      go_enter Tryd.func92, Tryd.ntmps92
      go_wp2
      go_ret
      exact ⟨by rw [HC.out, HW.out]; rfl, HB.out _⟩
  have n6 : (k == 6) = false := by simpa using k6
  have HR2 : Hid (cod.right ⟨k, n⟩ = false) := by show _ = _; rw [HR.out, if_neg k0, if_neg k1, if_neg k2, if_neg k3, if_neg k4, if_neg k6]
  clear k0 k1 k2 k3 k4 k6
  go_enter Tryd.func92, Tryd.ntmps92
  go_wp2
  go_ret
  exact ⟨by rw [HR2.out]; rfl, HB.out _⟩
abbrev insL8 (x : Api.TIns) : Array Value := #[.int .i64 x.Op, .int .i64 x.A, .int .i64 x.B, .int .i64 x.C, .int .i64 x.N, .int .i64 x.Exit, .int .i64 x.K.Kind, .int .i64 x.K.N]
set_option maxRecDepth 100000 in
set_option maxHeartbeats 2000000 in
theorem number_any (w : World) (x : Api.TIns) (regs : Int) (h0 : 0 ≤ regs) (h1 : regs ≤ 1000) : Calls Tryd.prog 91 #[.agg #[.int .i64 x.Op, .int .i64 x.A, .int .i64 x.B, .int .i64 x.C, .int .i64 x.N, .int .i64 x.Exit, .int .i64 x.K.Kind, .int .i64 x.K.N], .int .i64 regs] w fun e w' => e = .returned (.bool (numOk regs x)) ∧ Below w.heap.size w w' := by
  obtain ⟨op, iA, iB, iC, n, ex, ⟨kk, kn⟩⟩ := x
  dsimp only
  have HB : Hid (∀ o, Below w.heap.size w (w.alloc o)) := fun o => cod.below_al2 o
  have HN : Hid (∀ lo hi : Int, (formOf op).1.low = lo → (if op = 1 then regs - 1 else (formOf op).1.high) = hi → numOk regs ⟨op, iA, iB, iC, n, ex, ⟨kk, kn⟩⟩ = (decide (lo ≤ n) && decide (n ≤ hi))) := fun lo hi e1 e2 => by unfold numOk; rw [e1, e2]
  have key : ∀ lo hi : Int, numOk regs ⟨op, iA, iB, iC, n, ex, ⟨kk, kn⟩⟩ = (decide (lo ≤ n) && decide (n ≤ hi)) → (∀ b1 b2, decide (lo ≤ n) = b1 → decide (n ≤ hi) = b2 → Calls Tryd.prog 91 #[.agg #[.int .i64 op, .int .i64 iA, .int .i64 iB, .int .i64 iC, .int .i64 n, .int .i64 ex, .int .i64 kk, .int .i64 kn], .int .i64 regs] w fun e w' => e = .returned (.bool (b1 && b2)) ∧ Below w.heap.size w w') →
      Calls Tryd.prog 91 #[.agg #[.int .i64 op, .int .i64 iA, .int .i64 iB, .int .i64 iC, .int .i64 n, .int .i64 ex, .int .i64 kk, .int .i64 kn], .int .i64 regs] w fun e w' => e = .returned (.bool (numOk regs ⟨op, iA, iB, iC, n, ex, ⟨kk, kn⟩⟩)) ∧ Below w.heap.size w w' := fun lo hi e h => by
    rw [e]
    exact h _ _ rfl rfl
  rcases op_cases op with h | rfl | rfl | rfl | rfl | rfl | rfl | rfl | rfl | rfl | rfl | rfl | rfl | rfl | rfl | rfl | rfl | rfl | rfl | rfl
  · refine key 0 0 (HN.out _ _ (by rw [formOf_else h]) (by rw [formOf_else h, if_neg (by omega)])) fun b1 b2 e1 e2 => ?_
    have n1 : (op == 1) = false := by simp; omega
    have n4 : (op == 4) = false := by simp; omega
    have n5 : (op == 5) = false := by simp; omega
    have n7 : (op == 7) = false := by simp; omega
    have n8 : (op == 8) = false := by simp; omega
    have n9 : (op == 9) = false := by simp; omega
    have n10 : (op == 10) = false := by simp; omega
    have n11 : (op == 11) = false := by simp; omega
    have n12 : (op == 12) = false := by simp; omega
    have n19 : (op == 19) = false := by simp; omega
    have n16 : (op == 16) = false := by simp; omega
    clear h HN key
    cases b1 <;> cases b2
    all_goals
      go_enter Tryd.func91, Tryd.ntmps91
      go_wp2
      go_ret
      exact ⟨rfl, HB.out _⟩
  · refine key 0 (regs - 1) (HN.out _ _ rfl rfl) fun b1 b2 e1 e2 => ?_
    clear HN key
    cases b1 <;> cases b2
    all_goals
      go_enter Tryd.func91, Tryd.ntmps91
      go_wp2
      go_ret
      exact ⟨rfl, HB.out _⟩
  · refine key 0 0 (HN.out _ _ rfl rfl) fun b1 b2 e1 e2 => ?_
    clear HN key
    cases b1 <;> cases b2
    all_goals
      go_enter Tryd.func91, Tryd.ntmps91
      go_wp2
      go_ret
      exact ⟨rfl, HB.out _⟩
  · refine key 0 0 (HN.out _ _ rfl rfl) fun b1 b2 e1 e2 => ?_
    clear HN key
    cases b1 <;> cases b2
    all_goals
      go_enter Tryd.func91, Tryd.ntmps91
      go_wp2
      go_ret
      exact ⟨rfl, HB.out _⟩
  · refine key 0 6 (HN.out _ _ rfl rfl) fun b1 b2 e1 e2 => ?_
    clear HN key
    cases b1 <;> cases b2
    all_goals
      go_enter Tryd.func91, Tryd.ntmps91
      go_wp2
      go_ret
      exact ⟨rfl, HB.out _⟩
  · refine key 0 1 (HN.out _ _ rfl rfl) fun b1 b2 e1 e2 => ?_
    clear HN key
    cases b1 <;> cases b2
    all_goals
      go_enter Tryd.func91, Tryd.ntmps91
      go_wp2
      go_ret
      exact ⟨rfl, HB.out _⟩
  · refine key 0 0 (HN.out _ _ rfl rfl) fun b1 b2 e1 e2 => ?_
    clear HN key
    cases b1 <;> cases b2
    all_goals
      go_enter Tryd.func91, Tryd.ntmps91
      go_wp2
      go_ret
      exact ⟨rfl, HB.out _⟩
  · refine key 3 10 (HN.out _ _ rfl rfl) fun b1 b2 e1 e2 => ?_
    clear HN key
    cases b1 <;> cases b2
    all_goals
      go_enter Tryd.func91, Tryd.ntmps91
      go_wp2
      go_ret
      exact ⟨rfl, HB.out _⟩
  · refine key 11 12 (HN.out _ _ rfl rfl) fun b1 b2 e1 e2 => ?_
    clear HN key
    cases b1 <;> cases b2
    all_goals
      go_enter Tryd.func91, Tryd.ntmps91
      go_wp2
      go_ret
      exact ⟨rfl, HB.out _⟩
  · refine key 1 7 (HN.out _ _ rfl rfl) fun b1 b2 e1 e2 => ?_
    clear HN key
    cases b1 <;> cases b2
    all_goals
      go_enter Tryd.func91, Tryd.ntmps91
      go_wp2
      go_ret
      exact ⟨rfl, HB.out _⟩
  · refine key 0 99 (HN.out _ _ rfl rfl) fun b1 b2 e1 e2 => ?_
    clear HN key
    cases b1 <;> cases b2
    all_goals
      go_enter Tryd.func91, Tryd.ntmps91
      go_wp2
      go_ret
      exact ⟨rfl, HB.out _⟩
  · refine key 0 99 (HN.out _ _ rfl rfl) fun b1 b2 e1 e2 => ?_
    clear HN key
    cases b1 <;> cases b2
    all_goals
      go_enter Tryd.func91, Tryd.ntmps91
      go_wp2
      go_ret
      exact ⟨rfl, HB.out _⟩
  · refine key 1 1073741824 (HN.out _ _ rfl rfl) fun b1 b2 e1 e2 => ?_
    clear HN key
    cases b1 <;> cases b2
    all_goals
      go_enter Tryd.func91, Tryd.ntmps91
      go_wp2
      go_ret
      exact ⟨rfl, HB.out _⟩
  · refine key 0 0 (HN.out _ _ rfl rfl) fun b1 b2 e1 e2 => ?_
    clear HN key
    cases b1 <;> cases b2
    all_goals
      go_enter Tryd.func91, Tryd.ntmps91
      go_wp2
      go_ret
      exact ⟨rfl, HB.out _⟩
  · refine key 0 0 (HN.out _ _ rfl rfl) fun b1 b2 e1 e2 => ?_
    clear HN key
    cases b1 <;> cases b2
    all_goals
      go_enter Tryd.func91, Tryd.ntmps91
      go_wp2
      go_ret
      exact ⟨rfl, HB.out _⟩
  · refine key 0 0 (HN.out _ _ rfl rfl) fun b1 b2 e1 e2 => ?_
    clear HN key
    cases b1 <;> cases b2
    all_goals
      go_enter Tryd.func91, Tryd.ntmps91
      go_wp2
      go_ret
      exact ⟨rfl, HB.out _⟩
  · refine key 1 3 (HN.out _ _ rfl rfl) fun b1 b2 e1 e2 => ?_
    clear HN key
    cases b1 <;> cases b2
    all_goals
      go_enter Tryd.func91, Tryd.ntmps91
      go_wp2
      go_ret
      exact ⟨rfl, HB.out _⟩
  · refine key 0 0 (HN.out _ _ rfl rfl) fun b1 b2 e1 e2 => ?_
    clear HN key
    cases b1 <;> cases b2
    all_goals
      go_enter Tryd.func91, Tryd.ntmps91
      go_wp2
      go_ret
      exact ⟨rfl, HB.out _⟩
  · refine key 0 0 (HN.out _ _ rfl rfl) fun b1 b2 e1 e2 => ?_
    clear HN key
    cases b1 <;> cases b2
    all_goals
      go_enter Tryd.func91, Tryd.ntmps91
      go_wp2
      go_ret
      exact ⟨rfl, HB.out _⟩
  · refine key 1 1073741824 (HN.out _ _ rfl rfl) fun b1 b2 e1 e2 => ?_
    clear HN key
    cases b1 <;> cases b2
    all_goals
      go_enter Tryd.func91, Tryd.ntmps91
      go_wp2
      go_ret
      exact ⟨rfl, HB.out _⟩
end Go.Proofs.YtjlnaiiajlahgaaDoor.chk
