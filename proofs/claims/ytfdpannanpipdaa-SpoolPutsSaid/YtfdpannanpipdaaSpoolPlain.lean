/- Plain: numbers and sums of bytes, and the values that records tell. -/
import Derived.Test.YtfdpannanpipdaaTy
import Derived.Laws.BitsAllLaws
set_option linter.unusedVariables false
set_option linter.unusedSimpArgs false
namespace Go.Proofs.Ytfdpannanpipdaa.spool
open Go.Bk Go.RowKit

/-- The number that bytes are, the highest first. -/
def numStep (n : Nat) (b : UInt8) : Nat := (n * 256 + b.toNat) % 18446744073709551616
def numOf (bs : List UInt8) : Nat := bs.foldl numStep 0
/-- The sum of bytes. -/
def sumStep (n : Nat) (b : UInt8) : Nat := ((n ^^^ b.toNat) * 16777619) % 4294967296
def sumOf (bs : List UInt8) : Nat := bs.foldl sumStep 2166136261
theorem numStep_lt (n : Nat) (b : UInt8) : numStep n b < 18446744073709551616 := Nat.mod_lt _ (by omega)
theorem sumStep_lt (n : Nat) (b : UInt8) : sumStep n b < 4294967296 := Nat.mod_lt _ (by omega)
theorem fold_take {α β : Type} {f : β → α → β} {z : β} {l : List α} {k : Nat} {x : α} (h : l[k]? = some x) : (l.take (k + 1)).foldl f z = f ((l.take k).foldl f z) x := by
  rw [List.take_add_one, h]; simp
theorem fold_lt {f : Nat → UInt8 → Nat} {B z : Nat} (hf : ∀ n b, f n b < B) (hz : z < B) (l : List UInt8) : l.foldl f z < B := by
  induction l generalizing z with
  | nil => exact hz
  | cons x xs ih => exact ih (hf z x)
theorem num_take_lt (l : List UInt8) : numOf l < 18446744073709551616 := fold_lt numStep_lt (by omega) l
theorem sum_lt (l : List UInt8) : sumOf l < 4294967296 := fold_lt sumStep_lt (by omega) l
theorem xor_low (n b : Nat) (hb : b < 256) : n ^^^ b = n - n % 256 + (n % 256 ^^^ b) := by
  have h1 : (n ^^^ b) % 2 ^ 8 = n % 2 ^ 8 ^^^ b % 2 ^ 8 := Nat.xor_mod_two_pow
  have h2 : (n ^^^ b) / 2 ^ 8 = n / 2 ^ 8 ^^^ b / 2 ^ 8 := Nat.xor_div_two_pow
  rw [Nat.mod_eq_of_lt (show b < 2 ^ 8 by omega)] at h1
  rw [Nat.div_eq_of_lt (show b < 2 ^ 8 by omega), Nat.xor_zero] at h2
  have h3 := Nat.div_add_mod (n ^^^ b) (2 ^ 8)
  have h4 := Nat.div_add_mod n (2 ^ 8)
  rw [h1, h2] at h3
  rw [show 256 = 2 ^ 8 from rfl]
  omega
theorem or_low (n b : Nat) (hb : b < 256) : (n * 256) % 18446744073709551616 ||| b = (n * 256 + b) % 18446744073709551616 := by
  have h := Nat.two_pow_add_eq_or_of_lt (i := 8) (b := b) (by omega) (n % 72057594037927936)
  have e : n * 256 % 18446744073709551616 = 2 ^ 8 * (n % 72057594037927936) := by omega
  rw [e, ← h]; omega
theorem i64_xor_nat (a b : Nat) (ha : a < 9223372036854775808) (hb : b < 9223372036854775808) : bits .xor .i64 (a : Int) (b : Int) = ((a ^^^ b : Nat) : Int) := by
  have hx : a ^^^ b < 2 ^ 63 := Nat.xor_lt_two_pow (by omega) (by omega)
  show IntKind.i64.wrap ((BitVec.ofInt 64 (a : Int) ^^^ BitVec.ofInt 64 (b : Int)).toNat : Int) = _
  rw [BitVec.toNat_xor, ofInt_u64 a (by omega), ofInt_u64 b (by omega)]
  simp [IntKind.wrap, IntKind.bits, IntKind.signed]
  omega
theorem num_step_bits (n : Nat) (y : UInt8) : bits .or .u64 (IntKind.u64.wrap ((n : Int) * 256)) (IntKind.u64.wrap (y.toNat : Int)) = (numStep n y : Int) := by
  have hy := y.toNat_lt
  rw [IntKind.wrap_u64, IntKind.wrap_u64, show (n : Int) * 256 % 18446744073709551616 = ((n * 256 % 18446744073709551616 : Nat) : Int) by omega,
    show (y.toNat : Int) % 18446744073709551616 = (y.toNat : Int) by omega, u64_or_nat _ _ (by omega) (by omega), or_low _ _ (by omega)]
  rfl
theorem sum_step_bits {n : Nat} (hn : n < 4294967296) (y : UInt8) : bits .xor .u32 (n : Int) ((y.toNat : Int) % 4294967296) * 16777619 % 4294967296 = (sumStep n y : Int) := by
  have hy := y.toNat_lt
  rw [show (y.toNat : Int) % 4294967296 = (y.toNat : Int) by omega, u32_xor_nat _ _ hn (by omega)]
  unfold sumStep
  omega
theorem xor_small {n : Nat} (hn : n < 4294967296) (y : UInt8) : n ^^^ y.toNat < 4294967296 := Nat.xor_lt_two_pow (n := 32) hn (by have := y.toNat_lt; omega)
theorem sum_step_ref {n : Nat} (hn : n < 4294967296) (y : UInt8) : (wrap64 (wrap64 ((n : Int) - (n : Int) % 256 + bits .xor .i64 ((n : Int) % 256) (wrap64 (y.toNat : Int))) * 16777619)).tmod 4294967296 = (sumStep n y : Int) := by
  have hy := y.toNat_lt
  have hs := xor_small hn y
  have hl := xor_low n y.toNat (by omega)
  have hm := Nat.mod_le n 256
  have hw : ∀ z : Int, 0 ≤ z → z < 9223372036854775808 → wrap64 z = z := fun z h1 h2 => by unfold wrap64; omega
  rw [hw (y.toNat : Int) (by omega) (by omega), show (n : Int) % 256 = ((n % 256 : Nat) : Int) by omega, i64_xor_nat _ _ (by omega) (by omega)]
  rw [show (n : Int) - ((n % 256 : Nat) : Int) + ((n % 256 ^^^ y.toNat : Nat) : Int) = ((n ^^^ y.toNat : Nat) : Int) by omega]
  unfold sumStep
  generalize n ^^^ y.toNat = z at hs ⊢
  rw [hw (z : Int) (by omega) (by omega), hw ((z : Int) * 16777619) (by omega) (by omega), Int.tmod_eq_emod_of_nonneg (by omega)]
  omega
/-- May a value be? -/
def rightOf (v : Api.Val) : Int :=
  if v.Kind < 0 ∨ 4 < v.Kind then 7
  else if (v.Kind = 0 ∧ v.N ≠ 0) ∨ (v.Kind = 1 ∧ (v.N < 0 ∨ 1 < v.N)) ∨ (v.Kind = 2 ∧ (v.N < -2147483648 ∨ 2147483647 < v.N)) ∨ (v.Kind = 4 ∧ (v.N < 0 ∨ 299 < v.N)) then 1 else 0
end Go.Proofs.Ytfdpannanpipdaa.spool
