/- Plain: a record is the one of its value just if its sum is right. -/
import Derived.Test.YtfdpannanpipdaaSpoolC0
set_option linter.unusedVariables false
set_option linter.unusedSimpArgs false
namespace Go.Proofs.Ytfdpannanpipdaa.spool
open Go.Bk Go.RowKit

/-- So many bytes of a number, the highest first. -/
def beOf : Nat → Nat → List UInt8
  | 0, _ => []
  | k + 1, n => beOf k (n / 256) ++ [UInt8.ofNat (n % 256)]
theorem beOf_len (k n : Nat) : (beOf k n).length = k := by
  induction k generalizing n with
  | zero => rfl
  | succ k ih => simp [beOf, ih]
theorem numOf_snoc (l : List UInt8) (b : UInt8) : numOf (l ++ [b]) = numStep (numOf l) b := by unfold numOf; simp
theorem ofNat_toNat_mod (n : Nat) : (UInt8.ofNat (n % 256)).toNat = n % 256 := by simp
/-- The bytes of the number that few bytes are, are these. -/
theorem beOf_num (l : List UInt8) (h : l.length ≤ 8) : numOf l < 256 ^ l.length ∧ beOf l.length (numOf l) = l := by
  obtain ⟨r, hr⟩ : ∃ r, r = l.reverse := ⟨_, rfl⟩
  obtain rfl : l = r.reverse := by rw [hr, List.reverse_reverse]
  clear hr
  induction r with
  | nil => exact ⟨by simp [numOf], rfl⟩
  | cons b r ih =>
    rw [List.reverse_cons] at h ⊢
    simp only [List.length_append, List.length_singleton] at h ⊢
    obtain ⟨h1, h2⟩ := ih (by omega)
    have hb := b.toNat_lt
    generalize r.reverse = l at h h1 h2 ⊢
    have hp : 256 ^ l.length ≤ 72057594037927936 := by
      have : l.length ≤ 7 := by omega
      exact Nat.le_trans (Nat.pow_le_pow_right (by omega) this) (by decide +kernel)
    rw [numOf_snoc]
    have e : numStep (numOf l) b = numOf l * 256 + b.toNat := by unfold numStep; omega
    rw [e, Nat.pow_succ]
    refine ⟨by omega, ?_⟩
    unfold beOf
    rw [show (numOf l * 256 + b.toNat) / 256 = numOf l by omega, h2, show (numOf l * 256 + b.toNat) % 256 = b.toNat by omega]
    simp
theorem num_beOf (k n : Nat) (h : k ≤ 8) : numOf (beOf k n) = n % 256 ^ k := by
  induction k generalizing n with
  | zero => simp [beOf, numOf, Nat.mod_one]
  | succ k ih =>
    unfold beOf
    rw [numOf_snoc, ih _ (by omega)]
    unfold numStep
    rw [ofNat_toNat_mod, Nat.pow_succ]
    have hp : 256 ^ k ≤ 72057594037927936 := Nat.le_trans (Nat.pow_le_pow_right (by omega) (show k ≤ 7 by omega)) (by decide +kernel)
    have hp0 : 0 < 256 ^ k := Nat.pow_pos (by omega)
    have h1 := Nat.mod_lt (n / 256) hp0
    have h2 : n % (256 ^ k * 256) = (n / 256 % 256 ^ k) * 256 + n % 256 := by
      rw [Nat.mul_comm (256 ^ k) 256, Nat.mod_mul]
      omega
    omega
/-- The first nine bytes of a record, and all of it. -/
def headOf (v : Api.Val) : List UInt8 := UInt8.ofNat (v.Kind % 256).toNat :: beOf 8 (v.N % 18446744073709551616).toNat
def recOf (v : Api.Val) : List UInt8 := headOf v ++ beOf 4 (sumOf (headOf v))
theorem headOf_len (v : Api.Val) : (headOf v).length = 9 := by simp [headOf, beOf_len]
theorem recOf_len (v : Api.Val) : (recOf v).length = 13 := by simp [recOf, headOf_len, beOf_len]
theorem headOf_val {r : List UInt8} (hl : r.length = 13) : headOf (valOf r) = r.take 9 := by
  obtain ⟨y, t, rfl⟩ : ∃ y t, r = y :: t := by cases r with
    | nil => simp at hl
    | cons y t => exact ⟨y, t, rfl⟩
  have ht : (t.take 8).length = 8 := by simp at hl ⊢; omega
  have hn := beOf_num (t.take 8) (by omega)
  rw [ht] at hn
  unfold headOf valOf
  have e1 : ((y :: t).take 9).drop 1 = t.take 8 := by simp
  rw [e1]
  show UInt8.ofNat (((y.toNat : Int)) % 256).toNat :: beOf 8 (IntKind.i64.wrap (numOf (t.take 8) : Int) % 18446744073709551616).toNat = y :: t.take 8
  have hy := y.toNat_lt
  have hlt := num_take_lt (t.take 8)
  rw [show (((y.toNat : Int)) % 256).toNat = y.toNat by omega]
  have e2 : (IntKind.i64.wrap (numOf (t.take 8) : Int) % 18446744073709551616).toNat = numOf (t.take 8) := by
    rw [IntWalk.i64_left]; unfold wrap64; omega
  rw [e2, hn.2]
  simp
theorem rec_is {r : List UInt8} (hl : r.length = 13) : recOf (valOf r) = r ↔ numOf (r.drop 9) = sumOf (r.take 9) := by
  unfold recOf
  rw [headOf_val hl]
  have l4 : (r.drop 9).length = 4 := by simp [hl]
  have hn := beOf_num (r.drop 9) (by omega)
  rw [l4] at hn
  constructor
  · intro h
    have h2 : beOf 4 (sumOf (r.take 9)) = r.drop 9 := by
      have := congrArg (List.drop 9) h
      rw [List.drop_append_of_le_length (by simp [hl])] at this
      simpa [hl] using this
    rw [← h2, num_beOf _ _ (by omega)]
    exact Nat.mod_eq_of_lt (sum_lt _)
  · intro h
    rw [← h, hn.2, List.take_append_drop]
theorem beOf_front (k n : Nat) : beOf (k + 1) n = UInt8.ofNat (n / 256 ^ k % 256) :: beOf k n := by
  induction k generalizing n with
  | zero => simp [beOf]
  | succ k ih =>
    rw [beOf, ih (n / 256)]
    rw [show n / 256 / 256 ^ k = n / 256 ^ (k + 1) by rw [Nat.div_div_eq_div_mul, Nat.pow_succ, Nat.mul_comm]]
    rfl
/-- One more byte, ahead of those that are there. -/
theorem be_set (pre post : List UInt8) (k j n : Nat) :
    (pre ++ (List.replicate (k + 1) 0 ++ (beOf j n ++ post))).set (pre.length + k) (UInt8.ofNat (n / 256 ^ j % 256)) = pre ++ (List.replicate k 0 ++ (beOf (j + 1) n ++ post)) := by
  rw [beOf_front, List.replicate_succ', List.append_assoc, List.set_append_right _ _ (by omega), Nat.add_sub_cancel_left, List.set_append_right _ _ (by simp)]
  simp
def bytesV (bs : List UInt8) : List Value := bs.map fun b => .int .u8 b.toNat
theorem bytesV_set (bs : List UInt8) (k : Nat) (b : UInt8) : (bytesV bs).set k (.int .u8 b.toNat) = bytesV (bs.set k b) := by simp [bytesV, List.map_set]
theorem bytesV_get {bs : List UInt8} {k : Nat} (h : k < bs.length) : ∃ b : UInt8, (bytesV bs)[k]? = some (.int .u8 b.toNat) := ⟨bs[k], by simp [bytesV, h]⟩
theorem blk_bytes {w : World} {g : Nat} {e : TypeId} {bs : List UInt8} (h : Blk w g e (bytesV bs)) (hl : bs.length ≤ maxLen) {S : Nat → Prop} (hS : S g) : Arr S w (some ⟨g, 0, none⟩) bs := by
  refine ⟨hl, .inr ⟨g, 0, rfl, hS, fun k x hk => ⟨[.int .u8 x.toNat], rfl, fun j hj => ?_⟩⟩⟩
  have hj0 : j = 0 := by have : j < 1 := hj; omega
  subst hj0
  show w.cell? ⟨g, 0 + k * 1 + 0, none⟩ = some _
  rw [show 0 + k * 1 + 0 = k by omega]
  exact h.cell (by simp [bytesV, hk])
end Go.Proofs.Ytfdpannanpipdaa.spool
