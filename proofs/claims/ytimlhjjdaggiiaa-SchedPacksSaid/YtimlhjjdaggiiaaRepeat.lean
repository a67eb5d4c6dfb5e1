/- slices.Repeat of one number: so many of it, new. For whatever number and few repeats. -/
import Derived.Test.YtimlhjjdaggiiaaApp
import Derived.Test.YtimlhjjdaggiiaaFuncs
import Derived.Laws.Bits64b
import Derived.Deep.RegionLaw
import Derived.Laws.CopyOwn
set_option linter.unusedVariables false
set_option linter.unusedSimpArgs false
namespace Go.Proofs.Ytimlhjjdaggiiaa
open Go.Bk Go.RowKit

set_option maxRecDepth 100000 in
theorem mul64_one {w : World} {m : Nat} (hm : m < 1000) :
    Calls Try.prog 157 #[.int .u64 1, .int .u64 m] w fun e w' => e = .returned (.tuple #[.int .u64 0, .int .u64 m]) ∧ w = w' := by
  have h1 : bits .and .u64 (m : Int) 4294967295 = (m : Int) := by
    have h := bits_and_u64_nat m 4294967295 (by omega) (by omega)
    rw [show m &&& 4294967295 = m % 4294967296 from Nat.and_two_pow_sub_one_eq_mod m 32, Nat.mod_eq_of_lt (by omega)] at h
    exact h
  have h2 : (m : Int) / 4294967296 = 0 := by omega
  have h3 : bits .and .u64 1 4294967295 = 1 := by decide +kernel
  have h4 : bits .and .u64 0 4294967295 = 0 := by decide +kernel
  have h5 : IntKind.u64.wrap (m : Int) = m := by rw [IntKind.wrap_u64]; omega
  have h6 : IntKind.u64.wrap 0 = 0 := by decide +kernel
  go_enter Try.func157, Try.ntmps157
  go_wp2
  go_ret2
  exact ⟨rfl, rfl⟩
set_option maxRecDepth 100000 in
theorem mul_one {w : World} {m : Nat} (hm : m < 1000) :
    Calls Try.prog 148 #[.int .u64 1, .int .u64 m] w fun e w' => e = .returned (.tuple #[.int .u64 0, .int .u64 m]) ∧ w = w' := by
  go_enter Try.func148, Try.ntmps148
  go_wp2_with (with_reducible refine (mul64_one hm).mono ?_; rintro e w' ⟨rfl, rfl⟩)
  go_ret2
  exact ⟨rfl, rfl⟩

def repRel (w : World) (t : Int) (m : Nat) (n : Value) (w' : World) : Prop :=
  ∃ k : Nat, 1 ≤ k ∧ k ≤ m ∧ n = .int .i64 k ∧ Blk w' w.heap.size 3 ((List.replicate k t ++ List.replicate (m - k) 0).map (Value.int .i64)) ∧ Below w.heap.size w w'

theorem splice_rep (t : Int) (k c r : Nat) : splice (List.replicate k t ++ List.replicate (c + r) 0) k (List.replicate c t) = List.replicate (k + c) t ++ List.replicate r 0 := by
  unfold splice
  rw [List.take_left' (by simp), List.length_replicate, ← List.drop_drop, List.drop_left' (by simp), List.drop_replicate, ← List.append_assoc, List.replicate_append_replicate, show c + r - c = r by omega]

set_option maxRecDepth 100000 in
theorem repeat_one {S : Nat → Prop} {w : World} {a : Option Addr} {c : Nat} {t : Int} {m : Nat} (h : Arr S w a [t]) (hS : ∀ b, S b → b < w.heap.size) (h0 : 0 < m) (hm : m < 1000) :
    Calls Try.prog 125 #[.slice a 1 c, .int .i64 m] w fun e w' => e = .returned (.slice (some ⟨w.heap.size, 0, none⟩) m m) ∧ Blk w' w.heap.size 3 ((List.replicate m t).map (Value.int .i64)) ∧ Below w.heap.size w w' := by
  have h5 : IntKind.u64.wrap (m : Int) = m := by rw [IntKind.wrap_u64]; omega
  have h6 : IntKind.u64.wrap 1 = 1 := by decide +kernel
  have h7 : IntKind.i64.wrap (m : Int) = m := IntWalk.i64_in _ (by omega)
  have hgt : decide ((9223372036854775807 : Int) < m) = false := by simp; omega
  obtain ⟨-, -, -, -, -, hi⟩ := arr_int h (k := 0) rfl
  have HI := Lib.hid hi
  have hneg : decide ((m : Int) < 0) = false := by simp
  clear hi
  go_enter Try.func125, Try.ntmps125
  go_wp2_with (first
    | ((with_reducible refine (mul_one hm).mono ?_); rintro e w' ⟨rfl, rfl⟩)
    | (with_reducible refine wp_make rfl rfl Try.underlying22 Try.info3 rfl rfl rfl (by omega) (by unfold maxLen; omega) fun w1 hblk hbel hsz => ?_)
    | (rw [show List.replicate m (Value.int IntKind.i64 0) = (List.replicate m 0).map (Value.int .i64) by simp] at hblk
       with_reducible refine wp_copy_at (xs := [t]) rfl rfl Try.underlying22 Try.info3 rfl rfl rfl hblk (h.keep (S := S) ?_) (by simp) hbel (Nat.le_refl _) fun w2 hblk2 hbel2 hsz2 hoth => ?_))
  case refine_1 => exact fun b hb => hbel.block b (hS b hb)
  have HK : Hid (Blk w2 w.heap.size 3 ((List.replicate 1 t ++ List.replicate (m - 1) 0).map (Value.int .i64))) := by
    show Blk _ _ _ _
    have e1 : [t].take m = List.replicate 1 t := by rw [List.take_of_length_le (by simp; omega)]; rfl
    have e2 := splice_rep t 0 1 (m - 1)
    rw [show 1 + (m - 1) = m by omega] at e2
    rw [e1] at hblk2
    rw [List.replicate_zero, List.nil_append, show 0 + 1 = 1 from rfl] at e2
    rw [← e2]
    exact hblk2
  have HB := Lib.hid hbel2
  have h1m : min 1 m = 1 := by omega
  rw [h1m, show ((1 : Nat) : Int) = 1 from rfl]
  clear hblk2 hbel2 hblk hbel hsz h6 hgt h hsz2 hoth h1m
  go_wp2
  go_loopw [8] (repRel w t m) (fun n _ => m - (intOf n).toNat)
  case atStart => exact ⟨1, by omega, by omega, rfl, HK.out, HB.out⟩
  case round =>
    obtain ⟨k, hk1, hkm, rfl, hblk, hb⟩ := hrel
    have HB2 := Lib.hid hb
    clear hb HK HB
    by_cases hlt : k < m
    · have hlt' : decide (k < m) = true := by simp [hlt]
      have HK2 := Lib.hid hblk
      have hne : ¬ m = k := by omega
      have HU := Lib.hid Try.underlying22
      have HIN : Hid ((Try.prog.info? 3).map (·.size) = some 1) := by show _ = _; kernel_rfl
      have HMIN : Hid (((List.replicate (min k (m - k)) t).map (Value.int .i64)).length = Nat.min k (m - k)) := by show _ = _; simp
      have HFIT : Hid (k + ((List.replicate (min k (m - k)) t).map (Value.int .i64)).length ≤ ((List.replicate k t ++ List.replicate (m - k) 0).map (Value.int .i64)).length) := by show _ ≤ _; simp; omega
      have HONE : Hid (∀ v ∈ (List.replicate (min k (m - k)) t).map (Value.int .i64), v.oneCell' = true) := fun v hv => by obtain ⟨_, _, rfl⟩ := List.mem_map.1 hv; rfl
      have HSRC : Hid (∀ j v, ((List.replicate (min k (m - k)) t).map (Value.int .i64))[j]? = some v → wr.drew.cell? (Addr.add ⟨w.heap.size, 0, none⟩ j) = some v) := fun j v hj => by
        have hjl := (List.getElem?_eq_some_iff.1 hj).1
        simp at hjl
        rw [Addr.add_lit, Nat.zero_add]
        show wr.cell? _ = _
        refine HK2.out.cell ?_
        rw [List.getElem?_map, List.getElem?_append_left (by simp; omega)]
        rw [List.getElem?_map] at hj
        rw [← hj]
        congr 1
        rw [List.getElem?_replicate, List.getElem?_replicate, if_pos (by omega), if_pos (by omega)]
      have HK3 : Hid (wr.drew.heap[w.heap.size]? = some (.cells (((List.replicate k t ++ List.replicate (m - k) 0).map (Value.int .i64)).toArray) 3 (0, 0))) := HK2.out
      have HB3 : Hid (Below w.heap.size w wr.drew) := HB2.out.drew
      clear hblk
      go_wp2
      go_region_law (refine step_copy_splice rfl (.tmp 41) (.tmp 44) 22 22 rfl 3 HU.out HIN.out (some ⟨w.heap.size, k, none⟩) (some ⟨w.heap.size, 0, none⟩) (m - k) (m - k) k m (by simp [Act.eval, Act.put]) (by simp [Act.eval, Act.put]) w.heap.size k ((List.replicate k t ++ List.replicate (m - k) 0).map (Value.int .i64)) 3 HK3.out ((List.replicate (min k (m - k)) t).map (Value.int .i64)) HMIN.out (fun _ => ⟨rfl, _, rfl, HSRC.out⟩) HFIT.out HONE.out w.heap.size w HB3.out (Nat.le_refl _) ?_; intro w4 hg4 hb4)
      have HC : Hid (min k (m - k) + (m - k - min k (m - k)) = m - k) := by show _ = _; omega
      have hc1 : 1 ≤ min k (m - k) := by omega
      have hcm : k + min k (m - k) ≤ m := by omega
      clear HK3 HB3 HU HIN HMIN HFIT HONE HSRC HK2 HB2
      generalize min k (m - k) = q at *
      have hwr : IntKind.i64.wrap ((k : Int) + (q : Int)) = ((k + q : Nat) : Int) := by rw [IntWalk.i64_in _ (by omega)]; omega
      go_wp2
      simp only [List.getElem_toArray, List.getElem_cons_succ, List.getElem_cons_zero, Act.put, List.setIfInBounds_toArray, List.set_cons_succ, List.set_cons_zero, hwr]
      go_roundw
      case rel =>
        have := hg4.out
        have e2 := splice_rep t k q (m - k - q)
        rw [HC.out] at e2
        refine ⟨k + q, by omega, hcm, by go_num, ?_, hb4⟩
        rw [show m - (k + q) = m - k - q by omega, ← e2, ← splice_map]
        exact hg4.out
      case measure => simp [intOf]; omega
    · obtain rfl : k = m := by omega
      have HK2 := Lib.hid hblk
      clear hblk
      go_wp2
      go_ret
      exact ⟨rfl, by simpa using HK2.out, HB2.out⟩
end Go.Proofs.Ytimlhjjdaggiiaa
