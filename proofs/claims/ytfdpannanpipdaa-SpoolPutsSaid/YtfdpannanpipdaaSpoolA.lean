/- The functions that read numbers and sums of bytes, walked. -/
import Derived.Test.YtfdpannanpipdaaSpoolPlain
import Derived.Test.YtfdpannanpipdaaMem
import Derived.Test.YtfdpannanpipdaaSame
import Derived.BigQuiet
import Derived.Outline
set_option linter.unusedVariables false
set_option linter.unusedSimpArgs false
namespace Go.Proofs.Ytfdpannanpipdaa.spool
open Go.Bk Go.RowKit

theorem arr_byte {S : Nat → Prop} {w : World} {a : Option Addr} {xs : List UInt8} (h : Arr S w a xs) {k : Nat} {x : UInt8} (hk : xs[k]? = some x) : ∃ (b off : Nat), a = some ⟨b, off, none⟩ ∧ S b ∧ w.cell? ⟨b, off + k, none⟩ = some (.int .u8 x.toNat) := by
  obtain ⟨b1, o1, cs1, rfl, hs, rfl, g1⟩ := h.at hk
  exact ⟨b1, o1, rfl, hs, by simpa [show Rep.sz UInt8 = 1 from rfl] using g1 0 Nat.zero_lt_one⟩

def sumRel (w : World) (xs : List UInt8) (v n : Value) (w' : World) : Prop := ∃ k : Nat, k ≤ xs.length ∧ v = .int .i64 k ∧ n = .int .u32 (sumOf (xs.take k)) ∧ Quiet w w'

set_option maxRecDepth 100000 in
theorem sum_any {S : Nat → Prop} {w : World} {a : Option Addr} {c : Nat} {xs : List UInt8} (h : Arr S w a xs) :
    Calls Try.prog 72 #[.slice a xs.length c] w fun e w' => e = .returned (.int .u32 (sumOf xs)) ∧ Quiet w w' := by
  have hm := h.small
  unfold maxLen at hm
  go_enter Try.func72, Try.ntmps72
  go_wp2
  go_loopw [8, 3] (sumRel w xs) (fun i _ _ => xs.length - (intOf i).toNat)
  case atStart => exact ⟨0, Nat.zero_le _, rfl, rfl, Quiet.refl _⟩
  case round =>
    obtain ⟨k, hk, rfl, rfl, hq⟩ := hrel
    have HQ := Lib.hid hq
    have h' := h.keep (w' := wr) (fun b _ => hq.heap b)
    clear hq h
    by_cases hlt : k < xs.length
    · obtain ⟨y, hy⟩ : ∃ y, xs[k]? = some y := ⟨_, List.getElem?_eq_getElem hlt⟩
      have HY := Lib.hid hy
      obtain ⟨b1, o1, rfl, -, q1⟩ := arr_byte h' hy
      have hn := sum_lt (xs.take k)
      have HS : Hid (sumOf (xs.take (k + 1)) = sumStep (sumOf (xs.take k)) y) := fold_take hy
      clear h' hy
      generalize sumOf (xs.take k) = n at hn HS ⊢
      go_wp2
      go_roundw
      case rel => 
        refine ⟨k + 1, by omega, by go_num, ?_, HQ.out⟩
        rw [HS.out, sum_step_bits hn]
      case measure => simp [intOf]; omega
    · go_wp2
      go_ret
      exact ⟨by rw [List.take_of_length_le (by omega)]; rfl, HQ.out⟩

set_option maxRecDepth 100000 in
theorem right_any {w : World} {v : Api.Val} :
    Calls Try.prog 69 #[.agg #[.int .i64 v.Kind, .int .i64 v.N]] w fun e w' => e = .returned (.int .i64 (rightOf v)) ∧ Below w.heap.size w w' := by
  obtain ⟨K, N⟩ := v
  dsimp only
  go_enter Try.func69, Try.ntmps69
  go_wp2
  all_goals
    go_ret
    exact ⟨by simp only [rightOf]; simp; grind, (Below.refl _ _).alloc (Nat.le_refl _) _⟩
end Go.Proofs.Ytfdpannanpipdaa.spool
