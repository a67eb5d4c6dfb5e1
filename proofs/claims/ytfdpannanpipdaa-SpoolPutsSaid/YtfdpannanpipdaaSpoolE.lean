/- The document's record, walked. -/
import Derived.Test.YtfdpannanpipdaaSpoolRecPlain
set_option linter.unusedVariables false
set_option linter.unusedSimpArgs false
namespace Go.Proofs.Ytfdpannanpipdaa.spool
open Go.Bk Go.RowKit

def rec1 (w : World) (c : UInt8) (N0 : Nat) (n i : Value) (w' : World) : Prop :=
  ∃ k : Nat, k ≤ 8 ∧ i = .int .i64 k ∧ n = .int .u64 ((N0 / 256 ^ (8 - k) : Nat) : Int) ∧ Blk w' (w.heap.size + 1) 5 (bytesV ([c] ++ (List.replicate k 0 ++ (beOf (8 - k) N0 ++ List.replicate 4 0)))) ∧ Below w.heap.size w w'
def rec2 (w : World) (hd : List UInt8) (N0 : Nat) (n i : Value) (w' : World) : Prop :=
  ∃ k : Nat, k ≤ 4 ∧ i = .int .i64 ((8 + k : Nat) : Int) ∧ n = .int .i64 ((N0 / 256 ^ (4 - k) : Nat) : Int) ∧ Blk w' (w.heap.size + 1) 5 (bytesV (hd ++ (List.replicate k 0 ++ (beOf (4 - k) N0 ++ [])))) ∧ Below w.heap.size w w'

theorem rsum_at {S : Nat → Prop} {w : World} {a : Option Addr} {c n : Nat} {xs : List UInt8} (h : Arr S w a xs) (hn : xs.length = n) :
    Calls Try.prog 113 #[.slice a n c] w fun e w' => e = .returned (.int .i64 (sumOf xs)) ∧ Quiet w w' := hn ▸ rsum_any h

set_option maxRecDepth 100000 in
set_option maxHeartbeats 1000000 in
theorem record_any {w : World} {v : Api.Val} :
    Calls Try.prog 74 #[.agg #[.int .i64 v.Kind, .int .i64 v.N]] w fun e w' =>
      e = .returned (.slice (some ⟨w.heap.size + 1, 0, none⟩) 13 13) ∧ Blk w' (w.heap.size + 1) 5 (bytesV (recOf v)) ∧ Below w.heap.size w w' := by
  obtain ⟨K, N⟩ := v
  dsimp only
  go_enter Try.func74, Try.ntmps74
  go_wp2_with (with_reducible refine wp_make (n := 13) rfl rfl Try.underlying44 Try.info5 rfl rfl rfl (by omega) (by unfold maxLen; omega) fun w1 hblk hbel hsz => ?_
               have c0 : w1.cell? ⟨w.heap.size, 0, none⟩ = some (.int .i64 K) := (hbel.cell (p := ⟨w.heap.size, 0, none⟩) (by simp)).trans (by simp)
               have c1 : w1.cell? ⟨w.heap.size, 1, none⟩ = some (.int .i64 N) := (hbel.cell (p := ⟨w.heap.size, 1, none⟩) (by simp)).trans (by simp)
               have HB := Lib.hid (((Below.refl w.heap.size w).alloc (Nat.le_refl _) (.cells #[.int .i64 K, .int .i64 N] 24)).trans (hbel.mono (by simp)))
               rw [World.size_alloc] at hblk hsz
               have c2 : w1.cell? ⟨w.heap.size + 1, 0, none⟩ = some (.int .u8 0) := hblk.cell (by simp)
               have c3 : w1.frozen? ⟨w.heap.size + 1, 0, none⟩ = false := hblk.frozen 0
               have HK := Lib.hid hblk
               clear hblk hbel)
  obtain ⟨N0, hN0⟩ : ∃ n : Nat, IntKind.u64.wrap N = n := ⟨(IntKind.u64.wrap N).toNat, by rw [IntKind.wrap_u64]; omega⟩
  have eN : (N % 18446744073709551616).toNat = N0 := by rw [IntKind.wrap_u64] at hN0; omega
  have lN : N0 < 18446744073709551616 := by rw [IntKind.wrap_u64] at hN0; omega
  have HR : Hid (recOf ⟨K, N⟩ = ([UInt8.ofNat (K % 256).toNat] ++ beOf 8 N0) ++ beOf 4 (sumOf ([UInt8.ofNat (K % 256).toNat] ++ beOf 8 N0))) := by
    show recOf _ = _
    unfold recOf headOf
    dsimp only
    rw [eN]; rfl
  have eK : K % 256 = ((UInt8.ofNat (K % 256).toNat).toNat : Int) := by simp; omega
  rw [hN0, eK]
  generalize UInt8.ofNat (K % 256).toNat = c at *
  have H1 : Blk (w1.setCell ⟨w.heap.size + 1, 0, none⟩ (.int .u8 c.toNat)) (w.heap.size + 1) 5 (bytesV ([c] ++ (List.replicate 8 0 ++ (beOf 0 N0 ++ List.replicate 4 0)))) := HK.out.set 0 _
  have B1 := HB.out.setCell (p := ⟨w.heap.size + 1, 0, none⟩) (Nat.le_succ _) (.int .u8 c.toNat)
  have HH := Lib.hid H1; have HB1 := Lib.hid B1
  clear hN0 eN eK c0 c1 c2 c3 H1 B1 HK HB hsz
  generalize w1.setCell ⟨w.heap.size + 1, 0, none⟩ (.int .u8 c.toNat) = w2 at *
  go_loopw [4, 5] (rec1 w c N0) (fun _ i _ => (intOf i).toNat)
  case atStart => exact ⟨8, by omega, rfl, by simp, HH.out, HB1.out⟩
  case round =>
    obtain ⟨k, hk, rfl, rfl, hblk, hb⟩ := hrel
    have HK := Lib.hid hblk; have HB := Lib.hid hb
    clear hblk hb HH HB1
    by_cases h0 : 0 < k
    · obtain ⟨j, rfl⟩ : ∃ j, k = j + 1 := ⟨k - 1, by omega⟩
      obtain ⟨b0, hb0⟩ : ∃ b : UInt8, (bytesV ([c] ++ (List.replicate (j + 1) 0 ++ (beOf (8 - (j + 1)) N0 ++ List.replicate 4 0))))[j + 1]? = some (.int .u8 b.toNat) := bytesV_get (by simp [beOf_len]; omega)
      have c2 : wr.cell? ⟨w.heap.size + 1, j + 1, none⟩ = some (.int .u8 b0.toNat) := HK.out.cell hb0
      have c3 : wr.frozen? ⟨w.heap.size + 1, j + 1, none⟩ = false := HK.out.frozen _
      have lM : N0 / 256 ^ (8 - (j + 1)) < 18446744073709551616 := Nat.lt_of_le_of_lt (Nat.div_le_self _ _) lN
      have e0 : N0 / 256 ^ (8 - (j + 1)) / 256 = N0 / 256 ^ (8 - j) := by rw [Nat.div_div_eq_div_mul, ← Nat.pow_succ, show (8 - (j + 1)).succ = 8 - j by omega]
      have es := be_set [c] (List.replicate 4 0) j (8 - (j + 1)) N0
      rw [show 8 - (j + 1) + 1 = 8 - j by omega, show [c].length + j = j + 1 by simp; omega] at es
      have LM := Lib.hid lM; have E0 := Lib.hid e0; have ES := Lib.hid es
      clear hb0 lM e0 es lN
      generalize N0 / 256 ^ (8 - (j + 1)) = M at *
      go_wp2
      go_roundw
      case rel =>
        have := LM.out
        refine ⟨j, by omega, rfl, ?_, ?_, HB.out.setCell (p := ⟨w.heap.size + 1, j + 1, none⟩) (Nat.le_succ _) _⟩
        · rw [← E0.out]; congr 1; first | omega | (rw [IntKind.wrap_u64]; omega)
        · rw [← ES.out, ← bytesV_set]
          have hv : (M : Int) % 256 = ((UInt8.ofNat (M % 256)).toNat : Int) := by simp
          rw [hv]
          exact HK.out.set _ _
      case measure => simp [intOf]
    · obtain rfl : k = 0 := by omega
      obtain ⟨hd, hhd⟩ : ∃ l, l = [c] ++ beOf 8 N0 := ⟨_, rfl⟩
      have hl9 : hd.length = 9 := by rw [hhd]; simp [beOf_len]
      have hk0 : Blk wr (w.heap.size + 1) 5 (bytesV (hd ++ List.replicate 4 0)) := by rw [hhd]; simpa using HK.out
      have h9 : Arr (fun _ => True) wr (some ⟨w.heap.size + 1, 0, none⟩) hd := by
        have := (blk_bytes hk0 (by simp [hl9, maxLen]) (S := fun _ => True) trivial).take 9
        rwa [List.take_append_of_le_length (by omega), List.take_of_length_le (by omega)] at this
      have HR2 : Hid (recOf ⟨K, N⟩ = hd ++ beOf 4 (sumOf hd)) := by show _ = _; rw [HR.out, ← hhd]
      have HL := Lib.hid hl9; have HK0 := Lib.hid hk0
      clear h0 lN hhd hl9 HK HR hk0
      go_wp2_with (with_reducible refine (rsum_at h9 HL.out).mono ?_; rintro e w3 ⟨rfl, hq⟩)
      have hS := sum_lt hd
      have HK1 := Lib.hid (HK0.out.keep (hq.heap _))
      have HB1 := Lib.hid (HB.out.trans (hq.below _))
      generalize sumOf hd = S at *
      clear hq HB HK0 h9
      go_loopw [6, 7] (rec2 w hd S) (fun _ i _ => (intOf i).toNat)
      case atStart => exact ⟨4, by omega, rfl, by simp, by simpa [beOf] using HK1.out, HB1.out⟩
      case round =>
        obtain ⟨k, hk, rfl, rfl, hblk, hb⟩ := hrel
        have HK := Lib.hid hblk; have HB := Lib.hid hb
        clear hblk hb HK1 HB1
        by_cases h0 : 0 < k
        · obtain ⟨j, rfl⟩ : ∃ j, k = j + 1 := ⟨k - 1, by omega⟩
          obtain ⟨b0, hb0⟩ : ∃ b : UInt8, (bytesV (hd ++ (List.replicate (j + 1) 0 ++ (beOf (4 - (j + 1)) S ++ []))))[8 + (j + 1)]? = some (.int .u8 b.toNat) := bytesV_get (by have := HL.out; simp [beOf_len]; omega)
          have c2 : wr.cell? ⟨w.heap.size + 1, 8 + (j + 1), none⟩ = some (.int .u8 b0.toNat) := HK.out.cell hb0
          have c3 : wr.frozen? ⟨w.heap.size + 1, 8 + (j + 1), none⟩ = false := HK.out.frozen _
          have lM : S / 256 ^ (4 - (j + 1)) < 4294967296 := Nat.lt_of_le_of_lt (Nat.div_le_self _ _) hS
          have e0 : S / 256 ^ (4 - (j + 1)) / 256 = S / 256 ^ (4 - j) := by rw [Nat.div_div_eq_div_mul, ← Nat.pow_succ, show (4 - (j + 1)).succ = 4 - j by omega]
          have es := be_set hd [] j (4 - (j + 1)) S
          rw [show 4 - (j + 1) + 1 = 4 - j by omega, HL.out, show 9 + j = 8 + (j + 1) by omega] at es
          have E0 := Lib.hid e0; have ES := Lib.hid es
          clear hb0 e0 es hS
          generalize S / 256 ^ (4 - (j + 1)) = M at *
          go_wp2
          go_roundw
          case rel =>
            refine ⟨j, by omega, ?_, ?_, ?_, HB.out.setCell (p := ⟨w.heap.size + 1, _, none⟩) (Nat.le_succ _) _⟩
            · congr 1; omega
            · rw [← E0.out]; congr 1
            · rw [← ES.out, ← bytesV_set]
              have hv : (M : Int) % 256 = ((UInt8.ofNat (M % 256)).toNat : Int) := by simp
              rw [hv]
              exact HK.out.set _ _
          case measure => simp [intOf]; omega
        · obtain rfl : k = 0 := by omega
          go_wp2
          go_ret
          exact ⟨rfl, by rw [HR2.out]; simpa using HK.out, HB.out⟩
end Go.Proofs.Ytfdpannanpipdaa.spool
