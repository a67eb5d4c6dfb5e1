/- Count and Threads, walked. -/
import Derived.Test.YtimlhjjdaggiiaaEvA
import Derived.Test.YtimlhjjdaggiiaaRows2
import Derived.Deep.RegionLawGrows
set_option linter.unusedVariables false
set_option linter.unusedSimpArgs false
namespace Go.Proofs.Ytimlhjjdaggiiaa
open Go.Bk Go.RowKit

def countRel (w : World) (l : List Api.Event) (i : Value) (w' : World) : Prop :=
  ∃ q : Nat, q ≤ l.length ∧ i = .int .i64 q ∧ Blk w' w.heap.size 3 ((countTo l q).map (Value.int .i64)) ∧ Below w.heap.size w w'

set_option maxRecDepth 100000 in
set_option maxHeartbeats 1000000 in
theorem count_any {S : Nat → Prop} {w : World} {a : Option Addr} {c : Nat} {l : List Api.Event} (h : Arr S w a l) (hS : ∀ b, S b → b < w.heap.size) :
    Calls Try.prog 22 #[.slice a l.length c] w (RetLE w (countRes l)) := by
  have hm := h.small
  unfold maxLen at hm
  by_cases hl : 200 < l.length
  · have HE : Hid (countRes l = ([], 2)) := if_pos hl
    go_enter Try.func22, Try.ntmps22
    go_wp2_with fail
    go_ret2
    exact .err HE.out (Below.refl _ _)
  have HE : Hid (countRes l = (countTo l l.length, 0)) := if_neg hl
  have hl' : l.length ≤ 200 := by omega
  have hdl : decide (200 < l.length) = false := by simpa using hl
  clear hl
  go_enter Try.func22, Try.ntmps22
  go_wp2_with (with_reducible refine wp_make (n := 18) rfl rfl Try.underlying22 Try.info3 rfl rfl rfl (by omega) (by unfold maxLen; omega) fun w1 hblk hbel hsz => ?_)
  have HK : Hid (Blk w1 w.heap.size 3 ((countTo l 0).map (Value.int .i64))) := by show Blk _ _ _ _; rw [countTo_zero]; simpa using hblk
  have HB := Lib.hid hbel
  clear hblk hbel
  go_loopw [14] (countRel w l) (fun i _ => l.length - (intOf i).toNat)
  case atStart => exact ⟨0, Nat.zero_le _, rfl, HK.out, HB.out⟩
  case round =>
    obtain ⟨q, hq, rfl, hblk, hb⟩ := hrel
    have HK2 := Lib.hid hblk; have HB2 := Lib.hid hb
    have hbs := hb.size
    have hgs := hblk.lt
    have h' := h.keep (w' := wr) (fun b hb' => hb.block b (hS b hb'))
    clear hblk hb HK HB
    by_cases hlt : q < l.length
    · obtain ⟨e, he⟩ : ∃ y, l[q]? = some y := ⟨_, List.getElem?_eq_getElem hlt⟩
      have HEE := Lib.hid he
      obtain ⟨b, off, rfl, hSb, q0, q1, q2, q3, q4, q5, q6, q7, q8, q9, q10, q11, -⟩ := api_Event_elem h' he
      have hbl := hS b hSb
      have hkl := knd_lt e
      obtain ⟨k, hk⟩ : ∃ k : Nat, knd e = k := ⟨(knd e).toNat, by omega⟩
      have hk18 : k < 18 := by omega
      obtain ⟨cc, hcc⟩ : ∃ cc, (countTo l q)[k]? = some cc := ⟨_, countTo_get l q k hk18⟩
      have HS := Lib.hid (countTo_succ he hk cc hcc)
      have hcb := countTo_le hcc
      have c4 : wr.cell? ⟨w.heap.size, k, none⟩ = some (.int .i64 cc) := HK2.out.cell (by rw [List.getElem?_map, hcc]; rfl)
      have f4 : wr.frozen? ⟨w.heap.size, k, none⟩ = false := HK2.out.frozen k
      have hcb1 := hcb.1; have hcb2 : cc ≤ 200 := by omega
      have hne : ¬ wr.heap.size = w.heap.size := by omega
      have HK4 : Hid (Blk (wr.setCell ⟨w.heap.size, k, none⟩ (.int .i64 (cc + 1))) w.heap.size 3 ((countTo l (q + 1)).map (Value.int .i64))) := by
        have := HK2.out.set k (.int .i64 (cc + 1))
        rw [← List.map_set, HS.out] at this
        exact this
      have hkc : (e.Kind < 0 ∧ k = 0) ∨ (17 < e.Kind ∧ k = 0) ∨ (e.Kind = k) := by
        unfold knd at hk
        split at hk
        · rename_i h1; rcases h1 with h1 | h1
          · exact .inl ⟨h1, by omega⟩
          · exact .inr (.inl ⟨h1, by omega⟩)
        · exact .inr (.inr hk)
      clear he h' hk hkl hcc HS hcb
      rcases hkc with ⟨hk1, rfl⟩ | ⟨hk1, rfl⟩ | hk1
      · go_wp2_with fail
        go_roundw
        case rel => exact ⟨q + 1, by omega, by go_num, HK4.out.keep (Below.heap_alloc _ _ _ (by simp [World.setCell]; omega)), (HB2.out.setCell (p := ⟨w.heap.size, 0, none⟩) (Nat.le_refl _) _).alloc (by simp [World.setCell]; omega) _⟩
        case measure => simp [intOf] <;> omega
      · go_wp2_with fail
        go_roundw
        case rel => exact ⟨q + 1, by omega, by go_num, HK4.out.keep (Below.heap_alloc _ _ _ (by simp [World.setCell]; omega)), (HB2.out.setCell (p := ⟨w.heap.size, 0, none⟩) (Nat.le_refl _) _).alloc (by simp [World.setCell]; omega) _⟩
        case measure => simp [intOf] <;> omega
      · have hd1 : decide (e.Kind < 0) = false := by simp; omega
        have hd2 : decide (17 < e.Kind) = false := by simp; omega
        go_wp2_with fail
        go_roundw
        case rel => exact ⟨q + 1, by omega, by go_num, HK4.out.keep (Below.heap_alloc _ _ _ (by simp [World.setCell]; omega)), (HB2.out.setCell (p := ⟨w.heap.size, k, none⟩) (Nat.le_refl _) _).alloc (by simp [World.setCell]; omega) _⟩
        case measure => simp [intOf] <;> omega
    · obtain rfl : q = l.length := by omega
      clear h'
      go_wp2_with fail
      go_ret2
      have hA : Arr (Fresh w wr) wr (some ⟨w.heap.size, 0, none⟩) (countTo l l.length) := HK2.out.arr (fun z hz => by
        obtain ⟨k, hk⟩ := List.getElem?_of_mem hz
        have := countTo_le hk
        unfold I64; omega) (by rw [countTo_len]; unfold maxLen; omega) ⟨Nat.le_refl _, hgs⟩
      have hx : RetLE w (countRes l) (.returned (.tuple #[.slice (some ⟨w.heap.size, 0, none⟩) (countTo l l.length).length 18, .int .i64 0])) wr := .ok HE.out HB2.out hA (by rw [countTo_len]; omega) (by simp)
      rw [countTo_len] at hx
      exact hx
end Go.Proofs.Ytimlhjjdaggiiaa
