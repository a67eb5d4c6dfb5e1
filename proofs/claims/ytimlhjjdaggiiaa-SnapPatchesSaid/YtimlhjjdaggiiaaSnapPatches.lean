/- Patched answers just what the document says. -/
import Derived.Test.YtimlhjjdaggiiaaSame
import Derived.Test.YtimlhjjdaggiiaaSnapPatPlain
namespace Go.Proofs.Ytimlhjjdaggiiaa
open Go.Bk Go.RowKit

/-- What is handed back: a list of its own and an error. -/
def ListErr (w : World) (R : List Int → Int → Prop) (e : Ending) (w' : World) : Prop :=
  ∃ a out cap err, e = .returned (.tuple #[.slice a (List.length out) cap, .int .i64 err]) ∧ Arr (Fresh w w') w' a out ∧ R out err ∧ Below w.heap.size w w'

set_option maxRecDepth 100000 in
theorem patched_imp {S1 S2 : Nat → Prop} {w : World} {a1 a2 : Option Addr} {c1 c2 : Nat} {xs : List Int} {l : List Api.DPatch} {n : Int} (h1 : Arr S1 w a1 xs) (h2 : Arr S2 w a2 l) (hS1 : ∀ b, S1 b → b < w.heap.size) (hS2 : ∀ b, S2 b → b < w.heap.size) :
    Calls Try.prog 15 #[.slice a1 xs.length c1, .int .i64 n, .slice a2 l.length c2] w (ListErr w (PatchIs xs n l)) := by
  by_cases hn0 : n < 0
  · go_enter Try.func15, Try.ntmps15
    go_wp2
    go_ret2
    exact ⟨none, [], 0, 1, rfl, Arr.nil _ _ _, ⟨fun _ => ⟨rfl, rfl⟩, fun h => by omega, fun h => by omega⟩, Below.refl _ _⟩
  by_cases hn1 : 20000 < n
  · go_enter Try.func15, Try.ntmps15
    go_wp2
    go_ret2
    exact ⟨none, [], 0, 1, rfl, Arr.nil _ _ _, ⟨fun _ => ⟨rfl, rfl⟩, fun h h' => by omega, fun h h' => by omega⟩, Below.refl _ _⟩
  obtain ⟨m, rfl⟩ : ∃ m : Nat, n = m := ⟨n.toNat, by omega⟩
  have hm1 := h1.small; have hm2 := h2.small
  unfold maxLen at hm1 hm2
  obtain ⟨n2, hn2⟩ : ∃ n, n = l.length := ⟨_, rfl⟩
  rw [← hn2] at hm2; rw [← hn2]
  have H2 := Lib.hid hn2
  clear hn2
  go_enter Try.func15, Try.ntmps15
  go_wp2_with (first
    | (with_reducible refine wp_make rfl rfl Try.underlying22 Try.info3 rfl rfl rfl (by omega) (by unfold maxLen; omega) fun w1 hblk hbel hsz => ?_)
    | (rw [show List.replicate m (Value.int IntKind.i64 0) = (List.replicate m 0).map (Value.int .i64) by simp] at hblk
       with_reducible refine wp_copy_ints rfl rfl Try.underlying22 Try.info3 rfl (by simp) rfl hblk (h1.keep (S := S1) ?_) hbel (Nat.le_refl _) fun w2 v hblk2 hbel2 hsz2 hoth => ?_))
  case refine_1 => exact fun b hb => hbel.block b (hS1 b hb)
  go_loopw [9, 25] (fun last i w' => ∃ (k : Nat) (z : Int), k ≤ n2 ∧ i = .int .i64 k ∧ last = .int .i64 z ∧ lastIs l k z ∧ okTo m l k ∧ Below w.heap.size w w' ∧ Blk w' w.heap.size 3 ((outTo xs m l k).map (Value.int .i64))) (fun _ i _ => n2 - (intOf i).toNat)
  case atStart => exact ⟨0, -1, Nat.zero_le _, rfl, rfl, .inl ⟨rfl, rfl⟩, fun i x hi => by omega, hbel2, by simpa [outTo_zero] using hblk2⟩
  case round =>
    obtain ⟨k, z, hk, rfl, rfl, hlast, hok, hbw, hbk⟩ := hrel
    have HB := Lib.hid hbw; have HK := Lib.hid hbk; have HO := Lib.hid hok; have HL := Lib.hid hlast
    have hz0 := lastIs_nonneg hok hlast
    clear hbw hbk hok hlast hblk hbel hblk2 hbel2 hoth
    by_cases hlt : k < n2
    · obtain ⟨x, hx⟩ : ∃ x, l[k]? = some x := ⟨_, List.getElem?_eq_getElem (by have := H2.out; omega)⟩
      obtain ⟨b, off, rfl, hb, q1, q2, i1, i2⟩ := api_DPatch_elem (h2.keep (w' := wr) (fun b hb => HB.out.block b (hS2 b hb))) hx
      have HX := Lib.hid hx; clear hx
      have hbl : b < wr.heap.size := by have := hS2 b hb; have := HB.out.size; omega
      have hgl : w.heap.size < wr.heap.size := HK.out.lt
      obtain ⟨A, V⟩ := x
      unfold I64 at i1 i2
      clear h1 h2
      by_cases hz : A ≤ z
      · go_wp2
        go_ret2
        exact ⟨none, [], 0, 3, rfl, Arr.nil _ _ _, ⟨fun h => by omega, fun _ _ h => absurd h (okTo_low HL.out (by have := H2.out; omega) HX.out hz), fun _ _ _ => ⟨rfl, rfl⟩⟩, HB.out.alloc HB.out.size _⟩
      · by_cases hm : (m : Int) ≤ A
        · go_wp2
          go_ret2
          exact ⟨none, [], 0, 3, rfl, Arr.nil _ _ _, ⟨fun h => by omega, fun _ _ h => absurd h (okTo_high (by have := H2.out; omega) HX.out hm), fun _ _ _ => ⟨rfl, rfl⟩⟩, HB.out.alloc HB.out.size _⟩
        · obtain ⟨q, rfl⟩ : ∃ q : Nat, A = q := ⟨A.toNat, by omega⟩
          have hq : q < (outTo xs m l k).length := by rw [outTo_length]; omega
          have hc : wr.cell? ⟨w.heap.size, q, none⟩ = some (.int .i64 (outTo xs m l k)[q]) := HK.out.cell (by simp [hq])
          have hf : wr.frozen? ⟨w.heap.size, q, none⟩ = false := HK.out.frozen q
          have hqm : q < m := by omega
          go_wp2
          go_roundw
          case rel =>
            refine ⟨k + 1, q, by omega, by go_num, rfl, .inr ⟨by omega, _, HX.out, rfl⟩, okTo_succ HO.out HL.out HX.out (by show z < (q : Int); omega) (by show (q : Int) < m; omega), (HB.out.setCell (p := ⟨w.heap.size, q, none⟩) (Nat.le_refl _) _).alloc (by have := HB.out.size; simpa [World.setCell] using this) _, ?_⟩
            rw [outTo_succ HX.out, List.map_set]
            exact (HK.out.set q _).keep (Below.heap_alloc _ _ _ (by simpa [World.setCell] using hgl))
          case measure => simp [intOf]; omega
    · have hkn : k = l.length := by have := H2.out; omega
      go_wp2
      go_ret2
      have hlen := outTo_length xs m l k
      refine ⟨some ⟨w.heap.size, 0, none⟩, outTo xs m l k, m, 0, by rw [hlen]; rfl, ?_, ⟨fun h => by omega, fun _ _ _ => ⟨by rw [hkn]; rfl, rfl⟩, fun _ _ h => absurd (hkn ▸ HO.out) h⟩, HB.out⟩
      exact HK.out.arr (outTo_range h1 h2 m k) (by rw [hlen]; unfold maxLen; omega) ⟨Nat.le_refl _, HK.out.lt⟩

end Go.Proofs.Ytimlhjjdaggiiaa
