/- A number's bytes, the highest first, walked. -/
import Derived.Test.YtfdpannanpipdaaBackB
import Derived.Test.YtfdpannanpipdaaMake
set_option linter.unusedVariables false
set_option linter.unusedSimpArgs false
namespace Go.Proofs.Ytfdpannanpipdaa.spool
open Go.Bk Go.RowKit Go.Shelf

attribute [local go_sem] Oper.semAt_some

def bigStep (m : Nat) (s : List UInt8 × Nat) (x : Fin m × UInt8) : List UInt8 × Nat := (s.1.set x.1.val (UInt8.ofNat (s.2 % 256)), s.2 / 256)
def bigSt (m N0 : Nat) (pre : List (Fin m × UInt8)) : List UInt8 × Nat := pre.foldl (bigStep m) (List.replicate m 0, N0)
theorem bigSt_snoc (m N0 : Nat) (pre : List (Fin m × UInt8)) (x : Fin m × UInt8) : bigSt m N0 (pre ++ [x]) = bigStep m (bigSt m N0 pre) x := by simp [bigSt]
theorem bigSt_len (m N0 : Nat) (pre : List (Fin m × UInt8)) : (bigSt m N0 pre).1.length = m := by
  rcases nil_or_snoc pre with rfl | ⟨p, x, rfl⟩
  · simp [bigSt]
  · rw [bigSt_snoc]
    have : ∀ (p : List (Fin m × UInt8)) (s : List UInt8 × Nat), s.1.length = m → (p.foldl (bigStep m) s).1.length = m := by
      intro p
      induction p with
      | nil => intro s h; exact h
      | cons y p ih => intro s h; rw [List.foldl_cons]; exact ih _ (by simp [bigStep, h])
    simp [bigStep, this p (List.replicate m 0, N0) (by simp), bigSt]
theorem bigSt_small {m N0 : Nat} (h : N0 < 18446744073709551616) (pre : List (Fin m × UInt8)) : (bigSt m N0 pre).2 < 18446744073709551616 := by
  have : ∀ (p : List (Fin m × UInt8)) (s : List UInt8 × Nat), s.2 < 18446744073709551616 → (p.foldl (bigStep m) s).2 < 18446744073709551616 := by
    intro p
    induction p with
    | nil => intro s h; exact h
    | cons y p ih => intro s h; rw [List.foldl_cons]; exact ih _ (by show s.2 / 256 < _; omega)
  exact this pre _ h
theorem bigSt_upto {m N0 : Nat} : ∀ {k : Nat} {pre : List (Fin m × UInt8)}, k ≤ m → pre.map (fun x => x.1.val) = upto (fun j => m - 1 - j) k → bigSt m N0 pre = (List.replicate (m - k) 0 ++ beOf k N0, N0 / 256 ^ k)
  | 0, pre, _, h => by
    have : pre = [] := by simpa [upto] using h
    subst this
    simp [bigSt, beOf]
  | k + 1, pre, hk, h => by
    rw [upto_succ] at h
    rcases nil_or_snoc pre with rfl | ⟨p, x, rfl⟩
    · simp at h
    · rw [List.map_append] at h
      obtain ⟨h1, h2⟩ := List.append_inj' h rfl
      have ih := bigSt_upto (N0 := N0) (k := k) (by omega) h1
      simp at h2
      rw [bigSt_snoc, ih]
      unfold bigStep
      dsimp only
      rw [h2, show m - k = (m - 1 - k) + 1 by omega, List.replicate_succ', List.append_assoc]
      refine Prod.ext ?_ ?_
      · have := be_set (List.replicate (m - 1 - k) 0) [] (m - 1 - k) k (N0)
        rw [show m - (k + 1) = m - 1 - k by omega, beOf_front]
        rw [List.set_append_right _ _ (by simp)]
        simp
      · show N0 / 256 ^ k / 256 = N0 / 256 ^ (k + 1)
        rw [Nat.div_div_eq_div_mul, Nat.pow_succ]
theorem bigSt_done {m N0 : Nat} {pre : List (Fin m × UInt8)} (h : pre.map (fun x => x.1.val) = upto (fun j => m - 1 - j) m) : (bigSt m N0 pre).1 = beOf m N0 := by
  rw [bigSt_upto (Nat.le_refl _) h]
  simp

theorem conv_low (n : Nat) : IntKind.u8.wrap (n : Int) = ((UInt8.ofNat (n % 256)).toNat : Int) := by
  rw [ofNat_toNat_mod]
  simp [IntKind.wrap, IntKind.signed, IntKind.bits]
/-- The call's own first cells, and the row. -/
structure BigW (w : World) (m : Nat) (W : World) (bs : List UInt8) (N : Nat) : Prop where
  num : Blk W w.heap.size 119 [.int .u64 (N : Int)]
  row : Blk W (w.heap.size + 1) 5 (bytesV bs)
  out : Blk W (w.heap.size + 1 + 1) 44 [.slice (some ⟨w.heap.size + 1, 0, none⟩) m m]
  box : Blk W (w.heap.size + 1 + 1 + 1) 44 [.slice (some ⟨w.heap.size + 1, 0, none⟩) m m]
  len : bs.length = m
  below : Below w.heap.size w W
theorem BigW.kept {w W W' : World} {m N : Nat} {bs : List UInt8} (h : BigW w m W bs N) (hb : Below w.heap.size W W') (hc : CellsKept W W') : BigW w m W' bs N :=
  ⟨hc _ _ _ h.num, hc _ _ _ h.row, hc _ _ _ h.out, hc _ _ _ h.box, h.len, h.below.trans hb⟩
theorem BigW.shape {w W : World} {m N : Nat} {bs : List UInt8} (h : BigW w m W bs N) : Shape (w.heap.size + 1 + 1 + 1) (w.heap.size + 1) m m W := ⟨bs, h.len, h.row, h.box.cell0, h.box⟩
theorem set_otherB {w : World} {g b k : Nat} (v : Value) (h : b ≠ g) : (w.setCell ⟨g, k, none⟩ v).heap[b]? = w.heap[b]? := by
  simp only [World.setCell]
  rw [Array.getElem?_modify, if_neg (fun e => h e.symm)]
theorem BigW.put {w W : World} {m N : Nat} {bs : List UInt8} (h : BigW w m W bs N) (i : Nat) (u : UInt8) (N' : Nat) : BigW w m ((W.setCell ⟨w.heap.size + 1, i, none⟩ (.int .u8 u.toNat)).setCell ⟨w.heap.size, 0, none⟩ (.int .u64 (N' : Int))) (bs.set i u) N' := by
  refine ⟨?_, ?_, ?_, ?_, by simp [h.len], ?_⟩
  · exact Blk.set (Blk.keep (set_otherB _ (by omega)) h.num) 0 _
  · have := h.row.set i (.int .u8 u.toNat)
    rw [bytesV_set] at this
    exact Blk.keep (set_otherB _ (by omega)) this
  · exact Blk.keep ((set_otherB _ (by omega)).trans (set_otherB _ (by omega))) h.out
  · exact Blk.keep ((set_otherB _ (by omega)).trans (set_otherB _ (by omega))) h.box
  · exact (h.below.setCell (p := ⟨w.heap.size + 1, i, none⟩) (by simp) _).setCell (p := ⟨w.heap.size, 0, none⟩) (by simp) _
def bigI (w : World) (m N0 : Nat) (pre : List (Fin m × UInt8)) (W : World) : Prop := BigW w m W (bigSt m N0 pre).1 (bigSt m N0 pre).2 ∧ w.heap.size + 4 ≤ W.heap.size
def BigPost (w : World) (m N0 : Nat) (e : Ending) (w' : World) : Prop := ∃ g, e = .returned (.slice (some ⟨g, 0, none⟩) m m) ∧ w.heap.size ≤ g ∧ Blk w' g 5 (bytesV (beOf m N0)) ∧ Below w.heap.size w w'

set_option maxRecDepth 100000 in
set_option maxHeartbeats 2000000 in
theorem big_any {w : World} {m N0 : Nat} (hm : m ≤ 100) (hN : N0 < 18446744073709551616) : Calls Try.prog 70 #[.int .u64 (N0 : Int), .int .i64 (m : Int)] w (BigPost w m N0) := by
  have hm9 : m ≤ 9223372036854775807 := by omega
  refine (callsIn_wide (n := 10)).1 ?_
  refine callsIn_of_wp_marks Try.func70 rfl trivial ?_ rfl
  simp only [Try.ntmps70, List.size_toArray, List.length_cons, List.length_nil, Nat.reduceAdd, Nat.reduceSub, Array.replicate_succ, Array.replicate_zero, List.push_toArray, List.append_toArray, List.nil_append, List.cons_append]
  obtain ⟨i0, hi, hz0, hz1, hz2⟩ := info_parts Try.info5
  have hmk : ∀ u : World, (Instr.makeSlice 44 (.int .i64 (m : Int)) (.int .i64 (m : Int))).run Try.prog u = .ok (.slice (some ⟨u.heap.size, 0, none⟩) m m) (u.alloc (.cells (madeCells #[.int .u8 0] m) 5)) := fun u => by
    have h := run_make (P := Try.prog) u 44 5 i0 (.int .u8 0) Try.underlying44 hi hz0 .i64 .i64 (m : Int) (m : Int) (by omega) (Int.le_refl _) (by rw [hz2]; omega) (by omega)
    simpa [hz1, Value.cells] using h
  clear hi hz0 hz1 hz2
  gi_wp2_with fail
  obtain ⟨W0, hW0⟩ : ∃ W0, W0 = ((w.alloc (.cells #[.int .u64 (N0 : Int)] 119)).alloc (.cells (madeCells #[.int .u8 0] m) 5)).alloc (.cells #[.slice (some ⟨w.heap.size + 1, 0, none⟩) m m] 44) := ⟨_, rfl⟩
  have hs0 : W0.heap.size = w.heap.size + 3 := by rw [hW0]; simp
  have HC1 : Hid (BigW w m (W0.alloc (.cells #[.slice (some ⟨w.heap.size + 1, 0, none⟩) m m] 44)) (bigSt m N0 []).1 (bigSt m N0 []).2) := by
    have st : ∀ (W : World) (o : Obj), CellsKept W (W.alloc o) := fun W o k e cs h => h.below ((Below.refl _ _).alloc (Nat.le_refl _) o) h.lt
    have hmade : (madeCells #[Value.int .u8 0] m) = (bytesV (List.replicate m 0)).toArray := by
      apply Array.ext
      · simp [madeCells, bytesV]
      · intro i h1 h2
        simp [madeCells, Nat.mod_one, bytesV]
    rw [hmade] at hW0
    refine ⟨?_, ?_, ?_, ?_, by simp [bigSt], ?_⟩
    · rw [hW0]; exact st _ _ _ _ _ (st _ _ _ _ _ (st _ _ _ _ _ (blk_new w [.int .u64 (N0 : Int)] 119)))
    · rw [hW0]; exact st _ _ _ _ _ (st _ _ _ _ _ (blk_new' (cs := bytesV (List.replicate m 0)) (by simp)))
    · rw [hW0]; exact st _ _ _ _ _ (blk_new' (cs := [.slice (some ⟨w.heap.size + 1, 0, none⟩) m m]) (by simp))
    · exact blk_new' (cs := [.slice (some ⟨w.heap.size + 1, 0, none⟩) m m]) (by rw [hs0])
    · rw [hW0]; exact ((((Below.refl _ _).alloc (Nat.le_refl _) _).alloc (by simp) _).alloc (by simp; omega) _).alloc (by simp; omega) _
  rw [← hW0]
  have HS0 := Lib.hid hs0
  clear hW0 hs0
  refine ⟨trivial, (callsIn_wide.2 (backB_any _ _ _ _)).mono ?_⟩
  rintro e w' ⟨rfl, rfl⟩
  gi_wp2_with fail
  have hs1 : (W0.alloc (.cells #[.slice (some ⟨w.heap.size + 1, 0, none⟩) m m] 44)).heap.size = w.heap.size + 4 := by simp [HS0.out]
  rw [HS0.out]
  refine wp_rangeK (by omega) (gf := 135) (lb := #[.pointer (some ⟨w.heap.size + 3, 0, none⟩)]) rfl (enters_of Try.func135 (by kernel_rfl) rfl)
    (backB_stops Fence.wide 9 trivial rfl (by omega) (w.heap.size + 1 + 1 + 1) (w.heap.size + 1) m m (by omega) _ HC1.out.shape) shapeK_t (fun W l o o' _ h1 h2 _ => shapeK_b W l o o' h1 h2) (Below.refl _ _) (fun _ => rfl)
    (bigI w m N0) (fun _ _ _ => False) (fun pre W W' h hb hc => ⟨h.1.kept (hb.mono (by omega)) hc, Nat.le_trans h.2 hb.size⟩) (fun _ _ _ _ h _ _ => h) (fun pre W h => by have := h.2; omega) (fun _ _ _ h => h.elim) ⟨HC1.out, by omega⟩
    (fun x a' W => a' = { tmps := #[.int .u64 (N0 : Int), .int .i64 (m : Int), .pointer (some ⟨w.heap.size, 0, none⟩), undef, .slice none 0 0, .pointer (some ⟨w.heap.size + 1 + 1, 0, none⟩), .int .i64 (x.1.val : Int), .int .i64 (m : Int), .slice (some ⟨w.heap.size + 1, 0, none⟩) m m, .slice (some ⟨w.heap.size + 1, 0, none⟩) m m, .func (.func 135) #[] #[.pointer (some ⟨w.heap.size + 3, 0, none⟩)], .int .i64 (x.1.val : Int), .int .u8 x.2.toNat, undef, undef, undef, undef, undef, undef, undef, undef], defers := [] })
    (fun x a' W W' h _ => h) ?assign ?body ?done ?stop
  case assign =>
    rintro lp pre ⟨i, x⟩ W K ⟨hc, hs⟩ hK
    gi_wp2
    exact hK _ _ (KeepsFrom.refl _ _) (fun h => h) ⟨hc, hs⟩ rfl
  case body =>
    rintro lp pre ⟨i, x⟩ a' W hl ⟨hc, hs⟩ rfl hlt
    obtain ⟨q, hq⟩ : ∃ q, q = (bigSt m N0 pre).2 := ⟨_, rfl⟩
    have hqs := bigSt_small (m := m) hN pre
    rw [← hq] at hc hqs
    have HQ := Lib.hid hq
    have HC := Lib.hid hc
    have c0 := hc.num.cell0
    have c2 := hc.out.cell0
    have f0 := hc.num.frozen 0
    have hil := i.2
    have hlen := hc.len
    obtain ⟨u, hu⟩ : ∃ u : UInt8, (bigSt m N0 pre).1[i.val]? = some u := ⟨_, List.getElem?_eq_getElem (by rw [hlen]; exact hil)⟩
    have c1 : W.cell? ⟨w.heap.size + 1, i.val, none⟩ = some (.int .u8 u.toNat) := hc.row.cell (by simp [bytesV, hu])
    have f1 := hc.row.frozen i.val
    have hcv := conv_low q
    clear hc hq hlen hu
    gi_wp2
    have e1 : (q : Int) % 256 = ((UInt8.ofNat (q % 256)).toNat : Int) := by rw [ofNat_toNat_mod]; omega
    have e2 : (q : Int) / 256 = ((q / 256 : Nat) : Int) := by omega
    rw [e1, e2]
    have hp := HC.out.put i.val (UInt8.ofNat (q % 256)) (q / 256)
    exact ⟨keepsFrom_of (by simp [World.setCell]) (fun k hk _ => (set_otherB _ (by omega)).trans (set_otherB _ (by omega))), fun _ => hp.shape, ⟨by rw [bigSt_snoc]; unfold bigStep; dsimp only; rw [← HQ.out]; exact hp, by simp [World.setCell]; omega⟩⟩
  case done =>
    rintro D xs W hD hxs ⟨hc, hs⟩ hK
    have hdn := bigSt_done (N0 := N0) hxs
    rw [hdn] at hc
    have HC := Lib.hid hc; have HK := Lib.hid hK
    have c2 := hc.out.cell0
    clear hc hK hdn
    gi_wp2
    refine leaves_taken HK.out ?_
    exact ⟨.slice (some ⟨w.heap.size + 1, 0, none⟩) m m, by simp [results, Try.f70, go_sem], ⟨w.heap.size + 1, rfl, by omega, cells_taken HK.out _ _ _ HC.out.row, below_taken HC.out.below (by omega)⟩⟩
  case stop =>
    rintro D c pre W _ _ h _
    exact h.elim
end Go.Proofs.Ytfdpannanpipdaa.spool
