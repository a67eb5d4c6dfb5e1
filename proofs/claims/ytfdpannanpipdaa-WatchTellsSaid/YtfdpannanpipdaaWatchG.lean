/- What was in a slot: the program's last write ahead of a place, walked. -/
import Derived.Test.YtfdpannanpipdaaBackE
import Derived.Test.YtfdpannanpipdaaWatchF
import Derived.Test.YtfdpannanpipdaaSlices
set_option linter.unusedVariables false
set_option linter.unusedSimpArgs false
namespace Go.Proofs.Ytfdpannanpipdaa.watch
open Go.Bk Go.RowKit Go.Shelf

attribute [local go_sem] Oper.semAt_some

def lastRes (l : List Api.Event) (p s at' : Int) : Option Nat := if errE l.length at' = 0 then lastW l p s at'.toNat else none

/-- What the call's own first cells hold. -/
structure C5 (w W : World) (p s v2 : Int) (v3 : Bool) (v4 : Int) : Prop where
  a : Blk W w.heap.size 3 [.int .i64 p]
  b : Blk W (w.heap.size + 1) 3 [.int .i64 s]
  c : Blk W (w.heap.size + 1 + 1) 3 [.int .i64 v2]
  d : Blk W (w.heap.size + 1 + 1 + 1) 4 [.bool v3]
  e : Blk W (w.heap.size + 1 + 1 + 1 + 1) 25 [.int .i64 v4]
  below : Below w.heap.size w W
theorem C5.kept {w W W' : World} {p s v2 v4 : Int} {v3 : Bool} (h : C5 w W p s v2 v3 v4) (hb : Below w.heap.size W W') (hc : CellsKept W W') : C5 w W' p s v2 v3 v4 :=
  ⟨hc _ _ _ h.a, hc _ _ _ h.b, hc _ _ _ h.c, hc _ _ _ h.d, hc _ _ _ h.e, h.below.trans hb⟩
theorem C5.lt {w W : World} {p s v2 v4 : Int} {v3 : Bool} (h : C5 w W p s v2 v3 v4) : w.heap.size + 5 ≤ W.heap.size := h.e.lt
theorem cellsKept_below {W W' : World} (h : Below W.heap.size W W') : CellsKept W W' := fun k e cs hk => hk.keep (h.block k hk.lt)
theorem C5.later {w W W' : World} {p s v2 v4 : Int} {v3 : Bool} (h : C5 w W p s v2 v3 v4) (hb : Below W.heap.size W W') : C5 w W' p s v2 v3 v4 := h.kept (hb.mono (by have := h.lt; omega)) (cellsKept_below hb)
theorem C5.new (w : World) (p s : Int) : C5 w (((((w.alloc (.cells #[.int .i64 p] 3)).alloc (.cells #[.int .i64 s] 3)).alloc (.cells #[.int .i64 0] 3)).alloc (.cells #[.bool false] 4)).alloc (.cells #[.int .i64 0] 25)) p s 0 false 0 := by
  have st : ∀ (W : World) (o : Obj), CellsKept W (W.alloc o) := fun W o => cellsKept_below ((Below.refl _ _).alloc (Nat.le_refl _) o)
  refine ⟨?_, ?_, ?_, ?_, ?_, ?_⟩
  · exact st _ _ _ _ _ (st _ _ _ _ _ (st _ _ _ _ _ (st _ _ _ _ _ (blk_new w [.int .i64 p] 3))))
  · exact st _ _ _ _ _ (st _ _ _ _ _ (st _ _ _ _ _ (blk_new' (cs := [.int .i64 s]) (by simp))))
  · exact st _ _ _ _ _ (st _ _ _ _ _ (blk_new' (cs := [.int .i64 0]) (by simp)))
  · exact st _ _ _ _ _ (blk_new' (cs := [.bool false]) (by simp))
  · exact blk_new' (cs := [.int .i64 0]) (by simp)
  · exact below_new (below_new (below_new (below_new (below_new (Below.refl _ _) _) _) _) _) _
theorem C5.put {w W : World} {p s v2 v4 : Int} {v3 : Bool} (h : C5 w W p s v2 v3 v4) (u2 u4 : Int) (u3 : Bool) :
    C5 w (((W.setCell ⟨w.heap.size + 1 + 1, 0, none⟩ (.int .i64 u2)).setCell ⟨w.heap.size + 1 + 1 + 1, 0, none⟩ (.bool u3)).setCell ⟨w.heap.size + 1 + 1 + 1 + 1, 0, none⟩ (.int .i64 u4)) p s u2 u3 u4 := by
  refine ⟨?_, ?_, ?_, ?_, ?_, ?_⟩
  · exact h.a.keep ((set_other _ (by omega)).trans ((set_other _ (by omega)).trans (set_other _ (by omega))))
  · exact h.b.keep ((set_other _ (by omega)).trans ((set_other _ (by omega)).trans (set_other _ (by omega))))
  · exact Blk.keep ((set_other _ (by omega)).trans (set_other _ (by omega))) (h.c.set 0 (.int .i64 u2))
  · exact Blk.keep (set_other _ (by omega)) (Blk.set (Blk.keep (set_other _ (by omega)) h.d) 0 (.bool u3))
  · exact Blk.set (Blk.keep ((set_other _ (by omega)).trans (set_other _ (by omega))) h.e) 0 (.int .i64 u4)
  · exact below_set (below_set (below_set h.below (by omega) _) (by omega) _) (by omega) _
theorem keepsFrom_put {w W : World} (u v z : Value) : KeepsFrom (w.heap.size + 6) W (((W.setCell ⟨w.heap.size + 1 + 1, 0, none⟩ u).setCell ⟨w.heap.size + 1 + 1 + 1, 0, none⟩ v).setCell ⟨w.heap.size + 1 + 1 + 1 + 1, 0, none⟩ z) :=
  keepsFrom_of (by simp [World.setCell]) (fun k hk _ => (set_other _ (by omega)).trans ((set_other _ (by omega)).trans (set_other _ (by omega))))
def evL (x : Api.Event) : List Value := [.int .i64 x.Kind, .int .i64 x.Step, .int .i64 x.Thread, .int .i64 x.Fn, .int .i64 x.At, .int .i64 x.Line, .int .i64 x.A, .int .i64 x.B, .int .i64 x.Val.Kind, .int .i64 x.Val.N, .int .i64 x.Old.Kind, .int .i64 x.Old.N]
/-- No write of the slot among those that have come. -/
def missed (p s : Int) (pre : List (Nat × Api.Event)) : Prop := ∀ y ∈ pre, isAt y.2 4 p s = false
theorem lastW_none {l : List Api.Event} {p s : Int} : ∀ {m : Nat}, (∀ j x, j < m → l[j]? = some x → isAt x 4 p s = false) → lastW l p s m = none
  | 0, _ => rfl
  | m + 1, h => by
    rw [lastW]
    have ih := lastW_none (m := m) (fun j x hj hx => h j x (by omega) hx)
    split
    · rename_i x hx
      rw [h m x (by omega) hx]
      exact ih
    · exact ih
theorem lastW_some {l : List Api.Event} {p s : Int} {i : Nat} {x : Api.Event} (hx : l[i]? = some x) (hi : isAt x 4 p s = true) : ∀ {m : Nat}, i < m → (∀ j y, i < j → j < m → l[j]? = some y → isAt y 4 p s = false) → lastW l p s m = some i
  | 0, h, _ => by omega
  | m + 1, h, ha => by
    rw [lastW]
    by_cases e : i = m
    · subst e; rw [hx]; simp [hi]
    · have ih := lastW_some hx hi (m := m) (by omega) (fun j y h1 h2 hy => ha j y h1 (by omega) hy)
      split
      · rename_i y hy
        rw [ha m y (by omega) (by omega) hy]
        exact ih
      · exact ih
theorem back_take {l : List Api.Event} {n m j : Nat} {x : Api.Event} (hn : l.length = n) (hmn : m ≤ n) (hj : j < m) (hx : l[j]? = some x) : backOf (l.take m) (m - 1 - j) = (j, x) :=
  backOf_at (n := m) (by rw [List.length_take, hn]; omega) (by omega) (by rw [List.getElem?_take_of_lt hj]; exact hx)
theorem missed_none {l : List Api.Event} {n m : Nat} {p s : Int} (hn : l.length = n) (hmn : m ≤ n) (h : missed p s (upto (backOf (l.take m)) m)) : lastW l p s m = none :=
  lastW_none fun j x hj hx => by
    have := h (j, x) (mem_upto.2 ⟨m - 1 - j, by omega, back_take hn hmn hj hx⟩)
    exact this
theorem missed_some {l : List Api.Event} {n m k : Nat} {p s : Int} {ini : List (Nat × Api.Event)} {last : Nat × Api.Event} (hn : l.length = n) (hmn : m ≤ n) (h1 : upto (backOf (l.take m)) k = ini ++ [last]) (h2 : missed p s ini) (h3 : isAt last.2 4 p s = true) (hk : k ≤ m) : lastW l p s m = some last.1 := by
  obtain ⟨k', rfl⟩ : ∃ k', k = k' + 1 := by
    cases k with
    | zero => simp [upto] at h1
    | succ k' => exact ⟨k', rfl⟩
  rw [upto_succ] at h1
  obtain ⟨rfl, e5⟩ := List.append_inj' h1 rfl
  obtain rfl : backOf (l.take m) k' = last := by simpa using e5
  obtain ⟨x, hx⟩ : ∃ x, l[m - 1 - k']? = some x := ⟨_, List.getElem?_eq_getElem (by omega)⟩
  have e : backOf (l.take m) k' = (m - 1 - k', x) := by
    have := back_take (j := m - 1 - k') hn hmn (by omega) hx
    rwa [show m - 1 - (m - 1 - k') = k' by omega] at this
  rw [e] at h3 ⊢
  refine lastW_some hx h3 (by omega) fun j y hj1 hj2 hy => ?_
  exact h2 (j, y) (mem_upto.2 ⟨m - 1 - j, by omega, back_take hn hmn hj2 hy⟩)
def lastI (w : World) (p s : Int) (pre : List (Nat × Api.Event)) (W : World) : Prop := missed p s pre ∧ C5 w W p s 0 false 0 ∧ w.heap.size + 6 ≤ W.heap.size
def lastX (w : World) (p s : Int) (c : Code) (pre : List (Nat × Api.Event)) (W : World) : Prop :=
  c = .ret ∧ (∃ ini last, pre = ini ++ [last] ∧ missed p s ini ∧ isAt last.2 4 p s = true ∧ C5 w W p s last.1 true 0) ∧ w.heap.size + 6 ≤ W.heap.size

set_option maxRecDepth 100000 in
set_option maxHeartbeats 2000000 in
theorem Last_any {S : Nat → Prop} {w : World} {a : Option Addr} {c n : Nat} {l : List Api.Event} {p s at' : Int} (hn : l.length = n) (h : Arr S w a l) (hS : ∀ b, S b → b < w.heap.size) (hc : n ≤ c) (hnil : a = none → c = 0) (hp : I64 at') :
    Calls Try.prog 12 #[.slice a n c, .int .i64 p, .int .i64 s, .int .i64 at'] w fun e w' => e = .returned (.tuple #[.int .i64 (((lastRes l p s at').getD 0 : Nat) : Int), .bool (lastRes l p s at').isSome, .int .i64 (errE n at')]) ∧ Below w.heap.size w w' := by
  have hsm := h.small
  rw [hn] at hsm
  unfold maxLen at hsm
  have HN := Lib.hid hn
  have HA : Hid (∀ w', Below w.heap.size w w' → Arr S w' a l) := fun w' hb => h.keep (fun b hb' => hb.block b (hS b hb'))
  have HS := Lib.hid hS
  have HL : Hid (errE n at' ≠ 0 → lastRes l p s at' = none) := by show _ → _; intro h9; unfold lastRes; rw [if_neg (by rw [HN.out]; exact h9)]
  clear hn h hS
  refine (callsIn_wide (n := 10)).1 ?_
  refine callsIn_of_wp_marks Try.func12 rfl trivial ?_ rfl
  simp only [Try.ntmps12, List.size_toArray, List.length_cons, List.length_nil, Nat.reduceAdd, Nat.reduceSub, Array.replicate_succ, Array.replicate_zero, List.push_toArray, List.append_toArray, List.nil_append, List.cons_append]
  obtain ⟨W0, hW0⟩ : ∃ W0, W0 = ((((w.alloc (.cells #[.int .i64 p] 3)).alloc (.cells #[.int .i64 s] 3)).alloc (.cells #[.int .i64 0] 3)).alloc (.cells #[.bool false] 4)).alloc (.cells #[.int .i64 0] 25) := ⟨_, rfl⟩
  have HC0 : Hid (C5 w W0 p s 0 false 0) := by rw [hW0]; exact C5.new w p s
  have hs0 : W0.heap.size = w.heap.size + 5 := by rw [hW0]; simp
  gi_wp2_with fail
  refine ⟨trivial, (callsIn_wide.2 (check_any _ a n c at' (by omega))).mono ?_⟩
  rintro e w' ⟨rfl, rfl⟩
  by_cases he : errE n at' = 0
  · have h0 : (errE n at' != 0) = false := by simpa using he
    have hr : 0 ≤ at' ∧ at' ≤ n ∧ n ≤ 200 := by
      unfold errE at he
      split at he
      · cases he
      · split at he
        · cases he
        · omega
    obtain ⟨m, hm⟩ : ∃ m : Nat, at' = m := ⟨at'.toNat, by omega⟩
    subst hm
    have hmn : m ≤ n := by omega
    have HLS : Hid (lastRes l p s (m : Int) = lastW l p s m) := by show _ = _; unfold lastRes; rw [if_pos (by rw [HN.out]; exact he)]; simp
    have HE0 : Hid (errE n (m : Int) = 0) := he
    rw [he]
    clear HL hr he
    have hsl : ∀ w : World, (Instr.slice 22 (.slice a n c) none (some (.int .i64 (m : Int))) none).run Try.prog w = .ok (.slice a m c) w := fun w => run_slice_head (z := 12) Try.underlying22 (by kernel_rfl) a n c m (by omega) w
    gi_wp2_with fail
    rw [← hW0]
    have HS0 := Lib.hid hs0
    clear hW0 hs0
    refine ⟨trivial, (callsIn_wide.2 (back_any _ _ _ _)).mono ?_⟩
    rintro e w' ⟨rfl, rfl⟩
    gi_wp2_with fail
    have HB1 : Hid (Below w.heap.size w (W0.alloc (.cells #[.slice a m c] 22))) := below_new HC0.out.below _
    have HA1 : Hid (Arr S (W0.alloc (.cells #[.slice a m c] 22)) a (l.take m)) := arr_take (HA.out _ HB1.out) m
    have HC1 : Hid (C5 w (W0.alloc (.cells #[.slice a m c] 22)) p s 0 false 0) := HC0.out.later ((Below.refl _ _).alloc (Nat.le_refl _) _)
    have hs1 : (W0.alloc (.cells #[.slice a m c] 22)).heap.size = w.heap.size + 6 := by simp [HS0.out]
    have HT : Hid (∀ b, (S b ∨ b = W0.heap.size) → b < (W0.alloc (.cells #[.slice a m c] 22)).heap.size) := fun b hb => by
      rcases hb with hb | rfl
      · have := HS.out b hb; omega
      · simp
    refine wp_range (by omega) (gf := 110) (lb := #[.pointer (some ⟨W0.heap.size, 0, none⟩)]) rfl (enters_of Try.func110 (by kernel_rfl) rfl)
      (back_stops Fence.wide 9 trivial rfl (by omega) W0.heap.size m c a (l.take m) (by rw [List.length_take, HN.out]; omega) (by omega) _ (fun b hb => HT.out b (.inl hb)) (blk_new W0 [.slice a m c] 22).cell0 (by simp) HA1.out) HT.out (Below.refl _ _) (fun _ => rfl)
      (lastI w p s) (lastX w p s) (fun pre W W' h hb hc => ⟨h.1, h.2.1.kept (hb.mono (by omega)) hc, Nat.le_trans h.2.2 hb.size⟩)
      (fun c pre W W' h hb hc => ⟨h.1, by obtain ⟨ini, last, h1, h2, h3, h4⟩ := h.2.1; exact ⟨ini, last, h1, h2, h3, h4.kept (hb.mono (by omega)) hc⟩, Nat.le_trans h.2.2 hb.size⟩)
      (fun pre W h => by have := h.2.2; omega) (fun c pre W h => by have := h.2.2; omega) ⟨fun y hy => by simp at hy, HC1.out, by omega⟩
      (fun x a' W => ∃ Bx, w.heap.size + 6 ≤ Bx ∧ Blk W Bx 41 (evL x.2) ∧ a' = { tmps := #[.slice a n c, .int .i64 p, .int .i64 s, .int .i64 (m : Int), undef, .pointer (some ⟨w.heap.size, 0, none⟩), .pointer (some ⟨w.heap.size + 1, 0, none⟩), undef, .pointer (some ⟨w.heap.size + 1 + 1, 0, none⟩), .pointer (some ⟨w.heap.size + 1 + 1 + 1, 0, none⟩), .pointer (some ⟨w.heap.size + 1 + 1 + 1 + 1, 0, none⟩), .int .i64 0, .int .i64 (x.1 : Int), .pointer (some ⟨Bx, 0, none⟩), .slice a n c, .int .i64 (m : Int), .int .i64 0, .int .i64 0, .bool false, undef, .slice a n c, .int .i64 (m : Int), .slice a m c, .func (.func 110) #[] #[.pointer (some ⟨W0.heap.size, 0, none⟩)], .int .i64 (x.1 : Int), evV x.2, undef, undef, undef, undef, undef, undef], defers := [] })
      (fun x a' W W' h hc => by obtain ⟨Bx, h1, h2, h3⟩ := h; exact ⟨Bx, h1, hc _ _ _ h2, h3⟩) ?assign ?body ?done ?stop
    case assign =>
      rintro lp pre ⟨i, x⟩ W K ⟨hm, hc5, hs6⟩ hK
      gi_wp2
      exact hK _ _ (keepsFrom_below ((Below.refl _ _).alloc (Nat.le_refl _) _)) (Keeps.below (n := W.heap.size) (fun b hb => Nat.lt_of_lt_of_le (HT.out b hb) (by omega)) ((Below.refl _ _).alloc (Nat.le_refl _) _)) ⟨hm, hc5.later ((Below.refl _ _).alloc (Nat.le_refl _) _), by simp; omega⟩ ⟨W.heap.size, hs6, blk_new W (evL x) 41, rfl⟩
    case body =>
      rintro lp pre ⟨i, x⟩ a' W hl ⟨hm, hc5, hs6⟩ ⟨Bx, hBx, hblk, rfl⟩ hlt
      have HM := Lib.hid hm; have HC5 := Lib.hid hc5
      have c0 := hc5.a.cell0
      have c1 := hc5.b.cell0
      have e0 := hblk.cell (j := 0) rfl
      have e1 := hblk.cell (j := 1) rfl
      have e2 := hblk.cell (j := 2) rfl
      have e3 := hblk.cell (j := 3) rfl
      have e4 := hblk.cell (j := 4) rfl
      have e5 := hblk.cell (j := 5) rfl
      have e6 := hblk.cell (j := 6) rfl
      have e7 := hblk.cell (j := 7) rfl
      have e8 := hblk.cell (j := 8) rfl
      have e9 := hblk.cell (j := 9) rfl
      have e10 := hblk.cell (j := 10) rfl
      have e11 := hblk.cell (j := 11) rfl
      have HW : Hid (∀ W1, Below W.heap.size W W1 → C5 w W1 p s 0 false 0 ∧ Below W.heap.size W W1 ∧ w.heap.size + 6 ≤ W1.heap.size) := fun W1 hb => ⟨hc5.later hb, hb, Nat.le_trans hs6 hb.size⟩
      have HCW : Hid (∀ w, Calls Try.prog 66 #[slotV p s, evV x] w fun e w' => e = .returned (.bool (isAt x 4 p s)) ∧ Below w.heap.size w w') := fun w => writes_any w p s x
      clear hm hc5 hblk
      cases hi : isAt x 4 p s with
      | true =>
        rw [hi] at HCW
        have HI := Lib.hid hi
        clear hi
        gi_wp2_with (refine ⟨trivial, ?_⟩; gi_at_call 66; refine (CallsIn.inRound lp (callsIn_wide.2 (HCW.out _))).mono ?_; rintro e W1 ⟨rfl, hb⟩; obtain ⟨h5, hb1, hs6'⟩ := HW.out _ hb; have H5 := Lib.hid h5; have HB1 := Lib.hid hb1; have k2 := h5.c.cell0; have k3 := h5.d.cell0; have k4 := h5.e.cell0; have f2 := h5.c.frozen 0; have f3 := h5.d.frozen 0; have f4 := h5.e.frozen 0; clear hb h5 hb1)
        exact ⟨by rw [hs1]; exact (keepsFrom_below HB1.out).trans (keepsFrom_put _ _ _), rfl, ⟨pre, (i, x), rfl, HM.out, HI.out, H5.out.put _ _ _⟩, by simp [World.setCell]; omega⟩
      | false =>
        rw [hi] at HCW
        have HI := Lib.hid hi
        clear hi
        gi_wp2_with (refine ⟨trivial, ?_⟩; gi_at_call 66; refine (CallsIn.inRound lp (callsIn_wide.2 (HCW.out _))).mono ?_; rintro e W1 ⟨rfl, hb⟩; obtain ⟨h5, hb1, hs6'⟩ := HW.out _ hb; have H5 := Lib.hid h5; have HB1 := Lib.hid hb1; clear hb h5 hb1)
        exact ⟨keepsFrom_below HB1.out, Keeps.below (n := W.heap.size) (fun b hb => Nat.lt_of_lt_of_le (HT.out b hb) (by omega)) HB1.out, fun y hy => by
          rcases List.mem_append.1 hy with h | h
          · exact HM.out y h
          · simp at h; rw [h]; exact HI.out, H5.out, hs6'⟩
    case done =>
      rintro D xs W hD rfl ⟨hm, hc5, hs6⟩ hK
      have H5 := Lib.hid hc5; have HM := Lib.hid hm; have HK := Lib.hid hK
      have k2 := hc5.c.cell0; have k3 := hc5.d.cell0; have k4 := hc5.e.cell0; have f2 := hc5.c.frozen 0; have f3 := hc5.d.frozen 0; have f4 := hc5.e.frozen 0
      clear hm hc5 hK
      gi_wp2
      have hK2 := HK.out
      have hK3 : (((W.setCell ⟨w.heap.size + 1 + 1, 0, none⟩ (.int .i64 0)).setCell ⟨w.heap.size + 1 + 1 + 1, 0, none⟩ (.bool false)).setCell ⟨w.heap.size + 1 + 1 + 1 + 1, 0, none⟩ (.int .i64 0)).heap[D]? = some (.deferred (some [])) := ((set_other _ (by omega)).trans ((set_other _ (by omega)).trans (set_other _ (by omega)))).trans hK2
      refine leaves_taken hK3 ?_
      have h6 := (H5.out.put 0 0 false)
      have h7 : C5 w ((((W.setCell ⟨w.heap.size + 1 + 1, 0, none⟩ (.int .i64 0)).setCell ⟨w.heap.size + 1 + 1 + 1, 0, none⟩ (.bool false)).setCell ⟨w.heap.size + 1 + 1 + 1 + 1, 0, none⟩ (.int .i64 0)).putObj D (.deferred none)) p s 0 false 0 := ⟨cells_taken hK3 _ _ _ h6.a, cells_taken hK3 _ _ _ h6.b, cells_taken hK3 _ _ _ h6.c, cells_taken hK3 _ _ _ h6.d, cells_taken hK3 _ _ _ h6.e, below_taken h6.below (by omega)⟩
      exact ⟨.tuple #[.int .i64 0, .bool false, .int .i64 0], by simp [results, Try.f12, go_sem, h7.c.cell0, h7.d.cell0, h7.e.cell0], by rw [HLS.out, missed_none HN.out hmn HM.out, HE0.out]; rfl, h7.below⟩
    case stop =>
      rintro D c' pre W hD ⟨k, hk, rfl⟩ ⟨rfl, ⟨ini, last, h1, h2, h3, h4⟩, hs6⟩ hK
      have HL2 := Lib.hid (missed_some HN.out hmn h1 h2 h3 hk)
      have H4 := Lib.hid h4; have HK := Lib.hid hK
      clear h1 h2 h3 h4 hK
      gi_wp2
      have hK3 := HK.out
      refine leaves_taken hK3 ?_
      have h7 : C5 w (W.putObj D (.deferred none)) p s last.1 true 0 := ⟨cells_taken hK3 _ _ _ H4.out.a, cells_taken hK3 _ _ _ H4.out.b, cells_taken hK3 _ _ _ H4.out.c, cells_taken hK3 _ _ _ H4.out.d, cells_taken hK3 _ _ _ H4.out.e, below_taken H4.out.below (by omega)⟩
      exact ⟨.tuple #[.int .i64 (last.1 : Int), .bool true, .int .i64 0], by simp [results, Try.f12, go_sem, h7.c.cell0, h7.d.cell0, h7.e.cell0], by rw [HLS.out, HL2.out, HE0.out]; rfl, h7.below⟩
  · have h0 : (errE n at' != 0) = true := by simpa using he
    have HLN := Lib.hid (HL.out he)
    have HE := Lib.hid he
    clear he HL
    clear hW0 hs0
    gi_wp2
    exact ⟨.tuple #[.int .i64 0, .bool false, .int .i64 (errE n at')], by simp [results, Try.f12, go_sem], by rw [HLN.out]; rfl, below_new (below_new (below_new (below_new (below_new (Below.refl _ _) _) _) _) _) _⟩
end Go.Proofs.Ytfdpannanpipdaa.watch
