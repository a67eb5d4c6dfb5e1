/- What was in a slot: the program's value, walked. -/
import Derived.Test.YtfdpannanpipdaaWatchG
set_option linter.unusedVariables false
set_option linter.unusedSimpArgs false
namespace Go.Proofs.Ytfdpannanpipdaa.watch
open Go.Bk Go.RowKit Go.Shelf

attribute [local go_sem] Oper.semAt_some

def progValue (l : List Api.Event) (p s at' : Int) : Option Api.Val := if errE l.length at' = 0 then valueOf l p s at'.toNat else none
/-- What the call's own first cells hold. -/
structure C4 (w W : World) (p s : Int) (v : Api.Val) (v3 : Bool) (v4 : Int) : Prop where
  a : Blk W w.heap.size 24 [.int .i64 v.Kind, .int .i64 v.N]
  b : Blk W (w.heap.size + 1) 4 [.bool v3]
  c : Blk W (w.heap.size + 1 + 1) 25 [.int .i64 v4]
  d : Blk W (w.heap.size + 1 + 1 + 1) 108 [.int .i64 p, .int .i64 s]
  below : Below w.heap.size w W
theorem C4.kept {w W W' : World} {p s v4 : Int} {v : Api.Val} {v3 : Bool} (h : C4 w W p s v v3 v4) (hb : Below w.heap.size W W') (hc : CellsKept W W') : C4 w W' p s v v3 v4 :=
  ⟨hc _ _ _ h.a, hc _ _ _ h.b, hc _ _ _ h.c, hc _ _ _ h.d, h.below.trans hb⟩
theorem C4.lt {w W : World} {p s v4 : Int} {v : Api.Val} {v3 : Bool} (h : C4 w W p s v v3 v4) : w.heap.size + 4 ≤ W.heap.size := h.d.lt
theorem C4.later {w W W' : World} {p s v4 : Int} {v : Api.Val} {v3 : Bool} (h : C4 w W p s v v3 v4) (hb : Below W.heap.size W W') : C4 w W' p s v v3 v4 := h.kept (hb.mono (by have := h.lt; omega)) (cellsKept_below hb)
theorem C4.new (w : World) (p s : Int) : C4 w ((((w.alloc (.cells #[.int .i64 0, .int .i64 0] 24)).alloc (.cells #[.bool false] 4)).alloc (.cells #[.int .i64 0] 25)).alloc (.cells #[.int .i64 p, .int .i64 s] 108)) p s ⟨0, 0⟩ false 0 := by
  have st : ∀ (W : World) (o : Obj), CellsKept W (W.alloc o) := fun W o => cellsKept_below ((Below.refl _ _).alloc (Nat.le_refl _) o)
  refine ⟨?_, ?_, ?_, ?_, ?_⟩
  · exact st _ _ _ _ _ (st _ _ _ _ _ (st _ _ _ _ _ (blk_new w [.int .i64 0, .int .i64 0] 24)))
  · exact st _ _ _ _ _ (st _ _ _ _ _ (blk_new' (cs := [.bool false]) (by simp)))
  · exact st _ _ _ _ _ (blk_new' (cs := [.int .i64 0]) (by simp))
  · exact blk_new' (cs := [.int .i64 p, .int .i64 s]) (by simp)
  · exact below_new (below_new (below_new (below_new (Below.refl _ _) _) _) _) _
/-- The three results, stored. -/
abbrev putW (w W : World) (k n : Int) (b : Bool) (e : Int) : World := (((W.setCell ⟨w.heap.size, 0, none⟩ (.int .i64 k)).setCell ⟨w.heap.size, 1, none⟩ (.int .i64 n)).setCell ⟨w.heap.size + 1, 0, none⟩ (.bool b)).setCell ⟨w.heap.size + 1 + 1, 0, none⟩ (.int .i64 e)
theorem C4.put {w W : World} {p s v4 : Int} {v : Api.Val} {v3 : Bool} (h : C4 w W p s v v3 v4) (k n : Int) (u3 : Bool) (u4 : Int) : C4 w (putW w W k n u3 u4) p s ⟨k, n⟩ u3 u4 := by
  refine ⟨?_, ?_, ?_, ?_, ?_⟩
  · exact Blk.keep ((set_other _ (by omega)).trans (set_other _ (by omega))) ((h.a.set 0 (.int .i64 k)).set 1 (.int .i64 n))
  · exact Blk.keep (set_other _ (by omega)) (Blk.set (Blk.keep ((set_other _ (by omega)).trans (set_other _ (by omega))) h.b) 0 (.bool u3))
  · exact Blk.set (Blk.keep ((set_other _ (by omega)).trans ((set_other _ (by omega)).trans (set_other _ (by omega)))) h.c) 0 (.int .i64 u4)
  · exact h.d.keep ((set_other _ (by omega)).trans ((set_other _ (by omega)).trans ((set_other _ (by omega)).trans (set_other _ (by omega)))))
  · exact below_set (below_set (below_set (below_set h.below (by omega) _) (by omega) _) (by omega) _) (by omega) _
theorem put_other {w W : World} {k n e : Int} {b : Bool} {D : Nat} (hD : w.heap.size + 3 ≤ D) : (putW w W k n b e).heap[D]? = W.heap[D]? :=
  (set_other _ (by omega)).trans ((set_other _ (by omega)).trans ((set_other _ (by omega)).trans (set_other _ (by omega))))
theorem keepsFrom_put4 {w W : World} (k n : Int) (b : Bool) (e : Int) : KeepsFrom (w.heap.size + 5) W (putW w W k n b e) :=
  keepsFrom_of (by simp [World.setCell]) (fun j hj _ => put_other (by omega))
def missedV (p s : Int) (pre : List (Nat × Api.Event)) : Prop := ∀ y ∈ pre, hits y.2 p s = false
def valI (w : World) (p s : Int) (pre : List (Nat × Api.Event)) (W : World) : Prop := missedV p s pre ∧ C4 w W p s ⟨0, 0⟩ false 0 ∧ w.heap.size + 5 ≤ W.heap.size
def valX (w : World) (p s : Int) (c : Code) (pre : List (Nat × Api.Event)) (W : World) : Prop :=
  c = .ret ∧ (∃ ini last, pre = ini ++ [last] ∧ missedV p s ini ∧ hits last.2 p s = true ∧ C4 w W p s last.2.Val true 0) ∧ w.heap.size + 5 ≤ W.heap.size
theorem known_none {l : List Api.Event} {p s : Int} : ∀ {m : Nat}, (∀ j x, j < m → l[j]? = some x → hits x p s = false) → known l p s m = none
  | 0, _ => rfl
  | m + 1, h => by
    rw [known]
    have ih := known_none (m := m) (fun j x hj hx => h j x (by omega) hx)
    split
    · rename_i x hx
      rw [h m x (by omega) hx]
      exact ih
    · exact ih
theorem known_some {l : List Api.Event} {p s : Int} {i : Nat} {x : Api.Event} (hx : l[i]? = some x) (hi : hits x p s = true) : ∀ {m : Nat}, i < m → (∀ j y, i < j → j < m → l[j]? = some y → hits y p s = false) → known l p s m = some x.Val
  | 0, h, _ => by omega
  | m + 1, h, ha => by
    rw [known]
    by_cases e : i = m
    · subst e; rw [hx]; simp [hi]
    · have ih := known_some hx hi (m := m) (by omega) (fun j y h1 h2 hy => ha j y h1 (by omega) hy)
      split
      · rename_i y hy
        rw [ha m y (by omega) (by omega) hy]
        exact ih
      · exact ih
theorem missedV_none {l : List Api.Event} {n m : Nat} {p s : Int} (hn : l.length = n) (hmn : m ≤ n) (h : missedV p s (upto (backOf (l.take m)) m)) : known l p s m = none :=
  known_none fun j x hj hx => by
    have := h (j, x) (mem_upto.2 ⟨m - 1 - j, by omega, back_take hn hmn hj hx⟩)
    exact this
theorem missedV_some {l : List Api.Event} {n m k : Nat} {p s : Int} {ini : List (Nat × Api.Event)} {last : Nat × Api.Event} (hn : l.length = n) (hmn : m ≤ n) (h1 : upto (backOf (l.take m)) k = ini ++ [last]) (h2 : missedV p s ini) (h3 : hits last.2 p s = true) (hk : k ≤ m) : known l p s m = some last.2.Val := by
  obtain ⟨k', rfl⟩ : ∃ k', k = k' + 1 := by
    cases k with
    | zero => simp [upto] at h1
    | succ k' => exact ⟨k', rfl⟩
  rw [upto_succ] at h1
  obtain ⟨rfl, e5⟩ := List.append_inj' h1 rfl
  obtain rfl : backOf (l.take m) k' = last := by simpa using e5
  obtain ⟨x, hx⟩ : ∃ x, l[m - 1 - k']? = some x := ⟨_, List.getElem?_eq_getElem (by omega)⟩
  have e : backOf (l.take m) k' = (m - 1 - k', x) := by
    have := back_take (j := m - 1 - k') hn hmn (by omega) hx
    rwa [show m - 1 - (m - 1 - k') = k' by omega] at this
  rw [e] at h3 ⊢
  refine known_some hx h3 (by omega) fun j y hj1 hj2 hy => ?_
  exact h2 (j, y) (mem_upto.2 ⟨m - 1 - j, by omega, back_take hn hmn hj2 hy⟩)

set_option maxRecDepth 100000 in
set_option maxHeartbeats 4000000 in
theorem Value_any {S : Nat → Prop} {w : World} {a : Option Addr} {c n : Nat} {l : List Api.Event} {p s at' : Int} (hn : l.length = n) (h : Arr S w a l) (hS : ∀ b, S b → b < w.heap.size) (hc : n ≤ c) (hp : I64 at') :
    Calls Try.prog 11 #[.slice a n c, .int .i64 p, .int .i64 s, .int .i64 at'] w fun e w' => e = .returned (.tuple #[optV (progValue l p s at'), .bool (progValue l p s at').isSome, .int .i64 (errE n at')]) ∧ Below w.heap.size w w' := by
  have hsm := h.small
  rw [hn] at hsm
  unfold maxLen at hsm
  have HN := Lib.hid hn
  have HA : Hid (∀ w', Below w.heap.size w w' → Arr S w' a l) := fun w' hb => h.keep (fun b hb' => hb.block b (hS b hb'))
  have HS := Lib.hid hS
  have HL : Hid (errE n at' ≠ 0 → progValue l p s at' = none) := by show _ → _; intro h9; unfold progValue; rw [if_neg (by rw [HN.out]; exact h9)]
  clear hn h hS
  refine (callsIn_wide (n := 10)).1 ?_
  refine callsIn_of_wp_marks Try.func11 rfl trivial ?_ rfl
  simp only [Try.ntmps11, List.size_toArray, List.length_cons, List.length_nil, Nat.reduceAdd, Nat.reduceSub, Array.replicate_succ, Array.replicate_zero, List.push_toArray, List.append_toArray, List.nil_append, List.cons_append]
  gi_wp2_with fail
  refine ⟨trivial, (callsIn_wide.2 (check_any _ a n c at' (by omega))).mono ?_⟩
  rintro e w' ⟨rfl, rfl⟩
  by_cases he : errE n at' = 0
  · have h0 : (errE n at' != 0) = false := by simpa using he
    have hr : 0 ≤ at' ∧ at' ≤ n ∧ n ≤ 200 := by
      unfold errE at he
      split at he
      · cases he
      · split at he
        · cases he
        · omega
    obtain ⟨m, hm⟩ : ∃ m : Nat, at' = m := ⟨at'.toNat, by omega⟩
    subst hm
    have hmn : m ≤ n := by omega
    have HLS : Hid (progValue l p s (m : Int) = valueOf l p s m) := by show _ = _; unfold progValue; rw [if_pos (by rw [HN.out]; exact he)]; simp
    have HE0 : Hid (errE n (m : Int) = 0) := he
    rw [he]
    clear HL hr he
    have hsl : ∀ w : World, (Instr.slice 22 (.slice a n c) none (some (.int .i64 (m : Int))) none).run Try.prog w = .ok (.slice a m c) w := fun w => run_slice_head (z := 12) Try.underlying22 (by kernel_rfl) a n c m (by omega) w
    gi_wp2_with fail
    obtain ⟨W0, hW0⟩ : ∃ W0, W0 = (((w.alloc (.cells #[.int .i64 0, .int .i64 0] 24)).alloc (.cells #[.bool false] 4)).alloc (.cells #[.int .i64 0] 25)).alloc (.cells #[.int .i64 p, .int .i64 s] 108) := ⟨_, rfl⟩
    have HC0 : Hid (C4 w W0 p s ⟨0, 0⟩ false 0) := by rw [hW0]; exact C4.new w p s
    have HS0 : Hid (W0.heap.size = w.heap.size + 4) := by show _ = _; rw [hW0]; simp
    rw [← hW0]
    clear hW0
    refine ⟨trivial, (callsIn_wide.2 (back_any _ _ _ _)).mono ?_⟩
    rintro e w' ⟨rfl, rfl⟩
    gi_wp2_with fail
    have HB1 : Hid (Below w.heap.size w (W0.alloc (.cells #[.slice a m c] 22))) := below_new HC0.out.below _
    have HA1 : Hid (Arr S (W0.alloc (.cells #[.slice a m c] 22)) a (l.take m)) := arr_take (HA.out _ HB1.out) m
    have HC1 : Hid (C4 w (W0.alloc (.cells #[.slice a m c] 22)) p s ⟨0, 0⟩ false 0) := HC0.out.later ((Below.refl _ _).alloc (Nat.le_refl _) _)
    have hs1 : (W0.alloc (.cells #[.slice a m c] 22)).heap.size = w.heap.size + 5 := by simp [HS0.out]
    have HT : Hid (∀ b, (S b ∨ b = W0.heap.size) → b < (W0.alloc (.cells #[.slice a m c] 22)).heap.size) := fun b hb => by
      rcases hb with hb | rfl
      · have := HS.out b hb; omega
      · simp
    have HF : Hid (∀ W v v3 v4, C4 w W p s v v3 v4 → W.cell? ⟨w.heap.size, 0, none⟩ = some (.int .i64 v.Kind) ∧ W.cell? ⟨w.heap.size, 1, none⟩ = some (.int .i64 v.N) ∧ W.cell? ⟨w.heap.size + 1, 0, none⟩ = some (.bool v3) ∧ W.cell? ⟨w.heap.size + 1 + 1, 0, none⟩ = some (.int .i64 v4) ∧ W.cell? ⟨w.heap.size + 1 + 1 + 1, 0, none⟩ = some (.int .i64 p) ∧ W.cell? ⟨w.heap.size + 1 + 1 + 1, 1, none⟩ = some (.int .i64 s) ∧
        W.frozen? ⟨w.heap.size, 0, none⟩ = false ∧ W.frozen? ⟨w.heap.size, 1, none⟩ = false ∧ W.frozen? ⟨w.heap.size + 1, 0, none⟩ = false ∧ W.frozen? ⟨w.heap.size + 1 + 1, 0, none⟩ = false) := fun W v v3 v4 h =>
      ⟨h.a.cell (j := 0) rfl, h.a.cell (j := 1) rfl, h.b.cell0, h.c.cell0, h.d.cell (j := 0) rfl, h.d.cell (j := 1) rfl, h.a.frozen 0, h.a.frozen 1, h.b.frozen 0, h.c.frozen 0⟩
    refine wp_range (by omega) (gf := 110) (lb := #[.pointer (some ⟨W0.heap.size, 0, none⟩)]) rfl (enters_of Try.func110 (by kernel_rfl) rfl)
      (back_stops Fence.wide 9 trivial rfl (by omega) W0.heap.size m c a (l.take m) (by rw [List.length_take, HN.out]; omega) (by omega) _ (fun b hb => HT.out b (.inl hb)) (blk_new W0 [.slice a m c] 22).cell0 (by simp) HA1.out) HT.out (Below.refl _ _) (fun _ => rfl)
      (valI w p s) (valX w p s) (fun pre W W' h hb hc => ⟨h.1, h.2.1.kept (hb.mono (by omega)) hc, Nat.le_trans h.2.2 hb.size⟩)
      (fun c pre W W' h hb hc => ⟨h.1, by obtain ⟨ini, last, h1, h2, h3, h4⟩ := h.2.1; exact ⟨ini, last, h1, h2, h3, h4.kept (hb.mono (by omega)) hc⟩, Nat.le_trans h.2.2 hb.size⟩)
      (fun pre W h => by have := h.2.2; omega) (fun c pre W h => by have := h.2.2; omega) ⟨fun y hy => by simp at hy, HC1.out, by omega⟩
      (fun x a' W => ∃ Bx, w.heap.size + 5 ≤ Bx ∧ Blk W Bx 41 (evL x.2) ∧ a' = { tmps := #[.slice a n c, .int .i64 p, .int .i64 s, .int .i64 (m : Int), undef, undef, undef, undef, .pointer (some ⟨w.heap.size, 0, none⟩), .pointer (some ⟨w.heap.size + 1, 0, none⟩), .pointer (some ⟨w.heap.size + 1 + 1, 0, none⟩), .int .i64 0, .pointer (some ⟨w.heap.size + 1 + 1 + 1, 0, none⟩), undef, .pointer (some ⟨Bx, 0, none⟩), undef, undef, undef, undef, undef, undef, .slice a n c, .int .i64 (m : Int), .int .i64 0, .int .i64 0, .bool false, undef, undef, .int .i64 p, .int .i64 s, .agg #[.int .i64 p, .int .i64 s], .slice a n c, .int .i64 (m : Int), .slice a m c, .func (.func 110) #[] #[.pointer (some ⟨W0.heap.size, 0, none⟩)], .int .i64 (x.1 : Int), evV x.2, undef, undef, undef, undef, undef, undef, undef, undef, undef, undef, undef, undef, undef, undef, undef, undef, undef, undef, undef, undef, undef, undef, undef, undef, undef, undef, undef, undef, undef, undef, undef, undef, undef, undef, undef, undef, undef, undef, undef, undef, undef, undef, undef, undef], defers := [] })
      (fun x a' W W' h hc => by obtain ⟨Bx, h1, h2, h3⟩ := h; exact ⟨Bx, h1, hc _ _ _ h2, h3⟩) ?assign ?body ?done ?stop
    case assign =>
      rintro lp pre ⟨i, x⟩ W K ⟨hm, hc5, hs6⟩ hK
      gi_wp2
      exact hK _ _ (keepsFrom_below ((Below.refl _ _).alloc (Nat.le_refl _) _)) (Keeps.below (n := W.heap.size) (fun b hb => Nat.lt_of_lt_of_le (HT.out b hb) (by omega)) ((Below.refl _ _).alloc (Nat.le_refl _) _)) ⟨hm, hc5.later ((Below.refl _ _).alloc (Nat.le_refl _) _), by simp; omega⟩ ⟨W.heap.size, hs6, blk_new W (evL x) 41, rfl⟩
    case body =>
      rintro lp pre ⟨i, x⟩ a' W hl ⟨hm, hc5, hs6⟩ ⟨Bx, hBx, hblk, rfl⟩ hlt
      have HM := Lib.hid hm
      have e0 := hblk.cell (j := 0) rfl
      have e1 := hblk.cell (j := 1) rfl
      have e2 := hblk.cell (j := 2) rfl
      have e3 := hblk.cell (j := 3) rfl
      have e4 := hblk.cell (j := 4) rfl
      have e5 := hblk.cell (j := 5) rfl
      have e6 := hblk.cell (j := 6) rfl
      have e7 := hblk.cell (j := 7) rfl
      have e8 := hblk.cell (j := 8) rfl
      have e9 := hblk.cell (j := 9) rfl
      have e10 := hblk.cell (j := 10) rfl
      have e11 := hblk.cell (j := 11) rfl
      have HW : Hid (∀ W1, Below W.heap.size W W1 → (∀ o, C4 w (W1.alloc o) p s ⟨0, 0⟩ false 0) ∧ Below W.heap.size W W1 ∧ (∀ o, (W1.alloc o).cell? ⟨Bx, 8, none⟩ = some (.int .i64 x.Val.Kind)) ∧ (∀ o, (W1.alloc o).cell? ⟨Bx, 9, none⟩ = some (.int .i64 x.Val.N)) ∧ w.heap.size + 5 ≤ W1.heap.size) := fun W1 hb => by
        have hk : ∀ o, Blk (W1.alloc o) Bx 41 (evL x) := fun o => (hblk.below hb hblk.lt).below ((Below.refl _ _).alloc (Nat.le_refl _) o) (Nat.lt_of_lt_of_le hblk.lt hb.size)
        exact ⟨fun o => (hc5.later hb).later ((Below.refl _ _).alloc (Nat.le_refl _) o), hb, fun o => (hk o).cell (j := 8) rfl, fun o => (hk o).cell (j := 9) rfl, Nat.le_trans hs6 hb.size⟩
      have HFA : Hid (∀ W1 : World, (∀ o, C4 w (W1.alloc o) p s ⟨0, 0⟩ false 0) → (∀ o, (W1.alloc o).cell? ⟨w.heap.size, 0, none⟩ = some (.int .i64 0)) ∧ (∀ o, (W1.alloc o).cell? ⟨w.heap.size, 1, none⟩ = some (.int .i64 0)) ∧ (∀ o, (W1.alloc o).cell? ⟨w.heap.size + 1, 0, none⟩ = some (.bool false)) ∧ (∀ o, (W1.alloc o).cell? ⟨w.heap.size + 1 + 1, 0, none⟩ = some (.int .i64 0)) ∧ (∀ o, (W1.alloc o).cell? ⟨w.heap.size + 1 + 1 + 1, 0, none⟩ = some (.int .i64 p)) ∧ (∀ o, (W1.alloc o).cell? ⟨w.heap.size + 1 + 1 + 1, 1, none⟩ = some (.int .i64 s)) ∧
          (∀ o, (W1.alloc o).frozen? ⟨w.heap.size, 0, none⟩ = false) ∧ (∀ o, (W1.alloc o).frozen? ⟨w.heap.size, 1, none⟩ = false) ∧ (∀ o, (W1.alloc o).frozen? ⟨w.heap.size + 1, 0, none⟩ = false) ∧ (∀ o, (W1.alloc o).frozen? ⟨w.heap.size + 1 + 1, 0, none⟩ = false)) := fun W1 h =>
        ⟨fun o => (HF.out _ _ _ _ (h o)).1, fun o => (HF.out _ _ _ _ (h o)).2.1, fun o => (HF.out _ _ _ _ (h o)).2.2.1, fun o => (HF.out _ _ _ _ (h o)).2.2.2.1, fun o => (HF.out _ _ _ _ (h o)).2.2.2.2.1, fun o => (HF.out _ _ _ _ (h o)).2.2.2.2.2.1, fun o => (HF.out _ _ _ _ (h o)).2.2.2.2.2.2.1, fun o => (HF.out _ _ _ _ (h o)).2.2.2.2.2.2.2.1, fun o => (HF.out _ _ _ _ (h o)).2.2.2.2.2.2.2.2.1, fun o => (HF.out _ _ _ _ (h o)).2.2.2.2.2.2.2.2.2⟩
      have HOF : Hid (∀ w, Calls Try.prog 65 #[evV x] w fun e w' => e = .returned (.tuple #[slotV x.A x.B, .bool (isRW x)]) ∧ Below w.heap.size w w') := fun w => of_any w x
      have HHE := Lib.hid (hits_eq x p s)
      clear hm hc5 hblk
      gi_wp2_with fail
      refine ⟨trivial, (CallsIn.inRound lp (callsIn_wide.2 (HOF.out _))).mono ?_⟩
      rintro e W1 ⟨rfl, hb⟩
      obtain ⟨h4, hb1, e8', e9', hs5'⟩ := HW.out _ hb
      have HB1 := Lib.hid hb1; have H4 := Lib.hid h4
      obtain ⟨k0, k1, k2, k3, k4, k5, f0, f1, f2, f3⟩ := HFA.out _ h4
      clear hb h4 hb1 e0 e1 e2 e3 e4 e5 e6 e7 e8 e9 e10 e11 HOF HW
      cases hr : isRW x <;> by_cases hA : x.A = p <;> by_cases hB : x.B = s
      all_goals
        rw [hr] at HHE
        have HR := Lib.hid hr
        clear hr
        gi_wp2
        first
        | exact ⟨keepsFrom_below (HB1.out.trans (((Below.refl _ _).alloc (Nat.le_refl _) _).mono HB1.out.size)), Keeps.below (n := W.heap.size) (fun b hb => Nat.lt_of_lt_of_le (HT.out b hb) (by omega)) (HB1.out.trans (((Below.refl _ _).alloc (Nat.le_refl _) _).mono HB1.out.size)), fun y hy => by
            rcases List.mem_append.1 hy with h | h
            · exact HM.out y h
            · simp at h; rw [h]; show hits x p s = false; rw [HHE.out]; simp [hA, hB], H4.out _, by simp; omega⟩
        | exact ⟨by rw [hs1]; exact (keepsFrom_below (HB1.out.trans (((Below.refl _ _).alloc (Nat.le_refl _) _).mono HB1.out.size))).trans (keepsFrom_put4 _ _ _ _), rfl, ⟨pre, (i, x), rfl, HM.out, by show hits x p s = true; rw [HHE.out]; simp [hA, hB], (H4.out _).put _ _ _ _⟩, by simp [World.setCell]; omega⟩
    case done =>
      rintro D xs W hD rfl ⟨hm, hc5, hs6⟩ hK
      have HKN := Lib.hid (missedV_none HN.out hmn hm)
      have H4 := Lib.hid hc5; have HK := Lib.hid hK
      have hDl := (Array.getElem?_eq_some_iff.1 hK).1
      clear hm hc5 hK
      obtain ⟨a', ha'⟩ : ∃ a', a' = (if c = m then a else a.map (·.add (m * 12))) := ⟨_, rfl⟩
      have hsl2 : ∀ w : World, (Instr.slice 22 (.slice a n c) (some (.int .i64 (m : Int))) none none).run Try.prog w = .ok (.slice a' (n - m) (c - m)) w := fun w => by rw [ha']; exact run_slice_tail (z := 12) Try.underlying22 (by kernel_rfl) a n c m hmn hc w
      have HAD : Hid (∀ W, Below w.heap.size w W → Arr S W a' (l.drop m)) := fun W hb => by rw [ha']; exact (HA.out W hb).from c m (by rw [HN.out]; exact hmn) (by rw [HN.out]; exact hc)
      have HVF : Hid (progValue l p s (m : Int) = firstIn p s (l.drop m)) := by show _ = _; rw [HLS.out]; unfold valueOf; rw [HKN.out]; simp
      obtain ⟨q, hq⟩ : ∃ q, q = n - m := ⟨_, rfl⟩
      rw [← hq] at hsl2
      have hq2 : m + q = n := by omega
      clear ha' hq
      gi_wp2
      gi_loopw [54] (fun i W' => ∃ k : Nat, k ≤ q ∧ i = .int .i64 k ∧ firstIn p s (l.drop m) = firstIn p s (l.drop (m + k)) ∧ C4 w W' p s ⟨0, 0⟩ false 0 ∧ W'.heap[D]? = some (.deferred (some [])) ∧ w.heap.size + 5 ≤ W'.heap.size) (fun i _ => q - (intOf i).toNat)
      case atStart => exact ⟨0, Nat.zero_le _, rfl, rfl, H4.out, HK.out, hs6⟩
      case round =>
        obtain ⟨k, hk, rfl, hfi, hc4, hKr, hs5⟩ := hrel
        have HFI := Lib.hid hfi; have HC4 := Lib.hid hc4; have HKR := Lib.hid hKr
        have HBr := Lib.hid hc4.below
        clear hfi hc4 hKr H4 HK
        by_cases hlt : k < q
        · obtain ⟨x, hx⟩ : ∃ x, l[m + k]? = some x := ⟨_, List.getElem?_eq_getElem (by have := HN.out; omega)⟩
          have HFD := Lib.hid (firstIn_drop hx p s)
          obtain ⟨b1, o1, rfl, -, q0, q1, q2, q3, q4, q5, q6, q7, q8, q9, q10, q11, -⟩ := api_Event_elem (HAD.out _ HBr.out) (k := k) (x := x) (by rw [List.getElem?_drop]; exact hx)
          clear hx
          have hmk : m + k + 1 = m + (k + 1) := by omega
          rw [hmk] at HFD
          have HW : Hid (∀ W1, Below (wr.alloc (.cells (evL x).toArray 41)).heap.size (wr.alloc (.cells (evL x).toArray 41)) W1 → (∀ o, C4 w (W1.alloc o) p s ⟨0, 0⟩ false 0) ∧ (∀ o, (W1.alloc o).cell? ⟨wr.heap.size, 0, none⟩ = some (.int .i64 x.Kind)) ∧ (∀ o, (W1.alloc o).cell? ⟨wr.heap.size, 8, none⟩ = some (.int .i64 x.Val.Kind)) ∧ (∀ o, (W1.alloc o).cell? ⟨wr.heap.size, 9, none⟩ = some (.int .i64 x.Val.N)) ∧ (∀ o, (W1.alloc o).cell? ⟨wr.heap.size, 10, none⟩ = some (.int .i64 x.Old.Kind)) ∧ (∀ o, (W1.alloc o).cell? ⟨wr.heap.size, 11, none⟩ = some (.int .i64 x.Old.N)) ∧ (∀ o, (W1.alloc o).heap[D]? = some (.deferred (some []))) ∧ w.heap.size + 5 ≤ W1.heap.size) := fun W1 hb => by
            have hsz := hb.size
            simp at hsz
            have hk : ∀ o, Blk (W1.alloc o) wr.heap.size 41 (evL x) := fun o => ((blk_new wr (evL x) 41).below hb (by simp)).below ((Below.refl _ _).alloc (Nat.le_refl _) o) (by omega)
            have hDr := (Array.getElem?_eq_some_iff.1 HKR.out).1
            have hst : ∀ o, Below wr.heap.size wr (W1.alloc o) := fun o => (((Below.refl _ _).alloc (Nat.le_refl _) _).trans (hb.mono (by simp))).alloc (by omega) o
            exact ⟨fun o => HC4.out.later (hst o), fun o => (hk o).cell (j := 0) rfl, fun o => (hk o).cell (j := 8) rfl, fun o => (hk o).cell (j := 9) rfl, fun o => (hk o).cell (j := 10) rfl, fun o => (hk o).cell (j := 11) rfl, fun o => ((hst o).block D hDr).trans HKR.out, by omega⟩
          have HFA : Hid (∀ W1 : World, (∀ o, C4 w (W1.alloc o) p s ⟨0, 0⟩ false 0) → (∀ o, (W1.alloc o).cell? ⟨w.heap.size, 0, none⟩ = some (.int .i64 0)) ∧ (∀ o, (W1.alloc o).cell? ⟨w.heap.size, 1, none⟩ = some (.int .i64 0)) ∧ (∀ o, (W1.alloc o).cell? ⟨w.heap.size + 1, 0, none⟩ = some (.bool false)) ∧ (∀ o, (W1.alloc o).cell? ⟨w.heap.size + 1 + 1, 0, none⟩ = some (.int .i64 0)) ∧ (∀ o, (W1.alloc o).cell? ⟨w.heap.size + 1 + 1 + 1, 0, none⟩ = some (.int .i64 p)) ∧ (∀ o, (W1.alloc o).cell? ⟨w.heap.size + 1 + 1 + 1, 1, none⟩ = some (.int .i64 s)) ∧
              (∀ o, (W1.alloc o).frozen? ⟨w.heap.size, 0, none⟩ = false) ∧ (∀ o, (W1.alloc o).frozen? ⟨w.heap.size, 1, none⟩ = false) ∧ (∀ o, (W1.alloc o).frozen? ⟨w.heap.size + 1, 0, none⟩ = false) ∧ (∀ o, (W1.alloc o).frozen? ⟨w.heap.size + 1 + 1, 0, none⟩ = false)) := fun W1 h =>
            ⟨fun o => (HF.out _ _ _ _ (h o)).1, fun o => (HF.out _ _ _ _ (h o)).2.1, fun o => (HF.out _ _ _ _ (h o)).2.2.1, fun o => (HF.out _ _ _ _ (h o)).2.2.2.1, fun o => (HF.out _ _ _ _ (h o)).2.2.2.2.1, fun o => (HF.out _ _ _ _ (h o)).2.2.2.2.2.1, fun o => (HF.out _ _ _ _ (h o)).2.2.2.2.2.2.1, fun o => (HF.out _ _ _ _ (h o)).2.2.2.2.2.2.2.1, fun o => (HF.out _ _ _ _ (h o)).2.2.2.2.2.2.2.2.1, fun o => (HF.out _ _ _ _ (h o)).2.2.2.2.2.2.2.2.2⟩
          gi_wp2_with fail
          refine ⟨trivial, (callsIn_wide.2 (of_any _ x)).mono ?_⟩
          rintro e W1 ⟨rfl, hb⟩
          obtain ⟨h4, e0, e8, e9, e10, e11, hKW, hs5'⟩ := HW.out _ hb
          have H4 := Lib.hid h4; have HKW := Lib.hid hKW
          obtain ⟨k0, k1, k2, k3, k4, k5, f0, f1, f2, f3⟩ := HFA.out _ h4
          clear hb h4 hKW HW HFA q0 q1 q2 q3 q4 q5 q6 q7 q8 q9 q10 q11
          cases hr : isRW x <;> by_cases hA : x.A = p <;> by_cases hB : x.B = s <;> by_cases h4 : x.Kind = 4
          all_goals first
            | (exfalso; simp [isRW, h4] at hr; done)
            | (have HHIT : Hid (isAt x 4 p s = false ∧ isAt x 3 p s = false) := by
                show _ ∧ _
                unfold isAt
                unfold isRW at hr
                simp at hr
                simp [hA, hB, h4, hr]
               have HR := Lib.hid hr
               clear hr
               gi_wp2
               go_roundw
               case rel => exact ⟨k + 1, by omega, by go_num, by rw [HFI.out, HFD.out, HHIT.out.1, HHIT.out.2]; rfl, H4.out _, HKW.out _, by simp; omega⟩
               case measure => simp [intOf]; omega)
            | (have HNV : Hid (progValue l p s (m : Int) = some x.Old) := by
                show _ = _
                rw [HVF.out, HFI.out, HFD.out]
                rw [if_pos (by simp [isAt, hA, hB, h4])]
               have HR := Lib.hid hr
               clear hr
               gi_wp2
               have hK3 : (putW w (W1.alloc (.cells #[.int .i64 p, .int .i64 s] 108)) x.Old.Kind x.Old.N true 0).heap[D]? = some (.deferred (some [])) := (put_other (by omega)).trans (HKW.out _)
               refine leaves_taken hK3 ?_
               have h6 := (H4.out (.cells #[.int .i64 p, .int .i64 s] 108)).put x.Old.Kind x.Old.N true 0
               have h7 : C4 w ((putW w (W1.alloc (.cells #[.int .i64 p, .int .i64 s] 108)) x.Old.Kind x.Old.N true 0).putObj D (.deferred none)) p s ⟨x.Old.Kind, x.Old.N⟩ true 0 := ⟨cells_taken hK3 _ _ _ h6.a, cells_taken hK3 _ _ _ h6.b, cells_taken hK3 _ _ _ h6.c, cells_taken hK3 _ _ _ h6.d, below_taken h6.below (by omega)⟩
               have q0 := h7.a.cell (j := 0) rfl
               have q1 := h7.a.cell (j := 1) rfl
               exact ⟨.tuple #[.agg #[.int .i64 x.Old.Kind, .int .i64 x.Old.N], .bool true, .int .i64 0], by simp [results, Try.f11, go_sem, q0, q1, h7.b.cell0, h7.c.cell0], by rw [HNV.out, HE0.out]; rfl, h7.below⟩)
            | (have HNV : Hid (progValue l p s (m : Int) = some x.Val) := by
                show _ = _
                rw [HVF.out, HFI.out, HFD.out]
                rw [if_neg (by simp [isAt, h4]), if_pos (by unfold isRW at hr; simp [h4] at hr; simp [isAt, hA, hB, hr])]
               have HR := Lib.hid hr
               clear hr
               gi_wp2
               have hK3 : (putW w (W1.alloc (.cells #[.int .i64 p, .int .i64 s] 108)) x.Val.Kind x.Val.N true 0).heap[D]? = some (.deferred (some [])) := (put_other (by omega)).trans (HKW.out _)
               refine leaves_taken hK3 ?_
               have h6 := (H4.out (.cells #[.int .i64 p, .int .i64 s] 108)).put x.Val.Kind x.Val.N true 0
               have h7 : C4 w ((putW w (W1.alloc (.cells #[.int .i64 p, .int .i64 s] 108)) x.Val.Kind x.Val.N true 0).putObj D (.deferred none)) p s ⟨x.Val.Kind, x.Val.N⟩ true 0 := ⟨cells_taken hK3 _ _ _ h6.a, cells_taken hK3 _ _ _ h6.b, cells_taken hK3 _ _ _ h6.c, cells_taken hK3 _ _ _ h6.d, below_taken h6.below (by omega)⟩
               have q0 := h7.a.cell (j := 0) rfl
               have q1 := h7.a.cell (j := 1) rfl
               exact ⟨.tuple #[.agg #[.int .i64 x.Val.Kind, .int .i64 x.Val.N], .bool true, .int .i64 0], by simp [results, Try.f11, go_sem, q0, q1, h7.b.cell0, h7.c.cell0], by rw [HNV.out, HE0.out]; rfl, h7.below⟩)
        · obtain rfl : k = q := by omega
          have HNV : Hid (progValue l p s (m : Int) = none) := by show _ = _; rw [HVF.out, HFI.out, hq2, firstIn_end (by rw [HN.out]; exact Nat.le_refl _)]
          obtain ⟨k0, k1, k2, k3, k4, k5, f0, f1, f2, f3⟩ := HF.out _ _ _ _ HC4.out
          gi_wp2
          have hK3 : (putW w wr 0 0 false 0).heap[D]? = some (.deferred (some [])) := (put_other (by omega)).trans HKR.out
          refine leaves_taken hK3 ?_
          have h6 := HC4.out.put 0 0 false 0
          have h7 : C4 w ((putW w wr 0 0 false 0).putObj D (.deferred none)) p s ⟨0, 0⟩ false 0 := ⟨cells_taken hK3 _ _ _ h6.a, cells_taken hK3 _ _ _ h6.b, cells_taken hK3 _ _ _ h6.c, cells_taken hK3 _ _ _ h6.d, below_taken h6.below (by omega)⟩
          have q0 := h7.a.cell (j := 0) rfl
          have q1 := h7.a.cell (j := 1) rfl
          exact ⟨.tuple #[.agg #[.int .i64 0, .int .i64 0], .bool false, .int .i64 0], by simp [results, Try.f11, go_sem, q0, q1, h7.b.cell0, h7.c.cell0], by rw [HNV.out, HE0.out]; rfl, h7.below⟩
    case stop =>
      rintro D c' pre W hD ⟨k, hk, rfl⟩ ⟨rfl, ⟨ini, last, h1, h2, h3, h4⟩, hs6⟩ hK
      have HL2 := Lib.hid (missedV_some HN.out hmn h1 h2 h3 hk)
      have H4 := Lib.hid h4; have HK := Lib.hid hK
      clear h1 h2 h3 h4 hK
      gi_wp2
      have hK3 := HK.out
      refine leaves_taken hK3 ?_
      have h7 : C4 w (W.putObj D (.deferred none)) p s last.2.Val true 0 := ⟨cells_taken hK3 _ _ _ H4.out.a, cells_taken hK3 _ _ _ H4.out.b, cells_taken hK3 _ _ _ H4.out.c, cells_taken hK3 _ _ _ H4.out.d, below_taken H4.out.below (by omega)⟩
      have q0 := h7.a.cell (j := 0) rfl
      have q1 := h7.a.cell (j := 1) rfl
      exact ⟨.tuple #[.agg #[.int .i64 last.2.Val.Kind, .int .i64 last.2.Val.N], .bool true, .int .i64 0], by simp [results, Try.f11, go_sem, q0, q1, h7.b.cell0, h7.c.cell0], by rw [HLS.out, HE0.out]; unfold valueOf; rw [HL2.out]; rfl, h7.below⟩
  · have h0 : (errE n at' != 0) = true := by simpa using he
    have HLN := Lib.hid (HL.out he)
    have HE := Lib.hid he
    clear he HL
    gi_wp2
    exact ⟨.tuple #[.agg #[.int .i64 0, .int .i64 0], .bool false, .int .i64 (errE n at')], by simp [results, Try.f11, go_sem], by rw [HLN.out]; rfl, below_new (below_new (below_new (Below.refl _ _) _) _) _⟩
end Go.Proofs.Ytfdpannanpipdaa.watch
