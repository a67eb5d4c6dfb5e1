/- SnapFlats: the document's flat list of a whole state, walked (printed by gen_snap.py). -/
import Derived.Test.YtimlhjjdaggiiaaFlatR
import Derived.Test.YtimlhjjdaggiiaaFlatG
import Derived.Deep.RegionHeld3
set_option linter.unusedVariables false
set_option linter.unusedSimpArgs false
namespace Go.Proofs.Ytimlhjjdaggiiaa.flat
open Go.Bk Go.RowKit

/-- The state's box stands, the list grows. -/
structure At (cs : List Value) (w wz : World) (v : Value) (xs : List Int) : Prop where
  own : Own (fun _ => False) wz (w.heap.size + 1) 3 v xs
  below : Below w.heap.size w wz
  blk : Blk wz w.heap.size 36 cs
theorem below_low {N M : Nat} {w w' : World} (h : Below N w w') (hm : M ≤ N) : Below M w w' := ⟨h.os, h.tape, h.output, h.size, fun k hk => h.block k (by omega)⟩
section
variable {cs : List Value} {w wz w' : World} {v v' : Value} {xs xs' : List Int}
theorem At.size (h : At cs w wz v xs) : w.heap.size + 1 ≤ wz.heap.size := h.blk.lt
theorem At.grow (h : At cs w wz v xs) (ho : Own (fun _ => False) w' (w.heap.size + 1) 3 v' xs') (hg : wz.grownBy w' v.ownBlock) : At cs w w' v' xs' :=
  ⟨ho, h.below.grown hg h.below.size (fun k hk => by have := (h.own.lt k hk).1; omega), h.blk.keep (hg.block _ h.blk.lt (fun e => by have := (h.own.lt _ e.symm).1; omega))⟩
theorem At.call (h : At cs w wz v xs) (hb : Below wz.heap.size wz w') : At cs w w' v xs :=
  ⟨h.own.below hb (fun _ h => h.elim), h.below.trans (below_low hb h.below.size), h.blk.keep (hb.block _ h.blk.lt)⟩
theorem At.drew (h : At cs w wz v xs) : At cs w wz.drew v xs := h.call (Below.refl _ _).drew
theorem At.alloc (h : At cs w wz v xs) (o : Obj) : At cs w (wz.alloc o) v xs := h.call ((Below.refl _ _).alloc (Nat.le_refl _) _)
end
theorem cell_below {N b o : Nat} {w wz : World} {v : Value} (hb : Below N w wz) (h : w.cell? ⟨b, o, none⟩ = some v) (hlt : b < N) : wz.cell? ⟨b, o, none⟩ = some v := by
  rw [World.cell?_of_block (w := w) (hb.block b hlt)]; exact h
def snapRel {α : Type} (f : α → List Int) (l : List α) (xs : List Int) (cs : List Value) (w : World) (n : Nat) (out i : Value) (w' : World) : Prop :=
  ∃ q : Nat, q ≤ n ∧ i = .int .i64 q ∧ At cs w w' out (xs ++ manyTo f l q)

set_option maxRecDepth 100000 in
set_option maxHeartbeats 4000000 in
theorem snapFlat_any {S : Nat → Prop} {w : World} {s : Api.State} {a0 a1 a2 a3 a4 a5 : Option Addr} {n0 n1 n2 n3 n4 n5 c0 c1 c2 c3 c4 c5 : Nat} (hS : ∀ b, S b → b < w.heap.size)
    (l0 : s.Cells.length = n0) (l1 : s.Shapes.length = n1) (l2 : s.Texts.length = n2) (l3 : s.Threads.length = n3) (l4 : s.Ends.length = n4) (l5 : s.Said.length = n5)
    (r0 : Arr S w a0 s.Cells) (r1 : Arr S w a1 s.Shapes) (r2 : Arr S w a2 s.Texts) (r3 : Arr S w a3 s.Threads) (r4 : Arr S w a4 s.Ends) (r5 : Arr S w a5 s.Said) (i6 : I64 s.Asked) (i7 : I64 s.Steps) (hl : (fState s).length ≤ 900000000) :
    Calls Try.prog 19 #[.agg #[.slice a0 n0 c0, .slice a1 n1 c1, .slice a2 n2 c2, .slice a3 n3 c3, .slice a4 n4 c4, .slice a5 n5 c5, .int .i64 s.Asked, .int .i64 s.Steps]] w (RetOwn 3 w (fState s)) := by
  have hll : (fState s).length = (many fCell s.Cells).length + ((many fShape s.Shapes).length + ((many fText s.Texts).length + ((many fThread s.Threads).length + ((many fEnd s.Ends).length + ((many fVal s.Said).length + 2))))) := by simp only [fState, List.length_append, List.length_cons, List.length_nil]
  have HL := Lib.hid (hll ▸ hl)
  have z0 := r0.small; have z1 := r1.small; have z2 := r2.small; have z3 := r3.small; have z4 := r4.small
  rw [l0] at z0; rw [l1] at z1; rw [l2] at z2; rw [l3] at z3; rw [l4] at z4
  unfold maxLen at z0 z1 z2 z3 z4
  have L0 := Lib.hid l0; have L1 := Lib.hid l1; have L2 := Lib.hid l2; have L3 := Lib.hid l3; have L4 := Lib.hid l4; have L5 := Lib.hid l5
  have R0 := Lib.hid r0; have R1 := Lib.hid r1; have R2 := Lib.hid r2; have R3 := Lib.hid r3; have R4 := Lib.hid r4; have R5 := Lib.hid r5
  have HS := Lib.hid hS
  have k1 := (blk_new w [.slice a0 n0 c0, .slice a1 n1 c1, .slice a2 n2 c2, .slice a3 n3 c3, .slice a4 n4 c4, .slice a5 n5 c5, .int .i64 s.Asked, .int .i64 s.Steps] 36)
  have k2 := blk_new (w.alloc (.cells ([.slice a0 n0 c0, .slice a1 n1 c1, .slice a2 n2 c2, .slice a3 n3 c3, .slice a4 n4 c4, .slice a5 n5 c5, .int .i64 s.Asked, .int .i64 s.Steps]).toArray 36)) [.int .i64 (n0 : Int)] 3
  rw [World.size_alloc] at k2
  have HST : Hid (At [.slice a0 n0 c0, .slice a1 n1 c1, .slice a2 n2 c2, .slice a3 n3 c3, .slice a4 n4 c4, .slice a5 n5 c5, .int .i64 s.Asked, .int .i64 s.Steps] w ((w.alloc (.cells #[.slice a0 n0 c0, .slice a1 n1 c1, .slice a2 n2 c2, .slice a3 n3 c3, .slice a4 n4 c4, .slice a5 n5 c5, .int .i64 s.Asked, .int .i64 s.Steps] 36)).alloc (.cells #[.int .i64 (n0 : Int)] 3)) (.slice (some ⟨w.heap.size + 1, 0, none⟩) 1 1) ([] ++ manyTo fCell s.Cells 0)) := by
    refine ⟨?_, ((Below.refl _ _).alloc (Nat.le_refl _) _).alloc (by simp) _, k1.keep (Below.heap_alloc _ _ _ k1.lt)⟩
    rw [manyTo_zero, l0]
    exact own_box k2 (Nat.le_refl _) (by unfold I64; omega)
  clear l0 l1 l2 l3 l4 l5 r0 r1 r2 r3 r4 r5 hll hl hS k1 k2
  go_enter Try.func19, Try.ntmps19
  go_wp2_with fail
  go_loopw [3, 4] (snapRel fCell s.Cells [] [.slice a0 n0 c0, .slice a1 n1 c1, .slice a2 n2 c2, .slice a3 n3 c3, .slice a4 n4 c4, .slice a5 n5 c5, .int .i64 s.Asked, .int .i64 s.Steps] w n0) (fun _ i _ => n0 - (intOf i).toNat)
  case atStart => exact ⟨0, Nat.zero_le _, rfl, HST.out⟩
  case round =>
    obtain ⟨q, hq, rfl, hat⟩ := hrel
    have HA := Lib.hid hat
    have hbx := hat.blk.cell (j := 0) rfl
    have hsz : w.heap.size + 1 ≤ wr.heap.size := hat.size
    clear hat HST
    by_cases hlt : q < n0
    · obtain ⟨x, hx⟩ := get_lt L0.out hlt
      have hfx := many_at (f := fCell) hx
      have HX := Lib.hid (manyTo_succ (f := fCell) hx)
      have HFX := Lib.hid hfx
      obtain ⟨b, off, a6, c6, a7, c7, rfl, hb, q1, q2, q3, q4, g1, g2, ⟨-, -, g3⟩, ⟨-, -, g4⟩⟩ := api_Cell_elem R0.out hx
      have hbw : b < w.heap.size := HS.out b hb
      obtain ⟨n6, hn6⟩ : ∃ k, x.Vals.length = k := ⟨_, rfl⟩
      obtain ⟨n7, hn7⟩ : ∃ k, x.Frames.length = k := ⟨_, rfl⟩
      rw [hn6] at q3
      rw [hn7] at q4
      have HN6 := Lib.hid hn6; have HN7 := Lib.hid hn7; have G3 := Lib.hid g3; have G4 := Lib.hid g4; have Q3 := Lib.hid q3; have Q4 := Lib.hid q4
      have e1 := cell_below HA.out.below q1 hbw
      have e2 := cell_below HA.out.below q2 hbw
      have HQF : Hid (fCell x = [x.Kind, x.Num] ++ (many fVal x.Vals ++ many fFrame x.Frames)) := rfl
      have HAT : Hid (([] ++ manyTo fCell s.Cells q).length + (2 + ((many fVal x.Vals).length + (many fFrame x.Frames).length)) ≤ 900000000) := by show _ ≤ _; rw [List.length_append]; have := HL.out; have := HFX.out; rw [HQF.out] at this; simp only [List.length_append, List.length_cons, List.length_nil] at *; omega
      have HI : Hid (∀ y ∈ [x.Kind, x.Num], I64 y) := by show ∀ y ∈ _, _; simp; exact ⟨g1, g2⟩
      have HT : Hid (∀ wz, Below w.heap.size w wz → Arr S wz a6 x.Vals ∧ Arr S wz a7 x.Frames ∧ ∀ b, S b → b < wz.heap.size) := fun wz h => ⟨g3.keep (fun b hb => h.block b (HS.out b hb)), g4.keep (fun b hb => h.block b (HS.out b hb)), fun b hb => Nat.lt_of_lt_of_le (HS.out b hb) h.size⟩
      clear hx hfx g1 g2 g3 g4 q1 q2 q3 q4 hn6 hn7
      go_wp2_with fail
      obtain ⟨gb, hgb⟩ : ∃ gb, wr.heap.size = gb := ⟨_, rfl⟩
      go_region_law (refine step_append_ints (cs := [.int .i64 x.Kind, .int .i64 x.Num]) (ys := [x.Kind, x.Num]) (w0 := wr.drew) (g := wr.heap.size) (m := 2) rfl rfl Try.underlying22 Try.info3 rfl (by omega) (by simp [Act.eval, Act.put]) (by simp [Act.eval, Act.put]) rfl rfl HA.out.drew.own rfl HI.out rfl (by omega) (by have := HAT.out; omega) (by exact hsz) ?_; intro v1 w1 hown' hg' hst'; have HA1 := Lib.hid (HA.out.drew.grow hown' hg'); have hbx1 := HA1.out.blk.cell (j := 0) rfl; have e3 := cell_below HA1.out.below Q3.out hbw; clear hown' hg' hst')
      all_goals (clear hgb)
      all_goals (go_wp2_with fail)
      all_goals (clear hbx e1 e2 hbx1 e3)
      all_goals (
        refine (flatVals_any (S := S) (c := c6) (HT.out _ HA1.out.below).1 (HT.out _ HA1.out.below).2.2 HN6.out (by have := HAT.out; omega)).mono ?_
        rintro e w2 ⟨r2, rfl, ho3, hb3⟩
        obtain ⟨a2, cap2, rfl, -, -, har3⟩ := ho3.arr
        obtain ⟨m2, hm6⟩ : ∃ k, (many fVal x.Vals).length = k := ⟨_, rfl⟩
        rw [hm6]
        have HM2 := Lib.hid hm6
        have m2p : 0 < m2 := by have := many_one fVal x.Vals; omega
        have HA2 := Lib.hid (HA1.out.call hb3)
        have HR2 := Lib.hid har3
        clear ho3 hb3 har3 hm6
        have hs2 : w.heap.size + 1 ≤ w2.heap.size := HA2.out.size
        have HB2 : Hid (([] ++ manyTo fCell s.Cells q ++ [x.Kind, x.Num]).length + m2 ≤ 1000000000) := by show _ ≤ _; have := HAT.out; rw [HM2.out] at this; rw [List.length_append]; simp only [List.length_cons, List.length_nil]; omega
        go_wp2_with (at_builtin; with_reducible refine wp_append_row (c := cap2) rfl rfl Try.underlying22 Try.info3 (by with_unfolding_all rfl) (by with_unfolding_all decide) (by first | rfl | simp [Act.eval, Act.put]) (by first | rfl | simp [Act.eval, Act.put]) HA2.out.own HR2.out HM2.out m2p HB2.out hs2 ?_; intro v3 w3 hown4 hg4 hst4; have HA3 := Lib.hid (HA2.out.grow hown4 hg4); have hbx3 := HA3.out.blk.cell (j := 0) rfl; have e4 := cell_below HA3.out.below Q4.out hbw; clear hown4 hg4 hst4)
        clear hbx3 e4
        refine (flatFrames_any (S := S) (c := c7) (HT.out _ HA3.out.below).2.1 (HT.out _ HA3.out.below).2.2 HN7.out (by have := HAT.out; omega)).mono ?_
        rintro e w4 ⟨r4, rfl, ho3, hb3⟩
        obtain ⟨a4', cap4, rfl, -, -, har3⟩ := ho3.arr
        obtain ⟨m4, hm6⟩ : ∃ k, (many fFrame x.Frames).length = k := ⟨_, rfl⟩
        rw [hm6]
        have HM4 := Lib.hid hm6
        have m4p : 0 < m4 := by have := many_one fFrame x.Frames; omega
        have HA4 := Lib.hid (HA3.out.call hb3)
        have HR4 := Lib.hid har3
        clear ho3 hb3 har3 hm6
        have hs4 : w.heap.size + 1 ≤ w4.heap.size := HA4.out.size
        have HB4 : Hid (([] ++ manyTo fCell s.Cells q ++ [x.Kind, x.Num] ++ many fVal x.Vals).length + m4 ≤ 1000000000) := by show _ ≤ _; have := HAT.out; rw [HM4.out] at this; rw [List.length_append, List.length_append]; simp only [List.length_cons, List.length_nil]; omega
        go_wp2_with (at_builtin; with_reducible refine wp_append_row (c := cap4) rfl rfl Try.underlying22 Try.info3 (by with_unfolding_all rfl) (by with_unfolding_all decide) (by first | rfl | simp [Act.eval, Act.put]) (by first | rfl | simp [Act.eval, Act.put]) HA4.out.own HR4.out HM4.out m4p HB4.out hs4 ?_; intro v5 w5 hown4 hg4 hst4; have HA5 := Lib.hid (HA4.out.grow hown4 hg4); clear hown4 hg4 hst4)
        go_roundw)
      all_goals first
        | exact ⟨q + 1, by omega, by go_num, by have h5 := HA5.out; rw [HX.out, HQF.out]; simpa only [List.append_assoc] using h5⟩
        | (simp [intOf]; omega)
    · obtain rfl : n0 = q := by omega
      obtain ⟨XX0, hXX⟩ : ∃ XX, XX = [] ++ manyTo fCell s.Cells n0 := ⟨_, rfl⟩
      have HXX0 : Hid (XX0 = [] ++ many fCell s.Cells) := by show _ = _; rw [hXX, ← L0.out, manyTo_all]
      rw [← hXX] at HA
      clear hXX
      have XB1 : Hid (XX0.length = (many fCell s.Cells).length) := by show _ = _; rw [HXX0.out, List.length_append]; simp
      have HI : Hid (∀ y ∈ [(n1 : Int)], I64 y) := by show ∀ y ∈ _, _; intro y hy; simp at hy; subst hy; unfold I64; omega
      have HBL : Hid (XX0.length + 1 ≤ 1000000000) := by show _ ≤ _; have := HL.out; have := XB1.out; have := many_one fShape s.Shapes; omega
      have hbx' := HA.out.blk.cell (j := 1) rfl
      go_wp2_with (at_builtin; with_reducible refine wp_append_ints (cs := [.int .i64 (n1 : Int)]) (ys := [(n1 : Int)]) (m := 1) rfl rfl Try.underlying22 Try.info3 (by with_unfolding_all rfl) (by with_unfolding_all decide) (by first | rfl | simp [Act.eval, Act.put]) (by first | rfl | simp [Act.eval, Act.put]) rfl rfl HA.out.own (by with_unfolding_all rfl) HI.out (by with_unfolding_all rfl) (by omega) HBL.out hsz ?_; intro v1 w1 hown' hg' hst'; have HA' := Lib.hid (HA.out.grow hown' hg'); have hbx2 := HA'.out.blk.cell (j := 1) rfl; clear hown' hg' hst' hbx hbx')
      have HST : Hid (At [.slice a0 n0 c0, .slice a1 n1 c1, .slice a2 n2 c2, .slice a3 n3 c3, .slice a4 n4 c4, .slice a5 n5 c5, .int .i64 s.Asked, .int .i64 s.Steps] w w1 v1 (XX0 ++ manyTo fShape s.Shapes 0)) := by show At _ _ _ _ _; rw [manyTo_zero, L1.out]; exact HA'.out
      clear HA HA' HI HBL
      go_loopw [3, 5] (snapRel fShape s.Shapes XX0 [.slice a0 n0 c0, .slice a1 n1 c1, .slice a2 n2 c2, .slice a3 n3 c3, .slice a4 n4 c4, .slice a5 n5 c5, .int .i64 s.Asked, .int .i64 s.Steps] w n1) (fun _ i _ => n1 - (intOf i).toNat)
      case atStart => exact ⟨0, Nat.zero_le _, rfl, HST.out⟩
      case round =>
        obtain ⟨q, hq, rfl, hat⟩ := hrel
        have HA := Lib.hid hat
        have hbx := hat.blk.cell (j := 1) rfl
        have hsz : w.heap.size + 1 ≤ wr.heap.size := hat.size
        clear hat HST
        by_cases hlt : q < n1
        · obtain ⟨x, hx⟩ := get_lt L1.out hlt
          have hfx := many_at (f := fShape) hx
          have HX := Lib.hid (manyTo_succ (f := fShape) hx)
          have HFX := Lib.hid hfx
          obtain ⟨b, off, rfl, hb, q0, q1, g0, g1⟩ := api_Shape_elem R1.out hx
          have hbw : b < w.heap.size := HS.out b hb
          have e0 := cell_below HA.out.below q0 hbw
          have e1 := cell_below HA.out.below q1 hbw
          have HQF : Hid (fShape x = [x.Up, x.Name]) := rfl
          have HAT : Hid ((XX0 ++ manyTo fShape s.Shapes q).length + 2 ≤ 900000000) := by show _ ≤ _; rw [List.length_append]; have := HL.out; have := HFX.out; rw [HQF.out] at this; simp only [List.length_append, List.length_cons, List.length_nil] at *; have := XB1.out; omega
          have HI : Hid (∀ y ∈ [x.Up, x.Name], I64 y) := by show ∀ y ∈ _, _; simp; exact ⟨g0, g1⟩
          clear hx hfx q0 g0 q1 g1
          go_wp2_with fail
          obtain ⟨gb, hgb⟩ : ∃ gb, wr.heap.size = gb := ⟨_, rfl⟩
          go_region_law (refine step_append_ints (cs := [.int .i64 x.Up, .int .i64 x.Name]) (ys := [x.Up, x.Name]) (w0 := wr.drew) (g := wr.heap.size) (m := 2) rfl rfl Try.underlying22 Try.info3 rfl (by omega) (by simp [Act.eval, Act.put]) (by simp [Act.eval, Act.put]) rfl rfl HA.out.drew.own rfl HI.out rfl (by omega) (by have := HAT.out; omega) (by exact hsz) ?_; intro v1 w1 hown' hg' hst'; have HA1 := Lib.hid (HA.out.drew.grow hown' hg'); clear hown' hg' hst')
          all_goals (clear hgb)
          all_goals (go_wp2_with fail)
          all_goals (go_roundw)
          all_goals first
            | exact ⟨q + 1, by omega, by go_num, by have h5 := HA1.out; rw [HX.out, HQF.out]; simpa only [List.append_assoc] using h5⟩
            | (simp [intOf]; omega)
        · obtain rfl : n1 = q := by omega
          obtain ⟨XX1, hXX⟩ : ∃ XX, XX = XX0 ++ manyTo fShape s.Shapes n1 := ⟨_, rfl⟩
          have HXX1 : Hid (XX1 = XX0 ++ many fShape s.Shapes) := by show _ = _; rw [hXX, ← L1.out, manyTo_all]
          rw [← hXX] at HA
          clear hXX
          have XB2 : Hid (XX1.length = (many fCell s.Cells).length + (many fShape s.Shapes).length) := by show _ = _; rw [HXX1.out, List.length_append, XB1.out]
          have HI : Hid (∀ y ∈ [(n2 : Int)], I64 y) := by show ∀ y ∈ _, _; intro y hy; simp at hy; subst hy; unfold I64; omega
          have HBL : Hid (XX1.length + 1 ≤ 1000000000) := by show _ ≤ _; have := HL.out; have := XB2.out; have := many_one fText s.Texts; omega
          have hbx' := HA.out.blk.cell (j := 2) rfl
          go_wp2_with (at_builtin; with_reducible refine wp_append_ints (cs := [.int .i64 (n2 : Int)]) (ys := [(n2 : Int)]) (m := 1) rfl rfl Try.underlying22 Try.info3 (by with_unfolding_all rfl) (by with_unfolding_all decide) (by first | rfl | simp [Act.eval, Act.put]) (by first | rfl | simp [Act.eval, Act.put]) rfl rfl HA.out.own (by with_unfolding_all rfl) HI.out (by with_unfolding_all rfl) (by omega) HBL.out hsz ?_; intro v2 w2 hown' hg' hst'; have HA' := Lib.hid (HA.out.grow hown' hg'); have hbx2 := HA'.out.blk.cell (j := 2) rfl; clear hown' hg' hst' hbx hbx')
          have HST : Hid (At [.slice a0 n0 c0, .slice a1 n1 c1, .slice a2 n2 c2, .slice a3 n3 c3, .slice a4 n4 c4, .slice a5 n5 c5, .int .i64 s.Asked, .int .i64 s.Steps] w w2 v2 (XX1 ++ manyTo fText s.Texts 0)) := by show At _ _ _ _ _; rw [manyTo_zero, L2.out]; exact HA'.out
          clear HA HA' HI HBL
          go_loopw [3, 6] (snapRel fText s.Texts XX1 [.slice a0 n0 c0, .slice a1 n1 c1, .slice a2 n2 c2, .slice a3 n3 c3, .slice a4 n4 c4, .slice a5 n5 c5, .int .i64 s.Asked, .int .i64 s.Steps] w n2) (fun _ i _ => n2 - (intOf i).toNat)
          case atStart => exact ⟨0, Nat.zero_le _, rfl, HST.out⟩
          case round =>
            obtain ⟨q, hq, rfl, hat⟩ := hrel
            have HA := Lib.hid hat
            have hbx := hat.blk.cell (j := 2) rfl
            have hsz : w.heap.size + 1 ≤ wr.heap.size := hat.size
            clear hat HST
            by_cases hlt : q < n2
            · obtain ⟨x, hx⟩ := get_lt L2.out hlt
              have hfx := many_at (f := fText) hx
              have HX := Lib.hid (manyTo_succ (f := fText) hx)
              have HFX := Lib.hid hfx
              obtain ⟨b, off, rfl, hb, q1, g1⟩ := arr_text R2.out hx
              have hbw : b < w.heap.size := HS.out b hb
              have Q1 := Lib.hid q1
              have e1 := cell_below HA.out.below q1 hbw
              have hzl : x.size ≤ 9223372036854775807 := by unfold maxLen at g1; omega
              have hlen : x.data.toList.length = x.size := by simp
              have HZL := Lib.hid hlen
              have HQF : Hid (fText x = many fByte x.data.toList) := rfl
              have HAT : Hid ((XX1 ++ manyTo fText s.Texts q).length + (many fByte x.data.toList).length ≤ 900000000) := by show _ ≤ _; rw [List.length_append]; have := HL.out; have := HFX.out; rw [HQF.out] at this; have := XB2.out; omega
              have HI : Hid (∀ y ∈ [(x.size : Int)], I64 y) := by show ∀ y ∈ _, _; intro y hy; simp at hy; subst hy; unfold I64; omega
              have h1b := many_one fByte x.data.toList
              clear hx hfx q1 g1 hlen
              go_wp2_with (at_builtin; with_reducible refine wp_append_ints (cs := [.int .i64 (x.size : Int)]) (ys := [(x.size : Int)]) (m := 1) rfl rfl Try.underlying22 Try.info3 (by with_unfolding_all rfl) (by with_unfolding_all decide) (by first | rfl | simp [Act.eval, Act.put]) (by first | rfl | simp [Act.eval, Act.put]) rfl rfl HA.out.own (by with_unfolding_all rfl) HI.out (by with_unfolding_all rfl) (by omega) (by have := HAT.out; omega) hsz ?_; intro v1 w1 hown' hg' hst'; have HA1 := Lib.hid (HA.out.grow hown' hg'); clear hown' hg' hst')
              obtain ⟨Y, hY⟩ : ∃ Y, Y = XX1 ++ manyTo fText s.Texts q := ⟨_, rfl⟩
              rw [← hY] at HAT HA1
              have HY := Lib.hid hY
              have HST : Hid (At [.slice a0 n0 c0, .slice a1 n1 c1, .slice (some ⟨b, off, none⟩) n2 c2, .slice a3 n3 c3, .slice a4 n4 c4, .slice a5 n5 c5, .int .i64 s.Asked, .int .i64 s.Steps] w w1 v1 (Y ++ manyTo fByte x.data.toList 0)) := by show At _ _ _ _ _; rw [manyTo_zero, HZL.out]; exact HA1.out
              clear HA HA1 hY
              go_loopw [3, 7] (snapRel fByte x.data.toList Y [.slice a0 n0 c0, .slice a1 n1 c1, .slice (some ⟨b, off, none⟩) n2 c2, .slice a3 n3 c3, .slice a4 n4 c4, .slice a5 n5 c5, .int .i64 s.Asked, .int .i64 s.Steps] w x.size) (fun _ i _ => x.size - (intOf i).toNat)
              case atStart => exact ⟨0, Nat.zero_le _, rfl, HST.out⟩
              case round =>
                obtain ⟨p, hp, rfl, hat⟩ := hrel
                have HA := Lib.hid hat
                have hbx := hat.blk.cell (j := 2) rfl
                have e1 := cell_below hat.below Q1.out hbw
                have hsz : w.heap.size + 1 ≤ wr.heap.size := hat.size
                clear hat HST
                by_cases hlt7 : p < x.size
                · obtain ⟨y, hy⟩ := get_lt HZL.out hlt7
                  have hat2 := many_at (f := fByte) hy
                  have HYY := Lib.hid (manyTo_succ (f := fByte) hy)
                  have HAT2 : Hid ((Y ++ manyTo fByte x.data.toList p).length + 1 ≤ 1000000000) := by show _ ≤ _; rw [List.length_append]; have := HAT.out; simp [fByte] at hat2; omega
                  have HI2 : Hid (∀ y1 ∈ [(y.toNat : Int)], I64 y1) := by show ∀ y1 ∈ _, _; intro y1 h1; simp at h1; subst h1; have := y.toNat_lt; unfold I64; omega
                  have hxy : x[p]'hlt7 = y := by have h1 := hy; rw [Array.getElem?_toList] at h1; have h2 := Array.getElem?_eq_some_iff.1 h1; obtain ⟨h3, h4⟩ := h2; rw [← h4]; rfl
                  have HCS : Hid ([Value.int .i64 (wrap64 ((x[p]'hlt7).toNat : Int))] = intsV [(y.toNat : Int)]) := by show _ = _; rw [hxy]; have := y.toNat_lt; simp [intsV, wrap64]; omega
                  clear hat2 hxy
                  go_wp2_with (at_builtin; with_reducible refine wp_append_ints (cs := [Value.int .i64 (wrap64 ((x[p]'hlt7).toNat : Int))]) (ys := [(y.toNat : Int)]) (m := 1) rfl rfl Try.underlying22 Try.info3 (by with_unfolding_all rfl) (by with_unfolding_all decide) (by first | rfl | simp [Act.eval, Act.put]) (by first | rfl | simp [Act.eval, Act.put]) rfl rfl HA.out.own HCS.out HI2.out (by with_unfolding_all rfl) (by omega) HAT2.out hsz ?_; intro v2 w2 hown' hg' hst'; have HA2 := Lib.hid (HA.out.grow hown' hg'); clear hown' hg' hst')
                  go_roundw
                  case rel => exact ⟨p + 1, by omega, by go_num, by have h5 := HA2.out; rw [HYY.out, ← List.append_assoc]; exact h5⟩
                  case measure => simp [intOf]; omega
                · obtain rfl : p = x.size := by omega
                  have HQ : Hid (Y ++ manyTo fByte x.data.toList x.size = XX1 ++ manyTo fText s.Texts (q + 1)) := by show _ = _; rw [HX.out, HQF.out, HY.out, ← HZL.out, manyTo_all, List.append_assoc]
                  go_wp2_with fail
                  go_roundw
                  case rel => exact ⟨q + 1, by omega, by go_num, by rw [← HQ.out]; exact HA.out⟩
                  case measure => simp [intOf]; omega
            · obtain rfl : n2 = q := by omega
              obtain ⟨XX2, hXX⟩ : ∃ XX, XX = XX1 ++ manyTo fText s.Texts n2 := ⟨_, rfl⟩
              have HXX2 : Hid (XX2 = XX1 ++ many fText s.Texts) := by show _ = _; rw [hXX, ← L2.out, manyTo_all]
              rw [← hXX] at HA
              clear hXX
              have XB3 : Hid (XX2.length = (many fCell s.Cells).length + (many fShape s.Shapes).length + (many fText s.Texts).length) := by show _ = _; rw [HXX2.out, List.length_append, XB2.out]
              have HI : Hid (∀ y ∈ [(n3 : Int)], I64 y) := by show ∀ y ∈ _, _; intro y hy; simp at hy; subst hy; unfold I64; omega
              have HBL : Hid (XX2.length + 1 ≤ 1000000000) := by show _ ≤ _; have := HL.out; have := XB3.out; have := many_one fThread s.Threads; omega
              have hbx' := HA.out.blk.cell (j := 3) rfl
              go_wp2_with (at_builtin; with_reducible refine wp_append_ints (cs := [.int .i64 (n3 : Int)]) (ys := [(n3 : Int)]) (m := 1) rfl rfl Try.underlying22 Try.info3 (by with_unfolding_all rfl) (by with_unfolding_all decide) (by first | rfl | simp [Act.eval, Act.put]) (by first | rfl | simp [Act.eval, Act.put]) rfl rfl HA.out.own (by with_unfolding_all rfl) HI.out (by with_unfolding_all rfl) (by omega) HBL.out hsz ?_; intro v3 w3 hown' hg' hst'; have HA' := Lib.hid (HA.out.grow hown' hg'); have hbx2 := HA'.out.blk.cell (j := 3) rfl; clear hown' hg' hst' hbx hbx')
              have HST : Hid (At [.slice a0 n0 c0, .slice a1 n1 c1, .slice a2 n2 c2, .slice a3 n3 c3, .slice a4 n4 c4, .slice a5 n5 c5, .int .i64 s.Asked, .int .i64 s.Steps] w w3 v3 (XX2 ++ manyTo fThread s.Threads 0)) := by show At _ _ _ _ _; rw [manyTo_zero, L3.out]; exact HA'.out
              clear HA HA' HI HBL
              go_loopw [3, 8] (snapRel fThread s.Threads XX2 [.slice a0 n0 c0, .slice a1 n1 c1, .slice a2 n2 c2, .slice a3 n3 c3, .slice a4 n4 c4, .slice a5 n5 c5, .int .i64 s.Asked, .int .i64 s.Steps] w n3) (fun _ i _ => n3 - (intOf i).toNat)
              case atStart => exact ⟨0, Nat.zero_le _, rfl, HST.out⟩
              case round =>
                obtain ⟨q, hq, rfl, hat⟩ := hrel
                have HA := Lib.hid hat
                have hbx := hat.blk.cell (j := 3) rfl
                have hsz : w.heap.size + 1 ≤ wr.heap.size := hat.size
                clear hat HST
                by_cases hlt : q < n3
                · obtain ⟨x, hx⟩ := get_lt L3.out hlt
                  have hfx := many_at (f := fThread) hx
                  have HX := Lib.hid (manyTo_succ (f := fThread) hx)
                  have HFX := Lib.hid hfx
                  obtain ⟨b, off, a6, c6, rfl, hb, q1, q2, q3, q4, q5, ⟨-, -, g1⟩, g2, g3, g4, g5⟩ := api_Thread_elem R3.out hx
                  have hbw : b < w.heap.size := HS.out b hb
                  obtain ⟨n6, hn6⟩ : ∃ k, x.Frames.length = k := ⟨_, rfl⟩
                  rw [hn6] at q1
                  have HN6 := Lib.hid hn6
                  have e1 := cell_below HA.out.below q1 hbw
                  have e2 := cell_below HA.out.below q2 hbw
                  have e3 := cell_below HA.out.below q3 hbw
                  have e4 := cell_below HA.out.below q4 hbw
                  have e5 := cell_below HA.out.below q5 hbw
                  have HQF : Hid (fThread x = many fFrame x.Frames ++ ([x.State, x.On] ++ fVal x.Val)) := rfl
                  have HAT : Hid ((XX2 ++ manyTo fThread s.Threads q).length + ((many fFrame x.Frames).length + 4) ≤ 900000000) := by show _ ≤ _; rw [List.length_append]; have := HL.out; have := HFX.out; rw [HQF.out] at this; simp only [fVal, List.length_append, List.length_cons, List.length_nil] at *; have := XB3.out; omega
                  have HI : Hid (∀ y ∈ [x.State, x.On, x.Val.Kind, x.Val.N], I64 y) := by show ∀ y ∈ _, _; simp; exact ⟨g2, g3, g4, g5⟩
                  have HT : Hid (∀ wz, Below w.heap.size w wz → Arr S wz a6 x.Frames ∧ ∀ b, S b → b < wz.heap.size) := fun wz h => ⟨g1.keep (fun b hb => h.block b (HS.out b hb)), fun b hb => Nat.lt_of_lt_of_le (HS.out b hb) h.size⟩
                  have HA0 := Lib.hid (HA.out.alloc (.cells #[.slice a6 n6 c6, .int .i64 x.State, .int .i64 x.On, .int .i64 x.Val.Kind, .int .i64 x.Val.N] 141))
                  have HBB : Hid (Blk (wr.alloc (.cells #[.slice a6 n6 c6, .int .i64 x.State, .int .i64 x.On, .int .i64 x.Val.Kind, .int .i64 x.Val.N] 141)) wr.heap.size 141 [.slice a6 n6 c6, .int .i64 x.State, .int .i64 x.On, .int .i64 x.Val.Kind, .int .i64 x.Val.N]) := blk_new wr _ _
                  have HNE : Hid (u3.ownBlock ≠ some wr.heap.size) := fun he => by have := (HA.out.own.lt _ he).2; omega
                  clear hx hfx q1 q2 q3 q4 q5 g1 g2 g3 g4 g5 hn6
                  go_wp2_with fail
                  clear e1 e2 e3 e4 e5
                  refine (flatFrames_any (S := S) (c := c6) (HT.out _ HA0.out.below).1 (HT.out _ HA0.out.below).2 HN6.out (by have := HAT.out; omega)).mono ?_
                  rintro e w2 ⟨r2, rfl, ho3, hb3⟩
                  obtain ⟨a2', cap2, rfl, -, -, har3⟩ := ho3.arr
                  obtain ⟨m2, hm6⟩ : ∃ k, (many fFrame x.Frames).length = k := ⟨_, rfl⟩
                  rw [hm6]
                  have HM2 := Lib.hid hm6
                  have m2p : 0 < m2 := by have := many_one fFrame x.Frames; omega
                  have HA2 := Lib.hid (HA0.out.call hb3)
                  have HR2 := Lib.hid har3
                  have HBB2 := Lib.hid (HBB.out.keep (hb3.block _ HBB.out.lt))
                  clear ho3 hb3 har3 hm6
                  have hs2 : w.heap.size + 1 ≤ w2.heap.size := HA2.out.size
                  have HB2 : Hid ((XX2 ++ manyTo fThread s.Threads q).length + m2 ≤ 1000000000) := by show _ ≤ _; have := HAT.out; rw [HM2.out] at this; omega
                  have HB3 : Hid ((XX2 ++ manyTo fThread s.Threads q ++ many fFrame x.Frames).length + 4 ≤ 1000000000) := by show _ ≤ _; have := HAT.out; rw [List.length_append]; omega
                  go_wp2_with (first
                    | (at_builtin; with_reducible refine wp_append_row (c := cap2) rfl rfl Try.underlying22 Try.info3 (by with_unfolding_all rfl) (by with_unfolding_all decide) (by first | rfl | simp [Act.eval, Act.put]) (by first | rfl | simp [Act.eval, Act.put]) HA2.out.own HR2.out HM2.out m2p HB2.out hs2 ?_; intro v3 w3 hown4 hg4 hst4; have HA3 := Lib.hid (HA2.out.grow hown4 hg4); have hk3 := HBB2.out.keep (hg4.block _ HBB2.out.lt (Ne.symm HNE.out)); have z1 := hk3.cell (j := 1) rfl; have z2 := hk3.cell (j := 2) rfl; have z3 := hk3.cell (j := 3) rfl; have z4 := hk3.cell (j := 4) rfl; have hs3 : w.heap.size + 1 ≤ w3.heap.size := HA3.out.size; clear hown4 hg4 hst4 hk3)
                    | (at_builtin; with_reducible refine wp_append_ints (cs := [.int .i64 x.State, .int .i64 x.On, .int .i64 x.Val.Kind, .int .i64 x.Val.N]) (ys := [x.State, x.On, x.Val.Kind, x.Val.N]) (m := 4) rfl rfl Try.underlying22 Try.info3 (by with_unfolding_all rfl) (by with_unfolding_all decide) (by first | rfl | simp [Act.eval, Act.put]) (by first | rfl | simp [Act.eval, Act.put]) rfl rfl HA3.out.own (by with_unfolding_all rfl) HI.out (by with_unfolding_all rfl) (by omega) HB3.out hs3 ?_; intro v5 w5 hown4 hg4 hst4; have HA5 := Lib.hid (HA3.out.grow hown4 hg4); clear hown4 hg4 hst4))
                  go_roundw
                  case rel => exact ⟨q + 1, by omega, by go_num, by have h5 := HA5.out; rw [HX.out, HQF.out]; simpa only [fVal, List.append_assoc, List.cons_append, List.nil_append] using h5⟩
                  case measure => simp [intOf]; omega
                · obtain rfl : n3 = q := by omega
                  obtain ⟨XX3, hXX⟩ : ∃ XX, XX = XX2 ++ manyTo fThread s.Threads n3 := ⟨_, rfl⟩
                  have HXX3 : Hid (XX3 = XX2 ++ many fThread s.Threads) := by show _ = _; rw [hXX, ← L3.out, manyTo_all]
                  rw [← hXX] at HA
                  clear hXX
                  have XB4 : Hid (XX3.length = (many fCell s.Cells).length + (many fShape s.Shapes).length + (many fText s.Texts).length + (many fThread s.Threads).length) := by show _ = _; rw [HXX3.out, List.length_append, XB3.out]
                  have HI : Hid (∀ y ∈ [(n4 : Int)], I64 y) := by show ∀ y ∈ _, _; intro y hy; simp at hy; subst hy; unfold I64; omega
                  have HBL : Hid (XX3.length + 1 ≤ 1000000000) := by show _ ≤ _; have := HL.out; have := XB4.out; have := many_one fEnd s.Ends; omega
                  have hbx' := HA.out.blk.cell (j := 4) rfl
                  go_wp2_with (at_builtin; with_reducible refine wp_append_ints (cs := [.int .i64 (n4 : Int)]) (ys := [(n4 : Int)]) (m := 1) rfl rfl Try.underlying22 Try.info3 (by with_unfolding_all rfl) (by with_unfolding_all decide) (by first | rfl | simp [Act.eval, Act.put]) (by first | rfl | simp [Act.eval, Act.put]) rfl rfl HA.out.own (by with_unfolding_all rfl) HI.out (by with_unfolding_all rfl) (by omega) HBL.out hsz ?_; intro v4 w4 hown' hg' hst'; have HA' := Lib.hid (HA.out.grow hown' hg'); have hbx2 := HA'.out.blk.cell (j := 4) rfl; clear hown' hg' hst' hbx hbx')
                  have HST : Hid (At [.slice a0 n0 c0, .slice a1 n1 c1, .slice a2 n2 c2, .slice a3 n3 c3, .slice a4 n4 c4, .slice a5 n5 c5, .int .i64 s.Asked, .int .i64 s.Steps] w w4 v4 (XX3 ++ manyTo fEnd s.Ends 0)) := by show At _ _ _ _ _; rw [manyTo_zero, L4.out]; exact HA'.out
                  clear HA HA' HI HBL
                  go_loopw [3, 10] (snapRel fEnd s.Ends XX3 [.slice a0 n0 c0, .slice a1 n1 c1, .slice a2 n2 c2, .slice a3 n3 c3, .slice a4 n4 c4, .slice a5 n5 c5, .int .i64 s.Asked, .int .i64 s.Steps] w n4) (fun _ i _ => n4 - (intOf i).toNat)
                  case atStart => exact ⟨0, Nat.zero_le _, rfl, HST.out⟩
                  case round =>
                    obtain ⟨q, hq, rfl, hat⟩ := hrel
                    have HA := Lib.hid hat
                    have hbx := hat.blk.cell (j := 4) rfl
                    have hsz : w.heap.size + 1 ≤ wr.heap.size := hat.size
                    clear hat HST
                    by_cases hlt : q < n4
                    · obtain ⟨x, hx⟩ := get_lt L4.out hlt
                      have hfx := many_at (f := fEnd) hx
                      have HX := Lib.hid (manyTo_succ (f := fEnd) hx)
                      have HFX := Lib.hid hfx
                      obtain ⟨b, off, rfl, hb, q0, q1, q2, g0, g1, g2⟩ := api_End_elem R4.out hx
                      have hbw : b < w.heap.size := HS.out b hb
                      have e0 := cell_below HA.out.below q0 hbw
                      have e1 := cell_below HA.out.below q1 hbw
                      have e2 := cell_below HA.out.below q2 hbw
                      have Q0 := Lib.hid q0
                      have Q1 := Lib.hid q1
                      have Q2 := Lib.hid q2
                      have HQF : Hid (fEnd x = [x.Cell, x.Fn.Kind, x.Fn.N]) := rfl
                      have HAT : Hid ((XX3 ++ manyTo fEnd s.Ends q).length + 3 ≤ 900000000) := by show _ ≤ _; rw [List.length_append]; have := HL.out; have := HFX.out; rw [HQF.out] at this; simp only [List.length_append, List.length_cons, List.length_nil] at *; have := XB4.out; omega
                      have HI : Hid (∀ y ∈ [x.Cell, x.Fn.Kind, x.Fn.N], I64 y) := by show ∀ y ∈ _, _; simp; exact ⟨g0, g1, g2⟩
                      clear hx hfx q0 g0 q1 g1 q2 g2
                      go_wp2_with fail
                      obtain ⟨gb, hgb⟩ : ∃ gb, wr.heap.size = gb := ⟨_, rfl⟩
                      go_region_held3 (fun w' => w'.cell? ⟨w.heap.size, 4, none⟩ = some (.slice (some ⟨b, off, none⟩) n4 c4) ∧ w'.cell? ⟨b, off + q * 3, none⟩ = some (.int .i64 x.Cell) ∧ w'.cell? ⟨b, off + q * 3 + 1, none⟩ = some (.int .i64 x.Fn.Kind) ∧ w'.cell? ⟨b, off + q * 3 + 2, none⟩ = some (.int .i64 x.Fn.N)) (first | exact ⟨hbx, e0, e1, e2⟩ | exact ⟨hbx1, d0, d1, d2⟩ | go_keep) (first | (refine step_append_ints (cs := [.int .i64 x.Cell, .int .i64 x.Fn.Kind, .int .i64 x.Fn.N]) (ys := [x.Cell, x.Fn.Kind, x.Fn.N]) (w0 := wr.drew) (g := wr.heap.size) (m := 3) rfl rfl Try.underlying22 Try.info3 rfl (by omega) (by simp [Act.eval, Act.put]) (by simp [Act.eval, Act.put]) rfl rfl HA.out.drew.own rfl HI.out rfl (by omega) (by have := HAT.out; omega) (by exact hsz) ?_; intro v1 w1 hown' hg' hst'; have HA1 := Lib.hid (HA.out.drew.grow hown' hg'); clear hown' hg' hst'; have hbx1 := HA1.out.blk.cell (j := 4) rfl; have d0 := cell_below HA1.out.below Q0.out hbw; have d1 := cell_below HA1.out.below Q1.out hbw; have d2 := cell_below HA1.out.below Q2.out hbw))
                      all_goals (clear hgb)
                      all_goals (go_wp2_with fail)
                      all_goals (go_roundw)
                      all_goals first
                        | exact ⟨q + 1, by omega, by go_num, by have h5 := HA1.out; rw [HX.out, HQF.out]; simpa only [List.append_assoc] using h5⟩
                        | (simp [intOf]; omega)
                    · obtain rfl : n4 = q := by omega
                      obtain ⟨XX4, hXX⟩ : ∃ XX, XX = XX3 ++ manyTo fEnd s.Ends n4 := ⟨_, rfl⟩
                      have HXX4 : Hid (XX4 = XX3 ++ many fEnd s.Ends) := by show _ = _; rw [hXX, ← L4.out, manyTo_all]
                      rw [← hXX] at HA
                      clear hXX
                      have XB5 : Hid (XX4.length = (many fCell s.Cells).length + (many fShape s.Shapes).length + (many fText s.Texts).length + (many fThread s.Threads).length + (many fEnd s.Ends).length) := by show _ = _; rw [HXX4.out, List.length_append, XB4.out]
                      obtain ⟨HT1, HT2⟩ : (∀ wz, Below w.heap.size w wz → Arr S wz a5 s.Said) ∧ (∀ wz, Below w.heap.size w wz → ∀ b, S b → b < wz.heap.size) := ⟨fun wz h => R5.out.keep (fun b hb => h.block b (HS.out b hb)), fun wz h b hb => Nat.lt_of_lt_of_le (HS.out b hb) h.size⟩
                      have HT1 := Lib.hid HT1; have HT2 := Lib.hid HT2
                      have hbx' := HA.out.blk.cell (j := 5) rfl
                      go_wp2_with fail
                      clear hbx hbx'
                      refine (flatVals_any (S := S) (c := c5) (HT1.out _ HA.out.below) (HT2.out _ HA.out.below) L5.out (by have := HL.out; omega)).mono ?_
                      rintro e w6 ⟨r6, rfl, ho3, hb3⟩
                      obtain ⟨a6, cap6, rfl, -, -, har3⟩ := ho3.arr
                      obtain ⟨m6, hm6⟩ : ∃ k, (many fVal s.Said).length = k := ⟨_, rfl⟩
                      rw [hm6]
                      have HM6 := Lib.hid hm6
                      have m6p : 0 < m6 := by have := many_one fVal s.Said; omega
                      have HA6 := Lib.hid (HA.out.call hb3)
                      have HR6 := Lib.hid har3
                      clear ho3 hb3 har3 hm6
                      have hs6 : w.heap.size + 1 ≤ w6.heap.size := HA6.out.size
                      have HB6 : Hid (XX4.length + m6 ≤ 1000000000) := by show _ ≤ _; have := HL.out; have := XB5.out; have := HM6.out; omega
                      have HB7 : Hid ((XX4 ++ many fVal s.Said).length + 2 ≤ 1000000000) := by show _ ≤ _; have := HL.out; have := XB5.out; rw [List.length_append]; omega
                      have HI7 : Hid (∀ y ∈ [s.Asked, s.Steps], I64 y) := by show ∀ y ∈ _, _; simp; exact ⟨i6, i7⟩
                      have HFS : Hid (XX4 ++ many fVal s.Said ++ [s.Asked, s.Steps] = fState s) := by show _ = _; rw [HXX4.out, HXX3.out, HXX2.out, HXX1.out, HXX0.out]; simp only [fState, List.append_assoc, List.nil_append]
                      go_wp2_with (first
                        | (at_builtin; with_reducible refine wp_append_row (c := cap6) rfl rfl Try.underlying22 Try.info3 (by with_unfolding_all rfl) (by with_unfolding_all decide) (by first | rfl | simp [Act.eval, Act.put]) (by first | rfl | simp [Act.eval, Act.put]) HA6.out.own HR6.out HM6.out m6p HB6.out hs6 ?_; intro v7 w7 hown4 hg4 hst4; have HA7 := Lib.hid (HA6.out.grow hown4 hg4); have z1 := HA7.out.blk.cell (j := 6) rfl; have z2 := HA7.out.blk.cell (j := 7) rfl; have hs7 : w.heap.size + 1 ≤ w7.heap.size := HA7.out.size; clear hown4 hg4 hst4)
                        | (at_builtin; with_reducible refine wp_append_ints (cs := [.int .i64 s.Asked, .int .i64 s.Steps]) (ys := [s.Asked, s.Steps]) (m := 2) rfl rfl Try.underlying22 Try.info3 (by with_unfolding_all rfl) (by with_unfolding_all decide) (by first | rfl | simp [Act.eval, Act.put]) (by first | rfl | simp [Act.eval, Act.put]) rfl rfl HA7.out.own (by with_unfolding_all rfl) HI7.out (by with_unfolding_all rfl) (by omega) HB7.out hs7 ?_; intro v8 w8 hown4 hg4 hst4; have HA8 := Lib.hid (HA7.out.grow hown4 hg4); clear hown4 hg4 hst4))
                      go_ret
                      exact ⟨_, rfl, by rw [← HFS.out]; exact HA8.out.own.low (by omega), HA8.out.below⟩
end Go.Proofs.Ytimlhjjdaggiiaa.flat
