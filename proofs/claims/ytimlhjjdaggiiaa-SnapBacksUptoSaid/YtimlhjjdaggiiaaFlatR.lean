/- SnapFlats: the document's flat lists of values and frames, walked. -/
import Derived.Test.YtimlhjjdaggiiaaFlatB
import Derived.Test.YtimlhjjdaggiiaaSlices
set_option linter.unusedVariables false
set_option linter.unusedSimpArgs false
namespace Go.Proofs.Ytimlhjjdaggiiaa.flat
open Go.Bk Go.RowKit

/-- A list that grows behind what stands ahead. -/
def outRel {α : Type} (f : α → List Int) (l : List α) (xs : List Int) (w : World) (B n : Nat) (out i : Value) (w' : World) : Prop :=
  ∃ q : Nat, q ≤ n ∧ i = .int .i64 q ∧ Own (fun _ => False) w' B 3 out (xs ++ manyTo f l q) ∧ Below B w w'
theorem own_box {w : World} {B g : Nat} {x : Int} (h : Blk w g 3 [.int .i64 x]) (hB : B ≤ g) (hx : I64 x) : Own (fun _ => False) w B 3 (.slice (some ⟨g, 0, none⟩) 1 1) [x] :=
  own_of_cells hB h rfl (Nat.le_refl _) (by unfold maxLen; omega) rfl rfl (by simpa using hx)

set_option maxRecDepth 100000 in
theorem flatVals_any {S : Nat → Prop} {w : World} {c n : Nat} {a : Option Addr} {l : List Api.Val} (h : Arr S w a l) (hS : ∀ b, S b → b < w.heap.size) (hn : l.length = n) (hl : (many fVal l).length ≤ 900000000) :
    Calls Try.prog 75 #[.slice a n c] w (RetOwn 3 w (many fVal l)) := by
  have hsm := h.small
  rw [hn] at hsm
  unfold maxLen at hsm
  have HN := Lib.hid hn; have HL := Lib.hid hl
  have hbx := own_box (B := w.heap.size) (blk_new w [.int .i64 (n : Int)] 3) (Nat.le_refl _) (by unfold I64; omega)
  have HO : Hid (Own (fun _ => False) (w.alloc (.cells #[.int .i64 (n : Int)] 3)) w.heap.size 3 (.slice (some ⟨w.heap.size, 0, none⟩) 1 1) ([] ++ manyTo fVal l 0)) := by show Own _ _ _ _ _ _; rw [manyTo_zero, hn]; exact hbx
  clear hn hbx hl
  go_enter Try.func75, Try.ntmps75
  go_wp2_with fail
  go_loopw [3, 4] (outRel fVal l [] w w.heap.size n) (fun _ i _ => n - (intOf i).toNat)
  case atStart => exact ⟨0, Nat.zero_le _, rfl, HO.out, (Below.refl _ _).alloc (Nat.le_refl _) _⟩
  case round =>
    obtain ⟨q, hq, rfl, hown, hbw⟩ := hrel
    have HOW := Lib.hid hown; have HBW := Lib.hid hbw
    have h' := h.keep (w' := wr) (fun b hb => hbw.block b (hS b hb))
    have hbs : w.heap.size ≤ wr.heap.size := hbw.size
    clear hown hbw HO
    by_cases hlt : q < n
    · obtain ⟨x, hx⟩ := get_lt HN.out hlt
      obtain ⟨b, off, rfl, hb, q1, q2, g1, g2⟩ := api_Val_elem h' hx
      have hbl : b < wr.heap.size := Nat.lt_of_lt_of_le (hS b hb) hbs
      have hat := many_at (f := fVal) hx
      have HX := Lib.hid (manyTo_succ (f := fVal) hx)
      have HAT : Hid (([] ++ manyTo fVal l q).length + 2 ≤ 1000000000) := by show _ ≤ _; rw [List.nil_append]; have := HL.out; simp [fVal] at hat; omega
      have HI : Hid (∀ y ∈ [x.Kind, x.N], I64 y) := by show ∀ y ∈ _, _; simp; exact ⟨g1, g2⟩
      have HOD : Hid (Own (fun _ => False) wr.drew w.heap.size 3 u3 ([] ++ manyTo fVal l q)) := HOW.out.below (Below.refl _ _).drew (fun _ h => h.elim)
      clear h h' hx hat g1 g2
      go_wp2_with fail
      obtain ⟨gb, hgb⟩ : ∃ gb, wr.heap.size = gb := ⟨_, rfl⟩
      go_region_law (refine step_append_ints (cs := [.int .i64 x.Kind, .int .i64 x.N]) (ys := [x.Kind, x.N]) (w0 := wr.drew) (g := wr.heap.size) (m := 2) rfl rfl Try.underlying22 Try.info3 rfl (by omega) (by simp [Act.eval, Act.put]) (by simp [Act.eval, Act.put]) rfl rfl HOD.out rfl HI.out rfl (by omega) HAT.out (by exact hbs) ?_; intro v' w' hown' hg' hst'; have HN1 := Lib.hid hown'; have HN3 := Lib.hid hg'; clear hown' hg' hst')
      all_goals (clear hgb)
      all_goals (go_wp2_with fail)
      all_goals (go_roundw)
      all_goals first
        | exact ⟨q + 1, by omega, by go_num, by rw [HX.out, ← List.append_assoc]; exact HN1.out, HBW.out.drew.grown HN3.out hbs (fun k hk => (HOD.out.lt k hk).1)⟩
        | (simp [intOf]; omega)
    · obtain rfl : q = n := by omega
      have HF : Hid ([] ++ manyTo fVal l q = many fVal l) := by show _ = _; rw [← HN.out, manyTo_all]; rfl
      clear h h'
      go_wp2_with fail
      go_ret
      exact ⟨_, rfl, by rw [← HF.out]; exact HOW.out, HBW.out⟩

/-- A list that grows behind what stands ahead, all else left alone. -/
def growRel {α : Type} (f : α → List Int) (l : List α) (xs : List Int) (w : World) (B n : Nat) (v out i : Value) (w' : World) : Prop :=
  ∃ q : Nat, q ≤ n ∧ i = .int .i64 q ∧ Own (fun _ => False) w' B 3 out (xs ++ manyTo f l q) ∧ Grew v w out w'

set_option maxRecDepth 100000 in
set_option maxHeartbeats 1000000 in
theorem flatFrames_any {S : Nat → Prop} {w : World} {c n : Nat} {a : Option Addr} {l : List Api.Frame} (h : Arr S w a l) (hS : ∀ b, S b → b < w.heap.size) (hn : l.length = n) (hl : (many fFrame l).length ≤ 900000000) :
    Calls Try.prog 76 #[.slice a n c] w (RetOwn 3 w (many fFrame l)) := by
  have hsm := h.small
  rw [hn] at hsm
  unfold maxLen at hsm
  have HN := Lib.hid hn; have HL := Lib.hid hl
  have hbx := own_box (B := w.heap.size) (blk_new w [.int .i64 (n : Int)] 3) (Nat.le_refl _) (by unfold I64; omega)
  have HO : Hid (Own (fun _ => False) (w.alloc (.cells #[.int .i64 (n : Int)] 3)) w.heap.size 3 (.slice (some ⟨w.heap.size, 0, none⟩) 1 1) ([] ++ manyTo fFrame l 0)) := by show Own _ _ _ _ _ _; rw [manyTo_zero, hn]; exact hbx
  clear hn hbx hl
  go_enter Try.func76, Try.ntmps76
  go_wp2_with fail
  go_loopw [3, 4] (outRel fFrame l [] w w.heap.size n) (fun _ i _ => n - (intOf i).toNat)
  case atStart => exact ⟨0, Nat.zero_le _, rfl, HO.out, (Below.refl _ _).alloc (Nat.le_refl _) _⟩
  case round =>
    obtain ⟨q, hq, rfl, hown, hbw⟩ := hrel
    have HOW := Lib.hid hown; have HBW := Lib.hid hbw
    have h' := h.keep (w' := wr) (fun b hb => hbw.block b (hS b hb))
    have hbs : w.heap.size ≤ wr.heap.size := hbw.size
    clear hown hbw HO
    by_cases hlt : q < n
    · obtain ⟨x, hx⟩ := get_lt HN.out hlt
      obtain ⟨b, off, a6, c6, a7, c7, rfl, hb, q1, q2, q3, q4, q5, q6, q7, q8, g1, g2, g3, g4, g5, g6, ⟨g7, g8, g9⟩, ⟨g10, g11, g12⟩⟩ := api_Frame_elem h' hx
      have hbl : b < wr.heap.size := Nat.lt_of_lt_of_le (hS b hb) hbs
      obtain ⟨n6, hn6⟩ : ∃ k, x.Regs.length = k := ⟨_, rfl⟩
      obtain ⟨n7, hn7⟩ : ∃ k, x.Tries.length = k := ⟨_, rfl⟩
      rw [hn6] at q7
      rw [hn7] at q8
      have hsm7 := g12.small
      rw [hn7] at hsm7
      unfold maxLen at hsm7
      have HN6 := Lib.hid hn6; have HN7 := Lib.hid hn7; have G9 := Lib.hid g9; have G12 := Lib.hid g12
      clear hn6 hn7 g9 g12 g7 g8 g10 g11
      have HS' : Hid (∀ b, S b → b < wr.heap.size) := fun b hb => Nat.lt_of_lt_of_le (hS b hb) hbs
      have hat := many_at (f := fFrame) hx
      have HX := Lib.hid (manyTo_succ (f := fFrame) hx)
      have HFX : Hid (fFrame x = [x.Fn, x.At, x.To, x.Gen, x.Self.Kind, x.Self.N] ++ (many fVal x.Regs ++ many fTry x.Tries)) := rfl
      have HAT : Hid (([] ++ manyTo fFrame l q).length + (6 + ((many fVal x.Regs).length + (many fTry x.Tries).length)) ≤ 900000000) := by show _ ≤ _; rw [List.nil_append]; have := HL.out; rw [HFX.out] at hat; simp only [List.length_append, List.length_cons, List.length_nil] at hat; omega
      have HI : Hid (∀ y ∈ [x.Fn, x.At, x.To, x.Gen, x.Self.Kind, x.Self.N], I64 y) := by show ∀ y ∈ _, _; simp only [List.mem_cons, List.not_mem_nil, or_false]; rintro y (rfl | rfl | rfl | rfl | rfl | rfl) <;> assumption
      clear h h' hx hat g1 g2 g3 g4 g5 g6
      have HOD : Hid (∀ o, Own (fun _ => False) (wr.alloc o) w.heap.size 3 u3 ([] ++ manyTo fFrame l q)) := fun o => HOW.out.alloc o (fun _ h => h.elim)
      have HBX : Hid (Blk (wr.alloc (.cells #[.int .i64 x.Fn, .int .i64 x.At, .int .i64 x.To, .int .i64 x.Gen, .int .i64 x.Self.Kind, .int .i64 x.Self.N, .slice a6 n6 c6, .slice a7 n7 c7] 207)) wr.heap.size 207 [.int .i64 x.Fn, .int .i64 x.At, .int .i64 x.To, .int .i64 x.Gen, .int .i64 x.Self.Kind, .int .i64 x.Self.N, .slice a6 n6 c6, .slice a7 n7 c7]) := blk_new wr _ _
      have hne : u3.ownBlock ≠ some wr.heap.size := fun he => by have := (HOW.out.lt _ he).2; omega
      have HNE := Lib.hid hne
      have HFREE : Hid (∀ b, S b → b < (wr.alloc (.cells #[.int .i64 x.Fn, .int .i64 x.At, .int .i64 x.To, .int .i64 x.Gen, .int .i64 x.Self.Kind, .int .i64 x.Self.N, .slice a6 n6 c6, .slice a7 n7 c7] 207)).heap.size ∧ u3.ownBlock ≠ some b) := fun b hb => ⟨by have := HS'.out b hb; simp; omega, fun he => by have := (HOW.out.lt _ he).1; have := hS b hb; omega⟩
      clear hne
      go_wp2_with (at_builtin; with_reducible refine wp_append_ints (cs := [.int .i64 x.Fn, .int .i64 x.At, .int .i64 x.To, .int .i64 x.Gen, .int .i64 x.Self.Kind, .int .i64 x.Self.N]) (ys := [x.Fn, x.At, x.To, x.Gen, x.Self.Kind, x.Self.N]) (m := 6) rfl rfl Try.underlying22 Try.info3 (by with_unfolding_all rfl) (by with_unfolding_all decide) (by first | rfl | simp [Act.eval, Act.put]) (by first | rfl | simp [Act.eval, Act.put]) rfl rfl (HOD.out _) (by with_unfolding_all rfl) HI.out (by with_unfolding_all rfl) (by omega) (by have := HAT.out; omega) (by simp; omega) ?_; intro v1 wa hown1 hg1 hst1; have HN1 := Lib.hid hown1; have HN3 := Lib.hid (Grew.of_grown hg1 hst1); have ha5 := (HN3.out.blk HBX.out HNE.out).cell (j := 6) rfl; clear hown1 hg1 hst1)
      refine (flatVals_any (S := S) (c := c6) ((HN3.out.arr (G9.out.keep (fun b hb => Below.heap_alloc _ _ _ (HS'.out b hb))) HFREE.out)) (fun b hb => Nat.lt_of_lt_of_le (HFREE.out b hb).1 HN3.out.size) HN6.out (by have := HAT.out; omega)).mono ?_
      rintro e w3 ⟨r3, rfl, ho3, hb3⟩
      obtain ⟨a3, cap3, rfl, -, -, har3⟩ := ho3.arr
      obtain ⟨m6, hm6⟩ : ∃ k, (many fVal x.Regs).length = k := ⟨_, rfl⟩
      rw [hm6]
      have HM6 := Lib.hid hm6
      have hm60 : 0 < m6 := by have := many_one fVal x.Regs; omega
      have hs3 : wa.heap.size ≤ w3.heap.size := hb3.size
      have hsa : (wr.alloc (.cells #[.int .i64 x.Fn, .int .i64 x.At, .int .i64 x.To, .int .i64 x.Gen, .int .i64 x.Self.Kind, .int .i64 x.Self.N, .slice a6 n6 c6, .slice a7 n7 c7] 207)).heap.size ≤ wa.heap.size := HN3.out.size
      simp only [World.size_alloc] at hsa
      have HO3 := Lib.hid (HN1.out.below hb3 (fun _ h => h.elim))
      have HG3 := Lib.hid (HN3.out.trans (Grew.of_below (v := v1) hb3))
      have HR3 := Lib.hid har3
      have HB3 : Hid (([] ++ manyTo fFrame l q ++ [x.Fn, x.At, x.To, x.Gen, x.Self.Kind, x.Self.N]).length + m6 ≤ 1000000000) := by show _ ≤ _; have := HAT.out; rw [hm6] at this; rw [List.length_append]; simp only [List.length_cons, List.length_nil]; omega
      clear ho3 hb3 har3 hm6 ha5
      have HB4 : Hid (([] ++ manyTo fFrame l q ++ [x.Fn, x.At, x.To, x.Gen, x.Self.Kind, x.Self.N] ++ many fVal x.Regs).length + 1 ≤ 1000000000) := by show _ ≤ _; rw [List.length_append, HM6.out]; have := HAT.out; rw [HM6.out] at this; rw [List.length_append]; simp only [List.length_cons, List.length_nil]; omega
      have HI7 : Hid (∀ y ∈ [(n7 : Int)], I64 y) := by show ∀ y ∈ _, _; intro y hy; simp at hy; subst hy; unfold I64; omega
      go_wp2_with (first
        | (at_builtin; with_reducible refine wp_append_row (c := cap3) rfl rfl Try.underlying22 Try.info3 (by with_unfolding_all rfl) (by with_unfolding_all decide) (by first | rfl | simp [Act.eval, Act.put]) (by first | rfl | simp [Act.eval, Act.put]) HO3.out HR3.out HM6.out hm60 HB3.out (by omega) ?_; intro v4 w4 hown4 hg4 hst4; have HN4 := Lib.hid hown4; have HG4 := Lib.hid (HG3.out.trans (Grew.of_grown hg4 hst4)); have ha7 := (HG4.out.blk HBX.out HNE.out).cell (j := 7) rfl; have hs4 : w3.heap.size ≤ w4.heap.size := hg4.size; clear hown4 hg4 hst4)
        | (at_builtin; with_reducible refine wp_append_ints (cs := [.int .i64 (n7 : Int)]) (ys := [(n7 : Int)]) (m := 1) rfl rfl Try.underlying22 Try.info3 (by with_unfolding_all rfl) (by with_unfolding_all decide) (by first | rfl | simp [Act.eval, Act.put]) (by first | rfl | simp [Act.eval, Act.put]) rfl rfl HN4.out (by with_unfolding_all rfl) HI7.out (by with_unfolding_all rfl) (by omega) HB4.out (by omega) ?_; intro v5 w5 hown5 hg5 hst5; have HN5 := Lib.hid hown5; have HG5 := Lib.hid (HG4.out.trans (Grew.of_grown hg5 hst5)); have hs5 : w4.heap.size ≤ w5.heap.size := hg5.size; clear hown5 hg5 hst5 ha7))
      obtain ⟨XS, hXS⟩ : ∃ XS, XS = [] ++ manyTo fFrame l q ++ [x.Fn, x.At, x.To, x.Gen, x.Self.Kind, x.Self.N] ++ many fVal x.Regs := ⟨_, rfl⟩
      have HXS := Lib.hid hXS
      have HO5 : Hid (Own (fun _ => False) w5 w.heap.size 3 v5 (XS ++ manyTo fTry x.Tries 0)) := by show Own _ _ _ _ _ _; rw [manyTo_zero, HN7.out, hXS]; exact HN5.out
      have HLX : Hid (XS.length + (many fTry x.Tries).length ≤ 900000000) := by show _ ≤ _; have := HAT.out; rw [hXS, List.length_append, List.length_append]; simp only [List.length_cons, List.length_nil]; omega
      clear hXS HN5 HN4 HO3 HR3 HB3 HB4 HN1 HG4 HG3 HN3
      have HA7 : Hid (Arr S (wr.alloc (.cells #[.int .i64 x.Fn, .int .i64 x.At, .int .i64 x.To, .int .i64 x.Gen, .int .i64 x.Self.Kind, .int .i64 x.Self.N, .slice a6 n6 c6, .slice a7 n7 c7] 207)) a7 x.Tries) := G12.out.keep (fun b hb => Below.heap_alloc _ _ _ (HS'.out b hb))
      have HBW5 : Hid (Below w.heap.size w w5) := (HBW.out.alloc hbs _).trans (HG5.out.below (fun k hk => (HOW.out.lt k hk).1) (by simp; omega))
      obtain ⟨wo, rfl⟩ : ∃ wo : World, wo = wr := ⟨_, rfl⟩
      obtain ⟨vo, rfl⟩ : ∃ vo : Value, vo = u3 := ⟨_, rfl⟩
      go_loopw [3, 6] (growRel fTry x.Tries XS w5 w.heap.size n7 v5) (fun _ i _ => n7 - (intOf i).toNat)
      case atStart => exact ⟨0, Nat.zero_le _, rfl, HO5.out, Grew.refl _ _⟩
      case round =>
        obtain ⟨p, hp, rfl, ho', hg'⟩ := hrel
        have HGW := Lib.hid (HG5.out.trans hg')
        have HOP := Lib.hid ho'
        have HBP := Lib.hid (HBW5.out.trans (hg'.below (fun k hk => (HO5.out.lt k hk).1) (by omega)))
        have hs6 : w5.heap.size ≤ wr.heap.size := hg'.size
        have ha7 := (HGW.out.blk HBX.out HNE.out).cell (j := 7) rfl
        have h7 := HGW.out.arr HA7.out HFREE.out
        have HG6 := Lib.hid hg'
        clear ho' hg' q1 q2 q3 q4 q5 q6 q7 q8
        by_cases hlt7 : p < n7
        · obtain ⟨y, hy⟩ := get_lt HN7.out hlt7
          obtain ⟨b2, off2, rfl, hb2, q1, q2, g1, g2⟩ := api_Try_elem h7 hy
          have hbl2 : b2 < wr.heap.size := Nat.lt_of_lt_of_le (HS'.out b2 hb2) (by omega)
          have hat2 := many_at (f := fTry) hy
          have HY := Lib.hid (manyTo_succ (f := fTry) hy)
          have HAT2 : Hid ((XS ++ manyTo fTry x.Tries p).length + 2 ≤ 1000000000) := by show _ ≤ _; rw [List.length_append]; have := HLX.out; simp [fTry] at hat2; omega
          have HI2 : Hid (∀ z ∈ [y.Reg, y.At], I64 z) := by show ∀ z ∈ _, _; simp; exact ⟨g1, g2⟩
          have HOD2 : Hid (Own (fun _ => False) wr.drew w.heap.size 3 u3 (XS ++ manyTo fTry x.Tries p)) := HOP.out.below (Below.refl _ _).drew (fun _ h => h.elim)
          have hbs2 : w.heap.size ≤ wr.heap.size := by omega
          clear h7 hy hat2 g1 g2
          go_wp2_with fail
          obtain ⟨gb, hgb⟩ : ∃ gb, wr.heap.size = gb := ⟨_, rfl⟩
          go_region_law (refine step_append_ints (cs := [.int .i64 y.Reg, .int .i64 y.At]) (ys := [y.Reg, y.At]) (w0 := wr.drew) (g := wr.heap.size) (m := 2) rfl rfl Try.underlying22 Try.info3 rfl (by omega) (by simp [Act.eval, Act.put]) (by simp [Act.eval, Act.put]) rfl rfl HOD2.out rfl HI2.out rfl (by omega) HAT2.out (by exact hbs2) ?_; intro v' w' hown' hg' hst'; have HZ1 := Lib.hid hown'; have HZ3 := Lib.hid (HG6.out.trans ((Grew.drew _ _).trans (Grew.of_grown hg' hst'))); clear hown' hg' hst')
          all_goals (clear hgb)
          all_goals (go_wp2_with fail)
          all_goals (go_roundw)
          all_goals first
            | exact ⟨p + 1, by omega, by go_num, by rw [HY.out, ← List.append_assoc]; exact HZ1.out, HZ3.out⟩
            | (simp [intOf]; omega)
        · obtain rfl : p = n7 := by omega
          have HQ : Hid (XS ++ manyTo fTry x.Tries p = [] ++ manyTo fFrame l (q + 1)) := by show _ = _; rw [HX.out, HXS.out, HFX.out, ← HN7.out, manyTo_all]; simp only [List.append_assoc]
          clear h7
          go_wp2_with fail
          go_roundw
          case rel => exact ⟨q + 1, by omega, by go_num, by rw [← HQ.out]; exact HOP.out, HBP.out⟩
          case measure => simp [intOf]; omega
    · obtain rfl : q = n := by omega
      have HF : Hid ([] ++ manyTo fFrame l q = many fFrame l) := by show _ = _; rw [← HN.out, manyTo_all]; rfl
      clear h h'
      go_wp2_with fail
      go_ret
      exact ⟨_, rfl, by rw [← HF.out]; exact HOW.out, HBW.out⟩
end Go.Proofs.Ytimlhjjdaggiiaa.flat
