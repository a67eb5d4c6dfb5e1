/- SnapBacks: the law, walked. -/
import Derived.Test.YtimlhjjdaggiiaaSbK
import Derived.Test.YtimlhjjdaggiiaaFlatS
import Derived.Test.YtimlhjjdaggiiaaFlatLaw
import Derived.Test.YtimlhjjdaggiiaaMin
set_option linter.unusedVariables false
set_option linter.unusedSimpArgs false
namespace Go.Proofs.Ytimlhjjdaggiiaa.flat
open Go.Bk Go.RowKit

/-- A state's eight cells. -/
theorem state_eight {S : Nat → Prop} {w : World} {cs : List Value} {s : Api.State} (h : Rep.cells S w cs s) : ∃ v0 v1 v2 v3 v4 v5 v6 v7, cs = [v0, v1, v2, v3, v4, v5, v6, v7] := by
  have hl : cs.length = 8 := Rep.len h
  match cs, hl with
  | [v0, v1, v2, v3, v4, v5, v6, v7], _ => exact ⟨v0, v1, v2, v3, v4, v5, v6, v7, rfl⟩
/-- The flat list of a state that lies in cells. -/
theorem snapFlat_cs {S : Nat → Prop} {wz : World} {cs : List Value} {s : Api.State} (hc : Rep.cells S wz cs s) (hS : ∀ b, S b → b < wz.heap.size) (hl : (fState s).length ≤ 900000000) : Calls Try.prog 19 #[.agg cs.toArray] wz (RetOwn 3 wz (fState s)) := by
  obtain ⟨a0, c0, a1, c1, a2, c2, a3, c3, a4, c4, a5, c5, rfl, ⟨-, -, g0⟩, ⟨-, -, g1⟩, ⟨-, -, g2⟩, ⟨-, -, g3⟩, ⟨-, -, g4⟩, ⟨-, -, g5⟩, g6, g7⟩ := api_State_cells_eq hc
  exact snapFlat_any hS rfl rfl rfl rfl rfl rfl g0 g1 g2 g3 g4 g5 g6 g7 hl
theorem zero64 : I64 0 := by unfold I64; omega
theorem flat_none {w : World} : Rep.cells (fun _ => False) w [.slice none 0 0, .slice none 0 0, .slice none 0 0, .slice none 0 0, .slice none 0 0, .slice none 0 0, .int .i64 0, .int .i64 0] (⟨[], [], [], [], [], [], 0, 0⟩ : Api.State) :=
  ⟨[_], _, ⟨none, 0, rfl, Nat.le_refl _, fun _ => rfl, Arr.nil _ _ _⟩, ⟨[_], _, ⟨none, 0, rfl, Nat.le_refl _, fun _ => rfl, Arr.nil _ _ _⟩, ⟨[_], _, ⟨none, 0, rfl, Nat.le_refl _, fun _ => rfl, Arr.nil _ _ _⟩, ⟨[_], _, ⟨none, 0, rfl, Nat.le_refl _, fun _ => rfl, Arr.nil _ _ _⟩,
    ⟨[_], _, ⟨none, 0, rfl, Nat.le_refl _, fun _ => rfl, Arr.nil _ _ _⟩, ⟨[_], _, ⟨none, 0, rfl, Nat.le_refl _, fun _ => rfl, Arr.nil _ _ _⟩, ⟨_, _, ⟨rfl, zero64⟩, ⟨rfl, zero64⟩, rfl⟩, rfl⟩, rfl⟩, rfl⟩, rfl⟩, rfl⟩, rfl⟩

theorem own_slice {wz : World} {v : Value} {xs : List Int} {B n : Nat} (hn : xs.length = n) (h : Own (fun _ => False) wz B 3 v xs) : ∃ a c, v = .slice a n c ∧ n ≤ c ∧ Arr (fun b => B ≤ b ∧ b < wz.heap.size) wz a xs := by
  subst hn
  obtain ⟨a, c, rfl, h1, -, h⟩ := h.arr
  exact ⟨a, c, rfl, h1, h.mono (fun b hb => hb.elim False.elim id)⟩
/-- The world is reached from W by new blocks alone; block bz holds no state. -/
structure Here (W wz : World) (bz : Nat) : Prop where
  below : Below W.heap.size W wz
  blk : Blk wz bz 36 [.slice none 0 0, .slice none 0 0, .slice none 0 0, .slice none 0 0, .slice none 0 0, .slice none 0 0, .int .i64 0, .int .i64 0]
  le : W.heap.size ≤ bz
section
variable {W wz w' : World} {bz : Nat}
theorem Here.call (h : Here W wz bz) (hb : Below wz.heap.size wz w') : Here W w' bz := ⟨h.below.trans (below_low hb h.below.size), h.blk.keep (hb.block _ h.blk.lt), h.le⟩
theorem Here.alloc (h : Here W wz bz) (o : Obj) : Here W (wz.alloc o) bz := h.call ((Below.refl _ _).alloc (Nat.le_refl _) _)
theorem Here.set (h : Here W wz bz) {k j : Nat} {v : Value} (hk : bz ≠ k) (hW : W.heap.size ≤ k) : Here W (wz.setCell ⟨k, j, none⟩ v) bz :=
  ⟨h.below.setCell (p := ⟨k, j, none⟩) hW v, h.blk.keep (blk_setCell_other _ _ _ hk), h.le⟩
end
def cellsSet (w : World) (b : Nat) : List Value → Nat → World
  | [], _ => w
  | v :: vs, j => cellsSet (w.setCell ⟨b, j, none⟩ v) b vs (j + 1)
theorem setCells_other (w : World) (b k : Nat) (hk : k ≠ b) : ∀ (vs : List Value) (j : Nat), (cellsSet w b vs j).heap[k]? = w.heap[k]?
  | vs, j => by
    induction vs generalizing w j with
    | nil => rfl
    | cons v vs ih => rw [cellsSet, ih, blk_setCell_other _ _ _ hk]
theorem own_sets {w : World} {B b : Nat} {e : TypeId} {v : Value} {xs : List Int} (h : Own (fun _ => False) w B e v xs) (hb : v.ownBlock ≠ some b) (vs : List Value) (j : Nat) : Own (fun _ => False) (cellsSet w b vs j) B e v xs := by
  induction vs generalizing w j with
  | nil => exact h
  | cons u vs ih =>
    refine ih (h.keep (row := some b) (grownBy_setCell (World.grownBy.refl _ _) j u) ?_ (fun _ h => h.elim)) _
    cases hv : v.ownBlock with
    | none => exact .inl rfl
    | some k => right; intro e; rw [hv] at hb; exact hb (by rw [← e])
theorem own_int_at {w : World} {B n : Nat} {e : TypeId} {v : Value} {xs : List Int} (h : Own (fun _ => False) w B e v xs) (hn : xs.length = n) {k : Nat} {x : Int} (hk : xs[k]? = some x) : ∃ g cap, v = .slice (some ⟨g, 0, none⟩) n cap ∧ B ≤ g ∧ g < w.heap.size ∧ n ≤ cap ∧
    w.cell? ⟨g, k, none⟩ = some (.int .i64 x) ∧ w.frozen? ⟨g, k, none⟩ = false ∧ I64 x ∧ ∀ y, I64 y → Own (fun _ => False) (w.setCell ⟨g, k, none⟩ (.int .i64 y)) B e v (xs.set k y) := by
  obtain ⟨g, cap, cs, rfl, h1, h2, h3, ⟨rfl, h0⟩, h4, h5, h6⟩ := h.at hk
  subst hn
  refine ⟨g, cap, rfl, h1, h2, h3, ?_, h5 _, h0, fun y hy => ?_⟩
  · simpa [show Rep.sz Int = 1 from rfl] using h4 0 Nat.zero_lt_one
  · simpa [show Rep.sz Int = 1 from rfl] using h6 0 (.int .i64 y) y Nat.zero_lt_one (fun _ h => h.elim) ⟨rfl, hy⟩

set_option maxRecDepth 100000 in
set_option maxHeartbeats 4000000 in
theorem snapBacks_walk (W : World) (args : Array Value) (h : ArgsBulk Try.prog W 1048576 [22, 36, 3, 3] args.toList) :
    Calls Try.prog 11 args W fun e W' => e = .returned (.bool true) ∧ Below W.heap.size W W' := by
  obtain ⟨v0, v1, v2, v3, rfl, r0, r1, r2, r3⟩ := h.four
  obtain ⟨al, xs, cl, rfl, hlc, -, hal, hxb⟩ := r0.slice Try.underlying22 Try.opensB22
  obtain ⟨cs, s, rfl, hcs, hb⟩ := r1.struct Try.underlying36 Try.opensB36
  obtain ⟨at', rfl, iat⟩ := r2.read.int Try.underlying3
  obtain ⟨x, rfl, ix⟩ := r3.read.int Try.underlying3
  rw [← state_bulk] at hb
  obtain ⟨s0, s1, s2, s3, s4, s5, s6, s7, rfl⟩ := state_eight hcs
  obtain ⟨nl, hnl⟩ : ∃ k, k = xs.length := ⟨_, rfl⟩
  rw [← hnl] at hlc ⊢
  obtain ⟨m, hm⟩ : ∃ m : Nat, (m : Int) = (if (400 : Int) < (nl : Int) then (400 : Int) else (nl : Int)) := ⟨if 400 < nl then 400 else nl, by split <;> split <;> omega⟩
  have hmn : m ≤ nl ∧ m ≤ 400 := by split at hm <;> omega
  have hsl : ∀ w : World, (Instr.slice 22 (.slice al nl cl) none (some (.int .i64 (m : Int))) none).run Try.prog w = .ok (.slice al m cl) w := fun w => run_slice_head (z := 1) Try.underlying22 (by kernel_rfl) al nl cl m (by omega) w
  have HMIN := Lib.hid hm.symm
  have HAL := Lib.hid (hal.take m)
  have HAN := Lib.hid (show (xs.take m).length = m by rw [List.length_take, ← hnl]; omega)
  have HCS := Lib.hid hcs
  clear hal hxb hcs r0 r1 r2 r3 h hm hnl
  have HE1 := Lib.hid (fun args w => Try.call48 args w)
  have HE2 := Lib.hid (fun args w => Try.call19 args w)
  have HE3 := Lib.hid (fun args w => Try.call17 args w)
  go_enter Try.func11, Try.ntmps11
  go_wp2_with (with_reducible refine wp_min_int rfl rfl rfl rfl HMIN.out ?_)
  all_goals (
    clear hsl
    have HX0 : Hid (Blk (W.alloc (.cells #[s0, s1, s2, s3, s4, s5, s6, s7] 36)) W.heap.size 36 [s0, s1, s2, s3, s4, s5, s6, s7]) := blk_new W _ _
    have HB0 : Hid (Below W.heap.size W (W.alloc (.cells #[s0, s1, s2, s3, s4, s5, s6, s7] 36))) := (Below.refl _ _).alloc (Nat.le_refl _) _
    obtain ⟨w0, hw0⟩ : ∃ w0, W.alloc (.cells #[s0, s1, s2, s3, s4, s5, s6, s7] 36) = w0 := ⟨_, rfl⟩
    rw [hw0] at HX0 HB0
    rw [hw0]
    clear hw0
    refine (back_any (S := (· < W.heap.size)) (fun b hb => Nat.lt_of_lt_of_le hb HB0.out.size) (HAL.out.keep (fun b hb => HB0.out.block b hb)) HAN.out (by omega) (by omega)).mono ?_
    rintro e w1 ⟨hb1, (⟨cs1, y, rfl, hc1, he1⟩ | ⟨rfl, hne1⟩)⟩
    · have HBW := Lib.hid (HB0.out.trans (below_low hb1 HB0.out.size))
      have HC1 := Lib.hid hc1; have HE := Lib.hid he1
      have HYN : Hid ((fState y).length = _) := he1 ▸ HAN.out
      obtain ⟨ya0, yc0, ya1, yc1, ya2, yc2, ya3, yc3, ya4, yc4, ya5, yc5, rfl, -⟩ := api_State_cells_eq hc1
      clear hb1 hc1 he1
      go_wp2_with fail
      refine (snapFlat_cs (S := Fresh w0 w1) (Rep.keep (fun b hb => Below.heap_alloc _ _ _ hb.2) HC1.out) (fun b hb => by rw [World.size_alloc]; exact Nat.lt_succ_of_lt hb.2) (by rw [HYN.out]; omega)).mono ?_
      rintro e w2 ⟨v, rfl, ho, hb2⟩
      obtain ⟨aF, kF, rfl, harF⟩ := flat_arr HYN.out ho
      have HAF := Lib.hid harF
      have HBW2 := Lib.hid ((below_al' HBW.out (Nat.le_refl _) _).trans (below_low hb2 (below_al' HBW.out (Nat.le_refl _) _).size))
      have HAL2 := Lib.hid (HAL.out.keep (fun b hb => HBW2.out.block b hb))
      clear ho harF hb2
      go_wp2_with fail
      refine (same_flat HYN.out HAF.out (HE.out ▸ HAL2.out)).mono ?_
      rintro e w3 ⟨rfl, hq⟩
      have HBW3 := Lib.hid (HBW2.out.trans (hq.below _))
      clear hq
      go_wp2_with fail
      go_ret
      exact ⟨rfl, HBW3.out⟩
    · have HBW := Lib.hid (HB0.out.trans (below_low hb1 HB0.out.size))
      have HX1 := Lib.hid (HX0.out.keep (hb1.block _ HX0.out.lt))
      have HH1 : Hid (Here W (w1.alloc (.cells #[.slice none 0 0, .slice none 0 0, .slice none 0 0, .slice none 0 0, .slice none 0 0, .slice none 0 0, .int .i64 0, .int .i64 0] 36)) w1.heap.size) := ⟨below_al' HBW.out (Nat.le_refl _) _, blk_new w1 _ _, HBW.out.size⟩
      have z0 := HX1.out.cell (j := 0) rfl; have z1 := HX1.out.cell (j := 1) rfl; have z2 := HX1.out.cell (j := 2) rfl; have z3 := HX1.out.cell (j := 3) rfl; have z4 := HX1.out.cell (j := 4) rfl; have z5 := HX1.out.cell (j := 5) rfl; have z6 := HX1.out.cell (j := 6) rfl; have z7 := HX1.out.cell (j := 7) rfl
      have hlx1 := HX1.out.lt
      clear hb1 hne1
      go_wp2_with fail
      have HX2 := Lib.hid (HX1.out.keep (w' := w1.alloc (.cells #[.slice none 0 0, .slice none 0 0, .slice none 0 0, .slice none 0 0, .slice none 0 0, .slice none 0 0, .int .i64 0, .int .i64 0] 36)) (Below.heap_alloc _ _ _ HX1.out.lt))
      obtain ⟨wA, hwA⟩ : ∃ wA, w1.alloc (.cells #[.slice none 0 0, .slice none 0 0, .slice none 0 0, .slice none 0 0, .slice none 0 0, .slice none 0 0, .int .i64 0, .int .i64 0] 36) = wA := ⟨_, rfl⟩
      rw [hwA] at HX2 HH1
      rw [hwA]
      clear hwA z0 z1 z2 z3 z4 z5 z6 z7
      refine (snapFlat_cs (S := (· < W.heap.size)) (Rep.keep (fun b hb => HH1.out.below.block b hb) HCS.out) (fun b hb => Nat.lt_of_lt_of_le hb HH1.out.below.size) (by omega)).mono ?_
      rintro e w2 ⟨v, rfl, ho2, hb2⟩
      obtain ⟨n, hn⟩ : ∃ k, (fState s).length = k := ⟨_, rfl⟩
      obtain ⟨aM, kM, rfl, hkM, harM⟩ := own_slice hn ho2
      have HN := Lib.hid hn
      rw [hn] at hb
      have HO2 := Lib.hid ho2
      have HH2 := Lib.hid (HH1.out.call hb2)
      have hs2 := hb2.size
      clear hn ho2 hb2
      go_wp2_with fail
      refine (back_any (S := fun b => wA.heap.size ≤ b ∧ b < w2.heap.size) (fun b hb => hb.2) harM HN.out hkM (by omega)).mono ?_
      clear harM
      rintro e w3 ⟨hb3, (⟨cs3, y, rfl, hc3, he3⟩ | ⟨-, hne3⟩)⟩
      case inr => exact absurd rfl (hne3 s)
      have HC3 := Lib.hid hc3; have HE := Lib.hid he3
      have HYN : Hid ((fState y).length = n) := he3 ▸ HN.out
      have HH3 := Lib.hid (HH2.out.call hb3)
      have HO3 := Lib.hid (HO2.out.below hb3 (fun _ h => h.elim))
      have hs3 := hb3.size
      obtain ⟨ya0, yc0, ya1, yc1, ya2, yc2, ya3, yc3, ya4, yc4, ya5, yc5, rfl, -⟩ := api_State_cells_eq hc3
      clear hb3 hc3 he3
      go_wp2_with fail
      have HH4 := Lib.hid (HH3.out.alloc (.cells #[.slice ya0 y.Cells.length yc0, .slice ya1 y.Shapes.length yc1, .slice ya2 y.Texts.length yc2, .slice ya3 y.Threads.length yc3, .slice ya4 y.Ends.length yc4, .slice ya5 y.Said.length yc5, .int .i64 y.Asked, .int .i64 y.Steps] 36))
      have HO4 := Lib.hid (HO3.out.alloc (.cells #[.slice ya0 y.Cells.length yc0, .slice ya1 y.Shapes.length yc1, .slice ya2 y.Texts.length yc2, .slice ya3 y.Threads.length yc3, .slice ya4 y.Ends.length yc4, .slice ya5 y.Said.length yc5, .int .i64 y.Asked, .int .i64 y.Steps] 36) (fun _ h => h.elim))
      have HY4 : Hid (Blk (w3.alloc (.cells #[.slice ya0 y.Cells.length yc0, .slice ya1 y.Shapes.length yc1, .slice ya2 y.Texts.length yc2, .slice ya3 y.Threads.length yc3, .slice ya4 y.Ends.length yc4, .slice ya5 y.Said.length yc5, .int .i64 y.Asked, .int .i64 y.Steps] 36)) w3.heap.size 36 [.slice ya0 y.Cells.length yc0, .slice ya1 y.Shapes.length yc1, .slice ya2 y.Texts.length yc2, .slice ya3 y.Threads.length yc3, .slice ya4 y.Ends.length yc4, .slice ya5 y.Said.length yc5, .int .i64 y.Asked, .int .i64 y.Steps]) := blk_new _ _ _
      refine (snapFlat_cs (S := Fresh w2 w3) (Rep.keep (fun b hb => Below.heap_alloc _ _ _ hb.2) HC3.out) (fun b hb => by rw [World.size_alloc]; exact Nat.lt_succ_of_lt hb.2) (by rw [HYN.out]; omega)).mono ?_
      rintro e w4 ⟨v, rfl, ho4, hb4⟩
      obtain ⟨aF, kF, rfl, harF⟩ := flat_arr HYN.out ho4
      have HAF := Lib.hid harF
      have HH5 := Lib.hid (HH4.out.call hb4)
      have HO5 := Lib.hid (HO4.out.below hb4 (fun _ h => h.elim))
      have HY5 := Lib.hid (HY4.out.keep (hb4.block _ HY4.out.lt))
      clear ho4 harF hb4
      go_wp2_with fail
      obtain ⟨aM', kM', he', hkM', harM⟩ := own_slice HN.out HO5.out
      obtain ⟨rfl, rfl⟩ : aM = aM' ∧ kM = kM' := by injection he' with h1 h2 h3; exact ⟨h1, h3⟩
      refine (same_flat HYN.out HAF.out (HE.out ▸ harM)).mono ?_
      clear harM he' hkM'
      rintro e w5 ⟨rfl, hq⟩
      have HH6 := Lib.hid (HH5.out.call (hq.below _))
      have HO6 := Lib.hid (HO5.out.below (hq.below _) (fun _ h => h.elim))
      have HY6 := Lib.hid (HY5.out.keep (hq.heap _))
      clear hq
      by_cases hat : 0 ≤ at' ∧ at' < (n : Int)
      · obtain ⟨k, rfl⟩ : ∃ k : Nat, at' = k := ⟨at'.toNat, by omega⟩
        have hkn : k < n := by omega
        obtain ⟨xo, hxo⟩ : ∃ xo, (fState s)[k]? = some xo := ⟨_, List.getElem?_eq_getElem (by rw [HN.out]; exact hkn)⟩
        obtain ⟨g, cap, hv, hg1, hg2, hcap, q1, q2, -, hset⟩ := own_int_at HO6.out HN.out hxo
        obtain ⟨rfl, rfl⟩ : aM = some ⟨g, 0, none⟩ ∧ kM = cap := by injection hv with h1 h2 h3; exact ⟨h1, h3⟩
        have HO7 := Lib.hid (hset x ix)
        have HN7 : Hid (((fState s).set k x).length = n) := by show _ = _; rw [List.length_set]; exact HN.out
        have HH7 := Lib.hid (HH6.out.set (k := g) (j := k) (v := .int .i64 x) (by have := HH1.out.blk.lt; omega) (by have := HH1.out.below.size; omega))
        have HY7 := Lib.hid (HY6.out.keep (w' := w5.setCell ⟨g, k, none⟩ (.int .i64 x)) (blk_setCell_other _ _ _ (show w3.heap.size ≠ g from fun e => by have := (HO3.out.lt g rfl).2; omega)))
        clear hv hset hxo
        go_wp2_with fail
        obtain ⟨wB, hwB⟩ : ∃ wB, w5.setCell ⟨g, k, none⟩ (.int .i64 x) = wB := ⟨_, rfl⟩
        rw [hwB] at HO7 HH7 HY7
        try rw [hwB]
        clear hwB q1 q2
        obtain ⟨aM', kM', he', -, harM⟩ := own_slice HN7.out HO7.out
        obtain ⟨rfl, rfl⟩ : some ⟨g, 0, none⟩ = aM' ∧ kM = kM' := by injection he' with h1 h2 h3; exact ⟨h1, h3⟩
        refine (back_any (S := fun b => wA.heap.size ≤ b ∧ b < wB.heap.size) (fun b hb => hb.2) harM HN7.out hkM (by omega)).mono ?_
        clear harM he'
        rintro e w6 ⟨hb6, (⟨cs6, u, rfl, hc6, he6⟩ | ⟨rfl, hne6⟩)⟩
        · have HC6 := Lib.hid hc6; have HE6 := Lib.hid he6
          have HUN : Hid ((fState u).length = n) := he6 ▸ HN7.out
          have HH8 := Lib.hid (HH7.out.call hb6)
          have HO8 := Lib.hid (HO7.out.below hb6 (fun _ h => h.elim))
          have HY8 := Lib.hid (HY7.out.keep (hb6.block _ HY7.out.lt))
          have hy7 : w3.heap.size < wB.heap.size := HY7.out.lt
          have hzl : w1.heap.size < wA.heap.size := HH1.out.blk.lt
          obtain ⟨ua0, uc0, ua1, uc1, ua2, uc2, ua3, uc3, ua4, uc4, ua5, uc5, rfl, -⟩ := api_State_cells_eq hc6
          have z0 := HY8.out.cell (j := 0) rfl; have z1 := HY8.out.cell (j := 1) rfl; have z2 := HY8.out.cell (j := 2) rfl; have z3 := HY8.out.cell (j := 3) rfl; have z4 := HY8.out.cell (j := 4) rfl; have z5 := HY8.out.cell (j := 5) rfl; have z6 := HY8.out.cell (j := 6) rfl; have z7 := HY8.out.cell (j := 7) rfl
          have fz0 := HY8.out.frozen 0; have fz1 := HY8.out.frozen 1; have fz2 := HY8.out.frozen 2; have fz3 := HY8.out.frozen 3; have fz4 := HY8.out.frozen 4; have fz5 := HY8.out.frozen 5; have fz6 := HY8.out.frozen 6; have fz7 := HY8.out.frozen 7
          clear hb6 hc6 he6
          go_wp2_with fail
          have HHS : Hid (Here W ((((((((w6.setCell ⟨w3.heap.size, 0, none⟩ (.slice ua0 u.Cells.length uc0)).setCell ⟨w3.heap.size, 1, none⟩ (.slice ua1 u.Shapes.length uc1)).setCell ⟨w3.heap.size, 2, none⟩ (.slice ua2 u.Texts.length uc2)).setCell ⟨w3.heap.size, 3, none⟩ (.slice ua3 u.Threads.length uc3)).setCell ⟨w3.heap.size, 4, none⟩ (.slice ua4 u.Ends.length uc4)).setCell ⟨w3.heap.size, 5, none⟩ (.slice ua5 u.Said.length uc5)).setCell ⟨w3.heap.size, 6, none⟩ (.int .i64 u.Asked)).setCell ⟨w3.heap.size, 7, none⟩ (.int .i64 u.Steps)) w1.heap.size) := ((((((((HH8.out).set (by omega) (by have := HH1.out.below.size; omega)).set (by omega) (by have := HH1.out.below.size; omega)).set (by omega) (by have := HH1.out.below.size; omega)).set (by omega) (by have := HH1.out.below.size; omega)).set (by omega) (by have := HH1.out.below.size; omega)).set (by omega) (by have := HH1.out.below.size; omega)).set (by omega) (by have := HH1.out.below.size; omega)).set (by omega) (by have := HH1.out.below.size; omega)
          have HOS := Lib.hid (own_sets (b := w3.heap.size) HO8.out (fun e => by have := (HO3.out.lt _ e).2; omega) [.slice ua0 u.Cells.length uc0, .slice ua1 u.Shapes.length uc1, .slice ua2 u.Texts.length uc2, .slice ua3 u.Threads.length uc3, .slice ua4 u.Ends.length uc4, .slice ua5 u.Said.length uc5, .int .i64 u.Asked, .int .i64 u.Steps] 0)
          have HCSS := Lib.hid (Rep.keep (w' := ((((((((w6.setCell ⟨w3.heap.size, 0, none⟩ (.slice ua0 u.Cells.length uc0)).setCell ⟨w3.heap.size, 1, none⟩ (.slice ua1 u.Shapes.length uc1)).setCell ⟨w3.heap.size, 2, none⟩ (.slice ua2 u.Texts.length uc2)).setCell ⟨w3.heap.size, 3, none⟩ (.slice ua3 u.Threads.length uc3)).setCell ⟨w3.heap.size, 4, none⟩ (.slice ua4 u.Ends.length uc4)).setCell ⟨w3.heap.size, 5, none⟩ (.slice ua5 u.Said.length uc5)).setCell ⟨w3.heap.size, 6, none⟩ (.int .i64 u.Asked)).setCell ⟨w3.heap.size, 7, none⟩ (.int .i64 u.Steps))) (fun b hb => setCells_other w6 w3.heap.size b (by have := hb.1; omega) [.slice ua0 u.Cells.length uc0, .slice ua1 u.Shapes.length uc1, .slice ua2 u.Texts.length uc2, .slice ua3 u.Threads.length uc3, .slice ua4 u.Ends.length uc4, .slice ua5 u.Said.length uc5, .int .i64 u.Asked, .int .i64 u.Steps] 0) HC6.out)
          have hss : (((((((((w6.setCell ⟨w3.heap.size, 0, none⟩ (.slice ua0 u.Cells.length uc0)).setCell ⟨w3.heap.size, 1, none⟩ (.slice ua1 u.Shapes.length uc1)).setCell ⟨w3.heap.size, 2, none⟩ (.slice ua2 u.Texts.length uc2)).setCell ⟨w3.heap.size, 3, none⟩ (.slice ua3 u.Threads.length uc3)).setCell ⟨w3.heap.size, 4, none⟩ (.slice ua4 u.Ends.length uc4)).setCell ⟨w3.heap.size, 5, none⟩ (.slice ua5 u.Said.length uc5)).setCell ⟨w3.heap.size, 6, none⟩ (.int .i64 u.Asked)).setCell ⟨w3.heap.size, 7, none⟩ (.int .i64 u.Steps))).heap.size = w6.heap.size := by simp only [size_setCell]
          obtain ⟨wS, hwS⟩ : ∃ wS, ((((((((w6.setCell ⟨w3.heap.size, 0, none⟩ (.slice ua0 u.Cells.length uc0)).setCell ⟨w3.heap.size, 1, none⟩ (.slice ua1 u.Shapes.length uc1)).setCell ⟨w3.heap.size, 2, none⟩ (.slice ua2 u.Texts.length uc2)).setCell ⟨w3.heap.size, 3, none⟩ (.slice ua3 u.Threads.length uc3)).setCell ⟨w3.heap.size, 4, none⟩ (.slice ua4 u.Ends.length uc4)).setCell ⟨w3.heap.size, 5, none⟩ (.slice ua5 u.Said.length uc5)).setCell ⟨w3.heap.size, 6, none⟩ (.int .i64 u.Asked)).setCell ⟨w3.heap.size, 7, none⟩ (.int .i64 u.Steps)) = wS := ⟨_, rfl⟩
          simp only [cellsSet, Nat.zero_add, Nat.reduceAdd] at HOS
          rw [hwS] at HHS HOS HCSS hss
          try rw [hwS]
          clear hwS z0 fz0 z1 fz1 z2 fz2 z3 fz3 z4 fz4 z5 fz5 z6 fz6 z7 fz7
          refine (snapFlat_cs (S := Fresh wB w6) HCSS.out (fun b hb => by rw [hss]; exact hb.2) (by rw [HUN.out]; omega)).mono ?_
          rintro e w7 ⟨v, rfl, ho7, hb7⟩
          obtain ⟨aG, kG, rfl, harG⟩ := flat_arr HUN.out ho7
          have HAG := Lib.hid harG
          have HH9 := Lib.hid (HHS.out.call hb7)
          have HO9 := Lib.hid (HOS.out.below hb7 (fun _ h => h.elim))
          clear ho7 harG hb7
          go_wp2_with fail
          obtain ⟨aM', kM', he', -, harM⟩ := own_slice HN7.out HO9.out
          obtain ⟨rfl, rfl⟩ : some ⟨g, 0, none⟩ = aM' ∧ kM = kM' := by injection he' with h1 h2 h3; exact ⟨h1, h3⟩
          refine (same_flat HUN.out HAG.out (HE6.out ▸ harM)).mono ?_
          clear harM he'
          rintro e w8 ⟨rfl, hq⟩
          have HHX := Lib.hid (HH9.out.call (hq.below _))
          clear hq
          have p0 := HHX.out.blk.cell (j := 0) rfl; have p1 := HHX.out.blk.cell (j := 1) rfl; have p2 := HHX.out.blk.cell (j := 2) rfl; have p3 := HHX.out.blk.cell (j := 3) rfl; have p4 := HHX.out.blk.cell (j := 4) rfl; have p5 := HHX.out.blk.cell (j := 5) rfl; have p6 := HHX.out.blk.cell (j := 6) rfl; have p7 := HHX.out.blk.cell (j := 7) rfl
          have hlp := HHX.out.blk.lt
          go_wp2_with fail
          refine (snapFlat_cs (S := fun _ => False) flat_none (fun _ h => h.elim) (by decide)).mono ?_
          rintro e wp ⟨vp, rfl, hop, hbp⟩
          obtain ⟨ap, kp, rfl, harp⟩ := flat_arr (n := 8) rfl hop
          have HAP := Lib.hid harp
          have HHP := Lib.hid (HHX.out.call hbp)
          clear hop harp hbp
          go_wp2_with fail
          refine (snapFlat_cs (S := fun _ => False) flat_none (fun _ h => h.elim) (by decide)).mono ?_
          rintro e wq ⟨vq, rfl, hoq, hbq⟩
          obtain ⟨aq, kq, rfl, harq⟩ := flat_arr (n := 8) rfl hoq
          have HAQ := Lib.hid harq
          have HAP2 := Lib.hid (HAP.out.keep (fun b hb => hbq.block b hb))
          have HHQ := Lib.hid (HHP.out.call hbq)
          clear hoq harq hbq
          go_wp2_with fail
          refine (same_flat rfl HAP2.out HAQ.out).mono ?_
          rintro e wr ⟨rfl, hr⟩
          have HHR := Lib.hid (HHQ.out.call (hr.below _))
          clear hr
          go_wp2_with fail
          go_ret
          exact ⟨rfl, HHR.out.below⟩
        · have HH8 := Lib.hid (HH7.out.call hb6)
          have HY8 := Lib.hid (HY7.out.keep (hb6.block _ HY7.out.lt))
          have hy7 : w3.heap.size < wB.heap.size := HY7.out.lt
          have hzl : w1.heap.size < wA.heap.size := HH1.out.blk.lt
          have z0 := HY8.out.cell (j := 0) rfl; have z1 := HY8.out.cell (j := 1) rfl; have z2 := HY8.out.cell (j := 2) rfl; have z3 := HY8.out.cell (j := 3) rfl; have z4 := HY8.out.cell (j := 4) rfl; have z5 := HY8.out.cell (j := 5) rfl; have z6 := HY8.out.cell (j := 6) rfl; have z7 := HY8.out.cell (j := 7) rfl
          have fz0 := HY8.out.frozen 0; have fz1 := HY8.out.frozen 1; have fz2 := HY8.out.frozen 2; have fz3 := HY8.out.frozen 3; have fz4 := HY8.out.frozen 4; have fz5 := HY8.out.frozen 5; have fz6 := HY8.out.frozen 6; have fz7 := HY8.out.frozen 7
          have HHX : Hid (Here W ((((((((w6.setCell ⟨w3.heap.size, 0, none⟩ (.slice none 0 0)).setCell ⟨w3.heap.size, 1, none⟩ (.slice none 0 0)).setCell ⟨w3.heap.size, 2, none⟩ (.slice none 0 0)).setCell ⟨w3.heap.size, 3, none⟩ (.slice none 0 0)).setCell ⟨w3.heap.size, 4, none⟩ (.slice none 0 0)).setCell ⟨w3.heap.size, 5, none⟩ (.slice none 0 0)).setCell ⟨w3.heap.size, 6, none⟩ (.int .i64 0)).setCell ⟨w3.heap.size, 7, none⟩ (.int .i64 0)) w1.heap.size) := ((((((((HH8.out).set (by omega) (by have := HH1.out.below.size; omega)).set (by omega) (by have := HH1.out.below.size; omega)).set (by omega) (by have := HH1.out.below.size; omega)).set (by omega) (by have := HH1.out.below.size; omega)).set (by omega) (by have := HH1.out.below.size; omega)).set (by omega) (by have := HH1.out.below.size; omega)).set (by omega) (by have := HH1.out.below.size; omega)).set (by omega) (by have := HH1.out.below.size; omega)
          clear hb6
          have hxx : True := trivial
          have p0 := HHX.out.blk.cell (j := 0) rfl; have p1 := HHX.out.blk.cell (j := 1) rfl; have p2 := HHX.out.blk.cell (j := 2) rfl; have p3 := HHX.out.blk.cell (j := 3) rfl; have p4 := HHX.out.blk.cell (j := 4) rfl; have p5 := HHX.out.blk.cell (j := 5) rfl; have p6 := HHX.out.blk.cell (j := 6) rfl; have p7 := HHX.out.blk.cell (j := 7) rfl
          have hlp := HHX.out.blk.lt
          go_wp2_with fail
          refine (snapFlat_cs (S := fun _ => False) flat_none (fun _ h => h.elim) (by decide)).mono ?_
          rintro e wp ⟨vp, rfl, hop, hbp⟩
          obtain ⟨ap, kp, rfl, harp⟩ := flat_arr (n := 8) rfl hop
          have HAP := Lib.hid harp
          have HHP := Lib.hid (HHX.out.call hbp)
          clear hop harp hbp
          go_wp2_with fail
          refine (snapFlat_cs (S := fun _ => False) flat_none (fun _ h => h.elim) (by decide)).mono ?_
          rintro e wq ⟨vq, rfl, hoq, hbq⟩
          obtain ⟨aq, kq, rfl, harq⟩ := flat_arr (n := 8) rfl hoq
          have HAQ := Lib.hid harq
          have HAP2 := Lib.hid (HAP.out.keep (fun b hb => hbq.block b hb))
          have HHQ := Lib.hid (HHP.out.call hbq)
          clear hoq harq hbq
          go_wp2_with fail
          refine (same_flat rfl HAP2.out HAQ.out).mono ?_
          rintro e wr ⟨rfl, hr⟩
          have HHR := Lib.hid (HHQ.out.call (hr.below _))
          clear hr
          go_wp2_with fail
          go_ret
          exact ⟨rfl, HHR.out.below⟩
      · have hat' : (decide (0 ≤ at') && decide (at' < (n : Int))) = false := by simp; omega
        by_cases hat0 : 0 ≤ at'
        · have hat1 : ¬ at' < (n : Int) := fun h => hat ⟨hat0, h⟩
          have p0 := HH6.out.blk.cell (j := 0) rfl; have p1 := HH6.out.blk.cell (j := 1) rfl; have p2 := HH6.out.blk.cell (j := 2) rfl; have p3 := HH6.out.blk.cell (j := 3) rfl; have p4 := HH6.out.blk.cell (j := 4) rfl; have p5 := HH6.out.blk.cell (j := 5) rfl; have p6 := HH6.out.blk.cell (j := 6) rfl; have p7 := HH6.out.blk.cell (j := 7) rfl
          have hlp := HH6.out.blk.lt
          go_wp2_with fail
          refine (snapFlat_cs (S := fun _ => False) flat_none (fun _ h => h.elim) (by decide)).mono ?_
          rintro e wp ⟨vp, rfl, hop, hbp⟩
          obtain ⟨ap, kp, rfl, harp⟩ := flat_arr (n := 8) rfl hop
          have HAP := Lib.hid harp
          have HHP := Lib.hid (HH6.out.call hbp)
          clear hop harp hbp
          go_wp2_with fail
          refine (snapFlat_cs (S := fun _ => False) flat_none (fun _ h => h.elim) (by decide)).mono ?_
          rintro e wq ⟨vq, rfl, hoq, hbq⟩
          obtain ⟨aq, kq, rfl, harq⟩ := flat_arr (n := 8) rfl hoq
          have HAQ := Lib.hid harq
          have HAP2 := Lib.hid (HAP.out.keep (fun b hb => hbq.block b hb))
          have HHQ := Lib.hid (HHP.out.call hbq)
          clear hoq harq hbq
          go_wp2_with fail
          refine (same_flat rfl HAP2.out HAQ.out).mono ?_
          rintro e wr ⟨rfl, hr⟩
          have HHR := Lib.hid (HHQ.out.call (hr.below _))
          clear hr
          go_wp2_with fail
          go_ret
          exact ⟨rfl, HHR.out.below⟩
        · have hxx : True := trivial
          have p0 := HH6.out.blk.cell (j := 0) rfl; have p1 := HH6.out.blk.cell (j := 1) rfl; have p2 := HH6.out.blk.cell (j := 2) rfl; have p3 := HH6.out.blk.cell (j := 3) rfl; have p4 := HH6.out.blk.cell (j := 4) rfl; have p5 := HH6.out.blk.cell (j := 5) rfl; have p6 := HH6.out.blk.cell (j := 6) rfl; have p7 := HH6.out.blk.cell (j := 7) rfl
          have hlp := HH6.out.blk.lt
          go_wp2_with fail
          refine (snapFlat_cs (S := fun _ => False) flat_none (fun _ h => h.elim) (by decide)).mono ?_
          rintro e wp ⟨vp, rfl, hop, hbp⟩
          obtain ⟨ap, kp, rfl, harp⟩ := flat_arr (n := 8) rfl hop
          have HAP := Lib.hid harp
          have HHP := Lib.hid (HH6.out.call hbp)
          clear hop harp hbp
          go_wp2_with fail
          refine (snapFlat_cs (S := fun _ => False) flat_none (fun _ h => h.elim) (by decide)).mono ?_
          rintro e wq ⟨vq, rfl, hoq, hbq⟩
          obtain ⟨aq, kq, rfl, harq⟩ := flat_arr (n := 8) rfl hoq
          have HAQ := Lib.hid harq
          have HAP2 := Lib.hid (HAP.out.keep (fun b hb => hbq.block b hb))
          have HHQ := Lib.hid (HHP.out.call hbq)
          clear hoq harq hbq
          go_wp2_with fail
          refine (same_flat rfl HAP2.out HAQ.out).mono ?_
          rintro e wr ⟨rfl, hr⟩
          have HHR := Lib.hid (HHQ.out.call (hr.below _))
          clear hr
          go_wp2_with fail
          go_ret
          exact ⟨rfl, HHR.out.below⟩)
end Go.Proofs.Ytimlhjjdaggiiaa.flat
