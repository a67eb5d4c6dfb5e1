/- cse.of, R.put, R.alike: walked. -/
import Derived.Test.YtekofpigmggbbaaDoorCsePlain
import Derived.Test.YtekofpigmggbbaaDoorCutF
import Derived.Test.YtekofpigmggbbaaDoorMin
import Derived.Test.YtekofpigmggbbaaDoorMax
import Derived.Deep.DrawnRows
import Derived.Deep.RegionLaw
import Derived.BigRegion
set_option linter.unusedVariables false
set_option linter.unusedSimpArgs false
namespace Go.Proofs.YtekofpigmggbbaaDoor.cse
open Go.Bk Go.RowKit Go.Proofs.YtekofpigmggbbaaDoor.ir Go.Proofs.YtekofpigmggbbaaDoor.chk Go.Proofs.YtekofpigmggbbaaDoor.cut
attribute [local go_sem ↓] Go.wp_at_zero Go.wp_at_succ

def keyC (q : Key) : Array Value := #[.int .i64 q.op, .int .i64 q.n, .int .i64 q.a, .int .i64 q.b, .bool q.ahead, .int .i64 q.k.Kind, .int .i64 q.k.N]
def zeroK : Key := ⟨0, 0, 0, 0, false, ⟨0, 0⟩⟩
theorem infoK {X : Array Value} (h : X.size = 7) : (Tryd.prog.info? 76).map (·.size) = some X.size := by
  rw [h]; kernel_rfl
theorem keyC_one (q : Key) : (keyC q).all (·.oneCell') = true := by simp [keyC, Value.oneCell']
/-- A key stored. -/
theorem stK {ops : Array Oper} {Q : Exit → Act → World → Prop} {a : Act} {o : Oper} {w : World} {rest : List Oper} {x y : Operand} {g : Nat} {q : Key} {OLD : Array Value} (hgd : o.guard = none) (ho : o.op = .store 76 x y) (hx : a.eval x = .pointer (some ⟨g, 0, none⟩)) (hy : a.eval y = .agg (keyC q)) (hg : Row w g 76 OLD) (hs' : OLD.size = 7)
    (h : wpList Tryd.prog ops Q rest (a.put o.dst undef) (w.setRow g (keyC q))) : wpList Tryd.prog ops Q (o :: rest) a w :=
  wpList_store_row hgd 76 x y ho g (keyC q) hx hy _ OLD hg (infoK rfl) (by rw [hs']; rfl) (keyC_one q) h
theorem ldK {ops : Array Oper} {Q : Exit → Act → World → Prop} {a : Act} {o : Oper} {w : World} {rest : List Oper} {x : Operand} {g : Nat} {q : Key} (hw : Region.wanted o (yielded ops a.tmps) = true) (ho : o.op = .load 76 x) (hx : a.eval x = .pointer (some ⟨g, 0, none⟩)) (hg : Row w g 76 (keyC q))
    (h : wpList Tryd.prog ops Q rest (a.put o.dst (.agg (keyC q))) w) : wpList Tryd.prog ops Q (o :: rest) a w :=
  wp_load_rowX hw 76 x ho g hx _ (keyC q) hg _ Tryd.underlying76 rfl (infoK rfl) h
def OfPost (w : World) (o : Option Key) (e : Ending) (w' : World) : Prop := e = .returned (.tuple #[.agg (keyC (o.getD zeroK)), .bool o.isSome]) ∧ Below w.heap.size w w'
theorem of_end {w w1 W : World} {g : Nat} (hb : Below w.heap.size w W) (hg : w.heap.size ≤ g) (C : Array Value) : Below w.heap.size w (W.setRow g C) := below_setRow hb hg C
set_option maxRecDepth 100000 in
set_option maxHeartbeats 4000000 in
/-- of: the key of an instruction. -/
theorem of_any {w : World} (x : Api.TIns) (b : Bool) :
    Calls Tryd.prog 36 #[.agg #[.int .i64 x.Op, .int .i64 x.A, .int .i64 x.B, .int .i64 x.C, .int .i64 x.N, .int .i64 x.Exit, .int .i64 x.K.Kind, .int .i64 x.K.N], .bool b] w (OfPost w (keyOf x b)) := by
  obtain ⟨w1, hw1⟩ : ∃ w1, w1 = (w.alloc (.cells #[.int .i64 x.Op, .int .i64 x.A, .int .i64 x.B, .int .i64 x.C, .int .i64 x.N, .int .i64 x.Exit, .int .i64 x.K.Kind, .int .i64 x.K.N] 43)).alloc (.cells (keyC zeroK) 76) := ⟨_, rfl⟩
  obtain ⟨rX, rK, hb1, hz1⟩ := rows2 w #[.int .i64 x.Op, .int .i64 x.A, .int .i64 x.B, .int .i64 x.C, .int .i64 x.N, .int .i64 x.Exit, .int .i64 x.K.Kind, .int .i64 x.K.N] (keyC zeroK) _ _ w1 hw1
  have x0 := rX.cell (j := 0) rfl; have x1 := rX.cell (j := 1) rfl; have x2 := rX.cell (j := 2) rfl; have x4 := rX.cell (j := 4) rfl; have x6 := rX.cell (j := 6) rfl; have x7 := rX.cell (j := 7) rfl
  have lx := rX.lt
  have HRK := Lib.hid rK; have HB1 := Lib.hid hb1; have HZ1 := Lib.hid hz1
  obtain ⟨o, ho⟩ : ∃ o, o = keyOf x b := ⟨_, rfl⟩
  rw [← ho]
  have HO := Lib.hid ho
  clear rK hb1 ho hz1
  by_cases c2 : x.Op = 2
  · skip
    have e2 : (x.Op == 2) = true := by simp [c2]
    have e3 : (x.Op == 3) = false := by simp [c2]
    have e1 : (x.Op == 1) = false := by simp [c2]
    have e8 : (x.Op == 8) = false := by simp [c2]
    have e7 : (x.Op == 7) = false := by simp [c2]
    have HE : Hid (o = some ⟨x.Op, 0, 0, 0, false, x.K⟩) := by show _ = _; rw [HO.out]; unfold keyOf; simp [c2]
    clear HO
    clear c2
    go_enter Tryd.func36, Tryd.ntmps36
    go_upto_region 1 with fail
    rw [show (w.alloc (.cells #[.int .i64 x.Op, .int .i64 x.A, .int .i64 x.B, .int .i64 x.C, .int .i64 x.N, .int .i64 x.Exit, .int .i64 x.K.Kind, .int .i64 x.K.N] 43)).alloc (.cells #[.int .i64 0, .int .i64 0, .int .i64 0, .int .i64 0, .bool false, .int .i64 0, .int .i64 0] 76) = w1 from hw1.symm]
    clear hw1
    go_wp2_with (first | (with_reducible refine stK (q := ⟨x.Op, 0, 0, 0, false, x.K⟩) (OLD := keyC zeroK) rfl rfl rfl rfl HRK.out rfl ?_))
    have HYB : Hid (Row (w1.setRow (w.heap.size + 1) (keyC (⟨x.Op, 0, 0, 0, false, x.K⟩))) (w.heap.size + 1) 76 (keyC (⟨x.Op, 0, 0, 0, false, x.K⟩))) := setRow_heap _ _ _ _ _ _ HRK.out
    (try simp only [Exit.inBlock, Exit.then])
    refine bodyPost_ret (results_cell_slot rfl _ _ _ _ _ _ _ rfl rfl HYB.out Tryd.underlying76 rfl (infoK rfl)) rfl ?_
    exact ⟨by rw [HE.out]; rfl, below_setRow HB1.out (by omega) _⟩
  have n2 := c2; clear c2
  by_cases c3 : x.Op = 3
  · skip
    have e2 : (x.Op == 2) = false := by simp [c3]
    have e3 : (x.Op == 3) = true := by simp [c3]
    have e1 : (x.Op == 1) = false := by simp [c3]
    have e8 : (x.Op == 8) = false := by simp [c3]
    have e7 : (x.Op == 7) = false := by simp [c3]
    have HE : Hid (o = some ⟨x.Op, 0, 0, 0, false, ⟨0, 0⟩⟩) := by show _ = _; rw [HO.out]; unfold keyOf; simp [c3]
    clear HO
    clear c3
    go_enter Tryd.func36, Tryd.ntmps36
    go_upto_region 1 with fail
    rw [show (w.alloc (.cells #[.int .i64 x.Op, .int .i64 x.A, .int .i64 x.B, .int .i64 x.C, .int .i64 x.N, .int .i64 x.Exit, .int .i64 x.K.Kind, .int .i64 x.K.N] 43)).alloc (.cells #[.int .i64 0, .int .i64 0, .int .i64 0, .int .i64 0, .bool false, .int .i64 0, .int .i64 0] 76) = w1 from hw1.symm]
    clear hw1
    go_wp2_with (first | (with_reducible refine stK (q := ⟨x.Op, 0, 0, 0, false, ⟨0, 0⟩⟩) (OLD := keyC zeroK) rfl rfl rfl rfl HRK.out rfl ?_))
    have HYB : Hid (Row (w1.setRow (w.heap.size + 1) (keyC (⟨x.Op, 0, 0, 0, false, ⟨0, 0⟩⟩))) (w.heap.size + 1) 76 (keyC (⟨x.Op, 0, 0, 0, false, ⟨0, 0⟩⟩))) := setRow_heap _ _ _ _ _ _ HRK.out
    (try simp only [Exit.inBlock, Exit.then])
    refine bodyPost_ret (results_cell_slot rfl _ _ _ _ _ _ _ rfl rfl HYB.out Tryd.underlying76 rfl (infoK rfl)) rfl ?_
    exact ⟨by rw [HE.out]; rfl, below_setRow HB1.out (by omega) _⟩
  have n3 := c3; clear c3
  by_cases c1 : x.Op = 1
  · skip
    have e2 : (x.Op == 2) = false := by simp [c1]
    have e3 : (x.Op == 3) = false := by simp [c1]
    have e1 : (x.Op == 1) = true := by simp [c1]
    have e8 : (x.Op == 8) = false := by simp [c1]
    have e7 : (x.Op == 7) = false := by simp [c1]
    have HE : Hid (o = some ⟨x.Op, x.N, 0, 0, b, ⟨0, 0⟩⟩) := by show _ = _; rw [HO.out]; unfold keyOf; simp [c1]
    clear HO
    clear c1
    go_enter Tryd.func36, Tryd.ntmps36
    go_upto_region 1 with fail
    rw [show (w.alloc (.cells #[.int .i64 x.Op, .int .i64 x.A, .int .i64 x.B, .int .i64 x.C, .int .i64 x.N, .int .i64 x.Exit, .int .i64 x.K.Kind, .int .i64 x.K.N] 43)).alloc (.cells #[.int .i64 0, .int .i64 0, .int .i64 0, .int .i64 0, .bool false, .int .i64 0, .int .i64 0] 76) = w1 from hw1.symm]
    clear hw1
    go_wp2_with (first | (with_reducible refine stK (q := ⟨x.Op, x.N, 0, 0, b, ⟨0, 0⟩⟩) (OLD := keyC zeroK) rfl rfl rfl rfl HRK.out rfl ?_))
    have HYB : Hid (Row (w1.setRow (w.heap.size + 1) (keyC (⟨x.Op, x.N, 0, 0, b, ⟨0, 0⟩⟩))) (w.heap.size + 1) 76 (keyC (⟨x.Op, x.N, 0, 0, b, ⟨0, 0⟩⟩))) := setRow_heap _ _ _ _ _ _ HRK.out
    (try simp only [Exit.inBlock, Exit.then])
    refine bodyPost_ret (results_cell_slot rfl _ _ _ _ _ _ _ rfl rfl HYB.out Tryd.underlying76 rfl (infoK rfl)) rfl ?_
    exact ⟨by rw [HE.out]; rfl, below_setRow HB1.out (by omega) _⟩
  have n1 := c1; clear c1
  by_cases c8 : x.Op = 8
  · skip
    have e2 : (x.Op == 2) = false := by simp [c8]
    have e3 : (x.Op == 3) = false := by simp [c8]
    have e1 : (x.Op == 1) = false := by simp [c8]
    have e8 : (x.Op == 8) = true := by simp [c8]
    have e7 : (x.Op == 7) = false := by simp [c8]
    have HE : Hid (o = some ⟨x.Op, x.N, x.A, 0, false, ⟨0, 0⟩⟩) := by show _ = _; rw [HO.out]; unfold keyOf; simp [c8]
    clear HO
    clear c8
    go_enter Tryd.func36, Tryd.ntmps36
    go_upto_region 1 with fail
    rw [show (w.alloc (.cells #[.int .i64 x.Op, .int .i64 x.A, .int .i64 x.B, .int .i64 x.C, .int .i64 x.N, .int .i64 x.Exit, .int .i64 x.K.Kind, .int .i64 x.K.N] 43)).alloc (.cells #[.int .i64 0, .int .i64 0, .int .i64 0, .int .i64 0, .bool false, .int .i64 0, .int .i64 0] 76) = w1 from hw1.symm]
    clear hw1
    go_wp2_with (first | (with_reducible refine stK (q := ⟨x.Op, x.N, x.A, 0, false, ⟨0, 0⟩⟩) (OLD := keyC zeroK) rfl rfl rfl rfl HRK.out rfl ?_))
    have HYB : Hid (Row (w1.setRow (w.heap.size + 1) (keyC (⟨x.Op, x.N, x.A, 0, false, ⟨0, 0⟩⟩))) (w.heap.size + 1) 76 (keyC (⟨x.Op, x.N, x.A, 0, false, ⟨0, 0⟩⟩))) := setRow_heap _ _ _ _ _ _ HRK.out
    (try simp only [Exit.inBlock, Exit.then])
    refine bodyPost_ret (results_cell_slot rfl _ _ _ _ _ _ _ rfl rfl HYB.out Tryd.underlying76 rfl (infoK rfl)) rfl ?_
    exact ⟨by rw [HE.out]; rfl, below_setRow HB1.out (by omega) _⟩
  have n8 := c8; clear c8
  by_cases c7 : x.Op = 7
  · skip
    have HC7 := Lib.hid c7
    have e2 : (x.Op == 2) = false := by simp [c7]
    have e3 : (x.Op == 3) = false := by simp [c7]
    have e1 : (x.Op == 1) = false := by simp [c7]
    have e8 : (x.Op == 8) = false := by simp [c7]
    have e7 : (x.Op == 7) = true := by simp [c7]
    clear c7 n2 n3 n1 n8
    go_enter Tryd.func36, Tryd.ntmps36
    go_upto_region 1 with fail
    rw [show (w.alloc (.cells #[.int .i64 x.Op, .int .i64 x.A, .int .i64 x.B, .int .i64 x.C, .int .i64 x.N, .int .i64 x.Exit, .int .i64 x.K.Kind, .int .i64 x.K.N] 43)).alloc (.cells #[.int .i64 0, .int .i64 0, .int .i64 0, .int .i64 0, .bool false, .int .i64 0, .int .i64 0] 76) = w1 from hw1.symm]
    clear hw1
    obtain ⟨w4, hw4⟩ : ∃ w4, w4 = w1.alloc (.cells (keyC ⟨x.Op, x.N, x.A, x.B, false, ⟨0, 0⟩⟩) 76) := ⟨_, rfl⟩
    have hr4 : Row w4 w1.heap.size 76 (keyC ⟨x.Op, x.N, x.A, x.B, false, ⟨0, 0⟩⟩) := by rw [hw4]; exact row_new _ _ _
    have hb4 : Below w1.heap.size w1 w4 := by rw [hw4]; exact cod.below_al2 _
    have HR4 := Lib.hid hr4; have HB4 := Lib.hid hb4
    go_upto_region 12 with fail
    rw [show w1.alloc (.cells #[.int .i64 x.Op, .int .i64 x.N, .int .i64 x.A, .int .i64 x.B, .bool false, .int .i64 0, .int .i64 0] 76) = w4 from hw4.symm]
    clear hw4
    have y0 := (rX.keep (hb4.block _ lx)).cell (j := 0) rfl
    have y1 := (rX.keep (hb4.block _ lx)).cell (j := 1) rfl
    have y2 := (rX.keep (hb4.block _ lx)).cell (j := 2) rfl
    have y4 := (rX.keep (hb4.block _ lx)).cell (j := 4) rfl
    have ly : w.heap.size < w4.heap.size := Nat.lt_of_lt_of_le lx hb4.size
    have HN6 : Hid (w.heap.size ≠ w1.heap.size) := by show _ ≠ _; have := HZ1.out; omega
    have HC6 : Hid (∀ (j : Nat) (v : Value) (k : Nat) (u : Value), w4.cell? ⟨w.heap.size, k, none⟩ = some u → (w4.setCell ⟨w1.heap.size, j, none⟩ v).cell? ⟨w.heap.size, k, none⟩ = some u) := fun j v k u h => (World.cell?_of_block (w := w4) (blk_setCell_other _ _ _ HN6.out)).trans h
    have HLW : Hid (w1.heap.size = w.heap.size + 1 + 1) := HZ1
    generalize w1.heap.size = g6 at HR4 HC6 HN6 HLW ⊢
    have q21 := fun v => HC6.out 2 v 1 _ y1; have q22 := fun v => HC6.out 2 v 2 _ y2; have q31 := fun v => HC6.out 3 v 1 _ y1; have q32 := fun v => HC6.out 3 v 2 _ y2
    have HRX4 : Hid (Row w4 (w.heap.size + 1) 76 (keyC zeroK)) := HRK.out.keep (hb4.block _ HRK.out.lt)
    have HB5 : Hid (Below w.heap.size w w4) := HB1.out.trans (hb4.mono HB1.out.size)
    have HNK : Hid (w.heap.size + 1 ≠ g6 ∧ w.heap.size + 1 < g6) := by show _ ∧ _; have := HLW.out; omega
    by_cases c : swaps x.N
    · as_aux_lemma =>
        have HE : Hid (o = some ⟨x.Op, x.N, min x.A x.B, max x.A x.B, false, ⟨0, 0⟩⟩) := by show _ = _; rw [HO.out]; unfold keyOf; simp [HC7.out, c]
        have hN : x.N = 3 ∨ x.N = 5 ∨ x.N = 8 := c
        clear HO c
        obtain ⟨v, hv⟩ : ∃ v, v = x.N := ⟨_, rfl⟩
        rw [← hv] at y4 hN
        have f2 := HR4.out.blk.frozen 2; have f3 := HR4.out.blk.frozen 3
        have z2 := HR4.out.cell (j := 2) rfl; have z3 := HR4.out.cell (j := 3) rfl
        have l6 := HR4.out.lt
        have HR6 : Hid (Row ((w4.setCell ⟨g6, 2, none⟩ (.int .i64 (min x.A x.B))).setCell ⟨g6, 3, none⟩ (.int .i64 (max x.A x.B))).drew g6 76 (keyC ⟨x.Op, x.N, min x.A x.B, max x.A x.B, false, ⟨0, 0⟩⟩)) := by
          show Row _ _ _ _
          have := (HR4.out.blk.set 2 (.int .i64 (min x.A x.B))).set 3 (.int .i64 (max x.A x.B))
          exact this
        have HX6 : Hid (Row ((w4.setCell ⟨g6, 2, none⟩ (.int .i64 (min x.A x.B))).setCell ⟨g6, 3, none⟩ (.int .i64 (max x.A x.B))).drew (w.heap.size + 1) 76 (keyC zeroK)) := by
          show Row _ _ _ _
          exact HRX4.out.keep ((blk_setCell_other _ _ _ HNK.out.1).trans (blk_setCell_other _ _ _ HNK.out.1))
        have HB6 : Hid (Below w.heap.size w ((w4.setCell ⟨g6, 2, none⟩ (.int .i64 (min x.A x.B))).setCell ⟨g6, 3, none⟩ (.int .i64 (max x.A x.B))).drew) := (below_set (below_set HB5.out (by have := HNK.out.2; omega)) (by have := HNK.out.2; omega)).drew
        have HYB : Hid (Row (((w4.setCell ⟨g6, 2, none⟩ (.int .i64 (min x.A x.B))).setCell ⟨g6, 3, none⟩ (.int .i64 (max x.A x.B))).drew.setRow (w.heap.size + 1) (keyC ⟨x.Op, x.N, min x.A x.B, max x.A x.B, false, ⟨0, 0⟩⟩)) (w.heap.size + 1) 76 (keyC ⟨x.Op, x.N, min x.A x.B, max x.A x.B, false, ⟨0, 0⟩⟩)) := setRow_heap _ _ _ _ _ _ HX6.out
        rcases hN with rfl | rfl | rfl
        all_goals
          go_upto_region 13 with fail
          go_big_region
          go_wp2_with (first
            | (with_reducible refine ldK (q := ⟨x.Op, x.N, min x.A x.B, max x.A x.B, false, ⟨0, 0⟩⟩) rfl rfl rfl HR6.out ?_)
            | (with_reducible refine stK (q := ⟨x.Op, x.N, min x.A x.B, max x.A x.B, false, ⟨0, 0⟩⟩) (OLD := keyC zeroK) rfl rfl rfl rfl HX6.out rfl ?_))
          (try simp only [Exit.inBlock, Exit.then])
          refine bodyPost_ret (results_cell_slot rfl _ _ _ _ _ _ _ rfl rfl HYB.out Tryd.underlying76 rfl (infoK rfl)) rfl ?_
          exact ⟨by rw [HE.out]; rfl, below_setRow HB6.out (by omega) _⟩
    · as_aux_lemma =>
        have HE : Hid (o = some ⟨x.Op, x.N, x.A, x.B, false, ⟨0, 0⟩⟩) := by show _ = _; rw [HO.out]; unfold keyOf; simp [HC7.out, c]
        have hN : ¬ (x.N = 3 ∨ x.N = 5 ∨ x.N = 8) := c
        have d3 : (x.N == 3) = false := by simp; omega
        have d5 : (x.N == 5) = false := by simp; omega
        have d8 : (x.N == 8) = false := by simp; omega
        have HYB : Hid (Row (w4.setRow (w.heap.size + 1) (keyC ⟨x.Op, x.N, x.A, x.B, false, ⟨0, 0⟩⟩)) (w.heap.size + 1) 76 (keyC ⟨x.Op, x.N, x.A, x.B, false, ⟨0, 0⟩⟩)) := setRow_heap _ _ _ _ _ _ HRX4.out
        clear HO c hN
        go_wp2_with (first
          | (with_reducible refine ldK (q := ⟨x.Op, x.N, x.A, x.B, false, ⟨0, 0⟩⟩) rfl rfl rfl HR4.out ?_)
          | (with_reducible refine stK (q := ⟨x.Op, x.N, x.A, x.B, false, ⟨0, 0⟩⟩) (OLD := keyC zeroK) rfl rfl rfl rfl HRX4.out rfl ?_))
        (try simp only [Exit.inBlock, Exit.then])
        refine bodyPost_ret (results_cell_slot rfl _ _ _ _ _ _ _ rfl rfl HYB.out Tryd.underlying76 rfl (infoK rfl)) rfl ?_
        exact ⟨by rw [HE.out]; rfl, below_setRow HB5.out (by omega) _⟩
  · as_aux_lemma =>
      have n7 := c7
      clear c7
      have e2 : (x.Op == 2) = false := by simpa using n2
      have e3 : (x.Op == 3) = false := by simpa using n3
      have e1 : (x.Op == 1) = false := by simpa using n1
      have e8 : (x.Op == 8) = false := by simpa using n8
      have e7 : (x.Op == 7) = false := by simpa using n7
      have HE : Hid (o = none) := by show _ = _; rw [HO.out]; unfold keyOf; simp [n2, n3, n1, n8, n7]
      clear HO
      go_enter Tryd.func36, Tryd.ntmps36
      go_upto_region 1 with fail
      rw [show (w.alloc (.cells #[.int .i64 x.Op, .int .i64 x.A, .int .i64 x.B, .int .i64 x.C, .int .i64 x.N, .int .i64 x.Exit, .int .i64 x.K.Kind, .int .i64 x.K.N] 43)).alloc (.cells #[.int .i64 0, .int .i64 0, .int .i64 0, .int .i64 0, .bool false, .int .i64 0, .int .i64 0] 76) = w1 from hw1.symm]
      clear hw1
      go_wp2_with (first | (with_reducible refine stK (q := zeroK) (OLD := keyC zeroK) rfl rfl rfl rfl HRK.out rfl ?_))
      have HYB : Hid (Row (w1.setRow (w.heap.size + 1) (keyC (zeroK))) (w.heap.size + 1) 76 (keyC (zeroK))) := setRow_heap _ _ _ _ _ _ HRK.out
      (try simp only [Exit.inBlock, Exit.then])
      refine bodyPost_ret (results_cell_slot rfl _ _ _ _ _ _ _ rfl rfl HYB.out Tryd.underlying76 rfl (infoK rfl)) rfl ?_
      exact ⟨by rw [HE.out]; rfl, below_setRow HB1.out (by omega) _⟩
end Go.Proofs.YtekofpigmggbbaaDoor.cse
