/- One turn ahead: has, and the closures; walked. -/
import Derived.Test.YtekofpigmggbbaaDoorQPeelPlainB
import Derived.Test.YtekofpigmggbbaaDoorQContains
import Derived.Test.YtekofpigmggbbaaDoorQSteps
import Derived.Test.YtekofpigmggbbaaDoorQCodeI
import Derived.Test.YtekofpigmggbbaaDoorQPass
set_option linter.unusedVariables false
set_option linter.unusedSimpArgs false
namespace Go.Proofs.YtekofpigmggbbaaDoor.peel
open Go.Bk Go.RowKit Go.Proofs.YtekofpigmggbbaaDoor.ir Go.Proofs.YtekofpigmggbbaaDoor.chk Go.Proofs.YtekofpigmggbbaaDoor.cut

set_option maxRecDepth 100000 in
set_option maxHeartbeats 1000000 in
theorem has1_any {S : Nat → Prop} {w : World} {gx n c : Nat} {a : Option Addr} {ops : List Int} (y : Api.TIns) (hx : Row w gx 58 #[.slice a n c]) (hn : ops.length = n) (ho : Arr S w a ops) (hS : ∀ b, S b → b < w.heap.size) :
    Calls Tryd.prog 132 #[.agg #[.int .i64 y.Op, .int .i64 y.A, .int .i64 y.B, .int .i64 y.C, .int .i64 y.N, .int .i64 y.Exit, .int .i64 y.K.Kind, .int .i64 y.K.N], .pointer (some ⟨gx, 0, none⟩)] w fun e w' => e = .returned (.bool (ops.contains y.Op)) ∧ Below w.heap.size w w' := by
  obtain ⟨r, hr⟩ : ∃ r, r = ops.contains y.Op := ⟨_, rfl⟩
  rw [← hr]
  obtain ⟨w1, hw1⟩ : ∃ w1, w1 = w.alloc (.cells #[.int .i64 y.Op, .int .i64 y.A, .int .i64 y.B, .int .i64 y.C, .int .i64 y.N, .int .i64 y.Exit, .int .i64 y.K.Kind, .int .i64 y.K.N] 43) := ⟨_, rfl⟩
  have hb1 : Below w.heap.size w w1 := by rw [hw1]; exact cod.below_al2 _
  have ry := row_new w #[.int .i64 y.Op, .int .i64 y.A, .int .i64 y.B, .int .i64 y.C, .int .i64 y.N, .int .i64 y.Exit, .int .i64 y.K.Kind, .int .i64 y.K.N] 43
  rw [← hw1] at ry
  have rx := hx.keep (hb1.block _ hx.lt)
  have y0 := ry.cell (j := 0) rfl
  have x0 := rx.cell (j := 0) rfl
  have ly := ry.lt; have lx := rx.lt
  have HB1 := Lib.hid hb1
  have HC : Hid (Calls Tryd.prog 133 #[.slice a n c, .int .i64 y.Op] w1 fun e w' => e = .returned (.bool r) ∧ w1 = w') := by rw [hr]; exact has.contains_at hn (ho.keep fun b hb => hb1.block b (hS b hb))
  clear hb1 ry rx hx ho hn hS hr
  go_enter Tryd.func132, Tryd.ntmps132
  go_upto_region 1 with fail
  rw [← hw1]
  clear hw1
  go_wp2_with (go_at_call 133; (with_reducible refine HC.out.mono ?_); rintro e w' ⟨rfl, rfl⟩)
  go_ret
  exact ⟨rfl, HB1.out⟩
set_option maxRecDepth 100000 in
set_option maxHeartbeats 1000000 in
theorem firm1_any {w : World} {gx : Nat} (x : Api.TIns) (s : Api.TSet) (hx : Row w gx 43 #[.int .i64 x.Op, .int .i64 x.A, .int .i64 x.B, .int .i64 x.C, .int .i64 x.N, .int .i64 x.Exit, .int .i64 x.K.Kind, .int .i64 x.K.N]) :
    Calls Tryd.prog 92 #[.agg #[.int .i64 s.Reg, .int .i64 s.Val], .pointer (some ⟨gx, 0, none⟩)] w fun e w' => e = .returned (.bool (s.Reg == x.N)) ∧ Below w.heap.size w w' := by
  obtain ⟨w1, hw1⟩ : ∃ w1, w1 = w.alloc (.cells #[.int .i64 s.Reg, .int .i64 s.Val] 98) := ⟨_, rfl⟩
  have hb1 : Below w.heap.size w w1 := by rw [hw1]; exact cod.below_al2 _
  have ry := row_new w #[.int .i64 s.Reg, .int .i64 s.Val] 98
  rw [← hw1] at ry
  have rx := hx.keep (hb1.block _ hx.lt)
  have y0 := ry.cell (j := 0) rfl
  have x0 := rx.cell (j := 4) rfl
  have ly := ry.lt; have lx := rx.lt
  have HB1 := Lib.hid hb1
  clear hb1 ry rx hx
  go_enter Tryd.func92, Tryd.ntmps92
  go_upto_region 1 with fail
  rw [← hw1]
  clear hw1
  go_wp2_with fail
  go_ret
  exact ⟨rfl, HB1.out⟩
set_option maxRecDepth 100000 in
set_option maxHeartbeats 1000000 in
theorem pdo1_any {w : World} {gx ga n c i : Nat} {A : List Bool} {b : Bool} (hx : Row w gx 87 #[.slice (some ⟨ga, 0, none⟩) n c]) (ha : Blk w ga 4 (boolsV A)) (hi : A[i]? = some b) (hin : i < n) (hn : n ≤ 1000000) :
    Calls Tryd.prog 51 #[.int .i64 (i : Int), .pointer (some ⟨gx, 0, none⟩)] w fun e w' => e = .returned (.bool (!b)) ∧ w' = w := by
  have x0 := hx.cell (j := 0) rfl
  have lx := hx.lt
  have k0 := ha.cell (boolsV_get hi)
  have lk := ha.lt
  have hii : (i : Int) < (n : Int) := by omega
  clear hx ha hi
  go_enter Tryd.func51, Tryd.ntmps51
  go_wp2_with fail
  go_ret
  exact ⟨rfl, rfl⟩
set_option maxRecDepth 100000 in
set_option maxHeartbeats 1000000 in
theorem has_any {S R : Nat → Prop} {w : World} {T : Array Value} {t : Api.TTrace} {a : Option Addr} {n c : Nat} {ops : List Int} (ht : Rep.cells S w T.toList t) (hS : ∀ b, S b → b < w.heap.size) (hn : ops.length = n) (ho : Arr R w a ops) (hR : ∀ b, R b → b < w.heap.size) :
    Calls Tryd.prog 93 #[.agg T, .slice a n c] w fun e w' => e = .returned (.bool (t.Ins.any fun y => ops.contains y.Op)) ∧ Below w.heap.size w w' := by
  obtain ⟨aI, nI, cI, hT⟩ := tin_of ht
  obtain ⟨r, hr⟩ : ∃ r, r = t.Ins.any fun y => ops.contains y.Op := ⟨_, rfl⟩
  rw [← hr]
  obtain ⟨w1, hw1⟩ : ∃ w1, w1 = (w.alloc (.cells T 34)).alloc (.cells #[.slice a n c] 58) := ⟨_, rfl⟩
  obtain ⟨rT, rO, hb1, -⟩ := rows2 w T #[.slice a n c] _ _ w1 hw1
  have HCF : Hid (Calls Tryd.prog 131 #[.slice aI nI cI, .func (.func 132) #[] #[.pointer (some ⟨w.heap.size + 1, 0, none⟩)]] w1 fun e w' => e = .returned (.bool r) ∧ Below w1.heap.size w1 w') := by
    rw [hr]
    refine funs.containsT_any (R := Grow) mild_grow (S := S) (xs := t.Ins) (p := fun y => ops.contains y.Op) (caps := #[.pointer (some ⟨w.heap.size + 1, 0, none⟩)]) hT.len (hT.ins.keep fun b hb => hb1.block b (hS b hb)) (fun b hb => Nat.lt_of_lt_of_le (hS b hb) hb1.size) Tryd.call132 ?_
    intro y wx _ hG
    exact has1_any (S := R) y (rO.keep (hG.block _ rO.lt)) hn (ho.keep fun b hb => (hG.block b (Nat.lt_of_lt_of_le (hR b hb) hb1.size)).trans (hb1.block b (hR b hb))) (fun b hb => Nat.lt_of_lt_of_le (hR b hb) (Nat.le_trans hb1.size hG.size))
  have t3 := rT.cell hT.c3
  have lT := rT.lt
  have HB1 := Lib.hid hb1
  clear hT hS ht hn ho hR hb1 rT rO hr
  go_enter Tryd.func93, Tryd.ntmps93
  go_upto_region 1 with fail
  rw [← hw1]
  clear hw1
  go_wp2_with (go_at_call 131; (with_reducible refine HCF.out.mono ?_); rintro e w' ⟨rfl, hb⟩; have HB2 := Lib.hid hb; clear hb)
  go_ret
  exact ⟨rfl, HB1.out.trans (HB2.out.mono HB1.out.size)⟩
end Go.Proofs.YtekofpigmggbbaaDoor.peel

namespace Go.Proofs.YtekofpigmggbbaaDoor.peel
open Go.Bk Go.RowKit Go.Proofs.YtekofpigmggbbaaDoor.ir Go.Proofs.YtekofpigmggbbaaDoor.chk Go.Proofs.YtekofpigmggbbaaDoor.cut

set_option maxRecDepth 100000 in
set_option maxHeartbeats 4000000 in
theorem firm_any {S : Nat → Prop} {w : World} {T : Array Value} {t : Api.TTrace} (x : Api.TIns) (ht : Rep.cells S w T.toList t) (hS : ∀ b, S b → b < w.heap.size) :
    Calls Tryd.prog 49 #[.agg T, .agg #[.int .i64 x.Op, .int .i64 x.A, .int .i64 x.B, .int .i64 x.C, .int .i64 x.N, .int .i64 x.Exit, .int .i64 x.K.Kind, .int .i64 x.K.N]] w fun e w' => e = .returned (.bool (firmB t x)) ∧ Below w.heap.size w w' := by
  obtain ⟨op, hop⟩ : ∃ op, op = x.Op := ⟨_, rfl⟩
  obtain ⟨w1, hw1⟩ : ∃ w1, w1 = (w.alloc (.cells T 34)).alloc (.cells #[.int .i64 x.Op, .int .i64 x.A, .int .i64 x.B, .int .i64 x.C, .int .i64 x.N, .int .i64 x.Exit, .int .i64 x.K.Kind, .int .i64 x.K.N] 43) := ⟨_, rfl⟩
  obtain ⟨rT, rX, hb1, -⟩ := rows2 w T #[.int .i64 x.Op, .int .i64 x.A, .int .i64 x.B, .int .i64 x.C, .int .i64 x.N, .int .i64 x.Exit, .int .i64 x.K.Kind, .int .i64 x.K.N] _ _ w1 hw1
  have x0 := rX.cell (j := 0) rfl
  have x4 := rX.cell (j := 4) rfl
  have lx := rX.lt
  have lT := rT.lt
  rw [← hop] at x0
  have HB1 := Lib.hid hb1
  have hsT : T.size = 13 := rep_size ht
  by_cases h2 : op = 2
  · subst h2
    as_aux_lemma =>
      have HF : Hid (firmB t x = true) := by show _ = _; unfold firmB; rw [← hop]; rfl
      clear hop
      go_enter Tryd.func49, Tryd.ntmps49
      go_upto_region 1 with fail
      rw [← hw1]
      clear hw1
      go_wp2_with fail
      go_ret
      exact ⟨by rw [HF.out]; rfl, HB1.out⟩
  by_cases h3 : op = 3
  · subst h3
    as_aux_lemma =>
      have HF : Hid (firmB t x = true) := by show _ = _; unfold firmB; rw [← hop]; rfl
      clear hop
      go_enter Tryd.func49, Tryd.ntmps49
      go_upto_region 1 with fail
      rw [← hw1]
      clear hw1
      go_wp2_with fail
      go_ret
      exact ⟨by rw [HF.out]; rfl, HB1.out⟩
  by_cases h19 : op = 19
  · subst h19
    as_aux_lemma =>
      have HF : Hid (firmB t x = true) := by show _ = _; unfold firmB; rw [← hop]; rfl
      clear hop
      go_enter Tryd.func49, Tryd.ntmps49
      go_upto_region 1 with fail
      rw [← hw1]
      clear hw1
      go_wp2_with fail
      go_ret
      exact ⟨by rw [HF.out]; rfl, HB1.out⟩
  by_cases h7 : op = 7
  · subst h7
    as_aux_lemma =>
      have HF : Hid (firmB t x = true) := by show _ = _; unfold firmB; rw [← hop]; rfl
      clear hop
      go_enter Tryd.func49, Tryd.ntmps49
      go_upto_region 1 with fail
      rw [← hw1]
      clear hw1
      go_wp2_with fail
      go_ret
      exact ⟨by rw [HF.out]; rfl, HB1.out⟩
  by_cases h8 : op = 8
  · subst h8
    as_aux_lemma =>
      have HF : Hid (firmB t x = true) := by show _ = _; unfold firmB; rw [← hop]; rfl
      clear hop
      go_enter Tryd.func49, Tryd.ntmps49
      go_upto_region 1 with fail
      rw [← hw1]
      clear hw1
      go_wp2_with fail
      go_ret
      exact ⟨by rw [HF.out]; rfl, HB1.out⟩
  by_cases h4 : op = 4
  · subst h4
    as_aux_lemma =>
      have HF : Hid (firmB t x = true) := by show _ = _; unfold firmB; rw [← hop]; rfl
      clear hop
      go_enter Tryd.func49, Tryd.ntmps49
      go_upto_region 1 with fail
      rw [← hw1]
      clear hw1
      go_wp2_with fail
      go_ret
      exact ⟨by rw [HF.out]; rfl, HB1.out⟩
  by_cases h5 : op = 5
  · subst h5
    as_aux_lemma =>
      have HF : Hid (firmB t x = true) := by show _ = _; unfold firmB; rw [← hop]; rfl
      clear hop
      go_enter Tryd.func49, Tryd.ntmps49
      go_upto_region 1 with fail
      rw [← hw1]
      clear hw1
      go_wp2_with fail
      go_ret
      exact ⟨by rw [HF.out]; rfl, HB1.out⟩
  by_cases h6 : op = 6
  · subst h6
    as_aux_lemma =>
      have HF : Hid (firmB t x = true) := by show _ = _; unfold firmB; rw [← hop]; rfl
      clear hop
      go_enter Tryd.func49, Tryd.ntmps49
      go_upto_region 1 with fail
      rw [← hw1]
      clear hw1
      go_wp2_with fail
      go_ret
      exact ⟨by rw [HF.out]; rfl, HB1.out⟩
  by_cases h10 : op = 10
  · subst h10
    as_aux_lemma =>
      obtain ⟨r, hr⟩ : ∃ r, r = t.Ins.any fun y => ([11, 14] : List Int).contains y.Op := ⟨_, rfl⟩
      have HF : Hid (firmB t x = !r) := by
        have e : hasOp t 11 14 = r := by
          rw [hr]
          unfold hasOp
          congr 1
          funext y
          rw [Bool.eq_iff_iff]
          simp
        show _ = _
        unfold firmB
        rw [← hop, e]
        rfl
      obtain ⟨w2, hw2⟩ : ∃ w2, w2 = w1.alloc (.cells #[.int .i64 11, .int .i64 14] 3) := ⟨_, rfl⟩
      have hb2 : Below w1.heap.size w1 w2 := by rw [hw2]; exact cod.below_al2 _
      have hk2 : Blk w2 w1.heap.size 3 (([11, 14] : List Int).map (Value.int .i64)) := by rw [hw2]; exact blk_new w1 _ _
      have HH : Hid (Calls Tryd.prog 93 #[.agg T, .slice (some ⟨w1.heap.size, 0, none⟩) 2 2] w2 fun e w' => e = .returned (.bool r) ∧ Below w2.heap.size w2 w') := by
        rw [hr]
        have hb12 : Below w.heap.size w w2 := hb1.trans (hb2.mono hb1.size)
        exact has_any (S := S) (R := fun b => b = w1.heap.size) (Rep.keep (fun b hb => hb12.block b (hS b hb)) ht) (fun b hb => Nat.lt_of_lt_of_le (hS b hb) hb12.size) rfl (hk2.arr (by intro z hz; unfold I64; simp at hz; omega) (by unfold maxLen; simp) rfl) (fun b hb => by rw [hb]; exact hk2.lt)
      have HB2 : Hid (Below w.heap.size w w2) := hb1.trans (hb2.mono hb1.size)
      have HRT := Lib.hid rT
      clear hop hr hb2 hk2 ht hS hb1 rT rX
      go_enter Tryd.func49, Tryd.ntmps49
      go_upto_region 1 with fail
      rw [← hw1]
      clear hw1
      go_wp2_with (first
        | (with_reducible refine ldT rfl rfl rfl HRT.out hsT ?_)
        | (rw [← hw2]; go_at_call 93; (with_reducible refine HH.out.mono ?_); rintro e w' ⟨rfl, hb⟩; have HB3 := Lib.hid hb; clear hb))
      go_ret
      exact ⟨by rw [HF.out]; rfl, HB2.out.trans (HB3.out.mono HB2.out.size)⟩
  by_cases h13 : op = 13
  · subst h13
    as_aux_lemma =>
      obtain ⟨r, hr⟩ : ∃ r, r = t.Ins.any fun y => ([11, 14] : List Int).contains y.Op := ⟨_, rfl⟩
      have HF : Hid (firmB t x = !r) := by
        have e : hasOp t 11 14 = r := by
          rw [hr]
          unfold hasOp
          congr 1
          funext y
          rw [Bool.eq_iff_iff]
          simp
        show _ = _
        unfold firmB
        rw [← hop, e]
        rfl
      obtain ⟨w2, hw2⟩ : ∃ w2, w2 = w1.alloc (.cells #[.int .i64 11, .int .i64 14] 3) := ⟨_, rfl⟩
      have hb2 : Below w1.heap.size w1 w2 := by rw [hw2]; exact cod.below_al2 _
      have hk2 : Blk w2 w1.heap.size 3 (([11, 14] : List Int).map (Value.int .i64)) := by rw [hw2]; exact blk_new w1 _ _
      have HH : Hid (Calls Tryd.prog 93 #[.agg T, .slice (some ⟨w1.heap.size, 0, none⟩) 2 2] w2 fun e w' => e = .returned (.bool r) ∧ Below w2.heap.size w2 w') := by
        rw [hr]
        have hb12 : Below w.heap.size w w2 := hb1.trans (hb2.mono hb1.size)
        exact has_any (S := S) (R := fun b => b = w1.heap.size) (Rep.keep (fun b hb => hb12.block b (hS b hb)) ht) (fun b hb => Nat.lt_of_lt_of_le (hS b hb) hb12.size) rfl (hk2.arr (by intro z hz; unfold I64; simp at hz; omega) (by unfold maxLen; simp) rfl) (fun b hb => by rw [hb]; exact hk2.lt)
      have HB2 : Hid (Below w.heap.size w w2) := hb1.trans (hb2.mono hb1.size)
      have HRT := Lib.hid rT
      clear hop hr hb2 hk2 ht hS hb1 rT rX
      go_enter Tryd.func49, Tryd.ntmps49
      go_upto_region 1 with fail
      rw [← hw1]
      clear hw1
      go_wp2_with (first
        | (with_reducible refine ldT rfl rfl rfl HRT.out hsT ?_)
        | (rw [← hw2]; go_at_call 93; (with_reducible refine HH.out.mono ?_); rintro e w' ⟨rfl, hb⟩; have HB3 := Lib.hid hb; clear hb))
      go_ret
      exact ⟨by rw [HF.out]; rfl, HB2.out.trans (HB3.out.mono HB2.out.size)⟩
  by_cases h15 : op = 15
  · subst h15
    as_aux_lemma =>
      obtain ⟨r, hr⟩ : ∃ r, r = t.Ins.any fun y => ([17, 12] : List Int).contains y.Op := ⟨_, rfl⟩
      have HF : Hid (firmB t x = !r) := by
        have e : hasOp t 17 12 = r := by
          rw [hr]
          unfold hasOp
          congr 1
          funext y
          rw [Bool.eq_iff_iff]
          simp
        show _ = _
        unfold firmB
        rw [← hop, e]
        rfl
      obtain ⟨w2, hw2⟩ : ∃ w2, w2 = w1.alloc (.cells #[.int .i64 17, .int .i64 12] 3) := ⟨_, rfl⟩
      have hb2 : Below w1.heap.size w1 w2 := by rw [hw2]; exact cod.below_al2 _
      have hk2 : Blk w2 w1.heap.size 3 (([17, 12] : List Int).map (Value.int .i64)) := by rw [hw2]; exact blk_new w1 _ _
      have HH : Hid (Calls Tryd.prog 93 #[.agg T, .slice (some ⟨w1.heap.size, 0, none⟩) 2 2] w2 fun e w' => e = .returned (.bool r) ∧ Below w2.heap.size w2 w') := by
        rw [hr]
        have hb12 : Below w.heap.size w w2 := hb1.trans (hb2.mono hb1.size)
        exact has_any (S := S) (R := fun b => b = w1.heap.size) (Rep.keep (fun b hb => hb12.block b (hS b hb)) ht) (fun b hb => Nat.lt_of_lt_of_le (hS b hb) hb12.size) rfl (hk2.arr (by intro z hz; unfold I64; simp at hz; omega) (by unfold maxLen; simp) rfl) (fun b hb => by rw [hb]; exact hk2.lt)
      have HB2 : Hid (Below w.heap.size w w2) := hb1.trans (hb2.mono hb1.size)
      have HRT := Lib.hid rT
      clear hop hr hb2 hk2 ht hS hb1 rT rX
      go_enter Tryd.func49, Tryd.ntmps49
      go_upto_region 1 with fail
      rw [← hw1]
      clear hw1
      go_wp2_with (first
        | (with_reducible refine ldT rfl rfl rfl HRT.out hsT ?_)
        | (rw [← hw2]; go_at_call 93; (with_reducible refine HH.out.mono ?_); rintro e w' ⟨rfl, hb⟩; have HB3 := Lib.hid hb; clear hb))
      go_ret
      exact ⟨by rw [HF.out]; rfl, HB2.out.trans (HB3.out.mono HB2.out.size)⟩
  by_cases h9 : op = 9
  · subst h9
    by_cases hN : x.N = 1
    · rw [hN] at x4
      as_aux_lemma =>
        obtain ⟨r, hr⟩ : ∃ r, r = t.Ins.any fun y => ([12] : List Int).contains y.Op := ⟨_, rfl⟩
        have HF : Hid (firmB t x = !r) := by
          have e : hasOp t 12 12 = r := by
            rw [hr]
            unfold hasOp
            congr 1
            funext y
            rw [Bool.eq_iff_iff]
            simp
          show _ = _
          unfold firmB
          rw [← hop, e]
          rw [hN]
          rfl
        obtain ⟨w2, hw2⟩ : ∃ w2, w2 = w1.alloc (.cells #[.int .i64 12] 3) := ⟨_, rfl⟩
        have hb2 : Below w1.heap.size w1 w2 := by rw [hw2]; exact cod.below_al2 _
        have hk2 : Blk w2 w1.heap.size 3 (([12] : List Int).map (Value.int .i64)) := by rw [hw2]; exact blk_new w1 _ _
        have HH : Hid (Calls Tryd.prog 93 #[.agg T, .slice (some ⟨w1.heap.size, 0, none⟩) 1 1] w2 fun e w' => e = .returned (.bool r) ∧ Below w2.heap.size w2 w') := by
          rw [hr]
          have hb12 : Below w.heap.size w w2 := hb1.trans (hb2.mono hb1.size)
          exact has_any (S := S) (R := fun b => b = w1.heap.size) (Rep.keep (fun b hb => hb12.block b (hS b hb)) ht) (fun b hb => Nat.lt_of_lt_of_le (hS b hb) hb12.size) rfl (hk2.arr (by intro z hz; unfold I64; simp at hz; omega) (by unfold maxLen; simp) rfl) (fun b hb => by rw [hb]; exact hk2.lt)
        have HB2 : Hid (Below w.heap.size w w2) := hb1.trans (hb2.mono hb1.size)
        have HRT := Lib.hid rT
        clear hN hop hr hb2 hk2 ht hS hb1 rT rX
        go_enter Tryd.func49, Tryd.ntmps49
        go_upto_region 1 with fail
        rw [← hw1]
        clear hw1
        go_wp2_with (first
          | (with_reducible refine ldT rfl rfl rfl HRT.out hsT ?_)
          | (rw [← hw2]; go_at_call 93; (with_reducible refine HH.out.mono ?_); rintro e w' ⟨rfl, hb⟩; have HB3 := Lib.hid hb; clear hb))
        go_ret
        exact ⟨by rw [HF.out]; rfl, HB2.out.trans (HB3.out.mono HB2.out.size)⟩
    · as_aux_lemma =>
        have d1 : (x.N != 1) = true := by simpa using hN
        have HF : Hid (firmB t x = true) := by
          show _ = _
          unfold firmB
          rw [← hop]
          show (!(decide (x.N = 1)) || !(hasOp t 12 12)) = true
          rw [decide_eq_false hN]
          rfl
        clear hop hN
        go_enter Tryd.func49, Tryd.ntmps49
        go_upto_region 1 with fail
        rw [← hw1]
        clear hw1
        go_wp2_with fail
        go_ret
        exact ⟨by rw [HF.out]; rfl, HB1.out⟩
  by_cases h1 : op = 1
  · subst h1
    as_aux_lemma =>
      obtain ⟨aI, nI, cI, aE, nE, cE, a7, n7, c7, a8, n8, c8, b7, m7, d7, b8, m8, d8, hall⟩ := tall_of ht
      obtain ⟨q2, p2, q3, p3, hcs, -, -, hs2, -⟩ := api_TExit_cells_eq hall.back
      obtain ⟨r, hr⟩ : ∃ r, r = t.Back.Sets.any fun s => s.Reg == x.N := ⟨_, rfl⟩
      have HF : Hid (firmB t x = !r) := by
        show _ = _
        unfold firmB
        rw [← hop, hr]
        show (!(t.Back.Sets.any fun s => decide (s.Reg = x.N))) = _
        congr 1
      have h11 : T.toList[11]? = some (.slice q2 t.Back.Sets.length p2) := by
        rw [hall.eq]
        injection hcs with e1 e2
        injection e2 with e2 e3
        injection e3 with e3 e4
        rw [← e3]
        rfl
      have HH : Hid (Calls Tryd.prog 91 #[.slice q2 t.Back.Sets.length p2, .func (.func 92) #[] #[.pointer (some ⟨w.heap.size + 1, 0, none⟩)]] w1 fun e w' => e = .returned (.bool r) ∧ Below w1.heap.size w1 w') := by
        rw [hr]
        refine funs.containsE_any (R := Grow) mild_grow (S := S) (xs := t.Back.Sets) (p := fun s => s.Reg == x.N) (caps := #[.pointer (some ⟨w.heap.size + 1, 0, none⟩)]) rfl (hs2.2.2.keep fun b hb => hb1.block b (hS b hb)) (fun b hb => Nat.lt_of_lt_of_le (hS b hb) hb1.size) Tryd.call92 ?_
        intro y wx _ hG
        exact firm1_any x y (rX.keep (hG.block _ rX.lt))
      have t11 := rT.cell h11
      obtain ⟨nb, hnb⟩ : ∃ n, n = t.Back.Sets.length := ⟨_, rfl⟩
      rw [← hnb] at t11 HH
      clear hop hr hs2 hall hcs h11 ht hS hb1 rT rX hnb
      go_enter Tryd.func49, Tryd.ntmps49
      go_upto_region 1 with fail
      rw [← hw1]
      clear hw1
      go_wp2_with (go_at_call 91; (with_reducible refine HH.out.mono ?_); rintro e w' ⟨rfl, hb⟩; have HB3 := Lib.hid hb; clear hb)
      go_ret
      exact ⟨by rw [HF.out]; rfl, HB1.out.trans (HB3.out.mono HB1.out.size)⟩
  as_aux_lemma =>
    have HF : Hid (firmB t x = false) := by
      show _ = _
      unfold firmB
      rw [← hop, if_neg h1, if_neg h9, if_neg (by omega), if_neg h15, if_neg (by omega)]
    have e2 : (op == 2) = false := by simpa using h2
    have e3 : (op == 3) = false := by simpa using h3
    have e19 : (op == 19) = false := by simpa using h19
    have e7 : (op == 7) = false := by simpa using h7
    have e8 : (op == 8) = false := by simpa using h8
    have e4 : (op == 4) = false := by simpa using h4
    have e5 : (op == 5) = false := by simpa using h5
    have e6 : (op == 6) = false := by simpa using h6
    have e1 : (op == 1) = false := by simpa using h1
    have e9 : (op == 9) = false := by simpa using h9
    have e10 : (op == 10) = false := by simpa using h10
    have e13 : (op == 13) = false := by simpa using h13
    have e15 : (op == 15) = false := by simpa using h15
    clear hop h2 h3 h19 h7 h8 h4 h5 h6 h1 h9 h10 h13 h15
    go_enter Tryd.func49, Tryd.ntmps49
    go_upto_region 1 with fail
    rw [← hw1]
    clear hw1
    go_wp2_with fail
    go_ret
    exact ⟨by rw [HF.out]; rfl, HB1.out⟩

end Go.Proofs.YtekofpigmggbbaaDoor.peel
