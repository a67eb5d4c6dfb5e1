/- The document's: values, must, may, number, value: walked. -/
import Derived.Test.YtekofpigmggbbaaDoorChkPlain
import Derived.Test.YtekofpigmggbbaaDoorIrA
import Derived.Laws.Rows
import Derived.Test.YtekofpigmggbbaaDoorWr
import Derived.Test.YtekofpigmggbbaaDoorTy
import Derived.Laws.BitsLemmas
set_option linter.unusedVariables false
set_option linter.unusedSimpArgs false
namespace Go.Proofs.YtekofpigmggbbaaDoor.chk
open Go.Bk Go.RowKit Go.Proofs.YtekofpigmggbbaaDoor.ir

theorem op_cases (op : Int) : (op < 1 ∨ 19 < op) ∨ op = 1 ∨ op = 2 ∨ op = 3 ∨ op = 4 ∨ op = 5 ∨ op = 6 ∨ op = 7 ∨ op = 8 ∨ op = 9 ∨ op = 10 ∨ op = 11 ∨ op = 12 ∨ op = 13 ∨ op = 14 ∨ op = 15 ∨ op = 16 ∨ op = 17 ∨ op = 18 ∨ op = 19 := by omega
theorem must_eq (op : Int) : decide (op ∈ [(4 : Int), 5, 6, 9, 12, 13, 14, 16, 18, 19]) = decide ((formOf op).1.exit = 2) := by
  rcases op_cases op with h | rfl | rfl | rfl | rfl | rfl | rfl | rfl | rfl | rfl | rfl | rfl | rfl | rfl | rfl | rfl | rfl | rfl | rfl | rfl
  · rw [formOf_else h]; simp; omega
  all_goals decide
theorem may_eq (op : Int) : decide (op ∈ [(7 : Int), 8, 17]) = decide ((formOf op).1.exit = 1) := by
  rcases op_cases op with h | rfl | rfl | rfl | rfl | rfl | rfl | rfl | rfl | rfl | rfl | rfl | rfl | rfl | rfl | rfl | rfl | rfl | rfl | rfl
  · rw [formOf_else h]; simp; omega
  all_goals decide
theorem values_eq (op : Int) : (if decide (op ∈ [(4 : Int), 5, 6, 8, 9, 10, 15]) = true then 1 else if decide (op ∈ [(7 : Int), 11, 12, 13, 17]) = true then 2 else if op = 14 then 3 else 0) = (formOf op).1.asks := by
  rcases op_cases op with h | rfl | rfl | rfl | rfl | rfl | rfl | rfl | rfl | rfl | rfl | rfl | rfl | rfl | rfl | rfl | rfl | rfl | rfl | rfl
  · rw [formOf_else h, decide_eq_false (by simp; omega), decide_eq_false (by simp; omega), if_neg (by simp), if_neg (by simp), if_neg (by omega)]
  all_goals decide
theorem below_of_has {w w1 : World} {o : Obj} (hq : Quiet (w.alloc o) w1) : Below w.heap.size w w1 := ((Below.refl _ _).alloc (Nat.le_refl _) _).trans (hq.below _)
set_option maxRecDepth 100000 in
theorem must_any (w : World) (op : Int) : Calls Tryd.prog 119 #[.int .i64 op] w fun e w' => e = .returned (.bool (decide ((formOf op).1.exit = 2))) ∧ Below w.heap.size w w' := by
  have H : Hid (∀ (w : World) (k : Nat), k = 10 → Calls Tryd.prog 32 #[.slice (some ⟨w.heap.size, 0, none⟩) k k, .int .i64 op] (w.alloc (.cells ([(4 : Int), 5, 6, 9, 12, 13, 14, 16, 18, 19].map (Value.int .i64)).toArray 3)) fun e w' => e = .returned (.bool (decide ((formOf op).1.exit = 2))) ∧ Below w.heap.size w w') := fun w k hk => by
    subst hk
    refine (has_any (S := fun _ => True) (xs := [4, 5, 6, 9, 12, 13, 14, 16, 18, 19]) ((blk_new w _ _).arr (zs := [4, 5, 6, 9, 12, 13, 14, 16, 18, 19]) (by unfold I64; simp) (by simp [maxLen]) trivial)).mono fun e w' ⟨he, hq⟩ => ⟨?_, below_of_has hq⟩
    rw [he, must_eq]
  obtain ⟨b, hb⟩ : ∃ b, b = decide ((formOf op).1.exit = 2) := ⟨_, rfl⟩
  rw [← hb] at H ⊢
  clear hb
  go_enter Tryd.func119, Tryd.ntmps119
  go_wp2_with fail
  refine (H.out _ _ rfl).mono ?_
  rintro e w1 ⟨rfl, hq⟩
  have HQ := Lib.hid hq
  clear hq
  go_wp2
  go_ret
  exact ⟨rfl, HQ.out⟩
set_option maxRecDepth 100000 in
theorem may_any (w : World) (op : Int) : Calls Tryd.prog 120 #[.int .i64 op] w fun e w' => e = .returned (.bool (decide ((formOf op).1.exit = 1))) ∧ Below w.heap.size w w' := by
  have H : Hid (∀ (w : World) (k : Nat), k = 3 → Calls Tryd.prog 32 #[.slice (some ⟨w.heap.size, 0, none⟩) k k, .int .i64 op] (w.alloc (.cells ([(7 : Int), 8, 17].map (Value.int .i64)).toArray 3)) fun e w' => e = .returned (.bool (decide ((formOf op).1.exit = 1))) ∧ Below w.heap.size w w') := fun w k hk => by
    subst hk
    refine (has_any (S := fun _ => True) (xs := [7, 8, 17]) ((blk_new w _ _).arr (zs := [7, 8, 17]) (by unfold I64; simp) (by simp [maxLen]) trivial)).mono fun e w' ⟨he, hq⟩ => ⟨?_, below_of_has hq⟩
    rw [he, may_eq]
  obtain ⟨b, hb⟩ : ∃ b, b = decide ((formOf op).1.exit = 1) := ⟨_, rfl⟩
  rw [← hb] at H ⊢
  clear hb
  go_enter Tryd.func120, Tryd.ntmps120
  go_wp2_with fail
  refine (H.out _ _ rfl).mono ?_
  rintro e w1 ⟨rfl, hq⟩
  have HQ := Lib.hid hq
  clear hq
  go_wp2
  go_ret
  exact ⟨rfl, HQ.out⟩
set_option maxRecDepth 100000 in
theorem values_any (w : World) (op : Int) : Calls Tryd.prog 55 #[.int .i64 op] w fun e w' => e = .returned (.int .i64 (formOf op).1.asks) ∧ Below w.heap.size w w' := by
  have HV := Lib.hid (values_eq op)
  have H1 : Hid (∀ w, Calls Tryd.prog 32 #[.slice (some ⟨w.heap.size, 0, none⟩) 7 7, .int .i64 op] (w.alloc (.cells #[.int .i64 4, .int .i64 5, .int .i64 6, .int .i64 8, .int .i64 9, .int .i64 10, .int .i64 15] 3)) fun e w' => e = .returned (.bool (decide (op ∈ [(4 : Int), 5, 6, 8, 9, 10, 15]))) ∧ Below w.heap.size w w') := fun w =>
    (has_any (S := fun _ => True) (xs := [4, 5, 6, 8, 9, 10, 15]) ((blk_new w _ _).arr (zs := [4, 5, 6, 8, 9, 10, 15]) (by unfold I64; simp) (by simp [maxLen]) trivial)).mono fun e w' ⟨he, hq⟩ => ⟨he, below_of_has hq⟩
  have H2 : Hid (∀ w, Calls Tryd.prog 32 #[.slice (some ⟨w.heap.size, 0, none⟩) 5 5, .int .i64 op] (w.alloc (.cells #[.int .i64 7, .int .i64 11, .int .i64 12, .int .i64 13, .int .i64 17] 3)) fun e w' => e = .returned (.bool (decide (op ∈ [(7 : Int), 11, 12, 13, 17]))) ∧ Below w.heap.size w w') := fun w =>
    (has_any (S := fun _ => True) (xs := [7, 11, 12, 13, 17]) ((blk_new w _ _).arr (zs := [7, 11, 12, 13, 17]) (by unfold I64; simp) (by simp [maxLen]) trivial)).mono fun e w' ⟨he, hq⟩ => ⟨he, below_of_has hq⟩
  obtain ⟨b1, hb1⟩ : ∃ b, b = decide (op ∈ [(4 : Int), 5, 6, 8, 9, 10, 15]) := ⟨_, rfl⟩
  obtain ⟨b2, hb2⟩ : ∃ b, b = decide (op ∈ [(7 : Int), 11, 12, 13, 17]) := ⟨_, rfl⟩
  rw [← hb1] at H1 HV
  rw [← hb2] at H2 HV
  clear hb1 hb2
  cases b1
  · cases b2
    · by_cases h : op = 14
      · subst h
        go_enter Tryd.func55, Tryd.ntmps55
        go_wp2_with (first
          | (go_at_call 32; (with_reducible refine (H1.out _).mono ?_); rintro e w1 ⟨rfl, hb⟩; have HB1 := Lib.hid hb; clear hb)
          | (go_at_call 32; (with_reducible refine (H2.out _).mono ?_); rintro e w2 ⟨rfl, hb⟩; have HB2 := Lib.hid hb; clear hb))
        go_ret
        exact ⟨by rw [← HV.out]; rfl, HB1.out.trans (HB2.out.mono HB1.out.size)⟩
      · have h2 : (op == 14) = false := by simpa using h
        have HH := Lib.hid h
        clear h
        go_enter Tryd.func55, Tryd.ntmps55
        go_wp2_with (first
          | (go_at_call 32; (with_reducible refine (H1.out _).mono ?_); rintro e w1 ⟨rfl, hb⟩; have HB1 := Lib.hid hb; clear hb)
          | (go_at_call 32; (with_reducible refine (H2.out _).mono ?_); rintro e w2 ⟨rfl, hb⟩; have HB2 := Lib.hid hb; clear hb))
        go_ret
        exact ⟨by rw [← HV.out, if_neg (by simp), if_neg (by simp), if_neg HH.out]; rfl, HB1.out.trans (HB2.out.mono HB1.out.size)⟩
    · go_enter Tryd.func55, Tryd.ntmps55
      go_wp2_with (first
        | (go_at_call 32; (with_reducible refine (H1.out _).mono ?_); rintro e w1 ⟨rfl, hb⟩; have HB1 := Lib.hid hb; clear hb)
        | (go_at_call 32; (with_reducible refine (H2.out _).mono ?_); rintro e w2 ⟨rfl, hb⟩; have HB2 := Lib.hid hb; clear hb))
      go_ret
      exact ⟨by rw [← HV.out]; rfl, HB1.out.trans (HB2.out.mono HB1.out.size)⟩
  · go_enter Tryd.func55, Tryd.ntmps55
    go_wp2_with (first
      | (go_at_call 32; (with_reducible refine (H1.out _).mono ?_); rintro e w1 ⟨rfl, hb⟩; have HB1 := Lib.hid hb; clear hb))
    go_ret
    exact ⟨by rw [← HV.out]; rfl, HB1.out⟩
/-- What is read of a trace as it is handed over. -/
structure TIn (S : Nat → Prop) (w : World) (X : Array Value) (t : Api.TTrace) (a3 : Option Addr) (nI c3 : Nat) : Prop where
  size : X.size = 13
  c3 : X.toList[3]? = some (.slice a3 nI c3)
  ins : Arr S w a3 t.Ins
  len : t.Ins.length = nI
  few : nI ≤ 9223372036854775807
theorem tin_of {S : Nat → Prop} {w : World} {X : Array Value} {t : Api.TTrace} (h : Rep.cells S w X.toList t) : ∃ a3 nI c3, TIn S w X t a3 nI c3 := by
  obtain ⟨a3, c3, a4, c4, a7, c7, a8, c8, a11, c11, a12, c12, e, -, -, -, h3, -⟩ := api_TTrace_cells_eq h
  refine ⟨a3, _, c3, ?_, by rw [e]; rfl, h3.2.2, rfl, ?_⟩
  · have := congrArg List.length e
    simpa using this
  · have := h3.2.2.small
    unfold maxLen at this
    omega
theorem blk_box (w : World) (X : Array Value) (e : TypeId) : Blk (w.alloc (.cells X e)) w.heap.size e X.toList := by
  have := blk_new w X.toList e
  rwa [Array.toArray_toList] at this
set_option maxRecDepth 100000 in
theorem value_any {S : Nat → Prop} {w : World} {X : Array Value} {t : Api.TTrace} (h : Rep.cells S w X.toList t) (hS : ∀ b, S b → b < w.heap.size) (v at' : Int) :
    Calls Tryd.prog 116 #[.agg X, .int .i64 v, .int .i64 at'] w fun e w' => e = .returned (.bool (valAt t.Ins v at')) ∧ Below w.heap.size w w' := by
  obtain ⟨a3, nI, c3, hi⟩ := tin_of h
  have hbk := blk_box w X 34
  have HB : Hid (∀ o, Below w.heap.size w (w.alloc o)) := fun o => cod.below_al2 o
  obtain ⟨w1, hw1⟩ : ∃ w1, w1 = w.alloc (.cells X 34) := ⟨_, rfl⟩
  have HB1 : Hid (Below w.heap.size w w1) := by show Below _ _ _; rw [hw1]; exact HB.out _
  rw [← hw1] at hbk
  have p3 := hbk.cell hi.c3
  have hlt := hbk.lt
  have hn := hi.few
  have HI := Lib.hid hi
  have HS := Lib.hid hS
  clear h hi hbk hS HB
  go_enter Tryd.func116, Tryd.ntmps116
  go_upto_region 1 with fail
  rw [← hw1]
  clear hw1
  by_cases hin : 0 ≤ v ∧ v < at' ∧ v < nI
  · obtain ⟨h1, h2, h3⟩ := hin
    obtain ⟨k, rfl⟩ : ∃ k : Nat, v = k := ⟨v.toNat, by omega⟩
    obtain ⟨x, hx⟩ : ∃ x, t.Ins[k]? = some x := ⟨_, List.getElem?_eq_getElem (by rw [HI.out.len]; omega)⟩
    obtain ⟨b, off, rfl, hb, y0⟩ := arr_ins_op (HI.out.ins.keep fun b hb => HB1.out.block b (HS.out b hb)) hx
    have hbl : b < w1.heap.size := Nat.lt_of_lt_of_le (HS.out b hb) HB1.out.size
    have HV : Hid (valAt t.Ins k at' = tellsOf x.Op) := valAt_in h2 hx
    clear hx hb h1
    go_wp2_with (go_at_call 12; (with_reducible refine rtells_any.mono ?_); rintro e w2 ⟨rfl, hb⟩; have HB2 := Lib.hid hb; clear hb)
    go_ret
    exact ⟨by rw [HV.out]; rfl, HB1.out.trans (HB2.out.mono HB1.out.size)⟩
  · have HV : Hid (valAt t.Ins v at' = false) := valAt_not (by rw [HI.out.len]; exact hin)
    rcases (show v < 0 ∨ (¬ v < 0 ∧ at' ≤ v) ∨ (¬ v < 0 ∧ v < at' ∧ (nI : Int) ≤ v) by omega) with d | ⟨d, d2⟩ | ⟨d, d2, d3⟩
    all_goals
      clear hin
      go_wp2_with fail
      go_ret
      exact ⟨by rw [HV.out]; rfl, HB1.out⟩
end Go.Proofs.YtekofpigmggbbaaDoor.chk

/- Traces, programs, exits, instructions loaded whole. -/
namespace Go.Proofs.YtekofpigmggbbaaDoor
open Go.Bk Go.RowKit
section
variable {ops : Array Oper} {C : World → Prop} {Q : Exit → Act → World → Prop} {a : Act} {o : Oper} {w : World} {rest : List Oper} {K : Act → Prop} {x : Operand} {g : Nat} {X : Array Value}
theorem infoT (h : X.size = 13) : (Tryd.prog.info? 34).map (·.size) = some X.size := by
  rw [h]; kernel_rfl
theorem ldT (hw : Region.wanted o (yielded ops a.tmps) = true) (ho : o.op = .load 34 x) (hx : a.eval x = .pointer (some ⟨g, 0, none⟩)) (hg : Row w g 34 X) (hs : X.size = 13)
    (h : wpList Tryd.prog ops Q rest (a.put o.dst (.agg X)) w) : wpList Tryd.prog ops Q (o :: rest) a w :=
  wp_load_rowX hw 34 x ho g hx _ X hg _ Tryd.underlying34 rfl (infoT hs) h
theorem qldT (ho : o.op = .load 34 x) (hx : a.eval x = .pointer (some ⟨g, 0, none⟩)) (hg : ∀ w, C w → Row w g 34 X) (hs : X.size = 13)
    (h : K (a.put o.dst (.agg X))) : o.quiet Tryd.prog a C K :=
  quiet_load_row 34 x ho g hx _ X hg _ Tryd.underlying34 rfl (infoT hs) h
theorem infoP (h : X.size = 3) : (Tryd.prog.info? 26).map (·.size) = some X.size := by
  rw [h]; kernel_rfl
theorem ldP (hw : Region.wanted o (yielded ops a.tmps) = true) (ho : o.op = .load 26 x) (hx : a.eval x = .pointer (some ⟨g, 0, none⟩)) (hg : Row w g 26 X) (hs : X.size = 3)
    (h : wpList Tryd.prog ops Q rest (a.put o.dst (.agg X)) w) : wpList Tryd.prog ops Q (o :: rest) a w :=
  wp_load_rowX hw 26 x ho g hx _ X hg _ Tryd.underlying26 rfl (infoP hs) h
theorem qldP (ho : o.op = .load 26 x) (hx : a.eval x = .pointer (some ⟨g, 0, none⟩)) (hg : ∀ w, C w → Row w g 26 X) (hs : X.size = 3)
    (h : K (a.put o.dst (.agg X))) : o.quiet Tryd.prog a C K :=
  quiet_load_row 26 x ho g hx _ X hg _ Tryd.underlying26 rfl (infoP hs) h
theorem infoE (h : X.size = 4) : (Tryd.prog.info? 32).map (·.size) = some X.size := by
  rw [h]; kernel_rfl
theorem ldE (hw : Region.wanted o (yielded ops a.tmps) = true) (ho : o.op = .load 32 x) (hx : a.eval x = .pointer (some ⟨g, 0, none⟩)) (hg : Row w g 32 X) (hs : X.size = 4)
    (h : wpList Tryd.prog ops Q rest (a.put o.dst (.agg X)) w) : wpList Tryd.prog ops Q (o :: rest) a w :=
  wp_load_rowX hw 32 x ho g hx _ X hg _ Tryd.underlying32 rfl (infoE hs) h
theorem qldE (ho : o.op = .load 32 x) (hx : a.eval x = .pointer (some ⟨g, 0, none⟩)) (hg : ∀ w, C w → Row w g 32 X) (hs : X.size = 4)
    (h : K (a.put o.dst (.agg X))) : o.quiet Tryd.prog a C K :=
  quiet_load_row 32 x ho g hx _ X hg _ Tryd.underlying32 rfl (infoE hs) h
theorem infoI (h : X.size = 8) : (Tryd.prog.info? 43).map (·.size) = some X.size := by
  rw [h]; kernel_rfl
theorem ldI (hw : Region.wanted o (yielded ops a.tmps) = true) (ho : o.op = .load 43 x) (hx : a.eval x = .pointer (some ⟨g, 0, none⟩)) (hg : Row w g 43 X) (hs : X.size = 8)
    (h : wpList Tryd.prog ops Q rest (a.put o.dst (.agg X)) w) : wpList Tryd.prog ops Q (o :: rest) a w :=
  wp_load_rowX hw 43 x ho g hx _ X hg _ Tryd.underlying43 rfl (infoI hs) h
theorem qldI (ho : o.op = .load 43 x) (hx : a.eval x = .pointer (some ⟨g, 0, none⟩)) (hg : ∀ w, C w → Row w g 43 X) (hs : X.size = 8)
    (h : K (a.put o.dst (.agg X))) : o.quiet Tryd.prog a C K :=
  quiet_load_row 43 x ho g hx _ X hg _ Tryd.underlying43 rfl (infoI hs) h
end
end Go.Proofs.YtekofpigmggbbaaDoor

/- The document's: number, RightVal: walked. -/
namespace Go.Proofs.YtekofpigmggbbaaDoor.chk
open Go.Bk Go.RowKit Go.Proofs.YtekofpigmggbbaaDoor.ir

theorem and_hi (m : Nat) : m &&& ((2 ^ 11 - 1) <<< 52) = ((m >>> 52) % 2 ^ 11) <<< 52 := by
  apply Nat.eq_of_testBit_eq
  intro i
  simp only [Nat.testBit_and, Nat.testBit_shiftLeft, Nat.testBit_mod_two_pow, Nat.testBit_shiftRight, Nat.testBit_two_pow_sub_one]
  by_cases h : 52 ≤ i
  · have e : 52 + (i - 52) = i := by omega
    rw [e]
    simp [h, Bool.and_comm]
  · simp [h]
theorem bits_lo (n : Int) : bits .and .i64 n 4503599627370495 = n % 4503599627370496 := by
  have h : (BitVec.ofInt 64 4503599627370495).toNat = 2 ^ 52 - 1 := by decide
  have key : (BitVec.ofInt 64 n &&& BitVec.ofInt 64 4503599627370495).toNat = (n % ((2 ^ 64 : Nat) : Int)).toNat % 2 ^ 52 := by
    rw [BitVec.toNat_and, BitVec.toNat_ofInt, h, Nat.and_two_pow_sub_one_eq_mod]
  show IntKind.i64.wrap ((BitVec.ofInt 64 n &&& BitVec.ofInt 64 4503599627370495).toNat : Nat) = _
  rw [key, IntKind.wrap_i64]
  omega
theorem bits_hi (n : Int) : bits .and .i64 n 9218868437227405312 = n % 9223372036854775808 - n % 4503599627370496 := by
  have h : (BitVec.ofInt 64 9218868437227405312).toNat = (2 ^ 11 - 1) <<< 52 := by decide
  have key : (BitVec.ofInt 64 n &&& BitVec.ofInt 64 9218868437227405312).toNat = (((n % ((2 ^ 64 : Nat) : Int)).toNat / 4503599627370496) % 2048) * 4503599627370496 := by
    rw [BitVec.toNat_and, BitVec.toNat_ofInt, h, and_hi, Nat.shiftLeft_eq, Nat.shiftRight_eq_div_pow]
  show IntKind.i64.wrap ((BitVec.ofInt 64 n &&& BitVec.ofInt 64 9218868437227405312).toNat : Nat) = _
  rw [key, IntKind.wrap_i64]
  omega
theorem flt_bits (n : Int) : (bits .and .i64 n 9218868437227405312 != 9218868437227405312 || bits .and .i64 n 4503599627370495 == 0) = cod.fltNum n := by
  rw [bits_lo, bits_hi]
  unfold cod.fltNum
  rw [Bool.eq_iff_iff]
  simp
  omega
set_option maxRecDepth 100000 in
set_option maxHeartbeats 1000000 in
theorem rightVal_any (w : World) (v : Api.Val) : Calls Tryd.prog 118 #[.agg #[.int .i64 v.Kind, .int .i64 v.N]] w fun e w' => e = .returned (.bool (cod.right v)) ∧ Below w.heap.size w w' := by
  obtain ⟨k, n⟩ := v
  show Calls Tryd.prog 118 #[.agg #[.int .i64 k, .int .i64 n]] w _
  have HB : Hid (∀ o, Below w.heap.size w (w.alloc o)) := fun o => cod.below_al2 o
  have HR : Hid (cod.right ⟨k, n⟩ = if k = 0 then decide (n = 0)
  else if k = 1 then cod.within n 0 1
  else if k = 2 then cod.within n (-2147483648) 2147483647
  else if k = 3 then cod.fltNum n || decide (n = 9221120237041090561)
  else if k = 4 ∨ k = 5 then decide (0 ≤ n)
  else if k = 6 then cod.within n 0 15
  else false) := rfl
  by_cases k0 : k = 0
  · subst k0
    go_enter Tryd.func118, Tryd.ntmps118
    go_wp2
    go_ret
    exact ⟨by rw [HR.out]; simp [BEq.beq], HB.out _⟩
  have n0 : (k == 0) = false := by simpa using k0
  by_cases k1 : k = 1
  · subst k1
    by_cases h : n = 0
    · have h1 : (n == 0) = true := by simp [h]
      have HE := Lib.hid h
      clear h
      go_enter Tryd.func118, Tryd.ntmps118
      go_wp2
      go_ret
      exact ⟨by rw [HR.out, HE.out]; rfl, HB.out _⟩
    · have h1 : (n == 0) = false := by simpa using h
      by_cases h2 : n = 1
      · subst h2
        go_enter Tryd.func118, Tryd.ntmps118
        go_wp2
        go_ret
        exact ⟨by rw [HR.out]; rfl, HB.out _⟩
      · have h3 : (n == 1) = false := by simpa using h2
        have HC1 : Hid (cod.right ⟨1, n⟩ = cod.within n 0 1) := rfl
        have HW : Hid (cod.within n 0 1 = false) := by show _ = _; unfold cod.within; simp; omega
        clear h h2
        go_enter Tryd.func118, Tryd.ntmps118
        go_wp2
        go_ret
        exact ⟨by rw [HC1.out, HW.out]; rfl, HB.out _⟩
  have n1 : (k == 1) = false := by simpa using k1
  by_cases k2 : k = 2
  · subst k2
    have HW : Hid (cod.within n (-2147483648) 2147483647 = (decide (-2147483648 ≤ n) && decide (n < 2147483648))) := by show _ = _; unfold cod.within; rw [Bool.eq_iff_iff]; simp; omega
    have HC : Hid (cod.right ⟨2, n⟩ = cod.within n (-2147483648) 2147483647) := rfl
    cases h : decide (-2147483648 ≤ n) <;> cases h2 : decide (n < 2147483648)
    all_goals
      rw [h, h2] at HW
      go_enter Tryd.func118, Tryd.ntmps118
      go_wp2
      go_ret
      exact ⟨by rw [HC.out, HW.out]; rfl, HB.out _⟩
  have n2 : (k == 2) = false := by simpa using k2
  by_cases k3 : k = 3
  · subst k3
    have hf := flt_bits n
    obtain ⟨q, hq⟩ : ∃ q, q = cod.fltNum n := ⟨_, rfl⟩
    obtain ⟨b1, hb1⟩ : ∃ b, b = (bits .and .i64 n 9218868437227405312 != 9218868437227405312) := ⟨_, rfl⟩
    obtain ⟨b2, hb2⟩ : ∃ b, b = (bits .and .i64 n 4503599627370495 == 0) := ⟨_, rfl⟩
    rw [← hb1, ← hb2, ← hq] at hf
    rw [← hq] at HR
    have hb1' := hb1.symm; have hb2' := hb2.symm
    have HF := Lib.hid hf
    clear hb1 hb2 hf hq k0 k1 k2
    cases b1 <;> cases b2
    all_goals
      go_enter Tryd.func118, Tryd.ntmps118
      go_wp2
      all_goals
        go_ret
        exact ⟨by rw [HR.out, ← HF.out]; simp [BEq.beq], HB.out _⟩
  have n3 : (k == 3) = false := by simpa using k3
  by_cases k4 : k = 4 ∨ k = 5
  · rcases (show k = 4 ∨ (k = 5 ∧ (k == 4) = false) by rcases k4 with h | h; exact .inl h; exact .inr ⟨h, by simp [h]⟩) with h | ⟨h, h2⟩
    all_goals
      subst h
      clear k4
      go_enter Tryd.func118, Tryd.ntmps118
      go_wp2
      go_ret
      exact ⟨by rw [HR.out]; simp, HB.out _⟩
  have n4 : (k == 4) = false := by simp; omega
  have n5 : (k == 5) = false := by simp; omega
  by_cases k6 : k = 6
  · subst k6
    have HW : Hid (cod.within n (0) 15 = (decide (0 ≤ n) && decide (n < 16))) := by show _ = _; unfold cod.within; rw [Bool.eq_iff_iff]; simp; omega
    have HC : Hid (cod.right ⟨6, n⟩ = cod.within n (0) 15) := rfl
    cases h : decide (0 ≤ n) <;> cases h2 : decide (n < 16)
    all_goals
      rw [h, h2] at HW
      go_enter Tryd.func118, Tryd.ntmps118
      go_wp2
      go_ret
      exact ⟨by rw [HC.out, HW.out]; rfl, HB.out _⟩
  have n6 : (k == 6) = false := by simpa using k6
  have HR2 : Hid (cod.right ⟨k, n⟩ = false) := by show _ = _; rw [HR.out, if_neg k0, if_neg k1, if_neg k2, if_neg k3, if_neg k4, if_neg k6]
  clear k0 k1 k2 k3 k4 k6
  go_enter Tryd.func118, Tryd.ntmps118
  go_wp2
  go_ret
  exact ⟨by rw [HR2.out]; rfl, HB.out _⟩
abbrev insL8 (x : Api.TIns) : Array Value := #[.int .i64 x.Op, .int .i64 x.A, .int .i64 x.B, .int .i64 x.C, .int .i64 x.N, .int .i64 x.Exit, .int .i64 x.K.Kind, .int .i64 x.K.N]
set_option maxRecDepth 100000 in
set_option maxHeartbeats 2000000 in
theorem number_any (w : World) (x : Api.TIns) (regs : Int) (h0 : 0 ≤ regs) (h1 : regs ≤ 1000) : Calls Tryd.prog 117 #[.agg #[.int .i64 x.Op, .int .i64 x.A, .int .i64 x.B, .int .i64 x.C, .int .i64 x.N, .int .i64 x.Exit, .int .i64 x.K.Kind, .int .i64 x.K.N], .int .i64 regs] w fun e w' => e = .returned (.bool (numOk regs x)) ∧ Below w.heap.size w w' := by
  obtain ⟨op, iA, iB, iC, n, ex, ⟨kk, kn⟩⟩ := x
  dsimp only
  have HB : Hid (∀ o, Below w.heap.size w (w.alloc o)) := fun o => cod.below_al2 o
  have HN : Hid (∀ lo hi : Int, (formOf op).1.low = lo → (if op = 1 then regs - 1 else (formOf op).1.high) = hi → numOk regs ⟨op, iA, iB, iC, n, ex, ⟨kk, kn⟩⟩ = (decide (lo ≤ n) && decide (n ≤ hi))) := fun lo hi e1 e2 => by unfold numOk; rw [e1, e2]
  have key : ∀ lo hi : Int, numOk regs ⟨op, iA, iB, iC, n, ex, ⟨kk, kn⟩⟩ = (decide (lo ≤ n) && decide (n ≤ hi)) → (∀ b1 b2, decide (lo ≤ n) = b1 → decide (n ≤ hi) = b2 → Calls Tryd.prog 117 #[.agg #[.int .i64 op, .int .i64 iA, .int .i64 iB, .int .i64 iC, .int .i64 n, .int .i64 ex, .int .i64 kk, .int .i64 kn], .int .i64 regs] w fun e w' => e = .returned (.bool (b1 && b2)) ∧ Below w.heap.size w w') →
      Calls Tryd.prog 117 #[.agg #[.int .i64 op, .int .i64 iA, .int .i64 iB, .int .i64 iC, .int .i64 n, .int .i64 ex, .int .i64 kk, .int .i64 kn], .int .i64 regs] w fun e w' => e = .returned (.bool (numOk regs ⟨op, iA, iB, iC, n, ex, ⟨kk, kn⟩⟩)) ∧ Below w.heap.size w w' := fun lo hi e h => by
    rw [e]
    exact h _ _ rfl rfl
  rcases op_cases op with h | rfl | rfl | rfl | rfl | rfl | rfl | rfl | rfl | rfl | rfl | rfl | rfl | rfl | rfl | rfl | rfl | rfl | rfl | rfl
  · refine key 0 0 (HN.out _ _ (by rw [formOf_else h]) (by rw [formOf_else h, if_neg (by omega)])) fun b1 b2 e1 e2 => ?_
    have n1 : (op == 1) = false := by simp; omega
    have n4 : (op == 4) = false := by simp; omega
    have n5 : (op == 5) = false := by simp; omega
    have n7 : (op == 7) = false := by simp; omega
    have n8 : (op == 8) = false := by simp; omega
    have n9 : (op == 9) = false := by simp; omega
    have n10 : (op == 10) = false := by simp; omega
    have n11 : (op == 11) = false := by simp; omega
    have n12 : (op == 12) = false := by simp; omega
    have n19 : (op == 19) = false := by simp; omega
    have n16 : (op == 16) = false := by simp; omega
    clear h HN key
    cases b1 <;> cases b2
    all_goals
      go_enter Tryd.func117, Tryd.ntmps117
      go_wp2
      go_ret
      exact ⟨rfl, HB.out _⟩
  · refine key 0 (regs - 1) (HN.out _ _ rfl rfl) fun b1 b2 e1 e2 => ?_
    clear HN key
    cases b1 <;> cases b2
    all_goals
      go_enter Tryd.func117, Tryd.ntmps117
      go_wp2
      go_ret
      exact ⟨rfl, HB.out _⟩
  · refine key 0 0 (HN.out _ _ rfl rfl) fun b1 b2 e1 e2 => ?_
    clear HN key
    cases b1 <;> cases b2
    all_goals
      go_enter Tryd.func117, Tryd.ntmps117
      go_wp2
      go_ret
      exact ⟨rfl, HB.out _⟩
  · refine key 0 0 (HN.out _ _ rfl rfl) fun b1 b2 e1 e2 => ?_
    clear HN key
    cases b1 <;> cases b2
    all_goals
      go_enter Tryd.func117, Tryd.ntmps117
      go_wp2
      go_ret
      exact ⟨rfl, HB.out _⟩
  · refine key 0 6 (HN.out _ _ rfl rfl) fun b1 b2 e1 e2 => ?_
    clear HN key
    cases b1 <;> cases b2
    all_goals
      go_enter Tryd.func117, Tryd.ntmps117
      go_wp2
      go_ret
      exact ⟨rfl, HB.out _⟩
  · refine key 0 1 (HN.out _ _ rfl rfl) fun b1 b2 e1 e2 => ?_
    clear HN key
    cases b1 <;> cases b2
    all_goals
      go_enter Tryd.func117, Tryd.ntmps117
      go_wp2
      go_ret
      exact ⟨rfl, HB.out _⟩
  · refine key 0 0 (HN.out _ _ rfl rfl) fun b1 b2 e1 e2 => ?_
    clear HN key
    cases b1 <;> cases b2
    all_goals
      go_enter Tryd.func117, Tryd.ntmps117
      go_wp2
      go_ret
      exact ⟨rfl, HB.out _⟩
  · refine key 3 10 (HN.out _ _ rfl rfl) fun b1 b2 e1 e2 => ?_
    clear HN key
    cases b1 <;> cases b2
    all_goals
      go_enter Tryd.func117, Tryd.ntmps117
      go_wp2
      go_ret
      exact ⟨rfl, HB.out _⟩
  · refine key 11 12 (HN.out _ _ rfl rfl) fun b1 b2 e1 e2 => ?_
    clear HN key
    cases b1 <;> cases b2
    all_goals
      go_enter Tryd.func117, Tryd.ntmps117
      go_wp2
      go_ret
      exact ⟨rfl, HB.out _⟩
  · refine key 1 7 (HN.out _ _ rfl rfl) fun b1 b2 e1 e2 => ?_
    clear HN key
    cases b1 <;> cases b2
    all_goals
      go_enter Tryd.func117, Tryd.ntmps117
      go_wp2
      go_ret
      exact ⟨rfl, HB.out _⟩
  · refine key 0 99 (HN.out _ _ rfl rfl) fun b1 b2 e1 e2 => ?_
    clear HN key
    cases b1 <;> cases b2
    all_goals
      go_enter Tryd.func117, Tryd.ntmps117
      go_wp2
      go_ret
      exact ⟨rfl, HB.out _⟩
  · refine key 0 99 (HN.out _ _ rfl rfl) fun b1 b2 e1 e2 => ?_
    clear HN key
    cases b1 <;> cases b2
    all_goals
      go_enter Tryd.func117, Tryd.ntmps117
      go_wp2
      go_ret
      exact ⟨rfl, HB.out _⟩
  · refine key 1 1073741824 (HN.out _ _ rfl rfl) fun b1 b2 e1 e2 => ?_
    clear HN key
    cases b1 <;> cases b2
    all_goals
      go_enter Tryd.func117, Tryd.ntmps117
      go_wp2
      go_ret
      exact ⟨rfl, HB.out _⟩
  · refine key 0 0 (HN.out _ _ rfl rfl) fun b1 b2 e1 e2 => ?_
    clear HN key
    cases b1 <;> cases b2
    all_goals
      go_enter Tryd.func117, Tryd.ntmps117
      go_wp2
      go_ret
      exact ⟨rfl, HB.out _⟩
  · refine key 0 0 (HN.out _ _ rfl rfl) fun b1 b2 e1 e2 => ?_
    clear HN key
    cases b1 <;> cases b2
    all_goals
      go_enter Tryd.func117, Tryd.ntmps117
      go_wp2
      go_ret
      exact ⟨rfl, HB.out _⟩
  · refine key 0 0 (HN.out _ _ rfl rfl) fun b1 b2 e1 e2 => ?_
    clear HN key
    cases b1 <;> cases b2
    all_goals
      go_enter Tryd.func117, Tryd.ntmps117
      go_wp2
      go_ret
      exact ⟨rfl, HB.out _⟩
  · refine key 1 3 (HN.out _ _ rfl rfl) fun b1 b2 e1 e2 => ?_
    clear HN key
    cases b1 <;> cases b2
    all_goals
      go_enter Tryd.func117, Tryd.ntmps117
      go_wp2
      go_ret
      exact ⟨rfl, HB.out _⟩
  · refine key 0 0 (HN.out _ _ rfl rfl) fun b1 b2 e1 e2 => ?_
    clear HN key
    cases b1 <;> cases b2
    all_goals
      go_enter Tryd.func117, Tryd.ntmps117
      go_wp2
      go_ret
      exact ⟨rfl, HB.out _⟩
  · refine key 0 0 (HN.out _ _ rfl rfl) fun b1 b2 e1 e2 => ?_
    clear HN key
    cases b1 <;> cases b2
    all_goals
      go_enter Tryd.func117, Tryd.ntmps117
      go_wp2
      go_ret
      exact ⟨rfl, HB.out _⟩
  · refine key 1 1073741824 (HN.out _ _ rfl rfl) fun b1 b2 e1 e2 => ?_
    clear HN key
    cases b1 <;> cases b2
    all_goals
      go_enter Tryd.func117, Tryd.ntmps117
      go_wp2
      go_ret
      exact ⟨rfl, HB.out _⟩
end Go.Proofs.YtekofpigmggbbaaDoor.chk
