/- The document's: values, must, may, number, value: walked. -/
import Derived.Test.YtjlnaiiajlahgaaDoorChkPlain
import Derived.Test.YtjlnaiiajlahgaaDoorIrred
import Derived.Laws.Rows
set_option linter.unusedVariables false
set_option linter.unusedSimpArgs false
namespace Go.Proofs.YtjlnaiiajlahgaaDoor.chk
open Go.Bk Go.RowKit Go.Proofs.YtjlnaiiajlahgaaDoor.ir

theorem op_cases (op : Int) : (op < 1 ∨ 19 < op) ∨ op = 1 ∨ op = 2 ∨ op = 3 ∨ op = 4 ∨ op = 5 ∨ op = 6 ∨ op = 7 ∨ op = 8 ∨ op = 9 ∨ op = 10 ∨ op = 11 ∨ op = 12 ∨ op = 13 ∨ op = 14 ∨ op = 15 ∨ op = 16 ∨ op = 17 ∨ op = 18 ∨ op = 19 := by omega
theorem must_eq (op : Int) : decide (op ∈ [(4 : Int), 5, 6, 9, 12, 13, 14, 16, 18, 19]) = decide ((formOf op).1.exit = 2) := by
  rcases op_cases op with h | rfl | rfl | rfl | rfl | rfl | rfl | rfl | rfl | rfl | rfl | rfl | rfl | rfl | rfl | rfl | rfl | rfl | rfl | rfl
  · rw [formOf_else h]; simp; omega
  all_goals decide
theorem may_eq (op : Int) : decide (op ∈ [(7 : Int), 8, 17]) = decide ((formOf op).1.exit = 1) := by
  rcases op_cases op with h | rfl | rfl | rfl | rfl | rfl | rfl | rfl | rfl | rfl | rfl | rfl | rfl | rfl | rfl | rfl | rfl | rfl | rfl | rfl
  · rw [formOf_else h]; simp; omega
  all_goals decide
theorem values_eq (op : Int) : (if decide (op ∈ [(4 : Int), 5, 6, 8, 9, 10, 15]) = true then 1 else if decide (op ∈ [(7 : Int), 11, 12, 13, 17]) = true then 2 else if op = 14 then 3 else 0) = (formOf op).1.asks := by
  rcases op_cases op with h | rfl | rfl | rfl | rfl | rfl | rfl | rfl | rfl | rfl | rfl | rfl | rfl | rfl | rfl | rfl | rfl | rfl | rfl | rfl
  · rw [formOf_else h, decide_eq_false (by simp; omega), decide_eq_false (by simp; omega), if_neg (by simp), if_neg (by simp), if_neg (by omega)]
  all_goals decide
theorem below_of_has {w w1 : World} {o : Obj} (hq : Quiet (w.alloc o) w1) : Below w.heap.size w w1 := ((Below.refl _ _).alloc (Nat.le_refl _) _).trans (hq.below _)
set_option maxRecDepth 100000 in
theorem must_any (w : World) (op : Int) : Calls Tryd.prog 93 #[.int .i64 op] w fun e w' => e = .returned (.bool (decide ((formOf op).1.exit = 2))) ∧ Below w.heap.size w w' := by
  have H : Hid (∀ (w : World) (k : Nat), k = 10 → Calls Tryd.prog 45 #[.slice (some ⟨w.heap.size, 0, none⟩) k k, .int .i64 op] (w.alloc (.cells ([(4 : Int), 5, 6, 9, 12, 13, 14, 16, 18, 19].map (Value.int .i64)).toArray 3)) fun e w' => e = .returned (.bool (decide ((formOf op).1.exit = 2))) ∧ Below w.heap.size w w') := fun w k hk => by
    subst hk
    refine (has_any (S := fun _ => True) (xs := [4, 5, 6, 9, 12, 13, 14, 16, 18, 19]) ((blk_new w _ _).arr (zs := [4, 5, 6, 9, 12, 13, 14, 16, 18, 19]) (by unfold I64; simp) (by simp [maxLen]) trivial)).mono fun e w' ⟨he, hq⟩ => ⟨?_, below_of_has hq⟩
    rw [he, must_eq]
  obtain ⟨b, hb⟩ : ∃ b, b = decide ((formOf op).1.exit = 2) := ⟨_, rfl⟩
  rw [← hb] at H ⊢
  clear hb
  go_enter Tryd.func93, Tryd.ntmps93
  go_wp2_with fail
  refine (H.out _ _ rfl).mono ?_
  rintro e w1 ⟨rfl, hq⟩
  have HQ := Lib.hid hq
  clear hq
  go_wp2
  go_ret
  exact ⟨rfl, HQ.out⟩
set_option maxRecDepth 100000 in
theorem may_any (w : World) (op : Int) : Calls Tryd.prog 94 #[.int .i64 op] w fun e w' => e = .returned (.bool (decide ((formOf op).1.exit = 1))) ∧ Below w.heap.size w w' := by
  have H : Hid (∀ (w : World) (k : Nat), k = 3 → Calls Tryd.prog 45 #[.slice (some ⟨w.heap.size, 0, none⟩) k k, .int .i64 op] (w.alloc (.cells ([(7 : Int), 8, 17].map (Value.int .i64)).toArray 3)) fun e w' => e = .returned (.bool (decide ((formOf op).1.exit = 1))) ∧ Below w.heap.size w w') := fun w k hk => by
    subst hk
    refine (has_any (S := fun _ => True) (xs := [7, 8, 17]) ((blk_new w _ _).arr (zs := [7, 8, 17]) (by unfold I64; simp) (by simp [maxLen]) trivial)).mono fun e w' ⟨he, hq⟩ => ⟨?_, below_of_has hq⟩
    rw [he, may_eq]
  obtain ⟨b, hb⟩ : ∃ b, b = decide ((formOf op).1.exit = 1) := ⟨_, rfl⟩
  rw [← hb] at H ⊢
  clear hb
  go_enter Tryd.func94, Tryd.ntmps94
  go_wp2_with fail
  refine (H.out _ _ rfl).mono ?_
  rintro e w1 ⟨rfl, hq⟩
  have HQ := Lib.hid hq
  clear hq
  go_wp2
  go_ret
  exact ⟨rfl, HQ.out⟩
set_option maxRecDepth 100000 in
theorem values_any (w : World) (op : Int) : Calls Tryd.prog 50 #[.int .i64 op] w fun e w' => e = .returned (.int .i64 (formOf op).1.asks) ∧ Below w.heap.size w w' := by
  have HV := Lib.hid (values_eq op)
  have H1 : Hid (∀ w, Calls Tryd.prog 45 #[.slice (some ⟨w.heap.size, 0, none⟩) 7 7, .int .i64 op] (w.alloc (.cells #[.int .i64 4, .int .i64 5, .int .i64 6, .int .i64 8, .int .i64 9, .int .i64 10, .int .i64 15] 3)) fun e w' => e = .returned (.bool (decide (op ∈ [(4 : Int), 5, 6, 8, 9, 10, 15]))) ∧ Below w.heap.size w w') := fun w =>
    (has_any (S := fun _ => True) (xs := [4, 5, 6, 8, 9, 10, 15]) ((blk_new w _ _).arr (zs := [4, 5, 6, 8, 9, 10, 15]) (by unfold I64; simp) (by simp [maxLen]) trivial)).mono fun e w' ⟨he, hq⟩ => ⟨he, below_of_has hq⟩
  have H2 : Hid (∀ w, Calls Tryd.prog 45 #[.slice (some ⟨w.heap.size, 0, none⟩) 5 5, .int .i64 op] (w.alloc (.cells #[.int .i64 7, .int .i64 11, .int .i64 12, .int .i64 13, .int .i64 17] 3)) fun e w' => e = .returned (.bool (decide (op ∈ [(7 : Int), 11, 12, 13, 17]))) ∧ Below w.heap.size w w') := fun w =>
    (has_any (S := fun _ => True) (xs := [7, 11, 12, 13, 17]) ((blk_new w _ _).arr (zs := [7, 11, 12, 13, 17]) (by unfold I64; simp) (by simp [maxLen]) trivial)).mono fun e w' ⟨he, hq⟩ => ⟨he, below_of_has hq⟩
  obtain ⟨b1, hb1⟩ : ∃ b, b = decide (op ∈ [(4 : Int), 5, 6, 8, 9, 10, 15]) := ⟨_, rfl⟩
  obtain ⟨b2, hb2⟩ : ∃ b, b = decide (op ∈ [(7 : Int), 11, 12, 13, 17]) := ⟨_, rfl⟩
  rw [← hb1] at H1 HV
  rw [← hb2] at H2 HV
  clear hb1 hb2
  cases b1
  · cases b2
    · by_cases h : op = 14
      · subst h
        go_enter Tryd.func50, Tryd.ntmps50
        go_wp2_with (first
          | (go_at_call 45; (with_reducible refine (H1.out _).mono ?_); rintro e w1 ⟨rfl, hb⟩; have HB1 := Lib.hid hb; clear hb)
          | (go_at_call 45; (with_reducible refine (H2.out _).mono ?_); rintro e w2 ⟨rfl, hb⟩; have HB2 := Lib.hid hb; clear hb))
        go_ret
        exact ⟨by rw [← HV.out]; rfl, HB1.out.trans (HB2.out.mono HB1.out.size)⟩
      · have h2 : (op == 14) = false := by simpa using h
        have HH := Lib.hid h
        clear h
        go_enter Tryd.func50, Tryd.ntmps50
        go_wp2_with (first
          | (go_at_call 45; (with_reducible refine (H1.out _).mono ?_); rintro e w1 ⟨rfl, hb⟩; have HB1 := Lib.hid hb; clear hb)
          | (go_at_call 45; (with_reducible refine (H2.out _).mono ?_); rintro e w2 ⟨rfl, hb⟩; have HB2 := Lib.hid hb; clear hb))
        go_ret
        exact ⟨by rw [← HV.out, if_neg (by simp), if_neg (by simp), if_neg HH.out]; rfl, HB1.out.trans (HB2.out.mono HB1.out.size)⟩
    · go_enter Tryd.func50, Tryd.ntmps50
      go_wp2_with (first
        | (go_at_call 45; (with_reducible refine (H1.out _).mono ?_); rintro e w1 ⟨rfl, hb⟩; have HB1 := Lib.hid hb; clear hb)
        | (go_at_call 45; (with_reducible refine (H2.out _).mono ?_); rintro e w2 ⟨rfl, hb⟩; have HB2 := Lib.hid hb; clear hb))
      go_ret
      exact ⟨by rw [← HV.out]; rfl, HB1.out.trans (HB2.out.mono HB1.out.size)⟩
  · go_enter Tryd.func50, Tryd.ntmps50
    go_wp2_with (first
      | (go_at_call 45; (with_reducible refine (H1.out _).mono ?_); rintro e w1 ⟨rfl, hb⟩; have HB1 := Lib.hid hb; clear hb))
    go_ret
    exact ⟨by rw [← HV.out]; rfl, HB1.out⟩
/-- What is read of a trace as it is handed over. -/
structure TIn (S : Nat → Prop) (w : World) (X : Array Value) (t : Api.TTrace) (a3 : Option Addr) (nI c3 : Nat) : Prop where
  size : X.size = 13
  c3 : X.toList[3]? = some (.slice a3 nI c3)
  ins : Arr S w a3 t.Ins
  len : t.Ins.length = nI
  few : nI ≤ 9223372036854775807
theorem tin_of {S : Nat → Prop} {w : World} {X : Array Value} {t : Api.TTrace} (h : Rep.cells S w X.toList t) : ∃ a3 nI c3, TIn S w X t a3 nI c3 := by
  obtain ⟨a3, c3, a4, c4, a7, c7, a8, c8, a11, c11, a12, c12, e, -, -, -, h3, -⟩ := api_TTrace_cells_eq h
  refine ⟨a3, _, c3, ?_, by rw [e]; rfl, h3.2.2, rfl, ?_⟩
  · have := congrArg List.length e
    simpa using this
  · have := h3.2.2.small
    unfold maxLen at this
    omega
theorem blk_box (w : World) (X : Array Value) (e : TypeId) : Blk (w.alloc (.cells X e)) w.heap.size e X.toList := by
  have := blk_new w X.toList e
  rwa [Array.toArray_toList] at this
set_option maxRecDepth 100000 in
theorem value_any {S : Nat → Prop} {w : World} {X : Array Value} {t : Api.TTrace} (h : Rep.cells S w X.toList t) (hS : ∀ b, S b → b < w.heap.size) (v at' : Int) :
    Calls Tryd.prog 90 #[.agg X, .int .i64 v, .int .i64 at'] w fun e w' => e = .returned (.bool (valAt t.Ins v at')) ∧ Below w.heap.size w w' := by
  obtain ⟨a3, nI, c3, hi⟩ := tin_of h
  have hbk := blk_box w X 29
  have HB : Hid (∀ o, Below w.heap.size w (w.alloc o)) := fun o => cod.below_al2 o
  obtain ⟨w1, hw1⟩ : ∃ w1, w1 = w.alloc (.cells X 29) := ⟨_, rfl⟩
  have HB1 : Hid (Below w.heap.size w w1) := by show Below _ _ _; rw [hw1]; exact HB.out _
  rw [← hw1] at hbk
  have p3 := hbk.cell hi.c3
  have hlt := hbk.lt
  have hn := hi.few
  have HI := Lib.hid hi
  have HS := Lib.hid hS
  clear h hi hbk hS HB
  go_enter Tryd.func90, Tryd.ntmps90
  go_upto_region 1 with fail
  rw [← hw1]
  clear hw1
  by_cases hin : 0 ≤ v ∧ v < at' ∧ v < nI
  · obtain ⟨h1, h2, h3⟩ := hin
    obtain ⟨k, rfl⟩ : ∃ k : Nat, v = k := ⟨v.toNat, by omega⟩
    obtain ⟨x, hx⟩ : ∃ x, t.Ins[k]? = some x := ⟨_, List.getElem?_eq_getElem (by rw [HI.out.len]; omega)⟩
    obtain ⟨b, off, rfl, hb, y0⟩ := arr_ins_op (HI.out.ins.keep fun b hb => HB1.out.block b (HS.out b hb)) hx
    have hbl : b < w1.heap.size := Nat.lt_of_lt_of_le (HS.out b hb) HB1.out.size
    have HV : Hid (valAt t.Ins k at' = tellsOf x.Op) := valAt_in h2 hx
    clear hx hb h1
    go_wp2_with (go_at_call 24; (with_reducible refine rtells_any.mono ?_); rintro e w2 ⟨rfl, hb⟩; have HB2 := Lib.hid hb; clear hb)
    go_ret
    exact ⟨by rw [HV.out]; rfl, HB1.out.trans (HB2.out.mono HB1.out.size)⟩
  · have HV : Hid (valAt t.Ins v at' = false) := valAt_not (by rw [HI.out.len]; exact hin)
    rcases (show v < 0 ∨ (¬ v < 0 ∧ at' ≤ v) ∨ (¬ v < 0 ∧ v < at' ∧ (nI : Int) ≤ v) by omega) with d | ⟨d, d2⟩ | ⟨d, d2, d3⟩
    all_goals
      clear hin
      go_wp2_with fail
      go_ret
      exact ⟨by rw [HV.out]; rfl, HB1.out⟩
end Go.Proofs.YtjlnaiiajlahgaaDoor.chk
