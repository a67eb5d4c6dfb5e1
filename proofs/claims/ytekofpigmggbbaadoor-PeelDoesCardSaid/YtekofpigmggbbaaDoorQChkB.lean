/- The document's: values, must, may, number, value: walked. -/
import Derived.Test.YtekofpigmggbbaaDoorQChkPlain
import Derived.Test.YtekofpigmggbbaaDoorQIrA
import Derived.Laws.Rows
import Derived.Test.YtekofpigmggbbaaDoorQWr
import Derived.Test.YtekofpigmggbbaaDoorQTy
import Derived.Laws.BitsLemmas
set_option linter.unusedVariables false
set_option linter.unusedSimpArgs false
namespace Go.Proofs.YtekofpigmggbbaaDoor.chk
open Go.Bk Go.RowKit Go.Proofs.YtekofpigmggbbaaDoor.ir

theorem op_cases (op : Int) : (op < 1 ∨ 19 < op) ∨ op = 1 ∨ op = 2 ∨ op = 3 ∨ op = 4 ∨ op = 5 ∨ op = 6 ∨ op = 7 ∨ op = 8 ∨ op = 9 ∨ op = 10 ∨ op = 11 ∨ op = 12 ∨ op = 13 ∨ op = 14 ∨ op = 15 ∨ op = 16 ∨ op = 17 ∨ op = 18 ∨ op = 19 := by omega
theorem values_eq (op : Int) : (if decide (op ∈ [(4 : Int), 5, 6, 8, 9, 10, 15]) = true then 1 else if decide (op ∈ [(7 : Int), 11, 12, 13, 17]) = true then 2 else if op = 14 then 3 else 0) = (formOf op).1.asks := by
  rcases op_cases op with h | rfl | rfl | rfl | rfl | rfl | rfl | rfl | rfl | rfl | rfl | rfl | rfl | rfl | rfl | rfl | rfl | rfl | rfl | rfl
  · rw [formOf_else h, decide_eq_false (by simp; omega), decide_eq_false (by simp; omega), if_neg (by simp), if_neg (by simp), if_neg (by omega)]
  all_goals decide
theorem below_of_has {w w1 : World} {o : Obj} (hq : Quiet (w.alloc o) w1) : Below w.heap.size w w1 := ((Below.refl _ _).alloc (Nat.le_refl _) _).trans (hq.below _)
set_option maxRecDepth 100000 in
theorem values_any (w : World) (op : Int) : Calls Tryd.prog 55 #[.int .i64 op] w fun e w' => e = .returned (.int .i64 (formOf op).1.asks) ∧ Below w.heap.size w w' := by
  have HV := Lib.hid (values_eq op)
  have H1 : Hid (∀ w, Calls Tryd.prog 32 #[.slice (some ⟨w.heap.size, 0, none⟩) 7 7, .int .i64 op] (w.alloc (.cells #[.int .i64 4, .int .i64 5, .int .i64 6, .int .i64 8, .int .i64 9, .int .i64 10, .int .i64 15] 3)) fun e w' => e = .returned (.bool (decide (op ∈ [(4 : Int), 5, 6, 8, 9, 10, 15]))) ∧ Below w.heap.size w w') := fun w =>
    (has_any (S := fun _ => True) (xs := [4, 5, 6, 8, 9, 10, 15]) ((blk_new w _ _).arr (zs := [4, 5, 6, 8, 9, 10, 15]) (by unfold I64; simp) (by simp [maxLen]) trivial)).mono fun e w' ⟨he, hq⟩ => ⟨he, below_of_has hq⟩
  have H2 : Hid (∀ w, Calls Tryd.prog 32 #[.slice (some ⟨w.heap.size, 0, none⟩) 5 5, .int .i64 op] (w.alloc (.cells #[.int .i64 7, .int .i64 11, .int .i64 12, .int .i64 13, .int .i64 17] 3)) fun e w' => e = .returned (.bool (decide (op ∈ [(7 : Int), 11, 12, 13, 17]))) ∧ Below w.heap.size w w') := fun w =>
    (has_any (S := fun _ => True) (xs := [7, 11, 12, 13, 17]) ((blk_new w _ _).arr (zs := [7, 11, 12, 13, 17]) (by unfold I64; simp) (by simp [maxLen]) trivial)).mono fun e w' ⟨he, hq⟩ => ⟨he, below_of_has hq⟩
  obtain ⟨b1, hb1⟩ : ∃ b, b = decide (op ∈ [(4 : Int), 5, 6, 8, 9, 10, 15]) := ⟨_, rfl⟩
  obtain ⟨b2, hb2⟩ : ∃ b, b = decide (op ∈ [(7 : Int), 11, 12, 13, 17]) := ⟨_, rfl⟩
  rw [← hb1] at H1 HV
  rw [← hb2] at H2 HV
  clear hb1 hb2
  cases b1
  · cases b2
    · by_cases h : op = 14
      · subst h
        go_enter Tryd.func55, Tryd.ntmps55
        go_wp2_with (first
          | (go_at_call 32; (with_reducible refine (H1.out _).mono ?_); rintro e w1 ⟨rfl, hb⟩; have HB1 := Lib.hid hb; clear hb)
          | (go_at_call 32; (with_reducible refine (H2.out _).mono ?_); rintro e w2 ⟨rfl, hb⟩; have HB2 := Lib.hid hb; clear hb))
        go_ret
        exact ⟨by rw [← HV.out]; rfl, HB1.out.trans (HB2.out.mono HB1.out.size)⟩
      · have h2 : (op == 14) = false := by simpa using h
        have HH := Lib.hid h
        clear h
        go_enter Tryd.func55, Tryd.ntmps55
        go_wp2_with (first
          | (go_at_call 32; (with_reducible refine (H1.out _).mono ?_); rintro e w1 ⟨rfl, hb⟩; have HB1 := Lib.hid hb; clear hb)
          | (go_at_call 32; (with_reducible refine (H2.out _).mono ?_); rintro e w2 ⟨rfl, hb⟩; have HB2 := Lib.hid hb; clear hb))
        go_ret
        exact ⟨by rw [← HV.out, if_neg (by simp), if_neg (by simp), if_neg HH.out]; rfl, HB1.out.trans (HB2.out.mono HB1.out.size)⟩
    · go_enter Tryd.func55, Tryd.ntmps55
      go_wp2_with (first
        | (go_at_call 32; (with_reducible refine (H1.out _).mono ?_); rintro e w1 ⟨rfl, hb⟩; have HB1 := Lib.hid hb; clear hb)
        | (go_at_call 32; (with_reducible refine (H2.out _).mono ?_); rintro e w2 ⟨rfl, hb⟩; have HB2 := Lib.hid hb; clear hb))
      go_ret
      exact ⟨by rw [← HV.out]; rfl, HB1.out.trans (HB2.out.mono HB1.out.size)⟩
  · go_enter Tryd.func55, Tryd.ntmps55
    go_wp2_with (first
      | (go_at_call 32; (with_reducible refine (H1.out _).mono ?_); rintro e w1 ⟨rfl, hb⟩; have HB1 := Lib.hid hb; clear hb))
    go_ret
    exact ⟨by rw [← HV.out]; rfl, HB1.out⟩
/-- What is read of a trace as it is handed over. -/
structure TIn (S : Nat → Prop) (w : World) (X : Array Value) (t : Api.TTrace) (a3 : Option Addr) (nI c3 : Nat) : Prop where
  size : X.size = 13
  c3 : X.toList[3]? = some (.slice a3 nI c3)
  ins : Arr S w a3 t.Ins
  len : t.Ins.length = nI
  few : nI ≤ 9223372036854775807
theorem tin_of {S : Nat → Prop} {w : World} {X : Array Value} {t : Api.TTrace} (h : Rep.cells S w X.toList t) : ∃ a3 nI c3, TIn S w X t a3 nI c3 := by
  obtain ⟨a3, c3, a4, c4, a7, c7, a8, c8, a11, c11, a12, c12, e, -, -, -, h3, -⟩ := api_TTrace_cells_eq h
  refine ⟨a3, _, c3, ?_, by rw [e]; rfl, h3.2.2, rfl, ?_⟩
  · have := congrArg List.length e
    simpa using this
  · have := h3.2.2.small
    unfold maxLen at this
    omega
end Go.Proofs.YtekofpigmggbbaaDoor.chk

/- Traces, programs, exits, instructions loaded whole. -/
namespace Go.Proofs.YtekofpigmggbbaaDoor
open Go.Bk Go.RowKit
section
variable {ops : Array Oper} {C : World → Prop} {Q : Exit → Act → World → Prop} {a : Act} {o : Oper} {w : World} {rest : List Oper} {K : Act → Prop} {x : Operand} {g : Nat} {X : Array Value}
theorem infoT (h : X.size = 13) : (Tryd.prog.info? 34).map (·.size) = some X.size := by
  rw [h]; kernel_rfl
theorem ldT (hw : Region.wanted o (yielded ops a.tmps) = true) (ho : o.op = .load 34 x) (hx : a.eval x = .pointer (some ⟨g, 0, none⟩)) (hg : Row w g 34 X) (hs : X.size = 13)
    (h : wpList Tryd.prog ops Q rest (a.put o.dst (.agg X)) w) : wpList Tryd.prog ops Q (o :: rest) a w :=
  wp_load_rowX hw 34 x ho g hx _ X hg _ Tryd.underlying34 rfl (infoT hs) h
theorem qldT (ho : o.op = .load 34 x) (hx : a.eval x = .pointer (some ⟨g, 0, none⟩)) (hg : ∀ w, C w → Row w g 34 X) (hs : X.size = 13)
    (h : K (a.put o.dst (.agg X))) : o.quiet Tryd.prog a C K :=
  quiet_load_row 34 x ho g hx _ X hg _ Tryd.underlying34 rfl (infoT hs) h
theorem infoP (h : X.size = 3) : (Tryd.prog.info? 26).map (·.size) = some X.size := by
  rw [h]; kernel_rfl
theorem ldP (hw : Region.wanted o (yielded ops a.tmps) = true) (ho : o.op = .load 26 x) (hx : a.eval x = .pointer (some ⟨g, 0, none⟩)) (hg : Row w g 26 X) (hs : X.size = 3)
    (h : wpList Tryd.prog ops Q rest (a.put o.dst (.agg X)) w) : wpList Tryd.prog ops Q (o :: rest) a w :=
  wp_load_rowX hw 26 x ho g hx _ X hg _ Tryd.underlying26 rfl (infoP hs) h
theorem infoI (h : X.size = 8) : (Tryd.prog.info? 43).map (·.size) = some X.size := by
  rw [h]; kernel_rfl
theorem ldI (hw : Region.wanted o (yielded ops a.tmps) = true) (ho : o.op = .load 43 x) (hx : a.eval x = .pointer (some ⟨g, 0, none⟩)) (hg : Row w g 43 X) (hs : X.size = 8)
    (h : wpList Tryd.prog ops Q rest (a.put o.dst (.agg X)) w) : wpList Tryd.prog ops Q (o :: rest) a w :=
  wp_load_rowX hw 43 x ho g hx _ X hg _ Tryd.underlying43 rfl (infoI hs) h
theorem qldI (ho : o.op = .load 43 x) (hx : a.eval x = .pointer (some ⟨g, 0, none⟩)) (hg : ∀ w, C w → Row w g 43 X) (hs : X.size = 8)
    (h : K (a.put o.dst (.agg X))) : o.quiet Tryd.prog a C K :=
  quiet_load_row 43 x ho g hx _ X hg _ Tryd.underlying43 rfl (infoI hs) h
end
end Go.Proofs.YtekofpigmggbbaaDoor

/- The document's: number, RightVal: walked. -/
namespace Go.Proofs.YtekofpigmggbbaaDoor.chk
open Go.Bk Go.RowKit Go.Proofs.YtekofpigmggbbaaDoor.ir

end Go.Proofs.YtekofpigmggbbaaDoor.chk
