/- The law SmallTells, walked: no stretch. -/
import Derived.Test.YtimlhjjdaggiiaaSmallG
import Derived.Test.YtimlhjjdaggiiaaFuncs
set_option linter.unusedVariables false
set_option linter.unusedSimpArgs false
namespace Go.Proofs.Ytimlhjjdaggiiaa.small
open Go.Bk Go.RowKit Go.Deep

theorem below_all {W wc w' w3 : World} {o : Obj} (h1 : Below W.heap.size W wc) (h2 : Below (wc.heap.size + 1) (wc.alloc o) w') (h3 : Only w'.heap.size wc.heap.size w' w3) : Below W.heap.size W w3 := by
  have hs := h1.size
  have h2s : wc.heap.size + 1 ≤ w'.heap.size := by have := h2.size; simp at this; omega
  refine ⟨h3.os.trans (h2.os.trans h1.os), h3.tape.trans (h2.tape.trans h1.tape), h3.output.trans (h2.output.trans h1.output), by have := h3.size; omega, fun b hb => ?_⟩
  rw [h3.block b (by omega) (by omega), h2.block b (by omega), Below.heap_alloc _ _ _ (by omega : b < wc.heap.size)]
  exact h1.block b hb
theorem arr_low {S : Nat → Prop} {wc w' w3 : World} {o : Obj} {a : Option Addr} {xs : List Int} (h : Arr S wc a xs) (hS : ∀ b, S b → b < wc.heap.size) (h2 : Below (wc.heap.size + 1) (wc.alloc o) w') (h3 : Only w'.heap.size wc.heap.size w' w3) : Arr S w3 a xs :=
  h.keep (fun b hb => by
    have := hS b hb
    have h2s : wc.heap.size + 1 ≤ w'.heap.size := by have := h2.size; simp at this; omega
    rw [h3.block b (by omega) (by omega), h2.block b (by omega), Below.heap_alloc _ _ _ this])
theorem arr_was {wc w' w3 : World} {a : Option Addr} {xs : List Int} (h : Arr (fun b => False ∨ (wc.heap.size + 1 ≤ b ∧ b < w'.heap.size)) w' a xs) (h3 : Only w'.heap.size wc.heap.size w' w3) : Arr (fun b => wc.heap.size + 1 ≤ b) w3 a xs :=
  (h.keep (fun b hb => by
    have := hb.resolve_left id
    exact h3.block b this.2 (by omega))).mono (fun b hb => (hb.resolve_left id).1)
theorem blk_low {wc w' : World} {o : Obj} {g : Nat} {e : TypeId} {cs : List Value} (h : Blk wc g e cs) (h2 : Below (wc.heap.size + 1) (wc.alloc o) w') : Blk w' g e cs :=
  h.keep ((h2.block g (by have := h.lt; omega)).trans (Below.heap_alloc _ _ _ h.lt))
theorem blk_at {wc w' : World} {e : TypeId} {cs : List Value} (h2 : Below (wc.heap.size + 1) (wc.alloc (.cells cs.toArray e)) w') : Blk w' wc.heap.size e cs :=
  (blk_new wc cs e).keep (h2.block _ (by omega))

set_option maxRecDepth 100000 in
set_option maxHeartbeats 2000000 in
theorem small_bad {W : World} {a : Option Addr} {c n : Nat} {l : List Int} {f t : Int} {none' never : Bool} (hn : l.length = n) (h : Arr (· < W.heap.size) W a l) (hnil : a = none → c = 0) (hcap : n ≤ c) (hc : c ≤ 9223372036854775807) (hl : n ≤ 200) (hb : wErr n f t = 1) :
    Calls Try.prog 12 #[.slice a n c, .int .i64 f, .int .i64 t, .bool none', .bool never] W fun e W' => e = .returned (.bool true) ∧ Below W.heap.size W W' := by
  have hN : Hid (l.length = n) := Lib.hid hn
  have hz : n * 8 ≤ 140737488355328 := by omega
  have hd : decide (200 < (n : Int)) = false := decide_eq_false (by omega)
  have hd2 : decide (200 < n) = false := decide_eq_false (by omega)
  have HL : Hid (∀ w1, Below W.heap.size W w1 → Arr (· < W.heap.size) w1 a l) := fun w1 hb => h.keep (fun b hb' => hb.block b hb')
  have HNI := Lib.hid hnil
  have HE := Lib.hid hb
  have hbad : f < 0 ∨ t < f ∨ (n : Int) < t := by
    unfold wErr at hb; rw [if_neg (by omega)] at hb; split at hb; assumption; simp at hb
  have d23 : (decide (f < 0) || decide (t < f) || decide ((n : Int) < t)) = true := by simp; omega
  clear hn h hnil hb hcap hc
  have hor : Hid (f < 0 ∨ t < f ∨ (n : Int) < t) := hbad
  clear hbad d23
  rcases (show f < 0 ∨ ¬ f < 0 from by omega) with h1 | h1
  case' inr => rcases (show t < f ∨ ¬ t < f from by omega) with h2 | h2
  case' inl => have d2 : decide (f < 0) = true := decide_eq_true h1
  case' inr.inl => have d2 : decide (f < 0) = false := decide_eq_false h1; have d3 : decide (t < f) = true := decide_eq_true h2
  case' inr.inr => have d2 : decide (f < 0) = false := decide_eq_false h1; have d3 : decide (t < f) = false := decide_eq_false h2; have d4 : decide ((n : Int) < t) = true := decide_eq_true (by have := hor.out; omega)
  all_goals
    go_enter Try.func12, Try.ntmps12
    go_wp2_with fail
    refine (withoutT_bad (by rw [HE.out]; decide)).mono ?_
    rintro e w1 ⟨rfl, rfl⟩
    rw [HE.out]
    obtain ⟨w1, hw1⟩ : ∃ w1, w1 = W.alloc (.cells #[.bool never] 4) := ⟨_, rfl⟩
    rw [← hw1]
    have HB1 : Hid (Below W.heap.size W w1) := by rw [hw1]; exact (Below.refl _ _).alloc (Nat.le_refl _) _
    have HNB : Hid (Blk w1 W.heap.size 4 [.bool never]) := by rw [hw1]; exact blk_new W [.bool never] 4
    have HNE : Hid (W.heap.size ≠ w1.heap.size) := fun e => by have := HNB.out.lt; omega
    clear hw1
    have HO : Hid (Own (fun _ => False) ((w1.alloc (.cells #[.int .i64 0] 3)).alloc (.cells #[] 3)) (w1.heap.size + 1) 3 (.slice (some ⟨w1.heap.size + 1, 0, none⟩) 0 0) ([] : List Int)) := by
      have := own_zero (α := Int) (S := fun _ => False) (w := (w1.alloc (.cells #[.int .i64 0] 3)).alloc (.cells #[] 3)) (B := w1.heap.size + 1) (g := w1.heap.size + 1) (e := 3) (by simp) (by simpa using box_zero (w := w1.alloc (.cells #[.int .i64 0] 3)) (e := 3))
      exact this
    have HAA : Hid (Arr (· < W.heap.size) ((w1.alloc (.cells #[.int .i64 0] 3)).alloc (.cells #[] 3)) a l) := HL.out _ ((HB1.out.alloc HB1.out.size _).alloc (by simp; have := HB1.out.size; omega) _)
    cases none'
    case true =>
      go_wp2_with (at_builtin; with_reducible refine wp_appsBig (S := fun _ => False) (S2 := fun b => b < W.heap.size) rfl rfl rfl rfl hN.out HO.out HAA.out HNI.out (fun _ h => h.elim) hz (by simp) fun v' w' hown' hg' => ?_; have hbw := box_below1 (n := 0) (c := 0) (by with_unfolding_all exact hg'); have HW := Lib.hid hown'; have HG := Lib.hid hbw; clear hown' hg' hbw)
      all_goals
        refine (min_nil (ga := 0) (gn := 0) hl).mono ?_
        rintro e w3 ⟨rfl, rfl⟩
        have HON : Hid (Only w'.heap.size w1.heap.size w' w') := Only.refl _ _ _
        obtain ⟨a9, c9, rfl, -, -, hw9⟩ := HW.out.arr
        have HW9 := Lib.hid (arr_was hw9 HON.out)
        clear hw9
        rw [hN.out]
        go_wp2_with fail
        refine (same_nil _ _ _ _ _).mono ?_
        rintro e z1 ⟨rfl, hz1⟩
        have Z1 := Lib.hid hz1
        clear hz1
        go_wp2_with fail
        refine (same_eq ((HL.out _ (below_all HB1.out HG.out HON.out)).keep (fun b _ => Z1.out.heap b)) (HW9.out.keep (fun b _ => Z1.out.heap b)) hN.out hN.out).mono ?_
        rintro e z2 ⟨rfl, hz2⟩
        have Z2 := Lib.hid hz2
        clear hz2
        go_wp2_with fail
        go_ret
        exact ⟨rfl, (below_all HB1.out HG.out HON.out).trans ((Z1.out.trans Z2.out).below _)⟩
    case false =>
      cases never
      case true =>
        go_wp2_with (at_builtin; with_reducible refine wp_appsBig (S := fun _ => False) (S2 := fun b => b < W.heap.size) rfl rfl rfl rfl hN.out HO.out HAA.out HNI.out (fun _ h => h.elim) hz (by simp) fun v' w' hown' hg' => ?_; have hbw := box_below1 (n := 0) (c := 0) (by with_unfolding_all exact hg'); have HW := Lib.hid hown'; have HG := Lib.hid hbw; clear hown' hg' hbw)
        all_goals
          refine (min_no hN.out ((HL.out _ (below_all HB1.out HG.out (Only.refl _ _ _)))) HNI.out (fun b hb => ⟨by have := HB1.out.size; have := HG.out.size; simp at this; omega, by have := HB1.out.size; omega⟩) (blk_at HG.out) (blk_low HNB.out HG.out) HNE.out hl).mono ?_
          rintro e w3 ⟨rfl, ho3⟩
          have HON := Lib.hid ho3
          have cn := Blk.cell (j := 0) ((blk_low HNB.out HG.out).keep (ho3.block W.heap.size (blk_low HNB.out HG.out).lt HNE.out)) rfl
          clear ho3
          obtain ⟨a9, c9, rfl, -, -, hw9⟩ := HW.out.arr
          have HW9 := Lib.hid (arr_was hw9 HON.out)
          clear hw9
          rw [hN.out]
          go_wp2_with fail
          refine (same_nil _ _ _ _ _).mono ?_
          rintro e z1 ⟨rfl, hz1⟩
          have Z1 := Lib.hid hz1
          clear hz1
          go_wp2_with fail
          refine (same_eq ((HL.out _ (below_all HB1.out HG.out HON.out)).keep (fun b _ => Z1.out.heap b)) (HW9.out.keep (fun b _ => Z1.out.heap b)) hN.out hN.out).mono ?_
          rintro e z2 ⟨rfl, hz2⟩
          have Z2 := Lib.hid hz2
          clear hz2
          go_wp2_with fail
          go_ret
          exact ⟨rfl, (below_all HB1.out HG.out HON.out).trans ((Z1.out.trans Z2.out).below _)⟩
      case false =>
        go_wp2_with (at_builtin; with_reducible refine wp_appsBig (S := fun _ => False) (S2 := fun b => b < W.heap.size) rfl rfl rfl rfl hN.out HO.out HAA.out HNI.out (fun _ h => h.elim) hz (by simp) fun v' w' hown' hg' => ?_; have hbw := box_below1 (n := 0) (c := 0) (by with_unfolding_all exact hg'); have HW := Lib.hid hown'; have HG := Lib.hid hbw; clear hown' hg' hbw)
        all_goals
          refine (min_yes hN.out ((HL.out _ (below_all HB1.out HG.out (Only.refl _ _ _)))) HNI.out (fun b hb => ⟨by have := HB1.out.size; have := HG.out.size; simp at this; omega, by have := HB1.out.size; omega⟩) (blk_at HG.out) (blk_low HNB.out HG.out) HNE.out hl).mono ?_
          rintro e w3 ⟨am, cm, nm, rfl, hbk, ho3⟩
          have HON := Lib.hid ho3
          have cg : w3.cell? ⟨w1.heap.size, 0, none⟩ = some (.int .i64 nm) := hbk.cell rfl
          have cn := Blk.cell (j := 0) ((blk_low HNB.out HG.out).keep (ho3.block W.heap.size (blk_low HNB.out HG.out).lt HNE.out)) rfl
          clear ho3 hbk
          obtain ⟨a9, c9, rfl, -, -, hw9⟩ := HW.out.arr
          have HW9 := Lib.hid (arr_was hw9 HON.out)
          clear hw9
          rw [hN.out]
          go_wp2_with fail
          refine (same_nil _ _ _ _ _).mono ?_
          rintro e z1 ⟨rfl, hz1⟩
          have Z1 := Lib.hid hz1
          clear hz1
          go_wp2_with fail
          refine (same_eq ((HL.out _ (below_all HB1.out HG.out HON.out)).keep (fun b _ => Z1.out.heap b)) (HW9.out.keep (fun b _ => Z1.out.heap b)) hN.out hN.out).mono ?_
          rintro e z2 ⟨rfl, hz2⟩
          have Z2 := Lib.hid hz2
          clear hz2
          go_wp2_with fail
          go_ret
          exact ⟨rfl, (below_all HB1.out HG.out HON.out).trans ((Z1.out.trans Z2.out).below _)⟩
end Go.Proofs.Ytimlhjjdaggiiaa.small
