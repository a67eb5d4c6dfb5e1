/- The law SmallTells where the list is too long, walked. -/
import Derived.Test.YtimlhjjdaggiiaaSmallF
import Derived.Test.YtimlhjjdaggiiaaSized
set_option linter.unusedVariables false
set_option linter.unusedSimpArgs false

namespace Go.Proofs.Ytimlhjjdaggiiaa.small
open Go.Bk Go.RowKit Go.Deep

theorem _root_.Go.Bk.ArgRead.cap {P : Program} {W : World} {T E : TypeId} {a : Option Addr} {n c : Nat} (h : ArgRead P W T (.slice a n c)) (ht : P.underlying T = some (.slice E)) : c ≤ maxLen := by
  obtain ⟨H, enc, base, d, p, -, ⟨f, h2⟩⟩ := h
  rcases open_slice ht h2 with ⟨h, -⟩ | ⟨a', len, cap, m, k, D, Pl, he, -, -, hm, -⟩
  · simp [Value.cells] at h
    rw [h.2.2]; exact Nat.zero_le _
  · simp [Value.cells] at he
    obtain ⟨-, -, rfl⟩ := he
    exact hm
section
variable {ops : Array Oper} {Q : Exit → Act → World → Prop} {a : Act} {w : World} {rest : List Oper} {o : Oper}
theorem wp_appsBig {S S2 : Nat → Prop} {s x : Operand} (hgd : o.guard = none) (ho : o.op = .call { callee := .builtin .append, args := #[s, x], argTypes := #[22, 22] })
    {B : Nat} {v : Value} {ys : List Int} {ao : Option Addr} {n cap : Nat} (hs : a.eval s = v) (hx : a.eval x = .slice ao n cap) (hn : ys.length = n) (hown : Own S w B 3 v ([] : List Int)) (hys : Arr S2 w ao ys) (hnil : ao = none → cap = 0)
    (hS : ∀ b, S b → b < w.heap.size ∧ v.ownBlock ≠ some b) (hz : n * 8 ≤ 140737488355328) (hbase : B ≤ w.heap.size)
    (h : ∀ v' w', Own S w' B 3 v' ys → w.grownBy w' v.ownBlock → wpList Try.prog ops Q rest (a.put o.dst v') w') : wpList Try.prog ops Q (o :: rest) a w := by
  subst hn
  exact wp_append hgd ho Try.underlying22 Try.infoRep22 (by decide) (by decide) hs hx hown hys (fun cs y h => h) hnil hS (by unfold maxLen; simp; omega) (by simpa using hz) hbase (by simpa using h)
end

theorem box_below1 {w w' : World} {o o' : Obj} {n c : Nat} (hg : ((w.alloc o).alloc o').grownBy w' (Value.slice (some ⟨w.heap.size + 1, 0, none⟩) n c).ownBlock) : Below (w.heap.size + 1) (w.alloc o) w' := by
  have e1 : w.heap.size + 1 = (w.alloc o).heap.size := by simp
  rw [e1] at hg ⊢
  exact box_below hg
theorem same_nil (w : World) (a1 a2 : Option Addr) (c1 c2 : Nat) : Calls Try.prog 17 #[.slice a1 0 c1, .slice a2 0 c2] w fun e w' => e = .returned (.bool true) ∧ Quiet w w' := same_ints_refl (xs := []) (Arr.nil (fun _ => True) w a1) (Arr.nil (fun _ => True) w a2)
theorem same_eq {S1 S2 : Nat → Prop} {w : World} {a1 a2 : Option Addr} {c1 c2 n m : Nat} {xs : List Int} (h1 : Arr S1 w a1 xs) (h2 : Arr S2 w a2 xs) (hn : xs.length = n) (hm : xs.length = m) :
    Calls Try.prog 17 #[.slice a1 n c1, .slice a2 m c2] w fun e w' => e = .returned (.bool true) ∧ Quiet w w' := by subst hn; subst hm; exact same_ints_refl h1 h2

set_option maxRecDepth 100000 in
set_option maxHeartbeats 1000000 in
theorem small_large {W : World} {a : Option Addr} {c n : Nat} {l : List Int} {f t : Int} {none' never : Bool} (hn : l.length = n) (h : Arr (· < W.heap.size) W a l) (hnil : a = none → c = 0) (hz : n * 8 ≤ 140737488355328) (hl : 200 < n) :
    Calls Try.prog 12 #[.slice a n c, .int .i64 f, .int .i64 t, .bool none', .bool never] W fun e W' => e = .returned (.bool true) ∧ Below W.heap.size W W' := by
  have HE : Hid (wErr n f t = 2) := by show _ = _; unfold wErr; rw [if_pos hl]
  have hN : Hid (l.length = n) := Lib.hid hn
  have hd : decide (200 < (n : Int)) = true := decide_eq_true (by omega)
  have hd2 : decide (200 < n) = true := decide_eq_true hl
  have HA : Hid (∀ w1, Below W.heap.size W w1 → Arr (· < W.heap.size) w1 a l) := fun w1 hb => h.keep (fun b hb' => hb.block b hb')
  have HNI := Lib.hid hnil
  clear hn h hnil
  go_enter Try.func12, Try.ntmps12
  go_wp2_with fail
  refine (withoutT_bad (by rw [HE.out]; decide)).mono ?_
  rintro e w1 ⟨rfl, rfl⟩
  rw [HE.out]
  obtain ⟨w1, hw1⟩ : ∃ w1, w1 = W.alloc (.cells #[.bool never] 4) := ⟨_, rfl⟩
  rw [← hw1]
  have HB1 : Hid (Below W.heap.size W w1) := by rw [hw1]; exact (Below.refl _ _).alloc (Nat.le_refl _) _
  clear hw1
  have HO : Hid (Own (fun _ => False) ((w1.alloc (.cells #[.int .i64 0] 3)).alloc (.cells #[] 3)) (w1.heap.size + 1) 3 (.slice (some ⟨w1.heap.size + 1, 0, none⟩) 0 0) ([] : List Int)) := by
    have := own_zero (α := Int) (S := fun _ => False) (w := (w1.alloc (.cells #[.int .i64 0] 3)).alloc (.cells #[] 3)) (B := w1.heap.size + 1) (g := w1.heap.size + 1) (e := 3) (by simp) (by simpa using box_zero (w := w1.alloc (.cells #[.int .i64 0] 3)) (e := 3))
    exact this
  have HAA : Hid (Arr (· < W.heap.size) ((w1.alloc (.cells #[.int .i64 0] 3)).alloc (.cells #[] 3)) a l) := HA.out _ ((HB1.out.alloc HB1.out.size _).alloc (by simp; have := HB1.out.size; omega) _)
  cases none' <;> go_wp2_with (at_builtin; with_reducible refine wp_appsBig (S := fun _ => False) (S2 := fun b => b < W.heap.size) rfl rfl rfl rfl hN.out HO.out HAA.out HNI.out (fun _ h => h.elim) hz (by simp) fun v' w' hown' hg' => ?_; have hbw := box_below1 (n := 0) (c := 0) (by with_unfolding_all exact hg'); have HW := Lib.hid hown'; have HG := Lib.hid hbw; clear hown' hg' hbw)
  all_goals
    refine (min_large hl (by omega)).mono ?_
    rintro e w3 ⟨rfl, rfl⟩
    obtain ⟨a9, c9, rfl, -, -, hw9⟩ := HW.out.arr
    have HW9 := Lib.hid hw9
    have HNN := Lib.hid hN.out
    clear hw9
    rw [hN.out]
    go_wp2_with fail
    refine (same_nil _ _ _ _ _).mono ?_
    rintro e z1 ⟨rfl, hz1⟩
    have Z1 := Lib.hid hz1
    clear hz1
    go_wp2_with fail
    refine (same_eq ((HA.out _ (HB1.out.trans (((Below.refl w1.heap.size w1).alloc (Nat.le_refl _) _).trans (HG.out.mono (by simp)) |>.mono HB1.out.size))).keep (fun b _ => Z1.out.heap b)) (HW9.out.keep (fun b _ => Z1.out.heap b)) HNN.out HNN.out).mono ?_
    rintro e z2 ⟨rfl, hz2⟩
    have Z2 := Lib.hid hz2
    clear hz2
    go_wp2_with fail
    go_ret
    exact ⟨rfl, (HB1.out.trans (((Below.refl w1.heap.size w1).alloc (Nat.le_refl _) _).trans (HG.out.mono (by simp)) |>.mono HB1.out.size)).trans ((Z1.out.trans Z2.out).below _)⟩
end Go.Proofs.Ytimlhjjdaggiiaa.small
