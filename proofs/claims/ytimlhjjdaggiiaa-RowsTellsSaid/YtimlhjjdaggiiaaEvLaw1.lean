/- The law RowsTells, walked: the answers are one. -/
import Derived.Test.YtimlhjjdaggiiaaEvC
import Derived.Test.YtimlhjjdaggiiaaSameRows
set_option linter.unusedVariables false
set_option linter.unusedSimpArgs false
namespace Go.Proofs.Ytimlhjjdaggiiaa
open Go.Bk Go.RowKit

def ev1Rel (w : World) (l : List Api.Event) (p1 p2 : Api.Event → Bool) (a b i : Value) (w' : World) : Prop :=
  ∃ q : Nat, q ≤ l.length ∧ i = .int .i64 q ∧ Own (fun _ => False) w' w.heap.size 3 a (placesTo p1 l q) ∧ Own (fun _ => False) w' w.heap.size 3 b (placesTo p2 l q) ∧ Apart a b ∧ Grow w w'

theorem same_rows_at {S1 S2 : Nat → Prop} {w : World} {a1 a2 : Option Addr} {c1 c2 n1 n2 : Nat} {xs : List (List Int)} (h1 : Arr S1 w a1 xs) (h2 : Arr S2 w a2 xs) (e1 : xs.length = n1) (e2 : xs.length = n2) :
    Calls Try.prog 25 #[.slice a1 n1 c1, .slice a2 n2 c2] w fun e w' => e = .returned (.bool true) ∧ Quiet w w' := by
  subst e1; rw [← e2]; exact same_rows_refl h1 h2
theorem knd_is (e : Api.Event) (k : Nat) (hk : k < 18) : (knd e == (k : Int)) = (e.Kind == (k : Int) || ((k : Int) == 0 && (decide (e.Kind < 0) || decide (17 < e.Kind)))) := by
  rw [Bool.eq_iff_iff]
  unfold knd
  split <;> simp <;> omega
def cntRel (w : World) (l : List Api.Event) (n : Nat) (m i : Value) (w' : World) : Prop :=
  ∃ j : Nat, j ≤ l.length ∧ i = .int .i64 j ∧ m = .int .i64 (((l.take j).countP fun e => knd e == (n : Int) : Nat) : Int) ∧ Quiet w w'
def ownRel (w : World) (l : List Api.Event) (t : Nat) (o i : Value) (w' : World) : Prop :=
  ∃ j : Nat, j ≤ l.length ∧ i = .int .i64 j ∧ Own (fun _ => False) w' w.heap.size 3 o (placesTo (fun e : Api.Event => e.Thread == (t : Int)) l j) ∧ Grow w w'
def eachRel (w : World) (l : List Api.Event) (M : Nat) (each i : Value) (w' : World) : Prop :=
  ∃ (q : Nat) (S : Nat → Prop), q ≤ M ∧ i = .int .i64 q ∧ (∀ b, S b → b < w'.heap.size ∧ each.ownBlock ≠ some b) ∧ Own S w' w.heap.size 22 each (thrTo l q l.length) ∧ Grow w w'
theorem thrTo_snoc (l : List Api.Event) (q k : Nat) : thrTo l (q + 1) k = thrTo l q k ++ [placesTo (fun e : Api.Event => e.Thread == (q : Int)) l k] := by
  unfold thrTo; rw [List.range_succ, List.map_append]; rfl
theorem countP_take_succ {l : List Api.Event} {j n : Nat} {e : Api.Event} (h : l[j]? = some e) : (l.take (j + 1)).countP (fun e => knd e == (n : Int)) = (l.take j).countP (fun e => knd e == (n : Int)) + (if knd e == (n : Int) then 1 else 0) := by
  rw [List.take_add_one, h, List.countP_append]
  simp [List.countP_cons]

set_option maxRecDepth 100000 in
set_option maxHeartbeats 4000000 in
theorem rowsTells_large {W : World} {a : Option Addr} {c : Nat} {l : List Api.Event} {kind lo hi n : Int} (h0 : Arr (fun x => x < W.heap.size) W a l) (hl : 200 < l.length) :
    Calls Try.prog 5 #[.slice a l.length c, .int .i64 kind, .int .i64 lo, .int .i64 hi, .int .i64 n] W fun e W' => e = .returned (.bool true) ∧ Below W.heap.size W W' := by
  have hm := h0.small
  go_enter Try.func5, Try.ntmps5
  go_wp2_with fail
  refine (of_any h0 (fun _ h => h)).mono ?_
  rintro e w1 ⟨⟨a1, c1, rfl, k1, -⟩, hb1⟩
  have H1 := Lib.hid hb1; have K1 := Lib.hid k1
  have h1 := h0.keep (w' := w1) (keep_of_below hb1)
  clear k1 hb1
  go_wp2_with fail
  refine (between_any' h1 (fun b hb => Nat.lt_of_lt_of_le hb H1.out.size)).mono ?_
  rintro e w2 ⟨⟨a2, c2, rfl, k2, -⟩, hb2⟩
  have H2 := Lib.hid (mild_grow.trans H1.out hb2); have K1 := Lib.hid (K1.out.later hb2); have K2 := Lib.hid k2
  have h2 := h0.keep (w' := w2) (keep_of_below H2.out)
  have hs12 := hb2.size
  clear k2 hb2 h1 H1
  go_wp2_with fail
  refine (count_any h2 (fun b hb => Nat.lt_of_lt_of_le hb H2.out.size)).mono ?_
  rintro e w3 ⟨⟨a3, c3, rfl, k3, -⟩, hb3⟩
  have H3 := Lib.hid (mild_grow.trans H2.out hb3); have K1 := Lib.hid (K1.out.still (fun b hb => Nat.lt_of_lt_of_le hb.2 hs12) hb3); have K2 := Lib.hid (K2.out.later hb3); have K3 := Lib.hid k3
  have h3 := h0.keep (w' := w3) (keep_of_below H3.out)
  have hs23 := hb3.size
  clear k3 hb3 h2 H2
  go_wp2_with fail
  refine (threads_any h3 (fun b hb => Nat.lt_of_lt_of_le hb H3.out.size)).mono ?_
  rintro e w4 ⟨⟨a4, c4, rfl, k4, -⟩, hb4⟩
  have H4 := Lib.hid (mild_grow.trans H3.out hb4); have K1 := Lib.hid (K1.out.still (fun b hb => Nat.lt_of_lt_of_le hb.2 (Nat.le_trans hs12 hs23)) hb4); have K2 := Lib.hid (K2.out.still (fun b hb => Nat.lt_of_lt_of_le hb.2 hs23) hb4); have K3 := Lib.hid (K3.out.later hb4); have K4 := Lib.hid k4
  have hs34 := hb4.size
  have hs14 : w1.heap.size ≤ w4.heap.size := Nat.le_trans hs12 (Nat.le_trans hs23 hs34)
  have hs24 : w2.heap.size ≤ w4.heap.size := Nat.le_trans hs23 hs34
  clear k4 hb4 h3 H3
  go_wp2_with fail
  refine (everr0_any hm).mono ?_
  rintro e w5 ⟨rfl, rfl⟩
  have e1 : placesRes (fun e : Api.Event => e.Kind == kind) l = ([], 2) := if_pos hl
  have e2 : placesRes (between lo hi) l = ([], 2) := if_pos hl
  have e3 : countRes l = ([], 2) := if_pos hl
  have e4 : thrRes l n = ([], 2) := if_pos hl
  have e5 : evErr l = 2 := if_pos hl
  rw [e1, e2, e3, e4, e5]
  clear K1 K2 K3 K4 e1 e2 e3 e4 e5
  have hlt : decide (0 < l.length) = true := by simp; omega
  clear hl h0 hs12 hs23 hs34 hs14 hs24
  go_wp2_with fail
  refine wp_loop_once ?_
  go_wp2_with fail
  refine wp_loop_once ?_
  go_wp2_with fail
  all_goals
    refine wp_loop_once ?_
    go_wp2_with fail
    refine (same_ints_refl (xs := []) (Arr.nil (fun _ => True) w4 a1) (Arr.nil (fun _ => True) w4 none)).mono ?_
    rintro e z1 ⟨rfl, hz1⟩
    have Z1 := Lib.hid hz1
    clear hz1
    go_wp2_with fail
    refine (same_ints_refl (xs := []) (Arr.nil (fun _ => True) z1 a2) (Arr.nil (fun _ => True) z1 none)).mono ?_
    rintro e z2 ⟨rfl, hz2⟩
    have Z2 := Lib.hid (Z1.out.trans hz2)
    clear hz2
    go_wp2_with fail
    refine (same_rows_refl (xs := []) (Arr.nil (fun _ => True) z2 a4) (Arr.nil (fun _ => True) z2 none)).mono ?_
    rintro e z3 ⟨rfl, hz3⟩
    have Z3 := Lib.hid (H4.out.trans ((Z2.out.trans hz3).below _))
    clear hz3
    go_wp2
    go_ret
    exact ⟨rfl, Z3.out⟩
end Go.Proofs.Ytimlhjjdaggiiaa
