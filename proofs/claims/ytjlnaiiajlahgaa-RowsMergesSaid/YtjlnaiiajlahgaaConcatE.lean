/- slices.Concat and slices.Grow of a nil slice, at events, walked: lists one behind the other. -/
import Derived.Test.YtjlnaiiajlahgaaApp
import Derived.Test.YtjlnaiiajlahgaaTy
import Derived.Test.YtjlnaiiajlahgaaSlices
import Derived.Lib.AppendZerosOnto
import Derived.Lib.SliceRun
set_option linter.unusedVariables false
set_option linter.unusedSimpArgs false
namespace Go.Proofs.Ytjlnaiiajlahgaa
open Go.Bk Go.RowKit

def OwnNoneE (w : World) (e : Ending) (w' : World) : Prop := ∃ v, e = .returned v ∧ Go.Bk.Own (fun _ => False) w' w.heap.size 81 v ([] : List Api.Event) ∧ Below w.heap.size w w'

set_option maxRecDepth 100000 in
set_option maxHeartbeats 2000000 in
theorem growE_any {w : World} {n : Nat} (hn : n ≤ 2000000) : Calls Try.prog 57 #[.slice none 0 0, .int .i64 n] w (OwnNoneE w) := by
  by_cases h0 : n = 0
  · subst h0
    go_enter Try.func57, Try.ntmps57
    go_wp2
    go_ret
    exact ⟨_, rfl, Go.Bk.Own.nil _ _ _ _, Below.refl _ _⟩
  obtain ⟨i0, hi, hz0, hz1, hz2⟩ := info_parts Try.info81
  have hpos : 0 < n := by omega
  have h4 : decide ((0 : Int) < (n : Int)) = true := by simp; omega
  have hold : (Builtin.firstCells i0.size 0 (.slice none 0 0)).run Try.prog w.drew = .ok ([] : List Value).toArray w.drew := run_firstCells_none w.drew i0.size 0 0 0
  have hrz : ∀ ty, (Builtin.append_ #[40, 3] ty #[.slice none 0 0, .int .i64 (n : Int)]).run Try.prog w =
      .ok (.slice (some ⟨w.heap.size, 0, none⟩) n (grownCap w n 0 81)) (w.drew.alloc (.cells (([] : List Value).toArray ++ Builtin.zeroCells #[.int .i64 0, .int .i64 0, .int .i64 0, .int .i64 0, .int .i64 0, .int .i64 0, .int .i64 0, .int .i64 0, .int .i64 0, .int .i64 0, .int .i64 0, .int .i64 0] n ++ Builtin.zeroCells #[.int .i64 0, .int .i64 0, .int .i64 0, .int .i64 0, .int .i64 0, .int .i64 0, .int .i64 0, .int .i64 0, .int .i64 0, .int .i64 0, .int .i64 0, .int .i64 0] (grownCap w n 0 81 - n)) 81)) := fun ty => by
    have h := Lib.run_append_grow_zeros w 40 3 ty 81 i0 (.agg #[.int .i64 0, .int .i64 0, .int .i64 0, .int .i64 0, .int .i64 0, .int .i64 0, .int .i64 0, .int .i64 0, .int .i64 0, .int .i64 0, .int .i64 0, .int .i64 0]) .i64 .i64 Try.underlying40 Try.underlying3 hi hz0 none 0 0 [] hold n (by omega) (by rw [hz1]; decide) (by omega) (by omega)
      (by rw [hz2]; omega) (by rw [Nat.zero_add]; exact growslice_fits hpos (by rw [hz2]; omega))
    rw [Nat.zero_add] at h
    exact h
  have hGn : n ≤ grownCap w n 0 81 := grownCap_ge w _ _ _
  have hG63 := grownCap_le_maxLen w n 0 81 (by unfold maxLen; omega)
  obtain ⟨G, hG⟩ : ∃ G, G = grownCap w n 0 81 := ⟨_, rfl⟩
  rw [← hG] at hrz hGn hG63
  unfold maxLen at hG63
  clear hold hG hi hz0 hz1 hz2 h0
  go_enter Try.func57, Try.ntmps57
  go_wp2_with (at_builtin; refine Lib.wpList_append_run _ rfl _ _ _ _ rfl _ _ rfl rfl _ _ (hrz _) ?_)
  go_ret
  refine ⟨_, rfl, ⟨[], rfl, fun k x cs hk => by simp at hk, by simp, .inr ⟨w.heap.size, G, _, rfl, Nat.le_refl _, heap_alloc_new _ _, by simp, by unfold maxLen; omega, ?_, by simp⟩⟩, (Below.refl _ _).drew.alloc (Nat.le_refl _) _⟩
  simp [Builtin.zeroCells, show Rep.sz Api.Event = 12 from rfl]
  omega

theorem flatE_succ {α : Type} {ls : List (List α)} {k : Nat} {x : List α} (h : ls[k]? = some x) : (ls.take (k + 1)).flatten = (ls.take k).flatten ++ x := by
  rw [List.take_add_one, h]; simp
theorem flatE_le {α : Type} (ls : List (List α)) (k : Nat) : (ls.take k).flatten.length ≤ ls.flatten.length := by
  conv => rhs; rw [← List.take_append_drop k ls, List.flatten_append, List.length_append]
  omega

def catRelE (w : World) (ls : List (List Api.Event)) (v i : Value) (w' : World) : Prop :=
  ∃ k : Nat, k ≤ ls.length ∧ i = .int .i64 k ∧ Go.Bk.Own (fun _ => False) w' w.heap.size 81 v (ls.take k).flatten ∧ Below w.heap.size w w'

set_option maxRecDepth 100000 in
set_option maxHeartbeats 2000000 in
theorem concatE_any {S : Nat → Prop} {w : World} {a : Option Addr} {c m : Nat} {ls : List (List Api.Event)} (hm : ls.length = m) (h : Arr S w a ls) (hS : ∀ b, S b → b < w.heap.size) (hl : m ≤ 1000) (hs : ls.flatten.length ≤ 2000000) :
    Calls Try.prog 46 #[.slice a m c] w (RetOwn 81 w ls.flatten) := by
  have HM := Lib.hid hm
  clear hm
  go_enter Try.func46, Try.ntmps46
  go_wp2_with fail
  go_loopw [3, 11] (fun s i w' => ∃ k : Nat, k ≤ m ∧ i = .int .i64 k ∧ s = .int .i64 ((ls.take k).flatten.length : Nat) ∧ w = w') (fun _ i _ => m - (intOf i).toNat)
  case atStart => exact ⟨0, Nat.zero_le _, rfl, rfl, rfl⟩
  case round =>
    obtain ⟨k, hk, rfl, rfl, rfl⟩ := hrel
    have h' := h
    by_cases hlt : k < m
    · obtain ⟨x, hx⟩ : ∃ x, ls[k]? = some x := ⟨_, List.getElem?_eq_getElem (by have := HM.out; omega)⟩
      obtain ⟨b, off, cs, rfl, -, ⟨a1, c1, rfl, -, -, -⟩, q⟩ := h'.at hx
      replace q : w.cell? ⟨b, off + k, none⟩ = some (.slice a1 x.length c1) := by simpa [show Rep.sz (List Api.Event) = 1 from rfl] using q 0 Nat.zero_lt_one
      have hf := flatE_succ hx
      have hfl := flatE_le ls k
      have hfl2 := flatE_le ls (k + 1)
      have hsum : (ls.take (k + 1)).flatten.length = (ls.take k).flatten.length + x.length := by rw [hf, List.length_append]
      obtain ⟨n1, hn1⟩ : ∃ n, n = (ls.take k).flatten.length := ⟨_, rfl⟩
      obtain ⟨n2, hn2⟩ : ∃ n, n = x.length := ⟨_, rfl⟩
      rw [← hn1] at hfl hsum; rw [← hn1]
      rw [← hn2] at hsum q
      have hw : IntKind.i64.wrap ((n1 : Int) + (n2 : Int)) = ((n1 + n2 : Nat) : Int) := by rw [IntWalk.i64_in _ (by omega)]; omega
      have hd : decide (((n1 + n2 : Nat) : Int) < 0) = false := decide_eq_false (by omega)
      have HSUM := Lib.hid hsum
      clear h h' hx hf hsum hn1 hn2
      go_wp2_with fail
      go_roundw
      case rel => exact ⟨k + 1, by omega, by go_num, by rw [HSUM.out]; first | rfl | go_num | (congr 1), by trivial⟩
      case measure => simp [intOf] <;> omega
    · obtain rfl : k = m := by omega
      have e1 : ls.take k = ls := List.take_of_length_le (by rw [HM.out]; exact Nat.le_refl _)
      rw [e1]
      obtain ⟨n, hn⟩ : ∃ n, n = ls.flatten.length := ⟨_, rfl⟩
      rw [← hn] at hs ⊢
      have HN := Lib.hid hn
      clear hn e1 h'
      go_wp2_with ((with_reducible refine (growE_any hs).mono ?_); rintro e w1 ⟨v, rfl, hown, hb⟩; have HO := Lib.hid hown; have HB := Lib.hid hb; clear hown hb)
      go_loopw [6, 27] (catRelE w ls) (fun _ i _ => k - (intOf i).toNat)
      case atStart => exact ⟨0, Nat.zero_le _, rfl, HO.out, HB.out⟩
      case round =>
        obtain ⟨q, hq, rfl, hown, hb⟩ := hrel
        rw [HM.out] at hq
        have HO1 := Lib.hid hown; have HB1 := Lib.hid hb
        have hbs := hb.size
        have h' := h.keep (w' := wr) (fun b hb' => hb.block b (hS b hb'))
        clear hown hb HO HB
        by_cases hlt : q < k
        · obtain ⟨x, hx⟩ : ∃ x, ls[q]? = some x := ⟨_, List.getElem?_eq_getElem (by have := HM.out; omega)⟩
          obtain ⟨b, off, cs, rfl, -, ⟨a1, c1, rfl, hc1, hn1, ha1⟩, qc⟩ := h'.at hx
          replace qc : wr.cell? ⟨b, off + q, none⟩ = some (.slice a1 x.length c1) := by simpa [show Rep.sz (List Api.Event) = 1 from rfl] using qc 0 Nat.zero_lt_one
          have hf := flatE_succ hx
          have hfl2 := flatE_le ls (q + 1)
          rw [hf, List.length_append, ← HN.out] at hfl2
          have HF := Lib.hid hf
          have HA := Lib.hid ha1; have HN1 := Lib.hid hn1
          clear h h' hx hf ha1 hn1
          go_wp2_with ((at_builtin; with_reducible refine Try.wp_apps40 rfl rfl rfl rfl (rfl) (HO1.out) (HA.out) Try.flat40 (HN1.out) (fun _ h => h.elim) (by omega) (by exact hbs) fun v' w' hown' hg' => ?_); have HN' := Lib.hid hown'; have HG := Lib.hid hg'; clear hown' hg')
          go_roundw
          case rel => exact ⟨q + 1, by rw [HM.out]; omega, by go_num, by rw [HF.out]; exact HN'.out, HB1.out.grown HG.out hbs (fun r hr => (HO1.out.lt r hr).1)⟩
          case measure => simp [intOf] <;> omega
        · obtain rfl : q = k := by omega
          have e1 : ls.take q = ls := List.take_of_length_le (by rw [HM.out]; exact Nat.le_refl _)
          have ho := HO1.out
          rw [e1] at ho
          have HO2 := Lib.hid ho
          clear h' h ho e1
          go_wp2_with fail
          go_ret
          exact ⟨_, rfl, HO2.out, HB1.out⟩
end Go.Proofs.Ytjlnaiiajlahgaa
