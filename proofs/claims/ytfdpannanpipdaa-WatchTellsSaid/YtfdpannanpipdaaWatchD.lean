/- What was in a slot: the program's Writes, walked. -/
import Derived.Test.YtfdpannanpipdaaWatchC
import Derived.Test.YtfdpannanpipdaaApp
set_option linter.unusedVariables false
set_option linter.unusedSimpArgs false
namespace Go.Proofs.Ytfdpannanpipdaa.watch
open Go.Bk Go.RowKit

def WritesPost (w : World) (R : List Int) (E : Int) (e : Ending) (w' : World) : Prop :=
  ∃ a' c', e = .returned (.tuple #[.slice a' R.length c', .int .i64 E]) ∧ Arr (fun b => w.heap.size ≤ b ∧ b < w'.heap.size) w' a' R ∧ Below w.heap.size w w'
def writesRes (l : List Api.Event) (p s : Int) : List Int := if 200 < l.length then [] else writesTo l p s l.length
def wrRel (w : World) (l : List Api.Event) (p s : Int) (n : Nat) (v i : Value) (w' : World) : Prop :=
  ∃ k : Nat, k ≤ n ∧ i = .int .i64 k ∧ Own (fun _ => False) w' w.heap.size 3 v (writesTo l p s k) ∧ Below w.heap.size w w'

set_option maxRecDepth 100000 in
set_option maxHeartbeats 1000000 in
theorem Writes_any {S : Nat → Prop} {w : World} {a : Option Addr} {c n : Nat} {l : List Api.Event} {p s : Int} (hn : l.length = n) (h : Arr S w a l) (hS : ∀ b, S b → b < w.heap.size) :
    Calls Try.prog 13 #[.slice a n c, .int .i64 p, .int .i64 s] w (WritesPost w (writesRes l p s) (errE n 0)) := by
  have hsm := h.small
  rw [hn] at hsm
  unfold maxLen at hsm
  have HN := Lib.hid hn
  have HA : Hid (∀ w', Below w.heap.size w w' → Arr S w' a l) := fun w' hb => h.keep (fun b hb' => hb.block b (hS b hb'))
  clear hn h hS
  have HC := Lib.hid (check_any w a n c 0 (by omega))
  obtain ⟨E, hE⟩ : ∃ E, E = errE n 0 := ⟨_, rfl⟩
  rw [← hE] at HC ⊢
  obtain ⟨R, hR⟩ : ∃ R, R = writesRes l p s := ⟨_, rfl⟩
  rw [← hR]
  by_cases hl : 200 < n
  · have e2 : E = 2 := by rw [hE]; unfold errE; rw [if_pos hl]
    have HRE : Hid (R = []) := by show _ = _; rw [hR]; unfold writesRes; rw [if_pos (by rw [HN.out]; exact hl)]
    clear hE hR
    subst e2
    go_enter Try.func13, Try.ntmps13
    go_wp2_with (with_reducible refine HC.out.mono ?_; rintro e w' ⟨rfl, rfl⟩)
    go_ret2
    rw [HRE.out]
    exact ⟨none, 0, rfl, Arr.nil _ _ _, Below.refl _ _⟩
  · have e2 : E = 0 := by rw [hE]; unfold errE; rw [if_neg hl, if_neg (by omega)]
    have HRE : Hid (R = writesTo l p s n) := by show _ = _; rw [hR]; unfold writesRes; rw [if_neg (by rw [HN.out]; exact hl), HN.out]
    clear hE hR
    subst e2
    go_enter Try.func13, Try.ntmps13
    go_wp2_with (with_reducible refine HC.out.mono ?_; rintro e w' ⟨rfl, rfl⟩)
    go_loopw [9, 19] (wrRel w l p s n) (fun _ i _ => n - (intOf i).toNat)
    case atStart => exact ⟨0, Nat.zero_le _, rfl, Own.nil _ _ _ _, Below.refl _ _⟩
    case round =>
      obtain ⟨k, hk, rfl, hown, hb⟩ := hrel
      have HO := Lib.hid hown; have HB := Lib.hid hb
      have hbs := hb.size
      have hlen := writesTo_len l p s k
      clear hb hown
      by_cases hlt : k < n
      · obtain ⟨x, hx⟩ : ∃ x, l[k]? = some x := ⟨_, List.getElem?_eq_getElem (by have := HN.out; omega)⟩
        have HWS := Lib.hid (writesTo_succ hx p s)
        obtain ⟨b1, o1, rfl, -, q0, q1, q2, q3, q4, q5, q6, q7, q8, q9, q10, q11, -⟩ := api_Event_elem (HA.out _ HB.out) hx
        clear hx
        have HBX : Hid (∀ o, Below w.heap.size w (wr.alloc o)) := fun o => HB.out.alloc hbs o
        have HOX : Hid (∀ o, Own (fun _ => False) (wr.alloc o) w.heap.size 3 _ (writesTo l p s k)) := fun o => HO.out.alloc o (fun _ h => h.elim)
        have HCW : Hid (∀ w, Calls Try.prog 66 #[slotV p s, evV x] w fun e w' => e = .returned (.bool (isAt x 4 p s)) ∧ Below w.heap.size w w') := fun w => writes_any w p s x
        have i9 : I64 (k : Int) := by unfold I64; omega
        have hcell : ∀ w0 : World, Rep.cells (α := Int) (fun _ => False) w0 [.int .i64 (k : Int)] (k : Int) := fun _ => ⟨rfl, i9⟩
        have HOB : Hid (∀ o w1, Below (wr.alloc o).heap.size (wr.alloc o) w1 → Below w.heap.size w w1 ∧ Own (fun _ => False) w1 w.heap.size 3 _ (writesTo l p s k) ∧ w.heap.size ≤ w1.heap.size) := fun o w1 hb' =>
          ⟨(HBX.out o).trans (hb'.mono (HBX.out o).size), (HOX.out o).below hb' (fun _ h => h.elim), by have := hb'.size; simp at this; omega⟩
        cases hi : isAt x 4 p s with
        | true =>
          have HI : Hid (writesTo l p s (k + 1) = writesTo l p s k ++ [(k : Int)]) := by show _ = _; rw [HWS.out, hi]; rfl
          rw [hi] at HCW
          clear hi
          go_wp2_with (first
            | (with_reducible refine (HCW.out _).mono ?_; rintro e w1 ⟨rfl, hb'⟩; obtain ⟨hb1, ho1, hs1⟩ := HOB.out _ _ hb'; have HB1 := Lib.hid hb1; have HO1 := Lib.hid ho1; clear hb' hb1 ho1)
            | ((at_builtin; with_reducible refine Try.wp_app30 rfl rfl rfl rfl rfl (by first | rfl | simp) (HO1.out) (hcell _) (fun _ h => h.elim) (by omega) (by first | omega | (simp; omega)) fun v' w' hown' hg' => ?_); have HO2 := Lib.hid hown'; have HB2 := Lib.hid (HB1.out.grown hg' hs1 (fun r hr => (HO1.out.lt r hr).1)); clear hown' hg'))
          go_roundw
          case rel => exact ⟨k + 1, by omega, by go_num, by rw [HI.out]; exact HO2.out, HB2.out⟩
          case measure => simp [intOf]; omega
        | false =>
          have HI : Hid (writesTo l p s (k + 1) = writesTo l p s k) := by show _ = _; rw [HWS.out, hi]; rfl
          rw [hi] at HCW
          clear hi
          go_wp2_with (with_reducible refine (HCW.out _).mono ?_; rintro e w1 ⟨rfl, hb'⟩; obtain ⟨hb1, ho1, hs1⟩ := HOB.out _ _ hb'; have HB1 := Lib.hid hb1; have HO1 := Lib.hid ho1; clear hb' hb1 ho1)
          go_roundw
          case rel => exact ⟨k + 1, by omega, by go_num, by rw [HI.out]; exact HO1.out, HB1.out⟩
          case measure => simp [intOf]; omega
      · obtain rfl : k = n := by omega
        obtain ⟨a9, c9, rfl, -, -, hw9⟩ := HO.out.arr
        have HW9 := Lib.hid hw9
        clear hw9
        go_wp2
        go_ret2
        rw [HRE.out]
        exact ⟨a9, c9, rfl, HW9.out.mono (fun b hb => hb.resolve_left id), HB.out⟩
end Go.Proofs.Ytfdpannanpipdaa.watch
