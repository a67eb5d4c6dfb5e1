/- General: lists that are the same up to a place. -/
import Derived.Test.YtekofpigmggbbaaDoorQTy
import Derived.Test.YtekofpigmggbbaaDoorQMem
import Derived.BigQuiet
import Derived.Outline
import Derived.Test.YtekofpigmggbbaaDoorQIrPlain
set_option linter.unusedVariables false
set_option linter.unusedSimpArgs false
namespace Go.Proofs.YtekofpigmggbbaaDoor
open Go.Bk Go.RowKit

def SameTo (xs ys : List Int) (k : Nat) : Prop := ∀ i, i < k → xs[i]? = ys[i]?

theorem SameTo.succ {xs ys : List Int} {k : Nat} (h : SameTo xs ys k) (hk : xs[k]? = ys[k]?) : SameTo xs ys (k + 1) := fun i hi => by
  by_cases he : i = k
  · rw [he]; exact hk
  · exact h i (by omega)
end Go.Proofs.YtekofpigmggbbaaDoor

/- The table of instructions: what of, Tells answer. -/
namespace Go.Proofs.YtekofpigmggbbaaDoor.ir
open Go.Bk Go.RowKit

set_option maxRecDepth 100000 in
set_option maxHeartbeats 2000000 in
theorem of_any {w : World} {op : Int} :
    Calls Tryd.prog 77 #[.int .i64 op] w fun e w' => e = .returned (.tuple #[formV (formOf op).1, .bool (formOf op).2]) ∧ Below w.heap.size w w' := by
  have h : op < 1 ∨ 19 < op ∨ op = 1 ∨ op = 2 ∨ op = 3 ∨ op = 4 ∨ op = 5 ∨ op = 6 ∨ op = 7 ∨ op = 8 ∨ op = 9 ∨ op = 10 ∨ op = 11 ∨ op = 12 ∨ op = 13 ∨ op = 14 ∨ op = 15 ∨ op = 16 ∨ op = 17 ∨ op = 18 ∨ op = 19 := by omega
  rcases h with h | h | rfl | rfl | rfl | rfl | rfl | rfl | rfl | rfl | rfl | rfl | rfl | rfl | rfl | rfl | rfl | rfl | rfl | rfl | rfl
  · have hf : formOf op = (⟨0, 0, 0, false, false, 0⟩, false) := formOf_else (.inl h)
    have HF := Lib.hid hf
    clear hf
    go_enter Tryd.func77, Tryd.ntmps77
    go_wp2
    rw [HF.out]
    exact bodyPost_ret (v := .tuple #[formV ⟨0, 0, 0, false, false, 0⟩, .bool false]) (by simp [results, Tryd.results77, go_sem, formV]) rfl ⟨rfl, (Below.refl _ _).alloc (Nat.le_refl _) _⟩
  · have hf : formOf op = (⟨0, 0, 0, false, false, 0⟩, false) := formOf_else (.inr h)
    have HF := Lib.hid hf
    clear hf
    go_enter Tryd.func77, Tryd.ntmps77
    go_wp2
    rw [HF.out]
    exact bodyPost_ret (v := .tuple #[formV ⟨0, 0, 0, false, false, 0⟩, .bool false]) (by simp [results, Tryd.results77, go_sem, formV]) rfl ⟨rfl, (Below.refl _ _).alloc (Nat.le_refl _) _⟩
  · go_enter Tryd.func77, Tryd.ntmps77
    go_wp2
    exact bodyPost_ret (v := .tuple #[formV (formOf 1).1, .bool (formOf 1).2]) (by simp [results, Tryd.results77, go_sem, formV, formOf]) rfl ⟨rfl, (Below.refl _ _).alloc (Nat.le_refl _) _⟩
  · go_enter Tryd.func77, Tryd.ntmps77
    go_wp2
    exact bodyPost_ret (v := .tuple #[formV (formOf 2).1, .bool (formOf 2).2]) (by simp [results, Tryd.results77, go_sem, formV, formOf]) rfl ⟨rfl, (Below.refl _ _).alloc (Nat.le_refl _) _⟩
  · go_enter Tryd.func77, Tryd.ntmps77
    go_wp2
    exact bodyPost_ret (v := .tuple #[formV (formOf 3).1, .bool (formOf 3).2]) (by simp [results, Tryd.results77, go_sem, formV, formOf]) rfl ⟨rfl, (Below.refl _ _).alloc (Nat.le_refl _) _⟩
  · go_enter Tryd.func77, Tryd.ntmps77
    go_wp2
    exact bodyPost_ret (v := .tuple #[formV (formOf 4).1, .bool (formOf 4).2]) (by simp [results, Tryd.results77, go_sem, formV, formOf]) rfl ⟨rfl, (Below.refl _ _).alloc (Nat.le_refl _) _⟩
  · go_enter Tryd.func77, Tryd.ntmps77
    go_wp2
    exact bodyPost_ret (v := .tuple #[formV (formOf 5).1, .bool (formOf 5).2]) (by simp [results, Tryd.results77, go_sem, formV, formOf]) rfl ⟨rfl, (Below.refl _ _).alloc (Nat.le_refl _) _⟩
  · go_enter Tryd.func77, Tryd.ntmps77
    go_wp2
    exact bodyPost_ret (v := .tuple #[formV (formOf 6).1, .bool (formOf 6).2]) (by simp [results, Tryd.results77, go_sem, formV, formOf]) rfl ⟨rfl, (Below.refl _ _).alloc (Nat.le_refl _) _⟩
  · go_enter Tryd.func77, Tryd.ntmps77
    go_wp2
    exact bodyPost_ret (v := .tuple #[formV (formOf 7).1, .bool (formOf 7).2]) (by simp [results, Tryd.results77, go_sem, formV, formOf]) rfl ⟨rfl, (Below.refl _ _).alloc (Nat.le_refl _) _⟩
  · go_enter Tryd.func77, Tryd.ntmps77
    go_wp2
    exact bodyPost_ret (v := .tuple #[formV (formOf 8).1, .bool (formOf 8).2]) (by simp [results, Tryd.results77, go_sem, formV, formOf]) rfl ⟨rfl, (Below.refl _ _).alloc (Nat.le_refl _) _⟩
  · go_enter Tryd.func77, Tryd.ntmps77
    go_wp2
    exact bodyPost_ret (v := .tuple #[formV (formOf 9).1, .bool (formOf 9).2]) (by simp [results, Tryd.results77, go_sem, formV, formOf]) rfl ⟨rfl, (Below.refl _ _).alloc (Nat.le_refl _) _⟩
  · go_enter Tryd.func77, Tryd.ntmps77
    go_wp2
    exact bodyPost_ret (v := .tuple #[formV (formOf 10).1, .bool (formOf 10).2]) (by simp [results, Tryd.results77, go_sem, formV, formOf]) rfl ⟨rfl, (Below.refl _ _).alloc (Nat.le_refl _) _⟩
  · go_enter Tryd.func77, Tryd.ntmps77
    go_wp2
    exact bodyPost_ret (v := .tuple #[formV (formOf 11).1, .bool (formOf 11).2]) (by simp [results, Tryd.results77, go_sem, formV, formOf]) rfl ⟨rfl, (Below.refl _ _).alloc (Nat.le_refl _) _⟩
  · go_enter Tryd.func77, Tryd.ntmps77
    go_wp2
    exact bodyPost_ret (v := .tuple #[formV (formOf 12).1, .bool (formOf 12).2]) (by simp [results, Tryd.results77, go_sem, formV, formOf]) rfl ⟨rfl, (Below.refl _ _).alloc (Nat.le_refl _) _⟩
  · go_enter Tryd.func77, Tryd.ntmps77
    go_wp2
    exact bodyPost_ret (v := .tuple #[formV (formOf 13).1, .bool (formOf 13).2]) (by simp [results, Tryd.results77, go_sem, formV, formOf]) rfl ⟨rfl, (Below.refl _ _).alloc (Nat.le_refl _) _⟩
  · go_enter Tryd.func77, Tryd.ntmps77
    go_wp2
    exact bodyPost_ret (v := .tuple #[formV (formOf 14).1, .bool (formOf 14).2]) (by simp [results, Tryd.results77, go_sem, formV, formOf]) rfl ⟨rfl, (Below.refl _ _).alloc (Nat.le_refl _) _⟩
  · go_enter Tryd.func77, Tryd.ntmps77
    go_wp2
    exact bodyPost_ret (v := .tuple #[formV (formOf 15).1, .bool (formOf 15).2]) (by simp [results, Tryd.results77, go_sem, formV, formOf]) rfl ⟨rfl, (Below.refl _ _).alloc (Nat.le_refl _) _⟩
  · go_enter Tryd.func77, Tryd.ntmps77
    go_wp2
    exact bodyPost_ret (v := .tuple #[formV (formOf 16).1, .bool (formOf 16).2]) (by simp [results, Tryd.results77, go_sem, formV, formOf]) rfl ⟨rfl, (Below.refl _ _).alloc (Nat.le_refl _) _⟩
  · go_enter Tryd.func77, Tryd.ntmps77
    go_wp2
    exact bodyPost_ret (v := .tuple #[formV (formOf 17).1, .bool (formOf 17).2]) (by simp [results, Tryd.results77, go_sem, formV, formOf]) rfl ⟨rfl, (Below.refl _ _).alloc (Nat.le_refl _) _⟩
  · go_enter Tryd.func77, Tryd.ntmps77
    go_wp2
    exact bodyPost_ret (v := .tuple #[formV (formOf 18).1, .bool (formOf 18).2]) (by simp [results, Tryd.results77, go_sem, formV, formOf]) rfl ⟨rfl, (Below.refl _ _).alloc (Nat.le_refl _) _⟩
  · go_enter Tryd.func77, Tryd.ntmps77
    go_wp2
    exact bodyPost_ret (v := .tuple #[formV (formOf 19).1, .bool (formOf 19).2]) (by simp [results, Tryd.results77, go_sem, formV, formOf]) rfl ⟨rfl, (Below.refl _ _).alloc (Nat.le_refl _) _⟩
end Go.Proofs.YtekofpigmggbbaaDoor.ir

/- The table of instructions: what of, Tells answer. -/
namespace Go.Proofs.YtekofpigmggbbaaDoor.ir
open Go.Bk Go.RowKit

set_option maxRecDepth 100000 in
theorem tells_any {w : World} {op : Int} :
    Calls Tryd.prog 29 #[.int .i64 op] w fun e w' => e = .returned (.bool (tellsOf op)) ∧ Below w.heap.size w w' := by
  go_enter Tryd.func29, Tryd.ntmps29
  go_wp2_with fail
  refine of_any.mono ?_
  rintro e w1 ⟨rfl, hb⟩
  have HB := Lib.hid hb
  clear hb
  unfold formV
  go_wp2
  go_ret
  exact ⟨rfl, (HB.out.alloc HB.out.size _)⟩

def hasRel (w : World) (xs : List Int) (x : Int) (v : Value) (w' : World) : Prop := ∃ k : Nat, k ≤ xs.length ∧ v = .int .i64 k ∧ (∀ j, j < k → xs[j]? ≠ some x) ∧ Quiet w w'

set_option maxRecDepth 100000 in
theorem has_any {S : Nat → Prop} {w : World} {a : Option Addr} {c : Nat} {xs : List Int} {x : Int} (h : Arr S w a xs) :
    Calls Tryd.prog 32 #[.slice a xs.length c, .int .i64 x] w fun e w' => e = .returned (.bool (decide (x ∈ xs))) ∧ Quiet w w' := by
  have hm := h.small
  unfold maxLen at hm
  go_enter Tryd.func32, Tryd.ntmps32
  go_wp2
  go_loopw [9] (hasRel w xs x) (fun i _ => xs.length - (intOf i).toNat)
  case atStart => exact ⟨0, Nat.zero_le _, rfl, fun j hj => by omega, Quiet.refl _⟩
  case round =>
    obtain ⟨k, hk, rfl, hno, hq⟩ := hrel
    have HQ := Lib.hid hq; have HN := Lib.hid hno
    have h' := h.keep (w' := wr) (fun b _ => hq.heap b)
    clear hq hno h
    by_cases hlt : k < xs.length
    · obtain ⟨y, hy⟩ : ∃ y, xs[k]? = some y := ⟨_, List.getElem?_eq_getElem hlt⟩
      have HY := Lib.hid hy
      obtain ⟨b1, o1, cs1, rfl, -, ⟨rfl, -⟩, g1⟩ := h'.at hy
      have q1 : wr.cell? ⟨b1, o1 + k, none⟩ = some (.int .i64 y) := by simpa [show Rep.sz Int = 1 from rfl] using g1 0 Nat.zero_lt_one
      clear h' g1 hy
      by_cases he : x = y
      · subst he
        have hee : (x == x) = true := by simp
        go_wp2
        go_ret
        exact ⟨by simp [List.mem_of_getElem? HY.out], HQ.out⟩
      · have hee : (x == y) = false := by simp [he]
        have HE := Lib.hid he
        clear he
        go_wp2
        go_roundw
        case rel => exact ⟨k + 1, by omega, by go_num, fun j hj => by
          by_cases hjk : j = k
          · subst hjk; rw [HY.out]; intro e; exact HE.out (Option.some.inj e).symm
          · exact HN.out j (by omega), HQ.out⟩
        case measure => simp [intOf]; omega
    · go_wp2
      go_ret
      have hne : x ∉ xs := fun hx => by
        obtain ⟨j, hj⟩ := List.getElem?_of_mem hx
        have := (List.getElem?_eq_some_iff.1 hj).1
        exact HN.out j (by omega) hj
      exact ⟨by simp [hne], HQ.out⟩

def eqRel (w : World) (xs ys : List Int) (v : Value) (w' : World) : Prop := ∃ k : Nat, k ≤ xs.length ∧ v = .int .i64 k ∧ SameTo xs ys k ∧ Quiet w w'

set_option maxRecDepth 100000 in
theorem eq_any {S1 S2 : Nat → Prop} {w : World} {a1 a2 : Option Addr} {c1 c2 : Nat} {xs ys : List Int} (h1 : Arr S1 w a1 xs) (h2 : Arr S2 w a2 ys) :
    Calls Tryd.prog 27 #[.slice a1 xs.length c1, .slice a2 ys.length c2] w fun e w' => e = .returned (.bool (decide (xs = ys))) ∧ Quiet w w' := by
  have hm1 := h1.small; have hm2 := h2.small
  unfold maxLen at hm1 hm2
  by_cases hl : xs.length = ys.length
  · have hb : ((xs.length : Int) != ys.length) = false := by simp [hl]
    have HL := Lib.hid hl
    have hle : xs.length ≤ ys.length := by omega
    clear hl
    go_enter Tryd.func27, Tryd.ntmps27
    go_wp2
    go_loopw [14] (eqRel w xs ys) (fun i _ => xs.length - (intOf i).toNat)
    case atStart => exact ⟨0, Nat.zero_le _, rfl, fun i hi => by omega, Quiet.refl _⟩
    case round =>
      obtain ⟨k, hk, rfl, hb, hq⟩ := hrel
      have HB := Lib.hid hb; have HQ := Lib.hid hq
      have g1 := h1.keep (w' := wr) (fun b _ => hq.heap b)
      have g2 := h2.keep (w' := wr) (fun b _ => hq.heap b)
      clear hb hq h1 h2
      by_cases hlt : k < xs.length
      · have hlt2 : k < ys.length := by omega
        obtain ⟨x, hx⟩ : ∃ x, xs[k]? = some x := ⟨_, List.getElem?_eq_getElem hlt⟩
        obtain ⟨y, hy⟩ : ∃ y, ys[k]? = some y := ⟨_, List.getElem?_eq_getElem hlt2⟩
        obtain ⟨b1, o1, cs1, rfl, -, ⟨rfl, -⟩, p1⟩ := g1.at hx
        obtain ⟨b2, o2, cs2, rfl, -, ⟨rfl, -⟩, p2⟩ := g2.at hy
        have q1 : wr.cell? ⟨b1, o1 + k, none⟩ = some (.int .i64 x) := by simpa [show Rep.sz Int = 1 from rfl] using p1 0 Nat.zero_lt_one
        have q2 : wr.cell? ⟨b2, o2 + k, none⟩ = some (.int .i64 y) := by simpa [show Rep.sz Int = 1 from rfl] using p2 0 Nat.zero_lt_one
        have HX := Lib.hid hx; have HY := Lib.hid hy
        clear g1 g2 p1 p2 hx hy
        by_cases he : x = y
        · subst he
          have hee : (x != x) = false := by simp
          go_wp2
          go_roundw
          case rel => exact ⟨k + 1, by omega, by go_num, HB.out.succ (HX.out.trans HY.out.symm), HQ.out⟩
          case measure => simp [intOf]; omega
        · have hee : (x != y) = true := by simp [he]
          have HE := Lib.hid he
          clear he
          go_wp2
          go_ret
          have hne : xs ≠ ys := fun e => HE.out (by have := HX.out; rw [e, HY.out] at this; exact (Option.some.inj this).symm)
          exact ⟨by simp [hne], HQ.out⟩
      · go_wp2
        go_ret
        have heq : xs = ys := List.ext_getElem? fun i => by
          by_cases hi : i < k
          · exact HB.out i hi
          · have := HL.out
            rw [List.getElem?_eq_none (by omega), List.getElem?_eq_none (by omega)]
        exact ⟨by simp [heq], HQ.out⟩
  · have hb : ((xs.length : Int) != ys.length) = true := by simp; omega
    have HL := Lib.hid hl
    clear hl
    go_enter Tryd.func27, Tryd.ntmps27
    go_wp2
    go_ret
    have hne : xs ≠ ys := fun e => HL.out (by rw [e])
    exact ⟨by simp [hne], Quiet.refl _⟩

set_option maxRecDepth 100000 in
theorem rtells_any {w : World} {op : Int} :
    Calls Tryd.prog 12 #[.int .i64 op] w fun e w' => e = .returned (.bool (tellsOf op)) ∧ Below w.heap.size w w' := by
  go_enter Tryd.func12, Tryd.ntmps12
  go_wp2_with fail
  refine (has_any (S := fun _ => True) (xs := [1, 2, 3, 7, 8, 10, 13, 15, 16, 18]) ((blk_new w _ _).arr (zs := [1, 2, 3, 7, 8, 10, 13, 15, 16, 18]) (by unfold I64; simp) (by simp [maxLen]) trivial)).mono ?_
  rintro e w1 ⟨rfl, hq⟩
  have HQ := Lib.hid hq
  clear hq
  go_wp2
  go_ret
  exact ⟨by simp [tellsOf_eq], ((Below.refl _ _).alloc (Nat.le_refl _) _).trans (HQ.out.below _)⟩

set_option maxRecDepth 100000 in
set_option maxHeartbeats 1000000 in
theorem asks_any {w : World} {x : Api.TIns} (hA : I64 x.A) (hB : I64 x.B) (hC : I64 x.C) :
    Calls Tryd.prog 28 #[.agg #[.int .i64 x.Op, .int .i64 x.A, .int .i64 x.B, .int .i64 x.C, .int .i64 x.N, .int .i64 x.Exit, .int .i64 x.K.Kind, .int .i64 x.K.N]] w fun e w' =>
      (∃ a c, e = .returned (.slice a (asksOf x).length c) ∧ (a = none → c = 0) ∧ Arr (Fresh w w') w' a (asksOf x)) ∧ Below w.heap.size w w' := by
  obtain ⟨Op, A, B, C, N, Exit, K⟩ := x
  have HC := Lib.hid (asks_cases Op)
  have HI : Hid (∀ z ∈ [A, B, C], I64 z) := fun z hz => by
    simp at hz
    rcases hz with rfl | rfl | rfl <;> assumption
  unfold asksOf
  clear hA hB hC
  go_enter Tryd.func28, Tryd.ntmps28
  go_wp2_with fail
  refine of_any.mono ?_
  rintro e w1 ⟨rfl, hb⟩
  have HB := Lib.hid hb
  have hsz : w.heap.size < w1.heap.size := by have := hb.size; simp at this; omega
  have hblk := (blk_new w [.int .i64 Op, .int .i64 A, .int .i64 B, .int .i64 C, .int .i64 N, .int .i64 Exit, .int .i64 K.Kind, .int .i64 K.N] 43).below hb (by simp)
  clear hb
  have c0 := hblk.cell (j := 0) rfl
  have c1 := hblk.cell (j := 1) rfl
  have c2 := hblk.cell (j := 2) rfl
  have c3 := hblk.cell (j := 3) rfl
  clear hblk
  have hc := HC.out
  clear HC
  revert hc
  generalize hfo : formOf Op = fo
  have HFO := Lib.hid hfo
  clear hfo
  intro hc
  obtain ⟨⟨asks, low, high, k, tells, exit⟩, is⟩ := fo
  unfold formV
  dsimp only at hc ⊢
  rcases hc with ⟨rfl, rfl⟩ | ⟨rfl, rfl | rfl | rfl | rfl⟩
  · go_wp2
    go_ret
    rw [HFO.out]
    exact ⟨⟨none, 0, rfl, fun _ => rfl, Arr.nil _ _ _⟩, (((Below.refl _ _).alloc (Nat.le_refl _) _).trans (HB.out.mono (by simp))).alloc (by omega) _⟩
  · go_wp2
    go_ret
    rw [HFO.out]
    exact ⟨⟨none, 0, rfl, fun _ => rfl, Arr.nil _ _ _⟩, ((((Below.refl _ _).alloc (Nat.le_refl _) _).trans (HB.out.mono (by simp))).alloc (by omega) _).alloc (by simp; omega) _⟩
  · go_wp2_with (with_reducible refine wp_append (α := Int) (v := .slice none 0 0) (S := fun _ => False) (S2 := fun _ => True) (ys := [A, B, C].take 1) rfl rfl Tryd.underlying58 Tryd.info3 rfl (by decide) rfl rfl (Own.nil _ _ w.heap.size _) ?hys flat_int (by simp) (fun _ h => h.elim) (by simp [maxLen]) (by simp) (by simp; omega) fun v' w' hown' hg' => ?_)
    case hys => exact (Blk.arr (S := fun _ => True) (zs := [A, B, C]) (blk_new' (by simp)) HI.out (by simp [maxLen]) trivial).take _
    have hbb : Below w.heap.size w w' := ((((Below.refl _ _).alloc (Nat.le_refl _) _).trans (HB.out.mono (by simp))).alloc (by omega) _ |>.alloc (by simp; omega) _).grown hg' (by simp; omega) (by simp [Value.ownBlock])
    have HBB := Lib.hid hbb; have HN := Lib.hid hown'
    clear hbb hown' hg'
    go_wp2
    go_ret
    rw [HFO.out]
    obtain ⟨av, cap, rfl, -, hn, harr⟩ := HN.out.arr
    exact ⟨⟨av, cap, rfl, hn, harr.mono (fun b hb => hb.elim False.elim id)⟩, HBB.out⟩
  · go_wp2_with (with_reducible refine wp_append (α := Int) (v := .slice none 0 0) (S := fun _ => False) (S2 := fun _ => True) (ys := [A, B, C].take 2) rfl rfl Tryd.underlying58 Tryd.info3 rfl (by decide) rfl rfl (Own.nil _ _ w.heap.size _) ?hys flat_int (by simp) (fun _ h => h.elim) (by simp [maxLen]) (by simp) (by simp; omega) fun v' w' hown' hg' => ?_)
    case hys => exact (Blk.arr (S := fun _ => True) (zs := [A, B, C]) (blk_new' (by simp)) HI.out (by simp [maxLen]) trivial).take _
    have hbb : Below w.heap.size w w' := ((((Below.refl _ _).alloc (Nat.le_refl _) _).trans (HB.out.mono (by simp))).alloc (by omega) _ |>.alloc (by simp; omega) _).grown hg' (by simp; omega) (by simp [Value.ownBlock])
    have HBB := Lib.hid hbb; have HN := Lib.hid hown'
    clear hbb hown' hg'
    go_wp2
    go_ret
    rw [HFO.out]
    obtain ⟨av, cap, rfl, -, hn, harr⟩ := HN.out.arr
    exact ⟨⟨av, cap, rfl, hn, harr.mono (fun b hb => hb.elim False.elim id)⟩, HBB.out⟩
  · go_wp2_with (with_reducible refine wp_append (α := Int) (v := .slice none 0 0) (S := fun _ => False) (S2 := fun _ => True) (ys := [A, B, C].take 3) rfl rfl Tryd.underlying58 Tryd.info3 rfl (by decide) rfl rfl (Own.nil _ _ w.heap.size _) ?hys flat_int (by simp) (fun _ h => h.elim) (by simp [maxLen]) (by simp) (by simp; omega) fun v' w' hown' hg' => ?_)
    case hys => exact (Blk.arr (S := fun _ => True) (zs := [A, B, C]) (blk_new' (by simp)) HI.out (by simp [maxLen]) trivial).take _
    have hbb : Below w.heap.size w w' := ((((Below.refl _ _).alloc (Nat.le_refl _) _).trans (HB.out.mono (by simp))).alloc (by omega) _ |>.alloc (by simp; omega) _).grown hg' (by simp; omega) (by simp [Value.ownBlock])
    have HBB := Lib.hid hbb; have HN := Lib.hid hown'
    clear hbb hown' hg'
    go_wp2
    go_ret
    rw [HFO.out]
    obtain ⟨av, cap, rfl, -, hn, harr⟩ := HN.out.arr
    exact ⟨⟨av, cap, rfl, hn, harr.mono (fun b hb => hb.elim False.elim id)⟩, HBB.out⟩
end Go.Proofs.YtekofpigmggbbaaDoor.ir

/- irred, walked. -/
namespace Go.Proofs.YtekofpigmggbbaaDoor.ir
open Go.Bk Go.RowKit

set_option maxRecDepth 100000 in
theorem irred_any {w : World} : Calls Tryd.prog 10 #[] w fun e w' => e = .returned (.bool true) ∧ Below w.heap.size w w' := by
  go_enter Tryd.func10, Tryd.ntmps10
  go_wp2_with fail
  refine (asks_any (x := ⟨14, 4, 5, 6, 0, 0, ⟨0, 0⟩⟩) (by unfold I64; simp) (by unfold I64; simp) (by unfold I64; simp)).mono ?_
  rintro e w1 ⟨⟨a, c, rfl, -, ha⟩, hb⟩
  have HB := Lib.hid hb
  have ha' : Arr (Fresh w w1) (w1.alloc (.cells #[.int .i64 4, .int .i64 5, .int .i64 6] 3)) a (asksOf ⟨14, 4, 5, 6, 0, 0, ⟨0, 0⟩⟩) := ha.keep (fun b h => Below.heap_alloc _ _ _ h.2)
  clear hb ha
  go_wp2_with fail
  refine (eq_any ha' (Blk.arr (S := fun _ => True) (zs := [4, 5, 6]) (blk_new' rfl) (by unfold I64; simp) (by simp [maxLen]) trivial)).mono ?_
  rintro e w2 ⟨rfl, hq⟩
  have HQ := Lib.hid hq
  rw [show decide (asksOf ⟨14, 4, 5, 6, 0, 0, ⟨0, 0⟩⟩ = [4, 5, 6]) = true by decide]
  clear hq ha'
  go_wp2_with fail
  refine tells_any.mono ?_
  rintro e w3 ⟨rfl, hb3⟩
  have HB3 := Lib.hid hb3
  rw [show tellsOf 13 = true by decide]
  clear hb3
  go_wp2_with fail
  refine tells_any.mono ?_
  rintro e w4 ⟨rfl, hb4⟩
  have HB4 := Lib.hid hb4
  rw [show tellsOf 11 = false by decide]
  clear hb4
  go_wp2
  go_ret
  have h1 := HB.out
  have h2 : Below w.heap.size w w2 := (h1.alloc h1.size _).trans (HQ.out.below _)
  have h3 := h2.trans (HB3.out.mono h2.size)
  exact ⟨rfl, h3.trans (HB4.out.mono h3.size)⟩

theorem arr_ins_op {S : Nat → Prop} {w : World} {a : Option Addr} {xs : List Api.TIns} (h : Arr S w a xs) {k : Nat} {x : Api.TIns} (hk : xs[k]? = some x) : ∃ (b off : Nat), a = some ⟨b, off, none⟩ ∧ S b ∧ w.cell? ⟨b, off + k * 8, none⟩ = some (.int .i64 x.Op) := by
  obtain ⟨b, off, ha, hb, h0, _⟩ := api_TIns_elem h hk
  exact ⟨b, off, ha, hb, h0⟩
end Go.Proofs.YtekofpigmggbbaaDoor.ir
