/- SameInts answers whether two lists of ints are the same; between whether a number lies between two. For whatever lists and numbers. -/
import Derived.Test.YtjlnaiiajlahgaaTy
import Derived.Test.YtjlnaiiajlahgaaMem
import Derived.BigQuiet
import Derived.Outline
set_option linter.unusedVariables false
set_option linter.unusedSimpArgs false
namespace Go.Proofs.Ytjlnaiiajlahgaa
open Go.Bk Go.RowKit

theorem between_any (w : World) (x lo hi : Int) :
    Calls Try.prog 37 #[.int .i64 x, .int .i64 lo, .int .i64 hi] w fun e w' => e = .returned (.bool (decide (lo ≤ x) && decide (x ≤ hi))) ∧ w = w' := by
  go_enter Try.func37, Try.ntmps37
  go_wp2
  all_goals
    go_ret
    exact ⟨by simp; omega, rfl⟩

theorem between_true {w : World} {x lo hi : Int} (h1 : lo ≤ x) (h2 : x ≤ hi) :
    Calls Try.prog 37 #[.int .i64 x, .int .i64 lo, .int .i64 hi] w fun e w' => e = .returned (.bool true) ∧ w = w' :=
  (between_any w x lo hi).mono fun e w' ⟨he, hw⟩ => ⟨by rw [he]; simp [h1, h2], hw⟩
theorem between_false {w : World} {x lo hi : Int} (h : x < lo ∨ hi < x) :
    Calls Try.prog 37 #[.int .i64 x, .int .i64 lo, .int .i64 hi] w fun e w' => e = .returned (.bool false) ∧ w = w' :=
  (between_any w x lo hi).mono fun e w' ⟨he, hw⟩ => ⟨by rw [he]; simp; omega, hw⟩
def SameTo (xs ys : List Int) (k : Nat) : Prop := ∀ i, i < k → xs[i]? = ys[i]?

theorem SameTo.succ {xs ys : List Int} {k : Nat} (h : SameTo xs ys k) (hk : xs[k]? = ys[k]?) : SameTo xs ys (k + 1) := fun i hi => by
  by_cases he : i = k
  · rw [he]; exact hk
  · exact h i (by omega)

set_option maxRecDepth 100000 in
theorem same_ints_any {S1 S2 : Nat → Prop} {w : World} {a1 a2 : Option Addr} {c1 c2 : Nat} {xs ys : List Int} (h1 : Arr S1 w a1 xs) (h2 : Arr S2 w a2 ys) :
    Calls Try.prog 42 #[.slice a1 xs.length c1, .slice a2 ys.length c2] w fun e w' => e = .returned (.bool (decide (xs = ys))) ∧ Quiet w w' := by
  have hm1 := h1.small; have hm2 := h2.small
  unfold maxLen at hm1 hm2
  by_cases hl : xs.length = ys.length
  · have hb : ((xs.length : Int) != ys.length) = false := by simp [hl]
    have HL := Lib.hid hl
    obtain ⟨n1, hn1⟩ : ∃ n, n = xs.length := ⟨_, rfl⟩
    obtain ⟨n2, hn2⟩ : ∃ n, n = ys.length := ⟨_, rfl⟩
    rw [← hn1] at hm1 hb
    rw [← hn2] at hm2 hb
    rw [← hn1, ← hn2]
    have hle : n1 ≤ n2 := by omega
    have H1 := Lib.hid hn1; have H2 := Lib.hid hn2
    clear hn1 hn2 hl
    go_enter Try.func42, Try.ntmps42
    go_wp2
    go_loopw [5] (fun i w' => ∃ k : Nat, k ≤ n1 ∧ i = .int .i64 k ∧ SameTo xs ys k ∧ Quiet w w') (fun i _ => n1 - (intOf i).toNat)
    case atStart => exact ⟨0, Nat.zero_le _, rfl, fun i hi => by omega, Quiet.refl _⟩
    case round =>
      obtain ⟨k, hk, rfl, hb, ⟨nn, rfl⟩⟩ := hrel
      have HQ : Quiet w (w.drewN nn) := ⟨nn, rfl⟩
      have HB := Lib.hid hb
      clear hb
      by_cases hlt : k < n1
      · have hlt2 : k < n2 := by omega
        obtain ⟨x, hx⟩ : ∃ x, xs[k]? = some x := ⟨_, List.getElem?_eq_getElem (by have := H1.out; omega)⟩
        obtain ⟨y, hy⟩ : ∃ y, ys[k]? = some y := ⟨_, List.getElem?_eq_getElem (by have := H2.out; omega)⟩
        obtain ⟨b1, o1, cs1, rfl, -, ⟨rfl, -⟩, g1⟩ := h1.at hx
        obtain ⟨b2, o2, cs2, rfl, -, ⟨rfl, -⟩, g2⟩ := h2.at hy
        have q1 : w.cell? ⟨b1, o1 + k, none⟩ = some (.int .i64 x) := by simpa [show Rep.sz Int = 1 from rfl] using g1 0 Nat.zero_lt_one
        have q2 : w.cell? ⟨b2, o2 + k, none⟩ = some (.int .i64 y) := by simpa [show Rep.sz Int = 1 from rfl] using g2 0 Nat.zero_lt_one
        have HX := Lib.hid hx; have HY := Lib.hid hy
        clear h1 h2 g1 g2 hx hy
        by_cases he : x = y
        · subst he
          have hee : (x != x) = false := by simp
          go_wp2
          go_quiet (fail)
          go_wp2
          go_roundw
          case rel => exact ⟨k + 1, by omega, by go_num, HB.out.succ (HX.out.trans HY.out.symm), by first | exact ⟨_, rfl⟩ | exact HQ.more _⟩
          case measure => simp [intOf]; omega
        · have hee : (x != y) = true := by simp [he]
          have HE := Lib.hid he
          clear he
          go_wp2
          go_quiet (fail)
          go_wp2
          go_ret
          have hne : xs ≠ ys := fun e => HE.out (by have := HX.out; rw [e, HY.out] at this; exact (Option.some.inj this).symm)
          exact ⟨by simp [hne], by first | exact ⟨_, rfl⟩ | exact HQ.more _⟩
      · go_wp2
        go_ret
        have : k = n1 := by omega
        have heq : xs = ys := List.ext_getElem? fun i => by
          by_cases hi : i < k
          · exact HB.out i hi
          · have := H1.out; have := HL.out
            rw [List.getElem?_eq_none (by omega), List.getElem?_eq_none (by omega)]
        exact ⟨by simp [heq], HQ⟩
  · have hb : ((xs.length : Int) != ys.length) = true := by simp; omega
    have HL := Lib.hid hl
    clear hl
    go_enter Try.func42, Try.ntmps42
    go_wp2
    go_ret
    have hne : xs ≠ ys := fun e => HL.out (by rw [e])
    exact ⟨by simp [hne], Quiet.refl _⟩

theorem same_ints_refl {S1 S2 : Nat → Prop} {w : World} {a1 a2 : Option Addr} {c1 c2 : Nat} {xs : List Int} (h1 : Arr S1 w a1 xs) (h2 : Arr S2 w a2 xs) :
    Calls Try.prog 42 #[.slice a1 xs.length c1, .slice a2 xs.length c2] w fun e w' => e = .returned (.bool true) ∧ Quiet w w' :=
  (same_ints_any h1 h2).mono fun e w' ⟨he, hq⟩ => ⟨by rw [he]; simp, hq⟩

end Go.Proofs.Ytjlnaiiajlahgaa
