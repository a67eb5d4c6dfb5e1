/- slices.Equal at ints, walked. -/
import Derived.Test.YtjlnaiiajlahgaaSame
import Derived.Test.YtjlnaiiajlahgaaFuncsG
import Derived.Deep.QuietTactic
set_option linter.unusedVariables false
set_option linter.unusedSimpArgs false
namespace Go.Proofs.Ytjlnaiiajlahgaa
open Go.Bk Go.RowKit

theorem get_at {α : Type} {l : List α} {n k : Nat} (hn : l.length = n) (h : k < n) : ∃ x, l[k]? = some x := ⟨_, List.getElem?_eq_getElem (by omega)⟩
set_option maxRecDepth 100000 in
theorem equal_any {S1 S2 : Nat → Prop} {w : World} {a1 a2 : Option Addr} {c1 c2 n1 n2 : Nat} {xs ys : List Int} (hn1 : xs.length = n1) (hn2 : ys.length = n2) (h1 : Arr S1 w a1 xs) (h2 : Arr S2 w a2 ys) :
    Calls Try.prog 41 #[.slice a1 n1 c1, .slice a2 n2 c2] w fun e w' => e = .returned (.bool (decide (xs = ys))) ∧ Quiet w w' := by
  have hm1 := h1.small; have hm2 := h2.small
  rw [hn1] at hm1; rw [hn2] at hm2
  unfold maxLen at hm1 hm2
  have H1 := Lib.hid hn1; have H2 := Lib.hid hn2
  clear hn1 hn2
  by_cases hl : n1 = n2
  · subst hl
    have hb : ((n1 : Int) != (n1 : Int)) = false := by simp
    go_enter Try.func41, Try.ntmps41
    go_wp2_with fail
    go_loopw [13] (fun i w' => ∃ k : Nat, k ≤ n1 ∧ i = .int .i64 k ∧ SameTo xs ys k ∧ Quiet w w') (fun i _ => n1 - (intOf i).toNat)
    case atStart => exact ⟨0, Nat.zero_le _, rfl, fun i hi => by omega, Quiet.refl _⟩
    case round =>
      obtain ⟨k, hk, rfl, hb, hq⟩ := hrel
      have HQ := Lib.hid hq
      have HB := Lib.hid hb
      have h1' := h1.keep (w' := wr) (fun b _ => hq.heap b)
      have h2' := h2.keep (w' := wr) (fun b _ => hq.heap b)
      clear hb hq
      by_cases hlt : k < n1
      · obtain ⟨x, hx⟩ := get_at H1.out hlt
        obtain ⟨y, hy⟩ := get_at H2.out hlt
        obtain ⟨b1, o1, rfl, -, q1, -⟩ := arr_int h1' hx
        obtain ⟨b2, o2, rfl, -, q2, -⟩ := arr_int h2' hy
        have HX := Lib.hid hx; have HY := Lib.hid hy
        clear h1 h2 h1' h2' hx hy
        by_cases he : x = y
        · subst he
          have hee : (x != x) = false := by simp
          go_wp2
          go_quiet (fail)
          go_wp2
          go_roundw
          case rel => exact ⟨k + 1, by omega, by go_num, HB.out.succ (HX.out.trans HY.out.symm), HQ.out.more _⟩
          case measure => simp [intOf]; omega
        · have hee : (x != y) = true := by simp [he]
          have HE := Lib.hid he
          clear he
          go_wp2
          go_quiet (fail)
          go_wp2
          go_ret
          have hne : xs ≠ ys := fun e => HE.out (by have := HX.out; rw [e, HY.out] at this; exact (Option.some.inj this).symm)
          exact ⟨by simp [hne], HQ.out.more _⟩
      · clear h1' h2'
        go_wp2
        go_ret
        have : k = n1 := by omega
        have heq : xs = ys := List.ext_getElem? fun i => by
          by_cases hi : i < k
          · exact HB.out i hi
          · have := H1.out; have := H2.out
            rw [List.getElem?_eq_none (by omega), List.getElem?_eq_none (by omega)]
        exact ⟨by simp [heq], HQ.out⟩
  · have hb : ((n1 : Int) != (n2 : Int)) = true := by simp; omega
    have HL := Lib.hid hl
    clear hl
    go_enter Try.func41, Try.ntmps41
    go_wp2
    go_ret
    have hne : xs ≠ ys := fun e => HL.out (by rw [← H1.out, ← H2.out, e])
    exact ⟨by simp [hne], Quiet.refl _⟩

end Go.Proofs.Ytjlnaiiajlahgaa
