/- slices.Equal, slices.Clone at tries, walked. -/
import Derived.Test.YtjlnaiiajlahgaaDoorApp
import Derived.WalkSpells
import Derived.Test.YtjlnaiiajlahgaaDoorSlices
import Derived.Test.YtjlnaiiajlahgaaDoorFuncsG
import Derived.Deep.QuietTactic
set_option linter.unusedVariables false
set_option linter.unusedSimpArgs false
namespace Go.Bk
open Go.RowKit
theorem own_zero {α : Type} [Rep α] {S : Nat → Prop} {w : World} {B g : Nat} {e : TypeId} (hg : B ≤ g) (hb : Blk w g e []) : Own S w B e (.slice (some ⟨g, 0, none⟩) 0 0) ([] : List α) :=
  ⟨[], rfl, fun k x cs hk => by simp at hk, by simp, .inr ⟨g, 0, #[], rfl, hg, hb, Nat.le_refl _, by simp, by simp, by simp⟩⟩
theorem box_zero {w : World} {e : TypeId} : Blk (w.alloc (.cells #[] e)) w.heap.size e [] := blk_new w [] e
theorem box_below {w w' : World} {o : Obj} {n c : Nat} (hg : (w.alloc o).grownBy w' (Value.slice (some ⟨w.heap.size, 0, none⟩) n c).ownBlock) : Below w.heap.size w w' :=
  ((Below.refl _ _).alloc (Nat.le_refl _) _).grown hg (by simp) (fun r hr => by have : w.heap.size = r := Option.some.inj hr; omega)
theorem arr_none {α : Type} [Rep α] {S : Nat → Prop} {w : World} {xs : List α} (h : Arr S w none xs) : xs = [] := by
  rcases h.lies with h | ⟨_, _, h, _⟩
  · exact h
  · cases h
end Go.Bk
namespace Go.Proofs.YtjlnaiiajlahgaaDoor.cod
open Go.Bk Go.RowKit
def SameTo (xs ys : List Api.Try) (k : Nat) : Prop := ∀ i, i < k → xs[i]? = ys[i]?
theorem SameTo.succ {xs ys : List Api.Try} {k : Nat} (h : SameTo xs ys k) (he : xs[k]? = ys[k]?) : SameTo xs ys (k + 1) := fun i hi => by
  by_cases e : i = k
  · rw [e]; exact he
  · exact h i (by omega)
theorem get_at {α : Type} {l : List α} {n k : Nat} (hn : l.length = n) (h : k < n) : ∃ x, l[k]? = some x := ⟨_, List.getElem?_eq_getElem (by omega)⟩
set_option maxRecDepth 100000 in
theorem equalT_any {S1 S2 : Nat → Prop} {w : World} {a1 a2 : Option Addr} {c1 c2 n1 n2 : Nat} {xs ys : List Api.Try} (hn1 : xs.length = n1) (hn2 : ys.length = n2) (h1 : Arr S1 w a1 xs) (h2 : Arr S2 w a2 ys) :
    Calls Tryd.prog 135 #[.slice a1 n1 c1, .slice a2 n2 c2] w fun e w' => e = .returned (.bool (decide (xs = ys))) ∧ Quiet w w' := by
  have hm1 := h1.small; have hm2 := h2.small
  rw [hn1] at hm1; rw [hn2] at hm2
  unfold maxLen at hm1 hm2
  have H1 := Lib.hid hn1; have H2 := Lib.hid hn2
  clear hn1 hn2
  by_cases hl : n1 = n2
  · subst hl
    have hb : ((n1 : Int) != (n1 : Int)) = false := by simp
    go_enter Tryd.func135, Tryd.ntmps135
    go_wp2_with fail
    go_loopw [13] (fun i w' => ∃ k : Nat, k ≤ n1 ∧ i = .int .i64 k ∧ SameTo xs ys k ∧ Quiet w w') (fun i _ => n1 - (intOf i).toNat)
    case atStart => exact ⟨0, Nat.zero_le _, rfl, fun i hi => by omega, Quiet.refl _⟩
    case round =>
      obtain ⟨k, hk, rfl, hb, hq⟩ := hrel
      have HQ := Lib.hid hq
      have HB := Lib.hid hb
      have h1' := h1.keep (w' := wr) (fun b _ => hq.heap b)
      have h2' := h2.keep (w' := wr) (fun b _ => hq.heap b)
      clear hb hq
      by_cases hlt : k < n1
      · obtain ⟨x, hx⟩ := get_at H1.out hlt
        obtain ⟨y, hy⟩ := get_at H2.out hlt
        obtain ⟨b1, o1, rfl, -, q1, q2, -⟩ := api_Try_elem h1' hx
        obtain ⟨b2, o2, rfl, -, q3, q4, -⟩ := api_Try_elem h2' hy
        have HX := Lib.hid hx; have HY := Lib.hid hy
        clear h1 h2 h1' h2' hx hy
        by_cases he : x = y
        · subst he
          have hee1 : (x.Reg == x.Reg) = true := by simp
          have hee2 : (x.At == x.At) = true := by simp
          go_wp2
          go_quiet (fail)
          go_wp2
          go_roundw
          case rel => exact ⟨k + 1, by omega, by go_num, HB.out.succ (HX.out.trans HY.out.symm), HQ.out.more _⟩
          case measure => simp [intOf]; omega
        · have hee3 : (x.Reg == y.Reg) = false ∨ ((x.Reg == y.Reg) = true ∧ (x.At == y.At) = false) := by
            obtain ⟨r1, t1⟩ := x
            obtain ⟨r2, t2⟩ := y
            by_cases h1 : r1 = r2 <;> by_cases h2 : t1 = t2 <;> simp_all
          have HE := Lib.hid he
          clear he
          have hne : xs ≠ ys := fun e => HE.out (by have := HX.out; rw [e, HY.out] at this; exact (Option.some.inj this).symm)
          have HNE : Hid (decide (xs = ys) = false) := decide_eq_false hne
          clear hne
          rcases hee3 with d1 | ⟨d1, d2⟩
          all_goals
            go_wp2
            go_quiet (fail)
            go_wp2
            go_ret
            exact ⟨by rw [HNE.out]; rfl, HQ.out.more _⟩
      · clear h1' h2'
        go_wp2
        go_ret
        have : k = n1 := by omega
        have heq : xs = ys := List.ext_getElem? fun i => by
          by_cases hi : i < k
          · exact HB.out i hi
          · have := H1.out; have := H2.out
            rw [List.getElem?_eq_none (by omega), List.getElem?_eq_none (by omega)]
        exact ⟨by simp [heq], HQ.out⟩
  · have hb : ((n1 : Int) != (n2 : Int)) = true := by simp; omega
    have HL := Lib.hid hl
    clear hl
    go_enter Tryd.func135, Tryd.ntmps135
    go_wp2
    go_ret
    have hne : xs ≠ ys := fun e => HL.out (by rw [← H1.out, ← H2.out, e])
    exact ⟨by simp [hne], Quiet.refl _⟩

set_option maxRecDepth 100000 in
theorem cloneT_any {S : Nat → Prop} {w : World} {a : Option Addr} {c n : Nat} {xs : List Api.Try} (hn : xs.length = n) (h : Arr S w a xs) (hnil : a = none → c = 0) (hS : ∀ b, S b → b < w.heap.size) (hm : n ≤ 100000000) :
    Calls Tryd.prog 136 #[.slice a n c] w (RetOwn 219 w xs) := by
  have q22 : ∀ (w : World) (a : Option Addr) (n c n' c' : Nat), (binOp .eql 216 (.slice a n c) (.slice none n' c')).run Tryd.prog w = .ok (.bool a.isNone) w := fun w a n c n' c' => Lib.run_eql_slice_nil w _ _ a n c n' c' Tryd.underlying216
  cases a with
  | none =>
    obtain rfl := arr_none h
    go_enter Tryd.func136, Tryd.ntmps136
    go_wp2_with fail
    go_ret
    exact ⟨_, rfl, Own.nil _ _ _ _, Below.refl _ _⟩
  | some ad =>
    have HB : Hid (Own (fun _ => False) (w.alloc (.cells #[] 219)) w.heap.size 219 (.slice (some ⟨w.heap.size, 0, none⟩) 0 0) ([] : List Api.Try)) := own_zero (Nat.le_refl _) box_zero
    have HA : Hid (Arr S (w.alloc (.cells #[] 219)) (some ad) xs) := h.keep (fun b hb => Below.heap_alloc _ _ _ (hS b hb))
    have HN := Lib.hid hn; have HNI := Lib.hid hnil
    clear h hnil hn
    go_enter Tryd.func136, Tryd.ntmps136
    go_wp2_with ((at_builtin; with_reducible refine Tryd.wp_apps216 rfl rfl rfl rfl (HN.out) (HB.out) (HA.out) Tryd.flat216 (HNI.out) (fun _ h => h.elim) (by (simp; omega)) (by first | omega | (simp; omega) | simp) fun v' w' hown' hg' => ?_); have hbw : Below w.heap.size w w' := box_below (n := 0) (c := 0) (by with_unfolding_all exact hg'); have HO := Lib.hid hown'; have HW := Lib.hid hbw; clear hown' hg' hbw)
    go_ret
    exact ⟨_, rfl, by simpa using HO.out, HW.out⟩
end Go.Proofs.YtjlnaiiajlahgaaDoor.cod
