/- code.Check: large, Right: walked. -/
import Derived.Test.YtjlnaiiajlahgaaDoorCodeG
set_option linter.unusedVariables false
set_option linter.unusedSimpArgs false
namespace Go.Proofs.YtjlnaiiajlahgaaDoor.cod
open Go.Bk Go.RowKit Go.Proofs.YtjlnaiiajlahgaaDoor.funs

def bigF (f : Api.Fn) : Bool := decide (600 < f.Code.length) || decide (60 < f.Regs)
set_option maxRecDepth 100000 in
theorem largeS_any (w : World) (t : ByteArray) : Calls Tryd.prog 77 #[.string t] w fun e w' => e = .returned (.bool (decide (200 < t.size))) ∧ w = w' := by
  by_cases h : 200 < t.size
  all_goals
    go_enter Tryd.func77, Tryd.ntmps77
    go_wp2
    go_ret
    exact ⟨by simp [h]; omega, rfl⟩
set_option maxRecDepth 100000 in
theorem largeF_any {S : Nat → Prop} {w : World} {cs : List Value} {f : Api.Fn} (h : Rep.cells S w cs f) : Calls Tryd.prog 78 #[.agg cs.toArray] w fun e w' => e = .returned (.bool (bigF f)) ∧ Grow w w' := by
  obtain ⟨a3, c3, a4, c4, rfl, -, -, hq3, hq4⟩ := api_Fn_cells_eq h
  obtain ⟨n4, hn4⟩ : ∃ n4, n4 = f.Code.length := ⟨_, rfl⟩
  have hs : n4 ≤ 9223372036854775807 := by rw [hn4]; have := hq4.2.2.small; unfold maxLen at this; omega
  have HE : Hid (bigF f = (decide (600 < n4) || decide (60 < f.Regs))) := by show _ = _; rw [hn4]; rfl
  have HG : Hid (∀ o, Grow w (w.alloc o)) := fun o => below_al2 o
  rw [← hn4]
  clear h hq3 hq4 hn4
  by_cases d1 : 600 < n4 <;> by_cases d2 : 60 < f.Regs
  all_goals
    go_enter Tryd.func78, Tryd.ntmps78
    go_wp2
    go_ret
    exact ⟨by rw [HE.out]; first | (simp [d1, d2]; done) | (simp [d1, d2]; omega), HG.out _⟩
section
variable {a0 a1 a2 : Option Addr} {nF c0 nC c1 nT c2 : Nat}
set_option maxRecDepth 100000 in
theorem large_any {S : Nat → Prop} {w : World} {p : Api.Prog} (h : PgAt S w a0 a1 a2 nF nC nT p) (hS : ∀ b, S b → b < w.heap.size) :
    Calls Tryd.prog 54 #[pgV a0 a1 a2 nF c0 nC c1 nT c2] w fun e w' => e = .returned (.bool (large p)) ∧ RowKit.Below w.heap.size w w' := by
  obtain ⟨x4, hx4⟩ : ∃ x, x = p.Texts.any (fun t => decide (200 < t.size)) := ⟨_, rfl⟩
  obtain ⟨x5, hx5⟩ : ∃ x, x = p.Fns.any bigF := ⟨_, rfl⟩
  have HL : Hid (large p = (decide (60 < nF) || (decide (200 < nC) || (decide (200 < nT) || (x4 || x5))))) := by
    show _ = _
    rw [hx4, hx5, h.lenF, h.lenC, h.lenT]; rfl
  have hb1 : ∀ o, RowKit.Below w.heap.size w (w.alloc o) := fun o => below_al2 o
  have HCS : Hid (∀ o, Calls Tryd.prog 76 #[.slice a2 nT c2, .func (.func 77) #[] #[]] (w.alloc o) fun e w' => e = .returned (.bool x4) ∧ w.alloc o = w') := fun o => by
    rw [hx4]
    exact containsS_any (F := 77) (caps := #[]) mild_eq h.lenT.symm (h.texts.keep fun b hb => (hb1 o).block b (hS b hb)) (fun b hb => Nat.lt_of_lt_of_le (hS b hb) (hb1 o).size) (fun _ _ => by simp)
      (fun y wx _ _ => by have := largeS_any wx y; simpa using this)
  have HCF : Hid (∀ o, Calls Tryd.prog 56 #[.slice a0 nF c0, .func (.func 78) #[] #[]] (w.alloc o) fun e w' => e = .returned (.bool x5) ∧ RowKit.Below w.heap.size w w') := fun o => by
    rw [hx5]
    have k := containsF_any (c := c0) (F := 78) (caps := #[]) (p := bigF) mild_grow h.lenF.symm (h.fns.keep fun b hb => (hb1 o).block b (hS b hb)) (fun b hb => Nat.lt_of_lt_of_le (hS b hb) (hb1 o).size) (fun _ _ => by simp)
      (fun y cs wx _ hc hg => by
        have := (largeF_any hc)
        simpa using this)
    exact k.mono fun e w' ⟨he, hg⟩ => ⟨he, (hb1 o).trans (hg.mono (hb1 o).size)⟩
  have HB := Lib.hid hb1
  clear h hS hx4 hx5 hb1
  by_cases d1 : 60 < nF
  · go_enter Tryd.func54, Tryd.ntmps54
    go_wp2
    go_ret
    exact ⟨by rw [HL.out]; simp [d1], HB.out _⟩
  by_cases d2 : 200 < nC
  · go_enter Tryd.func54, Tryd.ntmps54
    go_wp2
    go_ret
    exact ⟨by rw [HL.out]; simp [d1, d2], HB.out _⟩
  by_cases d3 : 200 < nT
  · go_enter Tryd.func54, Tryd.ntmps54
    go_wp2
    go_ret
    exact ⟨by rw [HL.out]; simp [d1, d2, d3], HB.out _⟩
  cases x4
  · go_enter Tryd.func54, Tryd.ntmps54
    go_wp2_with (first
      | (go_at_call 76; (with_reducible refine (HCS.out _).mono ?_); rintro e w2 ⟨rfl, rfl⟩)
      | (go_at_call 56; (with_reducible refine (HCF.out _).mono ?_); rintro e w2 ⟨rfl, hb2⟩; have HB2 := Lib.hid hb2; clear hb2))
    go_ret
    exact ⟨by rw [HL.out]; simp [d1, d2, d3]; intro hq; omega, HB2.out⟩
  · go_enter Tryd.func54, Tryd.ntmps54
    go_wp2_with (first
      | (go_at_call 76; (with_reducible refine (HCS.out _).mono ?_); rintro e w2 ⟨rfl, rfl⟩))
    go_ret
    exact ⟨by rw [HL.out]; simp [d1, d2, d3], HB.out _⟩
end
end Go.Proofs.YtjlnaiiajlahgaaDoor.cod
