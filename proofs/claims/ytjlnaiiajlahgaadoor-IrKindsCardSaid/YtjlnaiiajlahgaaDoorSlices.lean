/- General: parts of slices: the runs of 's[:k]' and 's[k:]', and the lists that they read as. No program is named here. -/
import Derived.Test.YtjlnaiiajlahgaaDoorMem
import Derived.Laws.PanicsMore
set_option linter.unusedVariables false
set_option linter.unusedSimpArgs false
namespace Go.Bk
open Go.RowKit
section
variable {P : Program}
theorem run_slice_to {t e : TypeId} {z : Nat} (ht : P.underlying t = some (.slice e)) (hz : (P.info? e).map (·.size) = some z) (a : Option Addr) (n c k : Nat) (hk : k ≤ c) (hc : c ≤ 9223372036854775807) (w : World) :
    (Instr.slice t (.slice a n c) none (some (.int .i64 (k : Int))) none).run P w = .ok (.slice a k c) w := by
  obtain ⟨i, hi, hs⟩ := Option.map_eq_some_iff.1 hz
  have h1 : (0 : Int) ≤ (k : Int) := by omega
  have h2 : (k : Int) ≤ (c : Int) := by omega
  simp [Instr.slice, Instr.sliceBounds, Instr.sliceBound, run_underlying ht, sizeOf, typeInfo, hi, asIntOf, go_sem, h1, h2]
  intro hlt
  omega
theorem run_slice_from {t e : TypeId} {z : Nat} (ht : P.underlying t = some (.slice e)) (hz : (P.info? e).map (·.size) = some z) (a : Option Addr) (n c k : Nat) (hk : k ≤ n) (hn : n ≤ c) (hc : c ≤ 9223372036854775807) (w : World) :
    (Instr.slice t (.slice a n c) (some (.int .i64 (k : Int))) none none).run P w = .ok (.slice (if c = k then a else a.map (·.add (k * z))) (n - k) (c - k)) w := by
  obtain ⟨i, hi, hs⟩ := Option.map_eq_some_iff.1 hz
  have h1 : (0 : Int) ≤ (k : Int) := by omega
  have h2 : (k : Int) ≤ (n : Int) := by omega
  simp [Instr.slice, Instr.sliceBounds, Instr.sliceBound, run_underlying ht, sizeOf, typeInfo, hi, asIntOf, go_sem, h1, h2, hs]
  intro hlt
  omega
end
section
variable {α : Type} [Rep α] {S : Nat → Prop} {w : World} {a : Option Addr} {xs : List α}
theorem Arr.from (h : Arr S w a xs) (c k : Nat) (hk : k ≤ xs.length) (hc : xs.length ≤ c) : Arr S w (if c = k then a else a.map (·.add (k * Rep.sz α))) (xs.drop k) := by
  by_cases hck : c = k
  · rw [if_pos hck, List.drop_of_length_le (by omega)]
    exact Arr.nil _ _ _
  · rw [if_neg hck]
    rcases h.lies with h0 | ⟨b, off, rfl, hb, -⟩
    · subst h0; simp; exact Arr.nil _ _ _
    · have := h.tail_at k b off rfl hb
      by_cases h0 : k * Rep.sz α = 0
      · rw [h0] at this ⊢; simpa [Addr.add] using this
      · simpa [Addr.add, h0] using this
theorem from_none {c k z : Nat} (hn : a = none → c = 0) : (if c = k then a else a.map (·.add (k * z))) = none → c - k = 0 := by
  intro h
  split at h
  · omega
  · cases a with
    | none => rw [hn rfl]; omega
    | some ad => cases h
/-- The value's form, its capacity's bound too, and the list that is read at it. -/
theorem Own.arrC {B : Nat} {e : TypeId} {v : Value} (h : Own S w B e v xs) : ∃ a cap, v = .slice a xs.length cap ∧ xs.length ≤ cap ∧ (a = none → cap = 0) ∧ cap ≤ maxLen ∧ Arr (fun b => S b ∨ (B ≤ b ∧ b < w.heap.size)) w a xs := by
  obtain ⟨a, cap, rfl, h1, h2, h3⟩ := h.arr
  refine ⟨a, cap, rfl, h1, h2, ?_, h3⟩
  obtain ⟨css, -, -, -, ⟨hv, -⟩ | ⟨g, cap', cur, hv, -, -, -, hm, -, -⟩⟩ := h
  · injection hv with _ _ h; subst h; exact Nat.zero_le _
  · injection hv with _ _ h; subst h; exact hm
/-- What is handed back: a list of the call's own. -/
def RetOwn (eT : TypeId) (w : World) (xs : List α) (e : Ending) (w' : World) : Prop := ∃ v, e = .returned v ∧ Own (fun _ => False) w' w.heap.size eT v xs ∧ Below w.heap.size w w'
end
/-- 's[:k]', no bound on the capacity. -/
theorem run_slice_head {P : Program} {t e : TypeId} {z : Nat} (ht : P.underlying t = some (.slice e)) (hi : (P.info? e).map (fun i => i.size) = some z) (a : Option Addr) (n c k : Nat) (hk : k ≤ c) (w : World) :
    (Instr.slice t (.slice a n c) none (some (.int .i64 (k : Int))) none).run P w = .ok (.slice a k c) w := by
  obtain ⟨i, hi, hz⟩ := Option.map_eq_some_iff.1 hi
  have h1 : (0 : Int) ≤ (k : Int) := by omega
  have h2 : (k : Int) ≤ (c : Int) := by omega
  simp [Instr.slice, Instr.sliceBounds, Instr.sliceBound, run_underlying ht, sizeOf, typeInfo, hi, asIntOf, go_sem, h1, h2]
  intro hlt
  omega
/-- 's[k:]', no bound on the capacity. -/
theorem run_slice_tail {P : Program} {t e : TypeId} {z : Nat} (ht : P.underlying t = some (.slice e)) (hi : (P.info? e).map (fun i => i.size) = some z) (a : Option Addr) (n c k : Nat) (hk : k ≤ n) (hn : n ≤ c) (w : World) :
    (Instr.slice t (.slice a n c) (some (.int .i64 (k : Int))) none none).run P w = .ok (.slice (if c = k then a else a.map (·.add (k * z))) (n - k) (c - k)) w := by
  obtain ⟨i, hi, hs⟩ := Option.map_eq_some_iff.1 hi
  have h1 : (0 : Int) ≤ (k : Int) := by omega
  have h2 : (k : Int) ≤ (n : Int) := by omega
  simp [Instr.slice, Instr.sliceBounds, Instr.sliceBound, run_underlying ht, sizeOf, typeInfo, hi, asIntOf, go_sem, h1, h2, hs]
  intro hlt
  omega
end Go.Bk
