/- General, plain: two rising lists with the same elements are one. No program is named here. -/
import Derived.Test.YtjlnaiiajlahgaaMore
set_option linter.unusedVariables false
set_option linter.unusedSimpArgs false
namespace Go.Bk

theorem rising_ext {α : Type} {lt : α → α → Prop} (hirr : ∀ x, ¬ lt x x) (hasym : ∀ x y, lt x y → ¬ lt y x) : ∀ {l m : List α}, l.Pairwise lt → m.Pairwise lt → (∀ x, x ∈ l ↔ x ∈ m) → l = m
  | [], [], _, _, _ => rfl
  | [], b :: m, _, _, h => by have := (h b).2 (by simp); simp at this
  | a :: l, [], _, _, h => by have := (h a).1 (by simp); simp at this
  | a :: l, b :: m, hl, hm, h => by
    rw [List.pairwise_cons] at hl hm
    have hab : a = b := by
      have h1 := (h a).1 (by simp)
      have h2 := (h b).2 (by simp)
      rcases List.mem_cons.1 h1 with e | h1
      · exact e
      · rcases List.mem_cons.1 h2 with e | h2
        · exact e.symm
        · exact absurd (hm.1 a h1) (hasym _ _ (hl.1 b h2))
    subst hab
    rw [rising_ext hirr hasym hl.2 hm.2 fun x => ?_]
    constructor
    · intro hx
      rcases List.mem_cons.1 ((h x).1 (List.mem_cons_of_mem _ hx)) with e | h2
      · subst e; exact absurd (hl.1 x hx) (hirr x)
      · exact h2
    · intro hx
      rcases List.mem_cons.1 ((h x).2 (List.mem_cons_of_mem _ hx)) with e | h2
      · subst e; exact absurd (hm.1 x hx) (hirr x)
      · exact h2
end Go.Bk
