/- General: append of one number to a row of one's own, where the row itself is still read afterwards. No program is named here. -/
import Derived.Test.YtjlnaiiajlahgaaDoorMore
import Derived.ArgAppend
set_option linter.unusedVariables false
set_option linter.unusedSimpArgs false
namespace Go.Bk
open Go.RowKit

section
variable {P : Program} {w : World} {B : Nat} {e : TypeId} {v : Value} {xs : List Int}
def intsV (xs : List Int) : List Value := xs.map fun x => .int .i64 x
theorem flat_ints : ∀ (xs : List Int), (xs.map fun x => [Value.int .i64 x]).flatten = intsV xs
  | [] => rfl
  | x :: xs => by
    have := flat_ints xs
    simp [intsV] at this ⊢
    exact this
theorem own_int_row (h : Own (fun _ => False) w B e v xs) : w.ownsRow B e 1 v xs.length (intsV xs) ∧ ∀ x ∈ xs, I64 x := by
  obtain ⟨css, h1, h2, ho⟩ := h
  have hc : ∀ (k : Nat) (x : Int) (cs : List Value), xs[k]? = some x → css[k]? = some cs → cs = [.int .i64 x] ∧ I64 x := fun k x cs hx hcs => h2 k x cs hx hcs
  have hcss : css = xs.map fun x => [Value.int .i64 x] := by
    refine List.ext_getElem? fun k => ?_
    rw [List.getElem?_map]
    cases hk : xs[k]? with
    | none =>
      have : css[k]? = none := by
        rw [List.getElem?_eq_none_iff] at hk ⊢
        omega
      simp [this]
    | some x =>
      have hlt : k < css.length := by rw [h1]; exact (List.getElem?_eq_some_iff.1 hk).1
      rw [List.getElem?_eq_getElem hlt]
      simp
      exact (hc k x _ hk (List.getElem?_eq_getElem hlt)).1
  subst hcss
  rw [flat_ints] at ho
  refine ⟨ho, fun x hx => ?_⟩
  obtain ⟨k, hk⟩ := List.getElem?_of_mem hx
  exact (hc k x _ hk (by rw [List.getElem?_map, hk]; rfl)).2
theorem own_int_mk (h : w.ownsRow B e 1 v xs.length (intsV xs)) (hi : ∀ x ∈ xs, I64 x) : Own (fun _ => False) w B e v xs := by
  refine ⟨xs.map fun x => [Value.int .i64 x], by simp, fun k x cs hx hcs => ?_, by rw [flat_ints]; exact h⟩
  rw [List.getElem?_map, hx] at hcs
  obtain rfl := Option.some.inj hcs
  exact ⟨rfl, hi x (List.mem_of_getElem? hx)⟩
theorem row_prefix {g n cap : Nat} {vs : List Value} {u : Value} (h : w.ownsRow B e 1 (.slice (some ⟨g, 0, none⟩) (n + 1) cap) (n + 1) (vs ++ [u])) : w.ownsRow B e 1 (.slice (some ⟨g, 0, none⟩) n cap) n vs := by
  obtain ⟨hl, ⟨h, -⟩ | ⟨g', cap', cur, he, hg, hh, hle, hm, hcs, ht⟩⟩ := h
  · cases h
  · injection he with e1 e2 e3
    injection e1 with e1
    injection e1 with e1
    subst e1 e3
    simp at hl
    refine ⟨by omega, .inr ⟨g, cap, cur, rfl, hg, hh, by omega, hm, hcs, ?_⟩⟩
    have := congrArg (List.take n) ht
    rw [List.take_take, List.take_left' (by omega)] at this
    rw [Nat.mul_one, ← this]
    congr 1
    omega
theorem run_append_keep {t ty : TypeId} {z : Value} {bytes : Nat} (ht : P.underlying t = some (.slice e)) (hi : (P.info? e).map (fun i => (i.zero, i.size, i.bytes)) = some (some z, 1, bytes)) (hz : z.cells.size = 1) {y : Int} (hown : Own (fun _ => False) w B e v xs) (hy : I64 y)
    {gb : Nat} {c : Nat} (hbox : w.cell? ⟨gb, 0, none⟩ = some (.int .i64 y)) (hxs : xs.length ≤ 1000000) (hb : bytes ≤ 1000) (hB : B ≤ w.heap.size) :
    ∃ v' w', (Builtin.append_ #[t, t] ty #[v, .slice (some ⟨gb, 0, none⟩) 1 c]).run P w = .ok v' w' ∧ Own (fun _ => False) w' B e v xs ∧ Own (fun _ => False) w' B e v' (xs ++ [y]) ∧ w.grownBy w' v.ownBlock := by
  obtain ⟨i, hi, hz0, hz1, hz2⟩ := info_parts hi
  obtain ⟨hrow, hxi⟩ := own_int_row hown
  have hnews : ∀ (j : Nat) (u : Value), [Value.int .i64 y][j]? = some u → w.cell? ((⟨gb, 0, none⟩ : Addr).add j) = some u := fun j u hu => by
    match j, hu with
    | 0, hu => obtain rfl := Option.some.inj hu
               rw [Addr.add_lit]
               exact hbox
  have hone : ∀ u ∈ [Value.int .i64 y], u.oneCell' = true := fun u hu => by simp at hu; subst hu; rfl
  have hby : (xs.length + 1) * bytes ≤ 140737488355328 := Nat.le_trans (Nat.mul_le_mul (show xs.length + 1 ≤ 1000001 by omega) hb) (by decide)
  obtain ⟨v', w', hr, ho', hg, -⟩ := run_append_own (P := P) w B t ty e i z 1 bytes ht hi hz0 hz1 hz2 hz (by decide) v xs.length (intsV xs) hrow ⟨gb, 0, none⟩ 1 c [.int .i64 y] rfl hnews hone (by unfold maxLen; omega) hby hB
  have ho2 : Own (fun _ => False) w' B e v' (xs ++ [y]) := own_int_mk (by simpa [intsV] using ho') (fun x hx => by
    rcases List.mem_append.1 hx with h | h
    · exact hxi x h
    · simp at h; subst h; exact hy)
  refine ⟨v', w', hr, ?_, ho2, hg⟩
  obtain ⟨hl, ⟨rfl, hn⟩ | ⟨g, cap, cur, rfl, hgB, hh, hle, hm, hcs, ht'⟩⟩ := hrow
  · obtain rfl : xs = [] := List.eq_nil_of_length_eq_zero hn
    exact Own.nil _ _ _ _
  · by_cases hroom : xs.length + 1 ≤ cap
    · have hr2 := run_append_room_cells (P := P) w t ty e i ht hi g 0 xs.length cap ⟨gb, 0, none⟩ 1 c [.int .i64 y] (by rw [hz1]; rfl) hnews hone hroom (fun j hj => by
        obtain rfl : j = 0 := by simp at hj; exact hj
        rw [hz1]
        simp [World.cell?, hh]
        omega) (fun j hj => by simp [World.frozen?, hh])
      rw [hr] at hr2
      injection hr2 with e1 e2
      subst e1
      refine own_int_mk ?_ hxi
      exact row_prefix (by simpa [intsV] using ho')
    · obtain ⟨v2, w2, hr2, -, hg2⟩ := run_append_arg_grows (P := P) w t ty e i z 1 bytes ht hi hz0 hz1 hz2 hz (by decide) ⟨g, 0, none⟩ xs.length cap (intsV xs) (by simp [intsV]) (fun j u hu => by
        rw [Addr.add_lit, Nat.zero_add, ← ht', List.getElem?_take] at *
        split at hu
        · simpa [World.cell?, hh] using hu
        · cases hu) ⟨gb, 0, none⟩ 1 c [.int .i64 y] rfl hnews (by omega) (by unfold maxLen; omega) hby
      rw [hr] at hr2
      injection hr2 with e1 e2
      subst e1 e2
      exact hown.keep hg2 (.inr (by simp [Value.ownBlock])) (fun _ h => h.elim)
end
end Go.Bk
