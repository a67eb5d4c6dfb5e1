/- slices.SortFunc at pairs in a row of one's own, at whatever order of pairs, by the shelf's contract laid over this seat (SortLay). -/
import Derived.Test.YtffebdngmbbcoaaSortK
import Derived.Test.YtffebdngmbbcoaaSortLay
import Derived.Test.YtffebdngmbbcoaaTy
set_option linter.unusedVariables false
set_option linter.unusedSimpArgs false
namespace Go.Proofs.Ytffebdngmbbcoaa.lock
open Go.Bk Go.RowKit Go.Sort Go.Shelf

instance : FlatRep Api.DPair where
  enc p := [.int .i64 p.I, .int .i64 p.J]
  len _ := rfl
  det := by
    rintro S w cs x ⟨c, d, ⟨rfl, _⟩, ⟨rfl, _⟩, rfl⟩
    rfl
  move := by
    rintro S S' w w' x ⟨c, d, ⟨rfl, h1⟩, ⟨rfl, h2⟩, h3⟩
    exact ⟨[_], [_], ⟨rfl, h1⟩, ⟨rfl, h2⟩, rfl⟩
  one := by
    intro x v hv
    simp at hv
    rcases hv with rfl | rfl <;> rfl

/-- What the sort leaves. -/
def SortPost (w : World) (B : Nat) (v : Value) (ys : List Api.DPair) (e : Ending) (w' : World) : Prop :=
  e = .returned (.tuple #[]) ∧ Own (fun _ => False) w' B 58 v ys ∧ w.grownBy w' v.ownBlock
def sortBy (cf : Api.DPair → Api.DPair → Int) (l : List Api.DPair) : List Api.DPair := l.mergeSort fun x y => !(decide (cf y x < 0))
theorem sortBy_len (cf : Api.DPair → Api.DPair → Int) (l : List Api.DPair) : (sortBy cf l).length = l.length := (List.mergeSort_perm l _).length_eq
theorem sortBy_mem (cf : Api.DPair → Api.DPair → Int) (l : List Api.DPair) (p : Api.DPair) : p ∈ sortBy cf l ↔ p ∈ l := (List.mergeSort_perm l _).mem_iff
theorem sortFunc_gen {F : FuncId} {cf : Api.DPair → Api.DPair → Int} (hO : SWO (ltOf cf)) (hT : ∀ x y, ltOf cf x y = false → ltOf cf y x = false → x = y) (eg : ∀ args w, (callFunc F args).run Try.prog w = .ok (.enter F args) w)
    (hcmp : ∀ w (x y : Api.DPair), Calls Try.prog F #[.agg #[.int .i64 x.I, .int .i64 x.J], .agg #[.int .i64 y.I, .int .i64 y.J]] w fun e w' => e = .returned (.int .i64 (cf x y)) ∧ ∃ q os', w' = grow (w.drewN q) os')
    {w : World} {B : Nat} {v : Value} {xs : List Api.DPair} (hown : Own (fun _ => False) w B 58 v xs) (hlen : xs.length ≤ 1000000) :
    Calls Try.prog 53 #[v, .func (.func F) #[] #[]] w (SortPost w B v (sortBy cf xs)) := by
  have hv : (v = .slice none 0 0 ∧ xs = []) ∨ ∃ g c, v = .slice (some ⟨g, 0, none⟩) xs.length c := by
    obtain ⟨css, -, -, hl, ⟨h1, h2⟩ | ⟨g, cap, cur, he, -⟩⟩ := hown
    · exact .inl ⟨h1, List.eq_nil_of_length_eq_zero h2⟩
    · exact .inr ⟨g, cap, he⟩
  rcases hv with ⟨rfl, rfl⟩ | ⟨g, c, rfl⟩
  · refine (AnyF.slices_SortFunc_none Try.sortPairLays none 0 _ w).mono ?_
    rintro e w' ⟨rfl, rfl⟩
    exact ⟨rfl, by rw [show sortBy cf [] = [] by unfold sortBy; simp]; exact hown, World.grownBy.refl _ _⟩
  · obtain ⟨hH, hg, -, -⟩ := own_holdsK hown
    have h := AnyQ.slices_SortFunc_total Try.sortPairLays 2 Try.isAgg58 Try.sizeOf58 (FlatRep.enc (α := Api.DPair)) (fun _ => rfl) FlatRep.one cf hO F #[] g 0 c xs.toArray w eg (fun _ _ _ _ x y => hcmp _ x y) hH hg (by simp; omega) hT
    rw [List.size_toArray] at h
    refine h.mono ?_
    rintro e w' ⟨rfl, n, os, rfl⟩
    obtain ⟨h1, h2⟩ := own_sorted (ys := sortBy cf xs) (m := n) (os := os) hown (by rw [sortBy_len]) (fun y hy => (sortBy_mem cf xs y).1 hy)
    exact ⟨rfl, h1, h2⟩
end Go.Proofs.Ytffebdngmbbcoaa.lock
