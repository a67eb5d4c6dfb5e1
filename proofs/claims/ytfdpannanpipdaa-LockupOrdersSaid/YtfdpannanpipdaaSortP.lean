/- slices.SortFunc at pairs in a row of one's own, by the shelf's contract laid over this seat (XSortPairLay). -/
import Derived.Test.YtfdpannanpipdaaSortK
import Derived.Test.YtfdpannanpipdaaCmp
import Derived.Test.YtfdpannanpipdaaSortLay
set_option linter.unusedVariables false
set_option linter.unusedSimpArgs false
namespace Go.Proofs.Ytfdpannanpipdaa.lock
open Go.Bk Go.RowKit Go.Sort Go.Shelf

instance : FlatRep Api.DPair where
  enc p := [.int .i64 p.I, .int .i64 p.J]
  len _ := rfl
  det := by
    rintro S w cs x ⟨c, d, ⟨rfl, _⟩, ⟨rfl, _⟩, rfl⟩
    rfl
  move := by
    rintro S S' w w' x ⟨c, d, ⟨rfl, h1⟩, ⟨rfl, h2⟩, h3⟩
    exact ⟨[_], [_], ⟨rfl, h1⟩, ⟨rfl, h2⟩, rfl⟩
  one := by
    intro x v hv
    simp at hv
    rcases hv with rfl | rfl <;> rfl

theorem swoPair : SWO (ltOf cmpPair) where
  irrefl x := by
    rw [Bool.eq_false_iff]
    intro h
    have := (cmpPair_lt x x).1 h
    unfold ltPair at this
    omega
  trans x y z h1 h2 := by
    have h1 := (cmpPair_lt x y).1 h1
    have h2 := (cmpPair_lt y z).1 h2
    refine (cmpPair_lt x z).2 ?_
    unfold ltPair at *
    omega
  ntrans x y z h1 h2 := by
    rw [Bool.eq_false_iff] at *
    intro h
    have h := (cmpPair_lt x z).1 h
    have h1 : ¬ ltPair x y := fun h => h1 ((cmpPair_lt x y).2 h)
    have h2 : ¬ ltPair y z := fun h => h2 ((cmpPair_lt y z).2 h)
    unfold ltPair at *
    omega
theorem totalPair (x y : Api.DPair) (h1 : ltOf cmpPair x y = false) (h2 : ltOf cmpPair y x = false) : x = y := by
  rw [Bool.eq_false_iff] at *
  have h1 : ¬ ltPair x y := fun h => h1 ((cmpPair_lt x y).2 h)
  have h2 : ¬ ltPair y x := fun h => h2 ((cmpPair_lt y x).2 h)
  unfold ltPair at *
  cases x; cases y
  simp only [Api.DPair.mk.injEq] at *
  omega
/-- What the sort leaves. -/
def SortPost (w : World) (B : Nat) (v : Value) (ys : List Api.DPair) (e : Ending) (w' : World) : Prop :=
  e = .returned (.tuple #[]) ∧ Own (fun _ => False) w' B 105 v ys ∧ w.grownBy w' v.ownBlock
theorem sortFunc_any {w : World} {B : Nat} {v : Value} {xs : List Api.DPair} (hown : Own (fun _ => False) w B 105 v xs) (hlen : xs.length ≤ 1000000) :
    Calls Try.prog 106 #[v, .func (.func 107) #[] #[]] w (SortPost w B v (sortPairs xs)) := by
  have hv : (v = .slice none 0 0 ∧ xs = []) ∨ ∃ g c, v = .slice (some ⟨g, 0, none⟩) xs.length c := by
    obtain ⟨css, -, -, hl, ⟨h1, h2⟩ | ⟨g, cap, cur, he, -⟩⟩ := hown
    · exact .inl ⟨h1, List.eq_nil_of_length_eq_zero h2⟩
    · exact .inr ⟨g, cap, he⟩
  rcases hv with ⟨rfl, rfl⟩ | ⟨g, c, rfl⟩
  · refine (AnyF.slices_SortFunc_none Try.sortPairLays none 0 _ w).mono ?_
    rintro e w' ⟨rfl, rfl⟩
    exact ⟨rfl, by rw [show sortPairs [] = [] by unfold sortPairs; simp]; exact hown, World.grownBy.refl _ _⟩
  · obtain ⟨hH, hg, -, -⟩ := own_holdsK hown
    have eg : ∀ args w, (callFunc 107 args).run Try.prog w = .ok (.enter 107 args) w := enters_of Try.func107 (by kernel_rfl) rfl
    have h := AnyQ.slices_SortFunc_total Try.sortPairLays 2 Try.isAgg105 Try.sizeOf105 (FlatRep.enc (α := Api.DPair)) (fun _ => rfl) FlatRep.one cmpPair swoPair 107 #[] g 0 c xs.toArray w eg (fun _ _ _ _ x y => byPair_any _ x y) hH hg (by simp; omega) totalPair
    rw [List.size_toArray] at h
    refine h.mono ?_
    rintro e w' ⟨rfl, n, os, rfl⟩
    obtain ⟨h1, h2⟩ := own_sorted (ys := sortPairs xs) (m := n) (os := os) hown (by rw [sortPairs_len]) (fun y hy => (sortPairs_mem xs y).1 hy)
    exact ⟨rfl, h1, h2⟩
end Go.Proofs.Ytfdpannanpipdaa.lock
