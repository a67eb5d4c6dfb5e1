/- slices.SortFunc at heads of loops in a row of one's own, at whatever order of heads, by the shelf's contract laid over this seat (SortLayH). -/
import Derived.Test.YtjlnaiiajlahgaaSortK
import Derived.Test.YtjlnaiiajlahgaaSortLayH
import Derived.Test.YtjlnaiiajlahgaaTy
set_option linter.unusedVariables false
set_option linter.unusedSimpArgs false
namespace Go.Proofs.Ytjlnaiiajlahgaa.heat
open Go.Bk Go.RowKit Go.Sort Go.Shelf

instance : FlatRep Api.THead where
  enc p := [.int .i64 p.Fn, .int .i64 p.At, .int .i64 p.Count, .int .i64 p.Limit, .int .i64 p.Fails, .int .i64 p.Is]
  len _ := rfl
  det := by
    intro S w cs x h
    exact (api_THead_cells_eq h).1
  move := by
    intro S S' w w' x h
    obtain ⟨-, h0, h1, h2, h3, h4, h5⟩ := api_THead_cells_eq h
    exact api_THead_cells_mk h0 h1 h2 h3 h4 h5
  one := by
    intro x v hv
    simp at hv
    rcases hv with rfl | rfl | rfl | rfl | rfl | rfl <;> rfl

/-- What the sort leaves. -/
def SortPost (lt : Api.THead → Api.THead → Bool) (w : World) (B : Nat) (v : Value) (xs : List Api.THead) (e : Ending) (w' : World) : Prop :=
  e = .returned (.tuple #[]) ∧ ∃ ys, ys.Perm xs ∧ ys.Pairwise (fun x y => lt y x = false) ∧ Own (fun _ => False) w' B 60 v ys ∧ w.grownBy w' v.ownBlock
theorem sorted_list {lt : Api.THead → Api.THead → Bool} {d d' : Array Api.THead} (hp : PermIn 0 d.size d d') (hs : SortedIn lt 0 d.size d') : d'.toList.Perm d.toList ∧ d'.toList.Pairwise (fun x y => lt y x = false) := by
  obtain ⟨hsz, _, hperm⟩ := hp
  have e1 : d'.extract 0 d.size = d' := by rw [← hsz]; exact Array.extract_size
  rw [e1, Array.extract_size] at hperm
  refine ⟨hperm, ?_⟩
  rw [List.pairwise_iff_getElem]
  intro i j hi hj hij
  have hi' : i < d'.size := by simpa using hi
  have hj' : j < d'.size := by simpa using hj
  have := hs i j (Nat.zero_le _) hij (by omega)
  rw [getElem!_pos d' j hj', getElem!_pos d' i hi'] at this
  simpa using this
theorem sortFunc_gen {F : FuncId} {cf : Api.THead → Api.THead → Int} (hO : SWO (ltOf cf)) (eg : ∀ args w, (callFunc F args).run Try.prog w = .ok (.enter F args) w)
    (hcmp : ∀ w (x y : Api.THead), Calls Try.prog F #[.agg #[.int .i64 x.Fn, .int .i64 x.At, .int .i64 x.Count, .int .i64 x.Limit, .int .i64 x.Fails, .int .i64 x.Is], .agg #[.int .i64 y.Fn, .int .i64 y.At, .int .i64 y.Count, .int .i64 y.Limit, .int .i64 y.Fails, .int .i64 y.Is]] w fun e w' => e = .returned (.int .i64 (cf x y)) ∧ ∃ q os', w' = grow (w.drewN q) os')
    {w : World} {B : Nat} {v : Value} {xs : List Api.THead} (hown : Own (fun _ => False) w B 60 v xs) (hlen : xs.length ≤ 1000000) :
    Calls Try.prog 49 #[v, .func (.func F) #[] #[]] w (SortPost (ltOf cf) w B v xs) := by
  have hv : (v = .slice none 0 0 ∧ xs = []) ∨ ∃ g c, v = .slice (some ⟨g, 0, none⟩) xs.length c := by
    obtain ⟨css, -, -, hl, ⟨h1, h2⟩ | ⟨g, cap, cur, he, -⟩⟩ := hown
    · exact .inl ⟨h1, List.eq_nil_of_length_eq_zero h2⟩
    · exact .inr ⟨g, cap, he⟩
  rcases hv with ⟨rfl, rfl⟩ | ⟨g, c, rfl⟩
  · refine (AnyF.slices_SortFunc_none Try.sortHeadLays none 0 _ w).mono ?_
    rintro e w' ⟨rfl, rfl⟩
    exact ⟨rfl, [], List.Perm.refl _, List.Pairwise.nil, hown, World.grownBy.refl _ _⟩
  · obtain ⟨hH, hg, -, -⟩ := own_holdsK hown
    have h := AnyQ.slices_SortFunc Try.sortHeadLays 6 Try.isAgg60 Try.sizeOf60 (FlatRep.enc (α := Api.THead)) (fun _ => rfl) FlatRep.one cf hO F #[] g 0 c xs.toArray w eg (fun _ _ _ _ x y => hcmp _ x y) hH hg (by simp; omega)
    rw [List.size_toArray] at h
    refine h.mono ?_
    rintro e w' ⟨rfl, d', n, os, hp, hs, rfl⟩
    have hl := sorted_list (d := xs.toArray) (by rw [List.size_toArray]; exact hp) (by rw [List.size_toArray]; exact hs)
    obtain ⟨h1, h2⟩ := own_sorted (ys := d'.toList) (m := n) (os := os) hown hl.1.length_eq (fun y hy => hl.1.mem_iff.1 hy)
    rw [Array.toArray_toList] at h1 h2
    exact ⟨rfl, d'.toList, hl.1, hl.2, h1, h2⟩
end Go.Proofs.Ytjlnaiiajlahgaa.heat
