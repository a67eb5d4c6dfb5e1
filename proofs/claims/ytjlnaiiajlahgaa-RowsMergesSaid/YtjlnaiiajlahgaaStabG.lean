/- rows.byStep, slices.IsSortedFunc, slices.SortStableFunc at events in a row of one's own. -/
import Derived.Test.YtjlnaiiajlahgaaStabF
import Derived.Test.YtjlnaiiajlahgaaSortK
import Derived.Test.YtjlnaiiajlahgaaCmpG
import Derived.Test.YtjlnaiiajlahgaaTy
import Derived.Deep.QuietTactic
set_option linter.unusedVariables false
set_option linter.unusedSimpArgs false
namespace Go.Proofs.Ytjlnaiiajlahgaa.stab
open Go.Bk Go.RowKit Go.Sort Go.Shelf Go.Bk.Stab Go.Proofs Go.Proofs.Ytjlnaiiajlahgaa.lock

instance : FlatRep Api.Event where
  enc p := [.int .i64 p.Kind, .int .i64 p.Step, .int .i64 p.Thread, .int .i64 p.Fn, .int .i64 p.At, .int .i64 p.Line, .int .i64 p.A, .int .i64 p.B, .int .i64 p.Val.Kind, .int .i64 p.Val.N, .int .i64 p.Old.Kind, .int .i64 p.Old.N]
  len _ := rfl
  det := by
    intro S w cs x h
    exact (api_Event_cells_eq h).1
  move := by
    intro S S' w w' x h
    obtain ⟨-, h0, h1, h2, h3, h4, h5, h6, h7, h8, h9, h10, h11⟩ := api_Event_cells_eq h
    exact api_Event_cells_mk h0 h1 h2 h3 h4 h5 h6 h7 h8 h9 h10 h11
  one := by
    intro x v hv
    simp at hv
    rcases hv with rfl | rfl | rfl | rfl | rfl | rfl | rfl | rfl | rfl | rfl | rfl | rfl <;> rfl
abbrev evC (p : Api.Event) : List Value := FlatRep.enc p
theorem mlay : MLay Try.prog 12 where
  mixed := by kernel_rfl
  fStable := Try.func58
  fIns := Try.func62
  fSym := Try.func63
  fRot := Try.func74
  fSwap := Try.func80
  eIns := fun _ _ => by simp
  eSym := fun _ _ => by simp
  eRot := fun _ _ => by simp
  eSwap := fun _ _ => by simp
  t3 := Try.underlying3
  a3 := Try.isAgg3
  z3 := Try.sizeOf3
  v3 := Try.zeroValue3
  t4 := Try.underlying4
  a4 := Try.isAgg4
  z4 := Try.sizeOf4
  t22 := Try.underlying40
  a22 := Try.isAgg40
  z22 := Try.sizeOf40
  t25 := Try.underlying82
  a25 := Try.isAgg82
  z25 := Try.sizeOf82
  t26 := Try.underlying106
  a26 := Try.isAgg106
  z26 := Try.sizeOf106
  aE := Try.isAgg81
  zE := Try.sizeOf81
def cmpS (x y : Api.Event) : Int := cmp3 x.Step y.Step
theorem cmpS_lt (x y : Api.Event) : cmpS x y < 0 ↔ x.Step < y.Step := by
  unfold cmpS cmp3
  split
  · constructor <;> intro <;> omega
  · split <;> constructor <;> intro <;> omega
set_option maxRecDepth 100000 in
set_option maxHeartbeats 1000000 in
theorem byStep_any (w : World) (x y : Api.Event) : Calls Try.prog 45 #[.agg (evC x).toArray, .agg (evC y).toArray] w fun e w' => e = .returned (.int .i64 (cmpS x y)) ∧ ∃ q os', w' = grow (w.drewN q) os' := by
  show Calls _ _ _ _ fun e w' => e = .returned (.int .i64 (cmp3 x.Step y.Step)) ∧ ∃ q os', w' = grow (w.drewN q) os'
  have HC : Hid (∀ x y w, Calls Try.prog 52 #[.int .i64 x, .int .i64 y] w fun e w' => e = .returned (.int .i64 (cmp3 x y)) ∧ w = w') := fun x y w => compare_any w x y
  obtain ⟨k0, k1, k2, k3, k4, k5, k6, k7, ⟨k8, k9⟩, ⟨k10, k11⟩⟩ := x
  obtain ⟨j0, j1, j2, j3, j4, j5, j6, j7, ⟨j8, j9⟩, ⟨j10, j11⟩⟩ := y
  show Calls Try.prog 45 #[.agg #[.int .i64 k0, .int .i64 k1, .int .i64 k2, .int .i64 k3, .int .i64 k4, .int .i64 k5, .int .i64 k6, .int .i64 k7, .int .i64 k8, .int .i64 k9, .int .i64 k10, .int .i64 k11], .agg #[.int .i64 j0, .int .i64 j1, .int .i64 j2, .int .i64 j3, .int .i64 j4, .int .i64 j5, .int .i64 j6, .int .i64 j7, .int .i64 j8, .int .i64 j9, .int .i64 j10, .int .i64 j11]] w fun e w' => e = .returned (.int .i64 (cmp3 k1 j1)) ∧ ∃ q os', w' = grow (w.drewN q) os'
  go_enter Try.func45, Try.ntmps45
  go_wp2_with (go_at_call 52; (with_reducible refine (HC.out _ _ _).mono ?_); rintro e w' ⟨rfl, rfl⟩)
  go_ret
  exact ⟨rfl, 0, _, by rw [alloc_eq_grow, alloc_eq_grow, grow_grow]; rfl⟩
set_option maxRecDepth 100000 in
theorem ins_none (w : World) (fv : Value) : Calls Try.prog 62 #[.slice none 0 0, .int .i64 0, .int .i64 0, fv] w fun e w' => e = .returned (.tuple #[]) ∧ w = w' := by
  go_enter Try.func62, Try.ntmps62
  go_wp2_with fail
  refine wp_loop_once ?_
  go_wp2_with fail
  go_end0
  exact ⟨rfl, rfl⟩
set_option maxRecDepth 100000 in
theorem stable_none (w : World) (fv : Value) : Calls Try.prog 47 #[.slice none 0 0, fv] w fun e w' => e = .returned (.tuple #[]) ∧ w = w' := by
  have H : Hid (∀ w, Calls Try.prog 62 #[.slice none 0 0, .int .i64 0, .int .i64 0, fv] w fun e w' => e = .returned (.tuple #[]) ∧ w = w') := fun w => ins_none w fv
  have H2 : Hid (Calls Try.prog 58 #[.slice none 0 0, .int .i64 0, fv] w fun e w' => e = .returned (.tuple #[]) ∧ w = w') := by
    show Calls _ _ _ _ _
    go_enter Try.func58, Try.ntmps58
    go_wp2_with fail
    refine wp_loop_once ?_
    go_wp2_with (go_at_call 62; (with_reducible refine (H.out _).mono ?_); rintro e w' ⟨rfl, rfl⟩)
    refine wp_loop_once ?_
    go_wp2_with fail
    go_end0
    exact ⟨rfl, rfl⟩
  go_enter Try.func47, Try.ntmps47
  go_wp2_with (go_at_call 58; (with_reducible refine H2.out.mono ?_); rintro e w' ⟨rfl, rfl⟩)
  go_end0
  exact ⟨rfl, rfl⟩
/-- What a stable sort leaves. -/
def StabPost (w : World) (B : Nat) (v : Value) (xs : List Api.Event) (e : Ending) (w' : World) : Prop :=
  e = .returned (.tuple #[]) ∧ ∃ ys, ys.length = xs.length ∧ ys.Pairwise (fun x y => x.Step ≤ y.Step) ∧ (∀ K, Fil (fun x : Api.Event => x.Step) K ys = Fil (fun x => x.Step) K xs) ∧ Go.Bk.Own (fun _ => False) w' B 81 v ys ∧ w.grownBy w' v.ownBlock
set_option maxRecDepth 100000 in
theorem sortStable_any {w : World} {B : Nat} {v : Value} {xs : List Api.Event} (hown : Go.Bk.Own (fun _ => False) w B 81 v xs) (hlen : xs.length ≤ 100000) :
    Calls Try.prog 47 #[v, .func (.func 45) #[] #[]] w (StabPost w B v xs) := by
  have hv : (v = .slice none 0 0 ∧ xs = []) ∨ ∃ g c, v = .slice (some ⟨g, 0, none⟩) xs.length c := by
    obtain ⟨css, -, -, hl, ⟨h1, h2⟩ | ⟨g, cap, cur, he, -⟩⟩ := hown
    · exact .inl ⟨h1, List.eq_nil_of_length_eq_zero h2⟩
    · exact .inr ⟨g, cap, he⟩
  rcases hv with ⟨rfl, rfl⟩ | ⟨g, c, rfl⟩
  · refine (stable_none w _).mono ?_
    rintro e w' ⟨rfl, rfl⟩
    exact ⟨rfl, [], rfl, List.Pairwise.nil, fun _ => rfl, hown, World.grownBy.refl _ _⟩
  · obtain ⟨hH, hg, -, -⟩ := own_holdsK hown
    have R : RowK evC 12 w g 0 xs.toArray := ⟨fun _ => rfl, FlatRep.one, hH, hg⟩
    have h := stable_any (cap := c) mlay R (key := fun x : Api.Event => x.Step) cmpS_lt (g := 45) (fun _ _ => by simp) (fun m os dk _ x y => byStep_any _ x y) (SWK.start hH) (by simp) (by simp) hlen
    have HST := Lib.hid h
    have HOW := Lib.hid hown
    clear h hown R hH
    go_enter Try.func47, Try.ntmps47
    go_wp2_with (go_at_call 58; (with_reducible refine HST.out.mono ?_); rintro e w' ⟨rfl, d', ⟨n, os, hw⟩, h2, h3, h4⟩; subst hw)
    go_end0
    have hl : d'.toList.length = xs.length := by rw [Array.length_toList]; exact h2
    have hmem : ∀ y ∈ d'.toList, y ∈ xs := fun y hy => by
      obtain ⟨t, ht⟩ := List.getElem?_of_mem hy
      have htl := (List.getElem?_eq_some_iff.1 ht).1
      rw [Array.length_toList] at htl
      rw [get_toList d' t htl] at ht
      obtain ⟨s, -, s2, s3⟩ := h3.inn t (Nat.zero_le _) (by omega)
      have e1 := get_toList xs.toArray s (by simpa using s2)
      rw [List.toList_toArray] at e1
      obtain rfl := Option.some.inj ht
      rw [s3]
      exact List.mem_of_getElem? e1
    obtain ⟨k1, k2⟩ := own_sorted (ys := d'.toList) (m := n) (os := os) HOW.out hl hmem
    rw [Array.toArray_toList] at k1 k2
    have h5 := SR.list (d := d') (by rw [h2]; exact h4)
    exact ⟨rfl, d'.toList, hl, h5, fun K => by rw [h3.fil K, List.toList_toArray], k1, k2⟩
end Go.Proofs.Ytjlnaiiajlahgaa.stab
