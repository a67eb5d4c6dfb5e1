/- slices.Delete at ints: one number is taken out of a row of one's own; by the shelf's contract, laid over this seat (XDeleteLay). slices.Index at ints, to the place. -/
import Derived.Test.YtfdpannanpipdaaCells
import Derived.Test.YtfdpannanpipdaaApart
import Derived.Test.YtfdpannanpipdaaDeleteLay
import Derived.Test.YtfdpannanpipdaaContains
set_option linter.unusedVariables false
set_option linter.unusedSimpArgs false
namespace Go.Proofs.Ytfdpannanpipdaa
open Go.Bk Go.RowKit

theorem splice_len' {α : Type} {L : List α} {o : Nat} {cs : List α} (h : o + cs.length ≤ L.length) : (splice L o cs).length = L.length := by
  unfold splice; simp; omega
theorem Below.grown' {N : Nat} {w w' : World} (h : Below N w w') (hN : w.heap.size ≤ N) (g : Nat) : w.grownBy w' (some g) := ⟨h.os, h.tape, h.output, h.size, fun k hk _ => h.block k (by omega)⟩
/-- One number taken out: the row is where it was. -/
def DelPost (w : World) (B : Nat) (v : Value) (zs : List Int) (e : Ending) (w' : World) : Prop :=
  ∃ v', e = .returned v' ∧ Own (fun _ => False) w' B 3 v' zs ∧ w.grownBy w' v.ownBlock ∧ Stay w v v'
theorem delete_any {w : World} {B k n : Nat} {v : Value} {xs : List Int} (hown : Own (fun _ => False) w B 3 v xs) (hn : xs.length = n) (hk : k < n) :
    Calls Try.prog 105 #[v, .int .i64 (k : Nat), .int .i64 ((k + 1 : Nat) : Int)] w (DelPost w B v (xs.eraseIdx k)) := by
  subst hn
  have hi := own_i64 hown
  rcases own_cells hown with ⟨rfl, rfl⟩ | ⟨g, c, cs, rfl, hg, hb, hcl, hnc, hcm, ht⟩
  · simp at hk
  have hcell : ∀ j, j < xs.length → w.cell? ⟨g, 0 + j, none⟩ = some (.int .i64 (xs.getD j 0)) := fun j hj => by
    rw [Nat.zero_add]
    refine hb.cell ?_
    have h1 : (cs.take xs.length)[j]? = (intsV xs)[j]? := by rw [ht]
    rw [List.getElem?_take_of_lt hj] at h1
    rw [h1, intsV, List.getElem?_map, List.getElem?_eq_getElem hj, List.getD_eq_getElem?_getD, List.getElem?_eq_getElem hj]
    rfl
  have h := Any.slices_Delete_int_cells Try.deleteLays g 0 xs.length c k (k + 1) xs w (Nat.le_refl _) hnc (by unfold maxLen at hcm; omega) (by omega) (by omega) hcell (fun j _ => hb.frozen _)
  refine h.mono ?_
  rintro e w' ⟨rfl, q, rfl⟩
  have he : (xs.take xs.length).take k ++ (xs.take xs.length).drop (k + 1) ++ List.replicate (k + 1 - k) 0 = xs.eraseIdx k ++ [0] := by
    rw [List.take_of_length_le (Nat.le_refl _), List.eraseIdx_eq_take_drop_succ, show k + 1 - k = 1 by omega]; rfl
  rw [he, show k + 1 - k = 1 by omega]
  have hel : (xs.eraseIdx k).length = xs.length - 1 := by rw [List.length_eraseIdx]; simp [hk]
  have hb2 : Blk (w.drewN q) g 3 cs := hb
  have hb3 := Blk.setCells ((xs.eraseIdx k ++ [0]).map (Value.int .i64)) 0 _ _ hb2 (by simp [hel]; omega)
  refine ⟨_, rfl, own_of_cells hg hb3 (by rw [splice_len' (by simp [hel]; omega)]; exact hcl) (by omega) hcm hel ?_ (fun z hz => hi z (List.mem_of_mem_eraseIdx hz)), ?_, fun k hk => .inl hk⟩
  · unfold splice
    rw [List.take_zero, List.nil_append, List.map_append, List.append_assoc, List.take_append_of_le_length (by simp [hel]), List.take_of_length_le (by simp [hel])]
    rfl
  · exact grownBy_setCells _ _ _ (Below.grown' (Quiet.below ⟨q, rfl⟩ w.heap.size) (Nat.le_refl _) g)

/-- The first place where it stands. -/
def IdxPost (xs : List Int) (x : Int) (w : World) (e : Ending) (w' : World) : Prop :=
  ((∃ k : Nat, e = .returned (.int .i64 k) ∧ xs[k]? = some x ∧ x ∉ xs.take k) ∨ (e = .returned (.int .i64 (-1)) ∧ x ∉ xs)) ∧ w = w'
set_option maxRecDepth 100000 in
theorem index_at {S : Nat → Prop} {w : World} {a : Option Addr} {c n : Nat} {xs : List Int} {x : Int} (hn : xs.length = n) (h : Arr S w a xs) :
    Calls Try.prog 104 #[.slice a n c, .int .i64 x] w (IdxPost xs x w) := by
  have hm := h.small
  rw [hn] at hm
  unfold maxLen at hm
  have HN := Lib.hid hn
  clear hn
  go_enter Try.func104, Try.ntmps104
  go_wp2
  go_loopw [8] (fun i w' => ∃ k : Nat, k ≤ n ∧ i = .int .i64 k ∧ x ∉ xs.take k ∧ w = w') (fun i _ => n - (intOf i).toNat)
  case atStart => exact ⟨0, Nat.zero_le _, rfl, by simp, rfl⟩
  case round =>
    obtain ⟨k, hk, rfl, hni, rfl⟩ := hrel
    have HNI := Lib.hid hni
    clear hni
    by_cases hlt : k < n
    · obtain ⟨y, hy⟩ : ∃ y, xs[k]? = some y := ⟨_, List.getElem?_eq_getElem (by have := HN.out; omega)⟩
      obtain ⟨b1, o1, rfl, -, q1, hi⟩ := arr_int h hy
      have HY := Lib.hid hy
      clear hy h hi
      by_cases he : x = y
      · have he2 : (x == y) = true := by simpa using he
        have HE := Lib.hid he
        clear he
        go_wp2
        go_ret
        exact ⟨.inl ⟨k, rfl, by rw [HE.out]; exact HY.out, HNI.out⟩, rfl⟩
      · have he2 : (x == y) = false := by simpa using he
        have HE := Lib.hid he
        clear he
        go_wp2
        go_roundw
        case rel => exact ⟨k + 1, by omega, by go_num, has.notin_succ HNI.out HY.out (fun e => HE.out e.symm), by trivial⟩
        case measure => simp [intOf]; omega
    · obtain rfl : k = n := by omega
      go_wp2
      go_ret
      have h1 := HNI.out
      rw [← HN.out] at h1
      exact ⟨.inr ⟨rfl, has.notin_all h1⟩, rfl⟩
end Go.Proofs.Ytfdpannanpipdaa
