/- Plain: words in steps (Foata's form): by the least step that each may come into, or layer by layer. -/
import Derived.Test.YtfdpannanpipdaaLib
set_option linter.unusedVariables false
set_option linter.unusedSimpArgs false
namespace Go.Proofs.Ytfdpannanpipdaa.norm
open Go.Bk Go.RowKit

/-- All lists here stand in reverse: the last letter first. The least step that a letter may come into. -/
def nx (D : Int → Int → Bool) : List Int → Int → Nat
  | [], _ => 0
  | x :: r, a => if D x a then max (nx D r a) (nx D r x + 1) else nx D r a
/-- How many steps. -/
def ht (D : Int → Int → Bool) : List Int → Nat
  | [] => 0
  | x :: r => max (ht D r) (nx D r x + 1)
def cnt (x : Int) (l : List Int) : Nat := l.countP fun y => decide (y < x)
/-- Put in where it belongs. -/
def ins (x : Int) (l : List Int) : List Int := l.take (cnt x l) ++ x :: l.drop (cnt x l)
def lay (D : Int → Int → Bool) : List Int → Nat → List Int
  | [], _ => []
  | x :: r, s => if nx D r x = s then ins x (lay D r s) else lay D r s
def outs (D : Int → Int → Bool) (r : List Int) : List (List Int) := (List.range (ht D r)).map (lay D r)
def free (D : Int → Int → Bool) (r : List Int) (x : Int) : Bool := r.all fun y => !D y x
/-- The free letters, in order; the others, in order. -/
def stepOf (D : Int → Int → Bool) : List Int → List Int
  | [] => []
  | x :: r => if free D r x then stepOf D r ++ [x] else stepOf D r
def restOf (D : Int → Int → Bool) : List Int → List Int
  | [] => []
  | x :: r => if free D r x then restOf D r else restOf D r ++ [x]
def srt (l : List Int) : List Int := l.foldl (fun acc x => ins x acc) []

theorem nx_le (D : Int → Int → Bool) (r : List Int) (a : Int) : nx D r a ≤ ht D r := by
  induction r with
  | nil => simp [nx, ht]
  | cons x r ih =>
    unfold nx ht
    split <;> omega
theorem free_nx (D : Int → Int → Bool) (r : List Int) (a : Int) : free D r a = true ↔ nx D r a = 0 := by
  induction r with
  | nil => simp [free, nx]
  | cons x r ih =>
    unfold free at ih ⊢
    unfold nx
    rw [List.all_cons, Bool.and_eq_true, ih]
    cases hD : D x a with
    | true => simp
    | false => simp
theorem rest_nx (D : Int → Int → Bool) (r : List Int) : (∀ a, nx D (restOf D r).reverse a = nx D r a - 1) ∧ ht D (restOf D r).reverse = ht D r - 1 := by
  induction r with
  | nil => exact ⟨fun a => rfl, rfl⟩
  | cons x r ih =>
    obtain ⟨h1, h2⟩ := ih
    have hx := nx_le D r x
    by_cases hf : free D r x = true
    · have h0 := (free_nx D r x).1 hf
      refine ⟨fun a => ?_, ?_⟩
      · rw [restOf, if_pos hf, h1 a]
        show _ = nx D (x :: r) a - 1
        rw [nx, h0]
        split <;> omega
      · rw [restOf, if_pos hf, h2, ht, h0]
        omega
    · have h0 : nx D r x ≠ 0 := fun h => hf ((free_nx D r x).2 h)
      refine ⟨fun a => ?_, ?_⟩
      · rw [restOf, if_neg hf, List.reverse_append, List.reverse_singleton, List.singleton_append]
        show nx D (x :: _) a = nx D (x :: r) a - 1
        rw [nx, nx, h1, h1]
        split <;> omega
      · rw [restOf, if_neg hf, List.reverse_append, List.reverse_singleton, List.singleton_append]
        rw [ht, ht, h1, h2]
        omega
theorem lay_zero (D : Int → Int → Bool) (r : List Int) : lay D r 0 = srt (stepOf D r) := by
  induction r with
  | nil => rfl
  | cons x r ih =>
    rw [lay, stepOf]
    by_cases hf : free D r x = true
    · rw [if_pos ((free_nx D r x).1 hf), if_pos hf, srt, List.foldl_append, ih]; rfl
    · rw [if_neg (fun h => hf ((free_nx D r x).2 h)), if_neg hf, ih]
theorem lay_succ (D : Int → Int → Bool) (r : List Int) (s : Nat) : lay D r (s + 1) = lay D (restOf D r).reverse s := by
  induction r with
  | nil => rfl
  | cons x r ih =>
    rw [lay, restOf]
    by_cases hf : free D r x = true
    · have h0 := (free_nx D r x).1 hf
      rw [if_neg (by omega), if_pos hf, ih]
    · have h0 : nx D r x ≠ 0 := fun h => hf ((free_nx D r x).2 h)
      rw [if_neg hf, List.reverse_append, List.reverse_singleton, List.singleton_append, lay, (rest_nx D r).1, ih]
      by_cases h : nx D r x = s + 1
      · rw [if_pos h, if_pos (by omega)]
      · rw [if_neg h, if_neg (by omega)]
theorem outs_nil (D : Int → Int → Bool) : outs D [] = [] := rfl
theorem outs_next (D : Int → Int → Bool) {r : List Int} (h : r ≠ []) : outs D r = srt (stepOf D r) :: outs D (restOf D r).reverse := by
  have hp : 1 ≤ ht D r := by
    cases r with
    | nil => exact absurd rfl h
    | cons x r => unfold ht; omega
  unfold outs
  obtain ⟨m, hm⟩ : ∃ m, ht D r = m + 1 := ⟨ht D r - 1, by omega⟩
  rw [(rest_nx D r).2, hm, List.range_succ_eq_map, List.map_cons, List.map_map, lay_zero, Nat.add_sub_cancel]
  congr 1
  refine List.map_congr_left fun s _ => ?_
  exact lay_succ D r s
theorem rest_len (D : Int → Int → Bool) (r : List Int) : (stepOf D r).length + (restOf D r).length = r.length := by
  induction r with
  | nil => rfl
  | cons x r ih =>
    rw [stepOf, restOf]
    split <;> simp <;> omega
theorem step_pos (D : Int → Int → Bool) {r : List Int} (h : r ≠ []) : 1 ≤ (stepOf D r).length := by
  induction r with
  | nil => exact absurd rfl h
  | cons x r ih =>
    rw [stepOf]
    by_cases hr : r = []
    · subst hr; simp [free]
    · have := ih hr
      split <;> simp <;> omega
theorem outs_len (D : Int → Int → Bool) (r : List Int) : (outs D r).length = ht D r := by simp [outs]
theorem outs_get (D : Int → Int → Bool) {r : List Int} {s : Nat} (h : s < ht D r) : (outs D r)[s]? = some (lay D r s) := by
  unfold outs; rw [List.getElem?_map, List.getElem?_range h]; rfl
theorem ht_le (D : Int → Int → Bool) (r : List Int) : ht D r ≤ r.length := by
  have hn : ∀ r a, nx D r a ≤ r.length := by
    intro r
    induction r with
    | nil => intro a; simp [nx]
    | cons x r ih =>
      intro a
      have h1 := ih a; have h2 := ih x
      rw [nx, List.length_cons]
      split <;> omega
  induction r with
  | nil => simp [ht]
  | cons x r ih =>
    have := hn r x
    rw [ht, List.length_cons]; omega
/-- One letter more. -/
theorem outs_old (D : Int → Int → Bool) {r : List Int} {x : Int} (h : nx D r x < ht D r) : outs D (x :: r) = (outs D r).set (nx D r x) (ins x (lay D r (nx D r x))) := by
  refine List.ext_getElem? fun s => ?_
  have hh : ht D (x :: r) = ht D r := by rw [ht]; omega
  rw [List.getElem?_set]
  by_cases hs : s < ht D r
  · rw [outs_get D (by rw [hh]; exact hs), lay]
    by_cases he : nx D r x = s
    · rw [if_pos he, if_pos he, if_pos (by rw [outs_len]; omega), he]
    · rw [if_neg he, if_neg he, outs_get D hs]
  · rw [List.getElem?_eq_none (by rw [outs_len, hh]; omega), if_neg (by omega), List.getElem?_eq_none (by rw [outs_len]; omega)]
theorem lay_none (D : Int → Int → Bool) (r : List Int) (s : Nat) (h : ht D r ≤ s) : lay D r s = [] := by
  induction r with
  | nil => rfl
  | cons x r ih =>
    rw [ht] at h
    rw [lay, if_neg (by omega)]
    exact ih (by omega)
theorem outs_new (D : Int → Int → Bool) {r : List Int} {x : Int} (h : nx D r x = ht D r) : outs D (x :: r) = (outs D r ++ [[]]).set (nx D r x) (ins x []) := by
  have hh : ht D (x :: r) = ht D r + 1 := by rw [ht]; omega
  unfold outs
  rw [hh, List.range_succ, List.map_append, h, List.set_append_right _ _ (by simp), List.length_map, List.length_range, Nat.sub_self]
  congr 1
  · refine List.map_congr_left fun s hs => ?_
    rw [lay, if_neg (by have := List.mem_range.1 hs; omega)]
  · rw [List.map_singleton, lay, if_pos h, lay_none D r _ (Nat.le_refl _)]; rfl

def Srt (l : List Int) : Prop := l.Pairwise (· ≤ ·)
theorem cnt_le (x : Int) (l : List Int) : cnt x l ≤ l.length := List.countP_le_length
/-- In a sorted list those that are less stand ahead. -/
theorem cnt_spec {x : Int} {l : List Int} (h : Srt l) : ∀ (k : Nat) (y : Int), l[k]? = some y → (y < x ↔ k < cnt x l) := by
  induction l with
  | nil => intro k y hk; simp at hk
  | cons z l ih =>
    obtain ⟨h1, h2⟩ := List.pairwise_cons.1 h
    intro k y hk
    unfold cnt
    rw [List.countP_cons]
    by_cases hz : z < x
    · rw [if_pos (by simpa using hz)]
      cases k with
      | zero => simp at hk; subst hk; simp [hz]
      | succ k => rw [List.getElem?_cons_succ] at hk; rw [ih h2 k y hk]; unfold cnt; omega
    · have h0 : l.countP (fun y => decide (y < x)) = 0 := by
        rw [List.countP_eq_zero]
        intro u hu
        have := h1 u hu
        simp; omega
      rw [h0, if_neg (by simpa using hz)]
      cases k with
      | zero => simp at hk; subst hk; simp; omega
      | succ k =>
        rw [List.getElem?_cons_succ] at hk
        have := h1 y (List.mem_of_getElem? hk)
        simp; omega
theorem ins_get {x : Int} {l : List Int} (j : Nat) : (ins x l)[j]? = if j < cnt x l then l[j]? else if j = cnt x l then some x else l[j - 1]? := by
  have hc := cnt_le x l
  unfold ins
  by_cases h1 : j < cnt x l
  · rw [List.getElem?_append_left (by simp; omega), List.getElem?_take, if_pos h1, if_pos h1]
  · rw [if_neg h1, List.getElem?_append_right (by simp; omega), List.length_take, Nat.min_eq_left hc]
    by_cases h2 : j = cnt x l
    · rw [if_pos h2, h2, Nat.sub_self]; rfl
    · rw [if_neg h2]
      obtain ⟨q, hq⟩ : ∃ q, j - cnt x l = q + 1 := ⟨j - cnt x l - 1, by omega⟩
      rw [hq, List.getElem?_cons_succ, List.getElem?_drop]
      congr 1
      omega
theorem ins_len (x : Int) (l : List Int) : (ins x l).length = l.length + 1 := by
  have := cnt_le x l
  unfold ins; simp; omega
theorem ins_mem {x y : Int} {l : List Int} (h : y ∈ ins x l) : y = x ∨ y ∈ l := by
  unfold ins at h
  rcases List.mem_append.1 h with h | h
  · exact .inr (List.mem_of_mem_take h)
  · rcases List.mem_cons.1 h with h | h
    · exact .inl h
    · exact .inr (List.mem_of_mem_drop h)
theorem ins_srt {x : Int} {l : List Int} (h : Srt l) : Srt (ins x l) := by
  have hlow : ∀ u ∈ l.take (cnt x l), u < x := by
    intro u hu
    obtain ⟨k, hk⟩ := List.getElem?_of_mem hu
    rw [List.getElem?_take] at hk
    split at hk
    · rename_i hlt; exact (cnt_spec h k u hk).2 hlt
    · cases hk
  have hhigh : ∀ u ∈ l.drop (cnt x l), x ≤ u := by
    intro u hu
    obtain ⟨k, hk⟩ := List.getElem?_of_mem hu
    rw [List.getElem?_drop] at hk
    have := cnt_spec (x := x) h _ u hk
    omega
  unfold Srt ins
  rw [List.pairwise_append]
  refine ⟨List.Pairwise.sublist (List.take_sublist _ _) h, ?_, ?_⟩
  · rw [List.pairwise_cons]
    exact ⟨hhigh, List.Pairwise.sublist (List.drop_sublist _ _) h⟩
  · intro a ha b hb
    have := hlow a ha
    rcases List.mem_cons.1 hb with rfl | hb
    · omega
    · have := hhigh b hb; omega
theorem lay_srt (D : Int → Int → Bool) (r : List Int) (s : Nat) : Srt (lay D r s) := by
  induction r with
  | nil => exact List.Pairwise.nil
  | cons x r ih =>
    rw [lay]
    split
    · exact ins_srt ih
    · exact ih
theorem lay_mem {D : Int → Int → Bool} {r : List Int} {s : Nat} {y : Int} (h : y ∈ lay D r s) : y ∈ r := by
  induction r with
  | nil => simp [lay] at h
  | cons x r ih =>
    rw [lay] at h
    split at h
    · rcases ins_mem h with rfl | h
      · exact List.mem_cons_self ..
      · exact List.mem_cons_of_mem _ (ih h)
    · exact List.mem_cons_of_mem _ (ih h)
theorem lay_len (D : Int → Int → Bool) (r : List Int) (s : Nat) : (lay D r s).length ≤ r.length := by
  induction r with
  | nil => simp [lay]
  | cons x r ih =>
    rw [lay]
    split
    · rw [ins_len, List.length_cons]; omega
    · rw [List.length_cons]; omega
theorem srt_srt (l : List Int) : Srt (srt l) := by
  have : ∀ (l acc : List Int), Srt acc → Srt (l.foldl (fun acc x => ins x acc) acc) := by
    intro l
    induction l with
    | nil => intro acc h; exact h
    | cons x l ih => intro acc h; exact ih _ (ins_srt h)
  exact this l [] List.Pairwise.nil
theorem srt_len (l : List Int) : (srt l).length = l.length := by
  have : ∀ (l acc : List Int), (l.foldl (fun acc x => ins x acc) acc).length = acc.length + l.length := by
    intro l
    induction l with
    | nil => intro acc; rfl
    | cons x l ih => intro acc; rw [List.foldl_cons, ih, ins_len, List.length_cons]; omega
  simpa [srt] using this l []
theorem srt_snoc (l : List Int) (x : Int) : srt (l ++ [x]) = ins x (srt l) := by simp [srt]
theorem srt_mem {l : List Int} {y : Int} (h : y ∈ srt l) : y ∈ l := by
  have : ∀ (l acc : List Int), y ∈ l.foldl (fun acc x => ins x acc) acc → y ∈ acc ∨ y ∈ l := by
    intro l
    induction l with
    | nil => intro acc h; exact .inl h
    | cons x l ih =>
      intro acc h
      rcases ih _ h with h | h
      · rcases ins_mem h with rfl | h
        · exact .inr (List.mem_cons_self ..)
        · exact .inl h
      · exact .inr (List.mem_cons_of_mem _ h)
  rcases this l [] h with h | h
  · cases h
  · exact h

/-! ### The document's sort: a letter is carried through a sorted list -/
def carry (x : Int) (P : List Int) (k : Nat) : Int := if k ≤ cnt x P then x else P.getD (k - 1) 0
def swp (x : Int) (P : List Int) (k : Nat) : List Int := (ins x P).take k ++ P.drop k ++ [carry x P k]
theorem swp_zero (x : Int) (P : List Int) : swp x P 0 = P ++ [x] := by simp [swp, carry]
theorem swp_len {x : Int} {P : List Int} {k : Nat} (h : k ≤ P.length) : (swp x P k).length = P.length + 1 := by
  unfold swp; simp [ins_len]; omega
theorem swp_end (x : Int) (P : List Int) : swp x P P.length = ins x P := by
  refine List.ext_getElem? fun j => ?_
  unfold swp
  rw [List.drop_length, List.append_nil]
  by_cases hj : j < P.length
  · rw [List.getElem?_append_left (by simp [ins_len]; omega), List.getElem?_take, if_pos hj]
  · by_cases h2 : j = P.length
    · subst h2
      rw [List.getElem?_append_right (by simp [ins_len]), List.length_take, ins_len, Nat.min_eq_left (by omega), Nat.sub_self, ins_get]
      have hc := cnt_le x P
      unfold carry
      by_cases he : P.length = cnt x P
      · rw [if_pos (show P.length ≤ cnt x P by omega), if_neg (show ¬ P.length < cnt x P by omega), if_pos he]; rfl
      · rw [if_neg (show ¬ P.length ≤ cnt x P by omega), if_neg (show ¬ P.length < cnt x P by omega), if_neg he, List.getD_eq_getElem?_getD]
        have hlt : P.length - 1 < P.length := by omega
        rw [List.getElem?_eq_getElem hlt]; rfl
    · rw [List.getElem?_eq_none (by simp [ins_len]; omega), List.getElem?_eq_none (by rw [ins_len]; omega)]
theorem swp_at {x : Int} {P : List Int} {k : Nat} (h : k < P.length) : (swp x P k)[k]? = P[k]? := by
  unfold swp
  rw [List.append_assoc, List.getElem?_append_right (by simp [ins_len]; omega), List.length_take, ins_len, Nat.min_eq_left (by omega), Nat.sub_self, List.getElem?_append_left (by simp; omega), List.getElem?_drop, Nat.add_zero]
theorem swp_last {x : Int} {P : List Int} {k : Nat} (h : k ≤ P.length) : (swp x P k)[P.length]? = some (carry x P k) := by
  have hl : ((ins x P).take k ++ P.drop k).length = P.length := by simp [ins_len]; omega
  unfold swp
  rw [List.getElem?_append_right (by omega), hl, Nat.sub_self]; rfl
theorem swp_next {x : Int} {P : List Int} (hs : Srt P) {k : Nat} {y : Int} (hy : P[k]? = some y) :
    swp x P (k + 1) = if carry x P k < y then ((swp x P k).set P.length y).set k (carry x P k) else swp x P k := by
  have hk : k < P.length := (List.getElem?_eq_some_iff.1 hy).1
  have hyk : P[k] = y := (List.getElem?_eq_some_iff.1 hy).2
  have hc := cnt_spec (x := x) hs k y hy
  have hil : (ins x P).length = P.length + 1 := ins_len x P
  have htk : ((ins x P).take k).length = k := by rw [List.length_take, hil]; omega
  have hdk : (P.drop k) = y :: P.drop (k + 1) := by rw [List.drop_eq_getElem_cons hk, hyk]
  have hik : (ins x P)[k]? = some (if k < cnt x P then y else carry x P k) := by
    rw [ins_get]
    unfold carry
    by_cases h1 : k < cnt x P
    · rw [if_pos h1, if_pos h1, hy]
    · rw [if_neg h1, if_neg h1]
      by_cases h2 : k = cnt x P
      · rw [if_pos h2, if_pos (by omega)]
      · rw [if_neg h2, if_neg (by omega), List.getD_eq_getElem?_getD, List.getElem?_eq_getElem (by omega)]; rfl
  have htk1 : (ins x P).take (k + 1) = (ins x P).take k ++ [if k < cnt x P then y else carry x P k] := by rw [List.take_add_one, hik]; rfl
  have hset : ((swp x P k).set P.length y).set k (carry x P k) = (ins x P).take k ++ carry x P k :: (P.drop (k + 1) ++ [y]) := by
    unfold swp
    rw [List.set_append_right _ _ (by simp [ins_len]; omega)]
    have hl : ((ins x P).take k ++ P.drop k).length = P.length := by simp [ins_len]; omega
    rw [hl, Nat.sub_self, List.set_cons_zero, List.append_assoc, List.set_append_right _ _ (by omega), htk, Nat.sub_self, hdk]
    rfl
  have hsame : swp x P k = (ins x P).take k ++ y :: (P.drop (k + 1) ++ [carry x P k]) := by
    unfold swp
    rw [hdk, List.append_assoc]; rfl
  have hnew : swp x P (k + 1) = (ins x P).take k ++ (if k < cnt x P then y else carry x P k) :: (P.drop (k + 1) ++ [carry x P (k + 1)]) := by
    unfold swp
    rw [htk1]
    simp
  have hcn : carry x P (k + 1) = if k < cnt x P then x else y := by
    unfold carry
    by_cases h1 : k < cnt x P
    · rw [if_pos (by omega), if_pos h1]
    · rw [if_neg (by omega), if_neg h1, Nat.add_sub_cancel, List.getD_eq_getElem?_getD, hy]; rfl
  rw [hnew, hcn, hset, hsame]
  by_cases h1 : k < cnt x P
  · have hcx : carry x P k = x := by unfold carry; rw [if_pos (by omega)]
    have := hc.2 h1
    rw [if_pos h1, if_pos h1, hcx, if_neg (by omega)]
  · rw [if_neg h1, if_neg h1]
    have hle : carry x P k ≤ y := by
      unfold carry
      by_cases h2 : k ≤ cnt x P
      · rw [if_pos h2]
        have : ¬ y < x := fun h => h1 (hc.1 h)
        omega
      · rw [if_neg h2, List.getD_eq_getElem?_getD, List.getElem?_eq_getElem (by omega)]
        have := List.pairwise_iff_getElem.1 hs (k - 1) k (by omega) hk (by omega)
        rw [hyk] at this
        exact this
    by_cases h3 : carry x P k < y
    · rw [if_pos h3]
    · have : carry x P k = y := by omega
      rw [if_neg h3, this]
end Go.Proofs.Ytfdpannanpipdaa.norm
namespace Go.Proofs.Ytfdpannanpipdaa.norm
open Go.Bk Go.RowKit
/-! ### What hangs on what: is the table right? -/
def GoodTo (dep : List (List Bool)) (k : Nat) : Prop := ∀ (i : Nat) (r : List Bool), i < k → dep[i]? = some r → r.length = dep.length ∧ r[i]? = some true
def SqTo (dep : List (List Bool)) (k : Nat) : Prop := ∀ (i : Nat) (r : List Bool), i < k → dep[i]? = some r → r.length = dep.length
def DiagTo (dep : List (List Bool)) (k : Nat) : Prop := ∀ (i : Nat) (r : List Bool), i < k → dep[i]? = some r → r[i]? = some true
def SymIn (dep : List (List Bool)) (i q : Nat) : Prop := ∀ (j : Nat) (r s : List Bool), j < q → dep[i]? = some r → dep[j]? = some s → r[j]? = s[i]?
def SymTo (dep : List (List Bool)) (k : Nat) : Prop := ∀ i, i < k → SymIn dep i dep.length
def Good (dep : List (List Bool)) : Prop := dep ≠ [] ∧ GoodTo dep dep.length ∧ SymTo dep dep.length
def inDep (dep : List (List Bool)) (x : Int) : Bool := decide (0 ≤ x) && decide (x < dep.length)
open Classical in
noncomputable def goodB (dep : List (List Bool)) : Bool := decide (Good dep)
open Classical in
theorem goodB_true {dep : List (List Bool)} (h : Good dep) : goodB dep = true := by unfold goodB; exact decide_eq_true h
open Classical in
theorem goodB_false {dep : List (List Bool)} (h : ¬ Good dep) : goodB dep = false := by unfold goodB; exact decide_eq_false h
noncomputable def depErr (l : List Int) (dep : List (List Bool)) : Int := if 200 < l.length ∨ 12 < dep.length then 2 else if goodB dep = false then 3 else if l.all (inDep dep) then 0 else 1
theorem depErr_large {l : List Int} {dep : List (List Bool)} (h : 200 < l.length ∨ 12 < dep.length) : depErr l dep = 2 := if_pos h
theorem depErr_form {l : List Int} {dep : List (List Bool)} (h : ¬ (200 < l.length ∨ 12 < dep.length)) (hg : ¬ Good dep) : depErr l dep = 3 := by unfold depErr; rw [if_neg h, if_pos (goodB_false hg)]
theorem depErr_arg {l : List Int} {dep : List (List Bool)} (h : ¬ (200 < l.length ∨ 12 < dep.length)) (hg : Good dep) (ha : l.all (inDep dep) = false) : depErr l dep = 1 := by
  unfold depErr; rw [if_neg h, goodB_true hg, if_neg (by simp), ha, if_neg (by simp)]
theorem depErr_ok {l : List Int} {dep : List (List Bool)} (h : ¬ (200 < l.length ∨ 12 < dep.length)) (hg : Good dep) (ha : l.all (inDep dep) = true) : depErr l dep = 0 := by
  unfold depErr; rw [if_neg h, goodB_true hg, if_neg (by simp), ha, if_pos rfl]
open Classical in
theorem depErr_zero {l : List Int} {dep : List (List Bool)} (h : depErr l dep = 0) : l.length ≤ 200 ∧ dep.length ≤ 12 ∧ Good dep ∧ l.all (inDep dep) = true := by
  unfold depErr at h
  split at h
  · omega
  · rename_i h1
    split at h
    · omega
    · rename_i h2
      split at h
      · exact ⟨by omega, by omega, by have := h2; unfold goodB at this; simpa using this, by assumption⟩
      · omega
theorem GoodTo.succ {dep : List (List Bool)} {k : Nat} {r : List Bool} (h : GoodTo dep k) (hr : dep[k]? = some r) (h1 : r.length = dep.length) (h2 : r[k]? = some true) : GoodTo dep (k + 1) := fun i r' hi hr' => by
  by_cases he : i = k
  · subst he; rw [hr] at hr'; cases hr'; exact ⟨h1, h2⟩
  · exact h i r' (by omega) hr'
theorem SqTo.succ {dep : List (List Bool)} {k : Nat} {r : List Bool} (h : SqTo dep k) (hr : dep[k]? = some r) (h1 : r.length = dep.length) : SqTo dep (k + 1) := fun i r' hi hr' => by
  by_cases he : i = k
  · subst he; rw [hr] at hr'; cases hr'; exact h1
  · exact h i r' (by omega) hr'
theorem DiagTo.succ {dep : List (List Bool)} {k : Nat} {r : List Bool} (h : DiagTo dep k) (hr : dep[k]? = some r) (h1 : r[k]? = some true) : DiagTo dep (k + 1) := fun i r' hi hr' => by
  by_cases he : i = k
  · subst he; rw [hr] at hr'; cases hr'; exact h1
  · exact h i r' (by omega) hr'
theorem SymIn.succ {dep : List (List Bool)} {i q : Nat} {r s : List Bool} (h : SymIn dep i q) (hr : dep[i]? = some r) (hs : dep[q]? = some s) (he : r[q]? = s[i]?) : SymIn dep i (q + 1) := fun j r' s' hj hr' hs' => by
  by_cases hjq : j = q
  · subst hjq; rw [hr] at hr'; rw [hs] at hs'; cases hr'; cases hs'; exact he
  · exact h j r' s' (by omega) hr' hs'
theorem SymTo.succ {dep : List (List Bool)} {k : Nat} (h : SymTo dep k) (hk : SymIn dep k dep.length) : SymTo dep (k + 1) := fun i hi => by
  by_cases he : i = k
  · subst he; exact hk
  · exact h i (by omega)
theorem Good.of {dep : List (List Bool)} (h0 : dep ≠ []) (h1 : SqTo dep dep.length) (h2 : DiagTo dep dep.length) (h3 : SymTo dep dep.length) : Good dep := ⟨h0, fun i r hi hr => ⟨h1 i r hi hr, h2 i r hi hr⟩, h3⟩
theorem not_good_row {dep : List (List Bool)} {i : Nat} {r : List Bool} (hr : dep[i]? = some r) (h : r.length ≠ dep.length ∨ r[i]? = some false) : ¬ Good dep := fun hg => by
  obtain ⟨h1, h2⟩ := hg.2.1 i r (List.getElem?_eq_some_iff.1 hr).1 hr
  rcases h with h | h
  · exact h h1
  · rw [h] at h2; cases h2
theorem not_good_sym {dep : List (List Bool)} {i j : Nat} {r s : List Bool} (hr : dep[i]? = some r) (hs : dep[j]? = some s) (h : r[j]? ≠ s[i]?) : ¬ Good dep := fun hg =>
  h (hg.2.2 i (List.getElem?_eq_some_iff.1 hr).1 j r s (List.getElem?_eq_some_iff.1 hs).1 hr hs)
end Go.Proofs.Ytfdpannanpipdaa.norm
