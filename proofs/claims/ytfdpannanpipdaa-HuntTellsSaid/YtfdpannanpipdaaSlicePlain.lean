/- Plain: what hangs on what, in lists whose uses are all ahead. -/
import Derived.Test.YtfdpannanpipdaaTy
set_option linter.unusedVariables false
set_option linter.unusedSimpArgs false
namespace Go.Proofs.Ytfdpannanpipdaa.slice
open Go.Bk Go.RowKit

/-- All uses stand ahead. -/
def okAt (i : Nat) (d : Api.DDep) : Bool := d.Uses.all fun u => decide (0 ≤ u) && decide (u < i)
def okTo (l : List Api.DDep) (k : Nat) : Prop := ∀ (i : Nat) (d : Api.DDep), i < k → l[i]? = some d → okAt i d = true
def Valid (l : List Api.DDep) : Prop := okTo l l.length
def inLen (l : List Api.DDep) (p : Int) : Bool := decide (0 ≤ p) && decide (p < l.length)
open Classical in
noncomputable def errOf (l : List Api.DDep) (places : List Int) : Int := if 200 < l.length then 2 else if ¬ Valid l then 3 else if places.all (inLen l) then 0 else 1
theorem errOf_large {l : List Api.DDep} {p : List Int} (h : 200 < l.length) : errOf l p = 2 := if_pos h
theorem errOf_form {l : List Api.DDep} {p : List Int} (h : ¬ 200 < l.length) {i : Nat} {d : Api.DDep} (hd : l[i]? = some d) (hb : okAt i d = false) : errOf l p = 3 := by
  unfold errOf
  rw [if_neg h, if_pos (fun hv => by have := hv i d (List.getElem?_eq_some_iff.1 hd).1 hd; rw [hb] at this; cases this)]
theorem errOf_place {l : List Api.DDep} {p : List Int} (h : ¬ 200 < l.length) (hv : Valid l) {x : Int} (hx : x ∈ p) (hb : inLen l x = false) : errOf l p = 1 := by
  unfold errOf
  rw [if_neg h, if_neg (by simpa using hv), if_neg (fun ha => by have := List.all_eq_true.1 ha x hx; rw [hb] at this; cases this)]
theorem errOf_ok {l : List Api.DDep} {p : List Int} (h : ¬ 200 < l.length) (hv : Valid l) (ha : p.all (inLen l) = true) : errOf l p = 0 := by
  unfold errOf
  rw [if_neg h, if_neg (by simpa using hv), if_pos ha]
theorem errOf_zero {l : List Api.DDep} {p : List Int} (h : errOf l p = 0) : l.length ≤ 200 ∧ Valid l ∧ p.all (inLen l) = true := by
  unfold errOf at h
  split at h
  · omega
  · split at h
    · omega
    · split at h
      · exact ⟨by omega, by rename_i h1 _; simpa using h1, by assumption⟩
      · omega
theorem errOf_range (l : List Api.DDep) (p : List Int) : 0 ≤ errOf l p ∧ errOf l p ≤ 3 := by
  unfold errOf; split <;> (try split) <;> (try split) <;> omega
theorem errOf_more {l : List Api.DDep} {i j : Int} (h : errOf l [i] ≠ 0) : errOf l [i, j] = errOf l [i] := by
  unfold errOf at *
  by_cases h1 : 200 < l.length
  · rw [if_pos h1, if_pos h1]
  · by_cases h2 : ¬ Valid l
    · rw [if_neg h1, if_neg h1, if_pos h2, if_pos h2]
    · rw [if_neg h1, if_neg h2] at h ⊢
      rw [if_neg h1, if_neg h2]
      by_cases h3 : inLen l i = true
      · simp [h3] at h
      · simp [h3]

def usesAt (l : List Api.DDep) (k : Nat) : List Int := ((l[k]?).map (·.Uses)).getD []
/-- Of each place up to there, whether it hangs on n. -/
def hasList (l : List Api.DDep) (n : Nat) : Nat → List Bool
  | 0 => []
  | k + 1 => hasList l n k ++ [decide (k = n) || (usesAt l k).any fun u => decide ((n : Int) ≤ u) && (hasList l n k).getD u.toNat false]
theorem hasList_len (l : List Api.DDep) (n k : Nat) : (hasList l n k).length = k := by
  induction k with
  | zero => rfl
  | succ k ih => simp [hasList, ih]
def hangs (l : List Api.DDep) (i n : Nat) : Bool := (hasList l n (i + 1)).getD i false
theorem hasList_get (l : List Api.DDep) (n k j : Nat) (h : j < k) : (hasList l n k).getD j false = hangs l j n := by
  induction k with
  | zero => omega
  | succ k ih =>
    by_cases hj : j = k
    · subst hj; rfl
    · rw [hasList, List.getD_eq_getElem?_getD, List.getElem?_append_left (by rw [hasList_len]; omega), ← List.getD_eq_getElem?_getD]
      exact ih (by omega)
theorem hangs_eq (l : List Api.DDep) (i n : Nat) : hangs l i n = (decide (i = n) || (usesAt l i).any fun u => decide ((n : Int) ≤ u) && (hasList l n i).getD u.toNat false) := by
  unfold hangs
  rw [hasList, List.getD_eq_getElem?_getD, List.getElem?_append_right (by rw [hasList_len]; omega), hasList_len]
  simp
theorem uses_lt {l : List Api.DDep} (hv : Valid l) {k : Nat} {u : Int} (hu : u ∈ usesAt l k) : 0 ≤ u ∧ u < k := by
  unfold usesAt at hu
  cases hk : l[k]? with
  | none => rw [hk] at hu; simp at hu
  | some d =>
    rw [hk] at hu
    simp at hu
    have := hv k d (List.getElem?_eq_some_iff.1 hk).1 hk
    have := List.all_eq_true.1 this u hu
    simpa using this
theorem usesAt_some {l : List Api.DDep} {k : Nat} {d : Api.DDep} (h : l[k]? = some d) : usesAt l k = d.Uses := by unfold usesAt; rw [h]; rfl
theorem hangs_below {l : List Api.DDep} (hv : Valid l) {i n : Nat} (h : i < n) : hangs l i n = false := by
  rw [hangs_eq, Bool.or_eq_false_iff]
  refine ⟨by simp; omega, ?_⟩
  rw [List.any_eq_false]
  intro u hu
  have := uses_lt hv hu
  simp
  omega
/-- In words of the places ahead. -/
theorem hangs_any {l : List Api.DDep} (hv : Valid l) (i n : Nat) : hangs l i n = (decide (i = n) || (usesAt l i).any fun u => hangs l u.toNat n) := by
  rw [hangs_eq]
  congr 1
  have hcong : ∀ us : List Int, (∀ u ∈ us, 0 ≤ u ∧ u < i) → (us.any fun u => decide ((n : Int) ≤ u) && (hasList l n i).getD u.toNat false) = us.any fun u => hangs l u.toNat n := by
    intro us
    induction us with
    | nil => intro _; rfl
    | cons u us ih =>
      intro h
      have hu := h u (List.mem_cons_self ..)
      rw [List.any_cons, List.any_cons, ih (fun v hv => h v (List.mem_cons_of_mem _ hv)), hasList_get _ _ _ _ (by omega)]
      congr 1
      by_cases hn : (n : Int) ≤ u
      · simp [hn]
      · rw [hangs_below hv (by omega : u.toNat < n)]; simp
  exact hcong _ (fun u hu => uses_lt hv hu)
def reachK (l : List Api.DDep) : Nat → Nat → Nat → Prop
  | 0, i, n => i = n
  | k + 1, i, n => ∃ u ∈ usesAt l i, reachK l k u.toNat n
/-- From i to n by uses. -/
def Reach (l : List Api.DDep) (i n : Nat) : Prop := ∃ k, reachK l k i n
theorem Reach.here {l : List Api.DDep} (i : Nat) : Reach l i i := ⟨0, rfl⟩
theorem Reach.step {l : List Api.DDep} {i n : Nat} (u : Int) (hu : u ∈ usesAt l i) (h : Reach l u.toNat n) : Reach l i n := by
  obtain ⟨k, hk⟩ := h
  exact ⟨k + 1, u, hu, hk⟩
theorem hangs_reach {l : List Api.DDep} (hv : Valid l) (i n : Nat) : hangs l i n = true ↔ Reach l i n := by
  induction i using Nat.strongRecOn with
  | _ i ih =>
    rw [hangs_any hv, Bool.or_eq_true, List.any_eq_true]
    constructor
    · rintro (h | ⟨u, hu, h⟩)
      · have : i = n := by simpa using h
        subst this; exact .here _
      · have := uses_lt hv hu
        exact .step u hu ((ih u.toNat (by omega)).1 h)
    · rintro ⟨k, h⟩
      cases k with
      | zero => exact .inl (decide_eq_true (show i = n from h))
      | succ k =>
        obtain ⟨u, hu, h⟩ := h
        have := uses_lt hv hu
        exact .inr ⟨u, hu, (ih u.toNat (by omega)).2 ⟨k, h⟩⟩
theorem Reach.snoc {l : List Api.DDep} {i k : Nat} (h : Reach l i k) {u : Int} (hu : u ∈ usesAt l k) : Reach l i u.toNat := by
  obtain ⟨q, h⟩ := h
  induction q generalizing i with
  | zero => obtain rfl : i = k := h; exact .step u hu (.here _)
  | succ q ih =>
    obtain ⟨v, hv, h⟩ := h
    exact .step v hv (ih h)
/-- What a set is that came about by going back: all in it are reached, those behind k are done. -/
structure BackInv (l : List Api.DDep) (i k : Nat) (bs : List Bool) : Prop where
  len : bs.length = l.length
  sound : ∀ m, bs[m]? = some true → Reach l i m
  start : bs[i]? = some true
  closed : ∀ m, k ≤ m → bs[m]? = some true → ∀ u ∈ usesAt l m, bs[u.toNat]? = some true
theorem BackInv.all {l : List Api.DDep} {i : Nat} {bs : List Bool} (h : BackInv l i 0 bs) {m : Nat} (hr : Reach l i m) : bs[m]? = some true := by
  obtain ⟨q, hr⟩ := hr
  have : ∀ q a, reachK l q a m → bs[a]? = some true → bs[m]? = some true := by
    intro q
    induction q with
    | zero => intro a ha hb; obtain rfl : a = m := ha; exact hb
    | succ q ih => rintro a ⟨u, hu, hq⟩ hb; exact ih _ hq (h.closed _ (Nat.zero_le _) hb u hu)
  exact this q i hr h.start
theorem set_true_mono {bs : List Bool} {x y : Nat} (h : bs[x]? = some true) : (bs.set y true)[x]? = some true := by
  rw [List.getElem?_set]
  split
  · rename_i he; subst he; rw [if_pos (List.getElem?_eq_some_iff.1 h).1]
  · exact h
theorem set_true_cases {bs : List Bool} {x y : Nat} (h : (bs.set y true)[x]? = some true) : x = y ∨ bs[x]? = some true := by
  rw [List.getElem?_set] at h
  split at h
  · left; omega
  · exact .inr h
theorem BackInv.down {l : List Api.DDep} {i k : Nat} {bs : List Bool} (h : BackInv l i (k + 1) bs) (hk : bs[k]? = some false) : BackInv l i k bs :=
  ⟨h.len, h.sound, h.start, fun m hm hb => by
    by_cases he : m = k
    · subst he; rw [hk] at hb; cases hb
    · exact h.closed m (by omega) hb⟩
/-- While the uses of k are put in. -/
structure BackPart (l : List Api.DDep) (i k j : Nat) (bs : List Bool) : Prop where
  inv : BackInv l i (k + 1) bs
  here : bs[k]? = some true
  done : ∀ u ∈ (usesAt l k).take j, bs[u.toNat]? = some true
theorem BackPart.step {l : List Api.DDep} (hv : Valid l) {i k j : Nat} {bs : List Bool} (h : BackPart l i k j bs) {u : Int} (hu : (usesAt l k)[j]? = some u) : BackPart l i k (j + 1) (bs.set u.toNat true) := by
  have hum := List.mem_of_getElem? hu
  have hlt := uses_lt hv hum
  have hkl : k < l.length := by have := (List.getElem?_eq_some_iff.1 h.here).1; rw [h.inv.len] at this; exact this
  refine ⟨⟨by simp [h.inv.len], fun m hm => ?_, set_true_mono h.inv.start, fun m hm hb v hv' => ?_⟩, set_true_mono h.here, fun v hv' => ?_⟩
  · rcases set_true_cases hm with rfl | hm
    · exact (h.inv.sound k h.here).snoc hum
    · exact h.inv.sound m hm
  · rcases set_true_cases hb with rfl | hb
    · omega
    · exact set_true_mono (h.inv.closed m hm hb v hv')
  · rw [List.take_add_one, hu] at hv'
    rcases List.mem_append.1 hv' with hv' | hv'
    · exact set_true_mono (h.done v hv')
    · simp at hv'
      subst hv'
      rw [List.getElem?_set_self (by rw [h.inv.len]; omega)]
theorem BackPart.finish {l : List Api.DDep} {i k : Nat} {bs : List Bool} (h : BackPart l i k (usesAt l k).length bs) : BackInv l i k bs :=
  ⟨h.inv.len, h.inv.sound, h.inv.start, fun m hm hb u hu => by
    by_cases he : m = k
    · subst he; exact h.done u (by rw [List.take_length]; exact hu)
    · exact h.inv.closed m (by omega) hb u hu⟩
theorem BackInv.first {l : List Api.DDep} {i : Nat} (hi : i < l.length) : BackInv l i (i + 1) ((List.replicate l.length false).set i true) := by
  have hc : ∀ m, ((List.replicate l.length false).set i true)[m]? = some true → m = i := fun m hm => by
    rcases set_true_cases hm with h | h
    · exact h
    · rw [List.getElem?_replicate] at h; split at h <;> cases h
  exact ⟨by simp, fun m hm => by rw [hc m hm]; exact .here _, by rw [List.getElem?_set_self (by simpa using hi)], fun m hm hb => by have := hc m hb; omega⟩
def backOf (l : List Api.DDep) (i : Nat) : List Bool := (List.range l.length).map fun n => hangs l i n
def onOf (l : List Api.DDep) (i : Nat) : List Bool := (List.range l.length).map fun k => hangs l k i
theorem backOf_eq {l : List Api.DDep} (hv : Valid l) {i : Nat} {bs : List Bool} (h : BackInv l i 0 bs) : bs = backOf l i := by
  refine List.ext_getElem? fun m => ?_
  unfold backOf
  by_cases hm : m < l.length
  · rw [List.getElem?_map, List.getElem?_range hm]
    have hb : ∃ b, bs[m]? = some b := ⟨_, List.getElem?_eq_getElem (by rw [h.len]; exact hm)⟩
    obtain ⟨b, hb⟩ := hb
    rw [hb]
    simp only [Option.map_some, Option.some.injEq]
    cases hh : hangs l i m with
    | true => have := h.all ((hangs_reach hv i m).1 hh); rw [hb] at this; exact Option.some.inj this
    | false =>
      cases b with
      | false => rfl
      | true => have := (hangs_reach hv i m).2 (h.sound m hb); rw [hh] at this; cases this
  · rw [List.getElem?_eq_none (by rw [h.len]; omega), List.getElem?_eq_none (by simp; omega)]
/-- The first k of all that hang on i; the others not yet. -/
def onTo (l : List Api.DDep) (i k : Nat) : List Bool := (onOf l i).take k ++ List.replicate (l.length - k) false
theorem onOf_len (l : List Api.DDep) (i : Nat) : (onOf l i).length = l.length := by simp [onOf]
theorem onTo_len {l : List Api.DDep} {i k : Nat} (h : k ≤ l.length) : (onTo l i k).length = l.length := by simp [onTo, onOf_len]; omega
theorem onOf_get {l : List Api.DDep} {i k : Nat} (h : k < l.length) : (onOf l i)[k]? = some (hangs l k i) := by unfold onOf; rw [List.getElem?_map, List.getElem?_range h]; rfl
theorem onTo_set {l : List Api.DDep} {i k : Nat} (h : k < l.length) : (onTo l i k).set k (hangs l k i) = onTo l i (k + 1) := by
  unfold onTo
  rw [List.set_append_right _ _ (by rw [List.length_take, onOf_len]; omega), List.length_take, onOf_len, Nat.min_eq_left (by omega), Nat.sub_self, show l.length - k = (l.length - (k + 1)) + 1 by omega, List.replicate_succ, List.set_cons_zero,
    List.take_add_one, onOf_get h]
  simp
theorem onTo_start {l : List Api.DDep} (hv : Valid l) {i : Nat} (h : i ≤ l.length) : onTo l i i = List.replicate l.length false := by
  unfold onTo
  have e : (onOf l i).take i = List.replicate i false := by
    refine List.ext_getElem? fun m => ?_
    rw [List.getElem?_take, List.getElem?_replicate]
    by_cases hm : m < i
    · rw [if_pos hm, if_pos hm, onOf_get (by omega), hangs_below hv hm]
    · rw [if_neg hm, if_neg hm]
  rw [e, List.replicate_append_replicate, show i + (l.length - i) = l.length by omega]
theorem onTo_get {l : List Api.DDep} {i k u : Nat} (hu : u < k) (hk : k ≤ l.length) : (onTo l i k)[u]? = some (hangs l u i) := by
  unfold onTo
  rw [List.getElem?_append_left (by rw [List.length_take, onOf_len]; omega), List.getElem?_take, if_pos hu, onOf_get (by omega)]
theorem onTo_end (l : List Api.DDep) (i : Nat) : onTo l i l.length = onOf l i := by unfold onTo; rw [List.take_of_length_le (by rw [onOf_len]; omega)]; simp
/-- The document's table: all up to k, then what is known of k. -/
def hasTo (l : List Api.DDep) (n k : Nat) (b : Bool) : List Bool := hasList l n k ++ (b :: List.replicate (l.length - (k + 1)) false)
theorem hasTo_len {l : List Api.DDep} {n k : Nat} {b : Bool} (h : k < l.length) : (hasTo l n k b).length = l.length := by simp [hasTo, hasList_len]; omega
theorem hasTo_set {l : List Api.DDep} {n k : Nat} {b c : Bool} : (hasTo l n k b).set k c = hasTo l n k c := by
  unfold hasTo
  rw [List.set_append_right _ _ (by rw [hasList_len]; omega), hasList_len, Nat.sub_self]; rfl
theorem hasTo_get {l : List Api.DDep} {n k : Nat} {b : Bool} : (hasTo l n k b)[k]? = some b := by
  unfold hasTo
  rw [List.getElem?_append_right (by rw [hasList_len]; omega), hasList_len, Nat.sub_self]; rfl
theorem hasTo_low {l : List Api.DDep} {n k u : Nat} {b : Bool} (h : u < k) : (hasTo l n k b)[u]? = some (hangs l u n) := by
  unfold hasTo
  rw [List.getElem?_append_left (by rw [hasList_len]; omega), List.getElem?_eq_getElem (by rw [hasList_len]; omega)]
  rw [← hasList_get l n k u h, List.getD_eq_getElem?_getD, List.getElem?_eq_getElem (by rw [hasList_len]; omega)]; rfl
theorem hasTo_next {l : List Api.DDep} {n k : Nat} (h : k + 1 < l.length) : hasTo l n k (hangs l k n) = hasTo l n (k + 1) false := by
  unfold hasTo
  have e : hasList l n (k + 1) = hasList l n k ++ [hangs l k n] := by rw [hasList, hangs_eq]
  rw [e, show l.length - (k + 1) = (l.length - (k + 1 + 1)) + 1 by omega, List.replicate_succ]; simp
theorem hasTo_start {l : List Api.DDep} (hv : Valid l) {n : Nat} (h : n < l.length) : hasTo l n n false = List.replicate l.length false := by
  unfold hasTo
  have e : hasList l n n = List.replicate n false := by
    refine List.ext_getElem? fun m => ?_
    rw [List.getElem?_replicate]
    by_cases hm : m < n
    · rw [if_pos hm, ← hangs_below hv hm, ← hasList_get l n n m hm, List.getD_eq_getElem?_getD, List.getElem?_eq_getElem (by rw [hasList_len]; omega)]; rfl
    · rw [if_neg hm, List.getElem?_eq_none (by rw [hasList_len]; omega)]
  rw [e, ← List.replicate_succ, List.replicate_append_replicate, show n + (l.length - (n + 1) + 1) = l.length by omega]
/-- The document's table, all up to k. -/
def tabTo (l : List Api.DDep) (n k : Nat) : List Bool := hasList l n k ++ List.replicate (l.length - k) false
theorem tabTo_has {l : List Api.DDep} {n k : Nat} (h : k < l.length) : tabTo l n k = hasTo l n k false := by unfold tabTo hasTo; rw [show l.length - k = (l.length - (k + 1)) + 1 by omega, List.replicate_succ]
theorem tabTo_next {l : List Api.DDep} {n k : Nat} : hasTo l n k (hangs l k n) = tabTo l n (k + 1) := by
  unfold hasTo tabTo
  have e : hasList l n (k + 1) = hasList l n k ++ [hangs l k n] := by rw [hasList, hangs_eq]
  rw [e]; simp
theorem tabTo_start {l : List Api.DDep} (hv : Valid l) {n : Nat} (h : n < l.length) : tabTo l n n = List.replicate l.length false := by rw [tabTo_has h, hasTo_start hv h]
theorem tabTo_get {l : List Api.DDep} {n k u : Nat} (h : u < k) : (tabTo l n k)[u]? = some (hangs l u n) := by
  unfold tabTo
  rw [List.getElem?_append_left (by rw [hasList_len]; omega), List.getElem?_eq_getElem (by rw [hasList_len]; omega)]
  rw [← hasList_get l n k u h, List.getD_eq_getElem?_getD, List.getElem?_eq_getElem (by rw [hasList_len]; omega)]; rfl
def useHas (l : List Api.DDep) (n k : Nat) (u : Int) : Bool := decide ((n : Int) ≤ u) && (hasList l n k).getD u.toNat false
theorem useHas_eq {l : List Api.DDep} {n k v : Nat} (h : v < k) : useHas l n k (v : Int) = (decide ((n : Int) ≤ v) && hangs l v n) := by unfold useHas; rw [Int.toNat_natCast, hasList_get _ _ _ _ h]
theorem any_take_succ {us : List Int} {p : Int → Bool} {j : Nat} {u : Int} (h : us[j]? = some u) : (us.take (j + 1)).any p = ((us.take j).any p || p u) := by
  rw [List.take_add_one, h, List.any_append]; simp
/-- The places of which all sets say so. -/
def listedOf (n : Nat) (sets : List (List Bool)) : List Int := ((List.range n).filter fun i => sets.all fun s => s.getD i false).map Int.ofNat
theorem listedOf_succ (n : Nat) (sets : List (List Bool)) : listedOf (n + 1) sets = listedOf n sets ++ (if sets.all (fun s => s.getD n false) then [(n : Int)] else []) := by
  unfold listedOf
  rw [List.range_succ, List.filter_append, List.map_append]
  congr 1
  simp only [List.filter_cons, List.filter_nil]
  split <;> simp
theorem listedOf_len (n : Nat) (sets : List (List Bool)) : (listedOf n sets).length ≤ n := by
  unfold listedOf
  rw [List.length_map]
  exact Nat.le_trans (List.length_filter_le _ _) (by simp)
theorem okTo_succ {l : List Api.DDep} {k : Nat} {d : Api.DDep} (h : okTo l k) (hd : l[k]? = some d) (hb : okAt k d = true) : okTo l (k + 1) := fun i d' hi hd' => by
  by_cases he : i = k
  · subst he; rw [hd] at hd'; exact Option.some.inj hd' ▸ hb
  · exact h i d' (by omega) hd'
end Go.Proofs.Ytfdpannanpipdaa.slice
