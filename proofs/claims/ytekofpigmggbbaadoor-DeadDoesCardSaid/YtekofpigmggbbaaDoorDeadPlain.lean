/- Plain: what nobody asks. -/
import Derived.Test.YtekofpigmggbbaaDoorChkE
set_option linter.unusedVariables false
set_option linter.unusedSimpArgs false
namespace Go.Proofs.YtekofpigmggbbaaDoor.ded
open Go.Bk Go.Proofs.YtekofpigmggbbaaDoor.ir Go.Proofs.YtekofpigmggbbaaDoor.chk Go.Proofs.YtekofpigmggbbaaDoor.cut

def makeVals (m : Api.TMake) : List Int := m.Cell :: m.Vals
/-- The values of an exit. -/
def exVals (x : Api.TExit) : List Int := x.Sets.map (·.Val) ++ x.Makes.flatMap makeVals
def usedE (ins : List Api.TIns) (i : Nat) : Bool := ins.any fun x => decide (x.Exit = (i : Int))
def bareAt (ins : List Api.TIns) (i : Nat) (x : Api.TExit) : Api.TExit := if usedE ins i then x else ⟨x.At, x.Steps, [], []⟩
/-- A trace whose exits that nobody takes are bare. -/
def bareT (t : Api.TTrace) : Api.TTrace := ⟨t.Fn, t.At, t.Loop, t.Ins, t.Exits.mapIdx (bareAt t.Ins), t.Turn, t.Back⟩
def namesB (x : Api.TExit) (v : Int) : Bool := (exVals x).any fun u => decide (u = v)
/-- Asked for by an exit. -/
def endB (t : Api.TTrace) (v : Int) : Bool := t.Exits.any (fun x => namesB x v) || (namesB t.Turn v || namesB t.Back v)
/-- Kept whoever asks. -/
def firmB (t : Api.TTrace) (i : Nat) (x : Api.TIns) : Bool := (decide (0 ≤ x.Exit) || !tellsOf x.Op) || (decide (i = 0) && decide (0 < t.Loop))
def asksB (t : Api.TTrace) (j : Nat) (v : Int) : Bool := match t.Ins[j]? with
  | none => false
  | some x => (asksOf x).any fun u => decide (u = v)
def askedBy (t : Api.TTrace) (K : List Nat) (v : Int) : Bool := K.any fun j => asksB t j v
def wantB (t : Api.TTrace) (K : List Nat) (i : Nat) : Bool := match t.Ins[i]? with
  | none => false
  | some x => (endB t i || askedBy t K i) || firmB t i x
/-- The kept among the last m. -/
def keptD (t : Api.TTrace) : Nat → List Nat
  | 0 => []
  | m + 1 => if wantB t (keptD t m) (t.Ins.length - 1 - m) then (t.Ins.length - 1 - m) :: keptD t m else keptD t m
theorem keptD_ge (t : Api.TTrace) : ∀ {m j : Nat}, j ∈ keptD t m → t.Ins.length - m ≤ j ∧ j < t.Ins.length
  | 0, j, h => by cases h
  | m + 1, j, h => by
    unfold keptD at h
    split at h
    · rename_i hw
      rcases List.mem_cons.1 h with rfl | h
      · refine ⟨by omega, ?_⟩
        unfold wantB at hw
        split at hw
        · cases hw
        · rename_i x hx; exact (List.getElem?_eq_some_iff.1 hx).1
      · have := keptD_ge t h; omega
    · have := keptD_ge t h; omega
theorem keptD_mem {t : Api.TTrace} {j : Nat} : ∀ {m : Nat}, t.Ins.length - m ≤ j → j < t.Ins.length → m ≤ t.Ins.length → (j ∈ keptD t m ↔ wantB t (keptD t (t.Ins.length - 1 - j)) j = true)
  | 0, h1, h2, _ => by omega
  | m + 1, h1, h2, h3 => by
    by_cases he : j = t.Ins.length - 1 - m
    · subst he
      have hm : t.Ins.length - 1 - (t.Ins.length - 1 - m) = m := by omega
      rw [hm]
      show _ ∈ (if _ then _ else _) ↔ _
      split
      · rename_i hw; simp [hw]
      · rename_i hw
        constructor
        · intro h; have := (keptD_ge t h).1; omega
        · intro h; exact absurd h hw
    · rw [← keptD_mem (m := m) (by omega) h2 (by omega)]
      show _ ∈ (if _ then _ else _) ↔ _
      split
      · simp [he]
      · rfl
/-- Behind the last m nobody is more. -/
theorem keptD_up {t : Api.TTrace} {j : Nat} : ∀ {m k : Nat}, m ≤ k → j ∈ keptD t m → j ∈ keptD t k
  | m, 0, h, hj => by obtain rfl : m = 0 := by omega
                      exact hj
  | m, k + 1, h, hj => by
    by_cases he : m = k + 1
    · subst he; exact hj
    · have := keptD_up (t := t) (j := j) (m := m) (k := k) (by omega) hj
      show _ ∈ (if _ then _ else _)
      split
      · exact List.mem_cons_of_mem _ this
      · exact this
theorem asksB_lt {t : Api.TTrace} (hr : RightT t) {j : Nat} {v : Int} (h : asksB t j v = true) : 0 ≤ v ∧ v < j ∧ ∃ y, t.Ins[v.toNat]? = some y ∧ tellsOf y.Op = true := by
  unfold asksB at h
  split at h
  · cases h
  · rename_i x hx
    rw [List.any_eq_true] at h
    obtain ⟨u, hu, e⟩ := h
    have e : u = v := of_decide_eq_true e
    subst e
    obtain ⟨k, y, rfl, h1, h2, h3⟩ := valAt_iff.1 (hr.asks j x hx u hu)
    exact ⟨by omega, by omega, y, by simpa using h2, h3⟩
/-- What is kept is kept for the whole's sake. -/
theorem want_all {t : Api.TTrace} (hr : RightT t) {j : Nat} (hj : j < t.Ins.length) : wantB t (keptD t (t.Ins.length - 1 - j)) j = wantB t (keptD t t.Ins.length) j := by
  have : askedBy t (keptD t (t.Ins.length - 1 - j)) j = askedBy t (keptD t t.Ins.length) j := by
    unfold askedBy
    rw [Bool.eq_iff_iff, List.any_eq_true, List.any_eq_true]
    constructor
    · rintro ⟨k, hk, h⟩
      exact ⟨k, keptD_up (by omega) hk, h⟩
    · rintro ⟨k, hk, h⟩
      refine ⟨k, ?_, h⟩
      have h1 := (asksB_lt hr h).2.1
      have h2 := (keptD_ge t hk).2
      rw [keptD_mem (by omega) h2 (by omega)]
      exact (keptD_mem (m := t.Ins.length) (by omega) h2 (Nat.le_refl _)).1 hk
  unfold wantB
  rw [this]
def keepB (t : Api.TTrace) (j : Nat) : Bool := decide (j ∈ keptD t t.Ins.length)
theorem keepB_iff {t : Api.TTrace} (hr : RightT t) {j : Nat} (hj : j < t.Ins.length) : keepB t j = wantB t (keptD t t.Ins.length) j := by
  rw [← want_all hr hj, Bool.eq_iff_iff]
  unfold keepB
  rw [decide_eq_true_eq]
  exact keptD_mem (by omega) hj (Nat.le_refl _)
/-- Numbers: what is kept stays. -/
def deadTo (t : Api.TTrace) : List Int := (List.range t.Ins.length).map fun j => if keepB t j then (j : Int) else -1
theorem deadTo_len (t : Api.TTrace) : (deadTo t).length = t.Ins.length := by simp [deadTo]
theorem deadTo_at {t : Api.TTrace} {k : Nat} (h : k < t.Ins.length) : (deadTo t)[k]? = some (if keepB t k then (k : Int) else -1) := by simp [deadTo, h]
theorem deadTo_ok (t : Api.TTrace) : toOk (deadTo t) t.Ins.length = true := toOk_of fun j hj => ⟨_, deadTo_at hj, by split <;> omega, by split <;> omega⟩
theorem dead_one {t : Api.TTrace} {j m : Nat} (hj : j < m) (hm : m ≤ t.Ins.length) (hk : keepB t j = true) : 0 ≤ oneV (atOf (deadTo t) m) j := by
  have h1 := atOf_get (deadTo t) hj
  rw [nextAt_some (deadTo_at (by omega)), if_pos hk, if_pos rfl] at h1
  rw [oneV_at h1, if_neg (by omega)]
  omega
theorem end_keep {t : Api.TTrace} (hr : RightT t) {v : Int} (hv : valAt t.Ins v t.Ins.length = true) (he : endB t v = true) : 0 ≤ oneV (atOf (deadTo t) t.Ins.length) v := by
  obtain ⟨k, y, rfl, h1, h2, h3⟩ := valAt_iff.1 hv
  have hk : k < t.Ins.length := by omega
  refine dead_one hk (Nat.le_refl _) ?_
  rw [keepB_iff hr hk]
  unfold wantB
  rw [h2]
  dsimp only
  rw [he]
  rfl
theorem names_sets {x : Api.TExit} {s : Api.TSet} (h : s ∈ x.Sets) : namesB x s.Val = true := by
  unfold namesB exVals
  rw [List.any_eq_true]
  exact ⟨s.Val, List.mem_append_left _ (List.mem_map_of_mem h), by simp⟩
theorem names_makes {x : Api.TExit} {m : Api.TMake} (h : m ∈ x.Makes) {v : Int} (hv : v ∈ makeVals m) : namesB x v = true := by
  unfold namesB exVals
  rw [List.any_eq_true]
  exact ⟨v, List.mem_append_right _ (List.mem_flatMap.2 ⟨m, h, hv⟩), by simp⟩
theorem dead_exit {t : Api.TTrace} (hr : RightT t) {x : Api.TExit} (hx : ExitR t.Ins x) (he : ∀ v, namesB x v = true → endB t v = true) : fineExit (gOf t (deadTo t)) x = true := by
  unfold fineExit
  rw [Bool.and_eq_true, List.all_eq_true, List.all_eq_true]
  refine ⟨fun s hs => ?_, fun m hm => ?_⟩
  · unfold fineV gOf
    exact decide_eq_true (end_keep hr (hx.sets s hs) (he _ (names_sets hs)))
  · obtain ⟨h1, -, h2⟩ := hx.makes m hm
    unfold fineMake fineV gOf
    rw [Bool.and_eq_true, List.all_eq_true]
    refine ⟨decide_eq_true (end_keep hr h1 (he _ (names_makes hm (List.mem_cons_self)))), fun v hv => decide_eq_true (end_keep hr (h2 v hv) (he _ (names_makes hm (List.mem_cons_of_mem _ hv))))⟩
theorem dead_fineTo {t : Api.TTrace} (hr : RightT t) : ∀ k, k ≤ t.Ins.length → fineTo (deadTo t) t.Ins k = true
  | 0, _ => rfl
  | k + 1, h => by
    show (fineTo (deadTo t) t.Ins k && _) = true
    rw [dead_fineTo hr k (by omega), Bool.true_and]
    obtain ⟨x, hx⟩ : ∃ x, t.Ins[k]? = some x := ⟨_, List.getElem?_eq_getElem (by omega)⟩
    rw [hx]
    dsimp only
    by_cases hk : keepB t k = true
    · rw [if_pos (by rw [deadTo_at (by omega), if_pos hk])]
      unfold fineIns
      rw [List.all_eq_true]
      intro v hv
      have ha : asksB t k v = true := by
        unfold asksB
        rw [hx]
        dsimp only
        rw [List.any_eq_true]
        exact ⟨v, hv, by simp⟩
      obtain ⟨h0, h1, -⟩ := asksB_lt hr ha
      obtain ⟨u, rfl⟩ : ∃ u : Nat, v = u := ⟨v.toNat, by omega⟩
      have hku : keepB t u = true := by
        rw [keepB_iff hr (by omega)]
        unfold wantB
        obtain ⟨y, hy⟩ : ∃ y, t.Ins[u]? = some y := ⟨_, List.getElem?_eq_getElem (by omega)⟩
        rw [hy]
        dsimp only
        have : askedBy t (keptD t t.Ins.length) u = true := by
          unfold askedBy
          rw [List.any_eq_true]
          exact ⟨k, of_decide_eq_true hk, ha⟩
        rw [this]
        simp
      unfold fineV
      exact decide_eq_true (dead_one (by omega) (by omega) hku)
    · rw [if_neg (by
        rw [deadTo_at (by omega), if_neg hk]
        intro e
        have := Option.some.inj e
        omega)]
theorem dead_fine {t : Api.TTrace} (hr : RightT t) : fineT t (deadTo t) = true := by
  unfold fineT
  rw [dead_fineTo hr _ (Nat.le_refl _), dead_exit hr hr.turn (fun v h => by unfold endB; rw [h]; simp), dead_exit hr hr.back (fun v h => by unfold endB; rw [h]; simp)]
  simp only [Bool.true_and, Bool.and_true, List.all_eq_true]
  intro x hx
  refine dead_exit hr (hr.exits x hx) fun v h => ?_
  unfold endB
  rw [show t.Exits.any (fun x => namesB x v) = true from List.any_eq_true.2 ⟨x, hx, h⟩]
  rfl
/-- With bare exits it is still a trace that may be. -/
theorem bare_right {t : Api.TTrace} (hr : RightT t) : RightT (bareT t) := by
  refine ⟨hr.few, ?_, hr.loop, hr.form, hr.asks, ?_, ?_, hr.turn, hr.back⟩
  · show (t.Exits.mapIdx _).length ≤ _
    rw [List.length_mapIdx]; exact hr.fewE
  · show ∀ (i : Nat) (x : Api.TIns), _ → _ ∨ (_ ∧ _ < (((t.Exits.mapIdx _).length : Nat) : Int))
    rw [List.length_mapIdx]; exact hr.way
  · intro x hx
    obtain ⟨i, hi, rfl⟩ := List.mem_mapIdx.1 hx
    show ExitR t.Ins _
    have h := hr.exits _ (List.getElem_mem hi)
    unfold bareAt
    split
    · exact h
    · exact ⟨by simp, by simp, by simp, by simp⟩
/-- What a set of some that are kept comes to, where nobody more is asked: all that are kept. -/
theorem dead_least {t : Api.TTrace} (hr : RightT t) {A : Nat → Bool} (h1 : ∀ j, A j = true → keepB t j = true)
    (h2 : ∀ j x, t.Ins[j]? = some x → ((firmB t j x = true ∨ endB t j = true) ∨ ∃ k, A k = true ∧ asksB t k j = true) → A j = true) : ∀ j, j < t.Ins.length → A j = keepB t j := by
  have key : ∀ d j, t.Ins.length - j ≤ d → j < t.Ins.length → keepB t j = true → A j = true := by
    intro d
    induction d with
    | zero => intro j h hj; omega
    | succ d ih =>
      intro j h hj hk
      rw [keepB_iff hr hj] at hk
      unfold wantB at hk
      obtain ⟨x, hx⟩ : ∃ x, t.Ins[j]? = some x := ⟨_, List.getElem?_eq_getElem hj⟩
      rw [hx] at hk
      dsimp only at hk
      rw [Bool.or_eq_true, Bool.or_eq_true] at hk
      rcases hk with (hk | hk) | hk
      · exact h2 j x hx (Or.inl (Or.inr hk))
      · unfold askedBy at hk
        obtain ⟨k, hk1, hk2⟩ := List.any_eq_true.1 hk
        have hlt := (asksB_lt hr hk2).2.1
        have hkn := (keptD_ge t hk1).2
        exact h2 j x hx (Or.inr ⟨k, ih k (by omega) hkn (decide_eq_true hk1), hk2⟩)
      · exact h2 j x hx (Or.inl (Or.inl hk))
  intro j hj
  rw [Bool.eq_iff_iff]
  exact ⟨h1 j, key _ j (Nat.le_refl _) hj⟩
/-- What is firm, asked by an exit or by one that is kept is kept. -/
theorem keep_of {t : Api.TTrace} (hr : RightT t) {j : Nat} {x : Api.TIns} (hx : t.Ins[j]? = some x) (h : (firmB t j x = true ∨ endB t j = true) ∨ ∃ k, keepB t k = true ∧ asksB t k j = true) : keepB t j = true := by
  rw [keepB_iff hr (List.getElem?_eq_some_iff.1 hx).1]
  unfold wantB
  rw [hx]
  dsimp only
  rw [Bool.or_eq_true, Bool.or_eq_true]
  rcases h with (h | h) | ⟨k, h1, h2⟩
  · exact Or.inr h
  · exact Or.inl (Or.inl h)
  · exact Or.inl (Or.inr (List.any_eq_true.2 ⟨k, of_decide_eq_true h1, h2⟩))
end Go.Proofs.YtekofpigmggbbaaDoor.ded
