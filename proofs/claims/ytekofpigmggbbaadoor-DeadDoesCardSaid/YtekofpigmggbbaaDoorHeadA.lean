/- General: a region that draws its order, taken by a plan up to number t; behind it, by all orders that are left, as a tree. No program is named here. -/
import Derived.Test.YtekofpigmggbbaaDoorHead
import Derived.OrdersIn
import Derived.TacticsIn
set_option linter.unusedVariables false
set_option linter.unusedSimpArgs false
namespace Go.Bk
open Go
/-- All orders that are left. -/
inductive Aft where
  | fin
  | one (k : Nat) (p : Aft)
  | two (k1 : Nat) (p1 : Aft) (k2 : Nat) (p2 : Aft)
section
variable {P : Program} {ops : Array Oper} {Q : Exit → Act → World → Prop} {md : Region.Mode} {C : World → Prop}
def Aft.len : Aft → Nat
  | .fin => 0
  | .one _ p => p.len + 1
  | .two _ p1 _ _ => p1.len + 1
def aftB (md : Region.Mode) (ops : Array Oper) : Aft → Array Bool → Bool
  | .fin, listed => decide (Region.ready md ops listed = [])
  | .one k p, listed => decide (Region.ready md ops listed = [k]) && aftB md ops p (listed.setIfInBounds k true)
  | .two k1 p1 k2 p2, listed => decide (Region.ready md ops listed = [k1, k2]) && decide (p1.len = p2.len) && aftB md ops p1 (listed.setIfInBounds k1 true) && aftB md ops p2 (listed.setIfInBounds k2 true)
def wpAft (P : Program) (ops : Array Oper) (Q : Exit → Act → World → Prop) : Aft → Act → World → Prop
  | .fin, a, w => Q .normal a w
  | .one k p, a, w => wpOp P ops Q k (wpAft P ops Q p) a w
  | .two k1 p1 k2 p2, a, w => wpOp P ops Q k1 (wpAft P ops Q p1) a w ∧ wpOp P ops Q k2 (wpAft P ops Q p2) a w
theorem wpAnyT_of_aft {t : Nat} : ∀ (p : Aft) (listed : Array Bool) (a : Act) (w : World), listed.getD t true = true → aftB md ops p listed = true → wpAft P ops Q p a w → wpAnyT P md ops Q C t p.len listed a w
  | .fin, listed, a, w, _, hB, h => ⟨by simpa [aftB] using hB, h⟩
  | .one k p, listed, a, w, hl, hB, h => by
    simp only [aftB, Bool.and_eq_true, decide_eq_true_eq] at hB
    refine ⟨fun h1 => (by rw [hB.1] at h1; cases h1), fun i hi => ?_⟩
    rw [hB.1] at hi
    obtain rfl : i = k := by simpa using hi
    have hl' : (listed.setIfInBounds i true).getD t true = true := by
      by_cases hit : i = t
      · subst hit
        by_cases hs : i < listed.size
        · simp [hs]
        · simp [hs]
      · rw [getD_set_ne true hit]; exact hl
    exact wpOp_mono (fun a' w' h' => ⟨fun hf => (by rw [hl'] at hf; cases hf), wpAnyT_of_aft p _ a' w' hl' hB.2 h'⟩) h
  | .two k1 p1 k2 p2, listed, a, w, hl, hB, h => by
    simp only [aftB, Bool.and_eq_true, decide_eq_true_eq] at hB
    obtain ⟨⟨⟨hr, hlen⟩, hB1⟩, hB2⟩ := hB
    have hl' : ∀ i, (listed.setIfInBounds i true).getD t true = true := fun i => by
      by_cases hit : i = t
      · subst hit
        by_cases hs : i < listed.size
        · simp [hs]
        · simp [hs]
      · rw [getD_set_ne true hit]; exact hl
    refine ⟨fun h1 => (by rw [hr] at h1; cases h1), fun i hi => ?_⟩
    rw [hr] at hi
    rcases (show i = k1 ∨ i = k2 by simpa using hi) with rfl | rfl
    · exact wpOp_mono (fun a' w' h' => ⟨fun hf => (by rw [hl' i] at hf; cases hf), wpAnyT_of_aft p1 _ a' w' (hl' i) hB1 h'⟩) h.1
    · show wpOp P ops Q i _ a w
      rw [hlen]
      exact wpOp_mono (fun a' w' h' => ⟨fun hf => (by rw [hl' i] at hf; cases hf), wpAnyT_of_aft p2 _ a' w' (hl' i) hB2 h'⟩) h.2
/-- A plan up to number t, the orders left behind it. -/
def wpPlanA (P : Program) (ops : Array Oper) (Q : Exit → Act → World → Prop) (C : World → Prop) (t : Nat) (q : Aft) : List (Bool × Nat) → Act → World → Prop
  | [], a, w => wpOp P ops Q t (wpAft P ops Q q) a w
  | (true, k) :: r, a, w => match ops[k]? with
    | some o => wpQuiet P ops C (fun a' => wpPlanA P ops Q C t q r a' w) [o] a
    | none => False
  | (false, k) :: r, a, w => match ops[k]? with
    | some o => if Region.wanted o (yielded ops a.tmps) then o.wp P a w (fun a' w' => C w' ∧ wpPlanA P ops Q C t q r a' w') Q ∨ (o.asks P a w ∧ LetsOut Q) else C w ∧ wpPlanA P ops Q C t q r (a.put o.dst undef) w
    | none => False
def planAB (md : Region.Mode) (ops : Array Oper) (t F : Nat) (q : Aft) : List (Bool × Nat) → Array Bool → Bool
  | [], listed => decide (Region.ready md ops listed = [t]) && aftB md ops q (listed.setIfInBounds t true)
  | (true, k) :: r, listed => (Region.ready md ops listed).contains k && Region.free md ops listed k && (reachB md ops F t k || (match ops[k]? with | some o => moveB o | none => false)) && (match ops[k]? with | some o => plainB o | none => false) && decide (t ≠ k) && planAB md ops t F q r (listed.setIfInBounds k true)
  | (false, k) :: r, listed => decide (Region.ready md ops listed = [k]) && planAB md ops t F q r (listed.setIfInBounds k true)
theorem wpAnyT_of_planA {t F : Nat} {q : Aft} (hsel : Region.noSelect ops = true) (hQ : ∀ c a a' w, Q (.panic c) a w → Q (.panic c) a' w) (ht : t < ops.size) :
    ∀ (pl : List (Bool × Nat)) (listed : Array Bool) (a : Act) (w : World), C w → listed.size = ops.size → Closed md ops listed → planAB md ops t F q pl listed = true → wpPlanA P ops Q C t q pl a w → wpAnyT P md ops Q C t (pl.length + (q.len + 1)) listed a w
  | [], listed, a, w, hC, hsz, _, hB, h => by
    simp only [planAB, Bool.and_eq_true, decide_eq_true_eq] at hB
    rw [List.length_nil, Nat.zero_add]
    have hl' : (listed.setIfInBounds t true).getD t true = true := by
      have : t < listed.size := by omega
      simp [this]
    refine ⟨fun h1 => (by rw [hB.1] at h1; cases h1), fun i hi => ?_⟩
    rw [hB.1] at hi
    obtain rfl : i = t := by simpa using hi
    exact wpOp_mono (fun a' w' h' => ⟨fun hf => (by rw [hl'] at hf; cases hf), wpAnyT_of_aft q _ a' w' hl' hB.2 h'⟩) h
  | (true, k) :: r, listed, a, w, hC, hsz, hcl, hB, h => by
    unfold wpPlanA at h
    cases h0 : ops[k]? with
    | none => rw [h0] at h; exact h.elim
    | some o =>
      rw [h0] at h
      simp only [planAB, Bool.and_eq_true, h0, decide_eq_true_eq] at hB
      obtain ⟨⟨⟨⟨⟨hr, hf⟩, hre⟩, hp⟩, htk⟩, hB'⟩ := hB
      have hr' : k ∈ Region.ready md ops listed := by simpa using hr
      obtain ⟨v, hy, hK⟩ := yieldsIf_of_quiet (K := fun a' => wpPlanA P ops Q C t q r a' w) hp (by unfold wpQuiet at h; exact h)
      have hrec := wpAnyT_of_planA (F := F) hsel hQ ht r (listed.setIfInBounds k true) (a.put o.dst v) w hC (by simp [hsz]) (closed_set hcl hr') hB' hK
      rw [List.length_cons, show r.length + 1 + (q.len + 1) = r.length + (q.len + 1) + 1 by omega]
      rcases (Bool.or_eq_true_iff.1 hre : _ ∨ _) with hre | hmv
      · exact wpAnyT_first (S := C) h0 (Region.noSelect_spec hsel) (fun c a w hq => hQ c _ _ w hq) ht htk (.inl ⟨hre, fun _ h => h⟩) _ listed a w hsz hcl (Region.free_spec h0 hf) hr' hy (fun _ => hC) hrec
      · exact wpAnyT_first (S := fun _ => True) (F := F) h0 (Region.noSelect_spec hsel) (fun c a w hq => hQ c _ _ w hq) ht htk (.inr fun _ => trivial) _ listed a w hsz hcl (Region.free_spec h0 hf) hr' (yieldsIf_of_move hmv hC hy) (fun _ => hC) hrec
  | (false, k) :: r, listed, a, w, hC, hsz, hcl, hB, h => by
    unfold wpPlanA at h
    simp only [planAB, Bool.and_eq_true, decide_eq_true_eq] at hB
    rw [List.length_cons, show r.length + 1 + (q.len + 1) = r.length + (q.len + 1) + 1 by omega]
    refine ⟨fun h1 => (by rw [hB.1] at h1; cases h1), fun i hi => ?_⟩
    have hi' := hi
    rw [hB.1] at hi
    obtain rfl : i = k := by simpa using hi
    refine wpOp_mono (fun a' w' h' => ⟨fun _ => h'.1, wpAnyT_of_planA (F := F) hsel hQ ht r _ a' w' h'.1 (by simp [hsz]) (closed_set hcl hi') hB.2 h'.2⟩) (K := fun a' w' => C w' ∧ wpPlanA P ops Q C t q r a' w') ?_
    unfold wpOp
    cases h0 : ops[i]? with
    | none => rw [h0] at h; exact h.elim
    | some o => rw [h0] at h; exact h
/-- The region. -/
theorem wp_region_planA {id : Nat} {l : List Oper} {a : Act} {w : World} (C0 : World → Prop) (pl : List (Bool × Nat)) (t F : Nat) (q : Aft) (hm : P.follows .mixedOrders = true) (hsel : Region.noSelect l.toArray = true) (hnt : (decide (pl.length + q.len + 1 = l.length) && decide (t < l.length)) = true) (hB : planAB .any l.toArray t F q pl (Array.replicate l.toArray.size false) = true)
    (hC : C0 w.drew)
    (h : wpPlanA P l.toArray (NoPanic Q) (fun W => ∃ d : HeldW C0, W = d.val) t q pl a w.drew) : (Code.region id l.toArray true).wp P Q a w := by
  simp only [Bool.and_eq_true, decide_eq_true_eq] at hnt
  refine wp_region_noPanic (wp_region_any hm (wpAny_of_T (C := fun W => ∃ d : HeldW C0, W = d.val) (t := t) _ _ _ _ ?_))
  have := wpAnyT_of_planA (md := .any) (F := F) (q := q) (C := fun W => ∃ d : HeldW C0, W = d.val) hsel (fun c a a' w h => noPanic_hQ c a a' w h) (by simpa using hnt.2) pl (Array.replicate l.toArray.size false) a w.drew ⟨⟨_, hC⟩, rfl⟩ (by simp) (fun j oj _ hl => (by rw [getD_replicate_false] at hl; cases hl)) hB h
  have e : pl.length + (q.len + 1) = l.toArray.size := by simp; omega
  rw [e] at this
  exact this
theorem planA_quiet {t k : Nat} {q : Aft} {o : Oper} {r : List (Bool × Nat)} {a : Act} {w : World} (h0 : ops[k]? = some o) (h : wpQuiet P ops C (fun a' => wpPlanA P ops Q C t q r a' w) [o] a) : wpPlanA P ops Q C t q ((true, k) :: r) a w := by
  unfold wpPlanA
  rw [h0]
  exact h
theorem wpOp_mk {k : Nat} {o : Oper} {K : Act → World → Prop} {a : Act} {w : World} (h0 : ops[k]? = some o) (hg : o.guard = none)
    (h : ∀ R : Act → World → Prop, (∀ a' w', K a' w' → R a' w') → wpList P ops (AfterT R Q) [o] a w) : wpOp P ops Q k K a w := by
  unfold wpOp
  rw [h0]
  have hw : Region.wanted o (yielded ops a.tmps) = true := by simp [Region.wanted, hg]
  have h1 := h K fun _ _ h1 => h1
  unfold wpList at h1
  rw [if_pos hw] at h1
  show if _ then _ else _
  rw [if_pos hw]
  rcases h1 with h1 | h1
  · refine .inl ?_
    unfold Oper.wp at *
    generalize (execOp a.eval o).run P w = r at *
    cases r with
    | ok n w' => cases n <;> exact h1
    | halt x w' => cases x <;> exact h1
  · exact .inr ⟨h1.1, h1.2⟩
theorem planA_op {t k : Nat} {q : Aft} {o : Oper} {r : List (Bool × Nat)} {a : Act} {w : World} (h0 : ops[k]? = some o) (hg : o.guard = none)
    (h : ∀ R : Act → World → Prop, (∀ a' w', C w' → wpPlanA P ops Q C t q r a' w' → R a' w') → wpList P ops (AfterT R Q) [o] a w) : wpPlanA P ops Q C t q ((false, k) :: r) a w := by
  have h1 : opGoal P ops Q C k (wpPlanA P ops Q C t q r) a w := opGoal_mk h0 hg h
  unfold opGoal at h1
  unfold wpPlanA
  exact h1
theorem planA_t {t : Nat} {q : Aft} {o : Oper} {a : Act} {w : World} (h0 : ops[t]? = some o) (hg : o.guard = none)
    (h : ∀ R : Act → World → Prop, (∀ a' w', wpAft P ops Q q a' w' → R a' w') → wpList P ops (AfterT R Q) [o] a w) : wpPlanA P ops Q C t q [] a w := wpOp_mk h0 hg h
theorem aft_one {k : Nat} {p : Aft} {o : Oper} {a : Act} {w : World} (h0 : ops[k]? = some o) (hg : o.guard = none)
    (h : ∀ R : Act → World → Prop, (∀ a' w', wpAft P ops Q p a' w' → R a' w') → wpList P ops (AfterT R Q) [o] a w) : wpAft P ops Q (.one k p) a w := wpOp_mk h0 hg h
theorem aft_two {k1 k2 : Nat} {p1 p2 : Aft} {o1 o2 : Oper} {a : Act} {w : World} (h1 : ops[k1]? = some o1) (g1 : o1.guard = none) (h2 : ops[k2]? = some o2) (g2 : o2.guard = none)
    (hh1 : ∀ R : Act → World → Prop, (∀ a' w', wpAft P ops Q p1 a' w' → R a' w') → wpList P ops (AfterT R Q) [o1] a w)
    (hh2 : ∀ R : Act → World → Prop, (∀ a' w', wpAft P ops Q p2 a' w' → R a' w') → wpList P ops (AfterT R Q) [o2] a w) : wpAft P ops Q (.two k1 p1 k2 p2) a w := ⟨wpOp_mk h1 g1 hh1, wpOp_mk h2 g2 hh2⟩
theorem aft_fin {a : Act} {w : World} (h : Q .normal a w) : wpAft P ops Q .fin a w := h
end
end Go.Bk

/- General: a region that draws its order inside a fence, by the tree of all its orders. No program is named here. -/
namespace Go.Bk
open Go
section
variable {F : Fence} {n : Nat} {P : Program} {ops : Array Oper} {Q : Exit → Act → World → Prop} {md : Region.Mode}
def wpAftIn (F : Fence) (n : Nat) (P : Program) (ops : Array Oper) (Q : Exit → Act → World → Prop) : Aft → Act → World → Prop
  | .fin, a, w => Q .normal a w
  | .one k p, a, w => wpOpIn F n P ops Q k (wpAftIn F n P ops Q p) a w
  | .two k1 p1 k2 p2, a, w => wpOpIn F n P ops Q k1 (wpAftIn F n P ops Q p1) a w ∧ wpOpIn F n P ops Q k2 (wpAftIn F n P ops Q p2) a w
theorem wpAnyIn_of_aft : ∀ (p : Aft) (listed : Array Bool) (a : Act) (w : World), aftB md ops p listed = true → wpAftIn F n P ops Q p a w → wpAnyIn F n P md ops Q p.len listed a w
  | .fin, listed, a, w, hB, h => ⟨by simpa [aftB] using hB, h⟩
  | .one k p, listed, a, w, hB, h => by
    simp only [aftB, Bool.and_eq_true, decide_eq_true_eq] at hB
    refine ⟨fun h1 => (by rw [hB.1] at h1; cases h1), fun i hi => ?_⟩
    rw [hB.1] at hi
    obtain rfl : i = k := by simpa using hi
    exact wpOpIn_mono (fun a' w' h' => wpAnyIn_of_aft p _ a' w' hB.2 h') h
  | .two k1 p1 k2 p2, listed, a, w, hB, h => by
    simp only [aftB, Bool.and_eq_true, decide_eq_true_eq] at hB
    obtain ⟨⟨⟨hr, hlen⟩, hB1⟩, hB2⟩ := hB
    refine ⟨fun h1 => (by rw [hr] at h1; cases h1), fun i hi => ?_⟩
    rw [hr] at hi
    rcases (show i = k1 ∨ i = k2 by simpa using hi) with rfl | rfl
    · exact wpOpIn_mono (fun a' w' h' => wpAnyIn_of_aft p1 _ a' w' hB1 h') h.1
    · show wpOpIn F n P ops Q i _ a w
      rw [hlen]
      exact wpOpIn_mono (fun a' w' h' => wpAnyIn_of_aft p2 _ a' w' hB2 h') h.2
theorem wpIn_region_aft {id : Nat} {l : List Oper} {a : Act} {w : World} (q : Aft) (hm : P.follows .mixedOrders = true) (hn : decide (q.len = l.length) = true) (hB : aftB .any l.toArray q (Array.replicate l.toArray.size false) = true)
    (h : wpAftIn F n P l.toArray Q q a w.drew) : (Code.region id l.toArray true).wpIn F n P Q a w := by
  refine wpIn_region_any hm ?_
  have h1 := wpAnyIn_of_aft (md := .any) q _ _ _ hB h
  rw [of_decide_eq_true hn] at h1
  simpa using h1
theorem wpOpIn_mk {k : Nat} {o : Oper} {K : Act → World → Prop} {a : Act} {w : World} (h0 : ops[k]? = some o) (hg : o.guard = none)
    (h : ∀ R : Act → World → Prop, (∀ a' w', K a' w' → R a' w') → wpListIn F n P ops (AfterT R Q) [o] a w) : wpOpIn F n P ops Q k K a w := by
  unfold wpOpIn
  rw [h0]
  have hw : Region.wanted o (yielded ops a.tmps) = true := by simp [Region.wanted, hg]
  have h1 := h K fun _ _ h1 => h1
  unfold wpListIn at h1
  rw [if_pos hw] at h1
  show if _ then _ else _
  rw [if_pos hw]
  unfold Oper.wpIn at *
  refine ⟨h1.1, ?_⟩
  have h1 := h1.2
  generalize (o.semAt F.round a.eval).run P w = r at *
  cases r with
  | ok n w' => cases n <;> exact h1
  | halt x w' => cases x <;> exact h1
theorem aftIn_one {k : Nat} {p : Aft} {o : Oper} {a : Act} {w : World} (h0 : ops[k]? = some o) (hg : o.guard = none)
    (h : ∀ R : Act → World → Prop, (∀ a' w', wpAftIn F n P ops Q p a' w' → R a' w') → wpListIn F n P ops (AfterT R Q) [o] a w) : wpAftIn F n P ops Q (.one k p) a w := wpOpIn_mk h0 hg h
theorem aftIn_two {k1 k2 : Nat} {p1 p2 : Aft} {o1 o2 : Oper} {a : Act} {w : World} (h1 : ops[k1]? = some o1) (g1 : o1.guard = none) (h2 : ops[k2]? = some o2) (g2 : o2.guard = none)
    (hh1 : ∀ R : Act → World → Prop, (∀ a' w', wpAftIn F n P ops Q p1 a' w' → R a' w') → wpListIn F n P ops (AfterT R Q) [o1] a w)
    (hh2 : ∀ R : Act → World → Prop, (∀ a' w', wpAftIn F n P ops Q p2 a' w' → R a' w') → wpListIn F n P ops (AfterT R Q) [o2] a w) : wpAftIn F n P ops Q (.two k1 p1 k2 p2) a w := ⟨wpOpIn_mk h1 g1 hh1, wpOpIn_mk h2 g2 hh2⟩
theorem aftIn_fin {a : Act} {w : World} (h : Q .normal a w) : wpAftIn F n P ops Q .fin a w := h
end
end Go.Bk
