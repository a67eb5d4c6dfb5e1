/- General: a region that draws its order: its reading head in the order of the text, then its tail as a list: where no operation ahead of number t turns what the head reads. No program is named here. -/
import Derived.OrdersHeld
import Derived.StillTail
import Derived.Deep.Quiet
import Derived.Deep.RegionHeld3
set_option linter.unusedVariables false
set_option linter.unusedSimpArgs false
namespace Go.Bk
open Go
section
variable {P : Program} {ops : Array Oper} {Q : Exit → Act → World → Prop} {md : Region.Mode} {C : World → Prop}

/-- Behind every operation, as long as number t has not come up, C holds. -/
def wpAnyT (P : Program) (md : Region.Mode) (ops : Array Oper) (Q : Exit → Act → World → Prop) (C : World → Prop) (t : Nat) : Nat → Array Bool → Act → World → Prop
  | 0, listed, a, w => Region.ready md ops listed = [] ∧ Q .normal a w
  | fuel + 1, listed, a, w =>
    (Region.ready md ops listed = [] → Q .normal a w) ∧
    ∀ i ∈ Region.ready md ops listed, wpOp P ops Q i (fun a' w' => ((listed.setIfInBounds i true).getD t true = false → C w') ∧ wpAnyT P md ops Q C t fuel (listed.setIfInBounds i true) a' w') a w
theorem wpAny_of_T {t : Nat} : ∀ (fuel : Nat) (listed : Array Bool) (a : Act) (w : World), wpAnyT P md ops Q C t fuel listed a w → wpAny P md ops Q fuel listed a w
  | 0, _, _, _, h => h
  | fuel + 1, _, _, _, h => ⟨h.1, fun i hi => wpOp_mono (fun a' w' h' => wpAny_of_T fuel _ a' w' h'.2) (h.2 i hi)⟩
/-- Number t waits for number i, by way of others too. -/
def reachB (md : Region.Mode) (ops : Array Oper) : Nat → Nat → Nat → Bool
  | 0, _, _ => false
  | f + 1, t, i => match ops[t]? with
    | none => false
    | some ot => ot.after.any fun e => Region.binds md e && (e.on == i || reachB md ops f e.on i)
/-- What has come up, has all that it waits for. -/
def Closed (md : Region.Mode) (ops : Array Oper) (listed : Array Bool) : Prop := ∀ j oj, ops[j]? = some oj → listed.getD j false = true → ∀ e ∈ oj.after, Region.binds md e = true → listed.getD e.on false = true
theorem reach_listed {listed : Array Bool} (hcl : Closed md ops listed) {i : Nat} : ∀ (f t : Nat) (ot : Oper), ops[t]? = some ot → (∀ e ∈ ot.after, Region.binds md e = true → listed.getD e.on false = true) → reachB md ops f t i = true → listed.getD i false = true
  | 0, _, _, _, _, h => by cases h
  | f + 1, t, ot, ht, hall, h => by
    unfold reachB at h
    rw [ht] at h
    obtain ⟨e, he, hb⟩ := Array.any_eq_true'.1 h
    simp only [Bool.and_eq_true, Bool.or_eq_true, beq_iff_eq] at hb
    have hl := hall e he hb.1
    rcases hb.2 with h1 | h1
    · rw [← h1]; exact hl
    · cases hd : ops[e.on]? with
      | none =>
        cases f with
        | zero => cases h1
        | succ f => unfold reachB at h1; rw [hd] at h1; cases h1
      | some od => exact reach_listed hcl f e.on od hd (hcl e.on od hd hl) h1
theorem closed_set {listed : Array Bool} {i : Nat} (hcl : Closed md ops listed) (hi : i ∈ Region.ready md ops listed) : Closed md ops (listed.setIfInBounds i true) := by
  obtain ⟨_, oi, hoi, hall⟩ := mem_ready.1 hi
  intro j oj hj hl e he hb
  by_cases hij : i = j
  · subst hij
    obtain rfl : oj = oi := Option.some.inj (hj.symm.trans hoi)
    exact getD_set_true (hall e he hb)
  · rw [getD_set_ne false hij] at hl
    exact getD_set_true (hcl j oj hj hl e he hb)
theorem unlisted {listed : Array Bool} {i : Nat} (h : listed.getD i true = false) : listed.getD i false = false := getD_both h
/-- An operation that reads what S tells may be taken first, if t waits for it and C gives S, or if S holds of every world. -/
theorem wpAnyT_first {t i F : Nat} {oi : Oper} {v : Value} {S : World → Prop} (hi : ops[i]? = some oi) (hsel : ∀ (j : Nat) (o : Oper) cs b, ops[j]? = some o → o.op ≠ .select cs b)
    (hQ : ∀ c a w, Q (.panic c) (a.put oi.dst v) w → Q (.panic c) a w) (ht : t < ops.size) (hti : t ≠ i) (hre : (reachB md ops F t i = true ∧ ∀ w, C w → S w) ∨ ∀ w, S w) :
    ∀ (fuel : Nat) (listed : Array Bool) (a : Act) (w : World), listed.size = ops.size → Closed md ops listed →
      (∀ j oj, ops[j]? = some oj → j ≠ i → listed.getD j true = false → (∀ e ∈ oj.after, Region.binds md e = true → e.on ≠ i) → oi.apart ops oj = true) →
      i ∈ Region.ready md ops listed → YieldsIf P ops S oi v a → (listed.getD t true = false → C w) →
      wpAnyT P md ops Q C t fuel (listed.setIfInBounds i true) (a.put oi.dst v) w → wpAnyT P md ops Q C t (fuel + 1) listed a w := by
  intro fuel
  have hot : ∃ ot, ops[t]? = some ot := ⟨_, Array.getElem?_eq_getElem ht⟩
  obtain ⟨ot, hot⟩ := hot
  have hSw : ∀ (listed : Array Bool) (w : World), listed.size = ops.size → Closed md ops listed → i ∈ Region.ready md ops listed → (listed.getD t true = false → C w) → S w := by
    intro listed w hsz hcl hr hC
    rcases hre with ⟨hre, hCS⟩ | hS
    · have hiun := (mem_ready.1 hr).1
      refine hCS w (hC ?_)
      cases hl : listed.getD t true with
      | false => rfl
      | true =>
        have hlt : t < listed.size := by omega
        have hlf : listed.getD t false = true := by simp [hlt] at hl ⊢; exact hl
        have := reach_listed hcl F t ot hot (hcl t ot hot hlf) hre
        rw [unlisted hiun] at this
        cases this
    · exact hS w
  have hset : ∀ (listed : Array Bool) (w : World), (listed.getD t true = false → C w) → (listed.setIfInBounds i true).getD t true = false → C w := fun listed w h h2 => by
    rw [getD_set_ne true (Ne.symm hti)] at h2; exact h h2
  induction fuel with
  | zero =>
    intro listed a w hsz hcl _ hr hy hC H
    refine ⟨fun h => (by rw [h] at hr; cases hr), fun j hj => ?_⟩
    by_cases hji : j = i
    · subst hji; exact hy.wpOp hi (hSw _ _ hsz hcl hr hC) ⟨hset _ _ hC, H⟩
    · have := ready_mono hj hji
      rw [H.1] at this
      cases this
  | succ fuel ih =>
    intro listed a w hsz hcl hfree hr hy hC H
    refine ⟨fun h => (by rw [h] at hr; cases hr), fun j hj => ?_⟩
    by_cases hji : j = i
    · subst hji; exact hy.wpOp hi (hSw _ _ hsz hcl hr hC) ⟨hset _ _ hC, H⟩
    · have h1 := H.2 j (ready_mono hj hji)
      have hiun := (mem_ready.1 hr).1
      obtain ⟨hjun, oj, hoj, hall⟩ := mem_ready.1 hj
      have hnot : ∀ e ∈ oj.after, Region.binds md e = true → e.on ≠ i := fun e he hb heq => by
        have h1 := hall e he hb
        rw [heq, unlisted hiun] at h1
        cases h1
      have h2 := wpOp_putIf hoj (hfree j oj hoj hji hjun hnot) (fun cs b => hsel i oi cs b hi) (fun cs b => hsel j oj cs b hoj) hQ hy h1
      have hfree' : ∀ k ok, ops[k]? = some ok → k ≠ i → (listed.setIfInBounds j true).getD k true = false →
          (∀ e ∈ ok.after, Region.binds md e = true → e.on ≠ i) → oi.apart ops ok = true := fun k ok hk hki hun hno => by
        refine hfree k ok hk hki ?_ hno
        by_cases hjk : j = k
        · subst hjk; exact hjun
        · rw [getD_set_ne true hjk] at hun; exact hun
      have comm : (listed.setIfInBounds i true).setIfInBounds j true = (listed.setIfInBounds j true).setIfInBounds i true := Array.setIfInBounds_comm _ _ (Ne.symm hji)
      refine wpOp_mono (fun a' w' h3 => ?_) h2
      rw [comm] at h3
      have hCj : (listed.setIfInBounds j true).getD t true = false → C w' := fun hu => h3.2.1 (by rw [getD_set_ne true (Ne.symm hti)]; exact hu)
      exact ⟨hCj, ih (listed.setIfInBounds j true) a' w' (by simp [hsz]) (closed_set hcl hj) hfree' (ready_mono hr (Ne.symm hji)) h3.1 hCj h3.2.2⟩
/-- The tail, as a list: behind each of its first p operations C is to be shown. -/
def wpTail (P : Program) (ops : Array Oper) (Q : Exit → Act → World → Prop) (C : World → Prop) : Nat → List Oper → Act → World → Prop
  | 0, l, a, w => wpList P ops Q l a w
  | _ + 1, [], a, w => Q .normal a w
  | p + 1, o :: l, a, w => if Region.wanted o (yielded ops a.tmps) then o.wp P a w (fun a' w' => C w' ∧ wpTail P ops Q C p l a' w') Q ∨ (o.asks P a w ∧ LetsOut Q) else C w ∧ wpTail P ops Q C p l (a.put o.dst undef) w
theorem wpOp_of_tail {k p : Nat} {o : Oper} {l : List Oper} {a : Act} {w : World} (h0 : ops[k]? = some o) (h : wpTail P ops Q C (p + 1) (o :: l) a w) : wpOp P ops Q k (fun a' w' => C w' ∧ wpTail P ops Q C p l a' w') a w := by
  unfold wpTail at h
  unfold wpOp
  simp only [h0]
  split
  · rename_i hw; rw [if_pos hw] at h; exact h
  · rename_i hw; rw [if_neg hw] at h; exact h
theorem wpAnyT_of_list {t : Nat} : ∀ (l : List Oper) (k : Nat) (listed : Array Bool) (a : Act) (w : World), t < k → (∀ j, l[j]? = ops[k + j]?) → listed.getD t true = true →
    Region.seqB md ops l.length k listed = true → wpList P ops Q l a w → wpAnyT P md ops Q C t l.length listed a w
  | [], _, _, _, _, _, _, _, hB, h => ⟨by simpa [Region.seqB] using hB, h⟩
  | o :: l, k, listed, a, w, htk, hl, hlt, hB, h => by
    have h0 : ops[k]? = some o := by simpa using (hl 0).symm
    simp only [List.length_cons, Region.seqB, Bool.and_eq_true, decide_eq_true_eq] at hB
    have hset : (listed.setIfInBounds k true).getD t true = true := by rw [getD_set_ne true (by omega)]; exact hlt
    refine ⟨fun h1 => (by rw [hB.1] at h1; cases h1), fun i hi => ?_⟩
    rw [hB.1] at hi
    obtain rfl : i = k := by simpa using hi
    have hw : wpOp P ops Q i (wpList P ops Q l) a w := by unfold wpOp; simp only [h0]; exact h
    exact wpOp_mono (fun a' w' h' => ⟨fun hf => (by rw [hset] at hf; cases hf), wpAnyT_of_list l (i + 1) _ a' w' (by omega) (fun j => by have := hl (j + 1); simpa [Nat.add_assoc, Nat.add_comm 1 j] using this) hset hB.2 h'⟩) hw
theorem wpAnyT_of_tail {t : Nat} (ht : t < ops.size) : ∀ (p : Nat) (l : List Oper) (k : Nat) (listed : Array Bool) (a : Act) (w : World), k + p = t → (∀ j, l[j]? = ops[k + j]?) → listed.size = ops.size →
    Region.seqB md ops l.length k listed = true → wpTail P ops Q C p l a w → wpAnyT P md ops Q C t l.length listed a w
  | 0, [], k, listed, a, w, hk, hl, _, hB, h => ⟨by simpa [Region.seqB] using hB, h⟩
  | 0, o :: l, k, listed, a, w, hk, hl, hsz, hB, h => by
    obtain rfl : k = t := by omega
    have h0 : ops[k]? = some o := by simpa using (hl 0).symm
    simp only [List.length_cons, Region.seqB, Bool.and_eq_true, decide_eq_true_eq] at hB
    have hset : (listed.setIfInBounds k true).getD k true = true := by
      have : k < listed.size := by omega
      simp [this]
    refine ⟨fun h1 => (by rw [hB.1] at h1; cases h1), fun i hi => ?_⟩
    rw [hB.1] at hi
    obtain rfl : i = k := by simpa using hi
    have h' : wpList P ops Q (o :: l) a w := h
    have hw : wpOp P ops Q i (wpList P ops Q l) a w := by unfold wpOp; simp only [h0]; exact h'
    exact wpOp_mono (fun a' w' h' => ⟨fun hf => (by rw [hset] at hf; cases hf), wpAnyT_of_list l (i + 1) _ a' w' (by omega) (fun j => by have := hl (j + 1); simpa [Nat.add_assoc, Nat.add_comm 1 j] using this) hset hB.2 h'⟩) hw
  | p + 1, [], k, listed, a, w, hk, hl, hsz, hB, h => ⟨by simpa [Region.seqB] using hB, h⟩
  | p + 1, o :: l, k, listed, a, w, hk, hl, hsz, hB, h => by
    have h0 : ops[k]? = some o := by simpa using (hl 0).symm
    simp only [List.length_cons, Region.seqB, Bool.and_eq_true, decide_eq_true_eq] at hB
    refine ⟨fun h1 => (by rw [hB.1] at h1; cases h1), fun i hi => ?_⟩
    rw [hB.1] at hi
    obtain rfl : i = k := by simpa using hi
    exact wpOp_mono (fun a' w' h' => ⟨fun _ => h'.1, wpAnyT_of_tail ht p l (i + 1) _ a' w' (by omega) (fun j => by have := hl (j + 1); simpa [Nat.add_assoc, Nat.add_comm 1 j] using this) (by simp [hsz]) hB.2 h'.2⟩) (wpOp_of_tail h0 h)
/-- Operations that only yield a value, or halt. -/
def plainB (o : Oper) : Bool := match o.op with
  | .move _ | .assign _ | .load _ _ | .fieldAddr _ _ _ | .indexAddr _ _ _ | .nilCheck _ => true
  | _ => false
theorem value_only {s : Sem Value} {w w' : World} {n : Next} (h : (do pure (.value (← s)) : Sem Next).run P w = .ok n w') : ∃ u, n = .value u := by
  rw [Sem.run_bind] at h
  cases hs : s.run P w with
  | ok u w1 => rw [hs] at h; simp only [Result.andThen_ok, Sem.run_pure] at h; injection h with h1 h2; exact ⟨u, h1.symm⟩
  | halt x w1 => rw [hs] at h; cases h
theorem plain_value {o : Oper} {ρ : Operand → Value} {w w' : World} {n : Next} (hp : plainB o = true) (h : (execOp ρ o).run P w = .ok n w') : ∃ u, n = .value u := by
  unfold plainB at hp
  unfold execOp at h
  split at hp
  · rename_i x hx; rw [hx] at h; dsimp only at h; rw [Sem.run_pure] at h; injection h with h1 h2; exact ⟨_, h1.symm⟩
  · rename_i x hx; rw [hx] at h; dsimp only at h; rw [Sem.run_pure] at h; injection h with h1 h2; exact ⟨_, h1.symm⟩
  · rename_i x y hx; rw [hx] at h; exact value_only h
  · rename_i x y z hx; rw [hx] at h; exact value_only h
  · rename_i x y z hx; rw [hx] at h; exact value_only h
  · rename_i x hx
    rw [hx] at h
    dsimp only at h
    split at h
    · simp [go_sem] at h
    · simp [go_sem] at h
    · simp [go_sem] at h
    · split at h
      · simp [go_sem] at h
      · rename_i t w2 _
        rw [Sem.run_bind] at h
        cases hp1 : program.run P w with
        | halt x w1 => rw [hp1] at h; cases h
        | ok q w1 =>
          rw [hp1] at h
          simp only [Result.andThen_ok] at h
          rw [Sem.run_bind] at h
          generalize (nilAhead _ _ _ _).run P w1 = r at h
          cases r with
          | halt x w3 => cases h
          | ok q2 w3 =>
            simp only [Result.andThen_ok] at h
            split at h
            · simp [go_sem] at h
            · rw [Sem.run_pure] at h; injection h with h1 h2; exact ⟨_, h1.symm⟩
      · rw [Sem.run_pure] at h; injection h with h1 h2; exact ⟨_, h1.symm⟩
    · rw [Sem.run_pure] at h; injection h with h1 h2; exact ⟨_, h1.symm⟩
  · cases hp
/-- A move: it asks the world nothing. -/
def moveB (o : Oper) : Bool := match o.op with | .move _ => true | _ => false
theorem moveB_run {o : Oper} (h : moveB o = true) (ρ : Operand → Value) : ∃ v, ∀ w, (execOp ρ o).run P w = .ok (.value v) w := by
  unfold moveB at h
  unfold execOp
  split at h
  · rename_i x hx; rw [hx]; exact ⟨_, fun w => Sem.run_pure _ _ _⟩
  · cases h
/-- The head as the text orders it; then the tail, forced. -/
def headB (md : Region.Mode) (ops : Array Oper) (t F : Nat) : Nat → Nat → Array Bool → Bool
  | 0, k, listed => Region.seqB md ops (ops.size - k) k listed
  | f + 1, k, listed => (Region.ready md ops listed).contains k && Region.free md ops listed k && (reachB md ops F t k || (match ops[k]? with | some o => moveB o | none => false)) && (match ops[k]? with | some o => plainB o | none => false) && headB md ops t F f (k + 1) (listed.setIfInBounds k true)
theorem yieldsIf_of_quiet {o : Oper} {a : Act} {K : Act → Prop} (hp : plainB o = true) (h : if Region.wanted o (yielded ops a.tmps) then o.quiet P a C K else K (a.put o.dst undef)) : ∃ v, YieldsIf P ops C o v a ∧ K (a.put o.dst v) := by
  by_cases hw : Region.wanted o (yielded ops a.tmps) = true
  · rw [if_pos hw] at h
    obtain ⟨v, h1, h2⟩ := h
    refine ⟨v, .inl ⟨hw, fun w hC => ?_⟩, h2⟩
    have h3 := h1 w hC
    unfold Oper.quietAt at h3
    generalize hr : (execOp a.eval o).run P w = r at h3
    cases r with
    | halt x w' => exact h3.elim
    | ok n w' =>
      obtain ⟨u, rfl⟩ := plain_value hp hr
      obtain ⟨e1, e2⟩ := h3
      rw [e1, e2]
  · rw [if_neg hw] at h
    exact ⟨undef, .inr ⟨by simpa using hw, rfl⟩, h⟩
theorem yieldsIf_of_move {o : Oper} {v : Value} {a : Act} {w : World} (hp : moveB o = true) (hC : C w) (h : YieldsIf P ops C o v a) : YieldsIf P ops (fun _ => True) o v a := by
  rcases h with ⟨hw, hv⟩ | h
  · obtain ⟨u, hu⟩ := moveB_run (P := P) hp a.eval
    have h1 := hv w hC
    rw [hu w] at h1
    injection h1 with h1 h2
    injection h1 with h1
    exact .inl ⟨hw, fun w' _ => by rw [← h1]; exact hu w'⟩
  · exact .inr h
theorem wpAnyT_of_head {t F : Nat} (hsel : Region.noSelect ops = true) (hQ : ∀ c a a' w, Q (.panic c) a w → Q (.panic c) a' w) (ht : t < ops.size) {w : World} (hC : C w) {n : Nat} (hn : n ≤ t) {lt : List Oper} (hlt : ∀ j, lt[j]? = ops[n + j]?) (hll : lt.length = ops.size - n) :
    ∀ (l : List Oper) (k : Nat) (listed : Array Bool) (a : Act), (∀ j, j < l.length → l[j]? = ops[k + j]?) → k + l.length = n → listed.size = ops.size → Closed md ops listed →
    headB md ops t F l.length k listed = true → wpQuiet P ops C (fun a' => wpTail P ops Q C (t - n) lt a' w) l a → wpAnyT P md ops Q C t (ops.size - k) listed a w
  | [], k, listed, a, _, hk, hsz, _, hB, h => by
    obtain rfl : k = n := by simpa using hk
    have hB' : Region.seqB md ops (ops.size - k) k listed = true := hB
    rw [← hll] at hB' ⊢
    exact wpAnyT_of_tail ht (t - k) lt k listed a w (by omega) hlt hsz hB' h
  | o :: l, k, listed, a, hl, hk, hsz, hcl, hB, h => by
    have h0 : ops[k]? = some o := by simpa using (hl 0 (by simp)).symm
    simp only [List.length_cons, headB, Bool.and_eq_true, h0] at hB
    obtain ⟨⟨⟨⟨hr, hf⟩, hre⟩, hp⟩, hB'⟩ := hB
    have hkn : k < n := by simp only [List.length_cons] at hk; omega
    have hr' : k ∈ Region.ready md ops listed := by simpa using hr
    obtain ⟨v, hy, hK⟩ := yieldsIf_of_quiet hp (by unfold wpQuiet at h; exact h)
    have hrec := wpAnyT_of_head hsel hQ ht hC hn hlt hll l (k + 1) (listed.setIfInBounds k true) (a.put o.dst v) (fun j hj => by have := hl (j + 1) (by simp; omega); simpa [Nat.add_assoc, Nat.add_comm 1 j] using this) (by simp only [List.length_cons] at hk; omega) (by simp [hsz]) (closed_set hcl hr') hB' hK
    rw [show ops.size - k = ops.size - (k + 1) + 1 by omega]
    rcases (Bool.or_eq_true_iff.1 hre : _ ∨ _) with hre | hmv
    · exact wpAnyT_first (S := C) h0 (Region.noSelect_spec hsel) (fun c a w hq => hQ c _ _ w hq) ht (by omega) (.inl ⟨hre, fun _ h => h⟩) (ops.size - (k + 1)) listed a w hsz hcl (Region.free_spec h0 hf) hr' hy (fun _ => hC) hrec
    · exact wpAnyT_first (S := fun _ => True) (F := F) h0 (Region.noSelect_spec hsel) (fun c a w hq => hQ c _ _ w hq) ht (by omega) (.inr fun _ => trivial) (ops.size - (k + 1)) listed a w hsz hcl (Region.free_spec h0 hf) hr' (yieldsIf_of_move hmv hC hy) (fun _ => hC) hrec
/-- The region: the head in the order of the text, from any world of C; then the tail. -/
theorem wp_region_head {id : Nat} {l : List Oper} {a : Act} {w : World} (n t F : Nat) (hm : P.follows .mixedOrders = true) (hsel : Region.noSelect l.toArray = true) (hnt : (decide (n ≤ t) && decide (t < l.length)) = true) (hB : headB .any l.toArray t F n 0 (Array.replicate l.toArray.size false) = true)
    (hQ : ∀ c a a' w, Q (.panic c) a w → Q (.panic c) a' w) (hC : C { w with drawn := w.drawn + 1 })
    (h : wpQuiet P l.toArray C (fun a' => wpTail P l.toArray Q C (t - n) (l.drop n) a' { w with drawn := w.drawn + 1 }) (l.take n) a) : (Code.region id l.toArray true).wp P Q a w := by
  simp only [Bool.and_eq_true, decide_eq_true_eq] at hnt
  have htl : (l.take n).length = n := by simp; omega
  refine wp_region_any hm (wpAny_of_T (C := C) (t := t) _ _ _ _ ?_)
  have := wpAnyT_of_head (md := .any) (F := F) hsel hQ (by simpa using hnt.2) hC hnt.1 (lt := l.drop n) (fun j => by simp [List.getElem?_drop]) (by simp) (l.take n) 0 (Array.replicate l.toArray.size false) a (fun j hj => by
    have hj' : j < n := by rw [htl] at hj; exact hj
    simp [hj']) (by simpa using htl) (by simp) (fun j oj _ hl => (by rw [getD_replicate_false] at hl; cases hl)) (by rw [htl]; exact hB) h
  simpa using this
theorem noPanic_hQ {Q : Exit → Act → World → Prop} (c : List PanicEntry) (a a' : Act) (w : World) (h : NoPanic Q (.panic c) a w) : NoPanic Q (.panic c) a' w := h.elim
/-- The same, where the region is shown not to panic. -/
theorem wp_region_headN {id : Nat} {l : List Oper} {a : Act} {w : World} (n t F : Nat) (hm : P.follows .mixedOrders = true) (hsel : Region.noSelect l.toArray = true) (hnt : (decide (n ≤ t) && decide (t < l.length)) = true) (hB : headB .any l.toArray t F n 0 (Array.replicate l.toArray.size false) = true)
    (hC : C { w with drawn := w.drawn + 1 })
    (h : wpQuiet P l.toArray C (fun a' => wpTail P l.toArray (NoPanic Q) C (t - n) (l.drop n) a' { w with drawn := w.drawn + 1 }) (l.take n) a) : (Code.region id l.toArray true).wp P Q a w :=
  wp_region_noPanic (wp_region_head n t F hm hsel hnt hB (fun c a a' w h => noPanic_hQ c a a' w h) hC h)
/-- What an operation of the tail leaves is handed on. -/
def AfterT (R : Act → World → Prop) (Q : Exit → Act → World → Prop) : Exit → Act → World → Prop
  | .normal, a, w => R a w
  | e, a, w => Q e a w
theorem AfterT.normal {R : Act → World → Prop} {Q : Exit → Act → World → Prop} {a : Act} {w : World} (h : R a w) : AfterT R Q .normal a w := h
theorem wpTail_zero {l : List Oper} {a : Act} {w : World} (h : wpList P ops Q l a w) : wpTail P ops Q C 0 l a w := h
theorem list_build {R : Act → World → Prop} {o : Oper} {x : Operand} {v u : Value} {ty : TypeId} {a : Act} {w w' : World} (hg : o.guard = none) (ho : o.op = .buildSlice ty 1 #[(0, x)]) (hx : a.eval x = v)
    (hr : (Instr.buildSlice ty 1 #[(0, v)]).run P w = .ok u w') (h : R (a.put o.dst u) w') : wpList P ops (AfterT R Q) [o] a w := by
  unfold wpList
  rw [if_pos (by simp [Region.wanted, hg])]
  refine .inl ?_
  unfold Oper.wp execOp
  simp only [ho, List.map_toArray, List.map_cons, List.map_nil, hx]
  rw [Sem.run_bind, hr]
  exact h
/-- One operation of the tail, met as a list of one. -/
theorem wpTail_one {p : Nat} {o : Oper} {l : List Oper} {a : Act} {w : World} (hg : o.guard = none)
    (h : ∀ R : Act → World → Prop, (∀ a' w', C w' → wpTail P ops Q C p l a' w' → R a' w') → wpList P ops (AfterT R Q) [o] a w) : wpTail P ops Q C (p + 1) (o :: l) a w := by
  have hw : Region.wanted o (yielded ops a.tmps) = true := by simp [Region.wanted, hg]
  have h1 := h (fun a' w' => C w' ∧ wpTail P ops Q C p l a' w') fun _ _ h1 h2 => ⟨h1, h2⟩
  unfold wpTail
  unfold wpList at h1
  rw [if_pos hw] at h1 ⊢
  rcases h1 with h1 | h1
  · refine .inl ?_
    unfold Oper.wp at *
    generalize (execOp a.eval o).run P w = r at *
    cases r with
    | ok n w' => cases n <;> exact h1
    | halt x w' => cases x <;> exact h1
  · exact .inr ⟨h1.1, h1.2⟩
/-- A world of which C0 holds. -/
structure HeldW (C0 : World → Prop) where
  val : World
  ok : C0 val
/-- The region: C is said of a world that is one of a kind; each world of the tail begins at the draw. -/
theorem wp_region_headC {id : Nat} {l : List Oper} {a : Act} {w : World} (C0 : World → Prop) (n t F : Nat) (hm : P.follows .mixedOrders = true) (hsel : Region.noSelect l.toArray = true) (hnt : (decide (n ≤ t) && decide (t < l.length)) = true) (hB : headB .any l.toArray t F n 0 (Array.replicate l.toArray.size false) = true)
    (hC : C0 w.drew)
    (h : wpQuiet P l.toArray (fun W => ∃ d : HeldW C0, W = d.val) (fun a' => wpTail P l.toArray (NoPanic Q) (fun W => ∃ d : HeldW C0, W = d.val) (t - n) (l.drop n) a' w.drew) (l.take n) a) : (Code.region id l.toArray true).wp P Q a w :=
  wp_region_headN n t F hm hsel hnt hB ⟨⟨_, hC⟩, rfl⟩ h
theorem isC {C0 : World → Prop} {W : World} (h : C0 W) : ∃ d : HeldW C0, W = d.val := ⟨⟨W, h⟩, rfl⟩
/-! ### A plan: which operation is taken when -/
/-- (true, k): number k, that only reads, ahead of all; (false, k): number k, the only one that is ready; behind all: the tail. -/
def wpPlan (P : Program) (ops : Array Oper) (Q : Exit → Act → World → Prop) (C : World → Prop) (lt : List Oper) : List (Bool × Nat) → Act → World → Prop
  | [], a, w => wpList P ops Q lt a w
  | (true, k) :: r, a, w => match ops[k]? with
    | some o => wpQuiet P ops C (fun a' => wpPlan P ops Q C lt r a' w) [o] a
    | none => False
  | (false, k) :: r, a, w => match ops[k]? with
    | some o => if Region.wanted o (yielded ops a.tmps) then o.wp P a w (fun a' w' => C w' ∧ wpPlan P ops Q C lt r a' w') Q ∨ (o.asks P a w ∧ LetsOut Q) else C w ∧ wpPlan P ops Q C lt r (a.put o.dst undef) w
    | none => False
def planB (md : Region.Mode) (ops : Array Oper) (t F : Nat) : List (Bool × Nat) → Array Bool → Bool
  | [], listed => Region.seqB md ops (ops.size - t) t listed
  | (true, k) :: r, listed => (Region.ready md ops listed).contains k && Region.free md ops listed k && (reachB md ops F t k || (match ops[k]? with | some o => moveB o | none => false)) && (match ops[k]? with | some o => plainB o | none => false) && decide (t ≠ k) && planB md ops t F r (listed.setIfInBounds k true)
  | (false, k) :: r, listed => decide (Region.ready md ops listed = [k]) && planB md ops t F r (listed.setIfInBounds k true)
theorem wpAnyT_of_plan {t F : Nat} (hsel : Region.noSelect ops = true) (hQ : ∀ c a a' w, Q (.panic c) a w → Q (.panic c) a' w) (ht : t < ops.size) {lt : List Oper} (hlt : ∀ j, lt[j]? = ops[t + j]?) (hll : lt.length = ops.size - t) :
    ∀ (pl : List (Bool × Nat)) (listed : Array Bool) (a : Act) (w : World), C w → listed.size = ops.size → Closed md ops listed → planB md ops t F pl listed = true → wpPlan P ops Q C lt pl a w → wpAnyT P md ops Q C t (pl.length + (ops.size - t)) listed a w
  | [], listed, a, w, hC, hsz, _, hB, h => by
    have hB' : Region.seqB md ops (ops.size - t) t listed = true := hB
    rw [← hll] at hB'
    rw [List.length_nil, Nat.zero_add, ← hll]
    exact wpAnyT_of_tail ht 0 lt t listed a w rfl hlt hsz hB' h
  | (true, k) :: r, listed, a, w, hC, hsz, hcl, hB, h => by
    unfold wpPlan at h
    cases h0 : ops[k]? with
    | none => rw [h0] at h; exact h.elim
    | some o =>
      rw [h0] at h
      simp only [planB, Bool.and_eq_true, h0, decide_eq_true_eq] at hB
      obtain ⟨⟨⟨⟨⟨hr, hf⟩, hre⟩, hp⟩, htk⟩, hB'⟩ := hB
      have hr' : k ∈ Region.ready md ops listed := by simpa using hr
      obtain ⟨v, hy, hK⟩ := yieldsIf_of_quiet (K := fun a' => wpPlan P ops Q C lt r a' w) hp (by unfold wpQuiet at h; exact h)
      have hrec := wpAnyT_of_plan (F := F) hsel hQ ht hlt hll r (listed.setIfInBounds k true) (a.put o.dst v) w hC (by simp [hsz]) (closed_set hcl hr') hB' hK
      rw [List.length_cons, show r.length + 1 + (ops.size - t) = r.length + (ops.size - t) + 1 by omega]
      rcases (Bool.or_eq_true_iff.1 hre : _ ∨ _) with hre | hmv
      · exact wpAnyT_first (S := C) h0 (Region.noSelect_spec hsel) (fun c a w hq => hQ c _ _ w hq) ht htk (.inl ⟨hre, fun _ h => h⟩) _ listed a w hsz hcl (Region.free_spec h0 hf) hr' hy (fun _ => hC) hrec
      · exact wpAnyT_first (S := fun _ => True) (F := F) h0 (Region.noSelect_spec hsel) (fun c a w hq => hQ c _ _ w hq) ht htk (.inr fun _ => trivial) _ listed a w hsz hcl (Region.free_spec h0 hf) hr' (yieldsIf_of_move hmv hC hy) (fun _ => hC) hrec
  | (false, k) :: r, listed, a, w, hC, hsz, hcl, hB, h => by
    unfold wpPlan at h
    cases h0 : ops[k]? with
    | none => rw [h0] at h; exact h.elim
    | some o =>
      rw [h0] at h
      simp only [planB, Bool.and_eq_true, decide_eq_true_eq] at hB
      rw [List.length_cons, show r.length + 1 + (ops.size - t) = r.length + (ops.size - t) + 1 by omega]
      refine ⟨fun h1 => (by rw [hB.1] at h1; cases h1), fun i hi => ?_⟩
      have hi' := hi
      rw [hB.1] at hi
      obtain rfl : i = k := by simpa using hi
      have hw : wpOp P ops Q i (fun a' w' => C w' ∧ wpPlan P ops Q C lt r a' w') a w := by
        unfold wpOp
        simp only [h0]
        exact h
      exact wpOp_mono (fun a' w' h' => ⟨fun _ => h'.1, wpAnyT_of_plan (F := F) hsel hQ ht hlt hll r _ a' w' h'.1 (by simp [hsz]) (closed_set hcl hi') hB.2 h'.2⟩) hw
/-- The region by a plan. -/
theorem wp_region_plan {id : Nat} {l : List Oper} {a : Act} {w : World} (C0 : World → Prop) (pl : List (Bool × Nat)) (t F : Nat) (hm : P.follows .mixedOrders = true) (hsel : Region.noSelect l.toArray = true) (hnt : (decide (pl.length = t) && decide (t < l.length)) = true) (hB : planB .any l.toArray t F pl (Array.replicate l.toArray.size false) = true)
    (hC : C0 w.drew)
    (h : wpPlan P l.toArray (NoPanic Q) (fun W => ∃ d : HeldW C0, W = d.val) (l.drop t) pl a w.drew) : (Code.region id l.toArray true).wp P Q a w := by
  simp only [Bool.and_eq_true, decide_eq_true_eq] at hnt
  refine wp_region_noPanic (wp_region_any hm (wpAny_of_T (C := fun W => ∃ d : HeldW C0, W = d.val) (t := t) _ _ _ _ ?_))
  have := wpAnyT_of_plan (md := .any) (F := F) (C := fun W => ∃ d : HeldW C0, W = d.val) hsel (fun c a a' w h => noPanic_hQ c a a' w h) (by simpa using hnt.2) (lt := l.drop t) (fun j => by simp [List.getElem?_drop]) (by simp) pl (Array.replicate l.toArray.size false) a w.drew ⟨⟨_, hC⟩, rfl⟩ (by simp) (fun j oj _ hl => (by rw [getD_replicate_false] at hl; cases hl)) hB h
  have e : pl.length + (l.toArray.size - t) = l.toArray.size := by simp; omega
  rw [e] at this
  exact this
theorem plan_quiet {k : Nat} {o : Oper} {r : List (Bool × Nat)} {lt : List Oper} {a : Act} {w : World} (h0 : ops[k]? = some o) (h : wpQuiet P ops C (fun a' => wpPlan P ops Q C lt r a' w) [o] a) : wpPlan P ops Q C lt ((true, k) :: r) a w := by
  unfold wpPlan
  rw [h0]
  exact h
theorem plan_op {k : Nat} {o : Oper} {r : List (Bool × Nat)} {lt : List Oper} {a : Act} {w : World} (h0 : ops[k]? = some o) (hg : o.guard = none)
    (h : ∀ R : Act → World → Prop, (∀ a' w', C w' → wpPlan P ops Q C lt r a' w' → R a' w') → wpList P ops (AfterT R Q) [o] a w) : wpPlan P ops Q C lt ((false, k) :: r) a w := by
  unfold wpPlan
  rw [h0]
  have hw : Region.wanted o (yielded ops a.tmps) = true := by simp [Region.wanted, hg]
  have h1 := h (fun a' w' => C w' ∧ wpPlan P ops Q C lt r a' w') fun _ _ h1 h2 => ⟨h1, h2⟩
  unfold wpList at h1
  rw [if_pos hw] at h1
  show if _ then _ else _
  rw [if_pos hw]
  rcases h1 with h1 | h1
  · refine .inl ?_
    unfold Oper.wp at *
    generalize (execOp a.eval o).run P w = r at *
    cases r with
    | ok n w' => cases n <;> exact h1
    | halt x w' => cases x <;> exact h1
  · exact .inr ⟨h1.1, h1.2⟩
theorem plan_done {lt : List Oper} {a : Act} {w : World} (h : wpList P ops Q lt a w) : wpPlan P ops Q C lt [] a w := h
end
/-- The operation of a number, out of a region that is written out. -/
theorem nth_zero {o : Oper} {l : List Oper} : (o :: l).toArray[0]? = some o := by simp
theorem nth_succ {o x : Oper} {l : List Oper} {k : Nat} (h : l.toArray[k]? = some o) : (x :: l).toArray[k + 1]? = some o := by simpa using h
end Go.Bk

/- General: a region that draws its order, by a plan that may branch where two operations are ready. No program is named here. -/
namespace Go.Bk
open Go
inductive Plan where
  | tail
  | quiet (k : Nat) (p : Plan)
  | op (k : Nat) (p : Plan)
  | both (k1 : Nat) (p1 : Plan) (k2 : Nat) (p2 : Plan)
section
variable {P : Program} {ops : Array Oper} {Q : Exit → Act → World → Prop} {md : Region.Mode} {C : World → Prop}
def Plan.len : Plan → Nat
  | .tail => 0
  | .quiet _ p => p.len + 1
  | .op _ p => p.len + 1
  | .both _ p1 _ _ => p1.len + 1
/-- Number k comes up: C behind it, and what follows. -/
def opGoal (P : Program) (ops : Array Oper) (Q : Exit → Act → World → Prop) (C : World → Prop) (k : Nat) (K : Act → World → Prop) (a : Act) (w : World) : Prop := match ops[k]? with
  | some o => if Region.wanted o (yielded ops a.tmps) then o.wp P a w (fun a' w' => C w' ∧ K a' w') Q ∨ (o.asks P a w ∧ LetsOut Q) else C w ∧ K (a.put o.dst undef) w
  | none => False
theorem opGoal_wpOp {k : Nat} {K : Act → World → Prop} {a : Act} {w : World} (h : opGoal P ops Q C k K a w) : wpOp P ops Q k (fun a' w' => C w' ∧ K a' w') a w := by
  unfold opGoal at h
  unfold wpOp
  cases h0 : ops[k]? with
  | none => rw [h0] at h; exact h.elim
  | some o => rw [h0] at h; exact h
def wpTree (P : Program) (ops : Array Oper) (Q : Exit → Act → World → Prop) (C : World → Prop) (lt : List Oper) : Plan → Act → World → Prop
  | .tail, a, w => wpList P ops Q lt a w
  | .quiet k p, a, w => match ops[k]? with
    | some o => wpQuiet P ops C (fun a' => wpTree P ops Q C lt p a' w) [o] a
    | none => False
  | .op k p, a, w => opGoal P ops Q C k (wpTree P ops Q C lt p) a w
  | .both k1 p1 k2 p2, a, w => opGoal P ops Q C k1 (wpTree P ops Q C lt p1) a w ∧ opGoal P ops Q C k2 (wpTree P ops Q C lt p2) a w
def treeB (md : Region.Mode) (ops : Array Oper) (t F : Nat) : Plan → Array Bool → Bool
  | .tail, listed => Region.seqB md ops (ops.size - t) t listed
  | .quiet k p, listed => (Region.ready md ops listed).contains k && Region.free md ops listed k && (reachB md ops F t k || (match ops[k]? with | some o => moveB o | none => false)) && (match ops[k]? with | some o => plainB o | none => false) && decide (t ≠ k) && treeB md ops t F p (listed.setIfInBounds k true)
  | .op k p, listed => decide (Region.ready md ops listed = [k]) && treeB md ops t F p (listed.setIfInBounds k true)
  | .both k1 p1 k2 p2, listed => decide (Region.ready md ops listed = [k1, k2]) && decide (p1.len = p2.len) && treeB md ops t F p1 (listed.setIfInBounds k1 true) && treeB md ops t F p2 (listed.setIfInBounds k2 true)
theorem wpAnyT_of_tree {t F : Nat} (hsel : Region.noSelect ops = true) (hQ : ∀ c a a' w, Q (.panic c) a w → Q (.panic c) a' w) (ht : t < ops.size) {lt : List Oper} (hlt : ∀ j, lt[j]? = ops[t + j]?) (hll : lt.length = ops.size - t) :
    ∀ (p : Plan) (listed : Array Bool) (a : Act) (w : World), C w → listed.size = ops.size → Closed md ops listed → treeB md ops t F p listed = true → wpTree P ops Q C lt p a w → wpAnyT P md ops Q C t (p.len + (ops.size - t)) listed a w
  | .tail, listed, a, w, hC, hsz, _, hB, h => by
    have hB' : Region.seqB md ops (ops.size - t) t listed = true := hB
    rw [← hll] at hB'
    rw [show Plan.tail.len = 0 from rfl, Nat.zero_add, ← hll]
    exact wpAnyT_of_tail ht 0 lt t listed a w rfl hlt hsz hB' h
  | .quiet k r, listed, a, w, hC, hsz, hcl, hB, h => by
    unfold wpTree at h
    cases h0 : ops[k]? with
    | none => rw [h0] at h; exact h.elim
    | some o =>
      rw [h0] at h
      simp only [treeB, Bool.and_eq_true, h0, decide_eq_true_eq] at hB
      obtain ⟨⟨⟨⟨⟨hr, hf⟩, hre⟩, hp⟩, htk⟩, hB'⟩ := hB
      have hr' : k ∈ Region.ready md ops listed := by simpa using hr
      obtain ⟨v, hy, hK⟩ := yieldsIf_of_quiet (K := fun a' => wpTree P ops Q C lt r a' w) hp (by unfold wpQuiet at h; exact h)
      have hrec := wpAnyT_of_tree (F := F) hsel hQ ht hlt hll r (listed.setIfInBounds k true) (a.put o.dst v) w hC (by simp [hsz]) (closed_set hcl hr') hB' hK
      rw [show (Plan.quiet k r).len = r.len + 1 from rfl, show r.len + 1 + (ops.size - t) = r.len + (ops.size - t) + 1 by omega]
      rcases (Bool.or_eq_true_iff.1 hre : _ ∨ _) with hre | hmv
      · exact wpAnyT_first (S := C) h0 (Region.noSelect_spec hsel) (fun c a w hq => hQ c _ _ w hq) ht htk (.inl ⟨hre, fun _ h => h⟩) _ listed a w hsz hcl (Region.free_spec h0 hf) hr' hy (fun _ => hC) hrec
      · exact wpAnyT_first (S := fun _ => True) (F := F) h0 (Region.noSelect_spec hsel) (fun c a w hq => hQ c _ _ w hq) ht htk (.inr fun _ => trivial) _ listed a w hsz hcl (Region.free_spec h0 hf) hr' (yieldsIf_of_move hmv hC hy) (fun _ => hC) hrec
  | .op k r, listed, a, w, hC, hsz, hcl, hB, h => by
    unfold wpTree at h
    simp only [treeB, Bool.and_eq_true, decide_eq_true_eq] at hB
    rw [show (Plan.op k r).len = r.len + 1 from rfl, show r.len + 1 + (ops.size - t) = r.len + (ops.size - t) + 1 by omega]
    refine ⟨fun h1 => (by rw [hB.1] at h1; cases h1), fun i hi => ?_⟩
    have hi' := hi
    rw [hB.1] at hi
    obtain rfl : i = k := by simpa using hi
    exact wpOp_mono (fun a' w' h' => ⟨fun _ => h'.1, wpAnyT_of_tree (F := F) hsel hQ ht hlt hll r _ a' w' h'.1 (by simp [hsz]) (closed_set hcl hi') hB.2 h'.2⟩) (opGoal_wpOp h)
  | .both k1 p1 k2 p2, listed, a, w, hC, hsz, hcl, hB, h => by
    unfold wpTree at h
    simp only [treeB, Bool.and_eq_true, decide_eq_true_eq] at hB
    obtain ⟨⟨⟨hr, hlen⟩, hB1⟩, hB2⟩ := hB
    rw [show (Plan.both k1 p1 k2 p2).len = p1.len + 1 from rfl, show p1.len + 1 + (ops.size - t) = p1.len + (ops.size - t) + 1 by omega]
    refine ⟨fun h1 => (by rw [hr] at h1; cases h1), fun i hi => ?_⟩
    have hi' := hi
    rw [hr] at hi
    rcases (show i = k1 ∨ i = k2 by simpa using hi) with rfl | rfl
    · exact wpOp_mono (fun a' w' h' => ⟨fun _ => h'.1, wpAnyT_of_tree (F := F) hsel hQ ht hlt hll p1 _ a' w' h'.1 (by simp [hsz]) (closed_set hcl hi') hB1 h'.2⟩) (opGoal_wpOp h.1)
    · rw [hlen]
      exact wpOp_mono (fun a' w' h' => ⟨fun _ => h'.1, wpAnyT_of_tree (F := F) hsel hQ ht hlt hll p2 _ a' w' h'.1 (by simp [hsz]) (closed_set hcl hi') hB2 h'.2⟩) (opGoal_wpOp h.2)
/-- The region by a plan that branches. -/
theorem wp_region_tree {id : Nat} {l : List Oper} {a : Act} {w : World} (C0 : World → Prop) (p : Plan) (t F : Nat) (hm : P.follows .mixedOrders = true) (hsel : Region.noSelect l.toArray = true) (hnt : (decide (p.len = t) && decide (t < l.length)) = true) (hB : treeB .any l.toArray t F p (Array.replicate l.toArray.size false) = true)
    (hC : C0 w.drew)
    (h : wpTree P l.toArray (NoPanic Q) (fun W => ∃ d : HeldW C0, W = d.val) (l.drop t) p a w.drew) : (Code.region id l.toArray true).wp P Q a w := by
  simp only [Bool.and_eq_true, decide_eq_true_eq] at hnt
  refine wp_region_noPanic (wp_region_any hm (wpAny_of_T (C := fun W => ∃ d : HeldW C0, W = d.val) (t := t) _ _ _ _ ?_))
  have := wpAnyT_of_tree (md := .any) (F := F) (C := fun W => ∃ d : HeldW C0, W = d.val) hsel (fun c a a' w h => noPanic_hQ c a a' w h) (by simpa using hnt.2) (lt := l.drop t) (fun j => by simp [List.getElem?_drop]) (by simp) p (Array.replicate l.toArray.size false) a w.drew ⟨⟨_, hC⟩, rfl⟩ (by simp) (fun j oj _ hl => (by rw [getD_replicate_false] at hl; cases hl)) hB h
  have e : p.len + (l.toArray.size - t) = l.toArray.size := by simp; omega
  rw [e] at this
  exact this
theorem tree_quiet {k : Nat} {o : Oper} {r : Plan} {lt : List Oper} {a : Act} {w : World} (h0 : ops[k]? = some o) (h : wpQuiet P ops C (fun a' => wpTree P ops Q C lt r a' w) [o] a) : wpTree P ops Q C lt (.quiet k r) a w := by
  unfold wpTree
  rw [h0]
  exact h
theorem opGoal_mk {k : Nat} {o : Oper} {K : Act → World → Prop} {a : Act} {w : World} (h0 : ops[k]? = some o) (hg : o.guard = none)
    (h : ∀ R : Act → World → Prop, (∀ a' w', C w' → K a' w' → R a' w') → wpList P ops (AfterT R Q) [o] a w) : opGoal P ops Q C k K a w := by
  unfold opGoal
  rw [h0]
  have hw : Region.wanted o (yielded ops a.tmps) = true := by simp [Region.wanted, hg]
  have h1 := h (fun a' w' => C w' ∧ K a' w') fun _ _ h1 h2 => ⟨h1, h2⟩
  unfold wpList at h1
  rw [if_pos hw] at h1
  show if _ then _ else _
  rw [if_pos hw]
  rcases h1 with h1 | h1
  · refine .inl ?_
    unfold Oper.wp at *
    generalize (execOp a.eval o).run P w = r at *
    cases r with
    | ok n w' => cases n <;> exact h1
    | halt x w' => cases x <;> exact h1
  · exact .inr ⟨h1.1, h1.2⟩
/-- A value of four parts is built. -/
theorem opGoal_build4 {k : Nat} {o : Oper} {K : Act → World → Prop} {a : Act} {w : World} {t : TypeId} {i0 i1 i2 i3 : Nat} {x0 x1 x2 x3 : Operand} {u0 u1 u2 u3 v : Value} (h0 : ops[k]? = some o) (hC : C w) (hg : o.guard = none) (ho : o.op = .build t #[(i0, x0), (i1, x1), (i2, x2), (i3, x3)])
    (e0 : a.eval x0 = u0) (e1 : a.eval x1 = u1) (e2 : a.eval x2 = u2) (e3 : a.eval x3 = u3) (hr : (Instr.build t #[(i0, u0), (i1, u1), (i2, u2), (i3, u3)]).run P w = .ok v w) (h : K (a.put o.dst v) w) : opGoal P ops Q C k K a w := by
  unfold opGoal
  rw [h0]
  have hw : Region.wanted o (yielded ops a.tmps) = true := by simp [Region.wanted, hg]
  show if _ then _ else _
  rw [if_pos hw]
  refine .inl ?_
  unfold Oper.wp execOp
  simp only [ho, List.map_toArray, List.map_cons, List.map_nil, e0, e1, e2, e3]
  rw [Sem.run_bind, hr]
  exact ⟨hC, h⟩
theorem tree_both {k1 k2 : Nat} {p1 p2 : Plan} {lt : List Oper} {a : Act} {w : World} (h1 : opGoal P ops Q C k1 (wpTree P ops Q C lt p1) a w) (h2 : opGoal P ops Q C k2 (wpTree P ops Q C lt p2) a w) : wpTree P ops Q C lt (.both k1 p1 k2 p2) a w := by
  unfold wpTree
  exact ⟨h1, h2⟩
theorem tree_done {lt : List Oper} {a : Act} {w : World} (h : wpList P ops Q lt a w) : wpTree P ops Q C lt .tail a w := h
end
end Go.Bk
