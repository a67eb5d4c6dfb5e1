/- General: in a region that draws its order and writes at its end what it read at its beginning, a load may be taken first: its cell is as it was till the operation comes up that waits for the load. No program is named here. -/
import Derived.OrdersHeld
import Derived.Deep.RegionHeld3
import Derived.StillTail
set_option linter.unusedVariables false
set_option linter.unusedSimpArgs false
namespace Go.Bk

section
variable {P : Program} {ops : Array Oper} {Q : Exit → Act → World → Prop} {md : Region.Mode} {S : Array Bool → World → Prop}

/-- Whatever order is picked: behind every operation that is carried out, S holds of what has come up and of the world. -/
def wpAnyB (P : Program) (md : Region.Mode) (ops : Array Oper) (Q : Exit → Act → World → Prop) (S : Array Bool → World → Prop) : Nat → Array Bool → Act → World → Prop
  | 0, listed, a, w => Region.ready md ops listed = [] ∧ Q .normal a w
  | fuel + 1, listed, a, w =>
    (Region.ready md ops listed = [] → Q .normal a w) ∧
    ∀ i ∈ Region.ready md ops listed, wpOp P ops Q i (fun a' w' => S (listed.setIfInBounds i true) w' ∧ wpAnyB P md ops Q S fuel (listed.setIfInBounds i true) a' w') a w
theorem wpAny_of_B : ∀ (fuel : Nat) (listed : Array Bool) (a : Act) (w : World), wpAnyB P md ops Q S fuel listed a w → wpAny P md ops Q fuel listed a w
  | 0, _, _, _, h => h
  | fuel + 1, _, _, _, h => ⟨h.1, fun i hi => wpOp_mono (fun a' w' h' => wpAny_of_B fuel _ a' w' h'.2) (h.2 i hi)⟩
theorem wpAnyB_first {i : Nat} {oi : Oper} {v : Value} {Si : World → Prop} {G : Array Bool → Prop} (hi : ops[i]? = some oi) (hsel : ∀ (j : Nat) (o : Oper) cs b, ops[j]? = some o → o.op ≠ .select cs b)
    (hQ : ∀ c a w, Q (.panic c) (a.put oi.dst v) w → Q (.panic c) a w)
    (hSm : ∀ L w, S (L.setIfInBounds i true) w → S L w) (hG : ∀ (L : Array Bool) (j : Nat), i ∈ Region.ready md ops L → j ∈ Region.ready md ops L → j ≠ i → G L → G (L.setIfInBounds j true)) (hGi : ∀ L w, G L → S (L.setIfInBounds i true) w → Si w) :
    ∀ (fuel : Nat) (listed : Array Bool) (a : Act) (w : World),
      (∀ j oj, ops[j]? = some oj → j ≠ i → listed.getD j true = false → (∀ e ∈ oj.after, Region.binds md e = true → e.on ≠ i) → oi.apart ops oj = true) →
      i ∈ Region.ready md ops listed → YieldsIf P ops Si oi v a → G listed → S (listed.setIfInBounds i true) w →
      wpAnyB P md ops Q S fuel (listed.setIfInBounds i true) (a.put oi.dst v) w → wpAnyB P md ops Q S (fuel + 1) listed a w := by
  intro fuel
  induction fuel with
  | zero =>
    intro listed a w _ hr hy hg hS H
    refine ⟨fun h => (by rw [h] at hr; cases hr), fun j hj => ?_⟩
    by_cases hji : j = i
    · subst hji; exact hy.wpOp hi (hGi _ _ hg hS) ⟨hS, H⟩
    · have := ready_mono hj hji
      rw [H.1] at this
      cases this
  | succ fuel ih =>
    intro listed a w hfree hr hy hg hS H
    refine ⟨fun h => (by rw [h] at hr; cases hr), fun j hj => ?_⟩
    by_cases hji : j = i
    · subst hji; exact hy.wpOp hi (hGi _ _ hg hS) ⟨hS, H⟩
    · have h1 := H.2 j (ready_mono hj hji)
      obtain ⟨hjun, oj, hoj, hall⟩ := mem_ready.1 hj
      have hnot : ∀ e ∈ oj.after, Region.binds md e = true → e.on ≠ i := fun e he hb heq => by
        have h1 := hall e he hb
        have h0 := (mem_ready.1 hr).1
        rw [heq] at h1
        rcases Nat.lt_or_ge i listed.size with h' | h'
        · simp [h'] at h0 h1; rw [h0] at h1; cases h1
        · simp [Array.getElem?_eq_none h'] at h1
      have h2 := wpOp_putIf hoj (hfree j oj hoj hji hjun hnot) (fun cs b => hsel i oi cs b hi) (fun cs b => hsel j oj cs b hoj) hQ hy h1
      have hfree' : ∀ k ok, ops[k]? = some ok → k ≠ i → (listed.setIfInBounds j true).getD k true = false →
          (∀ e ∈ ok.after, Region.binds md e = true → e.on ≠ i) → oi.apart ops ok = true := fun k ok hk hki hun hno => by
        refine hfree k ok hk hki ?_ hno
        by_cases hjk : j = k
        · subst hjk; exact hjun
        · rw [getD_set_ne true hjk] at hun; exact hun
      have hr' := ready_mono hr (Ne.symm hji)
      have hg' := hG listed j hr hj hji hg
      have hc := Array.setIfInBounds_comm (xs := listed) true true hji
      refine wpOp_mono (fun a' w' h3 => ?_) h2
      have h5 : S ((listed.setIfInBounds j true).setIfInBounds i true) w' := by rw [hc]; exact h3.2.1
      refine ⟨hSm _ _ h5, ih (listed.setIfInBounds j true) a' w' hfree' hr' h3.1 hg' h5 ?_⟩
      rw [hc]
      exact h3.2.2
/-- What yields in whatever world is taken first. -/
theorem wpAnyB_take {i : Nat} {oi : Oper} {v : Value} {fuel : Nat} {listed : Array Bool} {a : Act} {w : World} (hi : ops[i]? = some oi)
    (hs : Region.noSelect ops = true) (hf : Region.free md ops listed i = true) (hr : (Region.ready md ops listed).contains i = true)
    (hQ : ∀ c a w, Q (.panic c) (a.put oi.dst v) w → Q (.panic c) a w) (hSm : ∀ L w, S (L.setIfInBounds i true) w → S L w) (hy : YieldsIf P ops (fun _ => True) oi v a) (hS : S (listed.setIfInBounds i true) w)
    (h : wpAnyB P md ops Q S fuel (listed.setIfInBounds i true) (a.put oi.dst v) w) : wpAnyB P md ops Q S (fuel + 1) listed a w :=
  wpAnyB_first (G := fun _ => True) hi (Region.noSelect_spec hs) hQ hSm (fun _ _ _ _ _ _ => trivial) (fun _ _ _ _ => trivial) fuel listed a w (Region.free_spec hi hf) (by simpa using hr) hy trivial hS h
/-- A load, whose cells are kept till operation b, that waits for it. -/
theorem wpAnyB_load {i b : Nat} {oi : Oper} {v : Value} {fuel : Nat} {listed : Array Bool} {a : Act} {w : World} {Si : World → Prop} (hi : ops[i]? = some oi)
    (hs : Region.noSelect ops = true) (hf : Region.free md ops listed i = true) (hr : (Region.ready md ops listed).contains i = true) (hw : Region.waitsFor md ops b i = true) (hbi : b ≠ i) (hb : listed.getD b true = false)
    (hQ : ∀ c a w, Q (.panic c) (a.put oi.dst v) w → Q (.panic c) a w) (hSm : ∀ L w, S (L.setIfInBounds i true) w → S L w) (hSi : ∀ L w, L.getD b true = false → S L w → Si w) (hy : YieldsIf P ops Si oi v a) (hS : S (listed.setIfInBounds i true) w)
    (h : wpAnyB P md ops Q S fuel (listed.setIfInBounds i true) (a.put oi.dst v) w) : wpAnyB P md ops Q S (fuel + 1) listed a w := by
  refine wpAnyB_first (G := fun L => L.getD b true = false) hi (Region.noSelect_spec hs) hQ hSm (fun L j hiL hjL hji hg => ?_) (fun L w hg hS => hSi _ w (by rw [getD_set_ne true (Ne.symm hbi)]; exact hg) hS) fuel listed a w (Region.free_spec hi hf) (by simpa using hr) hy hb hS h
  have hjb : j ≠ b := fun e => by
    subst e
    obtain ⟨oj, hoj, e, he, hbd, hon⟩ := Region.waitsFor_spec hw
    obtain ⟨_, oj', hoj', hall⟩ := mem_ready.1 hjL
    rw [hoj] at hoj'
    cases hoj'
    have h1 := hall e he hbd
    rw [hon] at h1
    rw [getD_both (mem_ready.1 hiL).1] at h1
    cases h1
  rw [getD_set_ne true hjb]
  exact hg
def AllReadyB (P : Program) (md : Region.Mode) (ops : Array Oper) (Q : Exit → Act → World → Prop) (S : Array Bool → World → Prop) (fuel : Nat) (listed : Array Bool) (a : Act) (w : World) (rs : List Nat) : Prop :=
  ∀ i ∈ rs, wpOp P ops Q i (fun a' w' => S (listed.setIfInBounds i true) w' ∧ wpAnyB P md ops Q S fuel (listed.setIfInBounds i true) a' w') a w
theorem AllReadyB.nil {fuel : Nat} {listed : Array Bool} {a : Act} {w : World} : AllReadyB P md ops Q S fuel listed a w [] := fun _ h => by cases h
theorem AllReadyB.cons {fuel : Nat} {listed : Array Bool} {a : Act} {w : World} {i : Nat} {o : Oper} {rs : List Nat} (ho : ops[i]? = some o)
    (h : ∀ K' : Act → World → Prop, Shut (∀ a w, S (listed.setIfInBounds i true) w → wpAnyB P md ops Q S fuel (listed.setIfInBounds i true) a w → K' a w) → if Region.wanted o (yielded ops a.tmps) = true then Oper.wp P o a w K' Q else K' (a.put o.dst undef) w)
    (hs : AllReadyB P md ops Q S fuel listed a w rs) : AllReadyB P md ops Q S fuel listed a w (i :: rs) := fun j hj => by
  rcases List.mem_cons.1 hj with rfl | hj
  · exact wpOp_step ho (fun K' hK => h K' (fun a w hS hW => hK a w ⟨hS, hW⟩))
  · exact hs j hj
theorem wpAnyB_ready {rs : List Nat} {fuel : Nat} {listed : Array Bool} {a : Act} {w : World} (hr : Region.ready md ops listed = rs) (hne : rs ≠ [])
    (h : AllReadyB P md ops Q S fuel listed a w rs) : wpAnyB P md ops Q S (fuel + 1) listed a w :=
  ⟨fun h0 => absurd (hr ▸ h0) hne, hr ▸ h⟩
theorem wpAnyB_done {listed : Array Bool} {a : Act} {w : World} (hr : Region.ready md ops listed = []) (h : Q .normal a w) : ∀ fuel, wpAnyB P md ops Q S fuel listed a w
  | 0 => ⟨hr, h⟩
  | _ + 1 => ⟨fun _ => h, by rw [hr]; simp⟩
theorem wp_region_B {id : Nat} {a : Act} {w : World} (S : Array Bool → World → Prop) (hm : P.follows .mixedOrders = true)
    (h : wpAnyB P .any ops Q S ops.size (Array.replicate ops.size false) a w.drew) : (Code.region id ops true).wp P Q a w :=
  wp_region_any hm (wpAny_of_B _ _ _ _ h)
/-- The condition: till operation b comes up, T holds. -/
def Till (b : Nat) (T : World → Prop) (L : Array Bool) (w : World) : Prop := L.getD b true = false → T w
theorem Till.less {b i : Nat} {T : World → Prop} {L : Array Bool} {w : World} (hb : i ≠ b) (h : Till b T (L.setIfInBounds i true) w) : Till b T L w := fun h1 => h (by rw [getD_set_ne true hb]; exact h1)
end
end Go.Bk
