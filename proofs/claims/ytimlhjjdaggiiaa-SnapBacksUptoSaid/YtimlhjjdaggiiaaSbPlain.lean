/- SnapBacks, plain: reading a flat list is deciding whether it begins as one: each form tells where it ends. -/
import Derived.Test.YtimlhjjdaggiiaaFlatPlain
set_option linter.unusedVariables false
set_option linter.unusedSimpArgs false
namespace Go.Proofs.Ytimlhjjdaggiiaa.flat
open Go.Bk Go.RowKit

section
variable {α β γ : Type}
/-- A form that tells where it ends. -/
def PF (f : α → List Int) : Prop := ∀ x x' ys ys', f x ++ ys = f x' ++ ys' → f x = f x' ∧ ys = ys'
theorem PF.fixed {f : α → List Int} (k : Nat) (h : ∀ x, (f x).length = k) : PF f := fun x x' ys ys' e => List.append_inj e (by rw [h, h])
theorem PF.app {f : α → List Int} {g : β → List Int} (hf : PF f) (hg : PF g) : PF (fun p : α × β => f p.1 ++ g p.2) := fun x x' ys ys' e => by
  simp only [List.append_assoc] at e
  obtain ⟨h1, h2⟩ := hf _ _ _ _ e
  obtain ⟨h3, h4⟩ := hg _ _ _ _ h2
  exact ⟨by show f x.1 ++ g x.2 = f x'.1 ++ g x'.2; rw [h1, h3], h4⟩
theorem PF.map {f : α → List Int} (hf : PF f) (p : γ → α) : PF (fun x => f (p x)) := fun x x' ys ys' e => hf _ _ _ _ e
theorem PF.of {f g : α → List Int} (hf : PF f) (h : ∀ x, f x = g x) : PF g := fun x x' ys ys' e => by
  rw [← h, ← h] at e ⊢
  exact hf _ _ _ _ e
theorem flatten_pf {f : α → List Int} (hf : PF f) : ∀ (l l' : List α) (ys ys' : List Int), l.length = l'.length → (l.map f).flatten ++ ys = (l'.map f).flatten ++ ys' → (l.map f).flatten = (l'.map f).flatten ∧ ys = ys'
  | [], [], ys, ys', _, e => ⟨rfl, by simpa using e⟩
  | x :: l, x' :: l', ys, ys', hl, e => by
    simp only [List.map_cons, List.flatten_cons, List.append_assoc] at e
    obtain ⟨h1, h2⟩ := hf _ _ _ _ e
    obtain ⟨h3, h4⟩ := flatten_pf hf l l' ys ys' (by simpa using hl) h2
    exact ⟨by simp only [List.map_cons, List.flatten_cons, h1, h3], h4⟩
theorem PF.many {f : α → List Int} (hf : PF f) : PF (many f) := fun l l' ys ys' e => by
  unfold flat.many at e ⊢
  simp only [List.cons_append] at e
  injection e with e1 e2
  have e1' : l.length = l'.length := by omega
  obtain ⟨h3, h4⟩ := flatten_pf hf l l' ys ys' e1' e2
  exact ⟨by rw [h3, e1'], h4⟩

/-- One form was read: it was there, or the reader is bad and it was not there. -/
def Step (f : α → List Int) (st : Option (List Int)) (x : α) (st' : Option (List Int)) : Prop :=
  (∃ ys, st = some (f x ++ ys) ∧ st' = some ys) ∨ (st' = none ∧ ∀ y ys, st ≠ some (f y ++ ys))
theorem Step.seq {f : α → List Int} {g : β → List Int} {st st1 st2 : Option (List Int)} {x : α} {y : β} (hf : PF f) (h1 : Step f st x st1) (h2 : Step g st1 y st2) : Step (fun p : α × β => f p.1 ++ g p.2) st (x, y) st2 := by
  rcases h1 with ⟨ys, rfl, rfl⟩ | ⟨rfl, h1⟩
  · rcases h2 with ⟨zs, h2, rfl⟩ | ⟨rfl, h2⟩
    · injection h2 with h2
      exact .inl ⟨zs, by rw [h2, List.append_assoc], rfl⟩
    · refine .inr ⟨rfl, fun p zs e => ?_⟩
      injection e with e
      rw [List.append_assoc] at e
      exact h2 p.2 zs (by rw [(hf _ _ _ _ e).2])
  · rcases h2 with ⟨zs, h2, -⟩ | ⟨rfl, -⟩
    · cases h2
    · exact .inr ⟨rfl, fun p zs e => h1 p.1 (g p.2 ++ zs) (by rw [e, List.append_assoc])⟩
theorem Step.conv {f : α → List Int} {g : β → List Int} {st st' : Option (List Int)} {x : α} (h : Step f st x st') (m : α → β) (hm : ∀ x, f x = g (m x)) (hs : ∀ y, ∃ x, m x = y) : Step g st (m x) st' := by
  rcases h with ⟨ys, rfl, rfl⟩ | ⟨rfl, h⟩
  · exact .inl ⟨ys, by rw [hm], rfl⟩
  · refine .inr ⟨rfl, fun y ys e => ?_⟩
    obtain ⟨z, rfl⟩ := hs y
    exact h z ys (by rw [e, hm])
def fNum (x : Int) : List Int := [x]
theorem Step.num (v : Int) (vs : List Int) : Step fNum (some (v :: vs)) v (some vs) := .inl ⟨vs, rfl, rfl⟩
theorem Step.num_nil : Step fNum (some []) 0 none := .inr ⟨rfl, fun y ys e => by injection e with e; simp [fNum] at e⟩
theorem Step.num_none : Step fNum none 0 none := .inr ⟨rfl, fun y ys e => by cases e⟩
theorem Step.none_of {f : α → List Int} {x : α} {st' : Option (List Int)} (h : Step f none x st') : st' = none := by
  rcases h with ⟨ys, h, -⟩ | ⟨h, -⟩
  · cases h
  · exact h

/-- So far l was read, of n that are told ahead of what stands in rest. -/
def SomeTo (f : α → List Int) (n : Nat) (rest : List Int) (l : List α) (st' : Option (List Int)) : Prop :=
  (∃ ys, rest = (l.map f).flatten ++ ys ∧ st' = some ys) ∨ (st' = none ∧ ∀ (l' : List α) ys, l'.length = n → rest ≠ (l'.map f).flatten ++ ys)
theorem SomeTo.zero (f : α → List Int) (n : Nat) (rest : List Int) : SomeTo f n rest [] (some rest) := .inl ⟨rest, rfl, rfl⟩
theorem SomeTo.succ {f : α → List Int} {n : Nat} {rest ys : List Int} {l : List α} {x : α} {st' : Option (List Int)} (hf : PF f) (h : SomeTo f n rest l (some ys)) (hl : l.length < n) (hs : Step f (some ys) x st') : SomeTo f n rest (l ++ [x]) st' := by
  rcases h with ⟨ys', rfl, e⟩ | ⟨e, -⟩
  · injection e with e
    subst e
    rcases hs with ⟨zs, e, rfl⟩ | ⟨rfl, hs⟩
    · injection e with e
      subst e
      exact .inl ⟨zs, by simp, rfl⟩
    · refine .inr ⟨rfl, fun l' zs hl' e => ?_⟩
      have e1 : l' = l'.take l.length ++ l'.drop l.length := (List.take_append_drop _ _).symm
      rw [e1, List.map_append, List.flatten_append, List.append_assoc] at e
      obtain ⟨-, h2⟩ := flatten_pf hf l (l'.take l.length) _ _ (by rw [List.length_take]; omega) e
      have h3 : l'.drop l.length ≠ [] := fun h => by have := congrArg List.length h; simp at this; omega
      obtain ⟨y, m, hm⟩ := List.exists_cons_of_ne_nil h3
      rw [hm] at h2
      exact hs y ((m.map f).flatten ++ zs) (by rw [h2]; simp)
  · cases e
theorem SomeTo.done {f : α → List Int} {n : Nat} {rest : List Int} {l : List α} {st' : Option (List Int)} (h : SomeTo f n rest l st') (hl : st' = none ∨ l.length = n) : Step (many f) (some ((n : Int) :: rest)) l st' := by
  rcases h with ⟨ys, rfl, rfl⟩ | ⟨rfl, h⟩
  · rcases hl with hl | hl
    · cases hl
    · exact .inl ⟨ys, by unfold many; rw [hl]; rfl, rfl⟩
  · refine .inr ⟨rfl, fun l' ys e => ?_⟩
    injection e with e
    unfold many at e
    rw [List.cons_append] at e
    injection e with e1 e2
    exact h l' ys (by omega) e2
theorem flatten_len {f : α → List Int} (h : ∀ x, 1 ≤ (f x).length) (l : List α) : l.length ≤ (l.map f).flatten.length := by
  induction l with
  | nil => simp
  | cons x l ih => have := h x; simp only [List.length_cons, List.map_cons, List.flatten_cons, List.length_append]; omega
theorem Step.many_bad {f : α → List Int} (h : ∀ x, 1 ≤ (f x).length) {n : Int} {rest : List Int} (hn : n < 0 ∨ (rest.length : Int) < n) : Step (many f) (some (n :: rest)) [] none := by
  refine .inr ⟨rfl, fun l ys e => ?_⟩
  injection e with e
  unfold many at e
  rw [List.cons_append] at e
  injection e with e1 e2
  have h1 := flatten_len h l
  have h2 := congrArg List.length e2
  simp only [List.length_append] at h2
  omega
theorem Step.many_nil {f : α → List Int} : Step (many f) (some []) [] none := .inr ⟨rfl, fun l ys e => by injection e with e; unfold many at e; simp at e⟩
theorem Step.many_none {f : α → List Int} : Step (many f) none [] none := .inr ⟨rfl, fun l ys e => by cases e⟩
end
theorem pf_num : PF fNum := PF.fixed 1 (fun _ => rfl)
theorem pf_val : PF fVal := PF.fixed 2 (fun _ => rfl)
theorem pf_try : PF fTry := PF.fixed 2 (fun _ => rfl)
theorem pf_shape : PF fShape := PF.fixed 2 (fun _ => rfl)
theorem pf_end : PF fEnd := PF.fixed 3 (fun _ => rfl)
theorem pf_byte : PF fByte := PF.fixed 1 (fun _ => rfl)
theorem pf_text : PF fText := pf_byte.many.map _
theorem pf_four : PF (fun f : Api.Frame => [f.Fn, f.At, f.To, f.Gen]) := PF.fixed 4 (fun _ => rfl)
theorem pf_frame : PF fFrame := ((((pf_four.app (pf_val.app (pf_val.many.app pf_try.many))).map (fun x : Api.Frame => (x, x.Self, x.Regs, x.Tries)))).of (fun _ => rfl))
theorem pf_cell : PF fCell := (((PF.fixed (f := fun c : Api.Cell => [c.Kind, c.Num]) 2 (fun _ => rfl)).app (pf_val.many.app pf_frame.many)).map (fun x : Api.Cell => (x, x.Vals, x.Frames))).of (fun _ => rfl)
theorem pf_thread : PF fThread := (pf_frame.many.app ((PF.fixed (f := fun c : Api.Thread => [c.State, c.On]) 2 (fun _ => rfl)).app pf_val)).map (fun x : Api.Thread => (x.Frames, x, x.Val)) |>.of (fun _ => rfl)
theorem one_frame (x : Api.Frame) : 1 ≤ (fFrame x).length := by simp [fFrame]
theorem one_cell (x : Api.Cell) : 1 ≤ (fCell x).length := by simp [fCell]
theorem one_thread (x : Api.Thread) : 1 ≤ (fThread x).length := by simp [fThread]; omega
theorem one_text (x : ByteArray) : 1 ≤ (fText x).length := many_one _ _
end Go.Proofs.Ytimlhjjdaggiiaa.flat
