/- PagesTells: a store of a call's own: its parts, all apart. -/
import Derived.Test.YtjlnaiiajlahgaaPagM
import Derived.Test.YtjlnaiiajlahgaaClone4
set_option linter.unusedVariables false
set_option linter.unusedSimpArgs false
namespace Go.Bk
open Go.RowKit
section
variable {α : Type} [Rep α] {w w' : World} {B : Nat} {eS e : TypeId} {v : Value} {hs : List Hd} {ls : List (List α)}
/-- Another row in the place of row r. -/
theorem RowsOwn.setRow (h : RowsOwn w B eS e v hs ls) {r g n c : Nat} {x' : Hd} {l' : List α} (hv : v = .slice (some ⟨g, 0, none⟩) n c) (hr : r < hs.length) (hown : Own (fun _ => False) w B e x'.val l') (hxv : Apart x'.val v) (hxs : ∀ (j : Nat) (y : Hd), j ≠ r → hs[j]? = some y → Apart x'.val y.val) :
    RowsOwn (w.setCell ⟨g, r, none⟩ x'.val) B eS e v (hs.set r x') (ls.set r l') := by
  subst hv
  have hx : hs[r]? = some hs[r] := List.getElem?_eq_getElem hr
  obtain ⟨g', cap, cs, he, h1, h2, h3, h4, h5, h6, h7⟩ := h.out.at hx
  cases he
  have hset := h7 0 x'.val x' Nat.zero_lt_one (fun _ h => h.elim) (by rw [show cs = [(hs[r]).val] from h4]; rfl)
  rw [show r * Rep.sz Hd + 0 = r by simp [show Rep.sz Hd = 1 from rfl]] at hset
  have hgb : w.grownBy (w.setCell ⟨g, r, none⟩ x'.val) (some g) := grownBy_setCell (World.grownBy.refl _ _) _ _
  refine ⟨hset, by simp [h.len], fun j y l hy hl => ?_, fun i j y z hij hy hz => ?_, fun j y hy => ?_⟩
  · by_cases hj : r = j
    · subst hj
      rw [List.getElem?_set_self hr] at hy
      rw [List.getElem?_set_self (by rw [← h.len]; exact hr)] at hl
      cases hy; cases hl
      exact hown.keep hgb (apart_ne hxv) (fun _ h => h.elim)
    · rw [List.getElem?_set_ne hj] at hy hl
      exact (h.row j y l hy hl).keep hgb (apart_ne (h.off j y hy)) (fun _ h => h.elim)
  · by_cases hi : r = i
    · subst hi
      rw [List.getElem?_set_self hr] at hy
      cases hy
      rw [List.getElem?_set_ne hij] at hz
      exact hxs j z (fun e => hij e.symm) hz
    · rw [List.getElem?_set_ne hi] at hy
      by_cases hj : r = j
      · subst hj
        rw [List.getElem?_set_self hr] at hz
        cases hz
        exact (hxs i y (fun e => hi e.symm) hy).symm
      · rw [List.getElem?_set_ne hj] at hz
        exact h.apart i j y z hij hy hz
  · by_cases hj : r = j
    · subst hj
      rw [List.getElem?_set_self hr] at hy
      cases hy
      exact hxv
    · rw [List.getElem?_set_ne hj] at hy
      exact h.off j y hy
end
end Go.Bk
namespace Go.Proofs.Ytjlnaiiajlahgaa.pag
open Go.Bk Go.RowKit
section
variable {w : World} {B g n c k : Nat} {e : TypeId} {xs : List Four} {x y : Four}
theorem own_part (h : Own (fun _ => False) w B e (.slice (some ⟨g, 0, none⟩) n c) xs) (hk : xs[k]? = some x) {j : Nat} {u : Int} (hj : j < 4) (hu : I64 u) :
    Own (fun _ => False) (w.setCell ⟨g, k * 4 + j, none⟩ (.int .i64 u)) B e (.slice (some ⟨g, 0, none⟩) n c) (xs.set k (set4 x j u)) := by
  obtain ⟨g', cap, cs, he, h1, h2, h3, h4, h5, h6, h7⟩ := h.at hk
  cases he
  obtain ⟨rfl, i1, i2, i3, i4⟩ := cells_int4 h4
  refine h7 j _ _ hj (fun _ h => h.elim) ?_
  match j, hj with
  | 0, _ => exact cells_int4_mk (x := (u, x.2.1, x.2.2.1, x.2.2.2)) hu i2 i3 i4
  | 1, _ => exact cells_int4_mk (x := (x.1, u, x.2.2.1, x.2.2.2)) i1 hu i3 i4
  | 2, _ => exact cells_int4_mk (x := (x.1, x.2.1, u, x.2.2.2)) i1 i2 hu i4
  | 3, _ => exact cells_int4_mk (x := (x.1, x.2.1, x.2.2.1, u)) i1 i2 i3 hu
theorem own_four (h : Own (fun _ => False) w B e (.slice (some ⟨g, 0, none⟩) n c) xs) (hk : xs[k]? = some x) (h1 : I64 y.1) (h2 : I64 y.2.1) (h3 : I64 y.2.2.1) (h4 : I64 y.2.2.2) :
    Own (fun _ => False) ((((w.setCell ⟨g, k * 4, none⟩ (.int .i64 y.1)).setCell ⟨g, k * 4 + 1, none⟩ (.int .i64 y.2.1)).setCell ⟨g, k * 4 + 2, none⟩ (.int .i64 y.2.2.1)).setCell ⟨g, k * 4 + 3, none⟩ (.int .i64 y.2.2.2)) B e (.slice (some ⟨g, 0, none⟩) n c) (xs.set k y) := by
  have hl : k < xs.length := (List.getElem?_eq_some_iff.1 hk).1
  have a1 := own_part h hk (j := 0) (by omega) h1
  have a2 := own_part a1 (List.getElem?_set_self hl) (j := 1) (by omega) h2
  have a3 := own_part a2 (List.getElem?_set_self (by simpa using hl)) (j := 2) (by omega) h3
  have a4 := own_part a3 (List.getElem?_set_self (by simpa using hl)) (j := 3) (by omega) h4
  simp only [List.set_set] at a4
  exact a4
end
/-- The parts of a store that is a call's own. -/
structure Parts (w : World) (B : Nat) (vP vU vR : Value) (hs : List Hd) (s : Store) : Prop where
  pages : Own (fun _ => False) w B 64 vP s.pages
  uses : Own (fun _ => False) w B 3 vU s.uses
  roots : RowsOwn w B 23 3 vR hs s.roots
  rows : ∀ (j : Nat) (x : Hd), hs[j]? = some x → Apart x.val vP ∧ Apart x.val vU
  pu : Apart vP vU
  pr : Apart vP vR
  ur : Apart vU vR
/-- A block that is none of theirs. -/
structure Off (vP vU vR : Value) (hs : List Hd) (b : Nat) : Prop where
  p : vP.ownBlock ≠ some b
  u : vU.ownBlock ≠ some b
  r : vR.ownBlock ≠ some b
  rows : ∀ (j : Nat) (x : Hd), hs[j]? = some x → x.val.ownBlock ≠ some b
/-- A value that is apart from all of them. -/
structure OffV (v vP vU vR : Value) (hs : List Hd) : Prop where
  p : Apart v vP
  u : Apart v vU
  r : Apart v vR
  rows : ∀ (j : Nat) (x : Hd), hs[j]? = some x → Apart v x.val
section
variable {w w' : World} {B b : Nat} {v vP vU vR vP' vU' vR' : Value} {hs : List Hd} {s : Store}
theorem Parts.lt (h : Parts w B vP vU vR hs s) : (∀ k, vP.ownBlock = some k → B ≤ k ∧ k < w.heap.size) ∧ (∀ k, vU.ownBlock = some k → B ≤ k ∧ k < w.heap.size) ∧ (∀ k, vR.ownBlock = some k → B ≤ k ∧ k < w.heap.size) ∧ ∀ (j : Nat) (x : Hd), hs[j]? = some x → ∀ k, x.val.ownBlock = some k → B ≤ k ∧ k < w.heap.size :=
  ⟨h.pages.lt, h.uses.lt, h.roots.out.lt, fun j x hx k hk => by obtain ⟨l, hl⟩ := h.roots.getL hx; exact (h.roots.row j x l hx hl).lt k hk⟩
theorem Parts.off (h : Parts w B vP vU vR hs s) (hb : b < B ∨ w.heap.size ≤ b) : Off vP vU vR hs b := by
  obtain ⟨h1, h2, h3, h4⟩ := h.lt
  exact ⟨fun e => by have := h1 _ e; omega, fun e => by have := h2 _ e; omega, fun e => by have := h3 _ e; omega, fun j x hx e => by have := h4 j x hx _ e; omega⟩
theorem Parts.offV (h : Parts w B vP vU vR hs s) (hv : ∀ k, v.ownBlock = some k → w.heap.size ≤ k) : OffV v vP vU vR hs := by
  obtain ⟨h1, h2, h3, h4⟩ := h.lt
  exact ⟨fun k hk e => by have := h1 _ e; have := hv k hk; omega, fun k hk e => by have := h2 _ e; have := hv k hk; omega, fun k hk e => by have := h3 _ e; have := hv k hk; omega, fun j x hx k hk e => by have := h4 j x hx _ e; have := hv k hk; omega⟩
theorem Parts.keep (h : Parts w B vP vU vR hs s) (hb : RowKit.Below w.heap.size w w') : Parts w' B vP vU vR hs s :=
  ⟨h.pages.below hb (fun _ h => h.elim), h.uses.below hb (fun _ h => h.elim), h.roots.below hb, h.rows, h.pu, h.pr, h.ur⟩
theorem Parts.other (h : Parts w B vP vU vR hs s) (hg : w.grownBy w' (some b)) (ho : Off vP vU vR hs b) : Parts w' B vP vU vR hs s :=
  ⟨h.pages.keep hg (.inr ho.p) (fun _ h => h.elim), h.uses.keep hg (.inr ho.u) (fun _ h => h.elim), h.roots.keep (u := .slice (some ⟨b, 0, none⟩) 0 0) hg (fun k hk e => ho.r (by rw [e]; exact congrArg some (Option.some.inj hk).symm)) (fun j x hx k hk e => ho.rows j x hx (by rw [e]; exact congrArg some (Option.some.inj hk).symm)), h.rows, h.pu, h.pr, h.ur⟩
theorem Parts.base (h : Parts w B vP vU vR hs s) {B' : Nat} (hB : B' ≤ B) : Parts w B' vP vU vR hs s :=
  ⟨own_base h.pages hB, own_base h.uses hB, h.roots.base hB, h.rows, h.pu, h.pr, h.ur⟩
/-- The pages turned. -/
theorem Parts.turnP (h : Parts w B vP vU vR hs s) {ps : List Four} (hown : Own (fun _ => False) w' B 64 vP' ps) (hg : w.grownBy w' vP.ownBlock) (hst : Stay w vP vP') : Parts w' B vP' vU vR hs ⟨ps, s.uses, s.roots⟩ :=
  ⟨hown, h.uses.apart hg h.pu (fun _ h => h.elim), h.roots.keep hg h.pr fun j x hx => (h.rows j x hx).1.symm, fun j x hx => ⟨((h.rows j x hx).1.symm.moved hst fun k hk => (h.lt.2.2.2 j x hx k hk).2).symm, (h.rows j x hx).2⟩,
    h.pu.moved hst fun k hk => (h.uses.lt k hk).2, h.pr.moved hst fun k hk => (h.roots.out.lt k hk).2, h.ur⟩
theorem Parts.turnU (h : Parts w B vP vU vR hs s) {us : List Int} (hown : Own (fun _ => False) w' B 3 vU' us) (hg : w.grownBy w' vU.ownBlock) (hst : Stay w vU vU') : Parts w' B vP vU' vR hs ⟨s.pages, us, s.roots⟩ :=
  ⟨h.pages.apart hg h.pu.symm (fun _ h => h.elim), hown, h.roots.keep hg h.ur fun j x hx => (h.rows j x hx).2.symm, fun j x hx => ⟨(h.rows j x hx).1, ((h.rows j x hx).2.symm.moved hst fun k hk => (h.lt.2.2.2 j x hx k hk).2).symm⟩,
    (h.pu.symm.moved hst fun k hk => (h.pages.lt k hk).2).symm, h.pr, h.ur.moved hst fun k hk => (h.roots.out.lt k hk).2⟩
theorem stay_self (w : World) (v : Value) : Stay w v v := fun _ h => .inl h
theorem Off.turnP (h : Off vP vU vR hs b) (hst : Stay w vP vP') (hb : b < w.heap.size) : Off vP' vU vR hs b :=
  ⟨fun e => by rcases hst _ e with h1 | h1; exact h.p h1; omega, h.u, h.r, h.rows⟩
theorem Off.turnU (h : Off vP vU vR hs b) (hst : Stay w vU vU') (hb : b < w.heap.size) : Off vP vU' vR hs b :=
  ⟨h.p, fun e => by rcases hst _ e with h1 | h1; exact h.u h1; omega, h.r, h.rows⟩
theorem OffV.turnP (h : OffV v vP vU vR hs) (hst : Stay w vP vP') (hv : ∀ k, v.ownBlock = some k → k < w.heap.size) : OffV v vP' vU vR hs :=
  ⟨(h.p.symm.moved hst hv).symm, h.u, h.r, h.rows⟩
theorem OffV.turnU (h : OffV v vP vU vR hs) (hst : Stay w vU vU') (hv : ∀ k, v.ownBlock = some k → k < w.heap.size) : OffV v vP vU' vR hs :=
  ⟨h.p, (h.u.symm.moved hst hv).symm, h.r, h.rows⟩
theorem Parts.setU (h : Parts w B vP vU vR hs s) {g n c k : Nat} {x y : Int} (hv : vU = .slice (some ⟨g, 0, none⟩) n c) (hk : s.uses[k]? = some x) (hy : I64 y) : Parts (w.setCell ⟨g, k, none⟩ (.int .i64 y)) B vP vU vR hs ⟨s.pages, s.uses.set k y, s.roots⟩ := by
  subst hv
  obtain ⟨g', cap, cs, he, h1, h2, h3, h4, h5, h6, h7⟩ := h.uses.at hk
  cases he
  have h8 := h7 0 (.int .i64 y) y (by show 0 < 1; omega) (fun _ h => h.elim) (by obtain ⟨rfl, -⟩ := h4; exact ⟨rfl, hy⟩)
  rw [show k * Rep.sz Int + 0 = k by show k * 1 + 0 = k; omega] at h8
  exact h.turnU h8 (grownBy_setCell (World.grownBy.refl _ _) _ _) (stay_self _ _)
theorem Parts.setP (h : Parts w B vP vU vR hs s) {g n c k : Nat} {x y : Four} (hv : vP = .slice (some ⟨g, 0, none⟩) n c) (hk : s.pages[k]? = some x) (h1 : I64 y.1) (h2 : I64 y.2.1) (h3 : I64 y.2.2.1) (h4 : I64 y.2.2.2) :
    Parts ((((w.setCell ⟨g, k * 4, none⟩ (.int .i64 y.1)).setCell ⟨g, k * 4 + 1, none⟩ (.int .i64 y.2.1)).setCell ⟨g, k * 4 + 2, none⟩ (.int .i64 y.2.2.1)).setCell ⟨g, k * 4 + 3, none⟩ (.int .i64 y.2.2.2)) B vP vU vR hs ⟨s.pages.set k y, s.uses, s.roots⟩ := by
  subst hv
  exact h.turnP (own_four h.pages hk h1 h2 h3 h4) (grownBy_setCell (grownBy_setCell (grownBy_setCell (grownBy_setCell (World.grownBy.refl _ _) _ _) _ _) _ _) _ _) (stay_self _ _)
/-- A row put in the place of another. -/
theorem Parts.setR (h : Parts w B vP vU vR hs s) {g n c k : Nat} {l : List Int} (hv : vR = .slice (some ⟨g, 0, none⟩) n c) (hk : k < s.roots.length) (h1 : v.oneCell' = true) (ho : Own (fun _ => False) w B 3 v l) (hP : Apart v vP) (hU : Apart v vU) (hR : Apart v vR)
    (hrows : ∀ (j : Nat) (x : Hd), j ≠ k → hs[j]? = some x → Apart v x.val) : Parts (w.setCell ⟨g, k, none⟩ v) B vP vU vR (hs.set k ⟨v, h1⟩) ⟨s.pages, s.uses, s.roots.set k l⟩ := by
  have hg : w.grownBy (w.setCell ⟨g, k, none⟩ v) vR.ownBlock := by subst hv; exact grownBy_setCell (World.grownBy.refl _ _) _ _
  refine ⟨h.pages.apart hg h.pr.symm (fun _ h => h.elim), h.uses.apart hg h.ur.symm (fun _ h => h.elim), h.roots.setRow (x' := ⟨v, h1⟩) hv (by rw [h.roots.len]; exact hk) ho hR hrows, fun j x hx => ?_, h.pu, h.pr, h.ur⟩
  by_cases hj : k = j
  · subst hj
    rw [List.getElem?_set_self (by rw [h.roots.len]; exact hk)] at hx
    cases hx
    exact ⟨hP, hU⟩
  · rw [List.getElem?_set_ne hj] at hx
    exact h.rows j x hx
theorem Parts.nilR (h : Parts w B vP vU vR hs s) {g n c k : Nat} (hv : vR = .slice (some ⟨g, 0, none⟩) n c) (hk : k < s.roots.length) : Parts (w.setCell ⟨g, k, none⟩ (.slice none 0 0)) B vP vU vR (hs.set k nilHd) ⟨s.pages, s.uses, s.roots.set k []⟩ :=
  h.setR hv hk rfl (Own.nil _ _ _ _) (Apart.nil_left _ _ _) (Apart.nil_left _ _ _) (Apart.nil_left _ _ _) (fun _ _ _ _ => Apart.nil_left _ _ _)
/-- A row more. -/
theorem Parts.pushR (h : Parts w B vP vU vR hs s) {l : List Int} {x : Hd} (hr : RowsOwn w' B 23 3 vR' (hs ++ [x]) (s.roots ++ [l])) (hP : Apart x.val vP) (hU : Apart x.val vU) (hg : w.grownBy w' vR.ownBlock) (hst : Stay w vR vR') : Parts w' B vP vU vR' (hs ++ [x]) ⟨s.pages, s.uses, s.roots ++ [l]⟩ :=
  ⟨h.pages.apart hg h.pr.symm (fun _ h => h.elim), h.uses.apart hg h.ur.symm (fun _ h => h.elim), hr, fun j y hy => by
      by_cases hj : j < hs.length
      · rw [List.getElem?_append_left hj] at hy
        exact h.rows j y hy
      · rw [List.getElem?_append_right (by omega)] at hy
        have h0 : j - hs.length = 0 := by have := (List.getElem?_eq_some_iff.1 hy).1; simp at this; exact this
        rw [h0] at hy
        cases hy
        exact ⟨hP, hU⟩,
    h.pu, (h.pr.symm.moved hst fun k hk => (h.pages.lt k hk).2).symm, (h.ur.symm.moved hst fun k hk => (h.uses.lt k hk).2).symm⟩
/-- A row that a callee made, appended. -/
theorem Parts.pushNew (h : Parts w B vP vU vR hs s) {w1 : World} {l : List Int} {x : Hd} (hb : RowKit.Below w.heap.size w w1) (hB : B ≤ w.heap.size) (hx : Own (fun _ => False) w1 w.heap.size 3 x.val l) (ho : Own (fun _ => False) w' B 23 vR' (hs ++ [x])) (hg : w1.grownBy w' vR.ownBlock) (hst : Stay w1 vR vR') : Parts w' B vP vU vR' (hs ++ [x]) ⟨s.pages, s.uses, s.roots ++ [l]⟩ :=
  have ho1 := h.offV (v := x.val) (fun k hk => (hx.lt k hk).1)
  (h.keep hb).pushR ((h.roots.below hb).push ho hg hst (own_base hx hB) ho1.r ho1.rows) ho1.p ho1.u hg hst
theorem Off.pushNew (h : Off vP vU vR hs b) {w1 : World} {x : Hd} (hst : Stay w1 vR vR') (hb1 : b < w1.heap.size) (hx : x.val.ownBlock ≠ some b) : Off vP vU vR' (hs ++ [x]) b :=
  ⟨h.p, h.u, fun e => by rcases hst _ e with h1 | h1; exact h.r h1; omega, fun j y hy => by
      by_cases hj : j < hs.length
      · rw [List.getElem?_append_left hj] at hy
        exact h.rows j y hy
      · rw [List.getElem?_append_right (by omega)] at hy
        have h0 : j - hs.length = 0 := by have := (List.getElem?_eq_some_iff.1 hy).1; simp at this; exact this
        rw [h0] at hy
        cases hy
        exact hx⟩
end
end Go.Proofs.Ytjlnaiiajlahgaa.pag
