/- PagesTells: the document's PagesSet: its state. -/
import Derived.Test.YtjlnaiiajlahgaaPagV
set_option linter.unusedVariables false
set_option linter.unusedSimpArgs false
namespace Go.Proofs.Ytjlnaiiajlahgaa.pag
open Go.Bk Go.RowKit

structure PSt (w w' : World) (bx : List Value) (vP vU vR : Value) (hs : List Hd) (s' : Store) : Prop where
  parts : Parts w' (w.heap.size + 2) vP vU vR hs s'
  box : Blk w' w.heap.size 26 bx
  res : Blk w' (w.heap.size + 1) 26 [.slice none 0 0, .slice none 0 0, .slice none 0 0]
  below : RowKit.Below w.heap.size w w'
section
variable {w w1 w2 : World} {bx : List Value} {vP vU vR vP' vU' vR' : Value} {hs hs' : List Hd} {s' s2 : Store}
theorem PSt.size (h : PSt w w1 bx vP vU vR hs s') : w.heap.size + 2 ≤ w1.heap.size := h.res.lt
theorem PSt.keep (h : PSt w w1 bx vP vU vR hs s') (hb : RowKit.Below w1.heap.size w1 w2) : PSt w w2 bx vP vU vR hs s' :=
  ⟨h.parts.keep hb, h.box.keep (hb.block _ h.box.lt), h.res.keep (hb.block _ h.res.lt), h.below.trans (hb.mono h.below.size)⟩
theorem PSt.alloc (h : PSt w w1 bx vP vU vR hs s') (o : Obj) : PSt w (w1.alloc o) bx vP vU vR hs s' := h.keep ((RowKit.Below.refl _ _).alloc (Nat.le_refl _) o)
theorem PSt.grow {r : Option Nat} (h : PSt w w1 bx vP vU vR hs s') (hg : w1.grownBy w2 r) (hr : ∀ k, r = some k → w.heap.size + 2 ≤ k) (hp : Parts w2 (w.heap.size + 2) vP' vU' vR' hs' s2) : PSt w w2 bx vP' vU' vR' hs' s2 :=
  ⟨hp, h.box.keep (hg.block _ h.box.lt (fun e => by have := hr _ e.symm; omega)), h.res.keep (hg.block _ h.res.lt (fun e => by have := hr _ e.symm; omega)), h.below.grown hg h.below.size (fun k hk => by have := hr k hk; omega)⟩
theorem PSt.far {gx : Nat} (h : PSt w w1 bx vP vU vR hs s') (hg : w1.grownBy w2 (some gx)) (hb : w.heap.size + 2 ≤ gx) (hx : Off vP vU vR hs gx) : PSt w w2 bx vP vU vR hs s' :=
  h.grow hg (fun k hk => by cases hk; exact hb) (h.parts.other hg hx)
/-- Pages of one's own, newly made. -/
theorem PSt.newP {l : List Int} {ls : List (List Int)} {ps : List Four} (h : PSt w w1 bx (.slice none 0 0) vU vR hs ⟨[], l, ls⟩) (hb : RowKit.Below w1.heap.size w1 w2) (ho : Go.Bk.Own (fun _ => False) w2 w1.heap.size 64 vP ps) : PSt w w2 bx vP vU vR hs ⟨ps, l, ls⟩ := by
  have h2 := h.keep hb
  have hov := h.parts.offV (v := vP) (fun k hk => (ho.lt k hk).1)
  exact ⟨⟨own_base ho h.size, h2.parts.uses, h2.parts.roots, fun j x hx => ⟨(hov.rows j x hx).symm, (h2.parts.rows j x hx).2⟩, hov.u, hov.r, h2.parts.ur⟩, h2.box, h2.res, h2.below⟩
theorem PSt.setU (h : PSt w w1 bx vP vU vR hs s') {g n c k : Nat} {x y : Int} (hv : vU = .slice (some ⟨g, 0, none⟩) n c) (hk : s'.uses[k]? = some x) (hy : I64 y) : PSt w (w1.setCell ⟨g, k, none⟩ (.int .i64 y)) bx vP vU vR hs ⟨s'.pages, s'.uses.set k y, s'.roots⟩ :=
  h.grow (r := some g) (grownBy_setCell (World.grownBy.refl _ _) _ _) (fun k hk => (h.parts.lt.2.1 k (by rw [hv]; exact hk)).1) (h.parts.setU hv hk hy)
theorem PSt.setP (h : PSt w w1 bx vP vU vR hs s') {g n c k : Nat} {x y : Four} (hv : vP = .slice (some ⟨g, 0, none⟩) n c) (hk : s'.pages[k]? = some x) (hy : I64 y.1 ∧ I64 y.2.1 ∧ I64 y.2.2.1 ∧ I64 y.2.2.2) :
    PSt w ((((w1.setCell ⟨g, k * 4, none⟩ (.int .i64 y.1)).setCell ⟨g, k * 4 + 1, none⟩ (.int .i64 y.2.1)).setCell ⟨g, k * 4 + 2, none⟩ (.int .i64 y.2.2.1)).setCell ⟨g, k * 4 + 3, none⟩ (.int .i64 y.2.2.2)) bx vP vU vR hs ⟨s'.pages.set k y, s'.uses, s'.roots⟩ :=
  h.grow (r := some g) (grownBy_setCell (grownBy_setCell (grownBy_setCell (grownBy_setCell (World.grownBy.refl _ _) _ _) _ _) _ _) _ _) (fun k hk => (h.parts.lt.1 k (by rw [hv]; exact hk)).1) (h.parts.setP hv hk hy.1 hy.2.1 hy.2.2.1 hy.2.2.2)
theorem PSt.pushP {ps : List Four} (h : PSt w w1 bx vP vU vR hs s') (ho : Go.Bk.Own (fun _ => False) w2 (w.heap.size + 2) 64 vP' ps) (hg : w1.grownBy w2 vP.ownBlock) (hst : Stay w1 vP vP') : PSt w w2 bx vP' vU vR hs ⟨ps, s'.uses, s'.roots⟩ :=
  h.grow hg (fun k hk => (h.parts.lt.1 k hk).1) (h.parts.turnP ho hg hst)
/-- A row that a callee made. -/
theorem PSt.pushNew {w3 : World} {l : List Int} {x : Hd} (h : PSt w w1 bx vP vU vR hs s') (hb : RowKit.Below w1.heap.size w1 w2) (hx : Go.Bk.Own (fun _ => False) w2 w1.heap.size 3 x.val l) (ho : Go.Bk.Own (fun _ => False) w3 (w.heap.size + 2) 23 vR' (hs ++ [x])) (hg : w2.grownBy w3 vR.ownBlock) (hst : Stay w2 vR vR') :
    PSt w w3 bx vP vU vR' (hs ++ [x]) ⟨s'.pages, s'.uses, s'.roots ++ [l]⟩ :=
  (h.keep hb).grow hg (fun k hk => ((h.keep hb).parts.lt.2.2.1 k hk).1) (h.parts.pushNew hb h.size hx ho hg hst)
/-- The row itself, put at the end. -/
theorem PSt.pushRow {w2 : World} {x : Hd} (h : PSt w w1 bx vP vU vR hs s') (hxv : x.val = vU) (ho : Go.Bk.Own (fun _ => False) w2 (w.heap.size + 2) 23 vR' (hs ++ [x])) (hg : w1.grownBy w2 vR.ownBlock) (hst : Stay w1 vR vR') :
    Go.Bk.Own (fun _ => False) w2 (w.heap.size + 2) 64 vP s'.pages ∧ RowsOwn w2 (w.heap.size + 2) 23 3 vR' (hs ++ [x]) (s'.roots ++ [s'.uses]) ∧ Blk w2 w.heap.size 26 bx ∧ Blk w2 (w.heap.size + 1) 26 [.slice none 0 0, .slice none 0 0, .slice none 0 0] ∧ RowKit.Below w.heap.size w w2 := by
  have hn : ∀ k, vR.ownBlock = some k → w.heap.size + 2 ≤ k := fun k hk => (h.parts.lt.2.2.1 k hk).1
  exact ⟨h.parts.pages.apart hg h.parts.pr.symm (fun _ h => h.elim), h.parts.roots.push ho hg hst (by rw [hxv]; exact h.parts.uses) (by rw [hxv]; exact h.parts.ur) (fun j y hy => by rw [hxv]; exact (h.parts.rows j y hy).2.symm),
    h.box.keep (hg.block _ h.box.lt (fun e => by have := hn _ e.symm; omega)), h.res.keep (hg.block _ h.res.lt (fun e => by have := hn _ e.symm; omega)), h.below.grown hg h.below.size (fun k hk => by have := hn k hk; omega)⟩
end
/-- The rows as far as version i. -/
def rootsTo (l : List (List Int)) (r : List Int) (i : Nat) : List (List Int) := (l.set (emptyAt l) r).take i
theorem empty_le (l : List (List Int)) : emptyAt l ≤ l.length := (findIdx_spec _ _).1
theorem rootsTo_at {l : List (List Int)} {r x : List Int} {i : Nat} (hx : l[i]? = some x) : rootsTo l r (i + 1) = rootsTo l r i ++ [if i = emptyAt l then r else x] := by
  have hi := (List.getElem?_eq_some_iff.1 hx).1
  unfold rootsTo
  rw [List.take_add_one]
  congr 1
  split
  · rename_i e; rw [e, List.getElem?_set_self (by rw [← e]; exact hi)]; rfl
  · rename_i e; rw [List.getElem?_set_ne (fun e2 => e e2.symm), hx]; rfl
theorem rootsTo_all (l : List (List Int)) (r : List Int) : newRoots l r = if emptyAt l < l.length then rootsTo l r l.length else rootsTo l r l.length ++ [r] := by
  unfold newRoots rootsTo
  split
  · rw [List.take_of_length_le (by simp)]
  · rw [List.take_of_length_le (by simp), List.set_eq_of_length_le (by omega)]
theorem empty_is {l : List (List Int)} {i : Nat} {x : List Int} (hx : l[i]? = some x) (hlt : i ≤ emptyAt l) : x = [] ↔ i = emptyAt l := by
  obtain ⟨h1, h2, h3⟩ := findIdx_spec (fun r => decide (r = ([] : List Int))) l
  constructor
  · intro e
    by_cases h : i < emptyAt l
    · have := h2 i x h hx
      rw [e] at this
      simp at this
    · omega
  · intro e
    subst e
    exact of_decide_eq_true (h3 x hx)
/-- The number as far as version i. -/
def numTo (l : List (List Int)) (i : Nat) : Int := if emptyAt l < i then (emptyAt l : Nat) else -1
/-- A page as far as its number k. -/
def upTo (z : Four) (k : Nat) : Four := (if 0 < k then z.1 else 0, if 1 < k then z.2.1 else 0, if 2 < k then z.2.2.1 else 0, if 3 < k then z.2.2.2 else 0)
def zeroTo (z : Four) : Nat → Bool
  | 0 => true
  | k + 1 => zeroTo z k && (part4 z k == 0)
theorem upTo_set (z : Four) {k : Nat} (hk : k < 4) : (fourV (upTo z k)).set k (.int .i64 (part4 z k)) = fourV (upTo z (k + 1)) := by
  match k, hk with
  | 0, _ => rfl
  | 1, _ => rfl
  | 2, _ => rfl
  | 3, _ => rfl
theorem upTo_all (z : Four) : upTo z 4 = z := rfl
theorem zeroTo_all (z : Four) : zeroTo z 4 = decide (z = zero4) := by
  obtain ⟨a, b, c, d⟩ := z
  have h := same4_eq (a, b, c, d) zero4
  rw [← h]
  unfold same4 zeroTo zeroTo zeroTo zeroTo zeroTo
  show ((((true && (a == 0)) && (b == 0)) && (c == 0)) && (d == 0)) = (a == 0 && (b == 0 && (c == 0 && d == 0)))
  cases a == 0 <;> cases b == 0 <;> cases c == 0 <;> cases d == 0 <;> rfl
theorem part4_set4 (y : Four) {j k : Nat} (v : Int) (hj : j < 4) (hk : k < 4) : part4 (set4 y j v) k = if k = j then v else part4 y k := by
  match j, hj, k, hk with
  | 0, _, 0, _ => rfl
  | 0, _, 1, _ => rfl
  | 0, _, 2, _ => rfl
  | 0, _, 3, _ => rfl
  | 1, _, 0, _ => rfl
  | 1, _, 1, _ => rfl
  | 1, _, 2, _ => rfl
  | 1, _, 3, _ => rfl
  | 2, _, 0, _ => rfl
  | 2, _, 1, _ => rfl
  | 2, _, 2, _ => rfl
  | 2, _, 3, _ => rfl
  | 3, _, 0, _ => rfl
  | 3, _, 1, _ => rfl
  | 3, _, 2, _ => rfl
  | 3, _, 3, _ => rfl
theorem getOf_near (s : Store) (root : Int) {at' : Int} {j k : Nat} (h1 : 0 ≤ at') (hj : (at' % 4).toNat = j) (hk : k < 4) : getOf s root (at' - (j : Int) + (k : Int)) = part4 (pageOf s root at') k := by
  have e1 : (at' - (j : Int) + (k : Int)) / 4 = at' / 4 := by omega
  have e2 : ((at' - (j : Int) + (k : Int)) % 4).toNat = k := by omega
  unfold getOf pageOf
  rw [e1, e2]
theorem free_at {u : List Int} {i : Nat} {x : Int} (hx : u[i]? = some x) (hlt : i ≤ freeOf u) : x = 0 ↔ i = freeOf u := by
  obtain ⟨h1, h2, h3⟩ := findIdx_spec (fun u => decide (u = (0 : Int))) u
  constructor
  · intro e
    by_cases h : i < freeOf u
    · have := h2 i x h hx
      rw [e] at this
      simp at this
    · omega
  · intro e
    subst e
    exact of_decide_eq_true (h3 x hx)
end Go.Proofs.Ytjlnaiiajlahgaa.pag
