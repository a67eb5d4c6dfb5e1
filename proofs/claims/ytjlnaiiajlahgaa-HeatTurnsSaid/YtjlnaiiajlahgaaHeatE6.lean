/- HeatTurns: Heads of the document: a round's way where a turn is told of a loop that is new: what it leans on. -/
import Derived.Test.YtjlnaiiajlahgaaHeatE5
import Derived.Test.YtjlnaiiajlahgaaSlices
set_option linter.unusedVariables false
set_option linter.unusedSimpArgs false
namespace Go.Proofs.Ytjlnaiiajlahgaa.heat
open Go.Bk Go.RowKit Go.Maps

section
variable {w wj : World} {hot : Int} {L : List Api.THead} {O : List Int} {fn at' kd : Int} {gc m c6 : Nat} {a6 : Option Addr} {v1 v7 v16 v17 v18 : Value}
theorem bump_new {hot fn at' : Int} (h : Good (newH hot fn at')) : bump (newH hot fn at') = if (1 : Int) = hot then ({ newH hot fn at' with Count := 1, Is := 1 }, 1) else ({ newH hot fn at' with Count := 1 }, 0) := by
  unfold Good newH at h
  dsimp only at h
  by_cases h1 : (1 : Int) = hot
  · rw [if_pos h1]
    unfold bump newH
    dsimp only
    rw [if_pos rfl, if_pos (by omega)]
    rfl
  · rw [if_neg h1]
    unfold bump newH
    dsimp only
    rw [if_pos rfl, if_neg (by omega)]
    rfl
theorem below_call {w W w' : World} (h : RowKit.Below w.heap.size w W) (hb : RowKit.Below W.heap.size W w') : RowKit.Below w.heap.size w w' := h.trans (hb.mono h.size)
theorem below_al {w W : World} {o : Obj} (h : RowKit.Below w.heap.size w W) : RowKit.Below w.heap.size w (W.alloc o) := h.alloc h.size o
theorem below_dr {w W : World} (h : RowKit.Below w.heap.size w W) : RowKit.Below w.heap.size w W.drew := h.drew
theorem blk_al {W : World} {o : Obj} {g : Nat} {e : TypeId} {cs : List Value} (h : Blk W g e cs) : Blk (W.alloc o) g e cs := h.keep (Below.heap_alloc _ _ _ h.lt)
theorem blk_dr {W : World} {g : Nat} {e : TypeId} {cs : List Value} (h : Blk W g e cs) : Blk W.drew g e cs := h.keep rfl
theorem blk_call {W w' : World} {g : Nat} {e : TypeId} {cs : List Value} (hb : RowKit.Below W.heap.size W w') (h : Blk W g e cs) : Blk w' g e cs := h.keep (hb.block g h.lt)
section
variable {W w' : World} {B : Nat} {e : TypeId} {v : Value} {xs : List Api.THead}
theorem own_al {o : Obj} (h : Go.Bk.Own (fun _ => False) W B e v xs) : Go.Bk.Own (fun _ => False) (W.alloc o) B e v xs := h.alloc o (fun _ h => h.elim)
theorem own_dr (h : Go.Bk.Own (fun _ => False) W B e v xs) : Go.Bk.Own (fun _ => False) W.drew B e v xs := h.below (RowKit.Below.refl W.heap.size W).drew (fun _ h => h.elim)
end
def lRel (wj : World) (p : Nat) (v10 : Value) (w' : World) : Prop := ∃ q : Nat, q ≤ p ∧ v10 = .int .i64 q ∧ Quiet wj w'
theorem arr_one {W : World} {g : Nat} {T : TypeId} {x : Api.THead} (h : Blk W g T (hC x)) (hi : HInts x) : Arr (fun b => b = g) W (some ⟨g, 0, none⟩) [x] := by
  refine ⟨by simp [maxLen], ?_⟩
  refine .inr ⟨g, 0, rfl, rfl, fun k y hk => ?_⟩
  cases k with
  | zero =>
    simp at hk
    subst hk
    refine ⟨_, api_THead_cells_mk hi.1 hi.2.1 hi.2.2.1 hi.2.2.2.1 hi.2.2.2.2.1 hi.2.2.2.2.2, fun j hj => ?_⟩
    have hj6 : j < 6 := hj
    refine Eq.trans ?_ (h.cell (j := j) (v := ((hC x)[j]'(by show j < 6; exact hj6))) (List.getElem?_eq_getElem _)) |>.trans (List.getElem?_eq_getElem (l := hC x) (by show j < 6; exact hj6)).symm
    congr 2
    omega
  | succ k => simp at hk
theorem Pre.row (P : Pre w wj hot L O fn at' kd gc a6 m c6 v7) : m ≤ c6 ∧ (a6 = none → c6 = 0) ∧ Arr (fun b => False ∨ w.heap.size ≤ b ∧ b < wj.heap.size) wj a6 L := by
  obtain ⟨a, c, he, h1, h2, h3⟩ := P.st.heads.arr
  injection he with e1 e2 e3
  dsimp only at e2 h1 h3
  subst e1 e2 e3
  exact ⟨h1, h2, h3⟩
end
end Go.Proofs.Ytjlnaiiajlahgaa.heat
