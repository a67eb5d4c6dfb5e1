/- PagesTells: Set: its state. -/
import Derived.Test.YtjlnaiiajlahgaaPagS
import Derived.Test.YtjlnaiiajlahgaaPagR
set_option linter.unusedVariables false
set_option linter.unusedSimpArgs false
namespace Go.Proofs.Ytjlnaiiajlahgaa.pag
open Go.Bk Go.RowKit

def setRes (s : Store) (root at' v : Int) : Store × Int × Int := if ask s root at' = 0 then setOf s root at' v else (⟨[], [], []⟩, 0, ask s root at')
def SetPost (w : World) (s : Store) (root at' v : Int) (e : Ending) (w' : World) : Prop :=
  ∃ aP aU aR nP nU nR cP cU cR, e = .returned (.tuple #[stV aP aU aR nP nU nR cP cU cR, .int .i64 (setRes s root at' v).2.1, .int .i64 (setRes s root at' v).2.2]) ∧ StAt (Fresh w w') w' aP aU aR nP nU nR (setRes s root at' v).1 ∧ RowKit.Below w.heap.size w w'
theorem OutSt.root {w w1 w2 : World} {g B R : Nat} {vP vU vR vR' : Value} {hs hs' : List Hd} {s' s2 : Store} (h : OutSt w w1 g B R vP vU vR hs s') (hf : RootSt w1 w2 g B vP vU vR s2 vR' hs') : OutSt w w2 g B R vP vU vR' hs' s2 := by
  have hn : ∀ b, b < B → ¬ (b = g ∨ vR.ownBlock = some b) := fun b hb hi => by
    rcases hi with e | e
    · have := h.lowG; omega
    · have := (h.parts.lt.2.2.1 b e).1; omega
  exact ⟨hf.box, hf.parts, hf.off, h.res.keep (hf.only.block _ h.res.lt (hn _ h.lowR)), h.lowR, h.lowW, h.lowG,
    ⟨hf.only.os.trans h.below.os, hf.only.tape.trans h.below.tape, hf.only.output.trans h.below.output, Nat.le_trans h.below.size hf.only.size, fun b hb => (hf.only.block b (Nat.lt_of_lt_of_le hb h.below.size) (hn b (by have := h.lowR; have := h.lowW; omega))).trans (h.below.block b hb)⟩⟩
/-- The store being built, and the new row beside it. -/
structure SetSt (w w' : World) (g B R : Nat) (vP vU vR : Value) (hs : List Hd) (s' : Store) (la : Option Addr) (lc : Nat) (l : List Int) : Prop where
  out : OutSt w w' g B R vP vU vR hs s'
  row : Go.Bk.Own (fun _ => False) w' B 3 (.slice la 16 lc) l
  offV : OffV (.slice la 16 lc) vP vU vR hs
  offG : (Value.slice la 16 lc).ownBlock ≠ some g
section
variable {w w1 w2 : World} {g B R : Nat} {vP vU vR vP' vU' vR' : Value} {hs hs' : List Hd} {s' : Store} {la : Option Addr} {lc : Nat} {l : List Int}
theorem OutSt.withRow (h : OutSt w w1 g B R vP vU vR hs s') (hr : Go.Bk.Own (fun _ => False) w2 w1.heap.size 3 (.slice la 16 lc) l) (hb : RowKit.Below w1.heap.size w1 w2) : SetSt w w2 g B R vP vU vR hs s' la lc l :=
  ⟨h.keep hb, own_base hr (by have := h.lowG; have := h.box.lt; omega), h.parts.offV (fun k hk => (hr.lt k hk).1), fun e => by have := (hr.lt _ e).1; have := h.box.lt; omega⟩
theorem SetSt.keep (h : SetSt w w1 g B R vP vU vR hs s' la lc l) (hb : RowKit.Below w1.heap.size w1 w2) : SetSt w w2 g B R vP vU vR hs s' la lc l :=
  ⟨h.out.keep hb, h.row.below hb (fun _ h => h.elim), h.offV, h.offG⟩
theorem SetSt.alloc (h : SetSt w w1 g B R vP vU vR hs s' la lc l) (o : Obj) : SetSt w (w1.alloc o) g B R vP vU vR hs s' la lc l := h.keep ((RowKit.Below.refl _ _).alloc (Nat.le_refl _) o)
/-- A block turned that nobody here has. -/
theorem SetSt.far {gx : Nat} (h : SetSt w w1 g B R vP vU vR hs s' la lc l) (hg : w1.grownBy w2 (some gx)) (hb : w.heap.size ≤ gx) (hx : Off vP vU vR hs gx) (hr : (Value.slice la 16 lc).ownBlock ≠ some gx) (h1 : gx ≠ g) (h2 : gx ≠ R) : SetSt w w2 g B R vP vU vR hs s' la lc l :=
  ⟨⟨h.out.box.keep (hg.block _ h.out.box.lt (fun e => h1 (Option.some.inj e).symm)), h.out.parts.other hg hx, h.out.off, h.out.res.keep (hg.block _ h.out.res.lt (fun e => h2 (Option.some.inj e).symm)), h.out.lowR, h.out.lowW, h.out.lowG, h.out.below.grown hg h.out.below.size (fun r hr => by cases hr; exact hb)⟩,
    h.row.keep hg (.inr hr) (fun _ h => h.elim), h.offV, h.offG⟩
theorem SetSt.setU (h : SetSt w w1 g B R vP vU vR hs s' la lc l) {gu n c k : Nat} {x y : Int} (hv : vU = .slice (some ⟨gu, 0, none⟩) n c) (hk : s'.uses[k]? = some x) (hy : I64 y) : SetSt w (w1.setCell ⟨gu, k, none⟩ (.int .i64 y)) g B R vP vU vR hs ⟨s'.pages, s'.uses.set k y, s'.roots⟩ la lc l :=
  ⟨h.out.setU hv hk hy, h.row.keep (row := some gu) (grownBy_setCell (World.grownBy.refl _ _) _ _) (.inr fun e => h.offV.u gu e (by rw [hv]; rfl)) (fun _ h => h.elim), h.offV, h.offG⟩
theorem SetSt.setRow (h : SetSt w w1 g B R vP vU vR hs s' la lc l) {gl k : Nat} {x y : Int} (hv : la = some ⟨gl, 0, none⟩) (hk : l[k]? = some x) (hy : I64 y) : SetSt w (w1.setCell ⟨gl, k, none⟩ (.int .i64 y)) g B R vP vU vR hs s' la lc (l.set k y) := by
  subst hv
  have hg : w1.grownBy (w1.setCell ⟨gl, k, none⟩ (.int .i64 y)) (some gl) := grownBy_setCell (World.grownBy.refl _ _) _ _
  have hgl := h.row.lt gl rfl
  have hoff : Off vP vU vR hs gl := ⟨fun e => h.offV.p gl rfl e, fun e => h.offV.u gl rfl e, fun e => h.offV.r gl rfl e, fun j x hx e => h.offV.rows j x hx gl rfl e⟩
  obtain ⟨g', cap, cs, he, h1, h2, h3, h4, h5, h6, h7⟩ := h.row.at hk
  injection he with he
  injection he with he
  injection he with he
  subst he
  have h8 := h7 0 (.int .i64 y) y (by show 0 < 1; omega) (fun _ h => h.elim) (by obtain ⟨rfl, -⟩ := h4; exact ⟨rfl, hy⟩)
  rw [show k * Rep.sz Int + 0 = k by show k * 1 + 0 = k; omega] at h8
  exact ⟨h.out.turn hg (fun e => h.offG (by rw [← e]; rfl)) h1 (h.out.parts.other hg hoff), h8, h.offV, h.offG⟩
/-- What fresh left, and the row. -/
theorem SetSt.fresh {s2 : Store} (h : SetSt w w1 g B R vP vU vR hs s' la lc l) (hf : FreshSt w1 w2 g B vP vU vR hs s2 vP' vU') : SetSt w w2 g B R vP' vU' vR hs s2 la lc l :=
  ⟨h.out.fresh hf, hf.only.own h.row (fun b hb hi => by
      rcases hi with e | e | e
      · exact h.offG (by rw [← e]; exact hb)
      · exact h.offV.p b hb e
      · exact h.offV.u b hb e),
    (h.offV.turnP hf.stP (fun k hk => (h.row.lt k hk).2)).turnU hf.stU (fun k hk => (h.row.lt k hk).2), h.offG⟩
end
end Go.Proofs.Ytjlnaiiajlahgaa.pag
