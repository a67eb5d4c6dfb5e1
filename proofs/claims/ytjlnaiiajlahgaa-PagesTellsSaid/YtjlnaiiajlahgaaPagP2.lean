/- PagesTells: what fresh and root leave. -/
import Derived.Test.YtjlnaiiajlahgaaPagP
import Derived.Test.YtjlnaiiajlahgaaAppB
import Derived.Test.YtjlnaiiajlahgaaEq4
set_option linter.unusedVariables false
set_option linter.unusedSimpArgs false
namespace Go.Proofs.Ytjlnaiiajlahgaa.pag
open Go.Bk Go.RowKit

/-- Of what was there, only blocks of I were turned. -/
structure Only (w w' : World) (I : Nat → Prop) : Prop where
  os : w'.os = w.os
  tape : w'.tape = w.tape
  output : w'.output = w.output
  size : w.heap.size ≤ w'.heap.size
  block : ∀ b, b < w.heap.size → ¬ I b → w'.heap[b]? = w.heap[b]?
section
variable {w w1 w2 : World} {I : Nat → Prop}
theorem Only.below (h : RowKit.Below w.heap.size w w1) : Only w w1 I := ⟨h.os, h.tape, h.output, h.size, fun b hb _ => h.block b hb⟩
theorem Only.grown {r : Option Nat} (h : w.grownBy w1 r) (hr : ∀ b, r = some b → I b) : Only w w1 I := ⟨h.os, h.tape, h.output, h.size, fun b hb hi => h.block b hb fun e => hi (hr b e.symm)⟩
theorem Only.trans (h : Only w w1 I) (k : Only w1 w2 I) : Only w w2 I := ⟨k.os.trans h.os, k.tape.trans h.tape, k.output.trans h.output, Nat.le_trans h.size k.size, fun b hb hi => (k.block b (Nat.lt_of_lt_of_le hb h.size) hi).trans (h.block b hb hi)⟩
theorem Only.refl (w : World) (I : Nat → Prop) : Only w w I := ⟨rfl, rfl, rfl, Nat.le_refl _, fun _ _ _ => rfl⟩
/-- A row that is none of these. -/
theorem Only.own {α : Type} [Rep α] {B : Nat} {e : TypeId} {v : Value} {xs : List α} (h : Only w w1 I) (ho : Go.Bk.Own (fun _ => False) w B e v xs) (hv : ∀ b, v.ownBlock = some b → ¬ I b) : Go.Bk.Own (fun _ => False) w1 B e v xs := by
  have hs : ∀ b, v.ownBlock = some b → w1.heap[b]? = w.heap[b]? := fun b hb => h.block b (ho.lt b hb).2 (hv b hb)
  obtain ⟨css, h1, h2, hl, ⟨e1, e2⟩ | ⟨g, cap, cur, he, hg, hh, hr⟩⟩ := ho
  · exact ⟨css, h1, fun k x cs hx hc => Rep.keep (fun _ h => h.elim) (h2 k x cs hx hc), hl, .inl ⟨e1, e2⟩⟩
  · exact ⟨css, h1, fun k x cs hx hc => Rep.keep (fun _ h => h.elim) (h2 k x cs hx hc), hl, .inr ⟨g, cap, cur, he, hg, (hs g (by rw [he]; rfl)).trans hh, hr⟩⟩
end
def turnI (vP vU : Value) (g b : Nat) : Prop := b = g ∨ vP.ownBlock = some b ∨ vU.ownBlock = some b
structure FreshSt (w w' : World) (g B : Nat) (vP vU vR : Value) (hs : List Hd) (s' : Store) (vP' vU' : Value) : Prop where
  box : Blk w' g 26 [vP', vU', vR]
  parts : Parts w' B vP' vU' vR hs s'
  off : Off vP' vU' vR hs g
  stP : Stay w vP vP'
  stU : Stay w vU vU'
  only : Only w w' (turnI vP vU g)
def FreshPost (w : World) (g B : Nat) (vP vU vR : Value) (hs : List Hd) (s : Store) (p : Four) (e : Ending) (w' : World) : Prop :=
  e = .returned (.int .i64 (newNum s p)) ∧ ∃ vP' vU', FreshSt w w' g B vP vU vR hs ⟨newPages s p, newUses s p, s.roots⟩ vP' vU'
/-- Page n turned, where the walk stores it. -/
theorem FreshSt.put {w w1 : World} {g B : Nat} {vP vU vR vP' vU' : Value} {hs : List Hd} {s' : Store} (h : FreshSt w w1 g B vP vU vR hs s' vP' vU') {gp n c k : Nat} {x y : Four} (hv : vP' = .slice (some ⟨gp, 0, none⟩) n c) (hk : s'.pages[k]? = some x) (h1 : I64 y.1) (h2 : I64 y.2.1) (h3 : I64 y.2.2.1) (h4 : I64 y.2.2.2) :
    FreshSt w ((((w1.setCell ⟨gp, k * 4, none⟩ (.int .i64 y.1)).setCell ⟨gp, k * 4 + 1, none⟩ (.int .i64 y.2.1)).setCell ⟨gp, k * 4 + 2, none⟩ (.int .i64 y.2.2.1)).setCell ⟨gp, k * 4 + 3, none⟩ (.int .i64 y.2.2.2)) g B vP vU vR hs ⟨s'.pages.set k y, s'.uses, s'.roots⟩ vP' vU' := by
  have hg : w1.grownBy ((((w1.setCell ⟨gp, k * 4, none⟩ (.int .i64 y.1)).setCell ⟨gp, k * 4 + 1, none⟩ (.int .i64 y.2.1)).setCell ⟨gp, k * 4 + 2, none⟩ (.int .i64 y.2.2.1)).setCell ⟨gp, k * 4 + 3, none⟩ (.int .i64 y.2.2.2)) (some gp) := grownBy_setCell (grownBy_setCell (grownBy_setCell (grownBy_setCell (World.grownBy.refl _ _) _ _) _ _) _ _) _ _
  have hgp : vP'.ownBlock = some gp := by rw [hv]; rfl
  have hlt := (h.parts.pages.lt gp hgp).2
  refine ⟨h.box.keep (hg.block g h.box.lt (fun e => h.off.p (by rw [hgp, ← e]))), h.parts.setP hv hk h1 h2 h3 h4, h.off, h.stP, h.stU, ?_⟩
  refine ⟨hg.os.trans h.only.os, hg.tape.trans h.only.tape, hg.output.trans h.only.output, Nat.le_trans h.only.size hg.size, fun b hb hi => ?_⟩
  refine (hg.block b (Nat.lt_of_lt_of_le hb h.only.size) (fun e => ?_)).trans (h.only.block b hb hi)
  have e := Option.some.inj e
  subst e
  rcases h.stP _ hgp with h5 | h5
  · exact hi (.inr (.inl h5))
  · omega
theorem FreshSt.drew {w w1 : World} {g B : Nat} {vP vU vR vP' vU' : Value} {hs : List Hd} {s' : Store} (h : FreshSt w w1 g B vP vU vR hs s' vP' vU') : FreshSt w w1.drew g B vP vU vR hs s' vP' vU' :=
  ⟨blk_dr h.box, h.parts.keep (RowKit.Below.refl w1.heap.size w1).drew, h.off, h.stP, h.stU, h.only.trans (Only.below (RowKit.Below.refl w1.heap.size w1).drew)⟩
/-- Half way: the pages are appended to, the box still tells the old ones. -/
structure MidSt (w w' : World) (g B : Nat) (vP vU vR : Value) (hs : List Hd) (s' : Store) (vP' vU' : Value) : Prop where
  box : Blk w' g 26 [vP, vU, vR]
  parts : Parts w' B vP' vU' vR hs s'
  off : Off vP' vU' vR hs g
  stP : Stay w vP vP'
  stU : Stay w vU vU'
  only : Only w w' (turnI vP vU g)
section
variable {w w1 w2 : World} {g B : Nat} {vP vU vR vP' vU' vP2 vU2 : Value} {hs : List Hd} {s' : Store}
theorem stay_on {w w1 : World} {v v' v2 : Value} (h : Stay w v v') (k : Stay w1 v' v2) (hw : w.heap.size ≤ w1.heap.size) : Stay w v v2 := fun b hb => by
  rcases k b hb with h1 | h1
  · exact h b h1
  · exact .inr (by omega)
theorem MidSt.keep (h : MidSt w w1 g B vP vU vR hs s' vP' vU') (hb : RowKit.Below w1.heap.size w1 w2) : MidSt w w2 g B vP vU vR hs s' vP' vU' :=
  ⟨h.box.keep (hb.block _ h.box.lt), h.parts.keep hb, h.off, h.stP, h.stU, h.only.trans (Only.below hb)⟩
theorem MidSt.pushP (h : MidSt w w1 g B vP vU vR hs s' vP' vU') {ps : List Four} (hg0 : g < w.heap.size) (ho : Go.Bk.Own (fun _ => False) w2 B 64 vP2 ps) (hg : w1.grownBy w2 vP'.ownBlock) (hst : Stay w1 vP' vP2) : MidSt w w2 g B vP vU vR hs ⟨ps, s'.uses, s'.roots⟩ vP2 vU' :=
  ⟨h.box.keep (hg.block g h.box.lt (fun e => h.off.p e.symm)), h.parts.turnP ho hg hst, h.off.turnP hst h.box.lt, stay_on h.stP hst h.only.size, h.stU,
    ⟨hg.os.trans h.only.os, hg.tape.trans h.only.tape, hg.output.trans h.only.output, Nat.le_trans h.only.size hg.size, fun b hb hi => (hg.block b (Nat.lt_of_lt_of_le hb h.only.size) (fun e => by
      rcases h.stP b e.symm with h5 | h5
      · exact hi (.inr (.inl h5))
      · omega)).trans (h.only.block b hb hi)⟩⟩
theorem MidSt.pushU (h : MidSt w w1 g B vP vU vR hs s' vP' vU') {us : List Int} (hg0 : g < w.heap.size) (ho : Go.Bk.Own (fun _ => False) w2 B 3 vU2 us) (hg : w1.grownBy w2 vU'.ownBlock) (hst : Stay w1 vU' vU2) : MidSt w w2 g B vP vU vR hs ⟨s'.pages, us, s'.roots⟩ vP' vU2 :=
  ⟨h.box.keep (hg.block g h.box.lt (fun e => h.off.u e.symm)), h.parts.turnU ho hg hst, h.off.turnU hst h.box.lt, h.stP, stay_on h.stU hst h.only.size,
    ⟨hg.os.trans h.only.os, hg.tape.trans h.only.tape, hg.output.trans h.only.output, Nat.le_trans h.only.size hg.size, fun b hb hi => (hg.block b (Nat.lt_of_lt_of_le hb h.only.size) (fun e => by
      rcases h.stU b e.symm with h5 | h5
      · exact hi (.inr (.inr h5))
      · omega)).trans (h.only.block b hb hi)⟩⟩
theorem MidSt.store (h : MidSt w w1 g B vP vU vR hs s' vP' vU') : FreshSt w ((w1.setCell ⟨g, 0, none⟩ vP').setCell ⟨g, 1, none⟩ vU') g B vP vU vR hs s' vP' vU' := by
  have hg : w1.grownBy ((w1.setCell ⟨g, 0, none⟩ vP').setCell ⟨g, 1, none⟩ vU') (some g) := grownBy_setCell (grownBy_setCell (World.grownBy.refl _ _) _ _) _ _
  exact ⟨(h.box.set 0 vP').set 1 vU', h.parts.other hg h.off, h.off, h.stP, h.stU, h.only.trans (Only.grown hg fun b e => .inl (Option.some.inj e).symm)⟩
end
end Go.Proofs.Ytjlnaiiajlahgaa.pag
