/- General: whose a block is: parts of a state that lie in blocks of their own, all apart, told by a mark of each block. No program is named here. -/
import Derived.Test.YtffebdngmbbcoaaMapRows
import Derived.Test.YtffebdngmbbcoaaCells
set_option linter.unusedVariables false
set_option linter.unusedSimpArgs false
namespace Go.Bk
open Go.RowKit Go.Maps

/-- From w to w' only what bears a mark of I was turned. -/
structure Turn (tag tag' : Nat → Nat) (I : Nat → Prop) (w w' : World) : Prop where
  size : w.heap.size ≤ w'.heap.size
  same : ∀ b, b < w.heap.size → ¬ I (tag b) → w'.heap[b]? = w.heap[b]?
  old : ∀ b, b < w.heap.size → tag' b = tag b
/-- What is new bears the mark i. -/
def retag (tag : Nat → Nat) (n i : Nat) : Nat → Nat := fun b => if b < n then tag b else i
theorem retag_old {tag : Nat → Nat} {n i b : Nat} (h : b < n) : retag tag n i b = tag b := if_pos h
theorem retag_new {tag : Nat → Nat} {n i b : Nat} (h : n ≤ b) : retag tag n i b = i := if_neg (by omega)
def Mark (tag : Nat → Nat) (i : Nat) (o : Option Nat) : Prop := ∀ b, o = some b → tag b = i

section
variable {tag tag' tag'' : Nat → Nat} {I J : Nat → Prop} {i j n g : Nat} {w w' w'' : World} {row : Option Nat}
theorem Turn.refl (tag : Nat → Nat) (I : Nat → Prop) (w : World) : Turn tag tag I w w := ⟨Nat.le_refl _, fun _ _ _ => rfl, fun _ _ => rfl⟩
theorem Turn.trans (h : Turn tag tag' I w w') (k : Turn tag' tag'' I w' w'') : Turn tag tag'' I w w'' :=
  ⟨Nat.le_trans h.size k.size, fun b hb hi => (k.same b (Nat.lt_of_lt_of_le hb h.size) (by rw [h.old b hb]; exact hi)).trans (h.same b hb hi), fun b hb => (k.old b (Nat.lt_of_lt_of_le hb h.size)).trans (h.old b hb)⟩
theorem Turn.mono (h : Turn tag tag' I w w') (hi : ∀ i, I i → J i) : Turn tag tag' J w w' := ⟨h.size, fun b hb hj => h.same b hb (fun hI => hj (hi _ hI)), h.old⟩
theorem Turn.grown (hg : w.grownBy w' row) (h : Mark tag i row) : Turn tag (retag tag w.heap.size i) (· = i) w w' :=
  ⟨hg.size, fun b hb hi => hg.block b hb (fun e => hi (h b e.symm)), fun b hb => retag_old hb⟩
theorem Turn.below (hb : Below w.heap.size w w') (i : Nat) : Turn tag (retag tag w.heap.size i) (fun _ => False) w w' := ⟨hb.size, fun b h _ => hb.block b h, fun b h => retag_old h⟩
theorem Turn.quiet (hq : Quiet w w') : Turn tag tag (fun _ => False) w w' := ⟨(hq.below 0).size, fun b _ _ => hq.heap b, fun _ _ => rfl⟩
theorem Turn.set (hg : tag g = i) (o : Nat) (u : Value) : Turn tag tag (· = i) w (w.setCell ⟨g, o, none⟩ u) :=
  ⟨by rw [size_setCell]; exact Nat.le_refl _, fun b _ hi => blk_setCell_other _ _ _ (fun e => hi (by rw [e]; exact hg)), fun _ _ => rfl⟩
theorem Mark.old {o : Option Nat} (h : Mark tag i o) (hlt : ∀ b, o = some b → b < w.heap.size) (t : Turn tag tag' I w w') : Mark tag' i o := fun b hb => (t.old b (hlt b hb)).trans (h b hb)
/-- A row that has been grown: where it was, or in what is new. -/
theorem Mark.stay {v v' : Value} (h : Mark tag i v.ownBlock) (hlt : ∀ b, v.ownBlock = some b → b < w.heap.size) (hst : Stay w v v') : Mark (retag tag w.heap.size i) i v'.ownBlock := fun b hb => by
  rcases hst b hb with h1 | h1
  · rw [retag_old (hlt b h1)]; exact h b h1
  · exact retag_new h1

/-- A block of cells. -/
structure BkT (tag : Nat → Nat) (i : Nat) (w : World) (g : Nat) (e : TypeId) (cs : List Value) : Prop where
  blk : Blk w g e cs
  mark : tag g = i
theorem BkT.keep {e : TypeId} {cs : List Value} (h : BkT tag i w g e cs) (t : Turn tag tag' I w w') (hI : ¬ I i) : BkT tag' i w' g e cs :=
  ⟨h.blk.keep (t.same g h.blk.lt (by rw [h.mark]; exact hI)), (t.old g h.blk.lt).trans h.mark⟩
theorem BkT.set {e : TypeId} {cs : List Value} (h : BkT tag i w g e cs) (o : Nat) (u : Value) : BkT tag i (w.setCell ⟨g, o, none⟩ u) g e (cs.set o u) := ⟨h.blk.set o u, h.mark⟩

/-- A row of one's own. -/
structure OwT {α : Type} [Rep α] (tag : Nat → Nat) (i : Nat) (w : World) (B : Nat) (e : TypeId) (v : Value) (xs : List α) : Prop where
  own : Own (fun _ => False) w B e v xs
  mark : Mark tag i v.ownBlock
theorem own_same {α : Type} [Rep α] {B : Nat} {e : TypeId} {v : Value} {xs : List α} (h : Own (fun _ => False) w B e v xs) (hs : ∀ b, v.ownBlock = some b → w'.heap[b]? = w.heap[b]?) : Own (fun _ => False) w' B e v xs := by
  obtain ⟨css, h1, h2, hl, ⟨e1, e2⟩ | ⟨g, cap, cur, he, hg, hh, hr⟩⟩ := h
  · exact ⟨css, h1, fun k x cs hx hc => Rep.keep (fun _ h => h.elim) (h2 k x cs hx hc), hl, .inl ⟨e1, e2⟩⟩
  · exact ⟨css, h1, fun k x cs hx hc => Rep.keep (fun _ h => h.elim) (h2 k x cs hx hc), hl, .inr ⟨g, cap, cur, he, hg, (hs g (by rw [he]; rfl)).trans hh, hr⟩⟩
section
variable {α : Type} [Rep α] {B : Nat} {e : TypeId} {v v' : Value} {xs ys : List α}
theorem OwT.lt (h : OwT tag i w B e v xs) : ∀ b, v.ownBlock = some b → b < w.heap.size := fun b hb => (h.own.lt b hb).2
theorem OwT.keep (h : OwT tag i w B e v xs) (t : Turn tag tag' I w w') (hI : ¬ I i) : OwT tag' i w' B e v xs :=
  ⟨own_same h.own (fun b hb => t.same b (h.lt b hb) (by rw [h.mark b hb]; exact hI)), h.mark.old h.lt t⟩
theorem OwT.turn (h : OwT tag i w B e v xs) (ho : Own (fun _ => False) w' B e v' ys) (hst : Stay w v v') : OwT (retag tag w.heap.size i) i w' B e v' ys := ⟨ho, h.mark.stay h.lt hst⟩
theorem OwT.step (h : OwT tag i w B e v xs) (hg : w.grownBy w' v.ownBlock) : Turn tag (retag tag w.heap.size i) (· = i) w w' := Turn.grown hg h.mark
end

/-- A map. -/
structure GmT {P : Program} {K : TypeId} {κ : Type} (tag : Nat → Nat) (i : Nat) (T : KeyT P K κ) (w : World) (g n : Nat) (f : κ → Option Value) : Prop where
  map : GMap T w g n f
  mark : tag g = i
section
variable {P : Program} {K : TypeId} {κ : Type} {T : KeyT P K κ} {f f' : κ → Option Value} {m : Nat}
theorem GmT.keep (h : GmT tag i T w g n f) (t : Turn tag tag' I w w') (hI : ¬ I i) : GmT tag' i T w' g n f :=
  ⟨h.map.block (t.same g h.map.lt (by rw [h.mark]; exact hI)), (t.old g h.map.lt).trans h.mark⟩
theorem GmT.turn (h : GmT tag i T w g n f) (hm : GMap T w' g m f') (t : Turn tag tag' I w w') : GmT tag' i T w' g m f' := ⟨hm, (t.old g h.map.lt).trans h.mark⟩
theorem GmT.step (h : GmT tag i T w g n f) (hg : w.grownBy w' (some g)) : Turn tag tag (· = i) w w' :=
  ⟨hg.size, fun b hb hi => hg.block b hb (fun e => hi (by cases e; exact h.mark)), fun _ _ => rfl⟩
end

/-- A map of rows of one's own. -/
structure RmT {P : Program} {K : TypeId} {κ α : Type} [Rep α] (tag : Nat → Nat) (i : Nat) (T : KeyT P K κ) (w : World) (B g n : Nat) (e : TypeId) (f : κ → Option Value) (L : κ → List α) : Prop where
  rows : MapRows T w B g n e f L
  mark : tag g = i
  marks : ∀ t, Mark tag i ((f t).getD nilV).ownBlock
section
variable {P : Program} {K : TypeId} {κ α : Type} [Rep α] {T : KeyT P K κ} {B m : Nat} {e : TypeId} {f : κ → Option Value} {L L' : κ → List α}
theorem RmT.keep (h : RmT tag i T w B g n e f L) (t : Turn tag tag' I w w') (hI : ¬ I i) : RmT tag' i T w' B g n e f L :=
  have hlt : ∀ k b, ((f k).getD nilV).ownBlock = some b → b < w.heap.size := fun k b hb => ((h.rows.row k).lt b hb).2
  ⟨⟨h.rows.map.block (t.same g h.rows.map.lt (by rw [h.mark]; exact hI)), fun k => own_same (h.rows.row k) (fun b hb => t.same b (hlt k b hb) (by rw [h.marks k b hb]; exact hI)), h.rows.apart, h.rows.off⟩,
    (t.old g h.rows.map.lt).trans h.mark, fun k => (h.marks k).old (hlt k) t⟩
theorem RmT.mono (h : RmT tag i T w B g n e f L) (hn : n ≤ m) : RmT tag i T w B g m e f L := ⟨h.rows.mono hn, h.mark, h.marks⟩
theorem RmT.congr (h : RmT tag i T w B g n e f L) (hL : ∀ k, L k = L' k) : RmT tag i T w B g n e f L' := by rw [← funext hL]; exact h
/-- One list turned, and stored. -/
theorem RmT.put [DecidableEq κ] (h : RmT tag i T w B g n e f L) {t : κ} {u' : Value} {l' : List α} (ho : Own (fun _ => False) w' B e u' l') (hg : w.grownBy w' ((f t).getD nilV).ownBlock) (hst : Stay w ((f t).getD nilV) u')
    (hm : GMap T w'' g m (fun k => if k = t then some u' else f k)) (hg2 : w'.grownBy w'' (some g)) :
    RmT (retag tag w.heap.size i) i T w'' B g m e (fun k => if k = t then some u' else f k) (fun k => if k = t then l' else L k) ∧ Turn tag (retag tag w.heap.size i) (· = i) w w'' := by
  have hlt : ∀ k b, ((f k).getD nilV).ownBlock = some b → b < w.heap.size := fun k b hb => ((h.rows.row k).lt b hb).2
  have hgl := h.rows.map.lt
  have t1 : Turn tag (retag tag w.heap.size i) (· = i) w w' := Turn.grown hg (h.marks t)
  have t2 : Turn (retag tag w.heap.size i) (retag tag w.heap.size i) (· = i) w' w'' :=
    ⟨hg2.size, fun b hb hi => hg2.block b hb (fun e => hi (by cases e; rw [retag_old hgl]; exact h.mark)), fun _ _ => rfl⟩
  refine ⟨⟨h.rows.put ho hg hst hm hg2, by rw [retag_old hgl]; exact h.mark, fun k => ?_⟩, t1.trans t2⟩
  by_cases hk : k = t
  · simp only [hk, if_true, Option.getD_some]; exact (h.marks t).stay (hlt t) hst
  · simp only [hk, if_false]; exact (h.marks k).old (hlt k) t1
/-- One list taken out. -/
theorem RmT.del [DecidableEq κ] (h : RmT tag i T w B g n e f L) {t : κ} (hm : GMap T w' g m (fun k => if k = t then none else f k)) (hg : w.grownBy w' (some g)) :
    RmT tag i T w' B g m e (fun k => if k = t then none else f k) (fun k => if k = t then [] else L k) ∧ Turn tag tag (· = i) w w' := by
  refine ⟨⟨h.rows.del hm hg, h.mark, fun k => ?_⟩, ⟨hg.size, fun b hb hi => hg.block b hb (fun e => hi (by cases e; exact h.mark)), fun _ _ => rfl⟩⟩
  by_cases hk : k = t
  · simp only [hk, if_true]; intro b hb; cases hb
  · simp only [hk, if_false]; exact h.marks k
end
end
end Go.Bk
