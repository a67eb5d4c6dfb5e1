/- ClocksEdges: an event comes: walked. -/
import Derived.Test.YtffebdngmbbcoaaClkA
import Derived.Deep.DeepCutAuto
import Derived.Deep.RegionHeld3
import Derived.StillTailTactics
set_option linter.unusedVariables false
set_option linter.unusedSimpArgs false
namespace Go.Proofs.Ytffebdngmbbcoaa.clk
open Go.Bk Go.RowKit Go.Maps Go.Proofs.Ytffebdngmbbcoaa.lock

abbrev evC (x : Api.Event) : List Value := [.int .i64 x.Kind, .int .i64 x.Step, .int .i64 x.Thread, .int .i64 x.Fn, .int .i64 x.At, .int .i64 x.Line, .int .i64 x.A, .int .i64 x.B, .int .i64 x.Val.Kind, .int .i64 x.Val.N, .int .i64 x.Old.Kind, .int .i64 x.Old.N]
/-- The weaver, and the event in its box. -/
structure CS (W w : World) (gw m0 m1 m2 m3 n : Nat) (A0 A2 : Int → Option Nat) (L1 L3 : Int → List Nat) (ps : List Api.DPair) (gb : Nat) (x : Api.Event) (tag : Nat → Nat) (f1 f3 : Int → Option Value) (v : Value) : Prop where
  ws : WS W w tag gw m0 m1 m2 m3 n A0 A2 f1 f3 L1 L3 v ps
  ev : BkT tag 6 w gb 70 (evC x)
section
variable {W w w' w'' : World} {gw m0 m1 m2 m3 n m : Nat} {A0 A2 A0' A2' : Int → Option Nat} {L1 L3 L1' L3' : Int → List Nat} {ps ps' : List Api.DPair} {gb : Nat} {x : Api.Event} {tag : Nat → Nat} {f1 f3 : Int → Option Value} {v : Value}
theorem CS.quiet (h : CS W w gw m0 m1 m2 m3 n A0 A2 L1 L3 ps gb x tag f1 f3 v) (hq : Quiet w w') : CS W w' gw m0 m1 m2 m3 n A0 A2 L1 L3 ps gb x tag f1 f3 v := ⟨h.ws.quiet hq, h.ev.keep (Turn.quiet hq) (fun h => h)⟩
theorem CS.edges (h : CS W w gw m0 m1 m2 m3 n A0 A2 L1 L3 ps gb x tag f1 f3 v) {e : Ending} (hp : EdgePost W w tag gw m0 m1 m2 m3 n A0 A2 f1 f3 L1 L3 ps' e w') : ∃ tag' v', CS W w' gw m0 m1 m2 m3 n A0 A2 L1 L3 ps' gb x tag' f1 f3 v' := by
  obtain ⟨-, tag', v', h1, h2⟩ := hp
  exact ⟨tag', v', h1, h.ev.keep h2 (by omega)⟩
theorem CS.start (h : WS W w tag gw m0 m1 m2 m3 n A0 A2 f1 f3 L1 L3 v ps) (x : Api.Event) : CS W (w.alloc (.cells (evC x).toArray 70)) gw m0 m1 m2 m3 n A0 A2 L1 L3 ps w.heap.size x (retag tag w.heap.size 6) f1 f3 v := by
  have hb : Below w.heap.size w (w.alloc (.cells (evC x).toArray 70)) := (Below.refl _ _).alloc (Nat.le_refl _) _
  exact ⟨h.keep (Turn.below hb 6) (fun _ h => h.elim) hb, blk_new w (evC x) _, retag_new (Nat.le_refl _)⟩
/-- A number stored into the first table. -/
theorem CS.put0 (h : CS W w gw m0 m1 m2 m3 n A0 A2 L1 L3 ps gb x tag f1 f3 v) {t : Int} {i : Nat} (hm : GMap intKey w' m0 (n + 1) (fun k => if k = t then some (.int .i64 (i : Nat)) else natV (A0 k))) (hg : w.grownBy w' (some m0)) :
    CS W w' gw m0 m1 m2 m3 (n + 1) (fun k => if k = t then some i else A0 k) A2 L1 L3 ps gb x tag f1 f3 v := by
  have t1 := h.ws.last.step hg
  have h1 := h.ws.mono (Nat.le_succ n)
  refine ⟨⟨h1.box.keep t1 (by omega), ⟨hm.congr (fun k => ?_), h.ws.last.mark⟩, h1.spawns.keep t1 (by omega), h1.over.keep t1 (by omega), h1.frees.keep t1 (by omega), h1.out.keep t1 (by omega), h1.below.grown hg h1.below.size (fun r hr => by cases hr; exact h1.ge.2.1), h1.ge⟩, h.ev.keep t1 (by omega)⟩
  by_cases hk : k = t <;> simp [hk, natV]
theorem CS.put2 (h : CS W w gw m0 m1 m2 m3 n A0 A2 L1 L3 ps gb x tag f1 f3 v) {t : Int} {i : Nat} (hm : GMap intKey w' m2 (n + 1) (fun k => if k = t then some (.int .i64 (i : Nat)) else natV (A2 k))) (hg : w.grownBy w' (some m2)) :
    CS W w' gw m0 m1 m2 m3 (n + 1) A0 (fun k => if k = t then some i else A2 k) L1 L3 ps gb x tag f1 f3 v := by
  have t1 := h.ws.over.step hg
  have h1 := h.ws.mono (Nat.le_succ n)
  refine ⟨⟨h1.box.keep t1 (by omega), h1.last.keep t1 (by omega), h1.spawns.keep t1 (by omega), ⟨hm.congr (fun k => ?_), h.ws.over.mark⟩, h1.frees.keep t1 (by omega), h1.out.keep t1 (by omega), h1.below.grown hg h1.below.size (fun r hr => by cases hr; exact h1.ge.2.2.2.1), h1.ge⟩, h.ev.keep t1 (by omega)⟩
  by_cases hk : k = t <;> simp [hk, natV]
theorem CS.del1 (h : CS W w gw m0 m1 m2 m3 n A0 A2 L1 L3 ps gb x tag f1 f3 v) {t : Int} (hm : GMap intKey w' m1 n (fun k => if k = t then none else f1 k)) (hg : w.grownBy w' (some m1)) :
    CS W w' gw m0 m1 m2 m3 n A0 A2 (fun k => if k = t then [] else L1 k) L3 ps gb x tag (fun k => if k = t then none else f1 k) f3 v := by
  obtain ⟨k1, t1⟩ := h.ws.spawns.del hm hg
  have h1 := h.ws
  refine ⟨⟨h1.box.keep t1 (by omega), h1.last.keep t1 (by omega), k1.congr (fun k => ?_), h1.over.keep t1 (by omega), h1.frees.keep t1 (by omega), h1.out.keep t1 (by omega), h1.below.grown hg h1.below.size (fun r hr => by cases hr; exact h1.ge.2.2.1), h1.ge⟩, h.ev.keep t1 (by omega)⟩
  by_cases hk : k = t <;> simp [hk, natI]
theorem CS.del3 (h : CS W w gw m0 m1 m2 m3 n A0 A2 L1 L3 ps gb x tag f1 f3 v) {t : Int} (hm : GMap intKey w' m3 n (fun k => if k = t then none else f3 k)) (hg : w.grownBy w' (some m3)) :
    CS W w' gw m0 m1 m2 m3 n A0 A2 L1 (fun k => if k = t then [] else L3 k) ps gb x tag f1 (fun k => if k = t then none else f3 k) v := by
  obtain ⟨k1, t1⟩ := h.ws.frees.del hm hg
  have h1 := h.ws
  refine ⟨⟨h1.box.keep t1 (by omega), h1.last.keep t1 (by omega), h1.spawns.keep t1 (by omega), h1.over.keep t1 (by omega), k1.congr (fun k => ?_), h1.out.keep t1 (by omega), h1.below.grown hg h1.below.size (fun r hr => by cases hr; exact h1.ge.2.2.2.2), h1.ge⟩, h.ev.keep t1 (by omega)⟩
  by_cases hk : k = t <;> simp [hk, natI]
theorem CS.put1 (h : CS W w gw m0 m1 m2 m3 n A0 A2 L1 L3 ps gb x tag f1 f3 v) {t : Int} {i : Nat} {u' : Value} (ho : Own (fun _ => False) w' W.heap.size 3 u' (natI (L1 t) ++ [(i : Int)])) (hg : w.grownBy w' ((f1 t).getD nilV).ownBlock) (hst : Stay w ((f1 t).getD nilV) u')
    (hm : GMap intKey w'' m1 (n + 1) (fun k => if k = t then some u' else f1 k)) (hg2 : w'.grownBy w'' (some m1)) :
    ∃ tag', CS W w'' gw m0 m1 m2 m3 (n + 1) A0 A2 (fun k => if k = t then L1 k ++ [i] else L1 k) L3 ps gb x tag' (fun k => if k = t then some u' else f1 k) f3 v := by
  obtain ⟨k1, t1⟩ := h.ws.spawns.put ho hg hst hm hg2
  have h1 := h.ws.mono (Nat.le_succ n)
  refine ⟨_, ⟨h1.box.keep t1 (by omega), h1.last.keep t1 (by omega), k1.congr (fun k => ?_), h1.over.keep t1 (by omega), h1.frees.keep t1 (by omega), h1.out.keep t1 (by omega), (h1.below.grown hg h1.below.size (fun r hr => ((h1.spawns.rows.row t).lt r hr).1)).grown hg2 (Nat.le_trans h1.below.size hg.size) (fun r hr => by cases hr; exact h1.ge.2.2.1), h1.ge⟩, h.ev.keep t1 (by omega)⟩
  by_cases hk : k = t <;> simp [hk, natI]
theorem CS.put3 (h : CS W w gw m0 m1 m2 m3 n A0 A2 L1 L3 ps gb x tag f1 f3 v) {t : Int} {i : Nat} {u' : Value} (ho : Own (fun _ => False) w' W.heap.size 3 u' (natI (L3 t) ++ [(i : Int)])) (hg : w.grownBy w' ((f3 t).getD nilV).ownBlock) (hst : Stay w ((f3 t).getD nilV) u')
    (hm : GMap intKey w'' m3 (n + 1) (fun k => if k = t then some u' else f3 k)) (hg2 : w'.grownBy w'' (some m3)) :
    ∃ tag', CS W w'' gw m0 m1 m2 m3 (n + 1) A0 A2 L1 (fun k => if k = t then L3 k ++ [i] else L3 k) ps gb x tag' f1 (fun k => if k = t then some u' else f3 k) v := by
  obtain ⟨k1, t1⟩ := h.ws.frees.put ho hg hst hm hg2
  have h1 := h.ws.mono (Nat.le_succ n)
  refine ⟨_, ⟨h1.box.keep t1 (by omega), h1.last.keep t1 (by omega), h1.spawns.keep t1 (by omega), h1.over.keep t1 (by omega), k1.congr (fun k => ?_), h1.out.keep t1 (by omega), (h1.below.grown hg h1.below.size (fun r hr => ((h1.frees.rows.row t).lt r hr).1)).grown hg2 (Nat.le_trans h1.below.size hg.size) (fun r hr => by cases hr; exact h1.ge.2.2.2.2), h1.ge⟩, h.ev.keep t1 (by omega)⟩
  by_cases hk : k = t <;> simp [hk, natI]
end
/-- Behind an event. -/
def EvPost (W : World) (gw m0 m1 m2 m3 n : Nat) (A0 A2 : Int → Option Nat) (L1 L3 : Int → List Nat) (ps : List Api.DPair) (e : Ending) (w' : World) : Prop :=
  e = .returned (.tuple #[]) ∧ ∃ tag f1 f3 v, WS W w' tag gw m0 m1 m2 m3 n A0 A2 f1 f3 L1 L3 v ps
theorem EvPost.mk {W w : World} {gw m0 m1 m2 m3 n n' : Nat} {A0 A2 A0' A2' : Int → Option Nat} {L1 L3 L1' L3' : Int → List Nat} {ps ps' : List Api.DPair} {gb : Nat} {x : Api.Event} {tag : Nat → Nat} {f1 f3 : Int → Option Value} {v : Value}
    (h : CS W w gw m0 m1 m2 m3 n A0 A2 L1 L3 ps gb x tag f1 f3 v) (hn : n ≤ n') (e0 : ∀ t, A0 t = A0' t) (e2 : ∀ t, A2 t = A2' t) (e1 : ∀ t, L1 t = L1' t) (e3 : ∀ t, L3 t = L3' t) (ep : ps = ps') :
    EvPost W gw m0 m1 m2 m3 n' A0' A2' L1' L3' ps' (.returned (.tuple #[])) w := by
  rw [← funext e0, ← funext e2, ← funext e1, ← funext e3, ← ep]
  exact ⟨rfl, tag, f1, f3, v, h.ws.mono hn⟩
theorem zero_list (w : World) : (zeroValue 28).run Try.prog w = .ok (.slice none 0 0) w := by kernel_rfl
theorem zero_int (w : World) : (zeroValue 3).run Try.prog w = .ok (.int .i64 0) w := by kernel_rfl
theorem lastT_succ {l : List Api.Event} {k : Nat} {x : Api.Event} (hx : l[k]? = some x) (t : Int) : lastT l (k + 1) t = if t = x.Thread then some k else lastT l k t := by
  unfold lastT
  rw [lastP_succ hx]
  by_cases h : t = x.Thread
  · rw [if_pos h, if_pos (decide_eq_true h.symm)]
  · rw [if_neg h, if_neg (by rw [decide_eq_true_eq]; exact fun e => h e.symm)]
theorem overT_succ {l : List Api.Event} {k : Nat} {x : Api.Event} (hx : l[k]? = some x) (t : Int) : overT l (k + 1) t = if x.Kind = 17 ∧ t = x.Thread then some k else overT l k t := by
  unfold overT
  rw [lastP_succ hx]
  by_cases h : x.Kind = 17 ∧ t = x.Thread
  · rw [if_pos h, if_pos (decide_eq_true ⟨h.1, h.2.symm⟩)]
  · rw [if_neg h, if_neg (by rw [decide_eq_true_eq]; exact fun e => h ⟨e.1, e.2.symm⟩)]
theorem spawnT_succ {l : List Api.Event} {k : Nat} {x : Api.Event} (hx : l[k]? = some x) (t : Int) : spawnT l (k + 1) t = (if t = x.Thread then [] else spawnT l k t) ++ if x.Kind = 11 ∧ t = x.A then [k] else [] := by
  unfold spawnT
  rw [since_succ hx]
  congr 1
  · by_cases h : t = x.Thread
    · rw [if_pos h, if_pos (decide_eq_true h.symm)]
    · rw [if_neg h, if_neg (by rw [decide_eq_true_eq]; exact fun e => h e.symm)]
  · by_cases h : x.Kind = 11 ∧ t = x.A
    · rw [if_pos h, if_pos (decide_eq_true ⟨h.1, h.2.symm⟩)]
    · rw [if_neg h, if_neg (by rw [decide_eq_true_eq]; exact fun e => h ⟨e.1, e.2.symm⟩)]
theorem freeT_succ {l : List Api.Event} {k : Nat} {x : Api.Event} (hx : l[k]? = some x) (t : Int) : freeT l (k + 1) t = (if x.Kind = 13 ∧ t = x.A then [] else freeT l k t) ++ if x.Kind = 14 ∧ t = x.A then [k] else [] := by
  unfold freeT
  rw [since_succ hx]
  congr 1
  · by_cases h : x.Kind = 13 ∧ t = x.A
    · rw [if_pos h, if_pos (decide_eq_true ⟨h.1, h.2.symm⟩)]
    · rw [if_neg h, if_neg (by rw [decide_eq_true_eq]; exact fun e => h ⟨e.1, e.2.symm⟩)]
  · by_cases h : x.Kind = 14 ∧ t = x.A
    · rw [if_pos h, if_pos (decide_eq_true ⟨h.1, h.2.symm⟩)]
    · rw [if_neg h, if_neg (by rw [decide_eq_true_eq]; exact fun e => h ⟨e.1, e.2.symm⟩)]
end Go.Proofs.Ytffebdngmbbcoaa.clk
